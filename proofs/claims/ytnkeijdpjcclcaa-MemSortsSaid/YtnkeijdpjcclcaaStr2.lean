/- Texts as rows of numbers: one byte, a cut, the least of two; the order of texts. In regions. -/
import Derived.Test.YtnkeijdpjcclcaaWalk4
import Derived.Test.YtnkeijdpjcclcaaStr
import Derived.Lib.Strings
namespace Go.Proofs.Ytnkeijdpjcclcaa.Kit
set_option linter.unusedVariables false
set_option linter.unusedSimpArgs false
open Go.RowKit Go.Proofs.YtnkeijdpjcclcaaW.PrintWords Go.Proofs.YtnkeijdpjcclcaaW.PrintLast Go.Proofs.YtnkeijdpjcclcaaW.PrintMore
theorem numsOf_data (s : ByteArray) : numsOf s = s.data.toList.map fun b => (b.toNat : Int) := by rw [numsOf, ByteArray.toList_eq]
theorem numsOf_extract (s : ByteArray) (a b : Nat) : numsOf (s.extract a b) = ((numsOf s).drop a).take (b - a) := by
  rw [numsOf_data, numsOf_data, Lib.extract_data, List.map_take, List.map_drop]
theorem numsOf_append (s t : ByteArray) : numsOf (s ++ t) = numsOf s ++ numsOf t := by
  rw [numsOf_data, numsOf_data, numsOf_data, ByteArray.data_append, Array.toList_append, List.map_append]
theorem numsOf_inj {a b : ByteArray} (h : numsOf a = numsOf b) : a = b := by rw [← strOfNums_numsOf a, h, strOfNums_numsOf]
theorem numsOf_eq {a b : ByteArray} : a = b ↔ numsOf a = numsOf b := ⟨fun h => by rw [h], numsOf_inj⟩
theorem numsOf_empty : numsOf ⟨#[]⟩ = [] := by rw [numsOf_data]; rfl
theorem strOf_size (xs : List Int) : (strOfNums xs).size = xs.length := by simp [strOfNums, ByteArray.size]
theorem at_str (s : ByteArray) (i : Nat) (h : i < s.size) : (((s[i]'h).toNat : Nat) : Int) = (numsOf s).getD i 0 := by
  have hl : i < s.data.toList.length := by rw [Array.length_toList]; exact h
  rw [numsOf_data, List.getD_eq_getElem?_getD, List.getElem?_map, List.getElem?_eq_getElem hl]
  simp only [Option.map_some, Option.getD_some, Array.getElem_toList]
  rfl
section
variable {P : Program} {o : Oper} {l : List (Nat × Value)} {x y z : Operand} {t : TypeId} {s : ByteArray} {w : World}
theorem op_index_str {k : IntKind} {j c : Int} {i : Nat} (ho : o.op = .index t x y) (ht : P.underlying t = some .string) (hx : lk l x = .string s) (hy : lk l y = .int k j) (hj : j = (i : Int)) (hi : i < s.size) (hc : (numsOf s).getD i 0 = c) :
    (execOp (lk l) o).run P w = .ok (.value (.int .u8 c)) w := by
  subst hj hc
  unfold execOp
  have h0 : (0 : Int) ≤ (i : Int) ∧ (i : Int) < (s.size : Int) := by omega
  have h1 := at_str s i hi
  simp only [ho, hx, hy, Sem.run_bind, run_index_string w t s k (i : Int) ht, dif_pos h0, Result.andThen_ok, Sem.run_pure]
  simp only [Int.toNat_natCast]
  rw [h1]
theorem op_cut_mid {k1 k2 : IntKind} {j1 j2 : Int} {a b : Nat} {c : ByteArray} (ho : o.op = .slice t x (some y) (some z) none) (ht : P.underlying t = some .string) (hx : lk l x = .string s) (hy : lk l y = .int k1 j1) (hz : lk l z = .int k2 j2) (h1 : j1 = (a : Int)) (h2 : j2 = (b : Int)) (hab : a ≤ b) (hb : b ≤ s.size) (hc : s.extract a b = c) :
    (execOp (lk l) o).run P w = .ok (.value (.string c)) w := by
  subst h1 h2 hc
  unfold execOp
  simp only [ho, hx, hy, hz, Option.map_some, Option.map_none, Sem.run_bind, run_sliceAt_string _ _ _ _ _ _ ht, run_slice_string w t s k1 k2 (a : Int) (b : Int) ht (by omega) (by omega) (by omega), Result.andThen_ok, Sem.run_pure, Int.toNat_natCast]
theorem op_cut_from {k1 : IntKind} {j1 : Int} {a : Nat} {c : ByteArray} (ho : o.op = .slice t x (some y) none none) (ht : P.underlying t = some .string) (hx : lk l x = .string s) (hy : lk l y = .int k1 j1) (h1 : j1 = (a : Int)) (ha : a ≤ s.size) (hc : s.extract a s.size = c) :
    (execOp (lk l) o).run P w = .ok (.value (.string c)) w := by
  subst h1 hc
  unfold execOp
  simp only [ho, hx, hy, Option.map_some, Option.map_none, Sem.run_bind, run_sliceAt_string _ _ _ _ _ _ ht, run_slice_string_l w t s ht k1 (a : Int) (by omega) (by omega), Result.andThen_ok, Sem.run_pure, Int.toNat_natCast]
theorem op_cut_to {k1 : IntKind} {j1 : Int} {b : Nat} {c : ByteArray} (ho : o.op = .slice t x none (some y) none) (ht : P.underlying t = some .string) (hx : lk l x = .string s) (hy : lk l y = .int k1 j1) (h1 : j1 = (b : Int)) (hb : b ≤ s.size) (hc : s.extract 0 b = c) :
    (execOp (lk l) o).run P w = .ok (.value (.string c)) w := by
  subst h1 hc
  unfold execOp
  simp only [ho, hx, hy, Option.map_some, Option.map_none, Sem.run_bind, run_sliceAt_string _ _ _ _ _ _ ht, run_slice_string_h w t s ht k1 (b : Int) (by omega) (by omega), Result.andThen_ok, Sem.run_pure, Int.toNat_natCast]
theorem op_min2 {ts : Array TypeId} {a b c : Int} (ho : o.op = .call { callee := .builtin .min, args := #[x, y], argTypes := ts }) (hx : lk l x = .int .i64 a) (hy : lk l y = .int .i64 b) (hc : mn a b = c) :
    (execOp (lk l) o).run P w = .ok (.value (.int .i64 c)) w := by
  subst hc
  unfold execOp
  simp [ho, resolve, invoke, builtin, hx, hy, run_min2, Result.andThen]
theorem op_max2 {ts : Array TypeId} {a b c : Int} (ho : o.op = .call { callee := .builtin .max, args := #[x, y], argTypes := ts }) (hx : lk l x = .int .i64 a) (hy : lk l y = .int .i64 b) (hc : mx a b = c) :
    (execOp (lk l) o).run P w = .ok (.value (.int .i64 c)) w := by
  subst hc
  unfold execOp
  simp [ho, resolve, invoke, builtin, hx, hy, run_max2, Result.andThen]
end
/-- The order of rows of bytes. -/
def ltN : List Int → List Int → Bool
  | [], [] => false
  | [], _ :: _ => true
  | _ :: _, [] => false
  | a :: r, b :: s => if a < b then true else if a = b then ltN r s else false
theorem ltN_map : ∀ a b : List UInt8, ltN (a.map fun x => (x.toNat : Int)) (b.map fun x => (x.toNat : Int)) = Op.bytesLess a b
  | [], [] => rfl
  | [], _ :: _ => rfl
  | _ :: _, [] => rfl
  | x :: a, y :: b => by
    have ih := ltN_map a b
    simp only [List.map_cons, ltN, Op.bytesLess, ih]
    by_cases h1 : x < y
    · have h2 : (x.toNat : Int) < (y.toNat : Int) := by have := UInt8.lt_iff_toNat_lt.1 h1; omega
      simp [h1, h2]
    · have h2 : ¬ (x.toNat : Int) < (y.toNat : Int) := by
        have : ¬ x.toNat < y.toNat := fun h => h1 (UInt8.lt_iff_toNat_lt.2 h)
        omega
      by_cases h3 : x = y
      · subst h3
        simp [h1]
      · have h4 : ¬ (x.toNat : Int) = (y.toNat : Int) := fun h => h3 (UInt8.toNat_inj.1 (by omega))
        simp [h1, h2, h3, h4]
theorem less_nums (a b : ByteArray) : Op.bytesLess a.toList b.toList = ltN (numsOf a) (numsOf b) := by rw [numsOf, numsOf, ltN_map]
theorem ltN_pre (p : List Int) (a b : List Int) : ltN (p ++ a) (p ++ b) = ltN a b := by
  induction p with
  | nil => rfl
  | cons c p ih => simp [ltN, ih]
theorem ltN_self (a : List Int) : ltN a a = false := by
  induction a with
  | nil => rfl
  | cons c p ih => simp [ltN, ih]
end Go.Proofs.Ytnkeijdpjcclcaa.Kit
