/- Pure laws of the filter: bits stay, orders do not matter. -/
import Derived.Test.YtgnicgcdhldmmaaDoorBlmF
namespace Go.Proofs.YtgnicgcdhldmmaaDoor.Blm
set_option linter.unusedVariables false
set_option linter.unusedSimpArgs false
open Go.Proofs.YtgnicgcdhldmmaaDoor.Crc Go.Proofs.YtgnicgcdhldmmaaDoor.Kit Go.RowKit
theorem orb_comm (x : Int) (a b : Nat) : orb (orb x a) b = orb (orb x b) a := by
  unfold orb
  rw [Int.toNat_natCast, Int.toNat_natCast, Nat.or_assoc, Nat.or_comm (2 ^ a), ← Nat.or_assoc]
theorem getD_set_eq {xs : List Int} {i : Nat} {v : Int} (h : i < xs.length) : (xs.set i v).getD i 0 = v := by
  rw [List.getD_eq_getElem?_getD, List.getElem?_set_self h]
  rfl
theorem getD_set_other {xs : List Int} {i j : Nat} {v : Int} (h : i ≠ j) : (xs.set i v).getD j 0 = xs.getD j 0 := by
  rw [List.getD_eq_getElem?_getD, List.getElem?_set_ne h, ← List.getD_eq_getElem?_getD]
theorem setb_comm (xs : List Int) (p q : Nat) : setb (setb xs p) q = setb (setb xs q) p := by
  unfold setb
  by_cases h : p / 8 = q / 8
  · rw [h]
    by_cases hl : q / 8 < xs.length
    · rw [getD_set_eq hl, getD_set_eq hl, List.set_set, List.set_set, orb_comm]
    · have e : ∀ v, xs.set (q / 8) v = xs := fun v => List.set_eq_of_length_le (Nat.le_of_not_lt hl)
      simp only [e]
  · rw [getD_set_other h, getD_set_other (Ne.symm h), List.set_comm _ _ h]
theorem lay_setb (l : List Int) (n : Nat) (xs : List Int) (q : Nat) : ∀ k, lay l n (setb xs q) k = setb (lay l n xs k) q
  | 0 => rfl
  | k + 1 => by rw [lay, lay, lay_setb l n xs q k, setb_comm]
theorem lay_lay (l l2 : List Int) (n : Nat) (xs : List Int) (k : Nat) : ∀ j, lay l n (lay l2 n xs j) k = lay l2 n (lay l n xs k) j
  | 0 => rfl
  | j + 1 => by rw [lay, lay, lay_setb, lay_lay l l2 n xs k j]
theorem mkF_reverse (m : Nat) (names : List ByteArray) : mkF m names.reverse = mkF m names :=
  List.Perm.foldl_eq' (List.reverse_perm names) (fun x _ y _ z => lay_lay _ _ _ _ _ _) _
theorem or_bit (x k j : Nat) : (x ||| 2 ^ k) / 2 ^ j % 2 = 1 ↔ (k = j ∨ x / 2 ^ j % 2 = 1) := by
  have e : ∀ y i : Nat, y / 2 ^ i % 2 = (y.testBit i).toNat := fun y i => (Nat.toNat_testBit y i).symm
  rw [e, e, Nat.testBit_or, Nat.testBit_two_pow]
  cases x.testBit j <;> by_cases h : k = j <;> simp [h]
theorem bitv_setb (xs : List Int) (p q : Nat) (hp : p / 8 < xs.length) : bitv (setb xs p) q = (decide (p = q) || bitv xs q) := by
  unfold bitv setb
  by_cases h : p / 8 = q / 8
  · rw [← h, getD_set_eq hp]
    unfold orb
    rw [Int.toNat_natCast]
    have := or_bit (xs.getD (p / 8) 0).toNat (p % 8) (q % 8)
    by_cases hb : (xs.getD (p / 8) 0).toNat / 2 ^ (q % 8) % 2 = 1
    · rw [decide_eq_true (this.2 (.inr hb)), decide_eq_true hb, Bool.or_true]
    · rw [decide_eq_false hb, Bool.or_false]
      by_cases hk : p % 8 = q % 8
      · rw [decide_eq_true (this.2 (.inl hk)), decide_eq_true (by omega)]
      · rw [decide_eq_false (fun hh => (this.1 hh).elim hk hb), decide_eq_false (by omega)]
  · rw [getD_set_other h, decide_eq_false (show ¬ p = q from fun e => h (by rw [e])), Bool.false_or]
theorem bitv_lay (l : List Int) (m : Nat) (xs : List Int) (hm : xs.length = m) (h0 : 0 < m) (q : Nat) : ∀ k, bitv (lay l (8 * m) xs k) q = ((List.range k).any (fun i => decide (plc l (8 * m) i = q)) || bitv xs q)
  | 0 => rfl
  | k + 1 => by
    have := plc_lt l (8 * m) k (by omega)
    rw [lay, bitv_setb _ _ _ (by rw [lay_length]; omega), bitv_lay l m xs hm h0 q k, List.range_succ, List.any_append]
    simp only [List.any_cons, List.any_nil, Bool.or_false]
    rw [← Bool.or_assoc, Bool.or_comm (decide _)]
theorem bitv_mono (m : Nat) (h0 : 0 < m) (q : Nat) : ∀ (names : List ByteArray) (xs : List Int), xs.length = m → bitv xs q = true → bitv (names.foldl (fun xs s => lay (numsOf s) (8 * m) xs 6) xs) q = true
  | [], xs, _, h => h
  | s :: r, xs, hl, h => bitv_mono m h0 q r _ (by rw [lay_length]; exact hl) (by rw [bitv_lay _ _ _ hl h0, h, Bool.or_true])
theorem mkF_keeps_aux (m : Nat) (h0 : 0 < m) (t : ByteArray) (i : Nat) (hi : i < 6) : ∀ (names : List ByteArray) (xs : List Int), xs.length = m → t ∈ names → bitv (names.foldl (fun xs s => lay (numsOf s) (8 * m) xs 6) xs) (plc (numsOf t) (8 * m) i) = true
  | [], xs, _, h => by cases h
  | s :: r, xs, hl, h => by
    rcases List.mem_cons.1 h with h2 | h2
    · subst h2
      refine bitv_mono m h0 _ r _ (by rw [lay_length]; exact hl) ?_
      rw [bitv_lay _ _ _ hl h0]
      have : (List.range 6).any (fun j => decide (plc (numsOf t) (8 * m) j = plc (numsOf t) (8 * m) i)) = true := List.any_eq_true.2 ⟨i, List.mem_range.2 hi, decide_eq_true rfl⟩
      rw [this, Bool.true_or]
    · exact mkF_keeps_aux m h0 t i hi r _ (by rw [lay_length]; exact hl) h2
/-- Each key that a filter is of may be there. -/
theorem mkF_keeps (m : Nat) (h0 : 0 < m) (names : List ByteArray) (t : ByteArray) (h : t ∈ names) : mayF (mkF m names) (numsOf t) = true := by
  unfold mayF mayK
  rw [(mkF_ok m names).1, decide_eq_true h0, Bool.true_and, List.all_eq_true]
  exact fun i hi => mkF_keeps_aux m h0 t i (List.mem_range.1 hi) names _ List.length_replicate h
end Go.Proofs.YtgnicgcdhldmmaaDoor.Blm
