/- Structs of package rows compared; what keys begin with: plain laws. -/
import Derived.Test.YtglkagicmolbeaaRowsE
import Derived.Test.YtglkagicmolbeaaRowsKeys
import Derived.Test.YtglkagicmolbeaaWEqStruct
namespace Go.Proofs.Ytglkagicmolbeaa.Rw
set_option linter.unusedVariables false
set_option linter.unusedSimpArgs false
open Go.Proofs.Ytglkagicmolbeaa.Kit Go.Proofs.Ytglkagicmolbeaa.Num Go.RowKit Go.Proofs.YtglkagicmolbeaaW.PrintWords Go.Proofs.YtglkagicmolbeaaW.PrintLast Go.Proofs.YtglkagicmolbeaaW.PrintMore NumPure
theorem part_agg {P : Program} {t : TypeId} {d : TypeDesc} {n : Nat} (hu : P.underlying t = some d) (hd : d.isRow = true) (hi : (P.info? t).map (·.size) = some n) (cs : Array Value) (off : Nat) (ds : List Value) (hc : (cs.toList.drop off).take n = ds) (w : World) : (part t cs off).run P w = .ok (.agg ds.toArray) w := by
  have hagg : (isAgg t).run P w = .ok true w := by
    unfold isAgg
    rw [Sem.run_bind, run_underlying hu w]
    cases d <;> simp_all
  cases hq : P.info? t with
  | none => simp [hq] at hi
  | some i =>
    have hs : i.size = n := by simpa [hq] using hi
    have he : cs.extract off (off + n) = ds.toArray := by
      apply Array.ext'
      rw [Array.toList_extract, ← hc, List.extract_eq_take_drop]
      simp
    simp [part, Sem.run_bind, hagg, sizeOf, typeInfo, hq, hs, he]
theorem part_one {P : Program} {t : TypeId} {d : TypeDesc} (hu : P.underlying t = some d) (hd : oneB d = true) (cs : Array Value) (off : Nat) (v : Value) (hc : cs[off]? = some v) (w : World) : (part t cs off).run P w = .ok v w := by
  have hagg : (isAgg t).run P w = .ok false w := by
    unfold isAgg
    rw [Sem.run_bind, run_underlying hu w]
    cases d <;> simp_all [oneB]
  simp [part, Sem.run_bind, hagg, hc]
theorem hash_equalIn (d : Nat) (a b : List Int) (ha : a.length = 32) (hb : b.length = 32) (w : World) : (Op.equalIn (d + 1 + 1) 32 (.agg (nums .u8 a).toArray) (.agg (nums .u8 b).toArray)).run Try.prog w = .ok (decide (a = b)) w :=
  equalIn_ints Try.underlying32 Try.underlying5 (by kernel_rfl) (by kernel_rfl) d a b ha hb w
theorem size32 : (Try.prog.info? 32).map (·.size) = some 32 := by kernel_rfl
theorem pt_equalIn (d : Nat) (a b : List Int) (x y : Int) (ha : a.length = 32) (hb : b.length = 32) (w : World) : (Op.equalIn (d + 1 + 1 + 1) 39 (.agg (pt a x).toArray) (.agg (pt b y).toArray)).run Try.prog w = .ok (decide (a = b) && (x == y)) w := by
  refine eqA_of Try.underlying39 (by kernel_rfl) (eqf_cons rfl (part_agg Try.underlying32 rfl size32 _ 0 (nums .u8 a) ?_ w) (part_agg Try.underlying32 rfl size32 _ 0 (nums .u8 b) ?_ w) (hash_equalIn d a b ha hb w)
    (eqf_last rfl (part_one Try.underlying37 rfl _ 32 (.int .u32 x) (pt_at ha) w) (part_one Try.underlying37 rfl _ 32 (.int .u32 y) (pt_at hb) w) (run_equalIn_int w (d + 1) 37 .u32 .u32 x y Try.underlying37)))
  · simp [pt, nums, ← ha]
  · simp [pt, nums, ← hb]
theorem cn_equalIn (d : Nat) (a b : List Int) (c1 c2 h1 h2 p1 p2 : Int) (ha : a.length = 32) (hb : b.length = 32) (w : World) : (Op.equalIn (d + 1 + 1 + 1) 56 (.agg (cn c1 a h1 p1).toArray) (.agg (cn c2 b h2 p2).toArray)).run Try.prog w = .ok ((c1 == c2) && (decide (a = b) && ((h1 == h2) && (p1 == p2)))) w := by
  refine eqA_of Try.underlying56 (by kernel_rfl) (eqf_cons rfl (part_one Try.underlying2 rfl _ 0 (.int .i64 c1) cn_at0 w) (part_one Try.underlying2 rfl _ 0 (.int .i64 c2) cn_at0 w) (run_equalIn_int w (d + 1) 2 .i64 .i64 c1 c2 Try.underlying2)
    (eqf_cons rfl (part_agg Try.underlying32 rfl size32 _ 1 (nums .u8 a) ?_ w) (part_agg Try.underlying32 rfl size32 _ 1 (nums .u8 b) ?_ w) (hash_equalIn d a b ha hb w)
      (eqf_cons rfl (part_one Try.underlying3 rfl _ 33 (.int .i64 h1) (cn_at33 ha) w) (part_one Try.underlying3 rfl _ 33 (.int .i64 h2) (cn_at33 hb) w) (run_equalIn_int w (d + 1) 3 .i64 .i64 h1 h2 Try.underlying3)
        (eqf_last rfl (part_one Try.underlying3 rfl _ 34 (.int .i64 p1) (cn_at34 ha) w) (part_one Try.underlying3 rfl _ 34 (.int .i64 p2) (cn_at34 hb) w) (run_equalIn_int w (d + 1) 3 .i64 .i64 p1 p2 Try.underlying3)))))
  · simp [cn, nums, ← ha]
  · simp [cn, nums, ← hb]
theorem sp_equalIn (d : Nat) (a b : List Int) (i1 i2 h1 h2 : Int) (ha : a.length = 32) (hb : b.length = 32) (w : World) : (Op.equalIn (d + 1 + 1 + 1) 58 (.agg (sp a i1 h1).toArray) (.agg (sp b i2 h2).toArray)).run Try.prog w = .ok (decide (a = b) && ((i1 == i2) && (h1 == h2))) w := by
  refine eqA_of Try.underlying58 (by kernel_rfl) (eqf_cons rfl (part_agg Try.underlying32 rfl size32 _ 0 (nums .u8 a) ?_ w) (part_agg Try.underlying32 rfl size32 _ 0 (nums .u8 b) ?_ w) (hash_equalIn d a b ha hb w)
    (eqf_cons rfl (part_one Try.underlying3 rfl _ 32 (.int .i64 i1) (sp_at32 ha) w) (part_one Try.underlying3 rfl _ 32 (.int .i64 i2) (sp_at32 hb) w) (run_equalIn_int w (d + 1) 3 .i64 .i64 i1 i2 Try.underlying3)
      (eqf_last rfl (part_one Try.underlying3 rfl _ 33 (.int .i64 h1) (sp_at33 ha) w) (part_one Try.underlying3 rfl _ 33 (.int .i64 h2) (sp_at33 hb) w) (run_equalIn_int w (d + 1) 3 .i64 .i64 h1 h2 Try.underlying3))))
  · simp [sp, nums, ← ha]
  · simp [sp, nums, ← hb]
/-- x & 0xffffffff -/
theorem and32 (x : Int) : Go.bits .and .i64 x 4294967295 = ((U x : Nat) : Int) := by
  have h1 : (BitVec.ofInt 64 (4294967295 : Int)).toNat = 2 ^ 32 - 1 := by decide
  show IntKind.i64.wrap ((BitVec.ofInt 64 x &&& BitVec.ofInt 64 4294967295).toNat : Int) = _
  rw [BitVec.toNat_and, h1, Nat.and_two_pow_sub_one_eq_mod, BitVec.toNat_ofInt, IntKind.wrap_i64]
  unfold U
  have h2 : ((2 ^ 64 : Nat) : Int) = 18446744073709551616 := by decide
  have h3 : (2 : Nat) ^ 32 = 4294967296 := by decide
  rw [h2, h3]
  omega
theorem BG_app (s t : ByteArray) : BG (s ++ t) s = true := by
  unfold BG
  have h1 : decide (s.size ≤ (s ++ t).size) = true := decide_eq_true (by rw [ByteArray.size_append]; omega)
  have h2 : (s ++ t).extract 0 s.size = s := by
    rw [numsOf_eq, numsOf_extract, numsOf_append, List.drop_zero, Nat.sub_zero, ← numsOf_length, List.take_left]
  rw [h1, h2]
  simp
theorem BG_ne (c s t r : ByteArray) (hz : s.size = t.size) (hne : s ≠ t) : BG (c ++ s ++ r) (c ++ t) = false := by
  unfold BG
  have h2 : ¬ (c ++ s ++ r).extract 0 (c ++ t).size = c ++ t := by
    intro h
    apply hne
    have e := numsOf_eq.1 h
    rw [numsOf_extract, List.drop_zero, Nat.sub_zero, numsOf_append] at e
    have hl : (c ++ t).size = (numsOf (c ++ s)).length := by rw [numsOf_length, ByteArray.size_append, ByteArray.size_append, hz]
    rw [hl, List.take_left, numsOf_append, numsOf_append] at e
    exact numsOf_inj (List.append_cancel_left e)
  rw [decide_eq_false h2, Bool.and_false]
theorem A4_at (p q r : ByteArray) (n : Nat) (x : Int) (hp : p.size = n) (hq : q = F4 x) : A4 (p ++ q ++ r) n = U x := by
  unfold A4
  subst hq
  rw [numsOf_append, numsOf_append, ← hp, ← numsOf_length, List.append_assoc, List.drop_left]
  unfold F4
  rw [numsOf_strOfNums _ (be_byte _ _), List.take_append_of_le_length (by rw [be_length]; omega), List.take_of_length_le (by rw [be_length]; omega), beVal_be _ _ (U_lt x)]
theorem A4_end (p q : ByteArray) (n : Nat) (x : Int) (hp : p.size = n) (hq : q = F4 x) : A4 (p ++ q) n = U x := by
  have := A4_at p q ⟨#[]⟩ n x hp hq
  rwa [show p ++ q ++ (⟨#[]⟩ : ByteArray) = p ++ q from numsOf_inj (by rw [numsOf_append, numsOf_empty, List.append_nil])] at this
end Go.Proofs.Ytglkagicmolbeaa.Rw
