/- What rows parse to: plain laws. -/
import Derived.Test.YtglkagicmolbeaaRowsG
namespace Go.Proofs.Ytglkagicmolbeaa.Rw
set_option linter.unusedVariables false
set_option linter.unusedSimpArgs false
open Go.Proofs.Ytglkagicmolbeaa.Kit Go.Proofs.Ytglkagicmolbeaa.Num Go.RowKit Go.Proofs.YtglkagicmolbeaaW.PrintWords Go.Proofs.YtglkagicmolbeaaW.PrintLast Go.Proofs.YtglkagicmolbeaaW.PrintMore NumPure
theorem be_zero (n : Nat) : be n 0 = [] := rfl
theorem be_split (n : Nat) : be n 8 = be (n / 4294967296) 4 ++ be (n % 4294967296) 4 := by
  simp only [be_succ, be_zero, List.cons_append, List.nil_append, List.cons.injEq, and_true]
  refine ⟨?_, ?_, ?_, ?_, ?_, ?_, ?_, ?_⟩ <;> omega
theorem U_nat (x : Nat) (h : x < 4294967296) : U (x : Int) = x := by unfold U; omega
theorem U_U (x : Int) : U ((U x : Nat) : Int) = U x := U_nat _ (U_lt x)
theorem F4_U (x : Int) : F4 ((U x : Nat) : Int) = F4 x := by unfold F4; rw [U_U]
def hi (c : Int) : Nat := U8 c / 4294967296
def lo (c : Int) : Nat := U8 c % 4294967296
theorem CR_eq (c : Int) (s : List Int) (h p : Int) : CR c s h p = F4 (hi c : Nat) ++ F4 (lo c : Nat) ++ strOfNums s ++ F4 h ++ F4 p := by
  unfold CR
  rw [be_split, str_append]
  unfold F4 hi lo
  have := U8_lt c
  rw [U_nat _ (by omega), U_nat _ (by omega)]
theorem SR_size {b : List Int} (hb : b.length = 32) (i h : Int) : (SR b i h).size = 40 := by unfold SR; simp only [ByteArray.size_append, strOfNums_size, hb, F4_size]
theorem PC_CR (c : Int) (hc : -9223372036854775808 ≤ c ∧ c ≤ 9223372036854775807) (s : List Int) (hs : s.length = 32) (hsb : Byte s) (h p : Int) : PC (CR c s h p) = (cn c s (U h : Nat) (U p : Nat), 0) := by
  have hz : (strOfNums (be (U8 c) 8)).size = 8 := by rw [strOfNums_size, be_length]
  have hzs : (strOfNums s).size = 32 := by rw [strOfNums_size, hs]
  have e1 : C8 (CR c s h p) = c := by
    unfold C8 CR
    rw [numsOf_append, numsOf_append, numsOf_append, numsOf_strOfNums _ (be_byte _ _), List.append_assoc, List.append_assoc, List.take_append_of_le_length (by rw [be_length]; omega), List.take_of_length_le (by rw [be_length]; omega), beVal_be _ _ (U8_lt c)]
    rw [IntKind.wrap_i64]
    unfold U8
    omega
  have e2 : HC (CR c s h p) = s := by
    unfold HC CR
    rw [numsOf_append, numsOf_append, numsOf_append, numsOf_strOfNums _ (be_byte _ _), List.append_assoc, List.append_assoc, List.drop_left' (by rw [be_length]), numsOf_strOfNums _ hsb, List.take_append_of_le_length (by omega), List.take_of_length_le (by omega)]
  have e3 : A4 (CR c s h p) 40 = U h := by
    unfold CR
    exact A4_at _ _ _ 40 h (by rw [ByteArray.size_append, hz, hzs]) rfl
  have e4 : A4 (CR c s h p) 44 = U p := by
    unfold CR
    exact A4_end _ _ 44 p (by rw [ByteArray.size_append, ByteArray.size_append, hz, hzs, F4_size]) rfl
  unfold PC
  rw [if_pos (CR_size c s hs h p), e1, e2, e3, e4]
theorem PS_SR (b : List Int) (hb : b.length = 32) (hbb : Byte b) (i h : Int) : PS (SR b i h) = (sp b (U i : Nat) (U h : Nat), 0) := by
  have hzs : (strOfNums b).size = 32 := by rw [strOfNums_size, hb]
  have e2 : H32 (SR b i h) = b := by
    unfold H32 SR
    rw [numsOf_append, numsOf_append, numsOf_strOfNums _ hbb, List.append_assoc, List.take_append_of_le_length (by omega), List.take_of_length_le (by omega)]
  have e3 : A4 (SR b i h) 32 = U i := by
    unfold SR
    exact A4_at _ _ _ 32 i hzs rfl
  have e4 : A4 (SR b i h) 36 = U h := by
    unfold SR
    exact A4_end _ _ 36 h (by rw [ByteArray.size_append, hzs, F4_size]) rfl
  unfold PS
  rw [if_pos (SR_size hb i h), e2, e3, e4]
theorem PU_UR (id : List Int) (hid : id.length = 32) (hib : Byte id) (out : Int) (ho : 0 ≤ out ∧ out < 4294967296) (c : Int) (hc : -9223372036854775808 ≤ c ∧ c ≤ 9223372036854775807) (s : List Int) (hs : s.length = 32) (hsb : Byte s) (h p : Int) :
    PU (strOfNums id ++ F4 out ++ CR c s h p) = (pt id out, cn c s (U h : Nat) (U p : Nat), 0) := by
  have hzs : (strOfNums id).size = 32 := by rw [strOfNums_size, hid]
  have hz2 : (strOfNums id ++ F4 out).size = 36 := by rw [ByteArray.size_append, hzs, F4_size]
  have hz : (strOfNums id ++ F4 out ++ CR c s h p).size = 84 := by rw [ByteArray.size_append, hz2, CR_size c s hs h p]
  have e2 : H32 (strOfNums id ++ F4 out ++ CR c s h p) = id := by
    unfold H32
    rw [numsOf_append, numsOf_append, numsOf_strOfNums _ hib, List.append_assoc, List.take_append_of_le_length (by omega), List.take_of_length_le (by omega)]
  have e3 : A4 (strOfNums id ++ F4 out ++ CR c s h p) 32 = U out := A4_at _ _ _ 32 out hzs rfl
  have e4 : (strOfNums id ++ F4 out ++ CR c s h p).extract 36 84 = CR c s h p := by
    refine numsOf_inj ?_
    rw [numsOf_extract, numsOf_append, List.drop_left' (by rw [numsOf_length, hz2])]
    exact List.take_of_length_le (by rw [numsOf_length, CR_size c s hs h p]; omega)
  have hUo : ((U out : Nat) : Int) = out := by unfold U; omega
  unfold PU
  rw [if_pos hz, hz, e2, e3, e4, PC_CR c hc s hs hsb h p, hUo]
/-- x & 0xffffffff, 64 bits -/
theorem and32u (n : Nat) (h : n < 18446744073709551616) : Go.bits .and .u64 (n : Int) 4294967295 = ((n % 4294967296 : Nat) : Int) := by
  have h1 := u64_and_nat n 4294967295 h (by omega)
  rw [show ((4294967295 : Nat) : Int) = 4294967295 from rfl] at h1
  rw [h1, show (4294967295 : Nat) = 2 ^ 32 - 1 from rfl, Nat.and_two_pow_sub_one_eq_mod]
end Go.Proofs.Ytglkagicmolbeaa.Rw
