/- Plain laws of lists of bits: what the reference's loops do to the register. -/
import Derived.Test.YtgnicgcdhldmmaaDoorCrcRef
namespace Go.Proofs.YtgnicgcdhldmmaaDoor.Crc
set_option linter.unusedVariables false
open Go.Proofs.YtgnicgcdhldmmaaDoor.Kit Go.RowKit Go.Proofs.YtgnicgcdhldmmaaDoorW.PrintWords Go.Proofs.YtgnicgcdhldmmaaDoorW.PrintLast Go.Proofs.YtgnicgcdhldmmaaDoorW.PrintMore

theorem bitl_ext {xs : List Int} {Y : Nat} (hl : xs.length = 32) (h : ∀ i, i < 32 → xs.getD i 0 = ((Y / 2 ^ i % 2 : Nat) : Int)) : xs = bitl Y 32 := by
  apply List.ext_getElem
  · rw [hl, bitl_length]
  · intro i h1 h2
    have := h i (by omega)
    rw [List.getD_eq_getElem?_getD, List.getElem?_eq_getElem h1] at this
    simp only [Option.getD_some] at this
    rw [this]
    simp [bitl]
theorem bit_toNat (X i : Nat) : X / 2 ^ i % 2 = (X.testBit i).toNat := (Nat.toNat_testBit X i).symm
theorem full_bit : ∀ i, i < 32 → full / 2 ^ i % 2 = 1 := by decide
theorem ones_bitl : List.replicate 32 (1 : Int) = bitl full 32 := by
  refine bitl_ext (by simp) fun i hi => ?_
  rw [full_bit i hi, List.getD_eq_getElem?_getD, List.getElem?_replicate]
  simp [hi]
theorem bitl_set {X Y : Nat} {j : Nat} {v : Int} (hj : j < 32) (hv : v = ((Y / 2 ^ j % 2 : Nat) : Int)) (h : ∀ i, i ≠ j → X / 2 ^ i % 2 = Y / 2 ^ i % 2) : (bitl X 32).set j v = bitl Y 32 := by
  refine bitl_ext (by simp [bitl_length]) fun i hi => ?_
  rw [List.getD_eq_getElem?_getD, List.getElem?_set]
  by_cases hij : j = i
  · subst hij
    rw [bitl_length, if_pos rfl, if_pos hj]
    exact hv
  · rw [if_neg hij, ← List.getD_eq_getElem?_getD, bitl_at X i hi, h i (fun e => hij e.symm)]
theorem bit_xor (X Y i : Nat) : (X ^^^ Y) / 2 ^ i % 2 = (X / 2 ^ i % 2 + Y / 2 ^ i % 2) % 2 := by
  rw [bit_toNat, bit_toNat, bit_toNat, Nat.testBit_xor]
  cases X.testBit i <;> cases Y.testBit i <;> rfl
theorem bit_mod (c j i : Nat) : c % 2 ^ j / 2 ^ i % 2 = if i < j then c / 2 ^ i % 2 else 0 := by
  rw [bit_toNat, bit_toNat, Nat.testBit_mod_two_pow]
  by_cases h : i < j <;> simp [h]
/-- A bit of a byte is laid over a bit of the register. -/
theorem lay_bit (R c j : Nat) (hj : j < 32) (b : Nat) (hb : b = (R ^^^ (c % 2 ^ j)) / 2 ^ j % 2) (v : Int) (hv : v = ((b : Int) + ((c / 2 ^ j : Nat) : Int)) % 2) :
    (bitl (R ^^^ (c % 2 ^ j)) 32).set j v = bitl (R ^^^ (c % 2 ^ (j + 1))) 32 := by
  refine bitl_set hj ?_ fun i hi => ?_
  · rw [bit_xor, bit_mod, if_pos (by omega)]
    rw [bit_xor, bit_mod, if_neg (by omega)] at hb
    rw [hv, hb]
    omega
  · rw [bit_xor, bit_xor, bit_mod, bit_mod]
    by_cases h : i < j
    · rw [if_pos h, if_pos (by omega)]
    · rw [if_neg h, if_neg (by omega)]
theorem lay_zero (R c : Nat) : R ^^^ (c % 2 ^ 0) = R := by simp [Nat.mod_one]
theorem lay_all (R c : Nat) (h : c < 256) : R ^^^ (c % 2 ^ 8) = R ^^^ c := by rw [Nat.mod_eq_of_lt h]
theorem down_bitl {X : Nat} (h : X < 4294967296) : ([] ++ (bitl X 32).drop 1) ++ [0] = bitl (X / 2) 32 := by
  refine bitl_ext (by simp [bitl_length]) fun i hi => ?_
  rw [List.nil_append, List.getD_eq_getElem?_getD, List.getElem?_append]
  rw [show X / 2 / 2 ^ i % 2 = X / 2 ^ (i + 1) % 2 by rw [Nat.pow_succ, Nat.mul_comm, Nat.div_div_eq_div_mul]]
  by_cases h31 : i < 31
  · rw [if_pos (by simp [bitl_length]; omega), List.getElem?_drop, ← List.getD_eq_getElem?_getD, Nat.add_comm 1 i, bitl_at X (i + 1) (by omega)]
  · obtain rfl : i = 31 := by omega
    rw [if_neg (by simp [bitl_length])]
    simp [bitl_length]
    omega
theorem st_bit (X i : Nat) : CrcPure.st X / 2 ^ i % 2 = (X / 2 / 2 ^ i % 2 + X % 2 * (CrcPure.P / 2 ^ i % 2)) % 2 := by
  unfold CrcPure.st
  rw [bit_xor, Nat.shiftRight_eq_div_pow]
  have h0 : X % 2 = (X.testBit 0).toNat := by rw [Nat.toNat_testBit]; simp
  rw [h0]
  cases X.testBit 0
  · simp
  · simp
/-- next, its first k bits done -/
def mixed (X k : Nat) : List Int := (List.range 32).map fun i => if i < k then ((CrcPure.st X / 2 ^ i % 2 : Nat) : Int) else ((X / 2 / 2 ^ i % 2 : Nat) : Int)
theorem mixed_length (X k : Nat) : (mixed X k).length = 32 := by simp [mixed]
theorem mixed_at (X k i : Nat) (hi : i < 32) : (mixed X k).getD i 0 = if i < k then ((CrcPure.st X / 2 ^ i % 2 : Nat) : Int) else ((X / 2 / 2 ^ i % 2 : Nat) : Int) := by
  rw [List.getD_eq_getElem?_getD, List.getElem?_eq_getElem (by rw [mixed_length]; exact hi)]
  simp [mixed]
theorem mixed_zero (X : Nat) : mixed X 0 = bitl (X / 2) 32 := bitl_ext (mixed_length X 0) fun i hi => by rw [mixed_at X 0 i hi, if_neg (by omega)]
theorem mixed_all (X : Nat) : mixed X 32 = bitl (CrcPure.st X) 32 := bitl_ext (mixed_length X 32) fun i hi => by rw [mixed_at X 32 i hi, if_pos hi]
theorem mixed_set (X k : Nat) (hk : k < 32) (v : Int) (hv : v = (((X / 2 / 2 ^ k % 2 : Nat) : Int) + ((X % 2 : Nat) : Int) * ((CrcPure.P / 2 ^ k % 2 : Nat) : Int)) % 2) : (mixed X k).set k v = mixed X (k + 1) := by
  apply List.ext_getElem
  · simp [mixed_length]
  · intro i h1 h2
    rw [mixed_length] at h2
    have e : ∀ (l : List Int) (h : i < l.length), l[i] = l.getD i 0 := fun l h => by rw [List.getD_eq_getElem?_getD, List.getElem?_eq_getElem h]; rfl
    rw [List.getElem_set, e _ (by rw [mixed_length]; exact h2), e _ (by rw [mixed_length]; exact h2), mixed_at X (k + 1) i h2]
    by_cases hik : k = i
    · subst hik
      rw [if_pos rfl, if_pos (by omega), hv, st_bit]
      omega
    · rw [if_neg hik, mixed_at X k i h2]
      by_cases h : i < k
      · rw [if_pos h, if_pos (by omega)]
      · rw [if_neg h, if_neg (by omega)]
theorem inv_bit {X : Nat} (h : X < 4294967296) (k : Nat) (hk : k < 32) : inv X / 2 ^ k % 2 = 1 - X / 2 ^ k % 2 := by
  rw [inv_eq, bit_xor, full_bit k hk]
  omega
end Go.Proofs.YtgnicgcdhldmmaaDoor.Crc
