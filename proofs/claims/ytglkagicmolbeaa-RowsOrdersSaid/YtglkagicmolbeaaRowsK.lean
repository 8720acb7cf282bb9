/- What each parse tells, in parts: plain laws for the law RowsReads. -/
import Derived.Test.YtglkagicmolbeaaRowsJ
namespace Go.Proofs.Ytglkagicmolbeaa.Rw
set_option linter.unusedVariables false
set_option linter.unusedSimpArgs false
open Go.Proofs.Ytglkagicmolbeaa.Kit Go.Proofs.Ytglkagicmolbeaa.Num Go.RowKit Go.Proofs.YtglkagicmolbeaaW.PrintWords Go.Proofs.YtglkagicmolbeaaW.PrintLast Go.Proofs.YtglkagicmolbeaaW.PrintMore NumPure
/-- An error that tells whether a test held. -/
def Errs (k : Nat) (is : Bool) : Prop := (is = true ∧ k = 0) ∨ (is = false ∧ k = 12)
theorem errs_ok {k : Nat} {is : Bool} (h : Errs k is) : OK (k : Int) is = true := by
  rcases h with ⟨rfl, rfl⟩ | ⟨rfl, rfl⟩ <;> rfl
/-- Where the error is none, the text is the same again: as the law asks it. -/
theorem errs_same {k : Nat} {x s : ByteArray} (h : k = 0 → x = s) : ((((k : Nat) : Int) == 0) && !decide (x = s)) = false := by
  by_cases hk : k = 0
  · rw [h hk]; simp
  · have : (((k : Nat) : Int) == 0) = false := by simp only [beq_eq_false_iff_ne]; omega
    rw [this, Bool.false_and]
theorem PN_parts (s : ByteArray) : Errs (PN s).2 (decide (s.size = 4)) ∧ ((PN s).2 = 0 → F4 (((PN s).1 : Nat) : Int) = s) := by
  unfold PN
  by_cases h : s.size = 4
  · rw [if_pos h]; exact ⟨.inl ⟨decide_eq_true h, rfl⟩, fun _ => re_N s h⟩
  · rw [if_neg h]; exact ⟨.inr ⟨decide_eq_false h, rfl⟩, fun h2 => by cases h2⟩
theorem HC_length (s : ByteArray) (h : 40 ≤ s.size) : (HC s).length = 32 := by unfold HC; rw [List.length_take, List.length_drop, numsOf_length]; omega
theorem H32_length (s : ByteArray) (h : 32 ≤ s.size) : (H32 s).length = 32 := by unfold H32; rw [List.length_take, numsOf_length]; omega
theorem PC_parts (s : ByteArray) : ∃ (c : Int) (sc : List Int) (h p : Int) (k : Nat), PC s = (cn c sc h p, k) ∧ sc.length = 32 ∧ Errs k (decide (s.size = 48)) ∧ (k = 0 → CR c sc h p = s) := by
  unfold PC
  by_cases h : s.size = 48
  · rw [if_pos h]; exact ⟨_, _, _, _, _, rfl, HC_length s (by omega), .inl ⟨decide_eq_true h, rfl⟩, fun _ => re_C s h⟩
  · rw [if_neg h]; exact ⟨_, _, _, _, _, rfl, rfl, .inr ⟨decide_eq_false h, rfl⟩, fun h2 => by cases h2⟩
theorem PS_parts (s : ByteArray) : ∃ (b : List Int) (i h : Int) (k : Nat), PS s = (sp b i h, k) ∧ b.length = 32 ∧ Errs k (decide (s.size = 40)) ∧ (k = 0 → SR b i h = s) := by
  unfold PS
  by_cases h : s.size = 40
  · rw [if_pos h]; exact ⟨_, _, _, _, rfl, H32_length s (by omega), .inl ⟨decide_eq_true h, rfl⟩, fun _ => re_S s h⟩
  · rw [if_neg h]; exact ⟨_, _, _, _, rfl, rfl, .inr ⟨decide_eq_false h, rfl⟩, fun h2 => by cases h2⟩
theorem PU_parts (s : ByteArray) : ∃ (id : List Int) (out : Int) (c : Int) (sc : List Int) (h p : Int) (k : Nat), PU s = (pt id out, cn c sc h p, k) ∧ id.length = 32 ∧ (0 ≤ out ∧ out < 4294967296) ∧ sc.length = 32 ∧ Errs k (decide (s.size = 84)) ∧ (k = 0 → strOfNums id ++ F4 out ++ CR c sc h p = s) := by
  unfold PU
  by_cases h : s.size = 84
  · rw [if_pos h]
    have hT : (s.extract 36 s.size).size = 48 := by rw [← numsOf_length, numsOf_extract, List.length_take, List.length_drop, numsOf_length]; omega
    have e : PC (s.extract 36 s.size) = (cn (C8 (s.extract 36 s.size)) (HC (s.extract 36 s.size)) (A4 (s.extract 36 s.size) 40) (A4 (s.extract 36 s.size) 44), 0) := by unfold PC; rw [if_pos hT]
    rw [e]
    have h4 := A4_lt s 32 (by omega)
    refine ⟨_, _, _, _, _, _, _, rfl, H32_length s (by omega), ⟨by omega, by omega⟩, HC_length _ (by omega), .inl ⟨decide_eq_true h, rfl⟩, fun _ => ?_⟩
    rw [re_C _ hT, str_H32 s (by omega), F4_A4 s 32 (by omega), ext_cat s 0 32 36 (by omega) (by omega) (by omega), ext_cat s 0 36 s.size (by omega) (by omega) (by omega), ext_all]
  · rw [if_neg h]; exact ⟨_, _, _, _, _, _, _, rfl, rfl, ⟨by omega, by omega⟩, rfl, .inr ⟨decide_eq_false h, rfl⟩, fun h2 => by cases h2⟩
theorem PH_parts (s : ByteArray) : (PH s).1.length = 32 ∧ Errs (PH s).2 (decide (s.size = 32)) ∧ ((PH s).2 = 0 → strOfNums (PH s).1 = s) := by
  unfold PH
  by_cases h : s.size = 32
  · rw [if_pos h]
    refine ⟨H32_length s (by omega), .inl ⟨decide_eq_true h, rfl⟩, fun _ => ?_⟩
    show strOfNums (H32 s) = s
    rw [str_H32 s (by omega), ← h, ext_all]
  · rw [if_neg h]; exact ⟨rfl, .inr ⟨decide_eq_false h, rfl⟩, fun h2 => by cases h2⟩
/-- Two numbers at the end of a key of a history. -/
theorem place_parts (s : ByteArray) : (s.size = 41 → F4 ((A4 s 33 : Nat) : Int) ++ F4 ((A4 s 37 : Nat) : Int) = s.extract 33 s.size) := fun h => by
  rw [F4_A4 s 33 (by omega), F4_A4 s 37 (by omega), ext_cat s 33 37 41 (by omega) (by omega) (by omega), h]
theorem TX_parts (s : ByteArray) : Errs (TX s).2.2.2 (decide (8 ≤ s.size)) ∧ ((TX s).2.2.2 = 0 → F4 (((TX s).1 : Nat) : Int) ++ F4 (((TX s).2.1 : Nat) : Int) ++ strOfNums (TX s).2.2.1 = s) := by
  unfold TX
  by_cases h : 8 ≤ s.size
  · rw [if_pos h]
    refine ⟨.inl ⟨decide_eq_true h, rfl⟩, fun _ => ?_⟩
    have e : strOfNums ((numsOf s).drop 8) = s.extract 8 s.size := by
      have := str_cut s 8 (s.size - 8) (by omega)
      rw [List.take_of_length_le (by rw [List.length_drop, numsOf_length]; omega)] at this
      rw [this, show 8 + (s.size - 8) = s.size by omega]
    show F4 ((A4 s 0 : Nat) : Int) ++ F4 ((A4 s 4 : Nat) : Int) ++ strOfNums ((numsOf s).drop 8) = s
    rw [e, F4_A4 s 0 (by omega), F4_A4 s 4 (by omega), ext_cat s (0 + 0) 4 8 (by omega) (by omega) (by omega), ext_cat s 0 8 s.size (by omega) (by omega) (by omega), ext_all]
  · rw [if_neg h]; exact ⟨.inr ⟨decide_eq_false h, rfl⟩, fun h2 => by cases h2⟩
theorem PP_parts (s : ByteArray) (f : Int) : ∃ (id : List Int) (out : Int) (k : Nat), PP s f = (pt id out, k) ∧ id.length = 32 ∧ (0 ≤ out ∧ out < 4294967296) ∧ Errs k (decide (0 ≤ f ∧ (s.size : Int) - f = 36)) ∧ (k = 0 → 0 ≤ f ∧ f.toNat + 36 = s.size ∧ strOfNums id ++ F4 out = s.extract f.toNat s.size) := by
  unfold PP
  by_cases h : 0 ≤ f ∧ (s.size : Int) - f = 36
  · rw [if_pos h]
    have h4 := A4_lt s (f.toNat + 32) (by omega)
    refine ⟨_, _, _, rfl, by rw [List.length_take, List.length_drop, numsOf_length]; omega, ⟨by omega, by omega⟩, .inl ⟨decide_eq_true h, rfl⟩, fun _ => ⟨h.1, by omega, ?_⟩⟩
    rw [str_cut s f.toNat 32 (by omega), F4_A4 s (f.toNat + 32) (by omega), ext_cat s f.toNat (f.toNat + 32) (f.toNat + 32 + 4) (by omega) (by omega) (by omega), show f.toNat + 32 + 4 = s.size by omega]
  · rw [if_neg h]; exact ⟨_, _, _, rfl, rfl, ⟨by omega, by omega⟩, .inr ⟨decide_eq_false h, rfl⟩, fun h2 => by cases h2⟩
end Go.Proofs.Ytglkagicmolbeaa.Rw
