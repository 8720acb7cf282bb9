/- The order of entries: plain laws. -/
import Derived.Test.YtgnicgcdhldmmaaKeyA
namespace Go.Proofs.Ytgnicgcdhldmmaa.Key
set_option linter.unusedVariables false
set_option linter.unusedSimpArgs false
open Go.Proofs.Ytgnicgcdhldmmaa.Kit Go.RowKit
open Lib (compareBytes)
theorem cb_anti : ∀ a b : List UInt8, compareBytes a b = - compareBytes b a
  | [], [] => rfl
  | [], _ :: _ => rfl
  | _ :: _, [] => rfl
  | x :: a, y :: b => by
    have ih := cb_anti a b
    simp only [compareBytes]
    by_cases h1 : x < y
    · have h2 : ¬ y < x := UInt8.lt_asymm h1
      simp [h1, h2]
    · by_cases h2 : y < x
      · simp [h1, h2]
      · simp only [h1, h2, if_false]
        exact ih
theorem cb_zero : ∀ a b : List UInt8, compareBytes a b = 0 ↔ a = b
  | [], [] => by simp [compareBytes]
  | [], _ :: _ => by simp [compareBytes]
  | _ :: _, [] => by simp [compareBytes]
  | x :: a, y :: b => by
    have ih := cb_zero a b
    simp only [compareBytes]
    by_cases h1 : x < y
    · have hne : x ≠ y := UInt8.ne_of_lt h1
      simp [h1, hne]
    · by_cases h2 : y < x
      · have hne : x ≠ y := fun e => by subst e; exact UInt8.lt_irrefl _ h2
        simp [h1, h2, hne]
      · have he : x = y := UInt8.le_antisymm (UInt8.not_lt.1 h2) (UInt8.not_lt.1 h1)
        subst he
        simp only [h1, if_false]
        rw [ih]
        simp
theorem cb_val : ∀ a b : List UInt8, compareBytes a b = -1 ∨ compareBytes a b = 0 ∨ compareBytes a b = 1
  | [], [] => by simp [compareBytes]
  | [], _ :: _ => by simp [compareBytes]
  | _ :: _, [] => by simp [compareBytes]
  | x :: a, y :: b => by
    have ih := cb_val a b
    simp only [compareBytes]
    by_cases h1 : x < y
    · simp [h1]
    · by_cases h2 : y < x
      · simp [h1, h2]
      · simp only [h1, h2, if_false]
        exact ih
theorem cb_trans : ∀ a b c : List UInt8, compareBytes a b = -1 → compareBytes b c = -1 → compareBytes a c = -1
  | [], [], _, h, _ => by simp [compareBytes] at h
  | [], _ :: _, [], _, h => by simp [compareBytes] at h
  | [], _ :: _, _ :: _, _, _ => rfl
  | _ :: _, [], _, h, _ => by simp [compareBytes] at h
  | _ :: _, _ :: _, [], _, h => by simp [compareBytes] at h
  | x :: a, y :: b, z :: c, h1, h2 => by
    have ih := cb_trans a b c
    simp only [compareBytes] at h1 h2 ⊢
    by_cases g1 : x < y
    · by_cases g2 : y < z
      · rw [if_pos (UInt8.lt_trans g1 g2)]
      · rw [if_neg g2] at h2
        by_cases g3 : z < y
        · rw [if_pos g3] at h2; simp at h2
        · have he : y = z := UInt8.le_antisymm (UInt8.not_lt.1 g3) (UInt8.not_lt.1 g2)
          subst he
          rw [if_pos g1]
    · rw [if_neg g1] at h1
      by_cases g3 : y < x
      · rw [if_pos g3] at h1; simp at h1
      · rw [if_neg g3] at h1
        have he : x = y := UInt8.le_antisymm (UInt8.not_lt.1 g3) (UInt8.not_lt.1 g1)
        subst he
        by_cases g2 : x < z
        · rw [if_pos g2]
        · rw [if_neg g2] at h2 ⊢
          by_cases g4 : z < x
          · rw [if_pos g4] at h2; simp at h2
          · rw [if_neg g4] at h2 ⊢
            exact ih h1 h2
theorem cb_less : ∀ a b : List UInt8, Op.bytesLess a b = decide (compareBytes a b < 0)
  | [], [] => by simp [Op.bytesLess, compareBytes]
  | [], _ :: _ => by simp [Op.bytesLess, compareBytes]
  | _ :: _, [] => by simp [Op.bytesLess, compareBytes]
  | x :: a, y :: b => by
    have ih := cb_less a b
    simp only [Op.bytesLess, compareBytes]
    by_cases g1 : x < y
    · simp [g1]
    · by_cases g3 : y < x
      · have hne : x ≠ y := fun e => by subst e; exact UInt8.lt_irrefl _ g3
        simp [g1, g3, hne]
      · have he : x = y := UInt8.le_antisymm (UInt8.not_lt.1 g3) (UInt8.not_lt.1 g1)
        subst he
        simp only [g1, if_false, ih]
        simp
theorem ba_ext {a b : ByteArray} (h : a.data.toList = b.data.toList) : a = b := ByteArray.ext (Array.toList_inj.1 h)
theorem CB_zero (a b : ByteArray) : CB a b = 0 ↔ a = b := by
  unfold CB
  rw [cb_zero]
  exact ⟨ba_ext, fun h => by rw [h]⟩
theorem Ent.cmp_anti (x y : Ent) : y.cmp x = - x.cmp y := by
  have h := cb_anti x.key.data.toList y.key.data.toList
  unfold Ent.cmp CB
  rw [h]
  generalize compareBytes y.key.data.toList x.key.data.toList = q
  by_cases h0 : q = 0
  · subst h0
    simp only [Int.neg_zero, ne_eq, not_true, if_false]
    by_cases g1 : x.seq < y.seq
    · rw [if_pos g1, if_neg (by omega), if_pos g1]
    · by_cases g2 : y.seq < x.seq
      · rw [if_neg g1, if_pos g2, if_pos g2]; rfl
      · rw [if_neg g1, if_neg g2, if_neg g2, if_neg g1]; rfl
  · rw [if_pos h0, if_pos (by omega)]; omega
theorem Ent.cmp_zero (x y : Ent) : x.cmp y = 0 ↔ x.key = y.key ∧ x.seq = y.seq := by
  have h := CB_zero x.key y.key
  unfold Ent.cmp
  by_cases h0 : CB x.key y.key = 0
  · rw [if_neg (by simpa using h0)]
    by_cases g1 : y.seq < x.seq
    · rw [if_pos g1]
      exact ⟨fun e => absurd e (by decide), fun e => by omega⟩
    · by_cases g2 : x.seq < y.seq
      · rw [if_neg g1, if_pos g2]
        exact ⟨fun e => absurd e (by decide), fun e => by omega⟩
      · rw [if_neg g1, if_neg g2]
        exact ⟨fun _ => ⟨h.1 h0, by omega⟩, fun _ => rfl⟩
  · rw [if_pos h0]
    exact ⟨fun e => absurd e h0, fun e => absurd (h.2 e.1) h0⟩
theorem Ent.cmp_key (x y : Ent) (hne : x.key ≠ y.key) : x.cmp y = CB x.key y.key := by
  unfold Ent.cmp
  rw [if_pos (fun h => hne ((CB_zero _ _).1 h))]
theorem Ent.cmp_trans (x y z : Ent) (h1 : x.cmp y < 0) (h2 : y.cmp z < 0) : x.cmp z < 0 := by
  have v1 := cb_val x.key.data.toList y.key.data.toList
  have v2 := cb_val y.key.data.toList z.key.data.toList
  by_cases k1 : x.key = y.key
  · by_cases k2 : y.key = z.key
    · have c1 : CB x.key y.key = 0 := (CB_zero _ _).2 k1
      have c2 : CB y.key z.key = 0 := (CB_zero _ _).2 k2
      have c3 : CB x.key z.key = 0 := (CB_zero _ _).2 (k1.trans k2)
      unfold Ent.cmp at h1 h2 ⊢
      rw [if_neg (by simpa using c1)] at h1
      rw [if_neg (by simpa using c2)] at h2
      rw [if_neg (by simpa using c3)]
      have g1 : y.seq < x.seq := by
        rcases Nat.lt_or_ge y.seq x.seq with g | g
        · exact g
        · rw [if_neg (by omega)] at h1; split at h1 <;> omega
      have g2 : z.seq < y.seq := by
        rcases Nat.lt_or_ge z.seq y.seq with g | g
        · exact g
        · rw [if_neg (by omega)] at h2; split at h2 <;> omega
      rw [if_pos (by omega)]; omega
    · rw [Ent.cmp_key x z (by rw [k1]; exact k2), k1]
      rw [Ent.cmp_key y z k2] at h2
      exact h2
  · rw [Ent.cmp_key x y k1] at h1
    by_cases k2 : y.key = z.key
    · rw [Ent.cmp_key x z (by rw [← k2]; exact k1), ← k2]
      exact h1
    · rw [Ent.cmp_key y z k2] at h2
      have t := cb_trans x.key.data.toList y.key.data.toList z.key.data.toList (by unfold CB at h1; omega) (by unfold CB at h2; omega)
      have k3 : x.key ≠ z.key := fun e => by
        rw [e] at t
        have := (cb_zero z.key.data.toList z.key.data.toList).2 rfl
        omega
      rw [Ent.cmp_key x z k3]
      unfold CB
      omega
theorem Ent.cmp_less (x y : Ent) (hne : x.key ≠ y.key) : Op.bytesLess x.key.toList y.key.toList = decide (x.cmp y < 0) := by
  rw [Ent.cmp_key x y hne, ByteArray.toList_eq, ByteArray.toList_eq, cb_less]
  rfl
theorem Ent.cmp_val (x y : Ent) : -1 ≤ x.cmp y ∧ x.cmp y ≤ 1 := by
  have v1 := cb_val x.key.data.toList y.key.data.toList
  unfold Ent.cmp CB
  split
  · omega
  · split
    · omega
    · split <;> omega
end Go.Proofs.Ytgnicgcdhldmmaa.Key
