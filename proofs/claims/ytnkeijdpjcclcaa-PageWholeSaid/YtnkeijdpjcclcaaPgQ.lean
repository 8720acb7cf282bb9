/- Pages read: what Parse's tests say of bytes, without the program. -/
import Derived.Test.YtnkeijdpjcclcaaPgP
namespace Go.Proofs.Ytnkeijdpjcclcaa.Pg
set_option linter.unusedVariables false
open Go.Proofs.Ytnkeijdpjcclcaa.Kit NumPure
/-- Where the places begin. -/
def endOf (xs : List Int) : Nat := xs.length - 4 - 4 * leVal (xs.drop (xs.length - 4))
theorem page_end {xs : List Int} {l : List PR} (h : IsPage xs l) : 4 ≤ xs.length ∧ leVal (xs.drop (xs.length - 4)) = cntAt l.length ∧ cntAt l.length ≤ (xs.length - 4) / 4 ∧ xs.take (endOf xs) = bodyAt l l.length ∧ endOf xs = (bodyAt l l.length).length := by
  obtain ⟨hg, rfl⟩ := h
  have h1 := page_length l
  have h2 := page_cnt hg
  have h3 := page_body l
  unfold endOf
  rw [h2]
  refine ⟨by omega, rfl, by omega, h3, by omega⟩
theorem no_short {xs : List Int} (h : xs.length < 4) (l : List PR) : ¬ IsPage xs l := fun hp => by
  have := (page_end hp).1; omega
theorem no_count {xs : List Int} (h : (xs.length - 4) / 4 < leVal (xs.drop (xs.length - 4))) (l : List PR) : ¬ IsPage xs l := fun hp => by
  obtain ⟨_, h2, h3, _⟩ := page_end hp; omega
theorem no_read {xs : List Int} {a : Nat} {last : List Int} {out : List PR} (h : Chain (xs.take (endOf xs)) 0 a last out) (ha : a < (xs.take (endOf xs)).length) (ho : oneP (xs.take (endOf xs)) a last = none) (l : List PR) : ¬ IsPage xs l := fun hp => by
  obtain ⟨_, _, _, h4, _⟩ := page_end hp
  rw [h4] at h ha ho
  have := chain_end h (page_chain hp.1) (.inr ho) (.inl (Nat.le_refl _))
  omega
theorem page_of {xs : List Int} {a : Nat} {last : List Int} {l : List PR} (h : Chain (xs.take (endOf xs)) 0 a last l) (ha : (xs.take (endOf xs)).length ≤ a) {l' : List PR} (hp : IsPage xs l') : l = l' := by
  obtain ⟨_, _, _, h4, _⟩ := page_end hp
  rw [h4] at h ha
  exact (chain_end h (page_chain hp.1) (.inl ha) (.inl (Nat.le_refl _))).2.2
theorem no_made {xs : List Int} {a : Nat} {last : List Int} {l : List PR} (h : Chain (xs.take (endOf xs)) 0 a last l) (ha : (xs.take (endOf xs)).length ≤ a) (hb : ¬ (Good l l.length ∧ pageOf l = xs)) (l' : List PR) : ¬ IsPage xs l' := fun hp => by
  obtain rfl := page_of h ha hp
  exact hb hp
/-- The numbers behind the pairs. -/
def nums4 (xs : List Int) (e : Nat) : Nat → List Int
  | 0 => []
  | k + 1 => nums4 xs e k ++ [((leVal ((xs.drop (e + 4 * k)).take 4) : Nat) : Int)]
theorem nums4_length (xs : List Int) (e : Nat) : ∀ k, (nums4 xs e k).length = k
  | 0 => rfl
  | k + 1 => by simp [nums4, nums4_length xs e k]
theorem nums4_flat (pre post : List Int) : ∀ (ws : List Int), (∀ x ∈ ws, 0 ≤ x ∧ x < 4294967296) → ∀ k, k ≤ ws.length → nums4 (pre ++ (ws.flatMap fun x => le x.toNat 4) ++ post) pre.length k = ws.take k := by
  intro ws hw k
  induction k with
  | zero => intro _; simp [nums4]
  | succ k ih =>
    intro hk
    rw [nums4, ih (by omega)]
    have hlt : k < ws.length := by omega
    have hfl : ∀ zs : List Int, (zs.flatMap fun x => le x.toNat 4).length = 4 * zs.length := by
      intro zs
      induction zs with
      | nil => rfl
      | cons z zs ihz => rw [List.flatMap_cons, List.length_append, ihz, le_length, List.length_cons]; omega
    have hsp : ws = ws.take k ++ (ws[k] :: ws.drop (k + 1)) := by
      rw [← List.drop_eq_getElem_cons hlt, List.take_append_drop]
    have hd : ((pre ++ (ws.flatMap fun x => le x.toNat 4) ++ post).drop (pre.length + 4 * k)).take 4 = le (ws[k]).toNat 4 := by
      rw [List.append_assoc, ← List.drop_drop, List.drop_left]
      conv => lhs; rw [hsp]
      rw [List.flatMap_append, List.flatMap_cons]
      have hl : 4 * k = ((ws.take k).flatMap fun x => le x.toNat 4).length := by rw [hfl, List.length_take]; omega
      rw [List.append_assoc, hl, List.drop_left, List.append_assoc]
      have h4 : (le (ws[k]).toNat 4).length = 4 := le_length _ _
      exact List.take_left' h4
    have hx := hw ws[k] (List.getElem_mem hlt)
    rw [hd, leVal_le _ _ (by have : (256 : Nat) ^ 4 = 4294967296 := by decide
                             omega), List.take_succ_eq_append_getElem hlt]
    congr 2
    omega
theorem places_bound {l : List PR} (h : Good l l.length) : ∀ k, k ≤ l.length → ∀ x ∈ places l k, 0 ≤ x ∧ x < 4294967296
  | 0, _, x, hx => by simp [places] at hx
  | k + 1, hk, x, hx => by
    have ih := places_bound h k (by omega)
    simp only [places] at hx
    split at hx
    · rcases List.mem_append.1 hx with hx | hx
      · exact ih x hx
      · rw [List.mem_singleton.1 hx]
        have h1 := body_le l (show k ≤ l.length by omega)
        have h2 := body_fit h
        omega
    · exact ih x hx
theorem page_places {xs : List Int} {l : List PR} (h : IsPage xs l) : nums4 xs (endOf xs) (cntAt l.length) = places l l.length := by
  have he := page_end h
  obtain ⟨hg, rfl⟩ := h
  rw [he.2.2.2.2]
  have := nums4_flat (bodyAt l l.length) (le (cntAt l.length) 4) (places l l.length) (places_bound hg _ (Nat.le_refl _)) (cntAt l.length) (by rw [places_length]; exact Nat.le_refl _)
  rw [← whole_places] at this
  rw [show pageOf l = bodyAt l l.length ++ wholeAt l l.length ++ le (cntAt l.length) 4 from rfl, this, List.take_of_length_le (by rw [places_length]; exact Nat.le_refl _)]
theorem page_byte {l : List PR} (h1 : ∀ p ∈ l, Byte p.1 ∧ Byte p.2) : Byte (pageOf l) := by
  have hn : ∀ k, Byte (nmAt l k) ∧ Byte (vlAt l k) := by
    intro k
    unfold nmAt vlAt
    rw [List.getD_eq_getElem?_getD]
    cases hk : l[k]? with
    | none => exact ⟨fun x hx => by simp at hx, fun x hx => by simp at hx⟩
    | some p => exact h1 p (List.mem_of_getElem? hk)
  have hb : ∀ k, Byte (bodyAt l k) := by
    intro k
    induction k with
    | zero => intro x hx; simp [bodyAt] at hx
    | succ k ih =>
      simp only [bodyAt, rowOf]
      exact ih.append (((((show Byte (put7 _) from put7_byte _).append (put7_byte _)).append (put7_byte _)).append ((hn k).1.drop _)).append (hn k).2)
  have hw : ∀ k, Byte (wholeAt l k) := by
    intro k
    induction k with
    | zero => intro x hx; simp [wholeAt] at hx
    | succ k ih =>
      simp only [wholeAt]
      split
      · exact ih.append (le_byte _ _)
      · exact ih
  exact ((hb _).append (hw _)).append (le_byte _ _)
end Go.Proofs.Ytnkeijdpjcclcaa.Pg
