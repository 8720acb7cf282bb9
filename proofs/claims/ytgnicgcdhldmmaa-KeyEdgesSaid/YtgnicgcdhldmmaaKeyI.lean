/- Which texts are inner texts, told from behind: plain laws. -/
import Derived.Test.YtgnicgcdhldmmaaKeyH
namespace Go.Proofs.Ytgnicgcdhldmmaa.Key
set_option linter.unusedVariables false
set_option linter.unusedSimpArgs false
open Go.Proofs.Ytgnicgcdhldmmaa.Kit Go.Proofs.Ytgnicgcdhldmmaa.Num Go.RowKit Go.Proofs.YtgnicgcdhldmmaaW.PrintWords Go.Proofs.YtgnicgcdhldmmaaW.PrintLast Go.Proofs.YtgnicgcdhldmmaaW.PrintMore NumPure
/-- How many bytes an escaped text stands for. -/
def par : List Int → Option Nat
  | [] => some 0
  | [c] => if c = 0 then none else some 1
  | c :: d :: r => if c = 0 then (if d = 255 then (par r).map (· + 1) else none) else (par (d :: r)).map (· + 1)
theorem par_nil : par [] = some 0 := by rw [par]
theorem par_zero : par [0] = none := by rw [par, if_pos rfl]
theorem par_cons {c : Int} (r : List Int) (h : c ≠ 0) : par (c :: r) = (par r).map (· + 1) := by
  cases r with
  | nil => simp only [par]; rw [if_neg h]; rfl
  | cons d r => rw [par, if_neg h]
theorem par_esc0 (r : List Int) : par (0 :: 255 :: r) = (par r).map (· + 1) := by rw [par, if_pos rfl, if_pos rfl]
theorem par_bad {d : Int} (r : List Int) (h : d ≠ 255) : par (0 :: d :: r) = none := by rw [par, if_pos rfl, if_neg h]
theorem par_esc (k : List Int) : par (esc k) = some k.length := by
  induction k with
  | nil => rw [esc_nil, par_nil]; rfl
  | cons c k ih =>
    by_cases h : c = 0
    · subst h
      rw [esc_zero, par_esc0, ih]; rfl
    · rw [esc_cons _ h, par_cons _ h, ih]; rfl
theorem par_some : ∀ (n : Nat) (p : List Int), p.length ≤ n → ∀ k, par p = some k → ∃ nm, p = esc nm ∧ nm.length = k := by
  intro n
  induction n with
  | zero =>
    intro p hp k h
    have : p = [] := List.eq_nil_of_length_eq_zero (by omega)
    subst this
    rw [par_nil] at h
    cases h
    exact ⟨[], rfl, rfl⟩
  | succ n ih =>
    intro p hp k h
    cases p with
    | nil =>
      rw [par_nil] at h
      cases h
      exact ⟨[], rfl, rfl⟩
    | cons c r =>
      by_cases hc : c = 0
      · subst hc
        cases r with
        | nil => rw [par_zero] at h; cases h
        | cons d r =>
          by_cases h2 : d = 255
          · subst h2
            rw [par_esc0] at h
            cases hs : par r with
            | none => rw [hs] at h; cases h
            | some q =>
              rw [hs] at h
              cases h
              obtain ⟨nm, e1, e2⟩ := ih r (by simp at hp; omega) _ hs
              exact ⟨0 :: nm, by rw [esc_zero, e1], by simp [e2]⟩
          · rw [par_bad _ h2] at h
            cases h
      · rw [par_cons _ hc] at h
        cases hs : par r with
        | none => rw [hs] at h; cases h
        | some q =>
          rw [hs] at h
          cases h
          obtain ⟨nm, e1, e2⟩ := ih r (by simp at hp; omega) _ hs
          exact ⟨c :: nm, by rw [esc_cons _ hc, e1], by simp [e2]⟩
/-- So many more. -/
def more (c : Nat) (o : Option Nat) : Option Nat := o.map (· + c)
theorem more_zero (o : Option Nat) : more 0 o = o := by cases o <;> rfl
theorem more_succ (c : Nat) (o : Option Nat) : more c (o.map (· + 1)) = more (c + 1) o := by
  cases o with
  | none => rfl
  | some k => show some (k + 1 + c) = some (k + (c + 1)); congr 1; omega
/-- Whether a text is an inner text, told from behind. -/
def tailOk (l : List Int) : Bool := decide ((l.drop (l.length - 10)).take 2 = [0, 1]) && decide (254 ≤ l.getD (l.length - 8) 0)
def few : Option Nat → Bool
  | none => false
  | some k => decide (k ≤ 128)
def rightL (l : List Int) : Bool := decide (11 ≤ l.length) && tailOk l && few (par (l.take (l.length - 10)))
theorem top_byte (t : List Int) (hb : Byte t) (hl : t.length = 8) : 254 ≤ t.getD 0 0 ↔ 18302628885633695744 ≤ beVal t := by
  have hbe := be_beVal t hb
  rw [hl] at hbe
  have hv : beVal t < 18446744073709551616 := by have := beVal_lt hb; rw [hl] at this; exact this
  have : t.getD 0 0 = ((beVal t / 256 ^ 7 % 256 : Nat) : Int) := by
    conv => lhs; rw [← hbe, be_succ]
    rfl
  rw [this]
  generalize beVal t = v at hv
  simp only [Nat.reducePow]
  omega
theorem rightL_of_some {l : List Int} (hb : Byte l) {x : Ent} (h : outer l = some x) : rightL l = true := by
  obtain ⟨e, hc, _⟩ := outer_some hb h
  obtain ⟨k1, k2, k3, _, _⟩ := check_zero.1 hc
  have hl : l = esc (numsOf x.key) ++ (0 :: 1 :: be x.flip 8) := by rw [← e, Ent.inL, List.append_assoc]; rfl
  have hlen : l.length = (esc (numsOf x.key)).length + 10 := by rw [hl, List.length_append]; simp [be_length]
  have hne : 0 < (esc (numsOf x.key)).length := by
    have hk : 0 < (numsOf x.key).length := by rw [numsOf_length]; exact k1
    generalize numsOf x.key = k at hk ⊢
    cases k with
    | nil => simp at hk
    | cons c r =>
      by_cases h0 : c = 0
      · subst h0; rw [esc_zero]; simp
      · rw [esc_cons _ h0]; simp
  have h10 : l.length - 10 = (esc (numsOf x.key)).length := by omega
  have h8 : l.length - 8 = (esc (numsOf x.key)).length + 2 := by omega
  have hd : l.drop (l.length - 10) = 0 :: 1 :: be x.flip 8 := by rw [h10, hl, List.drop_left]
  have ht : l.take (l.length - 10) = esc (numsOf x.key) := by rw [h10, hl, List.take_left]
  have hg : l.getD (l.length - 8) 0 = (be x.flip 8).getD 0 0 := by
    have : (l.drop (l.length - 10)).getD 2 0 = l.getD (l.length - 8) 0 := by
      rw [List.getD_eq_getElem?_getD, List.getElem?_drop, ← List.getD_eq_getElem?_getD, show l.length - 10 + 2 = l.length - 8 by omega]
    rw [← this, hd]
    rfl
  unfold rightL tailOk
  rw [hd, ht, hg, par_esc, numsOf_length]
  have h1 : decide (11 ≤ l.length) = true := decide_eq_true (by omega)
  have h2 : (254 : Int) ≤ (be x.flip 8).getD 0 0 := by
    rw [top_byte _ (be_byte _ _) (be_length _ _), beVal_be _ _ (flip_lt x)]
    obtain ⟨hn, _⟩ := num_of hc
    unfold Ent.flip
    rw [hn]
    split <;> omega
  rw [h1, decide_eq_true h2]
  have h3 : few (some x.key.size) = true := decide_eq_true k2
  rw [h3]
  rfl
theorem some_of_rightL {l : List Int} (hb : Byte l) (h : rightL l = true) : ∃ x, outer l = some x := by
  unfold rightL tailOk at h
  simp only [Bool.and_eq_true, decide_eq_true_eq] at h
  obtain ⟨⟨h11, h01, h254⟩, hf⟩ := h
  cases hp : par (l.take (l.length - 10)) with
  | none => rw [hp] at hf; cases hf
  | some k =>
    rw [hp] at hf
    have hk : k ≤ 128 := of_decide_eq_true hf
    obtain ⟨nm, e1, e2⟩ := par_some _ _ (Nat.le_refl _) _ hp
    obtain ⟨t, hD⟩ : ∃ t, l.drop (l.length - 10) = 0 :: 1 :: t := ⟨(l.drop (l.length - 10)).drop 2, by
      have := List.take_append_drop 2 (l.drop (l.length - 10))
      rw [h01] at this
      exact this.symm⟩
    have hl : l = esc nm ++ 0 :: 1 :: t := by rw [← e1, ← hD, List.take_append_drop]
    have htl : t.length = 8 := by
      have : (l.drop (l.length - 10)).length = 10 := by rw [List.length_drop]; omega
      rw [hD] at this
      simpa using this
    have hbt : Byte t := fun y hy => hb y (by rw [hl]; simp [hy])
    have hs : scan l = some (nm, 0 :: 1 :: t) := by rw [hl, scan_esc]
    have hg : t.getD 0 0 = l.getD (l.length - 8) 0 := by
      have : (l.drop (l.length - 10)).getD 2 0 = l.getD (l.length - 8) 0 := by
        rw [List.getD_eq_getElem?_getD, List.getElem?_drop, ← List.getD_eq_getElem?_getD, show l.length - 10 + 2 = l.length - 8 by omega]
      rw [← this, hD]
      rfl
    rw [← hg, top_byte _ hbt htl] at h254
    have hnm : nm.length ≠ 0 := by
      intro h0
      have : nm = [] := List.eq_nil_of_length_eq_zero h0
      subst this
      have hlen := congrArg List.length hl
      simp [esc_nil, htl] at hlen
      omega
    have hv : beVal t < 18446744073709551616 := by have := beVal_lt hbt; rw [htl] at this; exact this
    refine ⟨outE nm (outN (0 :: 1 :: t)), ?_⟩
    rw [outer_long hs (by simp [htl]), if_pos]
    refine check_zero.2 ⟨?_, ?_, ?_, fun _ => rfl, by show 0 ≤ _; omega⟩
    · show 0 < (strOfNums nm).size
      rw [strOf_size]; omega
    · show (strOfNums nm).size ≤ 128
      rw [strOf_size]; omega
    · show (18446744073709551615 - beVal t) / 2 ≤ _
      omega
theorem inner_of_outer {s : ByteArray} {x : Ent} (h : outer (numsOf s) = some x) : x.inner = s ∧ x.check = 0 := by
  obtain ⟨e, hc, _⟩ := outer_some (numsOf_isByte s) h
  exact ⟨by unfold Ent.inner; rw [e, strOfNums_numsOf], hc⟩
end Go.Proofs.Ytgnicgcdhldmmaa.Key
