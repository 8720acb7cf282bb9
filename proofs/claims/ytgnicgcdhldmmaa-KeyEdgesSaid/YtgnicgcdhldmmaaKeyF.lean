/- What Outer tells: plain laws. -/
import Derived.Test.YtgnicgcdhldmmaaKeyD
import Derived.Test.YtgnicgcdhldmmaaKeyB
import Derived.Test.YtgnicgcdhldmmaaStr2
namespace Go.Proofs.Ytgnicgcdhldmmaa.Key
set_option linter.unusedVariables false
set_option linter.unusedSimpArgs false
open Go.Proofs.Ytgnicgcdhldmmaa.Kit Go.Proofs.Ytgnicgcdhldmmaa.Num Go.RowKit Go.Proofs.YtgnicgcdhldmmaaW.PrintWords Go.Proofs.YtgnicgcdhldmmaaW.PrintLast Go.Proofs.YtgnicgcdhldmmaaW.PrintMore NumPure
/-- The name and what is behind it; none where it is out of form. -/
def scan : List Int → Option (List Int × List Int)
  | [] => some ([], [])
  | [c] => if c = 0 then none else some ([c], [])
  | c :: d :: r =>
    if c = 0 then (if d = 1 then some ([], c :: d :: r) else if d = 255 then (scan r).map fun p => (0 :: p.1, p.2) else none)
    else (scan (d :: r)).map fun p => (c :: p.1, p.2)
theorem scan_nil : scan [] = some ([], []) := by rw [scan]
theorem scan_zero : scan [0] = none := by rw [scan, if_pos rfl]
theorem scan_cons {c : Int} (r : List Int) (h : c ≠ 0) : scan (c :: r) = (scan r).map fun p => (c :: p.1, p.2) := by
  cases r with
  | nil => simp only [scan]; rw [if_neg h]; rfl
  | cons d r => rw [scan, if_neg h]
theorem scan_end (r : List Int) : scan (0 :: 1 :: r) = some ([], 0 :: 1 :: r) := by rw [scan, if_pos rfl, if_pos rfl]
theorem scan_esc0 (r : List Int) : scan (0 :: 255 :: r) = (scan r).map fun p => (0 :: p.1, p.2) := by rw [scan, if_pos rfl, if_neg (by omega), if_pos rfl]
theorem scan_bad {d : Int} (r : List Int) (h1 : d ≠ 1) (h2 : d ≠ 255) : scan (0 :: d :: r) = none := by rw [scan, if_pos rfl, if_neg h1, if_neg h2]
theorem esc_nil : esc [] = [] := rfl
theorem esc_zero (r : List Int) : esc (0 :: r) = 0 :: 255 :: esc r := by simp [esc]
theorem esc_cons {c : Int} (r : List Int) (h : c ≠ 0) : esc (c :: r) = c :: esc r := by simp [esc, h]
theorem scan_esc (k t : List Int) : scan (esc k ++ 0 :: 1 :: t) = some (k, 0 :: 1 :: t) := by
  induction k with
  | nil => rw [esc_nil, List.nil_append, scan_end]
  | cons c k ih =>
    by_cases h : c = 0
    · subst h
      rw [esc_zero, List.cons_append, List.cons_append, scan_esc0, ih]
      rfl
    · rw [esc_cons _ h, List.cons_append, scan_cons _ h, ih]
      rfl
theorem scan_some : ∀ (n : Nat) (l : List Int), l.length ≤ n → ∀ nm rest, scan l = some (nm, rest) → l = esc nm ++ rest ∧ (rest = [] ∨ ∃ t, rest = 0 :: 1 :: t) := by
  intro n
  induction n with
  | zero =>
    intro l hl nm rest h
    have : l = [] := List.eq_nil_of_length_eq_zero (by omega)
    subst this
    rw [scan_nil] at h
    cases h
    exact ⟨rfl, .inl rfl⟩
  | succ n ih =>
    intro l hl nm rest h
    cases l with
    | nil =>
      rw [scan_nil] at h
      cases h
      exact ⟨rfl, .inl rfl⟩
    | cons c r =>
      by_cases hc : c = 0
      · subst hc
        cases r with
        | nil => rw [scan_zero] at h; cases h
        | cons d r =>
          by_cases h1 : d = 1
          · subst h1
            rw [scan_end] at h
            cases h
            exact ⟨rfl, .inr ⟨r, rfl⟩⟩
          · by_cases h2 : d = 255
            · subst h2
              rw [scan_esc0] at h
              cases hs : scan r with
              | none => rw [hs] at h; cases h
              | some p =>
                obtain ⟨nm', rest'⟩ := p
                rw [hs] at h
                cases h
                obtain ⟨e1, e2⟩ := ih r (by simp at hl; omega) _ _ hs
                refine ⟨?_, e2⟩
                rw [esc_zero, List.cons_append, List.cons_append, ← e1]
            · rw [scan_bad _ h1 h2] at h
              cases h
      · rw [scan_cons _ hc] at h
        cases hs : scan r with
        | none => rw [hs] at h; cases h
        | some p =>
          obtain ⟨nm', rest'⟩ := p
          rw [hs] at h
          cases h
          obtain ⟨e1, e2⟩ := ih r (by simp at hl; omega) _ _ hs
          refine ⟨?_, e2⟩
          rw [esc_cons _ hc, List.cons_append, ← e1]
/-- A name ahead of what is scanned. -/
def ahead (nm : List Int) (o : Option (List Int × List Int)) : Option (List Int × List Int) := o.map fun p => (nm ++ p.1, p.2)
theorem ahead_nil (o : Option (List Int × List Int)) : ahead [] o = o := by cases o <;> rfl
theorem ahead_snoc (nm : List Int) (c : Int) (o : Option (List Int × List Int)) : ahead nm (o.map fun p => (c :: p.1, p.2)) = ahead (nm ++ [c]) o := by cases o <;> simp [ahead]
/-- The number behind the name. -/
def outN (rest : List Int) : Nat := 18446744073709551615 - beVal (rest.drop 2)
def outE (nm : List Int) (n : Nat) : Ent := ⟨strOfNums nm, n / 2, decide (n % 2 = 0), ⟨#[]⟩⟩
def Ent.zero : Ent := ⟨⟨#[]⟩, 0, false, ⟨#[]⟩⟩
def outer (l : List Int) : Option Ent :=
  match scan l with
  | none => none
  | some (nm, rest) => if rest.length = 10 then (if (outE nm (outN rest)).check = 0 then some (outE nm (outN rest)) else none) else none
/-- The entry and the error. -/
def told : Option Ent → Ent × Nat
  | none => (Ent.zero, 2)
  | some x => (x, 0)
theorem outer_none {l : List Int} (h : scan l = none) : outer l = none := by rw [outer, h]
theorem outer_short {l nm rest : List Int} (h : scan l = some (nm, rest)) (h2 : rest.length ≠ 10) : outer l = none := by rw [outer, h]; simp only; rw [if_neg h2]
theorem outer_long {l nm rest : List Int} (h : scan l = some (nm, rest)) (h2 : rest.length = 10) : outer l = if (outE nm (outN rest)).check = 0 then some (outE nm (outN rest)) else none := by rw [outer, h]; simp only; rw [if_pos h2]
theorem numsOf_isByte (s : ByteArray) : Byte (numsOf s) := numsOf_byte s
theorem check_zero {x : Ent} : x.check = 0 ↔ 0 < x.key.size ∧ x.key.size ≤ 128 ∧ x.seq ≤ 72057594037927935 ∧ (x.del = true → x.val.size = 0) ∧ x.val.size ≤ 65536 := by
  unfold Ent.check
  by_cases h1 : x.key.size = 0 ∨ 72057594037927935 < x.seq ∨ (x.del = true ∧ x.val.size ≠ 0)
  · rw [if_pos h1]
    refine ⟨fun h => absurd h (by decide), fun ⟨a, b, c, d, e⟩ => ?_⟩
    rcases h1 with h | h | ⟨h, h'⟩
    · omega
    · omega
    · exact absurd (d h) h'
  · rw [if_neg h1]
    simp only [not_or, not_and] at h1
    obtain ⟨a, b, c⟩ := h1
    by_cases h2 : 128 < x.key.size ∨ 65536 < x.val.size
    · rw [if_pos h2]
      refine ⟨fun h => absurd h (by decide), fun ⟨_, e, _, _, f⟩ => ?_⟩
      omega
    · rw [if_neg h2]
      refine ⟨fun _ => ⟨by omega, by omega, by omega, fun h => ?_, by omega⟩, fun _ => rfl⟩
      have := c h
      omega
def Ent.bare (x : Ent) : Ent := ⟨x.key, x.seq, x.del, ⟨#[]⟩⟩
theorem flip_lt (x : Ent) : x.flip < 18446744073709551616 := by have := num_lt x; unfold Ent.flip; omega
theorem outer_inner (x : Ent) (h : x.check = 0) : outer x.inL = some x.bare := by
  obtain ⟨h1, h2, h3, h4, h5⟩ := check_zero.1 h
  have hs : scan x.inL = some (numsOf x.key, 0 :: 1 :: be x.flip 8) := by
    have := scan_esc (numsOf x.key) (be x.flip 8)
    rw [Ent.inL, List.append_assoc]
    exact this
  have hl : (0 :: 1 :: be x.flip 8 : List Int).length = 10 := by simp [be_length]
  have hn : outN (0 :: 1 :: be x.flip 8) = x.num := by
    unfold outN
    rw [show (0 :: 1 :: be x.flip 8 : List Int).drop 2 = be x.flip 8 from rfl, beVal_be _ _ (flip_lt x), Ent.flip]
    have := num_lt x
    omega
  have he : outE (numsOf x.key) x.num = x.bare := by
    have hnum : x.num = 2 * x.seq + if x.del then 0 else 1 := by
      unfold Ent.num
      rw [Nat.mod_eq_of_lt (by omega)]
    unfold outE Ent.bare
    rw [strOfNums_numsOf]
    cases hd : x.del
    · rw [hd] at hnum
      simp only [Bool.false_eq_true, if_false] at hnum
      have h1 : x.num / 2 = x.seq := by omega
      have h2 : decide (x.num % 2 = 0) = false := decide_eq_false (by omega)
      rw [h1, h2]
    · rw [hd] at hnum
      simp only [if_true] at hnum
      have h1 : x.num / 2 = x.seq := by omega
      have h2 : decide (x.num % 2 = 0) = true := decide_eq_true (by omega)
      rw [h1, h2]
  rw [outer_long hs hl, hn, he, if_pos]
  exact check_zero.2 ⟨h1, h2, h3, fun _ => rfl, by show 0 ≤ _; omega⟩
theorem outer_some {l : List Int} (hb : Byte l) {x : Ent} (h : outer l = some x) : x.inL = l ∧ x.check = 0 ∧ x.val = ⟨#[]⟩ := by
  cases hs : scan l with
  | none => rw [outer_none hs] at h; cases h
  | some p =>
    obtain ⟨nm, rest⟩ := p
    obtain ⟨e1, e2⟩ := scan_some l.length l (Nat.le_refl _) _ _ hs
    by_cases hl : rest.length = 10
    · rw [outer_long hs hl] at h
      by_cases hc : (outE nm (outN rest)).check = 0
      · rw [if_pos hc] at h
        cases h
        refine ⟨?_, hc, rfl⟩
        obtain ⟨c1, c2, c3, c4, c5⟩ := check_zero.1 hc
        rcases e2 with e2 | ⟨t, e2⟩
        · subst e2; simp at hl
        · subst e2
          have htl : t.length = 8 := by simpa using hl
          have hbt : Byte t := fun y hy => hb y (by rw [e1]; simp [hy])
          have hbn : ∀ y ∈ nm, 0 ≤ y ∧ y < 256 := fun y hy => by
            have : y ∈ esc nm := by
              unfold esc
              rw [List.mem_flatMap]
              refine ⟨y, hy, ?_⟩
              split <;> simp_all
            exact hb y (by rw [e1]; exact List.mem_append_left _ this)
          have hv : beVal t < 18446744073709551616 := by have := beVal_lt hbt; rw [htl] at this; exact this
          have hN : outN (0 :: 1 :: t) = 18446744073709551615 - beVal t := rfl
          have hnum : (outE nm (outN (0 :: 1 :: t))).num = outN (0 :: 1 :: t) := by
            unfold Ent.num outE
            simp only
            generalize outN (0 :: 1 :: t) = n at hN ⊢
            rw [Nat.mod_eq_of_lt (by omega)]
            by_cases hp : n % 2 = 0
            · rw [decide_eq_true hp]; simp; omega
            · rw [decide_eq_false hp]; simp; omega
          unfold Ent.inL Ent.flip
          rw [hnum, hN, show 18446744073709551615 - (18446744073709551615 - beVal t) = beVal t by omega]
          have hbe := be_beVal t hbt
          rw [htl] at hbe
          rw [hbe, show (outE nm (18446744073709551615 - beVal t)).key = strOfNums nm from rfl, numsOf_strOfNums _ hbn, e1]
          simp
      · rw [if_neg hc] at h; cases h
    · rw [outer_short hs hl] at h; cases h
end Go.Proofs.Ytgnicgcdhldmmaa.Key
