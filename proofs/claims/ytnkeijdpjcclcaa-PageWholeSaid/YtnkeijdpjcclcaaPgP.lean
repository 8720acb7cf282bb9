/- The pages, without the program. -/
import Derived.Test.YtnkeijdpjcclcaaNumPure2
import Derived.Test.YtnkeijdpjcclcaaStr2
namespace Go.Proofs.Ytnkeijdpjcclcaa.Pg
set_option linter.unusedVariables false
open Go.Proofs.Ytnkeijdpjcclcaa.Kit NumPure
/-- A name and what stands with it. -/
abbrev PR := List Int × List Int
/-- How many numbers two rows have alike in front. -/
def cmn : List Int → List Int → Nat
  | x :: xs, y :: ys => if x = y then cmn xs ys + 1 else 0
  | _, _ => 0
theorem cmn_left : ∀ a b : List Int, cmn a b ≤ a.length
  | [], _ => by simp [cmn]
  | _ :: _, [] => by simp [cmn]
  | x :: xs, y :: ys => by
    have := cmn_left xs ys
    simp only [cmn]
    split
    · simp only [List.length_cons]; omega
    · omega
theorem cmn_right : ∀ a b : List Int, cmn a b ≤ b.length
  | [], _ => by simp [cmn]
  | _ :: _, [] => by simp [cmn]
  | x :: xs, y :: ys => by
    have := cmn_right xs ys
    simp only [cmn]
    split
    · simp only [List.length_cons]; omega
    · omega
theorem cmn_take : ∀ a b : List Int, a.take (cmn a b) = b.take (cmn a b)
  | [], _ => by simp [cmn]
  | _ :: _, [] => by simp [cmn]
  | x :: xs, y :: ys => by
    have := cmn_take xs ys
    simp only [cmn]
    split
    · next h => subst h; simp [this]
    · simp
/-- The step of the search. -/
theorem cmn_step : ∀ (a b : List Int) (n : Nat), n ≤ cmn a b → ((n < a.length ∧ n < b.length ∧ a.getD n 0 = b.getD n 0) ↔ n < cmn a b)
  | [], _, n, h => by simp [cmn]
  | _ :: _, [], n, h => by simp [cmn]
  | x :: xs, y :: ys, n, h => by
    simp only [cmn] at h ⊢
    by_cases hxy : x = y
    · rw [if_pos hxy] at h ⊢
      cases n with
      | zero => simp [hxy]
      | succ n =>
        have := cmn_step xs ys n (by omega)
        simp only [List.length_cons, List.getD_cons_succ]
        constructor
        · rintro ⟨h1, h2, h3⟩
          have := this.1 ⟨by omega, by omega, h3⟩
          omega
        · intro h4
          obtain ⟨k1, k2, k3⟩ := this.2 (by omega)
          exact ⟨by omega, by omega, k3⟩
    · rw [if_neg hxy] at h ⊢
      obtain rfl : n = 0 := by omega
      simp [hxy]
/-- The same search as the law does it, by fronts. -/
theorem cmn_front : ∀ (a b : List Int) (n : Nat), n ≤ cmn a b → n < a.length → n < b.length → (a.take (n + 1) = b.take (n + 1) ↔ n < cmn a b) := by
  intro a b n h h1 h2
  have hs := cmn_step a b n h
  have ht : a.take n = b.take n := by
    have := congrArg (List.take n) (cmn_take a b)
    rwa [List.take_take, List.take_take, Nat.min_eq_left h] at this
  rw [List.take_succ_eq_append_getElem h1, List.take_succ_eq_append_getElem h2, ht]
  constructor
  · intro e
    have e2 := List.append_cancel_left e
    refine hs.1 ⟨h1, h2, ?_⟩
    rw [List.getD_eq_getElem?_getD, List.getD_eq_getElem?_getD, List.getElem?_eq_getElem h1, List.getElem?_eq_getElem h2]
    simpa using e2
  · intro e
    obtain ⟨_, _, e3⟩ := hs.2 e
    rw [List.getD_eq_getElem?_getD, List.getD_eq_getElem?_getD, List.getElem?_eq_getElem h1, List.getElem?_eq_getElem h2] at e3
    simp only [Option.getD_some] at e3
    rw [e3]

/-! ### A page made -/
def nmAt (l : List PR) (k : Nat) : List Int := (l.getD k ([], [])).1
def vlAt (l : List PR) (k : Nat) : List Int := (l.getD k ([], [])).2
def lastAt (l : List PR) (k : Nat) : List Int := if k = 0 then [] else nmAt l (k - 1)
def sameAt (l : List PR) (k : Nat) : Nat := if k % 8 = 0 then 0 else cmn (lastAt l k) (nmAt l k)
def rowOf (s : Nat) (n v : List Int) : List Int := put7 s ++ put7 (n.length - s) ++ put7 v.length ++ n.drop s ++ v
def bodyAt (l : List PR) : Nat → List Int
  | 0 => []
  | k + 1 => bodyAt l k ++ rowOf (sameAt l k) (nmAt l k) (vlAt l k)
def wholeAt (l : List PR) : Nat → List Int
  | 0 => []
  | k + 1 => if k % 8 = 0 then wholeAt l k ++ le (bodyAt l k).length 4 else wholeAt l k
def cntAt (k : Nat) : Nat := (k + 7) / 8
theorem cnt_succ (k : Nat) : cntAt (k + 1) = if k % 8 = 0 then cntAt k + 1 else cntAt k := by unfold cntAt; split <;> omega
theorem whole_length (l : List PR) : ∀ k, (wholeAt l k).length = 4 * cntAt k
  | 0 => rfl
  | k + 1 => by
    have ih := whole_length l k
    rw [cnt_succ]
    simp only [wholeAt]
    split
    · rw [List.length_append, ih, le_length]; omega
    · exact ih
def pageOf (l : List PR) : List Int := bodyAt l l.length ++ wholeAt l l.length ++ le (cntAt l.length) 4
/-- The name at a place is behind the one ahead. -/
def Ord (l : List PR) (k : Nat) : Prop := k = 0 ∨ ltN (lastAt l k) (nmAt l k) = true
def Fit (l : List PR) (k : Nat) : Prop := (bodyAt l (k + 1)).length ≤ 262144
def Good (l : List PR) (k : Nat) : Prop := ∀ j, j < k → Ord l j ∧ Fit l j
theorem good_succ {l : List PR} {k : Nat} (h : Good l k) (h1 : Ord l k) (h2 : Fit l k) : Good l (k + 1) := by
  intro j hj
  rcases Nat.lt_or_ge j k with g | g
  · exact h j g
  · obtain rfl : j = k := by omega
    exact ⟨h1, h2⟩
theorem same_last (l : List PR) (k : Nat) : sameAt l k ≤ (lastAt l k).length := by
  unfold sameAt
  split
  · omega
  · exact cmn_left _ _
theorem same_name (l : List PR) (k : Nat) : sameAt l k ≤ (nmAt l k).length := by
  unfold sameAt
  split
  · omega
  · exact cmn_right _ _
theorem same_take (l : List PR) (k : Nat) : (lastAt l k).take (sameAt l k) = (nmAt l k).take (sameAt l k) := by
  unfold sameAt
  split
  · simp
  · exact cmn_take _ _
theorem row_length (s : Nat) (n v : List Int) : 3 + (n.length - s) + v.length ≤ (rowOf s n v).length := by
  have h1 := put7_pos s
  have h2 := put7_pos (n.length - s)
  have h3 := put7_pos v.length
  unfold rowOf
  simp only [List.length_append, List.length_drop]
  omega
theorem body_mono (l : List PR) (k : Nat) : (bodyAt l k).length + 3 ≤ (bodyAt l (k + 1)).length := by
  have := row_length (sameAt l k) (nmAt l k) (vlAt l k)
  simp only [bodyAt, List.length_append]
  omega
theorem body_le (l : List PR) {k n : Nat} (h : k ≤ n) : (bodyAt l k).length + 3 * (n - k) ≤ (bodyAt l n).length := by
  induction n with
  | zero => obtain rfl : k = 0 := by omega
            simp
  | succ n ih =>
    rcases Nat.lt_or_ge k (n + 1) with g | g
    · have := ih (by omega)
      have := body_mono l n
      omega
    · obtain rfl : k = n + 1 := by omega
      simp
theorem body_len (l : List PR) (k : Nat) : 3 * k ≤ (bodyAt l k).length := by
  have := body_le l (Nat.zero_le k)
  omega
theorem body_fit {l : List PR} {k : Nat} (h : Good l k) : (bodyAt l k).length ≤ 262144 := by
  cases k with
  | zero => simp [bodyAt]
  | succ k => exact (h k (by omega)).2
/-- The name that was laid is no longer than what was laid. -/
theorem name_body (l : List PR) : ∀ k, (lastAt l k).length ≤ (bodyAt l k).length
  | 0 => by simp [lastAt]
  | k + 1 => by
    have ih := name_body l k
    have h1 := same_last l k
    have h2 := same_name l k
    have h3 := row_length (sameAt l k) (nmAt l k) (vlAt l k)
    have : lastAt l (k + 1) = nmAt l k := by simp [lastAt]
    rw [this]
    simp only [bodyAt, List.length_append]
    omega

/-! ### A page read -/
def num1 (b : List Int) (at_ : Nat) : Option (Nat × Nat) := if (get (b.drop at_)).2.2 = 0 ∧ (get (b.drop at_)).1 ≤ b.length then some ((get (b.drop at_)).1, at_ + (get (b.drop at_)).2.1) else none
def fin (b : List Int) (last : List Int) (x0 x1 x2 a : Nat) : Option (PR × Nat) :=
  if x0 ≤ last.length ∧ x1 + x2 ≤ b.length - a then some ((last.take x0 ++ (b.drop a).take x1, (b.drop (a + x1)).take x2), a + x1 + x2) else none
def oneP (b : List Int) (at_ : Nat) (last : List Int) : Option (PR × Nat) :=
  (num1 b at_).bind fun p0 => (num1 b p0.2).bind fun p1 => (num1 b p1.2).bind fun p2 => fin b last p0.1 p1.1 p2.1 p2.2
theorem getAt_ok : ∀ (l : List Int) (i acc x k : Nat), getAt i acc l = (x, k, 0) → i < k ∧ k ≤ i + l.length
  | [], i, acc, x, k, h => by simp [getAt] at h
  | c :: r, i, acc, x, k, h => by
    simp only [getAt] at h
    split at h
    · simp at h
    · split at h
      · split at h
        · simp at h
        · simp only [Prod.mk.injEq] at h
          simp only [List.length_cons]
          omega
      · have := getAt_ok r _ _ _ _ h
        simp only [List.length_cons]
        omega
theorem num1_ok {b : List Int} {a x k : Nat} (h : num1 b a = some (x, k)) : a < k ∧ k ≤ b.length ∧ x ≤ b.length := by
  unfold num1 at h
  split at h
  · next hc =>
    simp only [Option.some.injEq, Prod.mk.injEq] at h
    obtain ⟨rfl, rfl⟩ := h
    have h1 : get (b.drop a) = ((get (b.drop a)).1, (get (b.drop a)).2.1, 0) := by rw [← hc.1]
    have h2 := getAt_ok _ _ _ _ _ h1
    rw [List.length_drop] at h2
    omega
  · cases h
theorem num1_put (b pre post : List Int) (n : Nat) (hb : b = pre ++ (put7 n ++ post)) (hn : n ≤ b.length) (hn2 : n < 18446744073709551616) : num1 b pre.length = some (n, pre.length + (put7 n).length) := by
  have hd : b.drop pre.length = put7 n ++ post := by rw [hb]; simp
  unfold num1
  rw [hd, get_put7 hn2, if_pos ⟨rfl, hn⟩]
theorem oneP_ok {b last : List Int} {a : Nat} {p : PR} {nx : Nat} (h : oneP b a last = some (p, nx)) : a + 3 ≤ nx ∧ nx ≤ b.length ∧ p.1.length + a + 3 ≤ last.length + nx ∧ p.2.length ≤ b.length := by
  unfold oneP at h
  cases h0 : num1 b a with
  | none => rw [h0] at h; simp at h
  | some p0 =>
    obtain ⟨x0, a0⟩ := p0
    rw [h0] at h
    simp only [Option.bind_some] at h
    cases h1 : num1 b a0 with
    | none => rw [h1] at h; simp at h
    | some p1 =>
      obtain ⟨x1, a1⟩ := p1
      rw [h1] at h
      simp only [Option.bind_some] at h
      cases h2 : num1 b a1 with
      | none => rw [h2] at h; simp at h
      | some p2 =>
        obtain ⟨x2, a2⟩ := p2
        rw [h2] at h
        simp only [Option.bind_some, fin] at h
        have k0 := num1_ok h0
        have k1 := num1_ok h1
        have k2 := num1_ok h2
        split at h
        · next hc =>
          simp only [Option.some.injEq, Prod.mk.injEq] at h
          obtain ⟨rfl, rfl⟩ := h
          simp only [List.length_append, List.length_take, List.length_drop]
          omega
        · cases h
/-- What was laid is read. -/
theorem oneP_row (b pre post last n v : List Int) (s : Nat) (hb : b = pre ++ (rowOf s n v ++ post)) (h1 : s ≤ last.length) (h2 : s ≤ n.length) (h3 : last.take s = n.take s) (h4 : s ≤ b.length) (h5 : b.length < 18446744073709551616) :
    oneP b pre.length last = some ((n, v), pre.length + (rowOf s n v).length) := by
  have hlen : b.length = pre.length + ((rowOf s n v).length + post.length) := by rw [hb]; simp
  have hrow : (rowOf s n v).length = (put7 s).length + (put7 (n.length - s)).length + (put7 v.length).length + (n.length - s) + v.length := by unfold rowOf; simp only [List.length_append, List.length_drop]
  have e0 := num1_put b pre (put7 (n.length - s) ++ (put7 v.length ++ (n.drop s ++ (v ++ post)))) s (by rw [hb]; unfold rowOf; simp only [List.append_assoc]) h4 (by omega)
  have e1 := num1_put b (pre ++ put7 s) (put7 v.length ++ (n.drop s ++ (v ++ post))) (n.length - s) (by rw [hb]; unfold rowOf; simp only [List.append_assoc]) (by omega) (by omega)
  have e2 := num1_put b (pre ++ put7 s ++ put7 (n.length - s)) (n.drop s ++ (v ++ post)) v.length (by rw [hb]; unfold rowOf; simp only [List.append_assoc]) (by omega) (by omega)
  simp only [List.length_append] at e1 e2
  have hd : b.drop (pre.length + (put7 s).length + (put7 (n.length - s)).length + (put7 v.length).length) = n.drop s ++ (v ++ post) := by
    rw [hb, show rowOf s n v = put7 s ++ put7 (n.length - s) ++ put7 v.length ++ n.drop s ++ v from rfl]
    rw [show pre ++ (put7 s ++ put7 (n.length - s) ++ put7 v.length ++ n.drop s ++ v ++ post) = (pre ++ put7 s ++ put7 (n.length - s) ++ put7 v.length) ++ (n.drop s ++ (v ++ post)) by simp only [List.append_assoc]]
    rw [show pre.length + (put7 s).length + (put7 (n.length - s)).length + (put7 v.length).length = (pre ++ put7 s ++ put7 (n.length - s) ++ put7 v.length).length by simp only [List.length_append]]
    rw [List.drop_left]
  unfold oneP
  rw [e0]
  simp only [Option.bind_some]
  rw [e1]
  simp only [Option.bind_some]
  rw [e2]
  simp only [Option.bind_some, fin]
  rw [if_pos ⟨h1, by omega⟩]
  rw [show b.drop (pre.length + (put7 s).length + (put7 (n.length - s)).length + (put7 v.length).length + (n.length - s)) = (b.drop (pre.length + (put7 s).length + (put7 (n.length - s)).length + (put7 v.length).length)).drop (n.length - s) by rw [List.drop_drop], hd, h3]
  have t1 : (n.drop s ++ (v ++ post)).take (n.length - s) = n.drop s := by
    rw [show n.length - s = (n.drop s).length by simp, List.take_left]
  have t2 : ((n.drop s ++ (v ++ post)).drop (n.length - s)).take v.length = v := by
    rw [show n.length - s = (n.drop s).length by simp, List.drop_left, List.take_left]
  rw [t1, t2, List.take_append_drop, hrow]
  congr 2
  omega
/-- Pairs read one behind the other, from a place on. -/
inductive Chain (b : List Int) (s : Nat) : Nat → List Int → List PR → Prop
  | nil : Chain b s s [] []
  | snoc {a : Nat} {last : List Int} {out : List PR} (p : PR) (nx : Nat) (h : Chain b s a last out) (ha : a < b.length) (ho : oneP b a last = some (p, nx)) : Chain b s nx p.1 (out ++ [p])
/-- .. to an end. -/
def Stuck (b : List Int) (a : Nat) (last : List Int) : Prop := b.length ≤ a ∨ oneP b a last = none
theorem chain_le {b : List Int} {s a : Nat} {last : List Int} {out : List PR} (h : Chain b s a last out) (hs : s ≤ b.length) : a ≤ b.length ∧ s + 3 * out.length ≤ a ∧ last.length + s ≤ a ∧ ∀ p ∈ out, p.1.length ≤ b.length ∧ p.2.length ≤ b.length := by
  induction h with
  | nil => exact ⟨hs, by simp, by simp, by simp⟩
  | @snoc a last out p nx h ha ho ih =>
    obtain ⟨i1, i2, i3, i4⟩ := ih
    obtain ⟨k1, k2, k3, k4⟩ := oneP_ok ho
    refine ⟨k2, by rw [List.length_append, List.length_singleton]; omega, by omega, ?_⟩
    intro q hq
    rcases List.mem_append.1 hq with hq | hq
    · exact i4 q hq
    · rw [List.mem_singleton.1 hq]
      exact ⟨by omega, k4⟩
theorem chain_inv {b : List Int} {s a : Nat} {last : List Int} {out : List PR} (h : Chain b s a last out) : (out = [] ∧ a = s ∧ last = []) ∨ ∃ a' last' out' p, Chain b s a' last' out' ∧ a' < b.length ∧ oneP b a' last' = some (p, a) ∧ last = p.1 ∧ out = out' ++ [p] := by
  cases h with
  | nil => exact .inl ⟨rfl, rfl, rfl⟩
  | snoc p nx h ha ho => exact .inr ⟨_, _, _, p, h, ha, ho, rfl, rfl⟩
/-- Of so many pairs there is one chain. -/
theorem chain_one {b : List Int} {s : Nat} : ∀ (m : Nat) {a a' : Nat} {last last' : List Int} {out out' : List PR}, Chain b s a last out → Chain b s a' last' out' → out.length = m → out'.length = m → a = a' ∧ last = last' ∧ out = out' := by
  intro m
  induction m with
  | zero =>
    intro a a' last last' out out' h h' hl hl'
    rcases chain_inv h with ⟨rfl, rfl, rfl⟩ | ⟨_, _, _, _, _, _, _, _, rfl⟩
    · rcases chain_inv h' with ⟨rfl, rfl, rfl⟩ | ⟨_, _, _, _, _, _, _, _, rfl⟩
      · exact ⟨rfl, rfl, rfl⟩
      · simp at hl'
    · simp at hl
  | succ m ih =>
    intro a a' last last' out out' h h' hl hl'
    rcases chain_inv h with ⟨rfl, rfl, rfl⟩ | ⟨a1, l1, o1, p1, c1, d1, e1, f1, rfl⟩
    · simp at hl
    · rcases chain_inv h' with ⟨rfl, rfl, rfl⟩ | ⟨a2, l2, o2, p2, c2, d2, e2, f2, rfl⟩
      · simp at hl'
      · obtain ⟨rfl, rfl, rfl⟩ := ih c1 c2 (by simpa using hl) (by simpa using hl')
        rw [e1] at e2
        simp only [Option.some.injEq, Prod.mk.injEq] at e2
        obtain ⟨rfl, rfl⟩ := e2
        exact ⟨rfl, by rw [f1, f2], rfl⟩
/-- A front of a chain is a chain. -/
theorem chain_front {b : List Int} {s a : Nat} {last : List Int} {out : List PR} (h : Chain b s a last out) : ∀ m, m < out.length → ∃ a' last' p nx, Chain b s a' last' (out.take m) ∧ a' < b.length ∧ oneP b a' last' = some (p, nx) := by
  induction h with
  | nil => intro m hm; simp at hm
  | @snoc a last out p nx h ha ho ih =>
    intro m hm
    rcases Nat.lt_or_ge m out.length with g | g
    · obtain ⟨a', l', p', n', k1, k2⟩ := ih m g
      exact ⟨a', l', p', n', by rw [List.take_append_of_le_length (by omega)]; exact k1, k2⟩
    · rw [List.length_append, List.length_singleton] at hm
      obtain rfl : m = out.length := by omega
      exact ⟨a, last, p, nx, by rw [List.take_left]; exact h, ha, ho⟩
/-- Chains that end are one. -/
theorem chain_end {b : List Int} {s a a' : Nat} {last last' : List Int} {out out' : List PR} (h : Chain b s a last out) (h' : Chain b s a' last' out') (k : Stuck b a last) (k' : Stuck b a' last') : a = a' ∧ last = last' ∧ out = out' := by
  have key : ∀ {a a' : Nat} {last last' : List Int} {out out' : List PR}, Chain b s a last out → Chain b s a' last' out' → Stuck b a last → out'.length ≤ out.length := by
    intro a a' last last' out out' h h' k
    rcases Nat.lt_or_ge out.length out'.length with g | g
    · exfalso
      obtain ⟨a2, l2, p2, n2, c2, d2, e2⟩ := chain_front h' out.length g
      obtain ⟨rfl, rfl, _⟩ := chain_one out.length h c2 rfl (by rw [List.length_take]; omega)
      rcases k with k | k
      · omega
      · rw [k] at e2; cases e2
    · exact g
  have h1 := key h h' k
  have h2 := key h' h k'
  exact chain_one out.length h h' rfl (by omega)
/-- What was made is read. -/
theorem chain_body (l : List PR) (n : Nat) (hn : n ≤ l.length) (hs : (bodyAt l n).length < 18446744073709551616) : ∀ k, k ≤ n → Chain (bodyAt l n) 0 (bodyAt l k).length (lastAt l k) (l.take k)
  | 0, _ => Chain.nil
  | k + 1, hk => by
    have ih := chain_body l n hn hs k (by omega)
    have hpost : ∀ m, k + 1 ≤ m → ∃ post, bodyAt l m = bodyAt l k ++ (rowOf (sameAt l k) (nmAt l k) (vlAt l k) ++ post) := by
      intro m
      induction m with
      | zero => intro h; omega
      | succ m ihm =>
        intro h
        rcases Nat.lt_or_ge k m with g | g
        · obtain ⟨post, hp⟩ := ihm (by omega)
          exact ⟨post ++ rowOf (sameAt l m) (nmAt l m) (vlAt l m), by simp only [bodyAt]; rw [hp]; simp only [List.append_assoc]⟩
        · obtain rfl : m = k := by omega
          exact ⟨[], by simp [bodyAt]⟩
    obtain ⟨post, hp⟩ := hpost n hk
    have hlt : (bodyAt l k).length < (bodyAt l n).length := by have := body_le l (show k ≤ n by omega); omega
    have h1 := same_last l k
    have h2 := name_body l k
    have ho := oneP_row (bodyAt l n) (bodyAt l k) post (lastAt l k) (nmAt l k) (vlAt l k) (sameAt l k) hp h1 (same_name l k) (same_take l k) (by omega) hs
    have hlk : k < l.length := by omega
    have hsn := Chain.snoc _ _ ih hlt ho
    have e1 : l.take (k + 1) = l.take k ++ [(nmAt l k, vlAt l k)] := by
      rw [List.take_succ_eq_append_getElem hlk]
      congr 2
      simp [nmAt, vlAt, List.getD_eq_getElem?_getD, List.getElem?_eq_getElem hlk]
    have e2 : lastAt l (k + 1) = nmAt l k := by simp [lastAt]
    have e3 : (bodyAt l (k + 1)).length = (bodyAt l k).length + (rowOf (sameAt l k) (nmAt l k) (vlAt l k)).length := by simp [bodyAt]
    rw [e1, e2, e3]
    exact hsn
/-- The places of those that are laid whole. -/
def places (l : List PR) : Nat → List Int
  | 0 => []
  | k + 1 => if k % 8 = 0 then places l k ++ [((bodyAt l k).length : Int)] else places l k
theorem places_length (l : List PR) : ∀ k, (places l k).length = cntAt k
  | 0 => rfl
  | k + 1 => by
    have ih := places_length l k
    rw [cnt_succ]
    simp only [places]
    split
    · rw [List.length_append, ih]; rfl
    · exact ih
theorem whole_places (l : List PR) : ∀ k, wholeAt l k = (places l k).flatMap fun x => le x.toNat 4
  | 0 => rfl
  | k + 1 => by
    have ih := whole_places l k
    simp only [places, wholeAt]
    split
    · rw [ih, List.flatMap_append]; simp
    · exact ih
/-- Bytes are a page. -/
def IsPage (xs : List Int) (l : List PR) : Prop := Good l l.length ∧ pageOf l = xs
theorem page_length (l : List PR) : (pageOf l).length = (bodyAt l l.length).length + 4 * cntAt l.length + 4 := by
  unfold pageOf; rw [List.length_append, List.length_append, whole_length, le_length]
theorem page_cnt {l : List PR} (h : Good l l.length) : leVal ((pageOf l).drop ((pageOf l).length - 4)) = cntAt l.length := by
  have h1 : (pageOf l).length - 4 = (bodyAt l l.length ++ wholeAt l l.length).length := by rw [page_length, List.length_append, whole_length]; omega
  rw [h1, pageOf, List.drop_left, leVal_le]
  have := body_fit h
  have := body_len l l.length
  unfold cntAt
  have : (256 : Nat) ^ 4 = 4294967296 := by decide
  omega
theorem page_body (l : List PR) : (pageOf l).take ((pageOf l).length - 4 - 4 * cntAt l.length) = bodyAt l l.length := by
  have h1 : (pageOf l).length - 4 - 4 * cntAt l.length = (bodyAt l l.length).length := by rw [page_length]; omega
  rw [h1, pageOf, List.append_assoc, List.take_left]
/-- Whole pages are read one way. -/
theorem page_chain {l : List PR} (h : Good l l.length) : Chain (bodyAt l l.length) 0 (bodyAt l l.length).length (lastAt l l.length) l := by
  have := chain_body l l.length (Nat.le_refl _) (by have := body_fit h; omega) l.length (Nat.le_refl _)
  rwa [List.take_length] at this
theorem page_inj {l l' : List PR} (h : Good l l.length) (h' : Good l' l'.length) (he : pageOf l = pageOf l') : l = l' := by
  have hc : cntAt l.length = cntAt l'.length := by rw [← page_cnt h, ← page_cnt h', he]
  have hb : bodyAt l l.length = bodyAt l' l'.length := by rw [← page_body l, ← page_body l', he, hc]
  have c := page_chain h
  have c' := page_chain h'
  rw [← hb] at c'
  exact (chain_end c c' (.inl (Nat.le_refl _)) (.inl (Nat.le_refl _))).2.2
end Go.Proofs.Ytnkeijdpjcclcaa.Pg
