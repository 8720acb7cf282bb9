/- What Get tells of what Put laid, and of its front: plain laws. -/
import Derived.Test.YtgnicgcdhldmmaaKeyM
namespace Go.Proofs.Ytgnicgcdhldmmaa.Key
set_option linter.unusedVariables false
set_option linter.unusedSimpArgs false
open Go.Proofs.Ytgnicgcdhldmmaa.Kit Go.Proofs.Ytgnicgcdhldmmaa.Num Go.RowKit Go.Proofs.YtgnicgcdhldmmaaW.PrintWords Go.Proofs.YtgnicgcdhldmmaaW.PrintLast Go.Proofs.YtgnicgcdhldmmaaW.PrintMore NumPure
theorem high_split : ∀ l : List Int, Byte l → ∃ t r, l = t ++ r ∧ High t ∧ (r = [] ∨ ∃ c r', r = c :: r' ∧ 0 ≤ c ∧ c < 128)
  | [], _ => ⟨[], [], rfl, (fun x hx => by cases hx), .inl rfl⟩
  | c :: l, hb => by
    have hc := hb.head
    by_cases h : c < 128
    · exact ⟨[], c :: l, rfl, (fun x hx => by cases hx), .inr ⟨c, l, rfl, hc.1, h⟩⟩
    · obtain ⟨t, r, e, ht, hr⟩ := high_split l hb.tail
      refine ⟨c :: t, r, by rw [e]; rfl, fun x hx => ?_, hr⟩
      rcases List.mem_cons.1 hx with rfl | hx
      · exact ⟨by omega, hc.2⟩
      · exact ht x hx
theorem get_ok {l : List Int} (hb : Byte l) (h : (get l).2.2 = 0) : put7 (get l).1 = l.take (get l).2.1 ∧ (get l).1 < 18446744073709551616 := by
  obtain ⟨t, r, rfl, ht, hr⟩ := high_split l hb
  by_cases h9 : t.length ≤ 9
  · rcases hr with rfl | ⟨c, r', rfl, h0, h1⟩
    · rw [List.append_nil, get_short t ht h9] at h
      simp at h
    · rw [NumPure.get_at t c r' ht h9 h0] at h ⊢
      by_cases g1 : t.length = 9 ∧ 1 < c
      · rw [if_pos g1] at h; simp at h
      · rw [if_neg g1, if_pos h1] at h ⊢
        by_cases g2 : c = 0 ∧ 0 < t.length
        · rw [if_pos g2] at h; simp at h
        · rw [if_neg g2]
          exact ⟨put7_read t c r' ht h0 h1 g2, v7_64 t c h9 h0 (fun e => by omega)⟩
  · exfalso
    obtain ⟨a, c, r2, e, ha, hc⟩ : ∃ a c r2, t ++ r = a ++ c :: r2 ∧ a.length = 9 ∧ 128 ≤ c := by
      refine ⟨t.take 9, t[9]'(by omega), t.drop 10 ++ r, ?_, by rw [List.length_take]; omega, (ht _ (List.getElem_mem _)).1⟩
      rw [← List.cons_append, ← List.append_assoc, ← List.drop_eq_getElem_cons (by omega), List.take_append_drop]
    have hha : High a := fun x hx => by
      have : x ∈ t := by
        have h2 : a = (t ++ r).take 9 := by rw [e, List.take_left' ha]
        rw [h2, List.take_append_of_le_length (by omega)] at hx
        exact List.mem_of_mem_take hx
      exact ht x this
    rw [e, NumPure.get_at a c r2 hha (by omega) (by omega), if_pos ⟨ha, by omega⟩] at h
    simp at h
theorem put7_pre_high (n j : Nat) (hj : j < (put7 n).length) : High ((put7 n).take j) ∧ (j ≤ (put7 n).length - 1) := by
  obtain ⟨t, c, h1, h2, h3, h4, h5, h6⟩ := put7_form n
  rw [h1, List.length_append, List.length_singleton] at hj
  rw [h1, List.take_append_of_le_length (by omega)]
  exact ⟨fun x hx => h2 x (List.mem_of_mem_take hx), by rw [List.length_append, List.length_singleton]; omega⟩
/-- A text with its length ahead of it. -/
def laid (s : ByteArray) : List Int := put7 s.size ++ numsOf s
theorem laid_length (s : ByteArray) : (laid s).length = (put7 s.size).length + s.size := by rw [laid, List.length_append, numsOf_length]
theorem textF_laid (s : ByteArray) (hs : s.size < 18446744073709551616) (more : List Int) : textF (laid s ++ more) = (s, (laid s).length, 0) := by
  have hg : get (laid s ++ more) = (s.size, (put7 s.size).length, 0) := by rw [laid, List.append_assoc]; exact get_put7 hs _
  unfold textF
  rw [hg]
  simp only [ne_eq, not_true, if_false]
  rw [if_neg (by rw [List.length_append, laid_length]; omega), ← laid_length]
  congr 1
  rw [List.take_left, laid, List.drop_left, strOfNums_numsOf]
theorem textF_short (s : ByteArray) (hs : s.size < 18446744073709551616) (more : List Int) (j : Nat) (hj : j < (laid s).length) : (textF ((laid s ++ more).take j)).2.2 = 8 := by
  have hl10 := put7_len10 hs
  rw [laid_length] at hj
  by_cases h1 : j < (put7 s.size).length
  · have hp := put7_pre_high s.size j h1
    have e : (laid s ++ more).take j = (put7 s.size).take j := by rw [laid, List.append_assoc, List.take_append_of_le_length (by omega)]
    have hg := get_short ((put7 s.size).take j) hp.1 (by rw [List.length_take]; omega)
    unfold textF
    rw [e, hg]
    simp
  · have e : (laid s ++ more).take j = put7 s.size ++ (numsOf s).take (j - (put7 s.size).length) := by
      rw [laid, List.append_assoc, List.take_append, List.take_of_length_le (by omega), List.take_append_of_le_length (by rw [numsOf_length]; omega)]
    have hg := get_put7 hs ((numsOf s).take (j - (put7 s.size).length))
    unfold textF
    rw [e, hg]
    simp only [ne_eq, not_true, if_false]
    rw [if_pos]
    rw [List.length_append, List.length_take, numsOf_length]
    omega
theorem textF_ok {l : List Int} (hb : Byte l) (h : (textF l).2.2 = 0) : laid (textF l).1 = l.take (textF l).2.1 ∧ (textF l).1.size < 18446744073709551616 := by
  unfold textF at h ⊢
  by_cases h1 : (get l).2.2 ≠ 0
  · rw [if_pos h1] at h
    exact absurd h h1
  · rw [if_neg h1] at h ⊢
    have h0 : (get l).2.2 = 0 := by simpa using h1
    obtain ⟨hp, hv⟩ := get_ok hb h0
    have hle := get_le h0
    by_cases h2 : l.length - (get l).2.1 < (get l).1
    · rw [if_pos h2] at h
      simp at h
    · rw [if_neg h2]
      simp only
      have hsz : ((l.take ((get l).2.1 + (get l).1)).drop (get l).2.1).length = (get l).1 := by rw [List.length_drop, List.length_take]; omega
      refine ⟨?_, by rw [strOf_size, hsz]; exact hv⟩
      rw [laid, strOf_size, hsz, hp, numsOf_strOfNums _ ((hb.take _).drop _)]
      have : l.take (get l).2.1 = (l.take ((get l).2.1 + (get l).1)).take (get l).2.1 := by rw [List.take_take, Nat.min_eq_left (by omega)]
      rw [this, List.take_append_drop]
theorem putL_eq (x : Ent) : x.putL = laid x.inner ++ laid x.val := by unfold Ent.putL laid; simp
theorem but_bare (x : Ent) : x.bare.but x.val = x := rfl
theorem inner_small {x : Ent} (h : x.check = 0) : x.inner.size ≤ 300 := by
  obtain ⟨k1, k2, _, _, _⟩ := check_zero.1 h
  have h1 := esc_length (numsOf x.key)
  rw [numsOf_length] at h1
  rw [show x.inner = strOfNums (esc (numsOf x.key) ++ [0, 1] ++ be x.flip 8) from rfl, strOf_size, List.length_append, List.length_append, be_length]
  simp
  omega
theorem inL_byte (x : Ent) : Byte x.inL := by
  unfold Ent.inL
  refine Byte.append (Byte.append (fun c hc => ?_) (fun c hc => ?_)) (be_byte _ _)
  · unfold esc at hc
    rw [List.mem_flatMap] at hc
    obtain ⟨d, hd, hc⟩ := hc
    have := numsOf_byte x.key d hd
    split at hc <;> simp at hc <;> omega
  · simp at hc
    omega
theorem outer_of_inner {x : Ent} (h : x.check = 0) : outer (numsOf x.inner) = some x.bare := by
  rw [show x.inner = strOfNums x.inL from rfl, numsOf_strOfNums _ (inL_byte x)]
  exact outer_inner x h
/-- What was laid is read as it was. -/
theorem getE_putL {x : Ent} (h : x.check = 0) (more : List Int) : getE (x.putL ++ more) = (x, x.putL.length, 0) := by
  have hi := inner_small h
  obtain ⟨_, _, _, _, hv⟩ := check_zero.1 h
  unfold getE
  rw [putL_eq, List.append_assoc, textF_laid x.inner (by omega)]
  simp only
  rw [List.drop_left, textF_laid x.val (by omega), outer_of_inner h]
  unfold getP
  simp only [ne_eq, not_true, if_false]
  rw [but_bare, if_neg (by simpa using h), List.length_append]
theorem getE_cut {x : Ent} (h : x.check = 0) (more : List Int) (j : Nat) (hj : j < x.putL.length) : (getE ((x.putL ++ more).take j)).2.2 = 8 := by
  have hi := inner_small h
  obtain ⟨_, _, _, _, hv⟩ := check_zero.1 h
  rw [putL_eq, List.length_append] at hj
  unfold getE
  rw [putL_eq, List.append_assoc]
  by_cases h1 : j < (laid x.inner).length
  · have := textF_short x.inner (by omega) (laid x.val ++ more) j h1
    unfold getP
    rw [if_pos (by rw [this]; simp), this]
  · have e : (laid x.inner ++ (laid x.val ++ more)).take j = laid x.inner ++ (laid x.val ++ more).take (j - (laid x.inner).length) := by
      rw [List.take_append, List.take_of_length_le (by omega)]
    rw [e, textF_laid x.inner (by omega)]
    simp only
    rw [List.drop_left]
    have := textF_short x.val (by omega) more (j - (laid x.inner).length) (by omega)
    unfold getP
    simp only [ne_eq, not_true, if_false]
    rw [if_pos (by rw [this]; simp), this]
/-- What is read is laid just so. -/
theorem getE_ok {l : List Int} (hb : Byte l) (h : (getE l).2.2 = 0) : (getE l).1.check = 0 ∧ l = (getE l).1.putL ++ l.drop (getE l).2.1 ∧ (getE l).1.putL.length = (getE l).2.1 := by
  unfold getE at h ⊢
  have t1 := textF_ok (l := l) hb
  have t2 := textF_ok (l := l.drop (textF l).2.1) (hb.drop _)
  have l1 := textF_le (l := l)
  have l2 := textF_le (l := l.drop (textF l).2.1)
  have ho : ∀ x, outer (numsOf (textF l).1) = some x → x.inner = (textF l).1 := fun x hx => (inner_of_outer hx).1
  generalize outer (numsOf (textF l).1) = O at h ho ⊢
  generalize textF (l.drop (textF l).2.1) = T2 at h t2 l2 ⊢
  generalize hT1 : textF l = T1 at h t1 t2 ho l1 l2 ⊢
  obtain ⟨s1, n1, e1⟩ := T1
  obtain ⟨s2, k2, e2⟩ := T2
  simp only at t1 t2 ho l1 l2
  unfold getP at h ⊢
  simp only at h ⊢
  by_cases g1 : e1 ≠ 0
  · rw [if_pos g1] at h
    exact absurd h g1
  rw [if_neg g1] at h ⊢
  have g1' : e1 = 0 := by simpa using g1
  by_cases g2 : e2 ≠ 0
  · rw [if_pos g2] at h
    exact absurd h g2
  rw [if_neg g2] at h ⊢
  have g2' : e2 = 0 := by simpa using g2
  cases O with
  | none => simp at h
  | some x =>
    simp only at h ⊢
    by_cases g3 : (x.but s2).check ≠ 0
    · rw [if_pos g3] at h
      simp at h
    rw [if_neg g3]
    simp only
    obtain ⟨a1, a2⟩ := t1 g1'
    obtain ⟨b1, b2⟩ := t2 g2'
    obtain ⟨c1, c2, c3⟩ := l1 g1'
    obtain ⟨d1, d2, d3⟩ := l2 g2'
    have hin : (x.but s2).inner = s1 := ho x rfl
    have hval : (x.but s2).val = s2 := rfl
    have hl1 : (laid s1).length = n1 := by rw [a1, List.length_take]; omega
    have hl2 : (laid s2).length = k2 := by rw [b1, List.length_take]; omega
    refine ⟨by simpa using g3, ?_, ?_⟩
    · rw [putL_eq, hin, hval, a1, b1]
      have e1 : l.drop (n1 + k2) = (l.drop n1).drop k2 := by rw [List.drop_drop]
      rw [e1, List.append_assoc, List.take_append_drop, List.take_append_drop]
    · rw [putL_eq, hin, hval, List.length_append, hl1, hl2]
theorem getE_err (l : List Int) : ((getE l).2.2 = 0) ∨ (((getE l).2.2 = 2 ∨ (getE l).2.2 = 8) ∧ (getE l).1 = Ent.zero ∧ (getE l).2.1 = 0) := by
  unfold getE
  have h1 := textF_err l
  have h2 := textF_err (l.drop (textF l).2.1)
  generalize outer (numsOf (textF l).1) = O
  generalize textF (l.drop (textF l).2.1) = T2 at h2 ⊢
  generalize textF l = T1 at h1 ⊢
  unfold getP
  by_cases g1 : T1.2.2 ≠ 0
  · rw [if_pos g1]
    exact .inr ⟨by simpa [g1] using h1.resolve_left g1, rfl, rfl⟩
  rw [if_neg g1]
  by_cases g2 : T2.2.2 ≠ 0
  · rw [if_pos g2]
    exact .inr ⟨by simpa [g2] using h2.resolve_left g2, rfl, rfl⟩
  rw [if_neg g2]
  cases O with
  | none => exact .inr ⟨.inl rfl, rfl, rfl⟩
  | some x =>
    simp only
    split
    · exact .inr ⟨.inl rfl, rfl, rfl⟩
    · exact .inl rfl
end Go.Proofs.Ytgnicgcdhldmmaa.Key
