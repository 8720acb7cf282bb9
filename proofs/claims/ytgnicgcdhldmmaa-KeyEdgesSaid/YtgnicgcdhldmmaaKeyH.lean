/- The order of inner texts; their bytes: plain laws. -/
import Derived.Test.YtgnicgcdhldmmaaKeyF
namespace Go.Proofs.Ytgnicgcdhldmmaa.Key
set_option linter.unusedVariables false
set_option linter.unusedSimpArgs false
open Go.Proofs.Ytgnicgcdhldmmaa.Kit Go.Proofs.Ytgnicgcdhldmmaa.Num Go.RowKit Go.Proofs.YtgnicgcdhldmmaaW.PrintWords Go.Proofs.YtgnicgcdhldmmaaW.PrintLast Go.Proofs.YtgnicgcdhldmmaaW.PrintMore NumPure
theorem ltN_esc : ∀ (a b : List Int), (∀ x ∈ a, 0 ≤ x) → (∀ x ∈ b, 0 ≤ x) → a ≠ b → ∀ t u : List Int, ltN (esc a ++ 0 :: 1 :: t) (esc b ++ 0 :: 1 :: u) = ltN a b
  | [], [], _, _, h, t, u => absurd rfl h
  | [], c :: b, _, hb, _, t, u => by
    have hc := hb c (by simp)
    by_cases h0 : c = 0
    · subst h0
      rw [esc_zero, esc_nil]
      simp [ltN]
    · rw [esc_cons _ h0, esc_nil]
      have : (0 : Int) < c := by omega
      simp [ltN, this]
  | c :: a, [], ha, _, _, t, u => by
    have hc := ha c (by simp)
    by_cases h0 : c = 0
    · subst h0
      rw [esc_zero, esc_nil]
      simp [ltN]
    · rw [esc_cons _ h0, esc_nil]
      have h1 : ¬ c < 0 := by omega
      simp [ltN, h0, h1]
  | c :: a, d :: b, ha, hb, h, t, u => by
    have hc := ha c (by simp)
    have hd := hb d (by simp)
    by_cases hcd : c = d
    · subst hcd
      have ih := ltN_esc a b (fun x hx => ha x (by simp [hx])) (fun x hx => hb x (by simp [hx])) (fun e => h (by rw [e])) t u
      by_cases h0 : c = 0
      · subst h0
        rw [esc_zero, esc_zero]
        simp only [List.cons_append, ltN, Int.lt_irrefl, if_false, if_true]
        exact ih
      · rw [esc_cons _ h0, esc_cons _ h0]
        simp only [List.cons_append, ltN, Int.lt_irrefl, if_false, if_true]
        exact ih
    · have e1 : ∃ r, esc (c :: a) ++ 0 :: 1 :: t = c :: r := by
        by_cases h0 : c = 0
        · subst h0; exact ⟨_, by rw [esc_zero]; rfl⟩
        · exact ⟨_, by rw [esc_cons _ h0]; rfl⟩
      have e2 : ∃ r, esc (d :: b) ++ 0 :: 1 :: u = d :: r := by
        by_cases h0 : d = 0
        · subst h0; exact ⟨_, by rw [esc_zero]; rfl⟩
        · exact ⟨_, by rw [esc_cons _ h0]; rfl⟩
      obtain ⟨r1, e1⟩ := e1
      obtain ⟨r2, e2⟩ := e2
      rw [e1, e2]
      simp [ltN, hcd]
theorem ltN_be (a b : Nat) : ∀ s, ltN (be a s) (be b s) = decide (a % 256 ^ s < b % 256 ^ s) := by
  intro s
  induction s with
  | zero => simp [be, le, ltN, Nat.mod_one]
  | succ s ih =>
    rw [be_succ, be_succ]
    simp only [ltN, ih]
    have ea : a % 256 ^ (s + 1) = a % 256 ^ s + 256 ^ s * (a / 256 ^ s % 256) := by rw [Nat.pow_succ, Nat.mod_mul]
    have eb : b % 256 ^ (s + 1) = b % 256 ^ s + 256 ^ s * (b / 256 ^ s % 256) := by rw [Nat.pow_succ, Nat.mod_mul]
    have ha : a % 256 ^ s < 256 ^ s := Nat.mod_lt _ (Nat.pow_pos (by omega))
    have hb : b % 256 ^ s < 256 ^ s := Nat.mod_lt _ (Nat.pow_pos (by omega))
    rw [ea, eb]
    generalize a % 256 ^ s = p at ha ⊢
    generalize b % 256 ^ s = q at hb ⊢
    generalize a / 256 ^ s % 256 = x
    generalize b / 256 ^ s % 256 = y
    generalize 256 ^ s = m at ha hb ⊢
    rcases Nat.lt_trichotomy x y with h | h | h
    · have h1 : (x : Int) < (y : Int) := by omega
      rw [if_pos h1]
      have h2 : m * (x + 1) ≤ m * y := Nat.mul_le_mul_left m h
      rw [Nat.mul_add, Nat.mul_one] at h2
      exact (decide_eq_true (by omega)).symm
    · subst h
      rw [if_neg (by omega), if_pos rfl]
      exact decide_eq_decide.2 (by omega)
    · rw [if_neg (by omega), if_neg (by omega)]
      have h2 : m * (y + 1) ≤ m * x := Nat.mul_le_mul_left m h
      rw [Nat.mul_add, Nat.mul_one] at h2
      exact (decide_eq_false (by omega)).symm
theorem num_of {x : Ent} (h : x.check = 0) : x.num = 2 * x.seq + (if x.del then 0 else 1) ∧ x.seq ≤ 72057594037927935 := by
  obtain ⟨_, _, h3, _, _⟩ := check_zero.1 h
  refine ⟨?_, h3⟩
  unfold Ent.num
  rw [Nat.mod_eq_of_lt (by omega)]
theorem inner_less (x y : Ent) (hx : x.check = 0) (hy : y.check = 0) (hc : x.cmp y ≠ 0) : Op.bytesLess x.inner.toList y.inner.toList = decide (x.cmp y < 0) := by
  have hby : ∀ z : Ent, Byte z.inL := fun z => by
    unfold Ent.inL
    refine Byte.append (Byte.append (fun c hc => ?_) (fun c hc => ?_)) (be_byte _ _)
    · unfold esc at hc
      rw [List.mem_flatMap] at hc
      obtain ⟨d, hd, hc⟩ := hc
      have := numsOf_byte z.key d hd
      split at hc <;> simp at hc <;> omega
    · simp at hc
      omega
  have hn : ∀ z : Ent, numsOf z.inner = z.inL := fun z => by unfold Ent.inner; exact numsOf_strOfNums _ (hby z)
  rw [less_nums, hn, hn]
  unfold Ent.inL
  rw [List.append_assoc, List.append_assoc]
  show ltN (esc (numsOf x.key) ++ 0 :: 1 :: be x.flip 8) (esc (numsOf y.key) ++ 0 :: 1 :: be y.flip 8) = _
  by_cases hk : x.key = y.key
  · rw [hk, ltN_pre, show (0 :: 1 :: be x.flip 8 : List Int) = [0, 1] ++ be x.flip 8 from rfl, show (0 :: 1 :: be y.flip 8 : List Int) = [0, 1] ++ be y.flip 8 from rfl, ltN_pre, ltN_be]
    have fx := flip_lt x
    have fy := flip_lt y
    rw [Nat.mod_eq_of_lt (by omega), Nat.mod_eq_of_lt (by omega)]
    obtain ⟨nx, sx⟩ := num_of hx
    obtain ⟨ny, sy⟩ := num_of hy
    have hs : x.seq ≠ y.seq := fun e => hc ((Ent.cmp_zero x y).2 ⟨hk, e⟩)
    have hcb : CB x.key y.key = 0 := (CB_zero _ _).2 hk
    have hlt : x.cmp y < 0 ↔ y.seq < x.seq := by
      unfold Ent.cmp
      rw [if_neg (by simpa using hcb)]
      by_cases g1 : y.seq < x.seq
      · rw [if_pos g1]; exact ⟨fun _ => g1, fun _ => by omega⟩
      · rw [if_neg g1, if_pos (by omega)]; exact ⟨fun h => by omega, fun h => absurd h g1⟩
    refine decide_eq_decide.2 ?_
    rw [hlt]
    unfold Ent.flip
    rw [nx, ny]
    split <;> split <;> omega
  · rw [ltN_esc _ _ (fun c hc => (numsOf_byte _ c hc).1) (fun c hc => (numsOf_byte _ c hc).1) (fun e => hk (numsOf_inj e)), ← less_nums, Ent.cmp_less x y hk]
/-- The i-th byte, from behind, of a number's complement. -/
theorem flip_digit (N i : Nat) (hN : N < 18446744073709551616) (hi : i < 8) : (18446744073709551615 - N) / 256 ^ i % 256 = 255 - N / 256 ^ i % 256 := by
  have h : i = 0 ∨ i = 1 ∨ i = 2 ∨ i = 3 ∨ i = 4 ∨ i = 5 ∨ i = 6 ∨ i = 7 := by omega
  rcases h with h | h | h | h | h | h | h | h <;> subst h <;> simp only [Nat.reducePow, Nat.pow_zero, Nat.pow_one] <;> omega
/-- What the law's second loop lays: the bytes down to the m-th. -/
theorem flip_take (x : Ent) (m : Nat) (hm : m < 8) : (be x.flip 8).take (8 - m) = (be x.flip 8).take (8 - (m + 1)) ++ [((255 - x.num / 256 ^ m % 256 : Nat) : Int)] := by
  have hl : (be x.flip 8).length = 8 := be_length _ _
  rw [show 8 - m = (8 - (m + 1)) + 1 by omega, List.take_succ_eq_append_getElem (by omega)]
  congr 1
  have hget : (be x.flip 8)[8 - (m + 1)]'(by omega) = ((x.flip / 256 ^ m % 256 : Nat) : Int) := by
    unfold be
    rw [List.getElem_reverse]
    simp only [le, List.getElem_map, List.getElem_range, List.length_map, List.length_range]
    rw [show 8 - 1 - (8 - (m + 1)) = m by omega]
  rw [hget, Ent.flip, flip_digit _ _ (num_lt x) hm]
end Go.Proofs.Ytgnicgcdhldmmaa.Key
