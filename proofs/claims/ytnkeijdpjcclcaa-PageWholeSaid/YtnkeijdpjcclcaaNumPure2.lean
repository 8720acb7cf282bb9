/- Plain laws of numbers as bytes, second part: what is laid is read as it was; what is read is laid just so. -/
import Derived.Test.YtnkeijdpjcclcaaNumPure
namespace NumPure
set_option linter.unusedVariables false

/-- seven bits a byte, the lowest first -/
def v7 : List Int → Nat
  | [] => 0
  | c :: r => c.toNat % 128 + 128 * v7 r
theorem v7_snoc (t : List Int) (c : Int) : v7 (t ++ [c]) = v7 t + 128 ^ t.length * (c.toNat % 128) := by
  induction t with
  | nil => simp [v7]
  | cons x r ih =>
    simp only [List.cons_append, v7, ih, List.length_cons, Nat.pow_succ]
    rw [Nat.mul_add, ← Nat.mul_assoc, Nat.mul_comm 128 (128 ^ r.length), Nat.add_assoc]
def High (t : List Int) : Prop := ∀ x ∈ t, 128 ≤ x ∧ x < 256
theorem High.head {c : Int} {r : List Int} (h : High (c :: r)) : 128 ≤ c ∧ c < 256 := h c (by simp)
theorem High.tail {c : Int} {r : List Int} (h : High (c :: r)) : High r := fun x hx => h x (by simp [hx])
theorem v7_pos (t : List Int) (c : Int) (hc : 0 < c) (hc2 : c < 128) : 0 < v7 (t ++ [c]) := by
  rw [v7_snoc]
  have : 0 < 128 ^ t.length * (c.toNat % 128) := Nat.mul_pos (Nat.pow_pos (by omega)) (by omega)
  omega
theorem put7_v7 (t : List Int) (c : Int) (ht : High t) (h0 : 0 ≤ c) (h1 : c < 128) (h2 : 0 < c ∨ t = []) : put7 (v7 (t ++ [c])) = t ++ [c] := by
  induction t with
  | nil =>
    simp only [List.nil_append, v7]
    rw [put7_small (by omega)]
    congr 1
    omega
  | cons x r ih =>
    have hc : 0 < c := by rcases h2 with h | h; exact h; cases h
    have hx := ht.head
    have hp := v7_pos r c hc h1
    have ihr := ih ht.tail (.inl hc)
    simp only [List.cons_append, v7]
    rw [put7_big (by omega), show (x.toNat % 128 + 128 * v7 (r ++ [c])) / 128 = v7 (r ++ [c]) by omega, ihr]
    congr 1
    omega
theorem put7_form (n : Nat) : ∃ t c, put7 n = t ++ [c] ∧ High t ∧ 0 ≤ c ∧ c < 128 ∧ (0 < c ∨ t = []) ∧ v7 (t ++ [c]) = n := by
  induction n using Nat.strongRecOn with
  | _ n ih =>
    by_cases h : n < 128
    · exact ⟨[], n, by rw [put7_small h]; rfl, fun x hx => absurd hx List.not_mem_nil, by omega, by omega, .inr rfl, by simp [v7]; omega⟩
    · obtain ⟨t, c, h1, h2, h3, h4, h5, h6⟩ := ih (n / 128) (by omega)
      refine ⟨((n % 128 + 128 : Nat) : Int) :: t, c, by rw [put7_big h, h1]; rfl, ?_, h3, h4, ?_, ?_⟩
      · intro x hx
        rcases List.mem_cons.1 hx with rfl | hx
        · omega
        · exact h2 x hx
      · rcases h5 with h5 | h5
        · exact .inl h5
        · subst h5
          simp only [List.nil_append, v7] at h6
          left
          omega
      · simp only [List.cons_append, v7, h6]
        omega
theorem getAt_high (t : List Int) (r : List Int) (ht : High t) : ∀ i acc, i + t.length ≤ 9 → getAt i acc (t ++ r) = getAt (i + t.length) (acc + 2 ^ (7 * i) * v7 t) r := by
  induction t with
  | nil => intro i acc _; simp [v7]
  | cons x t ih =>
    intro i acc hi
    have hx := ht.head
    rw [List.length_cons] at hi
    rw [List.cons_append]
    simp only [getAt]
    rw [if_neg (by omega), if_neg (by omega), ih ht.tail (i + 1) _ (by omega)]
    congr 1
    · rw [List.length_cons]; omega
    · simp only [v7]
      rw [show 7 * (i + 1) = 7 * i + 7 by omega, Nat.pow_add, Nat.mul_add, Nat.mul_assoc, Nat.add_assoc, Nat.mul_comm (x.toNat % 128)]
/-- What Get tells where the bytes with their highest bit set end. -/
theorem get_at (t : List Int) (c : Int) (r : List Int) (ht : High t) (h9 : t.length ≤ 9) (h0 : 0 ≤ c) : get (t ++ c :: r) =
    if t.length = 9 ∧ 1 < c then (0, 0, 2) else if c < 128 then (if c = 0 ∧ 0 < t.length then (0, 0, 2) else (v7 (t ++ [c]), t.length + 1, 0)) else getAt (t.length + 1) (v7 (t ++ [c])) r := by
  unfold get
  rw [getAt_high t (c :: r) ht 0 0 (by omega)]
  have e : ∀ (a b : Nat), 2 ^ (7 * a) * b = 128 ^ a * b := fun a b => by rw [Nat.pow_mul]
  simp only [getAt, Nat.zero_add, Nat.mul_zero, Nat.pow_zero, Nat.one_mul]
  rw [v7_snoc, ← e, Nat.mul_comm (2 ^ (7 * t.length))]
theorem get_short (t : List Int) (ht : High t) (h9 : t.length ≤ 9) : get t = (0, 0, 8) := by
  unfold get
  have := getAt_high t [] ht 0 0 (by omega)
  rw [List.append_nil] at this
  rw [this]
  rfl
theorem get_put7 {n : Nat} (hn : n < 18446744073709551616) (more : List Int) : get (put7 n ++ more) = (n, (put7 n).length, 0) := by
  obtain ⟨t, c, h1, h2, h3, h4, h5, h6⟩ := put7_form n
  have hl := put7_len10 hn
  rw [h1, List.length_append, List.length_singleton] at hl
  have hc9 : t.length = 9 → c ≤ 1 := by
    intro h
    rw [v7_snoc, h] at h6
    have : (128 : Nat) ^ 9 = 9223372036854775808 := by decide
    rw [this] at h6
    omega
  rw [h1, List.append_assoc, List.singleton_append, get_at t c more h2 (by omega) h3, if_neg (by omega), if_pos h4, if_neg, h6, List.length_append, List.length_singleton]
  rintro ⟨hc, ht⟩
  rcases h5 with h5 | h5
  · omega
  · rw [h5] at ht; simp at ht
/-- What is read is laid just so. -/
theorem put7_read (t : List Int) (c : Int) (r : List Int) (ht : High t) (h0 : 0 ≤ c) (h1 : c < 128) (h2 : ¬ (c = 0 ∧ 0 < t.length)) : put7 (v7 (t ++ [c])) = (t ++ c :: r).take (t.length + 1) := by
  rw [put7_v7 t c ht h0 h1]
  · rw [List.take_append, List.take_of_length_le (by omega)]
    simp
  · by_cases h : 0 < c
    · exact .inl h
    · right
      have : c = 0 := by omega
      cases t with
      | nil => rfl
      | cons x t => exact absurd ⟨this, by simp⟩ h2
theorem v7_lt (t : List Int) : v7 t < 128 ^ t.length := by
  induction t with
  | nil => simp [v7]
  | cons x t ih =>
    rw [List.length_cons, Nat.pow_succ]
    simp only [v7]
    omega
theorem v7_64 (t : List Int) (c : Int) (h9 : t.length ≤ 9) (h1 : 0 ≤ c) (h2 : t.length = 9 → c ≤ 1) : v7 (t ++ [c]) < 18446744073709551616 := by
  rw [v7_snoc]
  have h3 := v7_lt t
  by_cases h : t.length = 9
  · have hc := h2 h
    rw [h] at h3 ⊢
    have : (128 : Nat) ^ 9 = 9223372036854775808 := by decide
    rw [this] at h3 ⊢
    have : c.toNat % 128 ≤ 1 := by omega
    have : 9223372036854775808 * (c.toNat % 128) ≤ 9223372036854775808 * 1 := Nat.mul_le_mul_left _ this
    omega
  · have h4 : 128 ^ t.length ≤ 128 ^ 8 := Nat.pow_le_pow_right (by omega) (by omega)
    have h5 : (128 : Nat) ^ 8 = 72057594037927936 := by decide
    have : 128 ^ t.length * (c.toNat % 128) ≤ 128 ^ t.length * 127 := Nat.mul_le_mul_left _ (by omega)
    omega

theorem compact_byte {n : Nat} : Byte (compact n) := by
  unfold compact
  split
  · intro x hx
    rcases List.mem_singleton.1 hx with rfl
    omega
  · have key : ∀ (s : Nat) (c : Int), 0 ≤ c → c < 256 → Byte (c :: le n s) := by
      intro s c h1 h2 x hx
      rcases List.mem_cons.1 hx with rfl | hx
      · exact ⟨h1, h2⟩
      · exact le_byte n s x hx
    split
    · exact key 2 253 (by omega) (by omega)
    · split
      · exact key 4 254 (by omega) (by omega)
      · exact key 8 255 (by omega) (by omega)
theorem expand_of (c : Int) (s n : Nat) (more : List Int) (hc : ¬ c < 253) (hs : 2 * 2 ^ (c.toNat - 253) = s) (hn : n < 256 ^ s) : expand ((c :: le n s) ++ more) = if (compact n).length ≠ 1 + s then (0, 0, 2) else (n, 1 + s, 0) := by
  unfold expand
  simp only [List.cons_append, if_neg hc, hs]
  rw [if_neg (by simp [le_length]; omega)]
  have : ((c :: (le n s ++ more)).take (1 + s)).drop 1 = le n s := by
    rw [Nat.add_comm, List.take_succ_cons, List.drop_succ_cons, List.drop_zero, List.take_append, le_length, Nat.sub_self, List.take_zero, List.append_nil, List.take_of_length_le (by rw [le_length]; omega)]
  rw [this, leVal_le n s hn]
theorem expand_compact {n : Nat} (hn : n < 18446744073709551616) (more : List Int) : expand (compact n ++ more) = (n, (compact n).length, 0) := by
  by_cases h1 : n < 253
  · have hc : compact n = [(n : Int)] := if_pos h1
    rw [hc]
    unfold expand
    simp only [List.cons_append, List.length_singleton]
    rw [if_pos (by omega), Int.toNat_natCast]
  · by_cases h2 : n ≤ 65535
    · have hc : compact n = 253 :: le n 2 := by unfold compact; rw [if_neg h1, if_pos h2]
      have := expand_of 253 2 n more (by omega) rfl (by omega)
      rw [hc] at this ⊢
      rw [this, if_neg (by simp [le_length]), List.length_cons, le_length]
    · by_cases h3 : n ≤ 4294967295
      · have hc : compact n = 254 :: le n 4 := by unfold compact; rw [if_neg h1, if_neg h2, if_pos h3]
        have := expand_of 254 4 n more (by omega) rfl (by omega)
        rw [hc] at this ⊢
        rw [this, if_neg (by simp [le_length]), List.length_cons, le_length]
      · have hc : compact n = 255 :: le n 8 := by unfold compact; rw [if_neg h1, if_neg h2, if_neg h3]
        have := expand_of 255 8 n more (by omega) rfl (by omega)
        rw [hc] at this ⊢
        rw [this, if_neg (by simp [le_length]), List.length_cons, le_length]
end NumPure
