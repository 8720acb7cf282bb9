/- Merged of: NumPure NumPure2 Kit Gr Kit2 Any Walk Walk2 Walk3 Walk4 Str Str2 PgP Num NumAid Box Ops -/
import Derived.Test.YtnkeijdpjcclcaaProg
import Derived.Below
import Derived.Deep.Draws
import Derived.Deep.AppendLies
import Derived.Maps.AppendAt
import Derived.OwnWalk
import Derived.Laws.BytesArg
import Derived.Laws.MakeOwn
import Derived.Laws.OwnMore
import Derived.Deep.OwnRows
import Derived.Tactics
import Derived.Lib.ConvBytes
import Derived.Laws.Slices
import Derived.WalkKit
import Derived.KernelRfl
import Derived.RowKit3
import Derived.Deep.LoopGhost
import Derived.Deep.QuietTactic
import Derived.BigQuiet
import Derived.WideLaws
import Derived.Deep.DeepCutAuto
import Derived.Deep.CutBlock
import Derived.Deep.RegionHeld3
import Derived.Laws.Rows
import Derived.Lib.AppendStr
import Derived.ArgAppend
import Derived.Laws.IdiomCopy
import Derived.OrdersHeld
import Derived.Laws.BitsLemmas
import Derived.Laws.BitsAllLaws
import Derived.RowKit
import Derived.Outline
import Derived.Lib.Hide
import Derived.Lib.SlBytesConst
import Derived.Test.YtnkeijdpjcclcaaWWords
import Derived.Test.YtnkeijdpjcclcaaWLast
import Derived.Test.YtnkeijdpjcclcaaWTab
import Derived.Test.YtnkeijdpjcclcaaWFour
import Derived.Test.YtnkeijdpjcclcaaWMore
import Derived.Test.YtnkeijdpjcclcaaWGuard
import Derived.Orders
import Derived.Deep.MidRow
import Derived.Lib.Strings
import Derived.WalkLawsBesides
import Derived.WalkSpells
import Derived.Laws.Tables
import Derived.Great.BuildSlice
import Derived.Laws.StructEq
import Derived.ChangeKeysEq
-- NumPure
/- Plain laws of numbers as bytes. -/
namespace NumPure

/-- seven bits a byte, the lowest first -/
def put7 (n : Nat) : List Int := if n < 128 then [(n : Int)] else ((n % 128 + 128 : Nat) : Int) :: put7 (n / 128)
termination_by n
decreasing_by omega
theorem put7_small {n : Nat} (h : n < 128) : put7 n = [(n : Int)] := by rw [put7, if_pos h]
theorem put7_big {n : Nat} (h : ¬ n < 128) : put7 n = ((n % 128 + 128 : Nat) : Int) :: put7 (n / 128) := by rw [put7, if_neg h]
theorem put7_pos (n : Nat) : 0 < (put7 n).length := by
  by_cases h : n < 128
  · rw [put7_small h]; simp
  · rw [put7_big h]; simp
theorem put7_len (k n : Nat) (h : n < 128 ^ (k + 1)) : (put7 n).length ≤ k + 1 := by
  induction k generalizing n with
  | zero => rw [put7_small (by omega)]; simp
  | succ k ih =>
    by_cases hn : n < 128
    · rw [put7_small hn]; simp
    · rw [put7_big hn, List.length_cons]
      have := ih (n / 128) (by rw [Nat.pow_succ] at h; omega)
      omega
theorem put7_len10 {n : Nat} (h : n < 18446744073709551616) : (put7 n).length ≤ 10 := put7_len 9 n (by omega)
theorem put7_byte (n : Nat) : ∀ x ∈ put7 n, 0 ≤ x ∧ x < 256 := by
  induction n using Nat.strongRecOn with
  | _ n ih =>
    by_cases h : n < 128
    · rw [put7_small h]
      intro x hx
      rcases List.mem_singleton.1 hx with rfl
      omega
    · rw [put7_big h]
      intro x hx
      rcases List.mem_cons.1 hx with rfl | hx
      · omega
      · exact ih _ (by omega) x hx

/-- the lowest s bytes, the lowest first -/
def le (n s : Nat) : List Int := (List.range s).map fun i => ((n / 256 ^ i % 256 : Nat) : Int)
theorem le_zero (n : Nat) : le n 0 = [] := rfl
theorem le_succ (n s : Nat) : le n (s + 1) = le n s ++ [((n / 256 ^ s % 256 : Nat) : Int)] := by simp [le, List.range_succ]
theorem le_length (n s : Nat) : (le n s).length = s := by simp [le]
theorem le_byte (n s : Nat) : ∀ x ∈ le n s, 0 ≤ x ∧ x < 256 := by
  intro x hx
  obtain ⟨i, _, rfl⟩ := List.mem_map.1 hx
  omega
/-- .. the highest first -/
def be (n s : Nat) : List Int := (le n s).reverse
theorem be_length (n s : Nat) : (be n s).length = s := by simp [be, le_length]
theorem be_byte (n s : Nat) : ∀ x ∈ be n s, 0 ≤ x ∧ x < 256 := fun x hx => le_byte n s x (List.mem_reverse.1 hx)
theorem be_succ (n s : Nat) : be n (s + 1) = ((n / 256 ^ s % 256 : Nat) : Int) :: be n s := by simp [be, le_succ]
/-- the number of bytes, the lowest first -/
def leVal : List Int → Nat
  | [] => 0
  | c :: r => c.toNat + 256 * leVal r
/-- .. the highest first -/
def beVal (l : List Int) : Nat := l.foldl (fun a c => a * 256 + c.toNat) 0
def Byte (l : List Int) : Prop := ∀ x ∈ l, 0 ≤ x ∧ x < 256
theorem Byte.head {c : Int} {r : List Int} (h : Byte (c :: r)) : 0 ≤ c ∧ c < 256 := h c (by simp)
theorem Byte.tail {c : Int} {r : List Int} (h : Byte (c :: r)) : Byte r := fun x hx => h x (by simp [hx])
theorem Byte.take {l : List Int} (h : Byte l) (k : Nat) : Byte (l.take k) := fun x hx => h x (List.mem_of_mem_take hx)
theorem Byte.drop {l : List Int} (h : Byte l) (k : Nat) : Byte (l.drop k) := fun x hx => h x (List.mem_of_mem_drop hx)
theorem Byte.append {l k : List Int} (h : Byte l) (h' : Byte k) : Byte (l ++ k) := fun x hx => by
  rcases List.mem_append.1 hx with hx | hx
  · exact h x hx
  · exact h' x hx
theorem leVal_lt {l : List Int} (h : Byte l) : leVal l < 256 ^ l.length := by
  induction l with
  | nil => simp [leVal]
  | cons c r ih =>
    have h1 := ih h.tail
    have h2 := h.head
    rw [List.length_cons, Nat.pow_succ]
    simp only [leVal]
    omega
theorem leVal_append (l : List Int) (c : Int) : leVal (l ++ [c]) = leVal l + 256 ^ l.length * c.toNat := by
  induction l with
  | nil => simp [leVal]
  | cons x r ih =>
    simp only [List.cons_append, leVal, ih, List.length_cons, Nat.pow_succ]
    rw [Nat.mul_add, ← Nat.mul_assoc, Nat.mul_comm 256 (256 ^ r.length), Nat.add_assoc]
theorem leVal_drop (l : List Int) (k : Nat) (h : k < l.length) : leVal (l.drop k) = (l.getD k 0).toNat + 256 * leVal (l.drop (k + 1)) := by
  rw [List.drop_eq_getElem_cons h]
  simp only [leVal]
  rw [List.getD_eq_getElem?_getD, List.getElem?_eq_getElem h]
  rfl
theorem leVal_le (n s : Nat) (h : n < 256 ^ s) : leVal (le n s) = n := by
  have key : ∀ s, leVal (le n s) = n % 256 ^ s := by
    intro s
    induction s with
    | zero => simp [le_zero, leVal, Nat.mod_one]
    | succ s ih =>
      rw [le_succ, leVal_append, ih, le_length, Int.toNat_natCast, Nat.pow_succ, Nat.mod_mul]
  rw [key s, Nat.mod_eq_of_lt h]
theorem le_leVal (l : List Int) (h : Byte l) : le (leVal l) l.length = l := by
  have hc : ∀ (l : List Int), Byte l → ∀ i, i < l.length → leVal l / 256 ^ i % 256 = (l.getD i 0).toNat := by
    intro l
    induction l with
    | nil => intro _ i hi; simp at hi
    | cons c r ih =>
      intro h i hi
      have h2 := h.head
      cases i with
      | zero => simp [leVal]; omega
      | succ i =>
        rw [Nat.pow_succ, Nat.mul_comm, ← Nat.div_div_eq_div_mul]
        simp only [leVal]
        rw [show (c.toNat + 256 * leVal r) / 256 = leVal r by omega]
        rw [ih h.tail i (by simpa using hi)]
        rfl
  apply List.ext_getElem
  · rw [le_length]
  · intro i h1 h2
    simp only [le, List.getElem_map, List.getElem_range]
    rw [hc l h i h2, List.getD_eq_getElem?_getD, List.getElem?_eq_getElem h2]
    have := h _ (List.getElem_mem h2)
    simp only [Option.getD_some]
    omega
theorem beVal_snoc (l : List Int) (c : Int) : beVal (l ++ [c]) = beVal l * 256 + c.toNat := by simp [beVal, List.foldl_append]
theorem beVal_reverse (l : List Int) : beVal l.reverse = leVal l := by
  induction l with
  | nil => rfl
  | cons c r ih => rw [List.reverse_cons, beVal_snoc, ih]; simp only [leVal]; omega
theorem beVal_eq (l : List Int) : beVal l = leVal l.reverse := by rw [← beVal_reverse, List.reverse_reverse]
theorem beVal_lt {l : List Int} (h : Byte l) : beVal l < 256 ^ l.length := by
  rw [beVal_eq, ← List.length_reverse]
  exact leVal_lt fun x hx => h x (List.mem_reverse.1 hx)
theorem beVal_be (n s : Nat) (h : n < 256 ^ s) : beVal (be n s) = n := by rw [beVal_eq, be, List.reverse_reverse, leVal_le n s h]
theorem be_beVal (l : List Int) (h : Byte l) : be (beVal l) l.length = l := by
  have := le_leVal l.reverse (fun x hx => h x (List.mem_reverse.1 hx))
  rw [List.length_reverse, ← beVal_eq] at this
  rw [be, this, List.reverse_reverse]

/-- as Bitcoin lays a number -/
def compact (n : Nat) : List Int := if n < 253 then [(n : Int)] else if n ≤ 65535 then 253 :: le n 2 else if n ≤ 4294967295 then 254 :: le n 4 else 255 :: le n 8

/-- What Get tells from byte i on: the number, how many bytes, the error. -/
def getAt : Nat → Nat → List Int → Nat × Nat × Nat
  | _, _, [] => (0, 0, 8)
  | i, acc, c :: r =>
    if i = 9 ∧ 1 < c then (0, 0, 2)
    else if c < 128 then (if c = 0 ∧ 0 < i then (0, 0, 2) else (acc + c.toNat % 128 * 2 ^ (7 * i), i + 1, 0))
    else getAt (i + 1) (acc + c.toNat % 128 * 2 ^ (7 * i)) r
def get (l : List Int) : Nat × Nat × Nat := getAt 0 0 l
/-- What Expand tells. -/
def expand (l : List Int) : Nat × Nat × Nat :=
  match l with
  | [] => (0, 0, 8)
  | c :: _ =>
    if c < 253 then (c.toNat, 1, 0)
    else
      let size := 2 * 2 ^ (c.toNat - 253)
      if l.length < 1 + size then (0, 0, 8)
      else
        let n := leVal ((l.take (1 + size)).drop 1)
        if (compact n).length ≠ 1 + size then (0, 0, 2) else (n, 1 + size, 0)
end NumPure
-- NumPure2
/- Plain laws of numbers as bytes, second part: what is laid is read as it was; what is read is laid just so. -/
namespace NumPure
set_option linter.unusedVariables false

/-- seven bits a byte, the lowest first -/
def v7 : List Int → Nat
  | [] => 0
  | c :: r => c.toNat % 128 + 128 * v7 r
theorem v7_snoc (t : List Int) (c : Int) : v7 (t ++ [c]) = v7 t + 128 ^ t.length * (c.toNat % 128) := by
  induction t with
  | nil => simp [v7]
  | cons x r ih =>
    simp only [List.cons_append, v7, ih, List.length_cons, Nat.pow_succ]
    rw [Nat.mul_add, ← Nat.mul_assoc, Nat.mul_comm 128 (128 ^ r.length), Nat.add_assoc]
def High (t : List Int) : Prop := ∀ x ∈ t, 128 ≤ x ∧ x < 256
theorem High.head {c : Int} {r : List Int} (h : High (c :: r)) : 128 ≤ c ∧ c < 256 := h c (by simp)
theorem High.tail {c : Int} {r : List Int} (h : High (c :: r)) : High r := fun x hx => h x (by simp [hx])
theorem v7_pos (t : List Int) (c : Int) (hc : 0 < c) (hc2 : c < 128) : 0 < v7 (t ++ [c]) := by
  rw [v7_snoc]
  have : 0 < 128 ^ t.length * (c.toNat % 128) := Nat.mul_pos (Nat.pow_pos (by omega)) (by omega)
  omega
theorem put7_v7 (t : List Int) (c : Int) (ht : High t) (h0 : 0 ≤ c) (h1 : c < 128) (h2 : 0 < c ∨ t = []) : put7 (v7 (t ++ [c])) = t ++ [c] := by
  induction t with
  | nil =>
    simp only [List.nil_append, v7]
    rw [put7_small (by omega)]
    congr 1
    omega
  | cons x r ih =>
    have hc : 0 < c := by rcases h2 with h | h; exact h; cases h
    have hx := ht.head
    have hp := v7_pos r c hc h1
    have ihr := ih ht.tail (.inl hc)
    simp only [List.cons_append, v7]
    rw [put7_big (by omega), show (x.toNat % 128 + 128 * v7 (r ++ [c])) / 128 = v7 (r ++ [c]) by omega, ihr]
    congr 1
    omega
theorem put7_form (n : Nat) : ∃ t c, put7 n = t ++ [c] ∧ High t ∧ 0 ≤ c ∧ c < 128 ∧ (0 < c ∨ t = []) ∧ v7 (t ++ [c]) = n := by
  induction n using Nat.strongRecOn with
  | _ n ih =>
    by_cases h : n < 128
    · exact ⟨[], n, by rw [put7_small h]; rfl, fun x hx => absurd hx List.not_mem_nil, by omega, by omega, .inr rfl, by simp [v7]; omega⟩
    · obtain ⟨t, c, h1, h2, h3, h4, h5, h6⟩ := ih (n / 128) (by omega)
      refine ⟨((n % 128 + 128 : Nat) : Int) :: t, c, by rw [put7_big h, h1]; rfl, ?_, h3, h4, ?_, ?_⟩
      · intro x hx
        rcases List.mem_cons.1 hx with rfl | hx
        · omega
        · exact h2 x hx
      · rcases h5 with h5 | h5
        · exact .inl h5
        · subst h5
          simp only [List.nil_append, v7] at h6
          left
          omega
      · simp only [List.cons_append, v7, h6]
        omega
theorem getAt_high (t : List Int) (r : List Int) (ht : High t) : ∀ i acc, i + t.length ≤ 9 → getAt i acc (t ++ r) = getAt (i + t.length) (acc + 2 ^ (7 * i) * v7 t) r := by
  induction t with
  | nil => intro i acc _; simp [v7]
  | cons x t ih =>
    intro i acc hi
    have hx := ht.head
    rw [List.length_cons] at hi
    rw [List.cons_append]
    simp only [getAt]
    rw [if_neg (by omega), if_neg (by omega), ih ht.tail (i + 1) _ (by omega)]
    congr 1
    · rw [List.length_cons]; omega
    · simp only [v7]
      rw [show 7 * (i + 1) = 7 * i + 7 by omega, Nat.pow_add, Nat.mul_add, Nat.mul_assoc, Nat.add_assoc, Nat.mul_comm (x.toNat % 128)]
/-- What Get tells where the bytes with their highest bit set end. -/
theorem get_at (t : List Int) (c : Int) (r : List Int) (ht : High t) (h9 : t.length ≤ 9) (h0 : 0 ≤ c) : get (t ++ c :: r) =
    if t.length = 9 ∧ 1 < c then (0, 0, 2) else if c < 128 then (if c = 0 ∧ 0 < t.length then (0, 0, 2) else (v7 (t ++ [c]), t.length + 1, 0)) else getAt (t.length + 1) (v7 (t ++ [c])) r := by
  unfold get
  rw [getAt_high t (c :: r) ht 0 0 (by omega)]
  have e : ∀ (a b : Nat), 2 ^ (7 * a) * b = 128 ^ a * b := fun a b => by rw [Nat.pow_mul]
  simp only [getAt, Nat.zero_add, Nat.mul_zero, Nat.pow_zero, Nat.one_mul]
  rw [v7_snoc, ← e, Nat.mul_comm (2 ^ (7 * t.length))]
theorem get_short (t : List Int) (ht : High t) (h9 : t.length ≤ 9) : get t = (0, 0, 8) := by
  unfold get
  have := getAt_high t [] ht 0 0 (by omega)
  rw [List.append_nil] at this
  rw [this]
  rfl
theorem get_put7 {n : Nat} (hn : n < 18446744073709551616) (more : List Int) : get (put7 n ++ more) = (n, (put7 n).length, 0) := by
  obtain ⟨t, c, h1, h2, h3, h4, h5, h6⟩ := put7_form n
  have hl := put7_len10 hn
  rw [h1, List.length_append, List.length_singleton] at hl
  have hc9 : t.length = 9 → c ≤ 1 := by
    intro h
    rw [v7_snoc, h] at h6
    have : (128 : Nat) ^ 9 = 9223372036854775808 := by decide
    rw [this] at h6
    omega
  rw [h1, List.append_assoc, List.singleton_append, get_at t c more h2 (by omega) h3, if_neg (by omega), if_pos h4, if_neg, h6, List.length_append, List.length_singleton]
  rintro ⟨hc, ht⟩
  rcases h5 with h5 | h5
  · omega
  · rw [h5] at ht; simp at ht
/-- What is read is laid just so. -/
theorem put7_read (t : List Int) (c : Int) (r : List Int) (ht : High t) (h0 : 0 ≤ c) (h1 : c < 128) (h2 : ¬ (c = 0 ∧ 0 < t.length)) : put7 (v7 (t ++ [c])) = (t ++ c :: r).take (t.length + 1) := by
  rw [put7_v7 t c ht h0 h1]
  · rw [List.take_append, List.take_of_length_le (by omega)]
    simp
  · by_cases h : 0 < c
    · exact .inl h
    · right
      have : c = 0 := by omega
      cases t with
      | nil => rfl
      | cons x t => exact absurd ⟨this, by simp⟩ h2
theorem v7_lt (t : List Int) : v7 t < 128 ^ t.length := by
  induction t with
  | nil => simp [v7]
  | cons x t ih =>
    rw [List.length_cons, Nat.pow_succ]
    simp only [v7]
    omega
theorem v7_64 (t : List Int) (c : Int) (h9 : t.length ≤ 9) (h1 : 0 ≤ c) (h2 : t.length = 9 → c ≤ 1) : v7 (t ++ [c]) < 18446744073709551616 := by
  rw [v7_snoc]
  have h3 := v7_lt t
  by_cases h : t.length = 9
  · have hc := h2 h
    rw [h] at h3 ⊢
    have : (128 : Nat) ^ 9 = 9223372036854775808 := by decide
    rw [this] at h3 ⊢
    have : c.toNat % 128 ≤ 1 := by omega
    have : 9223372036854775808 * (c.toNat % 128) ≤ 9223372036854775808 * 1 := Nat.mul_le_mul_left _ this
    omega
  · have h4 : 128 ^ t.length ≤ 128 ^ 8 := Nat.pow_le_pow_right (by omega) (by omega)
    have h5 : (128 : Nat) ^ 8 = 72057594037927936 := by decide
    have : 128 ^ t.length * (c.toNat % 128) ≤ 128 ^ t.length * 127 := Nat.mul_le_mul_left _ (by omega)
    omega

theorem compact_byte {n : Nat} : Byte (compact n) := by
  unfold compact
  split
  · intro x hx
    rcases List.mem_singleton.1 hx with rfl
    omega
  · have key : ∀ (s : Nat) (c : Int), 0 ≤ c → c < 256 → Byte (c :: le n s) := by
      intro s c h1 h2 x hx
      rcases List.mem_cons.1 hx with rfl | hx
      · exact ⟨h1, h2⟩
      · exact le_byte n s x hx
    split
    · exact key 2 253 (by omega) (by omega)
    · split
      · exact key 4 254 (by omega) (by omega)
      · exact key 8 255 (by omega) (by omega)
theorem expand_of (c : Int) (s n : Nat) (more : List Int) (hc : ¬ c < 253) (hs : 2 * 2 ^ (c.toNat - 253) = s) (hn : n < 256 ^ s) : expand ((c :: le n s) ++ more) = if (compact n).length ≠ 1 + s then (0, 0, 2) else (n, 1 + s, 0) := by
  unfold expand
  simp only [List.cons_append, if_neg hc, hs]
  rw [if_neg (by simp [le_length]; omega)]
  have : ((c :: (le n s ++ more)).take (1 + s)).drop 1 = le n s := by
    rw [Nat.add_comm, List.take_succ_cons, List.drop_succ_cons, List.drop_zero, List.take_append, le_length, Nat.sub_self, List.take_zero, List.append_nil, List.take_of_length_le (by rw [le_length]; omega)]
  rw [this, leVal_le n s hn]
theorem expand_compact {n : Nat} (hn : n < 18446744073709551616) (more : List Int) : expand (compact n ++ more) = (n, (compact n).length, 0) := by
  by_cases h1 : n < 253
  · have hc : compact n = [(n : Int)] := if_pos h1
    rw [hc]
    unfold expand
    simp only [List.cons_append, List.length_singleton]
    rw [if_pos (by omega), Int.toNat_natCast]
  · by_cases h2 : n ≤ 65535
    · have hc : compact n = 253 :: le n 2 := by unfold compact; rw [if_neg h1, if_pos h2]
      have := expand_of 253 2 n more (by omega) rfl (by omega)
      rw [hc] at this ⊢
      rw [this, if_neg (by simp [le_length]), List.length_cons, le_length]
    · by_cases h3 : n ≤ 4294967295
      · have hc : compact n = 254 :: le n 4 := by unfold compact; rw [if_neg h1, if_neg h2, if_pos h3]
        have := expand_of 254 4 n more (by omega) rfl (by omega)
        rw [hc] at this ⊢
        rw [this, if_neg (by simp [le_length]), List.length_cons, le_length]
      · have hc : compact n = 255 :: le n 8 := by unfold compact; rw [if_neg h1, if_neg h2, if_neg h3]
        have := expand_of 255 8 n more (by omega) rfl (by omega)
        rw [hc] at this ⊢
        rw [this, if_neg (by simp [le_length]), List.length_cons, le_length]
end NumPure
-- Kit
/- Words of this seat's own walks: rows of whole numbers that the call owns (append, literals), what is read kept; small facts. -/
namespace Go.Proofs.Ytnkeijdpjcclcaa.Kit
set_option linter.unusedVariables false
open Go.RowKit Go.Proofs.YtnkeijdpjcclcaaW.PrintWords Go.Proofs.YtnkeijdpjcclcaaW.PrintLast Go.Proofs.YtnkeijdpjcclcaaW.PrintMore

theorem ret_int {k : IntKind} {a b : Int} (h : a = b) : Ending.returned (.int k a) = .returned (.int k b) := by rw [h]
theorem ret_bool {a b : Bool} (h : a = b) : Ending.returned (.bool a) = .returned (.bool b) := by rw [h]

/-- A slice type of one-cell elements, as the program's tables have it: z the element's zero. -/
structure SlTy (P : Program) (t e : TypeId) (z : Value) (bytes : Nat) : Prop where
  und : P.underlying t = some (.slice e)
  info : (P.info? e).map (fun i => (i.zero, i.size, i.bytes)) = some (some z, 1, bytes)
  one : z.cells.size = 1
  pos : 0 < bytes

theorem int_one (k : IntKind) : ∀ x : Int, (Value.int k x).oneCell' = true := fun _ => rfl
theorem str_one : ∀ x : ByteArray, (Value.string x).oneCell' = true := fun _ => rfl

/-- A row of one-cell elements of the call's own. -/
abbrev OwnE {α : Type} (enc : α → Value) (h1 : ∀ x, (enc x).oneCell' = true) (e : TypeId) (w : World) (B : Nat) (v : Value) (xs : List α) : Prop := Kd.R (Kd.scalar enc h1) e w B (fun _ => True) v xs
/-- .. that is read. -/
abbrev RdsE {α : Type} (enc : α → Value) (h1 : ∀ x, (enc x).oneCell' = true) (w : World) (A : Option Addr) (n : Nat) (xs : List α) : Prop := Kd.C (Kd.scalar enc h1) w A n xs
/-- Of whole numbers. -/
abbrev Own (k : IntKind) (e : TypeId) (w : World) (B : Nat) (v : Value) (xs : List Int) : Prop := OwnE (Value.int k) (int_one k) e w B v xs
abbrev Rds (k : IntKind) (w : World) (A : Option Addr) (n : Nat) (xs : List Int) : Prop := RdsE (Value.int k) (int_one k) w A n xs
/-- Of texts. -/
abbrev OwnS (e : TypeId) (w : World) (B : Nat) (v : Value) (xs : List ByteArray) : Prop := OwnE Value.string str_one e w B v xs
abbrev RdsS (w : World) (A : Option Addr) (n : Nat) (xs : List ByteArray) : Prop := RdsE Value.string str_one w A n xs

/-- What an append has done: it wrote the row's own block alone, or laid a new one. -/
structure Fr (W w1 : World) (v v1 : Value) : Prop where
  grown : W.grownBy w1 v.ownBlock
  at_ : v1.ownBlock = v.ownBlock ∨ ∃ b, v1.ownBlock = some b ∧ W.heap.size ≤ b
/-- Two rows lie apart. -/
structure Apart (u v : Value) : Prop where
  out : u.ownBlock = none ∨ v.ownBlock = none ∨ u.ownBlock ≠ v.ownBlock

section
variable {α β : Type} {enc : α → Value} {h1 : ∀ x, (enc x).oneCell' = true} {enc' : β → Value} {h1' : ∀ x, (enc' x).oneCell' = true}
theorem Apart.symm {u v : Value} (h : Apart u v) : Apart v u := ⟨by
  rcases h.out with h | h | h
  · exact .inr (.inl h)
  · exact .inl h
  · exact .inr (.inr (Ne.symm h))⟩
theorem Apart.nil (u : Value) : Apart u (.slice none 0 0) := ⟨.inr (.inl rfl)⟩
theorem Apart.ne {u v : Value} (h : Apart u v) : u.ownBlock = none ∨ u.ownBlock ≠ v.ownBlock := by
  rcases h.out with h | h | h
  · exact .inl h
  · rw [h]
    cases hu : u.ownBlock with
    | none => exact .inl rfl
    | some _ => exact .inr (by simp)
  · exact .inr h
theorem Fr.keep {W w1 : World} {v v1 u : Value} {e : TypeId} {B : Nat} {xs : List α} (h : Fr W w1 v v1) (hu : OwnE enc h1 e W B u xs) (ha : Apart u v) : OwnE enc h1 e w1 B u xs :=
  Kd.R_of_own (own_other (Kd.own_of_R hu) h.grown ha.ne) (fun _ _ => trivial)
theorem Fr.apart {W w1 : World} {v v1 u : Value} {e : TypeId} {B : Nat} {xs : List α} (h : Fr W w1 v v1) (hu : OwnE enc h1 e W B u xs) (ha : Apart u v) : Apart u v1 := ⟨by
  rcases h.at_ with h2 | ⟨b, hb, hle⟩
  · rw [h2]; exact ha.out
  · cases hk : u.ownBlock with
    | none => exact .inl rfl
    | some k =>
      have := own_lt (Kd.own_of_R hu) k hk
      exact .inr (.inr (by rw [hb]; intro he; injection he with he; omega))⟩
theorem Fr.size {W w1 : World} {v v1 : Value} (h : Fr W w1 v v1) : W.heap.size ≤ w1.heap.size := h.grown.size
/-- A row that was made behind another one lies apart from it. -/
theorem apart_new {W : World} {u v : Value} {e : TypeId} {B : Nat} {xs : List α} (hu : OwnE enc h1 e W B u xs) (hv : ∀ k, v.ownBlock = some k → W.heap.size ≤ k) : Apart u v := ⟨by
  cases hk : u.ownBlock with
  | none => exact .inl rfl
  | some k =>
    have := own_lt (Kd.own_of_R hu) k hk
    refine .inr (.inr fun he => ?_)
    have := hv k he.symm
    omega⟩
theorem own_e_nil (e : TypeId) (w : World) (B : Nat) : OwnE enc h1 e w B (.slice none 0 0) [] := Kd.R_nil _ _ _ _ _
theorem own_e_lit (e : TypeId) (w : World) (B : Nat) (xs : List α) (n : Nat) (hn : xs.length = n) (hB : B ≤ w.heap.size) (hm : xs.length ≤ 9223372036854775807) :
    OwnE enc h1 e (w.alloc (.cells (encs enc xs).toArray e)) B (.slice (some ⟨w.heap.size, 0, none⟩) n n) xs := by
  subst hn
  exact Kd.R_of_own (own_lit_of w B e xs hB hm) (fun _ _ => trivial)
theorem own_lower {e : TypeId} {w : World} {B B' : Nat} {v : Value} {xs : List α} (h : OwnE enc h1 e w B v xs) (hb : B' ≤ B) : OwnE enc h1 e w B' v xs := Kd.R_lower h hb
theorem own_below {e : TypeId} {w w' : World} {B : Nat} {v : Value} {xs : List α} (h : OwnE enc h1 e w B v xs) (hb : Below w.heap.size w w') : OwnE enc h1 e w' B v xs := Kd.R_below h hb
/-- What is owned, as a slice that is read. -/
theorem own_open {e : TypeId} {w : World} {B : Nat} {v : Value} {xs : List α} (h : OwnE enc h1 e w B v xs) :
    ∃ A n c, v = .slice A n c ∧ n ≤ c ∧ Hid (xs.length = n) ∧ n ≤ 9223372036854775807 ∧ RdsE enc h1 w A n xs := by
  obtain ⟨A, c, e1, h1, h2⟩ := Kd.R_reads h
  exact ⟨A, xs.length, c, e1, h1, Lib.hid rfl, Kd.C_max h2, h2⟩
/-- A row that isn't empty lies in a block of its own. -/
theorem own_form {e : TypeId} {w : World} {B : Nat} {v : Value} {xs : List α} (h : OwnE enc h1 e w B v xs) (hp : 0 < xs.length) :
    ∃ g n cap, v = .slice (some ⟨g, 0, none⟩) n cap ∧ Hid (xs.length = n) ∧ 0 < n ∧ n ≤ 9223372036854775807 ∧ n ≤ cap ∧ B ≤ g ∧ g < w.heap.size := by
  obtain ⟨g, cap, rfl, h2, h3, _⟩ := Kd.R_form h hp
  obtain ⟨_, h4, h5⟩ := Kd.R_reads' h
  exact ⟨g, xs.length, cap, rfl, Lib.hid rfl, hp, Kd.C_max h5, h4, h2, h3⟩
theorem own_cell (d : α) {e : TypeId} {w : World} {B g n cap : Nat} {xs : List α} (h : OwnE enc h1 e w B (.slice (some ⟨g, 0, none⟩) n cap) xs) (k : Nat) (hk : k < n) :
    w.cell? ⟨g, k, none⟩ = some (enc (xs.getD k d)) ∧ w.frozen? ⟨g, k, none⟩ = false := by
  have := Kd.R_celln d h (k : Int) (by omega) (by omega)
  rwa [Int.toNat_natCast] at this
theorem own_set {e : TypeId} {w : World} {B g n cap : Nat} {xs : List α} (h : OwnE enc h1 e w B (.slice (some ⟨g, 0, none⟩) n cap) xs) (k : Nat) (x : α) :
    OwnE enc h1 e (w.setCell ⟨g, k, none⟩ (enc x)) B (.slice (some ⟨g, 0, none⟩) n cap) (xs.set k x) := by
  have := Kd.R_putn h (k : Int) x
  rwa [Int.toNat_natCast] at this
/-- Another row lives on where a cell of this one is written. -/
theorem set_keep {e : TypeId} {w : World} {B g n cap k : Nat} {x : Value} {u : Value} {xs : List α} (h : OwnE enc h1 e w B u xs) (ha : Apart u (.slice (some ⟨g, 0, none⟩) n cap)) :
    OwnE enc h1 e (w.setCell ⟨g, k, none⟩ x) B u xs := by
  have hne : ∀ j, u.ownBlock = some j → j ≠ g := by
    intro j hj
    rcases ha.out with h2 | h2 | h2
    · rw [h2] at hj; cases hj
    · cases h2
    · rintro rfl; exact h2 hj
  exact Kd.R_of_own (own_move (Kd.own_of_R h) (fun j hj => Below.heap_setCell w ⟨g, k, none⟩ x j (hne j hj))) (fun _ _ => trivial)
theorem rds_nil (w : World) (A : Option Addr) : RdsE enc h1 w A 0 [] := ⟨rfl, by omega, fun h => absurd h (by omega)⟩
theorem rds_below {w w' : World} {A : Option Addr} {n : Nat} {xs : List α} (h : RdsE enc h1 w A n xs) (hb : Below w.heap.size w w') : RdsE enc h1 w' A n xs := Kd.C_below h hb
theorem rds_drewN {w : World} {A : Option Addr} {n : Nat} {xs : List α} (h : RdsE enc h1 w A n xs) (N : Nat) : RdsE enc h1 (w.drewN N) A n xs := Kd.C_drewN h N
theorem rds_take (d : α) {w : World} {A : Option Addr} {n : Nat} {xs : List α} (h : RdsE enc h1 w A n xs) (i : Nat) (hi : i ≤ n) : RdsE enc h1 w A i (xs.take i) := Kd.C_of_reads (d := d) ((Kd.reads_of_C h).take_ i hi)
theorem rds_drop (d : α) {w : World} {A : Option Addr} {n c : Nat} {xs : List α} (h : RdsE enc h1 w A n xs) (i : Nat) (hi : i ≤ n) (hc : n ≤ c) : RdsE enc h1 w (if c = i then A else A.map (·.add i)) (n - i) (xs.drop i) :=
  Kd.C_of_reads (d := d) ((Kd.reads_of_C h).drop_ i hi hc)
theorem rds_len {w : World} {A : Option Addr} {n : Nat} {xs : List α} (h : RdsE enc h1 w A n xs) : xs.length = n := h.1
theorem rds_max {w : World} {A : Option Addr} {n : Nat} {xs : List α} (h : RdsE enc h1 w A n xs) : n ≤ 9223372036854775807 := h.2.1
/-- One element that is read. -/
theorem rds_at (d : α) {w : World} {A : Option Addr} {n : Nat} {xs : List α} (h : RdsE enc h1 w A n xs) (k : Nat) (hk : k < n) : ∃ ad, A = some ad ∧ w.cell? (ad.add k) = some (enc (xs.getD k d)) := by
  obtain ⟨ad, e1, hc⟩ := (Kd.reads_of_C (d := d) h).2.2 (by omega)
  exact ⟨ad, e1, hc k hk⟩
/-- A slice of a block that the call has just laid. -/
theorem rds_lit (w : World) (t : TypeId) (fr : Nat × Nat) (d : α) (l : List α) (hn : l.length ≤ 9223372036854775807) (n : Nat) (hl : l.length = n) :
    RdsE enc h1 (w.alloc (.cells (encs enc l).toArray t fr)) (some ⟨w.heap.size, 0, none⟩) n l := by
  subst hl
  refine Kd.C_of_reads (d := d) ⟨rfl, hn, fun _ => ⟨_, rfl, fun j hj => ?_⟩⟩
  rw [add_plain, cell_of_row _ _ j (encs enc l).toArray t fr (heap_alloc_new w _)]
  simp [encs, List.getElem?_eq_getElem hj, List.getD_eq_getElem?_getD]
end

section
variable {P : Program} {ops : Array Oper} {rest : List Oper} {o : Oper} {a : Act} {Q : Exit → Act → World → Prop} {Kc : Act → World → Prop} {α : Type} {enc : α → Value} {h1 : ∀ x, (enc x).oneCell' = true} {z : Value} {t e : TypeId} {bytes : Nat}
/-- append(v, x...), behind at_builtin. -/
theorem app_row (d : α) (T : SlTy P t e z bytes) (hgd : o.guard = none) (s x : Operand) (ho : o.op = .call { callee := .builtin .append, args := #[s, x], argTypes := #[t, t] })
    {w0 W : World} {B : Nat} {v : Value} {xs : List α} {A : Option Addr} {m c : Nat} {ys : List α} (hs : a.eval s = v) (hx : a.eval x = .slice A m c)
    (HO : OwnE enc h1 e W B v xs) (HR : RdsE enc h1 W A m ys) (HB : Below B w0 W) (hbase : B ≤ W.heap.size) (hl : (xs.length + m) * bytes ≤ 140737488355328)
    (h : ∀ v1 w1, OwnE enc h1 e w1 B v1 (xs ++ ys) → Below B w0 w1 → B ≤ w1.heap.size → Fr W w1 v v1 → wpList P ops Q rest (a.put o.dst v1) w1) :
    wpList P ops Q (o :: rest) a W := by
  refine Kd.R_append_row (d := d) enc B hgd s x t e z bytes ho T.und T.info T.one T.pos v xs ys A m c (fun _ => True) hs hx (fun _ _ => trivial) HO HR HB hbase hl ?_
  intro v1 w1 h1 h2 h3 h4
  exact h v1 w1 h1 h2 (Nat.le_trans hbase h3.size) ⟨h3, h4⟩
/-- append(v, x) of one element: the box of the variadic has just been laid. -/
theorem app_one (T : SlTy P t e z bytes) (hgd : o.guard = none) (s x : Operand) (ho : o.op = .call { callee := .builtin .append, args := #[s, x], argTypes := #[t, t] })
    {w0 W : World} {B : Nat} {v : Value} {xs : List α} {p : α} (hs : a.eval s = v) (hx : a.eval x = .slice (some ⟨W.heap.size, 0, none⟩) 1 1)
    (HO : OwnE enc h1 e W B v xs) (HB : Below B w0 W) (hbase : B ≤ W.heap.size) (hl : (xs.length + 1) * bytes ≤ 140737488355328)
    (h : ∀ v1 w1, OwnE enc h1 e w1 B v1 (xs ++ [p]) → Below B w0 w1 → B ≤ w1.heap.size → Fr W w1 v v1 → wpList P ops Q rest (a.put o.dst v1) w1) :
    wpList P ops Q (o :: rest) a (W.alloc (.cells #[enc p] e)) := by
  refine Kd.R_append (Kd.scalar enc h1) (w0 := w0) B hgd s x t e z bytes ho T.und T.info T.one (show 0 < 1 by decide) T.pos v xs p [enc p] (fun _ => True) (fun _ => False) hs hx rfl (fun _ hk => hk.elim) (fun _ _ => trivial) HO HB hbase hl ?_
  intro v1 w1 h1 h2 h3 h4
  exact h v1 w1 h1 h2 (Nat.le_trans hbase h3.size) ⟨h3, h4⟩
/-- The same in a region that draws. -/
theorem app_one_step (T : SlTy P t e z bytes) (hw : Region.wanted o (yielded ops a.tmps) = true) (s x : Operand) (ho : o.op = .call { callee := .builtin .append, args := #[s, x], argTypes := #[t, t] })
    {w0 W : World} {B : Nat} {v : Value} {xs : List α} {p : α} (hs : a.eval s = v) (hx : a.eval x = .slice (some ⟨W.heap.size, 0, none⟩) 1 1)
    (HO : OwnE enc h1 e W B v xs) (HB : Below B w0 W) (hbase : B ≤ W.heap.size) (hl : (xs.length + 1) * bytes ≤ 140737488355328)
    (h : ∀ v1 w1, OwnE enc h1 e w1 B v1 (xs ++ [p]) → Below B w0 w1 → B ≤ w1.heap.size → Fr W w1 v v1 → Kc (a.put o.dst v1) w1) :
    if Region.wanted o (yielded ops a.tmps) = true then Oper.wp P o a (W.alloc (.cells #[enc p] e)) Kc Q else Kc (a.put o.dst undef) (W.alloc (.cells #[enc p] e)) := by
  refine Kd.R_append_step (Kd.scalar enc h1) (w0 := w0) B hw s x t e z bytes ho T.und T.info T.one (show 0 < 1 by decide) T.pos v xs p [enc p] (fun _ => True) (fun _ => False) hs hx rfl (fun _ hk => hk.elim) (fun _ _ => trivial) HO HB hbase hl ?_
  intro v1 w1 h1 h2 h3 h4
  exact h v1 w1 h1 h2 (Nat.le_trans hbase h3.size) ⟨h3, h4⟩
theorem app_row_step (d : α) (T : SlTy P t e z bytes) (hw : Region.wanted o (yielded ops a.tmps) = true) (s x : Operand) (ho : o.op = .call { callee := .builtin .append, args := #[s, x], argTypes := #[t, t] })
    {w0 W : World} {B : Nat} {v : Value} {xs : List α} {A : Option Addr} {m c : Nat} {ys : List α} (hs : a.eval s = v) (hx : a.eval x = .slice A m c)
    (HO : OwnE enc h1 e W B v xs) (HR : RdsE enc h1 W A m ys) (HB : Below B w0 W) (hbase : B ≤ W.heap.size) (hl : (xs.length + m) * bytes ≤ 140737488355328)
    (h : ∀ v1 w1, OwnE enc h1 e w1 B v1 (xs ++ ys) → Below B w0 w1 → B ≤ w1.heap.size → Fr W w1 v v1 → Kc (a.put o.dst v1) w1) :
    if Region.wanted o (yielded ops a.tmps) = true then Oper.wp P o a W Kc Q else Kc (a.put o.dst undef) W := by
  refine Kd.R_append_rows_step (Kd.scalar enc h1) (Rr := fun x cs => cs = [enc x]) (w0 := w0) B hw s x t e z bytes ho T.und T.info T.one (show 0 < 1 by decide) T.pos v xs ys A m c (fun _ => True) (fun _ => False) hs hx HO HR (fun _ _ hq => hq) (fun _ hk => hk.elim) (fun _ _ => trivial) HB hbase hl ?_
  intro v1 w1 h1 h2 h3 h4
  exact h v1 w1 h1 h2 (Nat.le_trans hbase h3.size) ⟨h3, h4⟩
/-- s[lo:], s[:hi], s[lo:hi]: an equation for every world, and what the cut reads. -/
theorem cut_from (d : α) (T : SlTy P t e z bytes) (A : Option Addr) (n c lo m : Nat) (hm : m + lo = n) (hc : n ≤ c) (j : Int) (hj : j = (lo : Int)) :
    ∃ A' : Option Addr, (∀ W : World, (Instr.slice t (.slice A n c) (some (.int .i64 j)) none none).run P W = .ok (.slice A' m (c - lo)) W) ∧ ∀ (w : World) (xs : List α), RdsE enc h1 w A n xs → RdsE enc h1 w A' m (xs.drop lo) := by
  obtain ⟨i0, hi, hzz⟩ := Option.map_eq_some_iff.1 T.info
  simp only [Prod.mk.injEq] at hzz
  obtain ⟨A', h1', h2'⟩ := print_cut_of (P := P) enc d t e .i64 T.und hi hzz.2.1 A n c lo (by omega)
  obtain rfl : m = n - lo := by omega
  exact ⟨A', fun W => by rw [hj]; exact h1' W, fun w xs h => Kd.C_of_reads (d := d) (h2' w xs hc (Kd.reads_of_C h))⟩
theorem cut_to (d : α) (T : SlTy P t e z bytes) (A : Option Addr) (n c hi : Nat) (hh : hi ≤ n) (hc : n ≤ c) (j : Int) (hj : j = (hi : Int)) :
    (∀ W : World, (Instr.slice t (.slice A n c) none (some (.int .i64 j)) none).run P W = .ok (.slice A hi c) W) ∧ ∀ (w : World) (xs : List α), RdsE enc h1 w A n xs → RdsE enc h1 w A hi (xs.take hi) := by
  obtain ⟨i0, hi0, hzz⟩ := Option.map_eq_some_iff.1 T.info
  simp only [Prod.mk.injEq] at hzz
  have hel : P.elem t = e := by simp [Program.elem, T.und]
  have hu : P.underlying t = some (.slice (P.elem t)) := by rw [hel]; exact T.und
  have ha : (A.map fun x => x.add 0) = A := by cases A <;> simp [Addr.add]
  refine ⟨fun W => ?_, fun w xs h => rds_take d h hi hh⟩
  rw [hj, run_slice_h W t A n c hu .i64 hi (by omega) (by omega), hel]
  simp [sizeOf, typeInfo, hi0, hzz.2.1, sliced, Result.andThen, ha]
theorem cut_mid (d : α) (T : SlTy P t e z bytes) (A : Option Addr) (n c lo hi m : Nat) (hm : m + lo = hi) (hh : hi ≤ n) (hc : n ≤ c) (j1 j2 : Int) (hj1 : j1 = (lo : Int)) (hj2 : j2 = (hi : Int)) :
    ∃ A' : Option Addr, (∀ W : World, (Instr.slice t (.slice A n c) (some (.int .i64 j1)) (some (.int .i64 j2)) none).run P W = .ok (.slice A' m (c - lo)) W) ∧ ∀ (w : World) (xs : List α), RdsE enc h1 w A n xs → RdsE enc h1 w A' m ((xs.take hi).drop lo) := by
  obtain ⟨i0, hi0, hzz⟩ := Option.map_eq_some_iff.1 T.info
  simp only [Prod.mk.injEq] at hzz
  have hel : P.elem t = e := by simp [Program.elem, T.und]
  have hu : P.underlying t = some (.slice (P.elem t)) := by rw [hel]; exact T.und
  obtain rfl : m = hi - lo := by omega
  refine ⟨if c = lo then A else A.map (·.add lo), fun W => ?_, fun w xs h => rds_drop d (c := c) (rds_take d h hi hh) lo (by omega) (by omega)⟩
  rw [hj1, hj2, run_slice_lh W t A n c hu .i64 .i64 lo hi (by omega) (by omega) (by omega), hel]
  simp [sizeOf, typeInfo, hi0, hzz.2.1, sliced, Result.andThen]
end
/-- make([]T, m): an equation for every world, and the row that it leaves. -/
theorem make_run {P : Program} {t e : TypeId} {z : Value} {bytes : Nat} (T : SlTy P t e z bytes) (hz : z.cells = #[z]) (m : Nat) (hm : m * bytes ≤ 281474976710656) :
    ∀ W : World, (Instr.makeSlice t (.int .i64 (m : Int)) (.int .i64 (m : Int))).run P W = .ok (.slice (some ⟨W.heap.size, 0, none⟩) m m) (W.alloc (.cells (madeCells #[z] m) e)) := print_make_of t e z bytes T.und T.info hz T.pos m hm
theorem own_of_make (k : IntKind) (e : TypeId) (W : World) (B m : Nat) (hb : B ≤ W.heap.size) (hm : m ≤ 9223372036854775807) :
    Own k e (W.alloc (.cells (madeCells #[.int k 0] m) e)) B (.slice (some ⟨W.heap.size, 0, none⟩) m m) (List.replicate m 0) :=
  Kd.R_of_own (own_made_of' (enc := Value.int k) (d := (0 : Int)) W B e m hb hm) (fun _ _ => trivial)
/-- x & (2^j - 1) of an int, whatever its sign. -/
theorem i64_mask (x : Int) (m : Nat) (hm : m < 9223372036854775808) : ∃ r : Nat, Go.bits .and .i64 x (m : Int) = (r : Int) ∧ r ≤ m := by
  have h1 : (BitVec.ofInt 64 (m : Int)).toNat = m := by rw [BitVec.ofInt_natCast, BitVec.toNat_ofNat]; exact Nat.mod_eq_of_lt (by omega)
  have h2 : (BitVec.ofInt 64 x &&& BitVec.ofInt 64 (m : Int)).toNat ≤ m := by
    rw [BitVec.toNat_and, h1]
    exact Nat.and_le_right
  refine ⟨(BitVec.ofInt 64 x &&& BitVec.ofInt 64 (m : Int)).toNat, ?_, h2⟩
  show IntKind.i64.wrap ((BitVec.ofInt 64 x &&& BitVec.ofInt 64 (m : Int)).toNat : Int) = _
  rw [IntKind.wrap_i64]
  omega
theorem mn_nat (a b : Nat) : mn (a : Int) (b : Int) = ((min a b : Nat) : Int) := by unfold mn; split <;> omega
theorem mx_nat (a b : Nat) : mx (a : Int) (b : Int) = ((max a b : Nat) : Int) := by unfold mx; split <;> omega
/-- min of two and of three, as an equation for every world: m is their least. -/
theorem run_min2 {P : Program} {ats : Array TypeId} {ty : TypeId} (a b : Int) (w : World) : (Builtin.min_ ats ty #[.int .i64 a, .int .i64 b]).run P w = .ok (.int .i64 (mn a b)) w := by
  rw [min_two, min2_int]; simp [mn]
theorem run_max2 {P : Program} {ats : Array TypeId} {ty : TypeId} (a b : Int) (w : World) : (Builtin.max_ ats ty #[.int .i64 a, .int .i64 b]).run P w = .ok (.int .i64 (mx a b)) w := by
  rw [max_two, max2_int]; simp [mx]
theorem run_min3 {P : Program} {ats : Array TypeId} {ty : TypeId} (a b c : Int) (w : World) : (Builtin.min_ ats ty #[.int .i64 a, .int .i64 b, .int .i64 c]).run P w = .ok (.int .i64 (mn (mn a b) c)) w := by
  rw [min_three, min2_int, pure_bind, min2_int]; rfl
/-- Contracts of quiet calls, as go_quiet asks for them. -/
theorem quiet_left {P : Program} {f : FuncId} {args : Array Value} {w : World} {n : Nat} {v : Value}
    (h : Calls P f args (w.drewN n) fun e w' => e = .returned v ∧ w.drewN n = w') : Calls P f args (w.drewN n) fun e w'' => e = .returned v ∧ ∃ m, w'' = w.drewN m :=
  h.mono fun _ _ ⟨he, hm⟩ => ⟨he, n, hm.symm⟩
theorem quiet_add_left {P : Program} {f : FuncId} {args : Array Value} {w : World} {a n : Nat} {v : Value}
    (h : Calls P f args (w.drewN (a + n)) fun e w' => e = .returned v ∧ w.drewN (a + n) = w') :
    Calls P f args (w.drewN (a + n)) fun e w'' => e = .returned v ∧ ∃ m, w'' = w.drewN (a + m) :=
  h.mono fun _ _ ⟨he, hm⟩ => ⟨he, n, hm.symm⟩
theorem below_drewN_ {B : Nat} {w W : World} (h : Below B w W) (n : Nat) : Below B w (W.drewN n) := pw_below_drewN h n
theorem own_lit_ (k : IntKind) (e : TypeId) (w : World) (B : Nat) (xs : List Int) (n : Nat) (hn : xs.length = n) (hB : B ≤ w.heap.size) (hm : xs.length ≤ 9223372036854775807) :
    Own k e (w.alloc (.cells (nums k xs).toArray e)) B (.slice (some ⟨w.heap.size, 0, none⟩) n n) xs := own_e_lit e w B xs n hn hB hm
/-- .. the block's number given. -/
theorem own_lit_at (k : IntKind) (e : TypeId) (w : World) (B : Nat) (xs : List Int) (n g : Nat) (hg : w.heap.size = g) (hn : xs.length = n) (hB : B ≤ w.heap.size) (hm : xs.length ≤ 9223372036854775807) :
    Own k e (w.alloc (.cells (nums k xs).toArray e)) B (.slice (some ⟨g, 0, none⟩) n n) xs := by subst hg; exact own_e_lit e w B xs n hn hB hm
theorem C_lit (w : World) (k : IntKind) (t : TypeId) (fr : Nat × Nat) (l : List Int) (hn : l.length ≤ 9223372036854775807) (n : Nat) (hl : l.length = n) :
    Rds k (w.alloc (.cells (nums k l).toArray t fr)) (some ⟨w.heap.size, 0, none⟩) n l := rds_lit w t fr 0 l hn n hl
end Go.Proofs.Ytnkeijdpjcclcaa.Kit
-- Gr
/- Rows that may be appended to: rows of the call's own, and rows that are full (a constant's bytes, which bear a mark). -/
namespace Go.Proofs.Ytnkeijdpjcclcaa.Kit
set_option linter.unusedVariables false
open Go.RowKit Go.Proofs.YtnkeijdpjcclcaaW.PrintWords Go.Proofs.YtnkeijdpjcclcaaW.PrintLast Go.Proofs.YtnkeijdpjcclcaaW.PrintMore

section
variable {P : Program} {ops : Array Oper} {rest : List Oper} {o : Oper} {a : Act} {Q : Exit → Act → World → Prop} {Kc : Act → World → Prop} {α : Type} {enc : α → Value} {h1 : ∀ x, (enc x).oneCell' = true} {z : Value} {t e : TypeId} {bytes : Nat}
/-- A row that bears a mark behind its end (a conversion's), or none: it may be appended to. -/
def MkE {α : Type} (enc : α → Value) (e : TypeId) (w : World) (B : Nat) (v : Value) (xs : List α) : Prop :=
  ∃ g cap cur fr, v = .slice (some ⟨g, 0, none⟩) xs.length cap ∧ B ≤ g ∧ w.heap[g]? = some (.cells cur e fr) ∧ cur.size ≤ fr.1 ∧ xs.length ≤ cap ∧ cap ≤ 9223372036854775807 ∧ cur.size = cap ∧ cur.toList.take xs.length = encs enc xs
/-- A row of the call's own, or a marked one. -/
def GrE {α : Type} (enc : α → Value) (h1 : ∀ x, (enc x).oneCell' = true) (e : TypeId) (w : World) (B : Nat) (v : Value) (xs : List α) : Prop :=
  OwnE enc h1 e w B v xs ∨ MkE enc e w B v xs
abbrev Gr (k : IntKind) (e : TypeId) (w : World) (B : Nat) (v : Value) (xs : List Int) : Prop := GrE (Value.int k) (int_one k) e w B v xs
theorem gr_own {w : World} {B : Nat} {v : Value} {xs : List α} (h : OwnE enc h1 e w B v xs) : GrE enc h1 e w B v xs := .inl h
theorem gr_nil (e : TypeId) (w : World) (B : Nat) : GrE enc h1 e w B (.slice none 0 0) [] := .inl (own_e_nil e w B)
theorem gr_lower {w : World} {B B' : Nat} {v : Value} {xs : List α} (h : GrE enc h1 e w B v xs) (hb : B' ≤ B) : GrE enc h1 e w B' v xs := by
  rcases h with h | ⟨g, cap, cur, fr, hv, h1, h2⟩
  · exact .inl (own_lower h hb)
  · exact .inr ⟨g, cap, cur, fr, hv, by omega, h2⟩
theorem mk_lt {w : World} {g : Nat} {o : Obj} (h : w.heap[g]? = some o) : g < w.heap.size := (Array.getElem?_eq_some_iff.1 h).1
/-- The row's block is as it was. -/
theorem mk_move {w w' : World} {B : Nat} {v : Value} {xs : List α} (h : MkE enc e w B v xs) (hb : ∀ k, v.ownBlock = some k → w'.heap[k]? = w.heap[k]?) : MkE enc e w' B v xs := by
  obtain ⟨g, cap, cur, fr, rfl, k1, k2, k3⟩ := h
  exact ⟨g, cap, cur, fr, rfl, k1, (hb g rfl).trans k2, k3⟩
theorem gr_move {w w' : World} {B : Nat} {v : Value} {xs : List α} (h : GrE enc h1 e w B v xs) (hb : ∀ k, v.ownBlock = some k → w'.heap[k]? = w.heap[k]?) : GrE enc h1 e w' B v xs := by
  rcases h with h | h
  · exact .inl (Kd.R_of_own (own_move (Kd.own_of_R h) hb) (fun _ _ => trivial))
  · exact .inr (mk_move h hb)
theorem gr_lt {w : World} {B : Nat} {v : Value} {xs : List α} (h : GrE enc h1 e w B v xs) : ∀ j, v.ownBlock = some j → j < w.heap.size := by
  rcases h with h | ⟨g, cap, cur, fr, rfl, k1, k2, k3⟩
  · exact fun j hj => own_lt (Kd.own_of_R h) j hj
  · intro j hj
    simp only [Value.ownBlock, Option.some.injEq] at hj
    subst hj
    exact mk_lt k2
theorem gr_base {w : World} {B : Nat} {v : Value} {xs : List α} (h : GrE enc h1 e w B v xs) : ∀ j, v.ownBlock = some j → B ≤ j := by
  rcases h with h | ⟨g, cap, cur, fr, rfl, k1, k2, k3⟩
  · exact fun j hj => own_base (Kd.own_of_R h) j hj
  · intro j hj
    simp only [Value.ownBlock, Option.some.injEq] at hj
    omega
theorem gr_below {w w' : World} {B : Nat} {v : Value} {xs : List α} (h : GrE enc h1 e w B v xs) (hb : Below w.heap.size w w') : GrE enc h1 e w' B v xs :=
  gr_move h fun k hk => hb.block k (gr_lt h k hk)
theorem mk_cells {w : World} {g cap : Nat} {cur : Array Value} {fr : Nat × Nat} {xs : List α} (h : w.heap[g]? = some (.cells cur e fr)) (ht : cur.toList.take xs.length = encs enc xs) :
    ∀ j u, (encs enc xs)[j]? = some u → w.cell? ((⟨g, 0, none⟩ : Addr).add j) = some u := by
  intro j u hu
  rw [add_plain]
  rw [← ht, List.getElem?_take] at hu
  split at hu
  · simp only [World.cell?, h]
    simpa using hu
  · cases hu
theorem mk_rds (d : α) {w : World} {g cap : Nat} {cur : Array Value} {fr : Nat × Nat} {xs : List α} (h : w.heap[g]? = some (.cells cur e fr)) (hc : xs.length ≤ cap) (hm : cap ≤ 9223372036854775807) (ht : cur.toList.take xs.length = encs enc xs) :
    RdsE enc h1 w (some ⟨g, 0, none⟩) xs.length xs :=
  Kd.C_of_reads (d := d) ⟨rfl, by omega, fun hp => ⟨_, rfl, fun j hj => mk_cells (cap := cap) h ht j _ (by simp [encs, List.getElem?_eq_getElem hj, List.getD_eq_getElem?_getD])⟩⟩
theorem gr_open [Inhabited α] {w : World} {B : Nat} {v : Value} {xs : List α} (h : GrE enc h1 e w B v xs) :
    ∃ A n c, v = .slice A n c ∧ n ≤ c ∧ Hid (xs.length = n) ∧ n ≤ 9223372036854775807 ∧ RdsE enc h1 w A n xs := by
  rcases h with h | ⟨g, cap, cur, fr, hv, k1, k2, k3, k4, k5, k6, k7⟩
  · exact own_open h
  · exact ⟨_, _, cap, hv, k4, Lib.hid rfl, by omega, mk_rds default k2 k4 k5 k7⟩
/-- A constant's bytes, as they are laid: a marked row. -/
theorem gr_marked {e : TypeId} (w : World) (B : Nat) (fr : Nat × Nat) (xs : List α) (n : Nat) (hfr : n ≤ fr.1) (hn : xs.length = n) (hB : B ≤ w.heap.size) (hm : xs.length ≤ 9223372036854775807) :
    GrE enc h1 e (w.alloc (.cells (encs enc xs).toArray e fr)) B (.slice (some ⟨w.heap.size, 0, none⟩) n n) xs := by
  subst hn
  exact .inr ⟨w.heap.size, xs.length, _, fr, rfl, hB, heap_alloc_new w _, by simpa [encs] using hfr, Nat.le_refl _, hm, by simp [encs], by rw [List.take_of_length_le (by simp [encs])]⟩
theorem info_of (T : SlTy P t e z bytes) : ∃ i, P.info? e = some i ∧ i.zero = some z ∧ i.size = 1 ∧ i.bytes = bytes := by
  have h := T.info
  cases hi : P.info? e with
  | none => rw [hi] at h; simp at h
  | some i =>
    rw [hi] at h
    simp only [Option.map_some, Option.some.injEq, Prod.mk.injEq] at h
    exact ⟨i, rfl, h.1, h.2.1, h.2.2⟩
/-- What an append leaves: the row, longer; nothing but its block turned, or a new one. -/
structure Apd {α : Type} (enc : α → Value) (h1 : ∀ x, (enc x).oneCell' = true) (e : TypeId) (W w1 : World) (B : Nat) (v v1 : Value) (xs : List α) : Prop where
  own : GrE enc h1 e w1 B v1 xs
  fr : Fr W w1 v v1
/-- The run of an append onto such a row, its source read. -/
theorem gr_run [Inhabited α] (T : SlTy P t e z bytes) (ty : TypeId) {W : World} {B : Nat} {v : Value} {xs ys : List α} {A : Option Addr} {m c : Nat} (HO : GrE enc h1 e W B v xs) (HR : RdsE enc h1 W A m ys) (hbase : B ≤ W.heap.size) (hl : (xs.length + m) * bytes ≤ 140737488355328) :
    ∃ v1 w1, (Builtin.append_ #[t, t] ty #[v, .slice A m c]).run P W = .ok v1 w1 ∧ Apd enc h1 e W w1 B v v1 (xs ++ ys) := by
  obtain ⟨i, hi, hz, hsize, hby⟩ := info_of T
  have hp := T.pos
  have hm : ys.length = m := rds_len HR
  have hn1 : xs.length + m ≤ 140737488355328 := Nat.le_trans (Nat.le_mul_of_pos_right _ hp) hl
  rcases A with _ | ad
  · have h0 : m = 0 := by
      rcases Nat.eq_zero_or_pos m with h0 | h0
      · exact h0
      · obtain ⟨ad, h, _⟩ := rds_at default HR 0 h0
        cases h
    subst h0
    obtain rfl : ys = [] := List.eq_nil_of_length_eq_zero hm
    rw [List.append_nil]
    refine ⟨v, W, ?_, HO, ⟨World.grownBy.refl W _, .inl rfl⟩⟩
    rcases HO with HO | ⟨g, cap, cur, fr, rfl, k1, k2, k3, k4, k5, k6, k7⟩
    · rcases (Kd.own_of_R HO).2 with ⟨rfl, hn⟩ | ⟨g, cap, cur, rfl, _, _, hnc, _⟩
      · simp [Builtin.append_, run_underlying T.und, sizeOf, typeInfo, hi, Builtin.lenOf, Builtin.firstCells]
      · simp [Builtin.append_, run_underlying T.und, sizeOf, typeInfo, hi, Builtin.lenOf, Builtin.firstCells, hnc, storeCells]
    · simp [Builtin.append_, run_underlying T.und, sizeOf, typeInfo, hi, Builtin.lenOf, Builtin.firstCells, k4, storeCells]
  · have hnews : ∀ j u, (encs enc ys)[j]? = some u → W.cell? (ad.add j) = some u := by
      intro j u hu
      have hj : j < ys.length := by
        rcases Nat.lt_or_ge j (encs enc ys).length with h | h
        · simpa [encs] using h
        · rw [List.getElem?_eq_none h] at hu; cases hu
      obtain ⟨ad', e1, hc⟩ := rds_at default HR j (by omega)
      injection e1 with e1
      subst e1
      rw [hc, ← hu]
      simp [encs, List.getElem?_eq_getElem hj, List.getD_eq_getElem?_getD]
    have hone : ∀ u ∈ encs enc ys, u.oneCell' = true := by
      intro u hu
      obtain ⟨x, _, rfl⟩ := List.mem_map.1 hu
      exact h1 x
    have hyl : (encs enc ys).length = m := by rw [encs, List.length_map, hm]
    rcases HO with HO | ⟨g, cap, cur, fr, rfl, k1, k2, k3, k4, k5, k6, k7⟩
    · obtain ⟨v1, w1, hrun, h2, hg, _, hat⟩ := run_append_own_at (P := P) W B t ty e i z 1 bytes T.und hi hz hsize hby T.one (by omega) v xs.length (encs enc xs) (Kd.own_of_R HO) ad m c (encs enc ys) (by rw [hyl, Nat.mul_one]) hnews hone (by simp only [maxLen]; omega) hl hbase
      refine ⟨v1, w1, hrun, .inl (Kd.R_of_own ?_ (fun _ _ => trivial)), ⟨hg, ?_⟩⟩
      · rw [List.length_append, hm, show encs enc (xs ++ ys) = encs enc xs ++ encs enc ys by simp [encs]]
        exact h2
      · rcases hat with hat | hat
        · exact .inl hat
        · exact .inr ⟨_, hat, Nat.le_refl _⟩
    · have hf := run_firstCells_some (P := P) (w := W) i.size m ad m c (encs enc ys) (by rw [hyl, hsize, Nat.mul_one]) hnews
      by_cases hroom : xs.length + m ≤ cap
      · have hst : (storeCells ⟨g, xs.length, none⟩ (encs enc ys) 0).run P W = .ok () (W.setRow g (cur.toList.take (xs.length + 0) ++ encs enc ys ++ cur.toList.drop (xs.length + 0 + (encs enc ys).length)).toArray) := by
          have key : ∀ (vs : List Value) (i : Nat) (cur : Array Value) (w : World), w.heap[g]? = some (.cells cur e fr) → cur.size ≤ fr.1 → xs.length + i + vs.length ≤ cur.size → (∀ v ∈ vs, v.oneCell' = true) →
              (storeCells ⟨g, xs.length, none⟩ vs i).run P w = .ok () (w.setRow g (cur.toList.take (xs.length + i) ++ vs ++ cur.toList.drop (xs.length + i + vs.length)).toArray) := by
            intro vs
            induction vs with
            | nil =>
              intro i cur w hg _ _ _
              simp only [storeCells, List.append_nil, List.length_nil, Nat.add_zero, List.take_append_drop, Array.toArray_toList]
              rw [setRow_self w g cur e fr hg]
              rfl
            | cons v rest ih =>
              intro i cur w hg hfr hl h1
              have hi : xs.length + i < cur.size := by simp at hl; omega
              have hadd : (⟨g, xs.length, none⟩ : Addr).add i = ⟨g, xs.length + i, none⟩ := by unfold Addr.add; split <;> simp_all
              have hcell : w.cell? ⟨g, xs.length + i, none⟩ = some cur[xs.length + i] := by simp [World.cell?, hg, hi]
              have hfro : w.frozen? ⟨g, xs.length + i, none⟩ = false := by
                obtain ⟨lo, hi'⟩ := fr
                simp only [World.frozen?, hg, Bool.and_eq_false_iff, decide_eq_false_iff_not]
                left
                simp only at hfr
                omega
              have hst : (store ((⟨g, xs.length, none⟩ : Addr).add i) v).run P w = .ok () (w.setRow g (cur.setIfInBounds (xs.length + i) v)) := by
                rw [hadd, run_store P w _ v _ (h1 v (by simp)), hcell]
                simp [hfro, setCell_eq_setRow w g (xs.length + i) cur e fr v hg]
              have ih := ih (i + 1) (cur.setIfInBounds (xs.length + i) v) (w.setRow g (cur.setIfInBounds (xs.length + i) v)) (setRow_heap w g cur _ e _ hg) (by simpa using hfr) (by simp at hl ⊢; omega) (fun x hx => h1 x (by simp [hx]))
              simp only [storeCells, Sem.run_bind, hst, Result.andThen_ok, ih, setRow_setRow]
              congr 3
              have e := list_seg_step cur.toList (xs.length + i) v rest (by simp at hl ⊢; omega)
              simpa [Array.toList_setIfInBounds, Nat.add_assoc] using e
          exact key (encs enc ys) 0 cur W k2 k3 (by rw [hyl]; omega) hone
        simp only [Nat.add_zero] at hst
        have hrun : (Builtin.append_ #[t, t] ty #[.slice (some ⟨g, 0, none⟩) xs.length cap, .slice (some ad) m c]).run P W = .ok (.slice (some ⟨g, 0, none⟩) (xs.length + m) cap) (W.setRow g (cur.toList.take xs.length ++ encs enc ys ++ cur.toList.drop (xs.length + (encs enc ys).length)).toArray) := by
          rw [hsize] at hf
          simp [Builtin.append_, run_underlying T.und, sizeOf, typeInfo, hi, Builtin.lenOf, hroom, hf, Addr.add_lit, hsize, hst]
        refine ⟨_, _, hrun, .inr ⟨g, cap, _, fr, by rw [List.length_append, hm], k1, setRow_heap W g cur _ e _ k2, ?_, by rw [List.length_append, hm]; exact hroom, k5, ?_, ?_⟩, ⟨⟨rfl, rfl, rfl, by simp, fun k _ hk => setRow_other W g k _ (fun e => hk (by simp [Value.ownBlock, e]))⟩, .inl rfl⟩⟩
        · simp only [List.size_toArray, List.length_append, List.length_take, List.length_drop, Array.length_toList, hyl]
          omega
        · simp only [List.size_toArray, List.length_append, List.length_take, List.length_drop, Array.length_toList, hyl]
          omega
        · have hlx : (encs enc xs).length = xs.length := by simp [encs]
          rw [k7, List.length_append, hm, show encs enc (xs ++ ys) = encs enc xs ++ encs enc ys by simp [encs], List.append_assoc]
          rw [← List.append_assoc, List.take_left' (by rw [List.length_append, hlx, hyl])]
      · have hrun := run_append_grow (P := P) W t ty e i z T.und hi hz ⟨g, 0, none⟩ xs.length cap (encs enc xs) (by rw [hsize, encs, List.length_map]; omega) (mk_cells (cap := cap) k2 k7) ad m c (encs enc ys) (by rw [hyl, hsize, Nat.mul_one]) hnews (by omega) (by omega)
          (by rw [hby]; exact growslice_fits (by omega) hl)
        refine ⟨_, _, hrun, .inl (Kd.R_of_own ?_ (fun _ _ => trivial)), ⟨⟨rfl, rfl, rfl, by simp, fun k hk _ => heap_alloc_old W.drew _ hk⟩, .inr ⟨_, rfl, Nat.le_refl _⟩⟩⟩
        have hcm : grownCap W (xs.length + m) cap e ≤ maxLen := grownCap_le_maxLen _ _ _ _ (by simp only [maxLen]; omega)
        have hge := grownCap_ge W (xs.length + m) cap e
        refine ⟨by simp [encs, hm], .inr ⟨_, _, _, by rw [List.length_append, hm], hbase, heap_alloc_new W.drew _, by rw [List.length_append, hm]; exact hge, hcm, ?_, ?_⟩⟩
        · simp only [Array.size_append, List.size_toArray, size_zeroCells, encs, List.length_map, hm, T.one]
          omega
        · simp only [Array.toList_append, encs, List.map_append, List.append_assoc]
          rw [← List.append_assoc, List.take_left' (by simp [hm])]
/-- append(v, x...), behind at_builtin. -/
theorem gapp_row [Inhabited α] (T : SlTy P t e z bytes) (hgd : o.guard = none) (s x : Operand) (ho : o.op = .call { callee := .builtin .append, args := #[s, x], argTypes := #[t, t] })
    {w0 W : World} {B : Nat} {v : Value} {xs : List α} {A : Option Addr} {m c : Nat} {ys : List α} (hs : a.eval s = v) (hx : a.eval x = .slice A m c)
    (HO : GrE enc h1 e W B v xs) (HR : RdsE enc h1 W A m ys) (HB : Below B w0 W) (hbase : B ≤ W.heap.size) (hl : (xs.length + m) * bytes ≤ 140737488355328)
    (h : ∀ v1 w1, GrE enc h1 e w1 B v1 (xs ++ ys) → Below B w0 w1 → B ≤ w1.heap.size → Fr W w1 v v1 → wpList P ops Q rest (a.put o.dst v1) w1) :
    wpList P ops Q (o :: rest) a W := by
  obtain ⟨v1, w1, hrun, hA⟩ := gr_run (c := c) T o.type HO HR hbase hl
  refine wpList_plain hgd fun K hK => ?_
  unfold Oper.wp execOp
  simp only [ho, resolve, invoke, builtin, Sem.run_bind, Sem.run_pure, Result.andThen_ok, List.map_toArray, List.map_cons, List.map_nil, hs, hx, hrun]
  exact hK _ _ (h v1 w1 hA.own (HB.grown hA.fr.grown hbase (gr_base HO)) (Nat.le_trans hbase hA.fr.size) hA.fr)
/-- append(v, x) of one element. -/
theorem gapp_one [Inhabited α] (T : SlTy P t e z bytes) (hgd : o.guard = none) (s x : Operand) (ho : o.op = .call { callee := .builtin .append, args := #[s, x], argTypes := #[t, t] })
    {w0 W : World} {B : Nat} {v : Value} {xs : List α} {p : α} (hs : a.eval s = v) (hx : a.eval x = .slice (some ⟨W.heap.size, 0, none⟩) 1 1)
    (HO : GrE enc h1 e W B v xs) (HB : Below B w0 W) (hbase : B ≤ W.heap.size) (hl : (xs.length + 1) * bytes ≤ 140737488355328)
    (h : ∀ v1 w1, GrE enc h1 e w1 B v1 (xs ++ [p]) → Below B w0 w1 → B ≤ w1.heap.size → Fr W w1 v v1 → wpList P ops Q rest (a.put o.dst v1) w1) :
    wpList P ops Q (o :: rest) a (W.alloc (.cells #[enc p] e)) := by
  have hb1 : Below W.heap.size W (W.alloc (.cells #[enc p] e)) := below_alloc (Below.refl _ _) _
  refine gapp_row T hgd s x ho hs hx (gr_below HO hb1) (rds_lit W e (0, 0) default [p] (by simp) 1 rfl) (below_then HB hbase hb1) (Nat.le_trans hbase hb1.size) hl fun v1 w1 k1 k2 k3 k4 => h v1 w1 k1 k2 k3 ⟨?_, ?_⟩
  · refine ⟨k4.grown.os, k4.grown.tape, k4.grown.output, Nat.le_trans hb1.size k4.grown.size, fun k hk hne => ?_⟩
    rw [k4.grown.block k (Nat.lt_of_lt_of_le hk hb1.size) hne]
    exact hb1.block k hk
  · rcases k4.at_ with q | ⟨b, q1, q2⟩
    · exact .inl q
    · exact .inr ⟨b, q1, Nat.le_trans hb1.size q2⟩
/-- Bytes of a text. -/
def numsOf (s : ByteArray) : List Int := s.toList.map fun b => (b.toNat : Int)
theorem numsOf_length (s : ByteArray) : (numsOf s).length = s.size := by rw [numsOf, List.length_map, ByteArray.toList_eq]; rfl
theorem numsOf_byte (s : ByteArray) : ∀ x ∈ numsOf s, 0 ≤ x ∧ x < 256 := by
  intro x hx
  obtain ⟨b, _, rfl⟩ := List.mem_map.1 hx
  have := b.toNat_lt
  omega
theorem strOfNums_numsOf (s : ByteArray) : strOfNums (numsOf s) = s := by
  apply ByteArray.ext
  apply Array.toList_inj.1
  rw [strOfNums_data, numsOf, List.map_map, ByteArray.toList_eq]
  conv => rhs; rw [← List.map_id s.data.toList]
  exact List.map_congr_left fun b _ => by simp
theorem numsOf_strOfNums (xs : List Int) (h : ∀ x ∈ xs, 0 ≤ x ∧ x < 256) : numsOf (strOfNums xs) = xs := by
  rw [numsOf, ByteArray.toList_eq, strOfNums_data, List.map_map]
  conv => rhs; rw [← List.map_id xs]
  refine List.map_congr_left fun x hx => ?_
  have := h x hx
  simp
  omega
/-- []byte(s) of a text that is no constant. -/
theorem conv_bytes {P : Program} {t src e : TypeId} {u : TypeDesc} (hs : P.underlying src = some u) (hd : P.underlying t = some (.slice e)) (he : P.underlying e = some (.int .u8)) (w : World) (s : ByteArray) (hm : s.size ≤ maxLen) {B : Nat} (hB : B ≤ w.heap.size) :
    ∃ v w', (convert src t (.string s)).run P w = .ok v w' ∧ Below w.heap.size w w' ∧ Gr .u8 e w' B v (numsOf s) ∧ v.ownBlock = some w.heap.size := by
  have hcm : grownCap w s.size 0 e ≤ maxLen := grownCap_le_maxLen _ _ _ _ hm
  have hge := grownCap_ge w s.size 0 e
  have hsz : (Lib.bytesCells w e s).size = grownCap w s.size 0 e := by
    simp only [Lib.bytesCells, Array.size_append, Array.size_map, Array.size_replicate]
    show s.size + _ = _
    omega
  refine ⟨_, _, Lib.run_convert_string_bytes w src t e s hs hd he, ⟨rfl, rfl, rfl, by rw [Lib.bytesWorld_size]; omega, fun i hi => Lib.bytesWorld_at_old w e s i hi⟩, .inr ⟨w.heap.size, grownCap w s.size 0 e, _, _, ?_, hB, Lib.bytesWorld_at_new w e s, Nat.le_refl _, ?_, by simpa only [maxLen] using hcm, hsz, ?_⟩, rfl⟩
  · rw [numsOf_length]
  · rw [numsOf_length]; exact hge
  · rw [numsOf_length, Lib.bytesCells, Array.toList_append, List.take_left' (by simp)]
    simp [encs, numsOf, ByteArray.toList_eq]
theorem conv_gr {P : Program} {t e dst : TypeId} {bytes : Nat} {z : Value} (T : SlTy P t e z bytes) (he : P.underlying e = some (.int .u8)) (hd : P.underlying dst = some .string) {w : World} {B : Nat} {v : Value} {xs : List Int} (h : Gr .u8 e w B v xs) :
    (convert t dst v).run P w = .ok (.string (strOfNums xs)) w := by
  obtain ⟨A, n, c, rfl, _, hl, _, hr⟩ := gr_open h
  have hl := hl.out
  subst hl
  exact Kd.C_string T.und he hd hr
end
theorem Fr.keep_gr {k : IntKind} {W w1 : World} {v v1 u : Value} {e : TypeId} {B : Nat} {xs : List Int} (h : Fr W w1 v v1) (hu : Gr k e W B u xs) (ha : Apart u v) : Gr k e w1 B u xs :=
  gr_move hu fun j hj => h.grown.block j (gr_lt hu j hj) (by
    rcases ha.ne with h | h
    · rw [h] at hj; cases hj
    · rw [← hj]; exact h)
theorem Fr.apart_gr {k : IntKind} {W w1 : World} {v v1 u : Value} {e : TypeId} {B : Nat} {xs : List Int} (h : Fr W w1 v v1) (hu : Gr k e W B u xs) (ha : Apart u v) : Apart u v1 := ⟨by
  rcases h.at_ with h2 | ⟨b, hb, hle⟩
  · rw [h2]; exact ha.out
  · cases hk : u.ownBlock with
    | none => exact .inl rfl
    | some k =>
      have := gr_lt hu k hk
      exact .inr (.inr (by rw [hb]; intro he; injection he with he; omega))⟩
theorem apart_new_gr {k : IntKind} {W : World} {u v : Value} {e : TypeId} {B : Nat} {xs : List Int} (hu : Gr k e W B u xs) (hv : ∀ k, v.ownBlock = some k → W.heap.size ≤ k) : Apart u v := ⟨by
  cases hk : u.ownBlock with
  | none => exact .inl rfl
  | some k =>
    have := gr_lt hu k hk
    refine .inr (.inr fun he => ?_)
    have := hv k he.symm
    omega⟩
end Go.Proofs.Ytnkeijdpjcclcaa.Kit
-- Kit2
/- More words of this seat's own walks. -/
namespace Go.Proofs.Ytnkeijdpjcclcaa.Kit
set_option linter.unusedVariables false
open Go.RowKit Go.Proofs.YtnkeijdpjcclcaaW.PrintWords Go.Proofs.YtnkeijdpjcclcaaW.PrintLast Go.Proofs.YtnkeijdpjcclcaaW.PrintMore

section
variable {P : Program} {ops : Array Oper} {rest : List Oper} {o : Oper} {a : Act} {Q : Exit → Act → World → Prop} {Kc : Act → World → Prop} {α : Type} {enc : α → Value} {h1 : ∀ x, (enc x).oneCell' = true} {z : Value} {t e : TypeId} {bytes : Nat}
/-- append(v, x) of one element: the block's number given. -/
theorem app_one_at (T : SlTy P t e z bytes) (hgd : o.guard = none) (s x : Operand) (ho : o.op = .call { callee := .builtin .append, args := #[s, x], argTypes := #[t, t] })
    {w0 W : World} {B g : Nat} {v : Value} {xs : List α} {p : α} (hs : a.eval s = v) (hx : a.eval x = .slice (some ⟨g, 0, none⟩) 1 1) (hg : W.heap.size = g)
    (HO : OwnE enc h1 e W B v xs) (HB : Below B w0 W) (hbase : B ≤ W.heap.size) (hl : (xs.length + 1) * bytes ≤ 140737488355328)
    (h : ∀ v1 w1, OwnE enc h1 e w1 B v1 (xs ++ [p]) → Below B w0 w1 → B ≤ w1.heap.size → Fr W w1 v v1 → wpList P ops Q rest (a.put o.dst v1) w1) :
    wpList P ops Q (o :: rest) a (W.alloc (.cells #[enc p] e)) := by
  subst hg
  exact app_one T hgd s x ho hs hx HO HB hbase hl h
end
theorem rds_lit_at (k : IntKind) (w : World) (t : TypeId) (fr : Nat × Nat) (l : List Int) (n g : Nat) (hg : w.heap.size = g) (hn : l.length ≤ 9223372036854775807) (hl : l.length = n) :
    Rds k (w.alloc (.cells (nums k l).toArray t fr)) (some ⟨g, 0, none⟩) n l := by subst hg; exact C_lit w k t fr l hn n hl
theorem own_new {k : IntKind} {e : TypeId} {w : World} {B : Nat} {v : Value} {xs : List Int} (h : Own k e w B v xs) : ∀ j, v.ownBlock = some j → B ≤ j := fun j hj => own_base (Kd.own_of_R h) j hj
theorem own_le {k : IntKind} {e : TypeId} {w : World} {B n c : Nat} {A : Option Addr} {xs : List Int} (h : Own k e w B (.slice A n c) xs) : n ≤ c := (Kd.R_reads' h).2.1
theorem own_rds {k : IntKind} {e : TypeId} {w : World} {B n c : Nat} {A : Option Addr} {xs : List Int} (h : Own k e w B (.slice A n c) xs) : Rds k w A n xs := by
  obtain ⟨rfl, _, h2⟩ := Kd.R_reads' h
  exact h2
theorem own_at_base {k : IntKind} {e : TypeId} {w : World} {B n c g : Nat} {xs : List Int} (h : Own k e w B (.slice (some ⟨g, 0, none⟩) n c) xs) : B ≤ g := own_base (Kd.own_of_R h) g rfl
theorem Fr.refl (w : World) (v : Value) : Fr w w v v := ⟨World.grownBy.refl w _, .inl rfl⟩
theorem Fr.below {W w w' : World} {v v1 : Value} (h : Fr W w v v1) (hb : Below w.heap.size w w') : Fr W w' v v1 :=
  ⟨⟨hb.os.trans h.grown.os, hb.tape.trans h.grown.tape, hb.output.trans h.grown.output, Nat.le_trans h.grown.size hb.size, fun i hi hne => (hb.block i (Nat.lt_of_lt_of_le hi h.grown.size)).trans (h.grown.block i hi hne)⟩, h.at_⟩
theorem Fr.alloc {W w : World} {v v1 : Value} (h : Fr W w v v1) (o : Obj) : Fr W (w.alloc o) v v1 := h.below (below_alloc (Below.refl _ _) o)
theorem Fr.drew {W w : World} {v v1 : Value} (h : Fr W w v v1) : Fr W w.drew v v1 := h.below (below_drew (Below.refl _ _))
theorem Fr.trans {W w w' : World} {v v1 v2 : Value} (h : Fr W w v v1) (k : Fr w w' v1 v2) : Fr W w' v v2 := by
  refine ⟨⟨k.grown.os.trans h.grown.os, k.grown.tape.trans h.grown.tape, k.grown.output.trans h.grown.output, Nat.le_trans h.grown.size k.grown.size, fun i hi hne => ?_⟩, ?_⟩
  · refine (k.grown.block i (Nat.lt_of_lt_of_le hi h.grown.size) ?_).trans (h.grown.block i hi hne)
    rcases h.at_ with e | ⟨b, e, hb⟩
    · rw [e]; exact hne
    · rw [e]; intro he; injection he with he; omega
  · rcases k.at_ with e | ⟨b, e, hb⟩
    · rw [e]; exact h.at_
    · exact .inr ⟨b, e, Nat.le_trans h.grown.size hb⟩
/-- From an elder world: nothing of it but the row's block has turned. -/
theorem Fr.from {W0 W w : World} {v v1 : Value} (hb : Below W0.heap.size W0 W) (h : Fr W w v v1) : Fr W0 w v v1 := by
  refine ⟨⟨h.grown.os.trans hb.os, h.grown.tape.trans hb.tape, h.grown.output.trans hb.output, Nat.le_trans hb.size h.grown.size, fun i hi hne => (h.grown.block i (Nat.lt_of_lt_of_le hi hb.size) hne).trans (hb.block i hi)⟩, ?_⟩
  rcases h.at_ with e | ⟨b, e, hbb⟩
  · exact .inl e
  · exact .inr ⟨b, e, Nat.le_trans hb.size hbb⟩
/-- A row of the call's own that is being appended to, behind some steps: what it holds now, and that nothing else has turned. -/
structure App (k : IntKind) (E : TypeId) (w0 w wr : World) (v vr : Value) (xs : List Int) : Prop where
  own : Gr k E wr w0.heap.size vr xs
  bel : Below w0.heap.size w0 wr
  fr : Fr w wr v vr
/-- Bytes. -/
def isByte (l : List Int) : Prop := ∀ x ∈ l, 0 ≤ x ∧ x < 256
theorem wf_u8 {x : Int} (h : (Lit.int .u8 x).wf = true) : 0 ≤ x ∧ x < 256 := by
  simp [Lit.wf, IntKind.min, IntKind.max, IntKind.signed, IntKind.bits] at h
  omega
theorem wf_u32 {x : Int} (h : (Lit.int .u32 x).wf = true) : 0 ≤ x ∧ x < 4294967296 := by
  simp [Lit.wf, IntKind.min, IntKind.max, IntKind.signed, IntKind.bits] at h
  omega
theorem wf_u64 {x : Int} (h : (Lit.int .u64 x).wf = true) : 0 ≤ x ∧ x < 18446744073709551616 := by
  simp [Lit.wf, IntKind.min, IntKind.max, IntKind.signed, IntKind.bits] at h
  omega
theorem wf_i64 {x : Int} (h : (Lit.int .i64 x).wf = true) : -9223372036854775808 ≤ x ∧ x ≤ 9223372036854775807 := by
  simp [Lit.wf, IntKind.min, IntKind.max, IntKind.signed, IntKind.bits] at h
  omega
end Go.Proofs.Ytnkeijdpjcclcaa.Kit
-- Any
/- Regions that draw their order: one obligation an operation, whatever order is drawn. -/
namespace Go.Proofs.Ytnkeijdpjcclcaa.Kit
set_option linter.unusedVariables false
set_option linter.unusedSimpArgs false
open Go.RowKit Go.Proofs.YtnkeijdpjcclcaaW.PrintWords Go.Proofs.YtnkeijdpjcclcaaW.PrintLast Go.Proofs.YtnkeijdpjcclcaaW.PrintMore

section
variable {P : Program} {ops : Array Oper} {Q : Exit → Act → World → Prop}
/-- What an operation's result tells: a value and a world. -/
def Told (P : Program) (R : Value → World → Prop) : Result Next → Prop
  | .ok (.value v) w' => R v w'
  | .ok .skip w' => R undef w'
  | .ok (.enter f args) w' => Calls P f args w' fun e w'' => ∃ v, e = .returned v ∧ R v w''
  | _ => False
/-- The operation, in this state and world, leaves a value and a world of which R tells. -/
def Yl (P : Program) (ops : Array Oper) (o : Oper) (a : Act) (w : World) (R : Value → World → Prop) : Prop :=
  if Region.wanted o (yielded ops a.tmps) = true then Told P R ((execOp a.eval o).run P w) else R undef w
theorem Yl.wpOp {i : Nat} {o : Oper} {a : Act} {w : World} {R : Value → World → Prop} {K : Act → World → Prop} (hi : ops[i]? = some o) (h : Yl P ops o a w R)
    (hK : ∀ v w', R v w' → K (a.put o.dst v) w') : wpOp P ops Q i K a w := by
  unfold Yl at h
  unfold Go.wpOp
  simp only [hi]
  split
  · rename_i hw
    rw [if_pos hw] at h
    left
    unfold Oper.wp
    generalize (execOp a.eval o).run P w = r at h
    cases r with
    | ok n w' =>
      cases n <;> simp only [Told] at h <;> simp only [Oper.upon]
      case value v => exact hK _ _ h
      case skip => exact hK _ _ h
      case enter f args =>
        refine h.mono ?_
        rintro e w'' ⟨v, rfl, hr⟩
        exact hK _ _ hr
    | halt x w' => exact h.elim
  · rename_i hw
    rw [if_neg hw] at h
    exact hK _ _ h
/-- The frame behind the first n operations. -/
def putN (ops : Array Oper) (vs : Nat → Value) : Nat → Act → Act
  | 0, a => a
  | n + 1, a => (putN ops vs n a).put ((ops[n]?).bind (·.dst)) (vs n)
def dstOf (ops : Array Oper) (i : Nat) : Option Tmp := (ops[i]?).bind (·.dst)
/-- The table D (what must have come up before i) is right, destinations are distinct, and who reads or writes another's destination waits for it (or is waited for). -/
def okAny (ops : Array Oper) (D : List (List Nat)) : Bool :=
  (D.length == ops.size) && Region.noSelect ops &&
  (List.range ops.size).all fun i =>
    (match ops[i]? with | some o => o.after.all fun e => !Region.binds .any e || decide (e.on < i) | none => true) &&
    ((D.getD i []).all fun j => decide (j < i) && match ops[i]? with
      | some o => o.after.any fun e => Region.binds .any e && (e.on == j || (decide (e.on < ops.size) && (D.getD e.on []).contains j))
      | none => false) &&
    (List.range ops.size).all fun j => decide (i = j) ||
      (match dstOf ops j with
       | none => true
       | some d => (dstOf ops i != some d) && (match ops[i]? with
          | some o => !(o.looksAt ops).contains d || (D.getD i []).contains j || (D.getD j []).contains i
          | none => true))
theorem put_get (a : Act) (d : Option Tmp) (v : Value) (t : Nat) : (a.put d v).tmps[t]? = if d = some t ∧ t < a.tmps.size then some v else a.tmps[t]? := by
  cases d with
  | none => simp [Act.put]
  | some d =>
    simp only [Act.put, Array.getElem?_setIfInBounds, Option.some.injEq]
    by_cases h : d = t
    · subst h
      by_cases h2 : d < a.tmps.size
      · simp [h2]
      · simp [h2]
    · simp [h]
theorem put_size (a : Act) (d : Option Tmp) (v : Value) : (a.put d v).tmps.size = a.tmps.size := by cases d <;> simp [Act.put]
theorem put_defers (a : Act) (d : Option Tmp) (v : Value) : (a.put d v).defers = a.defers := by cases d <;> simp [Act.put]
theorem putN_size (vs : Nat → Value) (a : Act) : ∀ n, (putN ops vs n a).tmps.size = a.tmps.size
  | 0 => rfl
  | n + 1 => by simp only [putN]; rw [put_size, putN_size vs a n]
theorem putN_defers (vs : Nat → Value) (a : Act) : ∀ n, (putN ops vs n a).defers = a.defers
  | 0 => rfl
  | n + 1 => by simp only [putN]; rw [put_defers, putN_defers vs a n]
/-- No two operations have one destination. -/
def Dist (ops : Array Oper) : Prop := ∀ i j t, dstOf ops i = some t → dstOf ops j = some t → i = j
theorem putN_out (vs : Nat → Value) (a : Act) (t : Nat) : ∀ n, (∀ j, j < n → dstOf ops j ≠ some t) → (putN ops vs n a).tmps[t]? = a.tmps[t]?
  | 0, _ => rfl
  | n + 1, h => by
    simp only [putN]
    rw [put_get, if_neg (fun hh => h n (by omega) hh.1)]
    exact putN_out vs a t n (fun j hj => h j (by omega))
theorem putN_in (hd : Dist ops) (vs : Nat → Value) (a : Act) (t i : Nat) (hi : dstOf ops i = some t) (ht : t < a.tmps.size) : ∀ n, i < n → (putN ops vs n a).tmps[t]? = some (vs i)
  | 0, h => by omega
  | n + 1, h => by
    simp only [putN]
    rw [put_get]
    by_cases hn : dstOf ops n = some t
    · have := hd i n t hi hn
      subst this
      rw [if_pos ⟨hn, by rw [putN_size]; exact ht⟩]
    · rw [if_neg (fun hh => hn hh.1)]
      have hne : i ≠ n := fun e => hn (e ▸ hi)
      exact putN_in hd vs a t i hi ht n (by omega)
/-- The state in the midst of a drawn order. L: the operations that write in turn (each one's fact serves the next alone). -/
structure Mid (ops : Array Oper) (D : List (List Nat)) (L : List Nat) (Inv J : World → Prop) (F : Nat → Value → World → Prop) (fx : Nat → Bool) (a0 : Act) (vs : Nat → Value) (l : Array Bool) (a : Act) (w : World) : Prop where
  size : l.size = ops.size
  tsz : a.tmps.size = a0.tmps.size
  dfr : a.defers = a0.defers
  out : ∀ t, (∀ i, l.getD i false = true → dstOf ops i ≠ some t) → a.tmps[t]? = a0.tmps[t]?
  mem : ∀ i t, l.getD i false = true → dstOf ops i = some t → t < a0.tmps.size → a.tmps[t]? = some (vs i)
  shut : ∀ i, l.getD i false = true → ∀ j ∈ D.getD i [], l.getD j false = true
  inv : Inv w
  head : (∀ k ∈ L, l.getD k false = false) → J w
  facts : ∀ i, l.getD i false = true → (i ∈ L → ∀ k ∈ L, l.getD k false = true → k ≤ i) → (fx i = true ∨ i ∈ L ∨ ∀ q ∈ L, ¬ l.getD q false = true) → F i (vs i) w
/-- Operation j's fact may serve operation i. -/
def useB (L : List Nat) (j i : Nat) : Bool := !(L.contains j) || L.all fun k => decide (k ≤ j) || (L.contains i && decide (i ≤ k))
theorem useB_spec {L : List Nat} {j i : Nat} (h : useB L j i = true) (hj : j ∈ L) (k : Nat) (hk : k ∈ L) : k ≤ j ∨ (i ∈ L ∧ i ≤ k) := by
  simp only [useB, Bool.or_eq_true, Bool.not_eq_true', List.all_eq_true, decide_eq_true_eq, Bool.and_eq_true, List.contains_iff_mem] at h
  rcases h with h | h
  · have : L.contains j = true := by simpa using hj
    rw [this] at h; cases h
  · exact h k hk
/-- Operation i has its turn ahead of all that write in turn (or is the first of them). -/
def earlyB (D : List (List Nat)) (L : List Nat) (i : Nat) : Bool := L.all fun k => Nat.beq i k || (D.getD k []).contains i
theorem earlyB_spec {D : List (List Nat)} {L : List Nat} {i : Nat} (h : earlyB D L i = true) (k : Nat) (hk : k ∈ L) : i = k ∨ i ∈ D.getD k [] := by
  have := List.all_eq_true.1 h k hk
  simp only [Bool.or_eq_true, List.contains_iff_mem] at this
  exact this.imp Nat.eq_of_beq_eq_true id
/-- Operation j's fact (b: the world is nothing to it) may serve operation i. -/
def useE (D : List (List Nat)) (L : List Nat) (b : Bool) (j i : Nat) : Bool := useB L j i && (L.contains j || (earlyB D L i || b))
theorem useE_spec {D : List (List Nat)} {L : List Nat} {b : Bool} {j i : Nat} (h : useE D L b j i = true) : useB L j i = true ∧ (j ∈ L ∨ earlyB D L i = true ∨ b = true) := by
  simp only [useE, Bool.and_eq_true, Bool.or_eq_true, List.contains_iff_mem] at h
  exact h
theorem getD_false_lt {l : Array Bool} {i : Nat} (h : l.getD i false = true) : i < l.size := by
  rcases Nat.lt_or_ge i l.size with h' | h'
  · exact h'
  · simp [Array.getElem?_eq_none h'] at h
theorem getD_true_of_lt {l : Array Bool} {i : Nat} (hi : i < l.size) (h : ¬ l.getD i false = true) : l.getD i true = false := by
  simp [hi] at h ⊢; exact h
theorem dst_lt {i : Nat} {t : Tmp} (h : dstOf ops i = some t) : i < ops.size := by
  unfold dstOf at h
  rcases Nat.lt_or_ge i ops.size with h' | h'
  · exact h'
  · rw [Array.getElem?_eq_none h'] at h; cases h
/-- The operation looks at operands and its guard alone. -/
theorem told_congr {o : Oper} {a b : Act} {w : World} {R : Value → World → Prop} (hs : ∀ cs b, o.op ≠ .select cs b) (h : ∀ t ∈ o.looksAt ops, a.tmps[t]? = b.tmps[t]?) (hy : Yl P ops o b w R) : Yl P ops o a w R := by
  have e1 : execOp a.eval o = execOp b.eval o := execOp_congr o hs fun x hx => by
    cases x with
    | tmp t =>
      have ht := h t (List.mem_append_left _ (List.mem_filterMap.2 ⟨.tmp t, by simpa using hx, rfl⟩))
      simp [Act.eval, ht]
    | _ => rfl
  have e2 : Region.wanted o (yielded ops a.tmps) = Region.wanted o (yielded ops b.tmps) := by
    unfold Region.wanted
    cases hg : o.guard with
    | none => rfl
    | some gw =>
      obtain ⟨g, want⟩ := gw
      have hy : yielded ops a.tmps g = yielded ops b.tmps g := by
        unfold yielded
        cases ht : (ops[g]?).bind (·.dst) with
        | none => rfl
        | some t =>
          have := h t (by simp [Oper.looksAt, hg, ht])
          simp [this]
      simp only [hy]
  unfold Yl at *
  rw [e1, e2]
  exact hy
def upd (vs : Nat → Value) (i : Nat) (v : Value) : Nat → Value := fun j => if j = i then v else vs j
theorem upd_same (vs : Nat → Value) (i : Nat) (v : Value) : upd vs i v i = v := by simp [upd]
theorem upd_other (vs : Nat → Value) {i j : Nat} (v : Value) (h : j ≠ i) : upd vs i v j = vs j := by simp [upd, h]
/-- How many have not come up yet. -/
def cnt (l : Array Bool) : Nat → Nat
  | 0 => 0
  | n + 1 => cnt l n + if l.getD n false = true then 0 else 1
theorem cnt_zero {l : Array Bool} : ∀ n, cnt l n = 0 → ∀ i, i < n → l.getD i false = true
  | 0, _, _, h => by omega
  | n + 1, h, i, hi => by
    simp only [cnt] at h
    split at h
    · rename_i hl
      rcases Nat.lt_or_ge i n with h2 | h2
      · exact cnt_zero n (by omega) i h2
      · obtain rfl : i = n := by omega
        exact hl
    · omega
theorem getD_set_self {l : Array Bool} {i : Nat} (h : i < l.size) : (l.setIfInBounds i true).getD i false = true := by simp [h]
theorem cnt_above {l : Array Bool} {i : Nat} : ∀ n, n ≤ i → cnt (l.setIfInBounds i true) n = cnt l n
  | 0, _ => rfl
  | n + 1, h => by
    simp only [cnt]
    rw [cnt_above n (by omega), getD_set_ne false (show i ≠ n by omega)]
theorem cnt_set {l : Array Bool} {i : Nat} (hl : i < l.size) (hn : ¬ l.getD i false = true) : ∀ n, i < n → cnt (l.setIfInBounds i true) n + 1 = cnt l n
  | 0, h => by omega
  | n + 1, h => by
    simp only [cnt]
    by_cases hi : i = n
    · subst hi
      rw [cnt_above i (Nat.le_refl _), if_pos (getD_set_self hl), if_neg hn]
    · rw [getD_set_ne false hi]
      have := cnt_set hl hn n (by omega)
      omega
theorem cnt_all : ∀ (m n : Nat), n ≤ m → cnt (Array.replicate m false) n = n
  | _, 0, _ => rfl
  | m, n + 1, h => by
    simp only [cnt]
    rw [cnt_all m n (by omega), if_neg (by simp [show n < m by omega])]
structure Chk (ops : Array Oper) (D : List (List Nat)) : Prop where
  dist : Dist ops
  low : ∀ i o, ops[i]? = some o → ∀ e ∈ o.after, Region.binds .any e = true → e.on < i
  dep : ∀ i j, i < ops.size → j ∈ D.getD i [] → j < i ∧ ∃ o, ops[i]? = some o ∧ ∃ e ∈ o.after, Region.binds .any e = true ∧ (e.on = j ∨ (e.on < ops.size ∧ j ∈ D.getD e.on []))
  look : ∀ i j o d, ops[i]? = some o → dstOf ops j = some d → d ∈ o.looksAt ops → i ≠ j → j ∈ D.getD i [] ∨ i ∈ D.getD j []
  sel : ∀ (j : Nat) (o : Oper) (cs : Array SelectCase) (b : Bool), ops[j]? = some o → o.op ≠ .select cs b
theorem chk_of {D : List (List Nat)} (hchk : okAny ops D = true) : Chk ops D := by
  simp only [okAny, Bool.and_eq_true, beq_iff_eq, List.all_eq_true, List.mem_range, decide_eq_true_eq, Bool.or_eq_true] at hchk
  obtain ⟨⟨hDl, hns⟩, hall⟩ := hchk
  refine ⟨fun i j t hi hj => ?_, fun i o hi e he hb => ?_, fun i j hi hj => ?_, fun i j o d hi hj hd hne => ?_, Region.noSelect_spec hns⟩
  · rcases (hall i (dst_lt hi)).2 j (dst_lt hj) with h | h
    · exact h
    · rw [hj] at h
      simp only [Bool.and_eq_true, bne_iff_ne, ne_eq] at h
      exact absurd hi h.1
  · have hil : i < ops.size := (Array.getElem?_eq_some_iff.1 hi).1
    have h := (hall i hil).1.1
    rw [hi] at h
    have h2 := Array.all_eq_true_iff_forall_mem.1 h e he
    rw [hb] at h2
    simpa using h2
  · have h := (hall i hi).1.2 j hj
    refine ⟨h.1, ?_⟩
    have h2 := h.2
    rw [Array.getElem?_eq_getElem hi] at h2
    obtain ⟨e, he, hb⟩ := Array.any_eq_true'.1 h2
    simp only [Bool.and_eq_true, Bool.or_eq_true, beq_iff_eq, decide_eq_true_eq, List.contains_iff_mem] at hb
    exact ⟨_, Array.getElem?_eq_getElem hi, e, he, hb.1, hb.2⟩
  · have hil : i < ops.size := (Array.getElem?_eq_some_iff.1 hi).1
    rcases (hall i hil).2 j (dst_lt hj) with h | h
    · exact absurd h hne
    · rw [hj, hi] at h
      simp only [Bool.and_eq_true, Bool.or_eq_true, Bool.not_eq_true', List.contains_iff_mem] at h
      rcases h.2 with (h2 | h2) | h2
      · have : (o.looksAt ops).contains d = true := by simpa using hd
        rw [this] at h2; cases h2
      · exact .inl h2
      · exact .inr h2
theorem act_ext {a b : Act} (h1 : a.tmps.size = b.tmps.size) (h2 : ∀ t : Nat, a.tmps[t]? = b.tmps[t]?) (h3 : a.defers = b.defers) : a = b := by
  cases a; cases b
  simp only at h1 h2 h3
  congr
  exact Array.ext h1 (fun i hi hj => by have := h2 i; rw [Array.getElem?_eq_getElem hi, Array.getElem?_eq_getElem hj] at this; exact Option.some.inj this)
/-- The value that the t-th place of the frame has had from an operation. -/
def srcOf : List (Option Tmp) → Nat → Nat → Option Nat
  | [], _, _ => none
  | some d :: r, k, t => cond (Nat.beq d t) (some k) (srcOf r (k + 1) t)
  | none :: r, k, t => srcOf r (k + 1) t
def rho (dsts : List (Option Tmp)) (vs : Nat → Value) (a0 : Act) : Operand → Value
  | .tmp t => match srcOf dsts 0 t with
    | some j => vs j
    | none => a0.tmps.getD t undef
  | x => a0.eval x
/-- The operation's guard. -/
def Wants (o : Oper) (vs : Nat → Value) : Bool :=
  match o.guard with
  | none => true
  | some (g, want) => (match vs g with | .bool b => some b | _ => none) == some want
def Ob (P : Program) (dsts : List (Option Tmp)) (o : Oper) (vs : Nat → Value) (a0 : Act) (w : World) (R : Value → World → Prop) : Prop :=
  if Wants o vs = true then Told P R ((execOp (rho dsts vs a0) o).run P w) else R undef w
theorem srcOf_some {dsts : List (Option Tmp)} : ∀ {k t j : Nat}, srcOf dsts k t = some j → k ≤ j ∧ dsts[j - k]? = some (some t) := by
  induction dsts with
  | nil => intro k t j h; cases h
  | cons d r ih =>
    intro k t j h
    have hstep : srcOf r (k + 1) t = some j → k ≤ j ∧ (d :: r)[j - k]? = some (some t) := fun h => by
      obtain ⟨h1, h2⟩ := ih h
      refine ⟨by omega, ?_⟩
      rw [show j - k = (j - (k + 1)) + 1 by omega, List.getElem?_cons_succ]
      exact h2
    cases d with
    | none => exact hstep h
    | some d =>
      simp only [srcOf] at h
      cases hb : Nat.beq d t with
      | true =>
        rw [hb] at h
        simp only [cond_true, Option.some.injEq] at h
        subst h
        have : d = t := Nat.eq_of_beq_eq_true hb
        subst this
        exact ⟨Nat.le_refl _, by simp⟩
      | false =>
        rw [hb] at h
        exact hstep h
theorem srcOf_none {dsts : List (Option Tmp)} : ∀ {k t : Nat}, srcOf dsts k t = none → ∀ j : Nat, dsts[j]? ≠ some (some t) := by
  induction dsts with
  | nil => intro k t _ j; simp
  | cons d r ih =>
    intro k t h j
    cases d with
    | none =>
      cases j with
      | zero => simp
      | succ j => rw [List.getElem?_cons_succ]; exact ih (k := k + 1) h j
    | some d =>
      simp only [srcOf] at h
      cases hb : Nat.beq d t with
      | true => rw [hb] at h; cases h
      | false =>
        rw [hb] at h
        cases j with
        | zero =>
          simp only [List.getElem?_cons_zero, ne_eq, Option.some.injEq]
          rintro rfl
          rw [Nat.beq_refl] at hb
          cases hb
        | succ j => rw [List.getElem?_cons_succ]; exact ih (k := k + 1) h j
theorem dsts_at {dsts : List (Option Tmp)} (hd : ops.toList.map (·.dst) = dsts) (i j : Nat) (t : Nat) : (dsts.take i)[j]? = some (some t) ↔ j < i ∧ dstOf ops j = some t := by
  subst hd
  rw [List.getElem?_take]
  by_cases h : j < i
  · rw [if_pos h]
    unfold dstOf
    cases ho : ops[j]? with
    | none => simp [ho]
    | some o => simp [ho, h]
  · simp [h]
/-- In the midst of an order, an operation that may come up: its obligation in the text's order serves. -/
theorem mid_ob {D : List (List Nat)} {L : List Nat} {Inv J : World → Prop} {F : Nat → Value → World → Prop} {fx : Nat → Bool} {a0 a : Act} {vs : Nat → Value} {l : Array Bool} {w : World} {dsts : List (Option Tmp)} {R : Value → World → Prop} (hC : Chk ops D) (hd : ops.toList.map (·.dst) = dsts)
    (hsz : ∀ j t, dstOf ops j = some t → t < a0.tmps.size) (hM : Mid ops D L Inv J F fx a0 vs l a w) {i : Nat} {o : Oper} (ho : ops[i]? = some o) (hun : ¬ l.getD i false = true) (hds : ∀ j ∈ D.getD i [], l.getD j false = true)
    (hg : ∀ g want, o.guard = some (g, want) → g ∈ D.getD i [] ∧ (dstOf ops g).isSome = true)
    (h : Ob P (dsts.take i) o vs a0 w R) : Yl P ops o a w R := by
  have hil : i < ops.size := (Array.getElem?_eq_some_iff.1 ho).1
  have e1 : execOp a.eval o = execOp (rho (dsts.take i) vs a0) o := execOp_congr o (fun cs b => hC.sel i o cs b ho) fun x hx => by
    cases x with
    | tmp t =>
      have ht : t ∈ o.looksAt ops := List.mem_append_left _ (List.mem_filterMap.2 ⟨.tmp t, by simpa using hx, rfl⟩)
      show a.tmps.getD t undef = (match srcOf (dsts.take i) 0 t with | some j => vs j | none => a0.tmps.getD t undef)
      cases hs : srcOf (dsts.take i) 0 t with
      | some j =>
        obtain ⟨_, h2⟩ := srcOf_some hs
        rw [Nat.sub_zero] at h2
        obtain ⟨hji, hj⟩ := (dsts_at hd i j t).1 h2
        have hjl : l.getD j false = true := by
          rcases hC.look i j o t ho hj ht (by omega) with h | h
          · exact hds j h
          · have := (hC.dep j i (dst_lt hj) h).1
            omega
        have := hM.mem j t hjl hj (hsz j t hj)
        simp [this]
      | none =>
        have hout : ∀ j, l.getD j false = true → dstOf ops j ≠ some t := fun j hjl hj => by
          by_cases hij : i = j
          · subst hij; exact hun hjl
          · rcases hC.look i j o t ho hj ht hij with h | h
            · exact srcOf_none hs j ((dsts_at hd i j t).2 ⟨(hC.dep i j hil h).1, hj⟩)
            · exact hun (hM.shut j hjl i h)
        have := hM.out t hout
        simp [this]
    | _ => rfl
  have e2 : Region.wanted o (yielded ops a.tmps) = Wants o vs := by
    unfold Region.wanted Wants
    cases hgd : o.guard with
    | none => rfl
    | some gw =>
      obtain ⟨g, want⟩ := gw
      obtain ⟨h1, h2⟩ := hg g want hgd
      obtain ⟨d, hdd⟩ := Option.isSome_iff_exists.1 h2
      have hm := hM.mem g d (hds g h1) hdd (hsz g d hdd)
      have : yielded ops a.tmps g = (match vs g with | .bool b => some b | _ => none) := by
        unfold yielded
        have hdd' : (ops[g]?).bind (·.dst) = some d := hdd
        rw [hdd']
        simp only [Option.bind_some, hm]
        cases vs g <;> rfl
      simp only [this]
  unfold Ob at h
  unfold Yl
  rw [e1, e2]
  exact h
theorem mid_next {D : List (List Nat)} {L : List Nat} {Inv J : World → Prop} {F : Nat → Value → World → Prop} {fx : Nat → Bool} {a0 a : Act} {vs : Nat → Value} {l : Array Bool} {w : World} (hC : Chk ops D)
    (hchain : ∀ i ∈ L, ∀ k ∈ L, i < k → i ∈ D.getD k []) (hst : ∀ i v w w', F i v w → Below w.heap.size w w' → F i v w') (hfx : ∀ i v w w', i ∉ L → fx i = true → F i v w → F i v w') (hJs : ∀ w w', J w → Below w.heap.size w w' → J w')
    (hM : Mid ops D L Inv J F fx a0 vs l a w) {i : Nat} {o : Oper} (ho : ops[i]? = some o) (hun : ¬ l.getD i false = true) (hds : ∀ j ∈ D.getD i [], l.getD j false = true) {v : Value} {w' : World} (hI : Inv w') (hS : i ∉ L → Below w.heap.size w w') (hF : F i v w') :
    Mid ops D L Inv J F fx a0 (upd vs i v) (l.setIfInBounds i true) (a.put o.dst v) w' := by
  have hil : i < ops.size := (Array.getElem?_eq_some_iff.1 ho).1
  have his : i < l.size := by rw [hM.size]; exact hil
  have hdo : dstOf ops i = o.dst := by simp [dstOf, ho]
  have hset : ∀ k, (l.setIfInBounds i true).getD k false = true → k = i ∨ l.getD k false = true := fun k hk => by
    by_cases hki : k = i
    · exact .inl hki
    · rw [getD_set_ne false (Ne.symm hki)] at hk
      exact .inr hk
  refine ⟨by rw [Array.size_setIfInBounds]; exact hM.size, by rw [put_size]; exact hM.tsz, by rw [put_defers]; exact hM.dfr, fun t ht => ?_, fun k t hk hkd htl => ?_, fun k hk j hj => ?_, hI, fun hno => ?_, fun k hk hmax => ?_⟩
  · rw [put_get, if_neg (fun hh => ht i (getD_set_self his) (by rw [hdo]; exact hh.1))]
    exact hM.out t (fun k hk => ht k (getD_set_true hk))
  · by_cases hki : k = i
    · subst hki
      rw [put_get, if_pos ⟨by rw [← hdo]; exact hkd, by rw [hM.tsz]; exact htl⟩, upd_same]
    · rw [put_get, if_neg (fun hh => hki (hC.dist k i t hkd (by rw [hdo]; exact hh.1))), upd_other _ _ hki]
      exact hM.mem k t ((hset k hk).resolve_left hki) hkd htl
  · rcases hset k hk with rfl | h
    · exact getD_set_true (hds j hj)
    · exact getD_set_true (hM.shut k h j hj)
  · by_cases hiL : i ∈ L
    · have := hno i hiL
      rw [getD_set_self his] at this
      cases this
    · refine hJs w w' (hM.head fun k hk => ?_) (hS hiL)
      have := hno k hk
      rwa [getD_set_ne false (show i ≠ k from fun h => hiL (by rw [h]; exact hk))] at this
  · intro hcond
    by_cases hki : k = i
    · subst hki
      rw [upd_same]
      exact hF
    · rw [upd_other _ _ hki]
      have hkl := (hset k hk).resolve_left hki
      by_cases hiL : i ∈ L
      · have hkL : k ∉ L := fun hkL => by
          have h1 := hmax hkL i hiL (getD_set_self his)
          exact hun (hM.shut k hkl i (hchain i hiL k hkL (by omega)))
        have hfk : fx k = true := by
          rcases hcond with h | h | h
          · exact h
          · exact absurd h hkL
          · exact absurd (getD_set_self his) (h i hiL)
        exact hfx k _ w w' hkL hfk (hM.facts k hkl (fun h => absurd h hkL) (.inl hfk))
      · exact hst k _ w w' (hM.facts k hkl (fun h k' hk' hl' => hmax h k' hk' (getD_set_true hl')) (hcond.imp id (Or.imp id fun h q hq hl => h q hq (getD_set_true hl)))) (hS hiL)
theorem mid_end {D : List (List Nat)} {L : List Nat} {Inv J : World → Prop} {F : Nat → Value → World → Prop} {fx : Nat → Bool} {a0 a : Act} {vs : Nat → Value} {l : Array Bool} {w : World} (hC : Chk ops D)
    (hM : Mid ops D L Inv J F fx a0 vs l a w) (hfull : ∀ i, i < ops.size → l.getD i false = true) : a = putN ops vs ops.size a0 := by
  refine act_ext (by rw [hM.tsz, putN_size]) (fun t => ?_) (by rw [hM.dfr, putN_defers])
  by_cases hx : ∃ i, dstOf ops i = some t
  · obtain ⟨i, hi⟩ := hx
    by_cases ht : t < a0.tmps.size
    · rw [hM.mem i t (hfull i (dst_lt hi)) hi ht, putN_in hC.dist vs a0 t i hi ht _ (dst_lt hi)]
    · rw [Array.getElem?_eq_none (by rw [hM.tsz]; omega), Array.getElem?_eq_none (by rw [putN_size]; omega)]
  · rw [hM.out t (fun i _ hi => hx ⟨i, hi⟩), putN_out vs a0 t _ (fun j _ hj => hx ⟨j, hj⟩)]
/-- All that is asked of a region's operations, in the text's order, at any world of Inv. -/
structure All (P : Program) (ops : Array Oper) (Q : Exit → Act → World → Prop) (D : List (List Nat)) (L : List Nat) (Inv J : World → Prop) (F : Nat → Value → World → Prop) (fx : Nat → Bool) (a0 : Act) (dsts : List (Option Tmp)) : Prop where
  chk : Chk ops D
  dst : ops.toList.map (·.dst) = dsts
  room : ∀ j t, dstOf ops j = some t → t < a0.tmps.size
  grd : ∀ i o g want, ops[i]? = some o → o.guard = some (g, want) → g ∈ D.getD i [] ∧ (dstOf ops g).isSome = true
  chain : ∀ i ∈ L, ∀ k ∈ L, i < k → i ∈ D.getD k []
  stay : ∀ i v w w', F i v w → Below w.heap.size w w' → F i v w'
  fix : ∀ i v w w', i ∉ L → fx i = true → F i v w → F i v w'
  jst : ∀ w w', J w → Below w.heap.size w w' → J w'
  step : ∀ i o, ops[i]? = some o → ∀ (vs : Nat → Value) (w : World), Inv w → (i ∈ L → (∀ k ∈ L, i ≤ k) → J w) → (earlyB D L i = true → J w) → (∀ j ∈ (D.getD i []).filter (fun j => useE D L (fx j) j i), F j (vs j) w) → Ob P (dsts.take i) o vs a0 w (fun v w' => Inv w' ∧ (i ∉ L → Below w.heap.size w w') ∧ F i v w')
  last : ∀ (vs : Nat → Value) (w : World), Inv w → (∀ i, i < ops.size → useE D L (fx i) i ops.size = true → F i (vs i) w) → Q .normal (putN ops vs ops.size a0) w
theorem mid_go {D : List (List Nat)} {L : List Nat} {Inv J : World → Prop} {F : Nat → Value → World → Prop} {fx : Nat → Bool} {a0 a : Act} {dsts : List (Option Tmp)} {vs : Nat → Value} {l : Array Bool} {w : World} (H : All P ops Q D L Inv J F fx a0 dsts)
    (hM : Mid ops D L Inv J F fx a0 vs l a w) {i : Nat} {o : Oper} (ho : ops[i]? = some o) (hun : ¬ l.getD i false = true) (hds : ∀ j ∈ D.getD i [], l.getD j false = true) {K : Act → World → Prop}
    (hK : ∀ vs' a' w', Mid ops D L Inv J F fx a0 vs' (l.setIfInBounds i true) a' w' → K a' w') : wpOp P ops Q i K a w := by
  have hearly : earlyB D L i = true → ∀ q ∈ L, ¬ l.getD q false = true := fun he q hq hql => by
    rcases earlyB_spec he q hq with h | h
    · subst h; exact hun hql
    · exact hun (hM.shut q hql i h)
  exact (mid_ob H.chk H.dst H.room hM ho hun hds (fun g want hg => H.grd i o g want ho hg) (H.step i o ho vs w hM.inv (fun hiL hmin => hM.head fun k hk => by
    rw [← Bool.not_eq_true]
    intro hkl
    by_cases hik : k = i
    · exact hun (hik ▸ hkl)
    · exact hun (hM.shut k hkl i (H.chain i hiL k hk (by have := hmin k hk; omega)))) (fun he => hM.head fun k hk => by
    rw [← Bool.not_eq_true]
    exact hearly he k hk) (fun j hj => by
    obtain ⟨hj1, hj2⟩ := List.mem_filter.1 hj
    obtain ⟨hj2, hj3⟩ := useE_spec hj2
    refine hM.facts j (hds j hj1) (fun hjL k hkL hkl => ?_) (hj3.elim (fun h => .inr (.inl h)) fun h => h.elim (fun h => .inr (.inr (hearly h))) .inl)
    rcases useB_spec hj2 hjL k hkL with h | ⟨hiL, h⟩
    · exact h
    · exfalso
      rcases Nat.lt_or_ge i k with h2 | h2
      · exact hun (hM.shut k hkl i (H.chain i hiL k hkL h2))
      · obtain rfl : i = k := by omega
        exact hun hkl))).wpOp ho
    fun v w' ⟨hI, hS, hF⟩ => hK _ _ _ (mid_next H.chk H.chain H.stay H.fix H.jst hM ho hun hds hI hS hF)
/-- **Whatever order is drawn**: each operation's obligation is told once. -/
theorem any_go {D : List (List Nat)} {L : List Nat} {Inv J : World → Prop} {F : Nat → Value → World → Prop} {fx : Nat → Bool} {a0 : Act} {dsts : List (Option Tmp)} (H : All P ops Q D L Inv J F fx a0 dsts) :
    ∀ (fuel : Nat) (l : Array Bool) (vs : Nat → Value) (a : Act) (w : World), cnt l ops.size ≤ fuel → Mid ops D L Inv J F fx a0 vs l a w → wpAny P .any ops Q fuel l a w := by
  have hfin : ∀ (l : Array Bool) (vs : Nat → Value) (a : Act) (w : World), Mid ops D L Inv J F fx a0 vs l a w → (∀ i, i < ops.size → l.getD i false = true) → Q .normal a w := by
    intro l vs a w hM hfull
    rw [mid_end H.chk hM hfull]
    exact H.last vs w hM.inv (fun i hi hu => hM.facts i (hfull i hi) (fun hiL k hkL hkl => by
      rcases useB_spec (useE_spec hu).1 hiL k hkL with h | ⟨_, h⟩
      · exact h
      · have := getD_false_lt hkl
        rw [hM.size] at this
        omega) ((useE_spec hu).2.elim (fun h => .inr (.inl h)) fun h => h.elim (fun h => .inr (.inr fun q hq hql => by
          have hqs := getD_false_lt hql
          rw [hM.size] at hqs
          rcases earlyB_spec h q hq with h2 | h2
          · omega
          · have := (H.chk.dep q _ hqs h2).1
            omega)) .inl))
  have hdone : ∀ (l : Array Bool) (vs : Nat → Value) (a : Act) (w : World), Mid ops D L Inv J F fx a0 vs l a w → Region.ready .any ops l = [] → Q .normal a w := by
    intro l vs a w hM hr
    refine hfin l vs a w hM fun i => ?_
    induction i using Nat.strongRecOn with
    | _ i ih =>
      intro hi
      refine Classical.byContradiction fun hn => ?_
      have : i ∈ Region.ready .any ops l := mem_ready.2 ⟨getD_true_of_lt (by rw [hM.size]; exact hi) hn, _, Array.getElem?_eq_getElem hi, fun e he hb => by
        have h1 := H.chk.low i _ (Array.getElem?_eq_getElem hi) e he hb
        exact ih e.on h1 (by omega)⟩
      rw [hr] at this
      cases this
  intro fuel
  induction fuel with
  | zero =>
    intro l vs a w hf hM
    have hfull := cnt_zero (l := l) ops.size (by omega)
    refine ⟨?_, hfin l vs a w hM hfull⟩
    rw [List.eq_nil_iff_forall_not_mem]
    intro j hj
    obtain ⟨h0, o, ho, _⟩ := mem_ready.1 hj
    have hjl : j < ops.size := (Array.getElem?_eq_some_iff.1 ho).1
    have := hfull j hjl
    have hjs : j < l.size := by rw [hM.size]; exact hjl
    simp [hjs] at h0 this
    rw [this] at h0
    cases h0
  | succ fuel ih =>
    intro l vs a w hf hM
    refine ⟨hdone l vs a w hM, fun i hi => ?_⟩
    obtain ⟨h0, o, ho, hall⟩ := mem_ready.1 hi
    have hil : i < ops.size := (Array.getElem?_eq_some_iff.1 ho).1
    have his : i < l.size := by rw [hM.size]; exact hil
    have hun : ¬ l.getD i false = true := by
      simp [his] at h0 ⊢
      exact h0
    have hds : ∀ j ∈ D.getD i [], l.getD j false = true := fun j hj => by
      obtain ⟨hlt, o', ho', e, he, hb, hor⟩ := H.chk.dep i j hil hj
      rw [ho] at ho'
      injection ho' with ho'
      subst ho'
      have h1 := hall e he hb
      rcases hor with rfl | ⟨_, h2⟩
      · exact h1
      · exact hM.shut _ h1 j h2
    refine mid_go H hM ho hun hds fun vs' a' w' hM' => ih _ vs' a' w' ?_ hM'
    have := cnt_set his hun ops.size hil
    omega
theorem mid_start {D : List (List Nat)} {L : List Nat} {Inv J : World → Prop} {F : Nat → Value → World → Prop} {fx : Nat → Bool} {a0 : Act} {w : World} (hI : Inv w) (hJ : J w) : Mid ops D L Inv J F fx a0 (fun _ => undef) (Array.replicate ops.size false) a0 w :=
  ⟨by simp, rfl, rfl, fun _ _ => rfl, fun i _ h => by rcases Nat.lt_or_ge i ops.size with h' | h' <;> simp [h'] at h, fun i h => by rcases Nat.lt_or_ge i ops.size with h' | h' <;> simp [h'] at h, hI, fun _ => hJ, fun i h => by rcases Nat.lt_or_ge i ops.size with h' | h' <;> simp [h'] at h⟩
/-- A region that draws its order. -/
theorem any_region {id : Nat} {a0 : Act} {w0 : World} {D : List (List Nat)} {L : List Nat} {Inv J : World → Prop} {F : Nat → Value → World → Prop} {fx : Nat → Bool} {dsts : List (Option Tmp)} (hm : P.follows .mixedOrders = true) (hI : Inv w0.drew) (hJ : J w0.drew)
    (H : All P ops Q D L Inv J F fx a0 dsts) : (Code.region id ops true).wp P Q a0 w0 :=
  wp_region_any hm (any_go H ops.size _ (fun _ => undef) a0 w0.drew (by rw [cnt_all _ _ (Nat.le_refl _)]; exact Nat.le_refl _) (mid_start hI hJ))
/-- A region in the text's order. -/
theorem seq_go {D : List (List Nat)} {L : List Nat} {Inv J : World → Prop} {F : Nat → Value → World → Prop} {fx : Nat → Bool} {a0 : Act} {dsts : List (Option Tmp)} (H : All P ops Q D L Inv J F fx a0 dsts) :
    ∀ (m k : Nat) (l : Array Bool) (vs : Nat → Value) (a : Act) (w : World), k + m = ops.size → (∀ j, l.getD j false = true ↔ j < k) → Mid ops D L Inv J F fx a0 vs l a w → wpOps P ops Q (List.range' k m) a w := by
  intro m
  induction m with
  | zero =>
    intro k l vs a w hkm hl hM
    have hfull : ∀ i, i < ops.size → l.getD i false = true := fun i hi => (hl i).2 (by omega)
    show Q .normal a w
    rw [mid_end H.chk hM hfull]
    exact H.last vs w hM.inv (fun i hi hu => hM.facts i (hfull i hi) (fun hiL k hkL hkl => by
      rcases useB_spec (useE_spec hu).1 hiL k hkL with h | ⟨_, h⟩
      · exact h
      · have := getD_false_lt hkl
        rw [hM.size] at this
        omega) ((useE_spec hu).2.elim (fun h => .inr (.inl h)) fun h => h.elim (fun h => .inr (.inr fun q hq hql => by
          have hqs := getD_false_lt hql
          rw [hM.size] at hqs
          rcases earlyB_spec h q hq with h2 | h2
          · omega
          · have := (H.chk.dep q _ hqs h2).1
            omega)) .inl))
  | succ m ih =>
    intro k l vs a w hkm hl hM
    rw [List.range'_succ, wpOps_cons]
    have hk : k < ops.size := by omega
    refine mid_go H hM (Array.getElem?_eq_getElem hk) (fun h => by have := (hl k).1 h; omega) (fun j hj => (hl j).2 (H.chk.dep k j hk hj).1) fun vs' a' w' hM' => ih (k + 1) _ vs' a' w' (by omega) (fun j => ?_) hM'
    by_cases hjk : j = k
    · subst hjk
      rw [getD_set_self (by rw [hM.size]; exact hk)]
      exact ⟨fun _ => by omega, fun _ => rfl⟩
    · rw [getD_set_ne false (Ne.symm hjk), hl j]
      omega
theorem seq_region {id : Nat} {a0 : Act} {w0 : World} {D : List (List Nat)} {L : List Nat} {Inv J : World → Prop} {F : Nat → Value → World → Prop} {fx : Nat → Bool} {dsts : List (Option Tmp)} (hI : Inv w0) (hJ : J w0)
    (H : All P ops Q D L Inv J F fx a0 dsts) : (Code.region id ops false).wp P Q a0 w0 :=
  wp_region (by rw [List.range_eq_range']; exact seq_go H ops.size 0 _ (fun _ => undef) a0 w0 (by omega) (fun j => by rcases Nat.lt_or_ge j ops.size with h' | h' <;> simp [h']) (mid_start hI hJ))
end
end Go.Proofs.Ytnkeijdpjcclcaa.Kit
-- Walk
/- Regions walked operation by operation, whatever order they draw: the words. -/
namespace Go.Proofs.Ytnkeijdpjcclcaa.Kit
set_option linter.unusedVariables false
set_option linter.unusedSimpArgs false
open Go.RowKit Go.Proofs.YtnkeijdpjcclcaaW.PrintWords Go.Proofs.YtnkeijdpjcclcaaW.PrintLast Go.Proofs.YtnkeijdpjcclcaaW.PrintMore

/-- A fact on a value and a world that lives on where nothing that lay is turned; the value itself, where it is known; whether the world is nothing to it. -/
structure FW where
  p : Value → World → Prop
  st : ∀ v w w', p v w → Below w.heap.size w w' → p v w'
  det : Option Value
  ok : ∀ c, det = some c → ∀ v w, p v w → v = c
  fix : Bool
  fx : fix = true → ∀ v w w', p v w → p v w'
def FW.val (c : Value) : FW := ⟨fun v _ => v = c, fun _ _ _ h _ => h, some c, (fun _ h _ _ hv => by cases h; exact hv), true, fun _ _ _ _ h => h⟩
def FW.any : FW := ⟨fun _ _ => True, fun _ _ _ h _ => h, none, (fun _ h => by cases h), true, fun _ _ _ _ h => h⟩
def FW.of (p : Value → World → Prop) (st : ∀ v w w', p v w → Below w.heap.size w w' → p v w') : FW := ⟨p, st, none, (fun _ h => by cases h), false, (fun h => by cases h)⟩
/-- A row of whole numbers that is the call's own, or full. -/
def FW.gr (k : IntKind) (e : TypeId) (B : Nat) (xs : List Int) : FW := .of (fun v w => Gr k e w B v xs) fun _ _ _ h hb => gr_below h hb
/-- A row of whole numbers that is read. -/
def IsRow (k : IntKind) (xs : List Int) (v : Value) (w : World) : Prop := ∃ A n c, v = .slice A n c ∧ n ≤ c ∧ Hid (xs.length = n) ∧ n ≤ 9223372036854775807 ∧ Rds k w A n xs
theorem IsRow.below {k : IntKind} {xs : List Int} {v : Value} {w w' : World} (h : IsRow k xs v w) (hb : Below w.heap.size w w') : IsRow k xs v w' := by
  obtain ⟨A, n, c, e, h1, h2, h3, h4⟩ := h
  exact ⟨A, n, c, e, h1, h2, h3, rds_below h4 hb⟩
theorem isRow_gr {k : IntKind} {e : TypeId} {w : World} {B : Nat} {v : Value} {xs : List Int} (h : Gr k e w B v xs) : IsRow k xs v w := gr_open h
def FW.row (k : IntKind) (xs : List Int) : FW := .of (IsRow k xs) fun _ _ _ h hb => h.below hb
/-- A pointer to a block that lies whole. -/
def IsBox (B : Nat) (cs : List Value) (T : TypeId) (v : Value) (w : World) : Prop := ∃ g, v = .pointer (some ⟨g, 0, none⟩) ∧ B ≤ g ∧ g < w.heap.size ∧ w.heap[g]? = some (.cells cs.toArray T (0, 0))
theorem IsBox.below {B : Nat} {cs : List Value} {T : TypeId} {v : Value} {w w' : World} (h : IsBox B cs T v w) (hb : Below w.heap.size w w') : IsBox B cs T v w' := by
  obtain ⟨g, e, h1, h2, h3⟩ := h
  exact ⟨g, e, h1, Nat.lt_of_lt_of_le h2 hb.size, by rw [hb.block g h2]; exact h3⟩
def FW.box (B : Nat) (cs : List Value) (T : TypeId) : FW := .of (IsBox B cs T) fun _ _ _ h hb => h.below hb
theorem fv {c v : Value} {w : World} (h : (FW.val c).p v w) : v = c := h

/-- Values by places. -/
def lkT : List (Nat × Value) → Nat → Value
  | [], _ => undef
  | (d, v) :: r, t => if d = t then v else lkT r t
theorem lkT_cons {d t : Nat} {v : Value} {r : List (Nat × Value)} : lkT ((d, v) :: r) t = if d = t then v else lkT r t := rfl
def lk (l : List (Nat × Value)) : Operand → Value
  | .tmp t => lkT l t
  | .const v => v
  | .global g => .pointer (some ⟨g, 0, none⟩)
  | .func f => .func (.func f) #[] #[]
theorem lk_tmp {l : List (Nat × Value)} {t : Nat} : lk l (.tmp t) = lkT l t := rfl
theorem lk_const {l : List (Nat × Value)} {v : Value} : lk l (.const v) = v := rfl
theorem lk_func {l : List (Nat × Value)} {f : Nat} : lk l (.func f) = .func (.func f) #[] #[] := rfl
theorem lk_global {l : List (Nat × Value)} {g : Nat} : lk l (.global g) = .pointer (some ⟨g, 0, none⟩) := rfl
@[reducible] def Vs (ρ : Operand → Value) : List (Nat × Value) → Prop
  | [] => True
  | (d, v) :: r => ρ (.tmp d) = v ∧ Vs ρ r
def covers (o : Oper) (l : List Nat) : Bool :=
  (match o.op with | .select .. => false | _ => true) && o.op.operands.toList.all fun x => match x with | .tmp t => l.any (fun d => Nat.beq d t) | _ => true
section
variable {P : Program} {ops : Array Oper} {Q : Exit → Act → World → Prop}
theorem lk_of {ρ : Operand → Value} {a : Act} {l : List (Nat × Value)} {o : Oper} (hρ : ∀ x, (∀ t, x ≠ .tmp t) → ρ x = a.eval x) (hv : Vs ρ l) (hc : covers o (l.map (·.1)) = true) : execOp ρ o = execOp (lk l) o := by
  simp only [covers, Bool.and_eq_true, List.all_eq_true] at hc
  refine execOp_congr o (fun cs b h => by have := hc.1; simp [h] at this) fun x hx => ?_
  cases x with
  | tmp t =>
    have h := hc.2 (.tmp t) (by simpa using hx)
    simp only [List.any_eq_true, List.mem_map] at h
    obtain ⟨d, ⟨p, hp, rfl⟩, hd⟩ := h
    have hd := Nat.eq_of_beq_eq_true hd
    clear hc hx
    show ρ (.tmp t) = lkT l t
    induction l with
    | nil => cases hp
    | cons q r ih =>
      obtain ⟨d, v⟩ := q
      rw [lkT_cons]
      by_cases hb : d = t
      · subst hb
        rw [if_pos rfl]
        exact hv.1
      · rw [if_neg hb]
        rcases List.mem_cons.1 hp with rfl | hp
        · exact absurd hd hb
        · exact ih hv.2 hp
  | const v => rw [hρ _ (by simp)]; rfl
  | global g => rw [hρ _ (by simp)]; rfl
  | func f => rw [hρ _ (by simp)]; rfl
/-- The n-th of a list, by steps. -/
def nth {α : Type} : List α → Nat → Option α
  | [], _ => none
  | x :: _, 0 => some x
  | _ :: r, n + 1 => nth r n
theorem nth_eq {α : Type} : ∀ (l : List α) (n : Nat), nth l n = l[n]?
  | [], n => by simp [nth]
  | x :: r, 0 => rfl
  | x :: r, n + 1 => by simp only [nth, List.getElem?_cons_succ]; exact nth_eq r n
theorem rho_in {dsts : List (Option Tmp)} {vs : Nat → Value} {a0 : Act} {t j : Nat} {c : Value} (h : srcOf dsts 0 t = some j) (hv : vs j = c) : rho dsts vs a0 (.tmp t) = c := by
  simp only [rho, h]
  exact hv
theorem rho_out {dsts : List (Option Tmp)} {vs : Nat → Value} {a0 : Act} {t : Nat} {c : Value} (h : srcOf dsts 0 t = none) (hv : nth a0.tmps.toList t = some c) : rho dsts vs a0 (.tmp t) = c := by
  simp only [rho, h]
  rw [nth_eq] at hv
  have : a0.tmps[t]? = some c := by simpa using hv
  simp [this]
theorem rho_else {dsts : List (Option Tmp)} {vs : Nat → Value} {a0 : Act} (x : Operand) (h : ∀ t, x ≠ .tmp t) : rho dsts vs a0 x = a0.eval x := by
  cases x with
  | tmp t => exact absurd rfl (h t)
  | _ => rfl
theorem wants_none {o : Oper} {vs : Nat → Value} (h : o.guard = none) : Wants o vs = true := by simp [Wants, h]
theorem wants_g {o : Oper} {vs : Nat → Value} {g : Nat} {b : Bool} (h : o.guard = some (g, b)) (hv : vs g = .bool b) : Wants o vs = true := by simp [Wants, h, hv]
theorem wants_not {o : Oper} {vs : Nat → Value} {g : Nat} {b : Bool} (h : o.guard = some (g, b)) (hv : vs g = .bool (!b)) : Wants o vs = false := by cases b <;> simp [Wants, h, hv]
theorem ob_run {dsts : List (Option Tmp)} {vs : Nat → Value} {a0 : Act} {o : Oper} {w w' : World} {R : Value → World → Prop} {v : Value} (l : List (Nat × Value)) (hw : Wants o vs = true) (hv : Vs (rho dsts vs a0) l) (hc : covers o (l.map (·.1)) = true)
    (hrun : (execOp (lk l) o).run P w = .ok (.value v) w') (hR : R v w') : Ob P dsts o vs a0 w R := by
  unfold Ob
  rw [if_pos hw, lk_of (fun x hx => rho_else x hx) hv hc, hrun]
  exact hR
theorem ob_not {dsts : List (Option Tmp)} {vs : Nat → Value} {a0 : Act} {o : Oper} {w : World} {R : Value → World → Prop} (hw : Wants o vs = false) (hR : R undef w) : Ob P dsts o vs a0 w R := by
  unfold Ob
  rw [if_neg (by rw [hw]; simp)]
  exact hR
theorem ob_call {dsts : List (Option Tmp)} {vs : Nat → Value} {a0 : Act} {o : Oper} {w : World} {R : Value → World → Prop} {f : FuncId} {fn : Func} {ags : Array Operand} {ts : Array TypeId} (l : List (Nat × Value)) (args : Array Value) (hw : Wants o vs = true) (hv : Vs (rho dsts vs a0) l) (hc : covers o (l.map (·.1)) = true)
    (hop : o.op = .call { callee := .value (.func f), args := ags, argTypes := ts }) (hf : P.funcs[f]? = some fn) (hname : (fn.name == "runtime.NumGoroutine") = false) (hb : fn.body.isSome = true) (hargs : ags.map (lk l) = args)
    (h : Calls P f args w fun e w' => ∃ v, e = .returned v ∧ R v w') : Ob P dsts o vs a0 w R := by
  unfold Ob
  have he := enters_ hf hname hb args w
  have hrun : (execOp (lk l) o).run P w = .ok (.enter f args) w := by
    unfold execOp
    simp [hop, resolve, Deferred.ofValue, invoke, lk, hargs, he]
  rw [if_pos hw, lk_of (fun x hx => rho_else x hx) hv hc, hrun]
  exact h
theorem margs {ags : Array Operand} {l : List (Nat × Value)} {args : Array Value} (h : ags.toList.map (lk l) = args.toList) : ags.map (lk l) = args := by
  rw [← Array.toList_inj, Array.toList_map]
  exact h
/-- What is known of the operations so far (the last first), of their values and the world. -/
def Known (Fs : List FW) (k : Nat) (js : List Nat) (vs : Nat → Value) (w : World) : Prop := ∀ j ∈ js, (Fs.getD (k - 1 - j) FW.any).p (vs j) w
/-- Whose facts serve operation k. -/
def deps (D : List (List Nat)) (L : List Nat) (Fs : List FW) (k : Nat) : List Nat := (D.getD k []).filter fun j => useE D L (Fs.getD (k - 1 - j) FW.any).fix j k
theorem memE {D : List (List Nat)} {L : List Nat} {Fs : List FW} {k j : Nat} (h : (deps D L Fs k).elem j = true) : j ∈ deps D L Fs k := List.mem_of_elem_eq_true h
/-- A region's walk: for each operation a fact that it leaves, whatever world of I it meets; then the rest. L: the operations that write in turn. -/
def Walk (P : Program) (D : List (List Nat)) (L : List Nat) (dsts : List (Option Tmp)) (I J : World → Prop) (a0 : Act) (K : (Nat → Value) → World → Prop) : List Oper → Nat → List FW → Prop
  | [], k, Fs => ∀ vs w, I w → (∀ j, j < k → useE D L (Fs.getD (k - 1 - j) FW.any).fix j k = true → (Fs.getD (k - 1 - j) FW.any).p (vs j) w) → K vs w
  | o :: r, k, Fs => ∃ F : FW, (∀ vs w, I w → (k ∈ L → (∀ q ∈ L, k ≤ q) → J w) → (earlyB D L k = true → J w) → Known Fs k (deps D L Fs k) vs w → Ob P (dsts.take k) o vs a0 w (fun v w' => (k ∈ L → I w') ∧ (k ∉ L → Below w.heap.size w w') ∧ F.p v w')) ∧ Walk P D L dsts I J a0 K r (k + 1) (F :: Fs)
def putL : List (Option Tmp) → Nat → (Nat → Value) → Act → Act
  | [], _, _, a => a
  | d :: r, k, vs, a => putL r (k + 1) vs (a.put d (vs k))
theorem putL_append (vs : Nat → Value) : ∀ (l : List (Option Tmp)) (d : Option Tmp) (k : Nat) (a : Act), putL (l ++ [d]) k vs a = (putL l k vs a).put d (vs (k + l.length))
  | [], d, k, a => rfl
  | x :: l, d, k, a => by
    simp only [List.cons_append, putL]
    rw [putL_append vs l d (k + 1), List.length_cons, show k + 1 + l.length = k + (l.length + 1) by omega]
theorem putN_putL (vs : Nat → Value) (a : Act) (dsts : List (Option Tmp)) (hd : ops.toList.map (·.dst) = dsts) : ∀ n, n ≤ ops.size → putN ops vs n a = putL (dsts.take n) 0 vs a
  | 0, _ => rfl
  | n + 1, h => by
    have hlt : n < dsts.length := by subst hd; simp; omega
    have hn : (ops[n]?).bind (·.dst) = dsts[n] := by subst hd; simp [Array.getElem?_eq_getElem (show n < ops.size by omega)]
    rw [List.take_succ_eq_append_getElem hlt, putL_append, ← putN_putL vs a dsts hd n (by omega)]
    simp only [putN, hn, List.length_take]
    rw [Nat.min_eq_left (Nat.le_of_lt hlt), Nat.zero_add]
/-- The frame behind the region: known values written out. -/
def finL : List (Option Tmp) → List FW → Nat → (Nat → Value) → Act → Act
  | d :: r, F :: Fs, k, vs, a => finL r Fs (k + 1) vs (a.put d (match F.det with | some c => c | none => vs k))
  | _, _, _, _, a => a
theorem finL_eq (vs : Nat → Value) (w : World) : ∀ (dsts : List (Option Tmp)) (Fs : List FW) (k : Nat) (a : Act), dsts.length = Fs.length → (∀ j, j < Fs.length → (Fs.getD j FW.any).det = none ∨ (Fs.getD j FW.any).p (vs (k + j)) w) → putL dsts k vs a = finL dsts Fs k vs a
  | [], _, _, _, _, _ => rfl
  | d :: r, [], _, _, h, _ => by simp at h
  | d :: r, F :: Fs, k, a, h, hp => by
    simp only [putL, finL]
    have h0 : F.det = none ∨ F.p (vs k) w := by have := hp 0 (by simp); simpa using this
    have hv : (match F.det with | some c => c | none => vs k) = vs k := by
      cases hd : F.det with
      | none => rfl
      | some c =>
        rcases h0 with h0 | h0
        · rw [hd] at h0; cases h0
        · exact (F.ok c hd _ _ h0).symm
    rw [hv]
    refine finL_eq vs w r Fs (k + 1) _ (by simpa using h) fun j hj => ?_
    have := hp (j + 1) (by simp; omega)
    rw [List.getD_cons_succ, show k + (j + 1) = k + 1 + j by omega] at this
    exact this
theorem walk_facts {D : List (List Nat)} {L : List Nat} {dsts : List (Option Tmp)} {I J : World → Prop} {a0 : Act} {K : (Nat → Value) → World → Prop} : ∀ (r : List Oper) (k : Nat) (Fs : List FW), Fs.length = k → Walk P D L dsts I J a0 K r k Fs →
    ∃ Gs : List FW, Gs.length = k + r.length ∧ (∀ j, j < k → Gs.getD j FW.any = Fs.getD (k - 1 - j) FW.any) ∧
      (∀ i o, r[i]? = some o → ∀ vs w, I w → (k + i ∈ L → (∀ q ∈ L, k + i ≤ q) → J w) → (earlyB D L (k + i) = true → J w) → (∀ j ∈ D.getD (k + i) [], useE D L (Gs.getD j FW.any).fix j (k + i) = true → (Gs.getD j FW.any).p (vs j) w) → (∀ j ∈ D.getD (k + i) [], j < k + i) → Ob P (dsts.take (k + i)) o vs a0 w (fun v w' => (k + i ∈ L → I w') ∧ (k + i ∉ L → Below w.heap.size w w') ∧ (Gs.getD (k + i) FW.any).p v w')) ∧
      (∀ vs w, I w → (∀ j, j < k + r.length → useE D L (Gs.getD j FW.any).fix j (k + r.length) = true → (Gs.getD j FW.any).p (vs j) w) → K vs w) := by
  intro r
  induction r with
  | nil =>
    intro k Fs hk h
    have hget : ∀ j, j < k → Fs.reverse.getD j FW.any = Fs.getD (k - 1 - j) FW.any := fun j hj => by
      rw [List.getD_eq_getElem?_getD, List.getD_eq_getElem?_getD, List.getElem?_reverse (by omega), hk]
    refine ⟨Fs.reverse, by simp [hk], hget, fun i o hi => by simp at hi, fun vs w hb hf => h vs w hb fun j hj hu => ?_⟩
    rw [← hget j hj] at hu ⊢
    exact hf j (by simpa using hj) (by simpa using hu)
  | cons o r ih =>
    intro k Fs hk h
    obtain ⟨F, h1, h2⟩ := h
    obtain ⟨Gs, g1, g2, g3, g4⟩ := ih (k + 1) (F :: Fs) (by simp [hk]) h2
    have hFk : Gs.getD k FW.any = F := by
      rw [g2 k (by omega), show k + 1 - 1 - k = 0 by omega]
      rfl
    have hlow : ∀ j, j < k → Gs.getD j FW.any = Fs.getD (k - 1 - j) FW.any := fun j hj => by
      rw [g2 j (by omega), show k + 1 - 1 - j = (k - 1 - j) + 1 by omega, List.getD_cons_succ]
    refine ⟨Gs, by rw [g1, List.length_cons]; omega, hlow, fun i o' hi vs w hb hj0 hje hf hlt => ?_, fun vs w hb hf => g4 vs w hb fun j hj hu => hf j (by rw [List.length_cons]; omega) (by rw [List.length_cons, show k + (r.length + 1) = k + 1 + r.length by omega]; exact hu)⟩
    · cases i with
      | zero =>
        simp only [List.getElem?_cons_zero, Option.some.injEq] at hi
        subst hi
        rw [Nat.add_zero] at *
        rw [hFk]
        refine h1 vs w hb hj0 hje fun j hj => ?_
        obtain ⟨hj1, hj2⟩ := List.mem_filter.1 hj
        have hjk : j < k := hlt j hj1
        rw [← hlow j hjk] at hj2 ⊢
        exact hf j hj1 hj2
      | succ i =>
        rw [show k + (i + 1) = k + 1 + i by omega] at *
        exact g3 i o' (by simpa using hi) vs w hb hj0 hje hf hlt
def guardsB (ops : Array Oper) (D : List (List Nat)) : Bool :=
  (List.range ops.size).all fun i => match ops[i]? with
    | some o => (match o.guard with | some (g, _) => (D.getD i []).contains g && (dstOf ops g).isSome | none => true)
    | none => true
def roomB : List (Option Tmp) → Nat → Bool
  | [], _ => true
  | some d :: r, n => Nat.blt d n && roomB r n
  | none :: r, n => roomB r n
theorem roomB_spec : ∀ (l : List (Option Tmp)) (n : Nat), roomB l n = true → ∀ t, some t ∈ l → t < n
  | [], _, _, t, h => by cases h
  | some d :: r, n, h, t, ht => by
    simp only [roomB, Bool.and_eq_true] at h
    rcases List.mem_cons.1 ht with h2 | h2
    · injection h2 with h2
      subst h2
      exact cast Nat.blt_eq h.1
    · exact roomB_spec r n h.2 t h2
  | none :: r, n, h, t, ht => by
    rcases List.mem_cons.1 ht with h2 | h2
    · cases h2
    · exact roomB_spec r n h t h2
/-- What is asked of a region's text alone. -/
structure RegOk (ops : Array Oper) (D : List (List Nat)) (L : List Nat) (dsts : List (Option Tmp)) : Prop where
  chk : okAny ops D = true
  dst : ops.toList.map (·.dst) = dsts
  grd : guardsB ops D = true
  chain : ∀ i ∈ L, ∀ k ∈ L, i < k → i ∈ D.getD k []
def regB (ops : Array Oper) (D : List (List Nat)) (L : List Nat) (dsts : List (Option Tmp)) : Bool := okAny ops D && (ops.toList.map (·.dst) == dsts) && guardsB ops D && L.all fun i => L.all fun k => !decide (i < k) || (D.getD k []).contains i
theorem regOk {D : List (List Nat)} {L : List Nat} {dsts : List (Option Tmp)} (h : regB ops D L dsts = true) : RegOk ops D L dsts := by
  simp only [regB, Bool.and_eq_true, beq_iff_eq] at h
  refine ⟨h.1.1.1, h.1.1.2, h.1.2, fun i hi k hk hik => ?_⟩
  have h2 := List.all_eq_true.1 (List.all_eq_true.1 h.2 i hi) k hk
  simpa [hik] using h2
theorem all_of {D : List (List Nat)} {L : List Nat} {dsts : List (Option Tmp)} {I J : World → Prop} {a0 : Act} (hr : RegOk ops D L dsts) (hroom : roomB dsts a0.tmps.size = true) (hI : ∀ w w', I w → Below w.heap.size w w' → I w') (hJ : ∀ w w', J w → Below w.heap.size w w' → J w') {Q : Exit → Act → World → Prop}
    (h : Walk P D L dsts I J a0 (fun vs w => Q .normal (putL dsts 0 vs a0) w) ops.toList 0 []) :
    ∃ (F : Nat → Value → World → Prop) (fx : Nat → Bool), All P ops Q D L I J F fx a0 dsts := by
  obtain ⟨Gs, g1, g2, g3, g4⟩ := walk_facts ops.toList 0 [] rfl h
  have hC := chk_of hr.chk
  refine ⟨fun i => (Gs.getD i FW.any).p, fun i => (Gs.getD i FW.any).fix, hC, hr.dst, fun j t hj => ?_, fun i o g want hi hg => ?_, hr.chain, fun i v w w' hf hs => (Gs.getD i FW.any).st v w w' hf hs, fun i v w w' hi hfx hf => (Gs.getD i FW.any).fx hfx v w w' hf, hJ, fun i o hi vs w hb hj0 hje hf => ?_, fun vs w hb hf => ?_⟩
  · have hm : some t ∈ dsts := by
      rw [← hr.dst]
      unfold dstOf at hj
      cases ho : ops[j]? with
      | none => rw [ho] at hj; cases hj
      | some o =>
        rw [ho] at hj
        exact List.mem_map.2 ⟨o, by simpa using Array.mem_of_getElem? ho, hj⟩
    exact roomB_spec dsts _ hroom t hm
  · have h := hr.grd
    simp only [guardsB, List.all_eq_true, List.mem_range] at h
    have h2 := h i (Array.getElem?_eq_some_iff.1 hi).1
    rw [hi] at h2
    simp only [hg, Bool.and_eq_true, List.contains_iff_mem] at h2
    exact h2
  · have hi' : ops.toList[i]? = some o := by simpa using hi
    have h := g3 i o hi' vs w hb
    rw [Nat.zero_add] at h
    have h := h hj0 hje
    have hlt : ∀ j ∈ D.getD i [], j < i := fun j hj => (hC.dep i j (Array.getElem?_eq_some_iff.1 hi).1 hj).1
    have h2 := h (fun j hj hu => hf j (List.mem_filter.2 ⟨hj, hu⟩)) hlt
    have key : ∀ (v : Value) (w' : World), ((i ∈ L → I w') ∧ (i ∉ L → Below w.heap.size w w') ∧ (Gs.getD i FW.any).p v w') → (I w' ∧ (i ∉ L → Below w.heap.size w w') ∧ (Gs.getD i FW.any).p v w') := fun v w' ⟨q0, q1, q2⟩ => by
      refine ⟨?_, q1, q2⟩
      by_cases hiL : i ∈ L
      · exact q0 hiL
      · exact hI _ _ hb (q1 hiL)
    unfold Ob at h2 ⊢
    split
    · rename_i hw
      rw [if_pos hw] at h2
      generalize (execOp (rho (dsts.take i) vs a0) o).run P w = res at h2 ⊢
      cases res with
      | ok n w' =>
        cases n <;> simp only [Told] at h2 ⊢
        case value v => exact key _ _ h2
        case skip => exact key _ _ h2
        case enter f args =>
          refine h2.mono ?_
          rintro e w'' ⟨v, he, hq⟩
          exact ⟨v, he, key _ _ hq⟩
      | halt x w' => exact h2.elim
    · rename_i hw
      rw [if_neg hw] at h2
      exact key _ _ h2
  · rw [putN_putL vs a0 dsts hr.dst _ (Nat.le_refl _), List.take_of_length_le (by rw [← hr.dst]; simp)]
    refine g4 vs w hb fun j hj hu => hf j (by simpa using hj) ?_
    simpa using hu
/-- A region that draws its order. -/
theorem draws_ {id : Nat} {a0 : Act} {w0 : World} {D : List (List Nat)} {L : List Nat} {dsts : List (Option Tmp)} (I J : World → Prop) (hm : P.follows .mixedOrders = true) (hr : RegOk ops D L dsts) (hroom : roomB dsts a0.tmps.size = true)
    (hI : ∀ w w', I w → Below w.heap.size w w' → I w') (hJ : ∀ w w', J w → Below w.heap.size w w' → J w') (h0 : I w0.drew) (hJ0 : J w0.drew)
    (h : Walk P D L dsts I J a0 (fun vs w => Q .normal (putL dsts 0 vs a0) w) ops.toList 0 []) : (Code.region id ops true).wp P Q a0 w0 := by
  obtain ⟨F, fx, hA⟩ := all_of hr hroom hI hJ h
  exact any_region hm h0 hJ0 hA
/-- A region in the text's order. -/
theorem plain_ {id : Nat} {a0 : Act} {w0 : World} {D : List (List Nat)} {L : List Nat} {dsts : List (Option Tmp)} (I J : World → Prop) (hr : RegOk ops D L dsts) (hroom : roomB dsts a0.tmps.size = true)
    (hI : ∀ w w', I w → Below w.heap.size w w' → I w') (hJ : ∀ w w', J w → Below w.heap.size w w' → J w') (h0 : I w0) (hJ0 : J w0)
    (h : Walk P D L dsts I J a0 (fun vs w => Q .normal (putL dsts 0 vs a0) w) ops.toList 0 []) : (Code.region id ops false).wp P Q a0 w0 := by
  obtain ⟨F, fx, hA⟩ := all_of hr hroom hI hJ h
  exact seq_region h0 hJ0 hA
/-- The start's world, as an invariant. -/
theorem inv0 {w0 : World} : ∀ w w', Below w0.heap.size w0 w → Below w.heap.size w w' → Below w0.heap.size w0 w' := fun _ _ h k => below_then h h.size k
/-! ### The moves -/
variable {D : List (List Nat)} {L : List Nat} {dsts : List (Option Tmp)} {I J : World → Prop} {a0 : Act} {K : (Nat → Value) → World → Prop} {o : Oper} {r : List Oper} {k : Nat} {Fs : List FW}
/-- An operation that yields a known value and turns nothing. -/
theorem w_val (l : List (Nat × Value)) (c : Value) (hv : ∀ vs w, Known Fs k (deps D L Fs k) vs w → Wants o vs = true ∧ Vs (rho (dsts.take k) vs a0) l) (hc : covers o (l.map (·.1)) = true)
    (hrun : ∀ w, I w → (execOp (lk l) o).run P w = .ok (.value c) w) (t : Walk P D L dsts I J a0 K r (k + 1) (FW.val c :: Fs)) : Walk P D L dsts I J a0 K (o :: r) k Fs :=
  ⟨_, fun vs w hb _ _ hK => ob_run l (hv vs w hK).1 (hv vs w hK).2 hc (hrun w hb) ⟨fun _ => hb, fun _ => Below.refl _ _, rfl⟩, t⟩
/-- A copy. -/
theorem w_move {t : Nat} {c : Value} (ho : o.op = .move (.tmp t) ∨ o.op = .assign (.tmp t)) (hv : ∀ vs w, Known Fs k (deps D L Fs k) vs w → Wants o vs = true ∧ rho (dsts.take k) vs a0 (.tmp t) = c)
    (t : Walk P D L dsts I J a0 K r (k + 1) (FW.val c :: Fs)) : Walk P D L dsts I J a0 K (o :: r) k Fs :=
  ⟨_, fun vs w hb _ _ hK => by
    unfold Ob
    rw [if_pos (hv vs w hK).1]
    have : (execOp (rho (dsts.take k) vs a0) o).run P w = .ok (.value c) w := by
      rcases ho with ho | ho <;> simp [execOp, ho, (hv vs w hK).2]
    rw [this]
    exact ⟨fun _ => hb, fun _ => Below.refl _ _, rfl⟩, t⟩
theorem w_const {c : Value} (ho : o.op = .move (.const c) ∨ o.op = .assign (.const c)) (hv : ∀ vs w, Known Fs k (deps D L Fs k) vs w → Wants o vs = true)
    (t : Walk P D L dsts I J a0 K r (k + 1) (FW.val c :: Fs)) : Walk P D L dsts I J a0 K (o :: r) k Fs :=
  ⟨_, fun vs w hb _ _ hK => by
    unfold Ob
    rw [if_pos (hv vs w hK)]
    have : (execOp (rho (dsts.take k) vs a0) o).run P w = .ok (.value c) w := by
      rcases ho with ho | ho <;> simp [execOp, ho, rho, Act.eval]
    rw [this]
    exact ⟨fun _ => hb, fun _ => Below.refl _ _, rfl⟩, t⟩
/-- A choice, decided. -/
theorem w_pick {x y z : Operand} {b : Bool} {c : Value} (ho : o.op = .pick x y z) (hv : ∀ vs w, Known Fs k (deps D L Fs k) vs w → Wants o vs = true ∧ rho (dsts.take k) vs a0 x = .bool b ∧ rho (dsts.take k) vs a0 (if b then y else z) = c)
    (t : Walk P D L dsts I J a0 K r (k + 1) (FW.val c :: Fs)) : Walk P D L dsts I J a0 K (o :: r) k Fs :=
  ⟨_, fun vs w hb _ _ hK => by
    unfold Ob
    rw [if_pos (hv vs w hK).1]
    obtain ⟨_, h1, h2⟩ := hv vs w hK
    have : (execOp (rho (dsts.take k) vs a0) o).run P w = .ok (.value c) w := by
      cases b
      · simp only [Bool.false_eq_true, if_false] at h2
        simp [execOp, ho, h1, h2, asBool]
      · simp only [if_true] at h2
        simp [execOp, ho, h1, h2, asBool]
    rw [this]
    exact ⟨fun _ => hb, fun _ => Below.refl _ _, rfl⟩, t⟩
theorem rho_const {dsts : List (Option Tmp)} {vs : Nat → Value} {a0 : Act} {c : Value} : rho dsts vs a0 (.const c) = c := rfl
/-- One that is not run. -/
theorem w_not (hv : ∀ vs w, Known Fs k (deps D L Fs k) vs w → Wants o vs = false) (t : Walk P D L dsts I J a0 K r (k + 1) (FW.val undef :: Fs)) : Walk P D L dsts I J a0 K (o :: r) k Fs :=
  ⟨_, fun vs w hb _ _ hK => ob_not (hv vs w hK) ⟨fun _ => hb, fun _ => Below.refl _ _, rfl⟩, t⟩
/-- A call whose answer is known. -/
theorem w_call {f : FuncId} {fn : Func} {ags : Array Operand} {ts : Array TypeId} (l : List (Nat × Value)) (args : Array Value) (c : Value) (hL : k ∉ L) (hv : ∀ vs w, Known Fs k (deps D L Fs k) vs w → Wants o vs = true ∧ Vs (rho (dsts.take k) vs a0) l) (hc : covers o (l.map (·.1)) = true)
    (hop : o.op = .call { callee := .value (.func f), args := ags, argTypes := ts }) (hf : P.funcs[f]? = some fn) (hname : (fn.name == "runtime.NumGoroutine") = false) (hb : fn.body.isSome = true)
    (h : ∀ w, I w → Calls P f args w fun e w' => e = .returned c ∧ Below w.heap.size w w') (hargs : ags.map (lk l) = args) (t : Walk P D L dsts I J a0 K r (k + 1) (FW.val c :: Fs)) : Walk P D L dsts I J a0 K (o :: r) k Fs :=
  ⟨_, fun vs w hbl _ _ hK => ob_call l args (hv vs w hK).1 (hv vs w hK).2 hc hop hf hname hb hargs ((h w hbl).mono fun e w' ⟨he, hw⟩ => ⟨c, he, fun h => absurd h hL, fun _ => hw, rfl⟩), t⟩
/-- A call, its answer told by a fact. -/
theorem w_callF (F : FW) {f : FuncId} {fn : Func} {ags : Array Operand} {ts : Array TypeId} (l : List (Nat × Value)) (args : Array Value) (hL : k ∉ L) (hv : ∀ vs w, Known Fs k (deps D L Fs k) vs w → Wants o vs = true ∧ Vs (rho (dsts.take k) vs a0) l) (hc : covers o (l.map (·.1)) = true)
    (hop : o.op = .call { callee := .value (.func f), args := ags, argTypes := ts }) (hf : P.funcs[f]? = some fn) (hname : (fn.name == "runtime.NumGoroutine") = false) (hb : fn.body.isSome = true)
    (h : ∀ w, I w → Calls P f args w fun e w' => ∃ v, e = .returned v ∧ Below w.heap.size w w' ∧ F.p v w') (hargs : ags.map (lk l) = args) (t : Walk P D L dsts I J a0 K r (k + 1) (F :: Fs)) : Walk P D L dsts I J a0 K (o :: r) k Fs :=
  ⟨F, fun vs w hbl _ _ hK => ob_call l args (hv vs w hK).1 (hv vs w hK).2 hc hop hf hname hb hargs ((h w hbl).mono fun e w' ⟨v, he, hw, hF⟩ => ⟨v, he, (fun h => absurd h hL), fun _ => hw, hF⟩), t⟩
/-- Anything that turns nothing that lay: by hand. -/
theorem w_any (F : FW) (hkL : k ∉ L) (h : ∀ vs w, I w → Known Fs k (deps D L Fs k) vs w → Ob P (dsts.take k) o vs a0 w (fun v w' => Below w.heap.size w w' ∧ F.p v w')) (t : Walk P D L dsts I J a0 K r (k + 1) (F :: Fs)) : Walk P D L dsts I J a0 K (o :: r) k Fs := by
  refine ⟨F, fun vs w hb _ _ hK => ?_, t⟩
  have h2 := h vs w hb hK
  have key : ∀ (v : Value) (w' : World), (Below w.heap.size w w' ∧ F.p v w') → ((k ∈ L → I w') ∧ (k ∉ L → Below w.heap.size w w') ∧ F.p v w') := fun v w' ⟨q1, q2⟩ => ⟨fun h => absurd h hkL, fun _ => q1, q2⟩
  unfold Ob at h2 ⊢
  split
  · rename_i hw
    rw [if_pos hw] at h2
    generalize (execOp (rho (dsts.take k) vs a0) o).run P w = res at h2 ⊢
    cases res with
    | ok n w' =>
      cases n <;> simp only [Told] at h2 ⊢
      case value v => exact key _ _ h2
      case skip => exact key _ _ h2
      case enter f args =>
        refine h2.mono ?_
        rintro e w'' ⟨v, he, hq⟩
        exact ⟨v, he, key _ _ hq⟩
    | halt x w' => exact h2.elim
  · rename_i hw
    rw [if_neg hw] at h2
    exact key _ _ h2
/-- With the start fact: anything that turns nothing that lay: by hand. -/
theorem w_anyJ (F : FW) (hkL : k ∉ L) (h : ∀ vs w, I w → (earlyB D L k = true → J w) → Known Fs k (deps D L Fs k) vs w → Ob P (dsts.take k) o vs a0 w (fun v w' => Below w.heap.size w w' ∧ F.p v w')) (t : Walk P D L dsts I J a0 K r (k + 1) (F :: Fs)) : Walk P D L dsts I J a0 K (o :: r) k Fs := by
  refine ⟨F, fun vs w hb _ hj hK => ?_, t⟩
  have h2 := h vs w hb hj hK
  have key : ∀ (v : Value) (w' : World), (Below w.heap.size w w' ∧ F.p v w') → ((k ∈ L → I w') ∧ (k ∉ L → Below w.heap.size w w') ∧ F.p v w') := fun v w' ⟨q1, q2⟩ => ⟨fun h => absurd h hkL, fun _ => q1, q2⟩
  unfold Ob at h2 ⊢
  split
  · rename_i hw
    rw [if_pos hw] at h2
    generalize (execOp (rho (dsts.take k) vs a0) o).run P w = res at h2 ⊢
    cases res with
    | ok n w' =>
      cases n <;> simp only [Told] at h2 ⊢
      case value v => exact key _ _ h2
      case skip => exact key _ _ h2
      case enter f args =>
        refine h2.mono ?_
        rintro e w'' ⟨v, he, hq⟩
        exact ⟨v, he, key _ _ hq⟩
    | halt x w' => exact h2.elim
  · rename_i hw
    rw [if_neg hw] at h2
    exact key _ _ h2
/-- One of those that write in turn: by hand. -/
theorem w_lin (F : FW) (hL : k ∈ L) (h : ∀ vs w, I w → (k ∈ L → (∀ q ∈ L, k ≤ q) → J w) → Known Fs k (deps D L Fs k) vs w → Ob P (dsts.take k) o vs a0 w (fun v w' => I w' ∧ F.p v w')) (t : Walk P D L dsts I J a0 K r (k + 1) (F :: Fs)) : Walk P D L dsts I J a0 K (o :: r) k Fs :=
  ⟨F, fun vs w hb hj _ hK => by
    have h2 := h vs w hb hj hK
    have key : ∀ (v : Value) (w' : World), (I w' ∧ F.p v w') → ((k ∈ L → I w') ∧ (k ∉ L → Below w.heap.size w w') ∧ F.p v w') := fun v w' ⟨q1, q2⟩ => ⟨fun _ => q1, fun h => absurd hL h, q2⟩
    unfold Ob at h2 ⊢
    split
    · rename_i hw
      rw [if_pos hw] at h2
      generalize (execOp (rho (dsts.take k) vs a0) o).run P w = res at h2 ⊢
      cases res with
      | ok n w' =>
        cases n <;> simp only [Told] at h2 ⊢
        case value v => exact key _ _ h2
        case skip => exact key _ _ h2
        case enter f args =>
          refine h2.mono ?_
          rintro e w'' ⟨v, he, hq⟩
          exact ⟨v, he, key _ _ hq⟩
      | halt x w' => exact h2.elim
    · rename_i hw
      rw [if_neg hw] at h2
      exact key _ _ h2, t⟩
theorem finL_val {d : Option Tmp} {c : Value} {r : List (Option Tmp)} {Fs : List FW} {k : Nat} {vs : Nat → Value} {a : Act} : finL (d :: r) (FW.val c :: Fs) k vs a = finL r Fs (k + 1) vs (a.put d c) := rfl
theorem finL_of {d : Option Tmp} {p : Value → World → Prop} {st : ∀ v w w', p v w → Below w.heap.size w w' → p v w'} {r : List (Option Tmp)} {Fs : List FW} {k : Nat} {vs : Nat → Value} {a : Act} : finL (d :: r) (FW.of p st :: Fs) k vs a = finL r Fs (k + 1) vs (a.put d (vs k)) := rfl
theorem finL_any {d : Option Tmp} {r : List (Option Tmp)} {Fs : List FW} {k : Nat} {vs : Nat → Value} {a : Act} : finL (d :: r) (FW.any :: Fs) k vs a = finL r Fs (k + 1) vs (a.put d (vs k)) := rfl
theorem finL_nil {k : Nat} {vs : Nat → Value} {a : Act} : finL [] [] k vs a = a := rfl
def endB (D : List (List Nat)) (L : List Nat) (Fs : List FW) (k : Nat) : Bool := (List.range k).all fun j => (Fs.getD (k - 1 - j) FW.any).det.isNone || useE D L (Fs.getD (k - 1 - j) FW.any).fix j k
theorem endB_spec {D : List (List Nat)} {L : List Nat} {Fs : List FW} {k : Nat} (h : endB D L Fs k = true) : ∀ j, j < k → (Fs.getD (k - 1 - j) FW.any).det = none ∨ useE D L (Fs.getD (k - 1 - j) FW.any).fix j k = true := fun j hj => by
  have := List.all_eq_true.1 h j (List.mem_range.2 hj)
  simpa using this
/-- The end: the frame, known values written out. -/
theorem w_end {Q : Act → World → Prop} (hl : dsts.length = Fs.length) (hk : Fs.length = k) (hd0 : endB D L Fs k = true) (h : ∀ vs w, I w → (∀ j, j < k → useE D L (Fs.getD (k - 1 - j) FW.any).fix j k = true → (Fs.getD (k - 1 - j) FW.any).p (vs j) w) → Q (finL dsts Fs.reverse 0 vs a0) w) : Walk P D L dsts I J a0 (fun vs w => Q (putL dsts 0 vs a0) w) [] k Fs := fun vs w hb hf => by
  have hd := endB_spec hd0
  show Q (putL dsts 0 vs a0) w
  rw [finL_eq vs w dsts Fs.reverse 0 a0 (by simp [hl]) (fun j hj => by
    rw [Nat.zero_add]
    have hj' : j < Fs.length := by simpa using hj
    have h1 := hd j (by omega)
    have h2 := hf j (by omega)
    rw [List.getD_eq_getElem?_getD, List.getElem?_reverse hj']
    rw [List.getD_eq_getElem?_getD] at h1 h2
    rw [hk]
    exact h1.imp id h2)]
  exact h vs w hb hf
/-- A copy, its value told by whatever fact. -/
theorem ob_copy {dsts : List (Option Tmp)} {vs : Nat → Value} {a0 : Act} {o : Oper} {w : World} {R : Value → World → Prop} {t : Nat} {c : Value} (ho : o.op = .move (.tmp t) ∨ o.op = .assign (.tmp t)) (hw : Wants o vs = true) (hv : rho dsts vs a0 (.tmp t) = c) (hR : R c w) : Ob P dsts o vs a0 w R := by
  unfold Ob
  rw [if_pos hw]
  have : (execOp (rho dsts vs a0) o).run P w = .ok (.value c) w := by
    rcases ho with ho | ho <;> simp [execOp, ho, hv]
  rw [this]
  exact hR
theorem run_append_op {l : List (Nat × Value)} {s x : Operand} {ts : Array TypeId} {u v v1 : Value} {w w1 : World} (ho : o.op = .call { callee := .builtin .append, args := #[s, x], argTypes := ts }) (hs : lk l s = v) (hx : lk l x = u)
    (hrun : (Builtin.append_ ts o.type #[v, u]).run P w = .ok v1 w1) : (execOp (lk l) o).run P w = .ok (.value v1) w1 := by
  unfold execOp
  simp [ho, resolve, invoke, builtin, hs, hx, hrun]
end
/-- An appended row, as a fact. -/
def FW.app (k : IntKind) (E : TypeId) (w0 w : World) (v : Value) (xs : List Int) : FW := .of (fun v' w' => App k E w0 w w' v v' xs) fun _ _ _ h hb => ⟨gr_below h.own hb, below_then h.bel h.bel.size hb, h.fr.below hb⟩
section
variable {d : Option Tmp} {r : List (Option Tmp)} {Fs : List FW} {n : Nat} {vs : Nat → Value} {a : Act} {k : IntKind} {E : TypeId} {w0 w : World} {v : Value} {xs : List Int} {B : Nat} {cs : List Value} {T : TypeId}
theorem finL_app : finL (d :: r) (FW.app k E w0 w v xs :: Fs) n vs a = finL r Fs (n + 1) vs (a.put d (vs n)) := rfl
theorem finL_gr : finL (d :: r) (FW.gr k E B xs :: Fs) n vs a = finL r Fs (n + 1) vs (a.put d (vs n)) := rfl
theorem finL_row : finL (d :: r) (FW.row k xs :: Fs) n vs a = finL r Fs (n + 1) vs (a.put d (vs n)) := rfl
theorem finL_box : finL (d :: r) (FW.box B cs T :: Fs) n vs a = finL r Fs (n + 1) vs (a.put d (vs n)) := rfl
end
theorem app_start {k : IntKind} {E : TypeId} {w0 w : World} {v : Value} {xs : List Int} (HO : Gr k E w w0.heap.size v xs) (HB : Below w0.heap.size w0 w) {w' : World} (hb : Below w.heap.size w w') : App k E w0 w w' v v xs :=
  ⟨gr_below HO hb, below_then HB HB.size hb, (Fr.refl w v).below hb⟩
theorem app_st {k : IntKind} {E : TypeId} {w0 w : World} {v v' : Value} {xs : List Int} : ∀ w1 w2, App k E w0 w w1 v v' xs → Below w1.heap.size w1 w2 → App k E w0 w w2 v v' xs := fun _ _ h hb => ⟨gr_below h.own hb, below_then h.bel h.bel.size hb, h.fr.below hb⟩
/-- The next of a chain. -/
theorem app_next {k : IntKind} {E : TypeId} {w0 w w1 w2 : World} {v v1 v2 : Value} {xs ys : List Int} (h : App k E w0 w w1 v v1 xs) (a : App k E w0 w1 w2 v1 v2 ys) : App k E w0 w w2 v v2 ys := ⟨a.own, a.bel, h.fr.trans a.fr⟩
theorem app_of_run {k : IntKind} {E : TypeId} {w0 w w1 w2 : World} {v v1 v2 : Value} {xs ys : List Int} (h : App k E w0 w w1 v v1 xs) (a : Apd (Value.int k) (int_one k) E w1 w2 w0.heap.size v1 v2 ys) : App k E w0 w w2 v v2 ys :=
  ⟨a.own, h.bel.grown a.fr.grown h.bel.size (gr_base h.own), h.fr.trans a.fr⟩
/-- A row that was made since the world W; nothing that lay there is turned. -/
structure New (k : IntKind) (E : TypeId) (W : World) (xs : List Int) (v : Value) (w : World) : Prop where
  own : Gr k E w W.heap.size v xs
  bel : Below W.heap.size W w
theorem New.below {k : IntKind} {E : TypeId} {W : World} {xs : List Int} {v : Value} {w w' : World} (h : New k E W xs v w) (hb : Below w.heap.size w w') : New k E W xs v w' := ⟨gr_below h.own hb, below_then h.bel h.bel.size hb⟩
def FW.new (k : IntKind) (E : TypeId) (W : World) (xs : List Int) : FW := .of (New k E W xs) fun _ _ _ h hb => h.below hb
theorem finL_new {d : Option Tmp} {r : List (Option Tmp)} {Fs : List FW} {n : Nat} {vs : Nat → Value} {a : Act} {k : IntKind} {E : TypeId} {W : World} {xs : List Int} : finL (d :: r) (FW.new k E W xs :: Fs) n vs a = finL r Fs (n + 1) vs (a.put d (vs n)) := rfl
theorem new_app {k : IntKind} {E : TypeId} {W w w' : World} {v v' : Value} {xs : List Int} (h : App k E W w w' v v' xs) : New k E W xs v' w' := ⟨h.own, h.bel⟩
theorem new_run {k : IntKind} {E : TypeId} {W w w' : World} {v v' : Value} {xs ys : List Int} (h : New k E W xs v w) (a : Apd (Value.int k) (int_one k) E w w' W.heap.size v v' ys) : New k E W ys v' w' := ⟨a.own, h.bel.grown a.fr.grown h.bel.size (gr_base h.own)⟩
theorem new_nil (k : IntKind) (E : TypeId) {W w : World} (hb : Below W.heap.size W w) : New k E W [] (.slice none 0 0) w := ⟨gr_nil _ _ _, hb⟩
theorem run_conv_op {P : Program} {o : Oper} {l : List (Nat × Value)} {s : Operand} {src dst : TypeId} {v c : Value} {w w' : World} (ho : o.op = .convert src dst s) (hs : lk l s = v) (hrun : (convert src dst v).run P w = .ok c w') : (execOp (lk l) o).run P w = .ok (.value c) w' := by
  unfold execOp
  simp [ho, hs, hrun]
theorem run_load_op {P : Program} {o : Oper} {l : List (Nat × Value)} {x : Operand} {t : TypeId} {p v : Value} {w : World} (ho : o.op = .load t x) (hx : lk l x = p) (hrun : (Instr.loadAt t p).run P w = .ok v w) : (execOp (lk l) o).run P w = .ok (.value v) w := by
  unfold execOp
  simp [ho, hx, hrun]
theorem run_cat_op {P : Program} {o : Oper} {l : List (Nat × Value)} {x y : Operand} {t : TypeId} {m : Nat} {a b : ByteArray} {w : World} (ho : o.op = .binOp .add t x y m) (hx : lk l x = .string a) (hy : lk l y = .string b) (hs : a.size + b.size ≤ 9223372036854775807) : (execOp (lk l) o).run P w = .ok (.value (.string (a ++ b))) w := by
  unfold execOp
  simp [ho, hx, hy, eqGuard, binOp, run_string_add_sum w a b hs, Result.andThen]
theorem run_eql_same {P : Program} {o : Oper} {l : List (Nat × Value)} {x y : Operand} {t : TypeId} {m : Nat} {a b : ByteArray} {w : World} (ho : o.op = .binOp .eql t x y m) (hx : lk l x = .string a) (hy : lk l y = .string b) (hs : a = b) : (execOp (lk l) o).run P w = .ok (.value (.bool true)) w := by
  subst hs
  unfold execOp
  simp [ho, hx, hy, eqGuard, binOp, Op.stringOp]
theorem run_neq_same {P : Program} {o : Oper} {l : List (Nat × Value)} {x y : Operand} {t : TypeId} {m : Nat} {a b : ByteArray} {w : World} (ho : o.op = .binOp .neq t x y m) (hx : lk l x = .string a) (hy : lk l y = .string b) (hs : a = b) : (execOp (lk l) o).run P w = .ok (.value (.bool false)) w := by
  subst hs
  unfold execOp
  simp [ho, hx, hy, eqGuard, binOp, Op.stringOp]
theorem run_len_str {P : Program} {o : Oper} {l : List (Nat × Value)} {x : Operand} {t : TypeId} {s : ByteArray} {n : Int} {w : World} (ho : o.op = .call { callee := .builtin .len, args := #[x], argTypes := #[t] }) (ht : P.underlying t = some .string) (hx : lk l x = .string s) (hs : (s.size : Int) = n) : (execOp (lk l) o).run P w = .ok (.value (.int .i64 n)) w := by
  subst hs
  unfold execOp
  simp [ho, resolve, invoke, builtin, hx, run_len_string w t o.type s ht, Result.andThen, goInt]
theorem run_int_eql {P : Program} {o : Oper} {l : List (Nat × Value)} {x y : Operand} {t : TypeId} {m : Nat} {k : IntKind} {a b : Int} {r : Bool} {w : World} (ho : o.op = .binOp .eql t x y m) (hx : lk l x = .int k a) (hy : lk l y = .int k b) (h : (a == b) = r) : (execOp (lk l) o).run P w = .ok (.value (.bool r)) w := by
  subst h
  unfold execOp
  simp [ho, hx, hy, eqGuard, binOp, Op.intCmp]
theorem run_int_neq {P : Program} {o : Oper} {l : List (Nat × Value)} {x y : Operand} {t : TypeId} {m : Nat} {k : IntKind} {a b : Int} {r : Bool} {w : World} (ho : o.op = .binOp .neq t x y m) (hx : lk l x = .int k a) (hy : lk l y = .int k b) (h : (a != b) = r) : (execOp (lk l) o).run P w = .ok (.value (.bool r)) w := by
  subst h
  unfold execOp
  simp [ho, hx, hy, eqGuard, binOp, Op.intCmp]
theorem run_int_lss {P : Program} {o : Oper} {l : List (Nat × Value)} {x y : Operand} {t : TypeId} {m : Nat} {k : IntKind} {a b : Int} {r : Bool} {w : World} (ho : o.op = .binOp .lss t x y m) (hx : lk l x = .int k a) (hy : lk l y = .int k b) (h : decide (a < b) = r) : (execOp (lk l) o).run P w = .ok (.value (.bool r)) w := by
  subst h
  unfold execOp
  simp [ho, hx, hy, eqGuard, binOp, Op.intCmp]
theorem run_int_leq {P : Program} {o : Oper} {l : List (Nat × Value)} {x y : Operand} {t : TypeId} {m : Nat} {k : IntKind} {a b : Int} {r : Bool} {w : World} (ho : o.op = .binOp .leq t x y m) (hx : lk l x = .int k a) (hy : lk l y = .int k b) (h : decide (a ≤ b) = r) : (execOp (lk l) o).run P w = .ok (.value (.bool r)) w := by
  subst h
  unfold execOp
  simp [ho, hx, hy, eqGuard, binOp, Op.intCmp]
theorem run_int_gtr {P : Program} {o : Oper} {l : List (Nat × Value)} {x y : Operand} {t : TypeId} {m : Nat} {k : IntKind} {a b : Int} {r : Bool} {w : World} (ho : o.op = .binOp .gtr t x y m) (hx : lk l x = .int k a) (hy : lk l y = .int k b) (h : decide (a > b) = r) : (execOp (lk l) o).run P w = .ok (.value (.bool r)) w := by
  subst h
  unfold execOp
  simp [ho, hx, hy, eqGuard, binOp, Op.intCmp]
theorem run_int_geq {P : Program} {o : Oper} {l : List (Nat × Value)} {x y : Operand} {t : TypeId} {m : Nat} {k : IntKind} {a b : Int} {r : Bool} {w : World} (ho : o.op = .binOp .geq t x y m) (hx : lk l x = .int k a) (hy : lk l y = .int k b) (h : decide (a ≥ b) = r) : (execOp (lk l) o).run P w = .ok (.value (.bool r)) w := by
  subst h
  unfold execOp
  simp [ho, hx, hy, eqGuard, binOp, Op.intCmp]
/-- A contract that leaves the world alone. -/
theorem pureB {P : Program} {f : FuncId} {args : Array Value} {w : World} {c : Value} (h : Calls P f args w fun e w' => e = .returned c ∧ w = w') : Calls P f args w fun e w' => e = .returned c ∧ Below w.heap.size w w' :=
  h.mono fun e w' ⟨he, hw⟩ => ⟨he, hw ▸ Below.refl _ _⟩
theorem run_slice_op {P : Program} {o : Oper} {l : List (Nat × Value)} {t : TypeId} {x : Operand} {lo hi : Option Operand} {v c : Value} {w : World} (ho : o.op = .slice t x lo hi none) (hx : lk l x = v) (hrun : (Instr.sliceAt t v (lo.map (lk l)) (hi.map (lk l)) none).run P w = .ok c w) : (execOp (lk l) o).run P w = .ok (.value c) w := by
  unfold execOp
  simp [ho, hx, hrun]
/-- s[lo:hi], the bounds of whatever kinds. -/
theorem cut_mid_k {α : Type} {enc : α → Value} {h1 : ∀ x, (enc x).oneCell' = true} {P : Program} {t e : TypeId} {z : Value} {bytes : Nat} (k1 k2 : IntKind) (d : α) (T : SlTy P t e z bytes) (A : Option Addr) (n c lo hi m : Nat) (hm : m + lo = hi) (hh : hi ≤ n) (hc : n ≤ c) (j1 j2 : Int) (hj1 : j1 = (lo : Int)) (hj2 : j2 = (hi : Int)) :
    ∃ A' : Option Addr, (∀ W : World, (Instr.slice t (.slice A n c) (some (.int k1 j1)) (some (.int k2 j2)) none).run P W = .ok (.slice A' m (c - lo)) W) ∧ ∀ (w : World) (xs : List α), RdsE enc h1 w A n xs → RdsE enc h1 w A' m ((xs.take hi).drop lo) := by
  obtain ⟨i0, hi0, hzz⟩ := Option.map_eq_some_iff.1 T.info
  simp only [Prod.mk.injEq] at hzz
  have hel : P.elem t = e := by simp [Program.elem, T.und]
  have hu : P.underlying t = some (.slice (P.elem t)) := by rw [hel]; exact T.und
  obtain rfl : m = hi - lo := by omega
  refine ⟨if c = lo then A else A.map (·.add lo), fun W => ?_, fun w xs h => rds_drop d (c := c) (rds_take d h hi hh) lo (by omega) (by omega)⟩
  rw [hj1, hj2, run_slice_lh W t A n c hu k1 k2 lo hi (by omega) (by omega) (by omega), hel]
  simp [sizeOf, typeInfo, hi0, hzz.2.1, sliced, Result.andThen]
theorem szc (b : UInt8) : (⟨#[b]⟩ : ByteArray).size = 1 := rfl
theorem range_block {w : World} {g : Nat} {cs : List Value} {T : TypeId} {fr : Nat × Nat} (h : w.heap[g]? = some (.cells cs.toArray T fr)) : w.rangeAt g 0 cs := fun j v hv => by
  simp only [World.cell?, h]
  simpa using hv
theorem range_mid {w : World} {g o n : Nat} {cs ds : List Value} {T : TypeId} {fr : Nat × Nat} (h : w.heap[g]? = some (.cells cs.toArray T fr)) (hd : (cs.drop o).take n = ds) : w.rangeAt g o ds := fun j v hv => by
  subst hd
  simp only [World.cell?, h]
  rw [List.getElem?_take] at hv
  split at hv
  · rw [List.getElem?_drop] at hv
    simpa using hv
  · cases hv
/-- Blocks that stay, beside a chain. -/
structure Keeps (w0 : World) (g : Nat) (o : Obj) (w : World) : Prop where
  bel : Below w0.heap.size w0 w
  at_ : w.heap[g]? = some o
theorem keeps_below {w0 : World} {g : Nat} {o : Obj} : ∀ w w', Keeps w0 g o w → Below w.heap.size w w' → Keeps w0 g o w' := fun _ _ h hb =>
  ⟨below_then h.bel h.bel.size hb, by rw [hb.block g (mk_lt h.at_)]; exact h.at_⟩
/-- .. where a row beside it is written. -/
theorem keeps_fr {w0 : World} {g : Nat} {o : Obj} {w w' : World} {v v' : Value} (h : Keeps w0 g o w) (hb : Below w0.heap.size w0 w') (hf : Fr w w' v v') (hne : v.ownBlock ≠ some g) : Keeps w0 g o w' :=
  ⟨hb, by rw [hf.grown.block g (mk_lt h.at_) (Ne.symm hne)]; exact h.at_⟩
/-- A chain's row stays away from an elder block that it did not begin in. -/
theorem app_ne {k : IntKind} {E : TypeId} {w0 w w1 : World} {v v1 : Value} {xs : List Int} (h : App k E w0 w w1 v v1 xs) {g : Nat} (hg : g < w.heap.size) (hne : v.ownBlock ≠ some g) : v1.ownBlock ≠ some g := by
  rcases h.fr.at_ with e | ⟨b, e, hb⟩
  · rw [e]; exact hne
  · rw [e]
    intro he
    injection he with he
    omega
theorem gr_ne {k : IntKind} {E : TypeId} {w : World} {B : Nat} {v : Value} {xs : List Int} (h : Gr k E w B v xs) {g : Nat} (hg : w.heap.size ≤ g) : v.ownBlock ≠ some g := fun he => by
  have := gr_lt h g he
  omega
/-- Cells of a block that is known. -/
theorem rds_block {k : IntKind} {w : World} {g o n : Nat} {cs : List Value} {T : TypeId} {fr : Nat × Nat} {xs : List Int} (h : w.heap[g]? = some (.cells cs.toArray T fr)) (hc : (cs.drop o).take n = nums k xs) (hn : xs.length = n) (hm : n ≤ 9223372036854775807) : Rds k w (some ⟨g, o, none⟩) n xs := by
  subst hn
  refine Kd.C_of_reads (d := (0 : Int)) ⟨rfl, hm, fun _ => ⟨_, rfl, fun j hj => ?_⟩⟩
  rw [Addr.add_mid]
  have h2 : ((cs.drop o).take xs.length)[j]? = (nums k xs)[j]? := by rw [hc]
  rw [List.getElem?_take, if_pos hj, List.getElem?_drop] at h2
  simp only [World.cell?, h]
  simp [nums, List.getElem?_eq_getElem hj, List.getD_eq_getElem?_getD] at h2 ⊢
  exact h2
end Go.Proofs.Ytnkeijdpjcclcaa.Kit
-- Walk2
/- Loads of one cell, in regions. -/
namespace Go.Proofs.Ytnkeijdpjcclcaa.Kit
set_option linter.unusedVariables false
set_option linter.unusedSimpArgs false
open Go.RowKit Go.Proofs.YtnkeijdpjcclcaaW.PrintWords Go.Proofs.YtnkeijdpjcclcaaW.PrintLast Go.Proofs.YtnkeijdpjcclcaaW.PrintMore
def oneB : TypeDesc → Bool
  | .struct _ => false
  | .array _ _ => false
  | _ => true
theorem run_loadAt_cell {P : Program} (w : World) (ad : Addr) (ty : TypeId) (v : Value) (d : TypeDesc) (hu : P.underlying ty = some d) (hd : oneB d = true) (hc : w.cell? ad = some v) : (Instr.loadAt ty (.pointer (some ad))).run P w = .ok v w := by
  have hagg : (isAgg ty).run P w = .ok false w := by
    unfold isAgg
    rw [Sem.run_bind, run_underlying hu w]
    cases d <;> simp_all [oneB]
  simp only [Instr.loadAt, Instr.sureAddr, loadVar, Sem.run_bind, Sem.run_pure, Result.andThen_ok, hagg]
  go_simp
theorem run_load_cell {P : Program} {o : Oper} {l : List (Nat × Value)} {x : Operand} {t : TypeId} {p v : Value} {ad : Addr} {d : TypeDesc} {w : World} (ho : o.op = .load t x) (hx : lk l x = p) (hp : p = .pointer (some ad)) (hu : P.underlying t = some d) (hd : oneB d = true) (hc : w.cell? ad = some v) : (execOp (lk l) o).run P w = .ok (.value v) w := by
  subst hp
  exact run_load_op ho hx (run_loadAt_cell w ad t v d hu hd hc)
theorem run_int_add {P : Program} {o : Oper} {l : List (Nat × Value)} {x y : Operand} {t : TypeId} {m : Nat} {k : IntKind} {a b c : Int} {w : World} (ho : o.op = .binOp .add t x y m) (hx : lk l x = .int k a) (hy : lk l y = .int k b) (h : k.wrap (a + b) = c) : (execOp (lk l) o).run P w = .ok (.value (.int k c)) w := by
  subst h
  unfold execOp
  simp [ho, hx, hy, eqGuard, binOp, Op.intArith]
theorem run_int_sub {P : Program} {o : Oper} {l : List (Nat × Value)} {x y : Operand} {t : TypeId} {m : Nat} {k : IntKind} {a b c : Int} {w : World} (ho : o.op = .binOp .sub t x y m) (hx : lk l x = .int k a) (hy : lk l y = .int k b) (h : k.wrap (a - b) = c) : (execOp (lk l) o).run P w = .ok (.value (.int k c)) w := by
  subst h
  unfold execOp
  simp [ho, hx, hy, eqGuard, binOp, Op.intArith]
theorem i64_id {x : Int} (h0 : -9223372036854775808 ≤ x) (h1 : x ≤ 9223372036854775807) : IntKind.i64.wrap x = x := by rw [IntKind.wrap_i64]; omega
theorem run_len_sl {P : Program} {o : Oper} {l : List (Nat × Value)} {x : Operand} {t e : TypeId} {A : Option Addr} {n c : Nat} {m : Int} {w : World} (ho : o.op = .call { callee := .builtin .len, args := #[x], argTypes := #[t] }) (ht : P.underlying t = some (.slice e)) (hx : lk l x = .slice A n c) (hm : (n : Int) = m) : (execOp (lk l) o).run P w = .ok (.value (.int .i64 m)) w := by
  subst hm
  unfold execOp
  simp only [ho, resolve, invoke, builtin, hx, List.map_toArray, List.map_cons, List.map_nil, Sem.run_bind, Sem.run_pure, Result.andThen_ok]
  go_simp
/-- &s[i] -/
theorem run_index_cell {P : Program} {o : Oper} {l : List (Nat × Value)} {x ix : Operand} {t e : TypeId} {z : Value} {bytes : Nat} (T : SlTy P t e z bytes) {ad : Addr} {n c i : Nat} {j : Int} {k : IntKind} {w : World} (ho : o.op = .indexAddr t x ix) (hx : lk l x = .slice (some ad) n c) (hj : lk l ix = .int k j) (hi : j = (i : Int)) (hn : i < n) :
    (execOp (lk l) o).run P w = .ok (.value (.pointer (some (ad.add i)))) w := by
  subst hi
  obtain ⟨i0, hi0, hzz⟩ := Option.map_eq_some_iff.1 T.info
  simp only [Prod.mk.injEq] at hzz
  have hel : P.elem t = e := by simp [Program.elem, T.und]
  have hu := T.und
  have h0 : (0 : Int) ≤ (i : Int) := by omega
  have h1 : (i : Int) < (n : Int) := by omega
  unfold execOp
  simp only [ho, hx, hj]
  go_simp
  simp [sizeOf, typeInfo, hi0, hzz.2.1, Result.andThen]
theorem below_cell {w w' : World} {ad : Addr} {v : Value} (hb : Below w.heap.size w w') (h : w.cell? ad = some v) : w'.cell? ad = some v := by
  have hlt : ad.block < w.heap.size := by
    rcases Nat.lt_or_ge ad.block w.heap.size with g | g
    · exact g
    · simp [World.cell?, Array.getElem?_eq_none g] at h
  unfold World.cell? at h ⊢
  rw [hb.block _ hlt]
  exact h
end Go.Proofs.Ytnkeijdpjcclcaa.Kit
-- Walk3
/- More operations in regions: texts compared, truth values compared, minus. -/
namespace Go.Proofs.Ytnkeijdpjcclcaa.Kit
set_option linter.unusedVariables false
set_option linter.unusedSimpArgs false
open Go.RowKit Go.Proofs.YtnkeijdpjcclcaaW.PrintWords Go.Proofs.YtnkeijdpjcclcaaW.PrintLast Go.Proofs.YtnkeijdpjcclcaaW.PrintMore
theorem box_stays {w w' : World} {g : Nat} {o : Obj} (h : w.heap[g]? = some o) (hb : Below w.heap.size w w') : w'.heap[g]? = some o := by rw [hb.block g (mk_lt h)]; exact h
theorem op_int_neg {P : Program} {o : Oper} {l : List (Nat × Value)} {x : Operand} {t : TypeId} {k : IntKind} {a c : Int} {w : World} (ho : o.op = .unOp .neg t x) (hx : lk l x = .int k a) (h : k.wrap (-a) = c) : (execOp (lk l) o).run P w = .ok (.value (.int k c)) w := by
  subst h
  unfold execOp
  simp [ho, hx, Op.unary, Op.intArith]
theorem op_str_ne {P : Program} {o : Oper} {l : List (Nat × Value)} {x y : Operand} {t : TypeId} {m : Nat} {a b : ByteArray} {w : World} (ho : o.op = .binOp .eql t x y m) (hx : lk l x = .string a) (hy : lk l y = .string b) (h : a ≠ b) : (execOp (lk l) o).run P w = .ok (.value (.bool false)) w := by
  unfold execOp
  simp [ho, hx, hy, eqGuard, binOp, Op.stringOp]
  intro e
  apply h
  exact ByteArray.ext (Array.toList_inj.1 (by rw [← ByteArray.toList_eq, ← ByteArray.toList_eq]; exact e))
theorem op_str_neq {P : Program} {o : Oper} {l : List (Nat × Value)} {x y : Operand} {t : TypeId} {m : Nat} {a b : ByteArray} {w : World} (ho : o.op = .binOp .neq t x y m) (hx : lk l x = .string a) (hy : lk l y = .string b) (h : a ≠ b) : (execOp (lk l) o).run P w = .ok (.value (.bool true)) w := by
  unfold execOp
  simp [ho, hx, hy, eqGuard, binOp, Op.stringOp]
  intro e
  apply h
  exact ByteArray.ext (Array.toList_inj.1 (by rw [← ByteArray.toList_eq, ← ByteArray.toList_eq]; exact e))
theorem op_str_lss {P : Program} {o : Oper} {l : List (Nat × Value)} {x y : Operand} {t : TypeId} {m : Nat} {a b : ByteArray} {r : Bool} {w : World} (ho : o.op = .binOp .lss t x y m) (hx : lk l x = .string a) (hy : lk l y = .string b) (h : Op.bytesLess a.toList b.toList = r) : (execOp (lk l) o).run P w = .ok (.value (.bool r)) w := by
  subst h
  unfold execOp
  simp [ho, hx, hy, eqGuard, binOp, Op.stringOp]
theorem op_bool_eql {P : Program} {o : Oper} {l : List (Nat × Value)} {x y : Operand} {t : TypeId} {m : Nat} {a b r : Bool} {w : World} (ho : o.op = .binOp .eql t x y m) (hx : lk l x = .bool a) (hu : P.underlying t = some .bool) (hy : lk l y = .bool b) (h : (a == b) = r) : (execOp (lk l) o).run P w = .ok (.value (.bool r)) w := by
  subst h
  unfold execOp
  simp [ho, hx, hy, eqGuard, binOp, Op.equal]
  unfold Op.maxDepth Op.equalIn
  simp only [Sem.run_bind, run_underlying hu, Sem.run_pure, Result.andThen_ok]
  try rfl
theorem op_bool_neq {P : Program} {o : Oper} {l : List (Nat × Value)} {x y : Operand} {t : TypeId} {m : Nat} {a b r : Bool} {w : World} (ho : o.op = .binOp .neq t x y m) (hx : lk l x = .bool a) (hu : P.underlying t = some .bool) (hy : lk l y = .bool b) (h : (a != b) = r) : (execOp (lk l) o).run P w = .ok (.value (.bool r)) w := by
  subst h
  unfold execOp
  simp [ho, hx, hy, eqGuard, binOp, Op.equal]
  unfold Op.maxDepth Op.equalIn
  simp only [Sem.run_bind, run_underlying hu, Sem.run_pure, Result.andThen_ok]
  try rfl
end Go.Proofs.Ytnkeijdpjcclcaa.Kit
-- Walk4
/- Operations that a condition guards, the condition a truth value that is not decided: one walk for all ways. -/
namespace Go.Proofs.Ytnkeijdpjcclcaa.Kit
set_option linter.unusedVariables false
set_option linter.unusedSimpArgs false
open Go.RowKit Go.Proofs.YtnkeijdpjcclcaaW.PrintWords Go.Proofs.YtnkeijdpjcclcaaW.PrintLast Go.Proofs.YtnkeijdpjcclcaaW.PrintMore
/-- A value that is there where a condition holds. -/
def gv (G : Bool) (c : Value) : Value := bif G then c else undef
theorem fvg {G : Bool} {c v : Value} {w : World} (h : (FW.val (gv G c)).p v w) (hG : G = true) : v = c := by
  subst hG
  exact h
theorem gl {A B : Bool} (h : (A && B) = true) : A = true := by cases A <;> simp_all
theorem gr_ {A B : Bool} (h : (A && B) = true) : B = true := by cases A <;> simp_all
theorem gand {A B : Bool} (h : A = true) (k : B = true) : (A && B) = true := by simp [h, k]
theorem gnot {B : Bool} (h : B = false) : (!B) = true := by simp [h]
theorem ungnot {B : Bool} (h : (!B) = true) : B = false := by cases B <;> simp_all
section
variable {o : Oper} {vs : Nat → Value} {g : Nat} {B G : Bool}
theorem wantsT (h : o.guard = some (g, true)) (hv : vs g = .bool B) : Wants o vs = B := by cases B <;> simp [Wants, h, hv]
theorem wantsF (h : o.guard = some (g, false)) (hv : vs g = .bool B) : Wants o vs = !B := by cases B <;> simp [Wants, h, hv]
theorem wantsTg (h : o.guard = some (g, true)) (hv : vs g = gv G (.bool B)) : Wants o vs = (G && B) := by cases G <;> cases B <;> simp [Wants, h, hv, gv, undef]
theorem wantsFg (h : o.guard = some (g, false)) (hv : vs g = gv G (.bool B)) : Wants o vs = (G && !B) := by cases G <;> cases B <;> simp [Wants, h, hv, gv, undef]
end
section
variable {P : Program} {D : List (List Nat)} {L : List Nat} {dsts : List (Option Tmp)} {I J : World → Prop} {a0 : Act} {K : (Nat → Value) → World → Prop} {o : Oper} {r : List Oper} {k : Nat} {Fs : List FW} {G B C : Bool}
theorem w_as {c c' : Value} (h : c = c') (t : Walk P D L dsts I J a0 K r k (FW.val c' :: Fs)) : Walk P D L dsts I J a0 K r k (FW.val c :: Fs) := by
  subst h
  exact t
theorem w_valG (l : List (Nat × Value)) (c : Value) (hw : ∀ vs w, Known Fs k (deps D L Fs k) vs w → Wants o vs = G) (hv : G = true → ∀ vs w, Known Fs k (deps D L Fs k) vs w → Vs (rho (dsts.take k) vs a0) l) (hc : covers o (l.map (·.1)) = true)
    (hrun : G = true → ∀ w, I w → (execOp (lk l) o).run P w = .ok (.value c) w) (t : Walk P D L dsts I J a0 K r (k + 1) (FW.val (gv G c) :: Fs)) : Walk P D L dsts I J a0 K (o :: r) k Fs := by
  cases G
  · exact w_not hw t
  · exact w_val l c (fun vs w hK => ⟨hw vs w hK, hv rfl vs w hK⟩) hc (hrun rfl) t
theorem w_moveG {t : Nat} {c : Value} (ho : o.op = .move (.tmp t) ∨ o.op = .assign (.tmp t)) (hw : ∀ vs w, Known Fs k (deps D L Fs k) vs w → Wants o vs = G) (hv : G = true → ∀ vs w, Known Fs k (deps D L Fs k) vs w → rho (dsts.take k) vs a0 (.tmp t) = c)
    (t : Walk P D L dsts I J a0 K r (k + 1) (FW.val (gv G c) :: Fs)) : Walk P D L dsts I J a0 K (o :: r) k Fs := by
  cases G
  · exact w_not hw t
  · exact w_move ho (fun vs w hK => ⟨hw vs w hK, hv rfl vs w hK⟩) t
theorem w_constG {c : Value} (ho : o.op = .move (.const c) ∨ o.op = .assign (.const c)) (hw : ∀ vs w, Known Fs k (deps D L Fs k) vs w → Wants o vs = G)
    (t : Walk P D L dsts I J a0 K r (k + 1) (FW.val (gv G c) :: Fs)) : Walk P D L dsts I J a0 K (o :: r) k Fs := by
  cases G
  · exact w_not hw t
  · exact w_const ho hw t
theorem w_callG {f : FuncId} {fn : Func} {ags : Array Operand} {ts : Array TypeId} (l : List (Nat × Value)) (args : Array Value) (c : Value) (hL : k ∉ L) (hw : ∀ vs w, Known Fs k (deps D L Fs k) vs w → Wants o vs = G) (hv : G = true → ∀ vs w, Known Fs k (deps D L Fs k) vs w → Vs (rho (dsts.take k) vs a0) l) (hc : covers o (l.map (·.1)) = true)
    (hop : o.op = .call { callee := .value (.func f), args := ags, argTypes := ts }) (hf : P.funcs[f]? = some fn) (hname : (fn.name == "runtime.NumGoroutine") = false) (hb : fn.body.isSome = true)
    (h : G = true → ∀ w, I w → Calls P f args w fun e w' => e = .returned c ∧ Below w.heap.size w w') (hargs : ags.map (lk l) = args) (t : Walk P D L dsts I J a0 K r (k + 1) (FW.val (gv G c) :: Fs)) : Walk P D L dsts I J a0 K (o :: r) k Fs := by
  cases G
  · exact w_not hw t
  · exact w_call l args c hL (fun vs w hK => ⟨hw vs w hK, hv rfl vs w hK⟩) hc hop hf hname hb (h rfl) hargs t
/-- x || y, x && y. -/
theorem w_or {x y : Operand} (ho : o.op = .pick x (.const (.bool true)) y) (hw : ∀ vs w, Known Fs k (deps D L Fs k) vs w → Wants o vs = true) (hx : ∀ vs w, Known Fs k (deps D L Fs k) vs w → rho (dsts.take k) vs a0 x = .bool B) (hy : B = false → ∀ vs w, Known Fs k (deps D L Fs k) vs w → rho (dsts.take k) vs a0 y = .bool C)
    (t : Walk P D L dsts I J a0 K r (k + 1) (FW.val (.bool (B || C)) :: Fs)) : Walk P D L dsts I J a0 K (o :: r) k Fs := by
  cases B
  · exact w_pick (b := false) ho (fun vs w hK => ⟨hw vs w hK, hx vs w hK, hy rfl vs w hK⟩) (by rwa [Bool.false_or] at t)
  · exact w_pick (b := true) ho (fun vs w hK => ⟨hw vs w hK, hx vs w hK, rho_const⟩) t
theorem w_and {x y : Operand} (ho : o.op = .pick x y (.const (.bool false))) (hw : ∀ vs w, Known Fs k (deps D L Fs k) vs w → Wants o vs = true) (hx : ∀ vs w, Known Fs k (deps D L Fs k) vs w → rho (dsts.take k) vs a0 x = .bool B) (hy : B = true → ∀ vs w, Known Fs k (deps D L Fs k) vs w → rho (dsts.take k) vs a0 y = .bool C)
    (t : Walk P D L dsts I J a0 K r (k + 1) (FW.val (.bool (B && C)) :: Fs)) : Walk P D L dsts I J a0 K (o :: r) k Fs := by
  cases B
  · exact w_pick (b := false) ho (fun vs w hK => ⟨hw vs w hK, hx vs w hK, rho_const⟩) t
  · exact w_pick (b := true) ho (fun vs w hK => ⟨hw vs w hK, hx vs w hK, hy rfl vs w hK⟩) (by rwa [Bool.true_and] at t)
theorem w_orG {x y : Operand} (ho : o.op = .pick x (.const (.bool true)) y) (hw : ∀ vs w, Known Fs k (deps D L Fs k) vs w → Wants o vs = G) (hx : G = true → ∀ vs w, Known Fs k (deps D L Fs k) vs w → rho (dsts.take k) vs a0 x = .bool B) (hy : G = true → B = false → ∀ vs w, Known Fs k (deps D L Fs k) vs w → rho (dsts.take k) vs a0 y = .bool C)
    (t : Walk P D L dsts I J a0 K r (k + 1) (FW.val (gv G (.bool (B || C))) :: Fs)) : Walk P D L dsts I J a0 K (o :: r) k Fs := by
  cases G
  · exact w_not hw t
  · exact w_or ho hw (hx rfl) (hy rfl) t
theorem w_andG {x y : Operand} (ho : o.op = .pick x y (.const (.bool false))) (hw : ∀ vs w, Known Fs k (deps D L Fs k) vs w → Wants o vs = G) (hx : G = true → ∀ vs w, Known Fs k (deps D L Fs k) vs w → rho (dsts.take k) vs a0 x = .bool B) (hy : G = true → B = true → ∀ vs w, Known Fs k (deps D L Fs k) vs w → rho (dsts.take k) vs a0 y = .bool C)
    (t : Walk P D L dsts I J a0 K r (k + 1) (FW.val (gv G (.bool (B && C))) :: Fs)) : Walk P D L dsts I J a0 K (o :: r) k Fs := by
  cases G
  · exact w_not hw t
  · exact w_and ho hw (hx rfl) (hy rfl) t
/-- A fact that is told where a condition holds. -/
def FW.imp (G : Bool) (F : FW) : FW := ⟨fun v w => G = true → F.p v w, fun v w w' h hb hG => F.st v w w' (h hG) hb, none, (fun _ h => by cases h), F.fix, fun h v w w' hp hG => F.fx h v w w' (hp hG)⟩
theorem w_anyG (F : FW) (hL : k ∉ L) (hw : ∀ vs w, Known Fs k (deps D L Fs k) vs w → Wants o vs = G) (h : G = true → ∀ vs w, I w → Known Fs k (deps D L Fs k) vs w → Wants o vs = true → Ob P (dsts.take k) o vs a0 w (fun v w' => Below w.heap.size w w' ∧ F.p v w')) (t : Walk P D L dsts I J a0 K r (k + 1) (FW.imp G F :: Fs)) : Walk P D L dsts I J a0 K (o :: r) k Fs := by
  refine w_any (FW.imp G F) hL (fun vs w hI hK => ?_) t
  cases G
  · exact ob_not (hw vs w hK) ⟨Below.refl _ _, fun h => by cases h⟩
  · have h2 := h rfl vs w hI hK (hw vs w hK)
    have e : (fun v w' => Below w.heap.size w w' ∧ (FW.imp true F).p v w') = (fun v w' => Below w.heap.size w w' ∧ F.p v w') := by
      funext v w'
      exact propext ⟨fun q => ⟨q.1, q.2 rfl⟩, fun q => ⟨q.1, fun _ => q.2⟩⟩
    rw [e]
    exact h2
end
/-- A call through a function's value. -/
theorem ob_callv {P : Program} {dsts : List (Option Tmp)} {vs : Nat → Value} {a0 : Act} {o : Oper} {w : World} {R : Value → World → Prop} {f : FuncId} {fn : Func} {g : Operand} {ags : Array Operand} {ts : Array TypeId} {cp : Array Value} (l : List (Nat × Value)) (args : Array Value) (hw : Wants o vs = true) (hv : Vs (rho dsts vs a0) l) (hc : covers o (l.map (·.1)) = true)
    (hop : o.op = .call { callee := .value g, args := ags, argTypes := ts }) (hg : lk l g = .func (.func f) #[] cp) (hf : P.funcs[f]? = some fn) (hname : (fn.name == "runtime.NumGoroutine") = false) (hb : fn.body.isSome = true) (hargs : ags.map (lk l) ++ cp = args)
    (h : Calls P f args w fun e w' => ∃ v, e = .returned v ∧ R v w') : Ob P dsts o vs a0 w R := by
  unfold Ob
  have he := enters_ hf hname hb args w
  have hrun : (execOp (lk l) o).run P w = .ok (.enter f args) w := by
    unfold execOp
    simp [hop, resolve, Deferred.ofValue, invoke, hg, hargs, he]
  rw [if_pos hw, lk_of (fun x hx => rho_else x hx) hv hc, hrun]
  exact h
section
variable {P : Program} {D : List (List Nat)} {L : List Nat} {dsts : List (Option Tmp)} {I J : World → Prop} {a0 : Act} {K : (Nat → Value) → World → Prop} {o : Oper} {r : List Oper} {k : Nat} {Fs : List FW} {G : Bool}
theorem w_callv {f : FuncId} {fn : Func} {g : Operand} {ags : Array Operand} {ts : Array TypeId} {cp : Array Value} (l : List (Nat × Value)) (args : Array Value) (c : Value) (hL : k ∉ L) (hv : ∀ vs w, Known Fs k (deps D L Fs k) vs w → Wants o vs = true ∧ Vs (rho (dsts.take k) vs a0) l) (hc : covers o (l.map (·.1)) = true)
    (hop : o.op = .call { callee := .value g, args := ags, argTypes := ts }) (hg : lk l g = .func (.func f) #[] cp) (hf : P.funcs[f]? = some fn) (hname : (fn.name == "runtime.NumGoroutine") = false) (hb : fn.body.isSome = true)
    (h : ∀ w, I w → Calls P f args w fun e w' => e = .returned c ∧ Below w.heap.size w w') (hargs : ags.map (lk l) ++ cp = args) (t : Walk P D L dsts I J a0 K r (k + 1) (FW.val c :: Fs)) : Walk P D L dsts I J a0 K (o :: r) k Fs :=
  ⟨_, fun vs w hbl _ _ hK => ob_callv l args (hv vs w hK).1 (hv vs w hK).2 hc hop hg hf hname hb hargs ((h w hbl).mono fun e w' ⟨he, hw⟩ => ⟨c, he, fun h => absurd h hL, fun _ => hw, rfl⟩), t⟩
theorem w_callvG {f : FuncId} {fn : Func} {g : Operand} {ags : Array Operand} {ts : Array TypeId} {cp : Array Value} (l : List (Nat × Value)) (args : Array Value) (c : Value) (hL : k ∉ L) (hw : ∀ vs w, Known Fs k (deps D L Fs k) vs w → Wants o vs = G) (hv : G = true → ∀ vs w, Known Fs k (deps D L Fs k) vs w → Vs (rho (dsts.take k) vs a0) l) (hc : covers o (l.map (·.1)) = true)
    (hop : o.op = .call { callee := .value g, args := ags, argTypes := ts }) (hg : lk l g = .func (.func f) #[] cp) (hf : P.funcs[f]? = some fn) (hname : (fn.name == "runtime.NumGoroutine") = false) (hb : fn.body.isSome = true)
    (h : G = true → ∀ w, I w → Calls P f args w fun e w' => e = .returned c ∧ Below w.heap.size w w') (hargs : ags.map (lk l) ++ cp = args) (t : Walk P D L dsts I J a0 K r (k + 1) (FW.val (gv G c) :: Fs)) : Walk P D L dsts I J a0 K (o :: r) k Fs := by
  cases G
  · exact w_not hw t
  · exact w_callv l args c hL (fun vs w hK => ⟨hw vs w hK, hv rfl vs w hK⟩) hc hop hg hf hname hb (h rfl) hargs t
end
theorem margs0 {ags : Array Operand} {l : List (Nat × Value)} {args : Array Value} (h : ags.toList.map (lk l) = args.toList) : ags.map (lk l) ++ #[] = args := by
  rw [Array.append_empty]
  exact margs h
theorem margsC {ags : Array Operand} {l : List (Nat × Value)} {args cp : Array Value} (h : ags.toList.map (lk l) ++ cp.toList = args.toList) : ags.map (lk l) ++ cp = args := by
  rw [← Array.toList_inj, Array.toList_append, Array.toList_map]
  exact h
/-- The facts that are kept; the others are forgotten. -/
def maskF : List Bool → List FW → List FW
  | true :: bs, F :: Fs => F :: maskF bs Fs
  | false :: bs, _ :: Fs => FW.any :: maskF bs Fs
  | [], Fs => Fs
  | _ :: _, [] => []
theorem maskF_length : ∀ (bs : List Bool) (Fs : List FW), (maskF bs Fs).length = Fs.length
  | [], _ => rfl
  | true :: bs, [] => rfl
  | false :: bs, [] => rfl
  | true :: bs, F :: Fs => by simp [maskF, maskF_length bs Fs]
  | false :: bs, F :: Fs => by simp [maskF, maskF_length bs Fs]
theorem maskF_getD : ∀ (bs : List Bool) (Fs : List FW) (j : Nat), (maskF bs Fs).getD j FW.any = Fs.getD j FW.any ∨ (maskF bs Fs).getD j FW.any = FW.any
  | [], _, _ => .inl rfl
  | true :: bs, [], _ => .inl rfl
  | false :: bs, [], _ => .inl rfl
  | true :: bs, F :: Fs, 0 => .inl rfl
  | false :: bs, F :: Fs, 0 => .inr rfl
  | true :: bs, F :: Fs, j + 1 => maskF_getD bs Fs j
  | false :: bs, F :: Fs, j + 1 => maskF_getD bs Fs j
section
variable {P : Program} {D : List (List Nat)} {L : List Nat} {dsts : List (Option Tmp)} {I J : World → Prop} {a0 : Act} {Fs : List FW} {k : Nat}
/-- The end; of the values that are not kept nothing is said. -/
theorem w_endM (bs : List Bool) {Q : Act → World → Prop} (hl : dsts.length = Fs.length) (hk : Fs.length = k) (hd0 : endB D L Fs k = true) (h : ∀ vs w, I w → (∀ j, j < k → useE D L (Fs.getD (k - 1 - j) FW.any).fix j k = true → (Fs.getD (k - 1 - j) FW.any).p (vs j) w) → Q (finL dsts (maskF bs Fs.reverse) 0 vs a0) w) : Walk P D L dsts I J a0 (fun vs w => Q (putL dsts 0 vs a0) w) [] k Fs := fun vs w hb hf => by
  have hd := endB_spec hd0
  show Q (putL dsts 0 vs a0) w
  rw [finL_eq vs w dsts (maskF bs Fs.reverse) 0 a0 (by rw [maskF_length]; simp [hl]) (fun j hj => by
    rw [maskF_length] at hj
    rcases maskF_getD bs Fs.reverse j with e | e
    · rw [e, Nat.zero_add]
      have hj' : j < Fs.length := by simpa using hj
      have h1 := hd j (by omega)
      have h2 := hf j (by omega)
      rw [List.getD_eq_getElem?_getD, List.getElem?_reverse hj']
      rw [List.getD_eq_getElem?_getD] at h1 h2
      rw [hk]
      exact h1.imp id h2
    · rw [e]
      exact .inl rfl)]
  exact h vs w hb hf
end
theorem finL_imp {d : Option Tmp} {r : List (Option Tmp)} {Fs : List FW} {n : Nat} {vs : Nat → Value} {a : Act} {G : Bool} {F : FW} : finL (d :: r) (FW.imp G F :: Fs) n vs a = finL r Fs (n + 1) vs (a.put d (vs n)) := rfl
section
variable {P : Program} {o : Oper} {l : List (Nat × Value)} {x y : Operand} {t : TypeId} {m : Nat} {a b : ByteArray} {r : Bool} {w : World}
theorem op_str_eq (ho : o.op = .binOp .eql t x y m) (hx : lk l x = .string a) (hy : lk l y = .string b) (h : decide (a = b) = r) : (execOp (lk l) o).run P w = .ok (.value (.bool r)) w := by
  by_cases e : a = b
  · rw [decide_eq_true e] at h
    subst h
    exact run_eql_same ho hx hy e
  · rw [decide_eq_false e] at h
    subst h
    exact op_str_ne ho hx hy e
theorem op_str_nq (ho : o.op = .binOp .neq t x y m) (hx : lk l x = .string a) (hy : lk l y = .string b) (h : (!decide (a = b)) = r) : (execOp (lk l) o).run P w = .ok (.value (.bool r)) w := by
  by_cases e : a = b
  · rw [decide_eq_true e] at h
    subst h
    exact run_neq_same ho hx hy e
  · rw [decide_eq_false e] at h
    subst h
    exact op_str_neq ho hx hy e
theorem op_not {b : Bool} (ho : o.op = .unOp .not t x) (hx : lk l x = .bool b) (h : (!b) = r) : (execOp (lk l) o).run P w = .ok (.value (.bool r)) w := by
  subst h
  unfold execOp
  simp [ho, hx, Op.unary]
end
end Go.Proofs.Ytnkeijdpjcclcaa.Kit
-- Str
/- Texts made of bytes: conversions, comparisons. -/
namespace Go.Proofs.Ytnkeijdpjcclcaa.Kit
set_option linter.unusedVariables false
open Go.RowKit Go.Proofs.YtnkeijdpjcclcaaW.PrintWords Go.Proofs.YtnkeijdpjcclcaaW.PrintLast Go.Proofs.YtnkeijdpjcclcaaW.PrintMore

theorem conv_own {P : Program} {t e dst : TypeId} {bytes : Nat} {z : Value} (T : SlTy P t e z bytes) (he : P.underlying e = some (.int .u8)) (hd : P.underlying dst = some .string) {w : World} {B : Nat} {v : Value} {xs : List Int} (h : Own .u8 e w B v xs) :
    (convert t dst v).run P w = .ok (.string (strOfNums xs)) w := own_string T.und he hd (Kd.own_of_R h)
theorem conv_rds {P : Program} {t e dst : TypeId} {bytes : Nat} {z : Value} (T : SlTy P t e z bytes) (he : P.underlying e = some (.int .u8)) (hd : P.underlying dst = some .string) {w : World} {A : Option Addr} {n c : Nat} {xs : List Int} (h : Rds .u8 w A n xs) :
    (convert t dst (.slice A n c)).run P w = .ok (.string (strOfNums xs)) w := by
  have hl := rds_len h
  subst hl
  exact Kd.C_string T.und he hd h
theorem str_list (xs : List Int) : (strOfNums xs).toList = xs.map fun n => UInt8.ofNat n.toNat := by rw [ByteArray.toList_eq]; rfl
theorem u8_inj {a b : Int} (ha : 0 ≤ a ∧ a < 256) (hb : 0 ≤ b ∧ b < 256) (h : UInt8.ofNat a.toNat = UInt8.ofNat b.toNat) : a = b := by
  have := congrArg UInt8.toNat h
  simp only [UInt8.toNat_ofNat'] at this
  omega
theorem str_inj {xs ys : List Int} (hx : ∀ x ∈ xs, 0 ≤ x ∧ x < 256) (hy : ∀ x ∈ ys, 0 ≤ x ∧ x < 256) (h : (strOfNums xs).toList = (strOfNums ys).toList) : xs = ys := by
  rw [str_list, str_list] at h
  induction xs generalizing ys with
  | nil => cases ys with
    | nil => rfl
    | cons _ _ => simp at h
  | cons x xs ih => cases ys with
    | nil => simp at h
    | cons y ys =>
      simp only [List.map_cons, List.cons.injEq] at h
      rw [u8_inj (hx x (by simp)) (hy y (by simp)) h.1, ih (fun z hz => hx z (by simp [hz])) (fun z hz => hy z (by simp [hz])) h.2]
theorem str_append (xs ys : List Int) : strOfNums (xs ++ ys) = strOfNums xs ++ strOfNums ys := by
  apply ByteArray.ext
  simp [strOfNums, ByteArray.data_append]
end Go.Proofs.Ytnkeijdpjcclcaa.Kit
-- Str2
/- Texts as rows of numbers: one byte, a cut, the least of two; the order of texts. In regions. -/
namespace Go.Proofs.Ytnkeijdpjcclcaa.Kit
set_option linter.unusedVariables false
set_option linter.unusedSimpArgs false
open Go.RowKit Go.Proofs.YtnkeijdpjcclcaaW.PrintWords Go.Proofs.YtnkeijdpjcclcaaW.PrintLast Go.Proofs.YtnkeijdpjcclcaaW.PrintMore
theorem numsOf_data (s : ByteArray) : numsOf s = s.data.toList.map fun b => (b.toNat : Int) := by rw [numsOf, ByteArray.toList_eq]
theorem numsOf_extract (s : ByteArray) (a b : Nat) : numsOf (s.extract a b) = ((numsOf s).drop a).take (b - a) := by
  rw [numsOf_data, numsOf_data, Lib.extract_data, List.map_take, List.map_drop]
theorem numsOf_append (s t : ByteArray) : numsOf (s ++ t) = numsOf s ++ numsOf t := by
  rw [numsOf_data, numsOf_data, numsOf_data, ByteArray.data_append, Array.toList_append, List.map_append]
theorem numsOf_inj {a b : ByteArray} (h : numsOf a = numsOf b) : a = b := by rw [← strOfNums_numsOf a, h, strOfNums_numsOf]
theorem numsOf_eq {a b : ByteArray} : a = b ↔ numsOf a = numsOf b := ⟨fun h => by rw [h], numsOf_inj⟩
theorem numsOf_empty : numsOf ⟨#[]⟩ = [] := by rw [numsOf_data]; rfl
theorem strOf_size (xs : List Int) : (strOfNums xs).size = xs.length := by simp [strOfNums, ByteArray.size]
theorem at_str (s : ByteArray) (i : Nat) (h : i < s.size) : (((s[i]'h).toNat : Nat) : Int) = (numsOf s).getD i 0 := by
  have hl : i < s.data.toList.length := by rw [Array.length_toList]; exact h
  rw [numsOf_data, List.getD_eq_getElem?_getD, List.getElem?_map, List.getElem?_eq_getElem hl]
  simp only [Option.map_some, Option.getD_some, Array.getElem_toList]
  rfl
section
variable {P : Program} {o : Oper} {l : List (Nat × Value)} {x y z : Operand} {t : TypeId} {s : ByteArray} {w : World}
theorem op_index_str {k : IntKind} {j c : Int} {i : Nat} (ho : o.op = .index t x y) (ht : P.underlying t = some .string) (hx : lk l x = .string s) (hy : lk l y = .int k j) (hj : j = (i : Int)) (hi : i < s.size) (hc : (numsOf s).getD i 0 = c) :
    (execOp (lk l) o).run P w = .ok (.value (.int .u8 c)) w := by
  subst hj hc
  unfold execOp
  have h0 : (0 : Int) ≤ (i : Int) ∧ (i : Int) < (s.size : Int) := by omega
  have h1 := at_str s i hi
  simp only [ho, hx, hy, Sem.run_bind, run_index_string w t s k (i : Int) ht, dif_pos h0, Result.andThen_ok, Sem.run_pure]
  simp only [Int.toNat_natCast]
  rw [h1]
theorem op_cut_mid {k1 k2 : IntKind} {j1 j2 : Int} {a b : Nat} {c : ByteArray} (ho : o.op = .slice t x (some y) (some z) none) (ht : P.underlying t = some .string) (hx : lk l x = .string s) (hy : lk l y = .int k1 j1) (hz : lk l z = .int k2 j2) (h1 : j1 = (a : Int)) (h2 : j2 = (b : Int)) (hab : a ≤ b) (hb : b ≤ s.size) (hc : s.extract a b = c) :
    (execOp (lk l) o).run P w = .ok (.value (.string c)) w := by
  subst h1 h2 hc
  unfold execOp
  simp only [ho, hx, hy, hz, Option.map_some, Option.map_none, Sem.run_bind, run_sliceAt_string _ _ _ _ _ _ ht, run_slice_string w t s k1 k2 (a : Int) (b : Int) ht (by omega) (by omega) (by omega), Result.andThen_ok, Sem.run_pure, Int.toNat_natCast]
theorem op_cut_from {k1 : IntKind} {j1 : Int} {a : Nat} {c : ByteArray} (ho : o.op = .slice t x (some y) none none) (ht : P.underlying t = some .string) (hx : lk l x = .string s) (hy : lk l y = .int k1 j1) (h1 : j1 = (a : Int)) (ha : a ≤ s.size) (hc : s.extract a s.size = c) :
    (execOp (lk l) o).run P w = .ok (.value (.string c)) w := by
  subst h1 hc
  unfold execOp
  simp only [ho, hx, hy, Option.map_some, Option.map_none, Sem.run_bind, run_sliceAt_string _ _ _ _ _ _ ht, run_slice_string_l w t s ht k1 (a : Int) (by omega) (by omega), Result.andThen_ok, Sem.run_pure, Int.toNat_natCast]
theorem op_cut_to {k1 : IntKind} {j1 : Int} {b : Nat} {c : ByteArray} (ho : o.op = .slice t x none (some y) none) (ht : P.underlying t = some .string) (hx : lk l x = .string s) (hy : lk l y = .int k1 j1) (h1 : j1 = (b : Int)) (hb : b ≤ s.size) (hc : s.extract 0 b = c) :
    (execOp (lk l) o).run P w = .ok (.value (.string c)) w := by
  subst h1 hc
  unfold execOp
  simp only [ho, hx, hy, Option.map_some, Option.map_none, Sem.run_bind, run_sliceAt_string _ _ _ _ _ _ ht, run_slice_string_h w t s ht k1 (b : Int) (by omega) (by omega), Result.andThen_ok, Sem.run_pure, Int.toNat_natCast]
theorem op_min2 {ts : Array TypeId} {a b c : Int} (ho : o.op = .call { callee := .builtin .min, args := #[x, y], argTypes := ts }) (hx : lk l x = .int .i64 a) (hy : lk l y = .int .i64 b) (hc : mn a b = c) :
    (execOp (lk l) o).run P w = .ok (.value (.int .i64 c)) w := by
  subst hc
  unfold execOp
  simp [ho, resolve, invoke, builtin, hx, hy, run_min2, Result.andThen]
theorem op_max2 {ts : Array TypeId} {a b c : Int} (ho : o.op = .call { callee := .builtin .max, args := #[x, y], argTypes := ts }) (hx : lk l x = .int .i64 a) (hy : lk l y = .int .i64 b) (hc : mx a b = c) :
    (execOp (lk l) o).run P w = .ok (.value (.int .i64 c)) w := by
  subst hc
  unfold execOp
  simp [ho, resolve, invoke, builtin, hx, hy, run_max2, Result.andThen]
end
/-- The order of rows of bytes. -/
def ltN : List Int → List Int → Bool
  | [], [] => false
  | [], _ :: _ => true
  | _ :: _, [] => false
  | a :: r, b :: s => if a < b then true else if a = b then ltN r s else false
theorem ltN_map : ∀ a b : List UInt8, ltN (a.map fun x => (x.toNat : Int)) (b.map fun x => (x.toNat : Int)) = Op.bytesLess a b
  | [], [] => rfl
  | [], _ :: _ => rfl
  | _ :: _, [] => rfl
  | x :: a, y :: b => by
    have ih := ltN_map a b
    simp only [List.map_cons, ltN, Op.bytesLess, ih]
    by_cases h1 : x < y
    · have h2 : (x.toNat : Int) < (y.toNat : Int) := by have := UInt8.lt_iff_toNat_lt.1 h1; omega
      simp [h1, h2]
    · have h2 : ¬ (x.toNat : Int) < (y.toNat : Int) := by
        have : ¬ x.toNat < y.toNat := fun h => h1 (UInt8.lt_iff_toNat_lt.2 h)
        omega
      by_cases h3 : x = y
      · subst h3
        simp [h1]
      · have h4 : ¬ (x.toNat : Int) = (y.toNat : Int) := fun h => h3 (UInt8.toNat_inj.1 (by omega))
        simp [h1, h2, h3, h4]
theorem less_nums (a b : ByteArray) : Op.bytesLess a.toList b.toList = ltN (numsOf a) (numsOf b) := by rw [numsOf, numsOf, ltN_map]
theorem ltN_pre (p : List Int) (a b : List Int) : ltN (p ++ a) (p ++ b) = ltN a b := by
  induction p with
  | nil => rfl
  | cons c p ih => simp [ltN, ih]
theorem ltN_self (a : List Int) : ltN a a = false := by
  induction a with
  | nil => rfl
  | cons c p ih => simp [ltN, ih]
end Go.Proofs.Ytnkeijdpjcclcaa.Kit
-- PgP
/- The pages, without the program. -/
namespace Go.Proofs.Ytnkeijdpjcclcaa.Pg
set_option linter.unusedVariables false
open Go.Proofs.Ytnkeijdpjcclcaa.Kit NumPure
/-- A name and what stands with it. -/
abbrev PR := List Int × List Int
/-- How many numbers two rows have alike in front. -/
def cmn : List Int → List Int → Nat
  | x :: xs, y :: ys => if x = y then cmn xs ys + 1 else 0
  | _, _ => 0
theorem cmn_left : ∀ a b : List Int, cmn a b ≤ a.length
  | [], _ => by simp [cmn]
  | _ :: _, [] => by simp [cmn]
  | x :: xs, y :: ys => by
    have := cmn_left xs ys
    simp only [cmn]
    split
    · simp only [List.length_cons]; omega
    · omega
theorem cmn_right : ∀ a b : List Int, cmn a b ≤ b.length
  | [], _ => by simp [cmn]
  | _ :: _, [] => by simp [cmn]
  | x :: xs, y :: ys => by
    have := cmn_right xs ys
    simp only [cmn]
    split
    · simp only [List.length_cons]; omega
    · omega
theorem cmn_take : ∀ a b : List Int, a.take (cmn a b) = b.take (cmn a b)
  | [], _ => by simp [cmn]
  | _ :: _, [] => by simp [cmn]
  | x :: xs, y :: ys => by
    have := cmn_take xs ys
    simp only [cmn]
    split
    · next h => subst h; simp [this]
    · simp
/-- The step of the search. -/
theorem cmn_step : ∀ (a b : List Int) (n : Nat), n ≤ cmn a b → ((n < a.length ∧ n < b.length ∧ a.getD n 0 = b.getD n 0) ↔ n < cmn a b)
  | [], _, n, h => by simp [cmn]
  | _ :: _, [], n, h => by simp [cmn]
  | x :: xs, y :: ys, n, h => by
    simp only [cmn] at h ⊢
    by_cases hxy : x = y
    · rw [if_pos hxy] at h ⊢
      cases n with
      | zero => simp [hxy]
      | succ n =>
        have := cmn_step xs ys n (by omega)
        simp only [List.length_cons, List.getD_cons_succ]
        constructor
        · rintro ⟨h1, h2, h3⟩
          have := this.1 ⟨by omega, by omega, h3⟩
          omega
        · intro h4
          obtain ⟨k1, k2, k3⟩ := this.2 (by omega)
          exact ⟨by omega, by omega, k3⟩
    · rw [if_neg hxy] at h ⊢
      obtain rfl : n = 0 := by omega
      simp [hxy]
/-- The same search as the law does it, by fronts. -/
theorem cmn_front : ∀ (a b : List Int) (n : Nat), n ≤ cmn a b → n < a.length → n < b.length → (a.take (n + 1) = b.take (n + 1) ↔ n < cmn a b) := by
  intro a b n h h1 h2
  have hs := cmn_step a b n h
  have ht : a.take n = b.take n := by
    have := congrArg (List.take n) (cmn_take a b)
    rwa [List.take_take, List.take_take, Nat.min_eq_left h] at this
  rw [List.take_succ_eq_append_getElem h1, List.take_succ_eq_append_getElem h2, ht]
  constructor
  · intro e
    have e2 := List.append_cancel_left e
    refine hs.1 ⟨h1, h2, ?_⟩
    rw [List.getD_eq_getElem?_getD, List.getD_eq_getElem?_getD, List.getElem?_eq_getElem h1, List.getElem?_eq_getElem h2]
    simpa using e2
  · intro e
    obtain ⟨_, _, e3⟩ := hs.2 e
    rw [List.getD_eq_getElem?_getD, List.getD_eq_getElem?_getD, List.getElem?_eq_getElem h1, List.getElem?_eq_getElem h2] at e3
    simp only [Option.getD_some] at e3
    rw [e3]

/-! ### A page made -/
def nmAt (l : List PR) (k : Nat) : List Int := (l.getD k ([], [])).1
def vlAt (l : List PR) (k : Nat) : List Int := (l.getD k ([], [])).2
def lastAt (l : List PR) (k : Nat) : List Int := if k = 0 then [] else nmAt l (k - 1)
def sameAt (l : List PR) (k : Nat) : Nat := if k % 8 = 0 then 0 else cmn (lastAt l k) (nmAt l k)
def rowOf (s : Nat) (n v : List Int) : List Int := put7 s ++ put7 (n.length - s) ++ put7 v.length ++ n.drop s ++ v
def bodyAt (l : List PR) : Nat → List Int
  | 0 => []
  | k + 1 => bodyAt l k ++ rowOf (sameAt l k) (nmAt l k) (vlAt l k)
def wholeAt (l : List PR) : Nat → List Int
  | 0 => []
  | k + 1 => if k % 8 = 0 then wholeAt l k ++ le (bodyAt l k).length 4 else wholeAt l k
def cntAt (k : Nat) : Nat := (k + 7) / 8
theorem cnt_succ (k : Nat) : cntAt (k + 1) = if k % 8 = 0 then cntAt k + 1 else cntAt k := by unfold cntAt; split <;> omega
theorem whole_length (l : List PR) : ∀ k, (wholeAt l k).length = 4 * cntAt k
  | 0 => rfl
  | k + 1 => by
    have ih := whole_length l k
    rw [cnt_succ]
    simp only [wholeAt]
    split
    · rw [List.length_append, ih, le_length]; omega
    · exact ih
def pageOf (l : List PR) : List Int := bodyAt l l.length ++ wholeAt l l.length ++ le (cntAt l.length) 4
/-- The name at a place is behind the one ahead. -/
def Ord (l : List PR) (k : Nat) : Prop := k = 0 ∨ ltN (lastAt l k) (nmAt l k) = true
def Fit (l : List PR) (k : Nat) : Prop := (bodyAt l (k + 1)).length ≤ 262144
def Good (l : List PR) (k : Nat) : Prop := ∀ j, j < k → Ord l j ∧ Fit l j
theorem good_succ {l : List PR} {k : Nat} (h : Good l k) (h1 : Ord l k) (h2 : Fit l k) : Good l (k + 1) := by
  intro j hj
  rcases Nat.lt_or_ge j k with g | g
  · exact h j g
  · obtain rfl : j = k := by omega
    exact ⟨h1, h2⟩
theorem same_last (l : List PR) (k : Nat) : sameAt l k ≤ (lastAt l k).length := by
  unfold sameAt
  split
  · omega
  · exact cmn_left _ _
theorem same_name (l : List PR) (k : Nat) : sameAt l k ≤ (nmAt l k).length := by
  unfold sameAt
  split
  · omega
  · exact cmn_right _ _
theorem same_take (l : List PR) (k : Nat) : (lastAt l k).take (sameAt l k) = (nmAt l k).take (sameAt l k) := by
  unfold sameAt
  split
  · simp
  · exact cmn_take _ _
theorem row_length (s : Nat) (n v : List Int) : 3 + (n.length - s) + v.length ≤ (rowOf s n v).length := by
  have h1 := put7_pos s
  have h2 := put7_pos (n.length - s)
  have h3 := put7_pos v.length
  unfold rowOf
  simp only [List.length_append, List.length_drop]
  omega
theorem body_mono (l : List PR) (k : Nat) : (bodyAt l k).length + 3 ≤ (bodyAt l (k + 1)).length := by
  have := row_length (sameAt l k) (nmAt l k) (vlAt l k)
  simp only [bodyAt, List.length_append]
  omega
theorem body_le (l : List PR) {k n : Nat} (h : k ≤ n) : (bodyAt l k).length + 3 * (n - k) ≤ (bodyAt l n).length := by
  induction n with
  | zero => obtain rfl : k = 0 := by omega
            simp
  | succ n ih =>
    rcases Nat.lt_or_ge k (n + 1) with g | g
    · have := ih (by omega)
      have := body_mono l n
      omega
    · obtain rfl : k = n + 1 := by omega
      simp
theorem body_len (l : List PR) (k : Nat) : 3 * k ≤ (bodyAt l k).length := by
  have := body_le l (Nat.zero_le k)
  omega
theorem body_fit {l : List PR} {k : Nat} (h : Good l k) : (bodyAt l k).length ≤ 262144 := by
  cases k with
  | zero => simp [bodyAt]
  | succ k => exact (h k (by omega)).2
/-- The name that was laid is no longer than what was laid. -/
theorem name_body (l : List PR) : ∀ k, (lastAt l k).length ≤ (bodyAt l k).length
  | 0 => by simp [lastAt]
  | k + 1 => by
    have ih := name_body l k
    have h1 := same_last l k
    have h2 := same_name l k
    have h3 := row_length (sameAt l k) (nmAt l k) (vlAt l k)
    have : lastAt l (k + 1) = nmAt l k := by simp [lastAt]
    rw [this]
    simp only [bodyAt, List.length_append]
    omega

/-! ### A page read -/
def num1 (b : List Int) (at_ : Nat) : Option (Nat × Nat) := if (get (b.drop at_)).2.2 = 0 ∧ (get (b.drop at_)).1 ≤ b.length then some ((get (b.drop at_)).1, at_ + (get (b.drop at_)).2.1) else none
def fin (b : List Int) (last : List Int) (x0 x1 x2 a : Nat) : Option (PR × Nat) :=
  if x0 ≤ last.length ∧ x1 + x2 ≤ b.length - a then some ((last.take x0 ++ (b.drop a).take x1, (b.drop (a + x1)).take x2), a + x1 + x2) else none
def oneP (b : List Int) (at_ : Nat) (last : List Int) : Option (PR × Nat) :=
  (num1 b at_).bind fun p0 => (num1 b p0.2).bind fun p1 => (num1 b p1.2).bind fun p2 => fin b last p0.1 p1.1 p2.1 p2.2
theorem getAt_ok : ∀ (l : List Int) (i acc x k : Nat), getAt i acc l = (x, k, 0) → i < k ∧ k ≤ i + l.length
  | [], i, acc, x, k, h => by simp [getAt] at h
  | c :: r, i, acc, x, k, h => by
    simp only [getAt] at h
    split at h
    · simp at h
    · split at h
      · split at h
        · simp at h
        · simp only [Prod.mk.injEq] at h
          simp only [List.length_cons]
          omega
      · have := getAt_ok r _ _ _ _ h
        simp only [List.length_cons]
        omega
theorem num1_ok {b : List Int} {a x k : Nat} (h : num1 b a = some (x, k)) : a < k ∧ k ≤ b.length ∧ x ≤ b.length := by
  unfold num1 at h
  split at h
  · next hc =>
    simp only [Option.some.injEq, Prod.mk.injEq] at h
    obtain ⟨rfl, rfl⟩ := h
    have h1 : get (b.drop a) = ((get (b.drop a)).1, (get (b.drop a)).2.1, 0) := by rw [← hc.1]
    have h2 := getAt_ok _ _ _ _ _ h1
    rw [List.length_drop] at h2
    omega
  · cases h
theorem num1_put (b pre post : List Int) (n : Nat) (hb : b = pre ++ (put7 n ++ post)) (hn : n ≤ b.length) (hn2 : n < 18446744073709551616) : num1 b pre.length = some (n, pre.length + (put7 n).length) := by
  have hd : b.drop pre.length = put7 n ++ post := by rw [hb]; simp
  unfold num1
  rw [hd, get_put7 hn2, if_pos ⟨rfl, hn⟩]
theorem oneP_ok {b last : List Int} {a : Nat} {p : PR} {nx : Nat} (h : oneP b a last = some (p, nx)) : a + 3 ≤ nx ∧ nx ≤ b.length ∧ p.1.length + a + 3 ≤ last.length + nx ∧ p.2.length ≤ b.length := by
  unfold oneP at h
  cases h0 : num1 b a with
  | none => rw [h0] at h; simp at h
  | some p0 =>
    obtain ⟨x0, a0⟩ := p0
    rw [h0] at h
    simp only [Option.bind_some] at h
    cases h1 : num1 b a0 with
    | none => rw [h1] at h; simp at h
    | some p1 =>
      obtain ⟨x1, a1⟩ := p1
      rw [h1] at h
      simp only [Option.bind_some] at h
      cases h2 : num1 b a1 with
      | none => rw [h2] at h; simp at h
      | some p2 =>
        obtain ⟨x2, a2⟩ := p2
        rw [h2] at h
        simp only [Option.bind_some, fin] at h
        have k0 := num1_ok h0
        have k1 := num1_ok h1
        have k2 := num1_ok h2
        split at h
        · next hc =>
          simp only [Option.some.injEq, Prod.mk.injEq] at h
          obtain ⟨rfl, rfl⟩ := h
          simp only [List.length_append, List.length_take, List.length_drop]
          omega
        · cases h
/-- What was laid is read. -/
theorem oneP_row (b pre post last n v : List Int) (s : Nat) (hb : b = pre ++ (rowOf s n v ++ post)) (h1 : s ≤ last.length) (h2 : s ≤ n.length) (h3 : last.take s = n.take s) (h4 : s ≤ b.length) (h5 : b.length < 18446744073709551616) :
    oneP b pre.length last = some ((n, v), pre.length + (rowOf s n v).length) := by
  have hlen : b.length = pre.length + ((rowOf s n v).length + post.length) := by rw [hb]; simp
  have hrow : (rowOf s n v).length = (put7 s).length + (put7 (n.length - s)).length + (put7 v.length).length + (n.length - s) + v.length := by unfold rowOf; simp only [List.length_append, List.length_drop]
  have e0 := num1_put b pre (put7 (n.length - s) ++ (put7 v.length ++ (n.drop s ++ (v ++ post)))) s (by rw [hb]; unfold rowOf; simp only [List.append_assoc]) h4 (by omega)
  have e1 := num1_put b (pre ++ put7 s) (put7 v.length ++ (n.drop s ++ (v ++ post))) (n.length - s) (by rw [hb]; unfold rowOf; simp only [List.append_assoc]) (by omega) (by omega)
  have e2 := num1_put b (pre ++ put7 s ++ put7 (n.length - s)) (n.drop s ++ (v ++ post)) v.length (by rw [hb]; unfold rowOf; simp only [List.append_assoc]) (by omega) (by omega)
  simp only [List.length_append] at e1 e2
  have hd : b.drop (pre.length + (put7 s).length + (put7 (n.length - s)).length + (put7 v.length).length) = n.drop s ++ (v ++ post) := by
    rw [hb, show rowOf s n v = put7 s ++ put7 (n.length - s) ++ put7 v.length ++ n.drop s ++ v from rfl]
    rw [show pre ++ (put7 s ++ put7 (n.length - s) ++ put7 v.length ++ n.drop s ++ v ++ post) = (pre ++ put7 s ++ put7 (n.length - s) ++ put7 v.length) ++ (n.drop s ++ (v ++ post)) by simp only [List.append_assoc]]
    rw [show pre.length + (put7 s).length + (put7 (n.length - s)).length + (put7 v.length).length = (pre ++ put7 s ++ put7 (n.length - s) ++ put7 v.length).length by simp only [List.length_append]]
    rw [List.drop_left]
  unfold oneP
  rw [e0]
  simp only [Option.bind_some]
  rw [e1]
  simp only [Option.bind_some]
  rw [e2]
  simp only [Option.bind_some, fin]
  rw [if_pos ⟨h1, by omega⟩]
  rw [show b.drop (pre.length + (put7 s).length + (put7 (n.length - s)).length + (put7 v.length).length + (n.length - s)) = (b.drop (pre.length + (put7 s).length + (put7 (n.length - s)).length + (put7 v.length).length)).drop (n.length - s) by rw [List.drop_drop], hd, h3]
  have t1 : (n.drop s ++ (v ++ post)).take (n.length - s) = n.drop s := by
    rw [show n.length - s = (n.drop s).length by simp, List.take_left]
  have t2 : ((n.drop s ++ (v ++ post)).drop (n.length - s)).take v.length = v := by
    rw [show n.length - s = (n.drop s).length by simp, List.drop_left, List.take_left]
  rw [t1, t2, List.take_append_drop, hrow]
  congr 2
  omega
/-- Pairs read one behind the other, from a place on. -/
inductive Chain (b : List Int) (s : Nat) : Nat → List Int → List PR → Prop
  | nil : Chain b s s [] []
  | snoc {a : Nat} {last : List Int} {out : List PR} (p : PR) (nx : Nat) (h : Chain b s a last out) (ha : a < b.length) (ho : oneP b a last = some (p, nx)) : Chain b s nx p.1 (out ++ [p])
/-- .. to an end. -/
def Stuck (b : List Int) (a : Nat) (last : List Int) : Prop := b.length ≤ a ∨ oneP b a last = none
theorem chain_le {b : List Int} {s a : Nat} {last : List Int} {out : List PR} (h : Chain b s a last out) (hs : s ≤ b.length) : a ≤ b.length ∧ s + 3 * out.length ≤ a ∧ last.length + s ≤ a ∧ ∀ p ∈ out, p.1.length ≤ b.length ∧ p.2.length ≤ b.length := by
  induction h with
  | nil => exact ⟨hs, by simp, by simp, by simp⟩
  | @snoc a last out p nx h ha ho ih =>
    obtain ⟨i1, i2, i3, i4⟩ := ih
    obtain ⟨k1, k2, k3, k4⟩ := oneP_ok ho
    refine ⟨k2, by rw [List.length_append, List.length_singleton]; omega, by omega, ?_⟩
    intro q hq
    rcases List.mem_append.1 hq with hq | hq
    · exact i4 q hq
    · rw [List.mem_singleton.1 hq]
      exact ⟨by omega, k4⟩
theorem chain_inv {b : List Int} {s a : Nat} {last : List Int} {out : List PR} (h : Chain b s a last out) : (out = [] ∧ a = s ∧ last = []) ∨ ∃ a' last' out' p, Chain b s a' last' out' ∧ a' < b.length ∧ oneP b a' last' = some (p, a) ∧ last = p.1 ∧ out = out' ++ [p] := by
  cases h with
  | nil => exact .inl ⟨rfl, rfl, rfl⟩
  | snoc p nx h ha ho => exact .inr ⟨_, _, _, p, h, ha, ho, rfl, rfl⟩
/-- Of so many pairs there is one chain. -/
theorem chain_one {b : List Int} {s : Nat} : ∀ (m : Nat) {a a' : Nat} {last last' : List Int} {out out' : List PR}, Chain b s a last out → Chain b s a' last' out' → out.length = m → out'.length = m → a = a' ∧ last = last' ∧ out = out' := by
  intro m
  induction m with
  | zero =>
    intro a a' last last' out out' h h' hl hl'
    rcases chain_inv h with ⟨rfl, rfl, rfl⟩ | ⟨_, _, _, _, _, _, _, _, rfl⟩
    · rcases chain_inv h' with ⟨rfl, rfl, rfl⟩ | ⟨_, _, _, _, _, _, _, _, rfl⟩
      · exact ⟨rfl, rfl, rfl⟩
      · simp at hl'
    · simp at hl
  | succ m ih =>
    intro a a' last last' out out' h h' hl hl'
    rcases chain_inv h with ⟨rfl, rfl, rfl⟩ | ⟨a1, l1, o1, p1, c1, d1, e1, f1, rfl⟩
    · simp at hl
    · rcases chain_inv h' with ⟨rfl, rfl, rfl⟩ | ⟨a2, l2, o2, p2, c2, d2, e2, f2, rfl⟩
      · simp at hl'
      · obtain ⟨rfl, rfl, rfl⟩ := ih c1 c2 (by simpa using hl) (by simpa using hl')
        rw [e1] at e2
        simp only [Option.some.injEq, Prod.mk.injEq] at e2
        obtain ⟨rfl, rfl⟩ := e2
        exact ⟨rfl, by rw [f1, f2], rfl⟩
/-- A front of a chain is a chain. -/
theorem chain_front {b : List Int} {s a : Nat} {last : List Int} {out : List PR} (h : Chain b s a last out) : ∀ m, m < out.length → ∃ a' last' p nx, Chain b s a' last' (out.take m) ∧ a' < b.length ∧ oneP b a' last' = some (p, nx) := by
  induction h with
  | nil => intro m hm; simp at hm
  | @snoc a last out p nx h ha ho ih =>
    intro m hm
    rcases Nat.lt_or_ge m out.length with g | g
    · obtain ⟨a', l', p', n', k1, k2⟩ := ih m g
      exact ⟨a', l', p', n', by rw [List.take_append_of_le_length (by omega)]; exact k1, k2⟩
    · rw [List.length_append, List.length_singleton] at hm
      obtain rfl : m = out.length := by omega
      exact ⟨a, last, p, nx, by rw [List.take_left]; exact h, ha, ho⟩
/-- Chains that end are one. -/
theorem chain_end {b : List Int} {s a a' : Nat} {last last' : List Int} {out out' : List PR} (h : Chain b s a last out) (h' : Chain b s a' last' out') (k : Stuck b a last) (k' : Stuck b a' last') : a = a' ∧ last = last' ∧ out = out' := by
  have key : ∀ {a a' : Nat} {last last' : List Int} {out out' : List PR}, Chain b s a last out → Chain b s a' last' out' → Stuck b a last → out'.length ≤ out.length := by
    intro a a' last last' out out' h h' k
    rcases Nat.lt_or_ge out.length out'.length with g | g
    · exfalso
      obtain ⟨a2, l2, p2, n2, c2, d2, e2⟩ := chain_front h' out.length g
      obtain ⟨rfl, rfl, _⟩ := chain_one out.length h c2 rfl (by rw [List.length_take]; omega)
      rcases k with k | k
      · omega
      · rw [k] at e2; cases e2
    · exact g
  have h1 := key h h' k
  have h2 := key h' h k'
  exact chain_one out.length h h' rfl (by omega)
/-- What was made is read. -/
theorem chain_body (l : List PR) (n : Nat) (hn : n ≤ l.length) (hs : (bodyAt l n).length < 18446744073709551616) : ∀ k, k ≤ n → Chain (bodyAt l n) 0 (bodyAt l k).length (lastAt l k) (l.take k)
  | 0, _ => Chain.nil
  | k + 1, hk => by
    have ih := chain_body l n hn hs k (by omega)
    have hpost : ∀ m, k + 1 ≤ m → ∃ post, bodyAt l m = bodyAt l k ++ (rowOf (sameAt l k) (nmAt l k) (vlAt l k) ++ post) := by
      intro m
      induction m with
      | zero => intro h; omega
      | succ m ihm =>
        intro h
        rcases Nat.lt_or_ge k m with g | g
        · obtain ⟨post, hp⟩ := ihm (by omega)
          exact ⟨post ++ rowOf (sameAt l m) (nmAt l m) (vlAt l m), by simp only [bodyAt]; rw [hp]; simp only [List.append_assoc]⟩
        · obtain rfl : m = k := by omega
          exact ⟨[], by simp [bodyAt]⟩
    obtain ⟨post, hp⟩ := hpost n hk
    have hlt : (bodyAt l k).length < (bodyAt l n).length := by have := body_le l (show k ≤ n by omega); omega
    have h1 := same_last l k
    have h2 := name_body l k
    have ho := oneP_row (bodyAt l n) (bodyAt l k) post (lastAt l k) (nmAt l k) (vlAt l k) (sameAt l k) hp h1 (same_name l k) (same_take l k) (by omega) hs
    have hlk : k < l.length := by omega
    have hsn := Chain.snoc _ _ ih hlt ho
    have e1 : l.take (k + 1) = l.take k ++ [(nmAt l k, vlAt l k)] := by
      rw [List.take_succ_eq_append_getElem hlk]
      congr 2
      simp [nmAt, vlAt, List.getD_eq_getElem?_getD, List.getElem?_eq_getElem hlk]
    have e2 : lastAt l (k + 1) = nmAt l k := by simp [lastAt]
    have e3 : (bodyAt l (k + 1)).length = (bodyAt l k).length + (rowOf (sameAt l k) (nmAt l k) (vlAt l k)).length := by simp [bodyAt]
    rw [e1, e2, e3]
    exact hsn
/-- The places of those that are laid whole. -/
def places (l : List PR) : Nat → List Int
  | 0 => []
  | k + 1 => if k % 8 = 0 then places l k ++ [((bodyAt l k).length : Int)] else places l k
theorem places_length (l : List PR) : ∀ k, (places l k).length = cntAt k
  | 0 => rfl
  | k + 1 => by
    have ih := places_length l k
    rw [cnt_succ]
    simp only [places]
    split
    · rw [List.length_append, ih]; rfl
    · exact ih
theorem whole_places (l : List PR) : ∀ k, wholeAt l k = (places l k).flatMap fun x => le x.toNat 4
  | 0 => rfl
  | k + 1 => by
    have ih := whole_places l k
    simp only [places, wholeAt]
    split
    · rw [ih, List.flatMap_append]; simp
    · exact ih
/-- Bytes are a page. -/
def IsPage (xs : List Int) (l : List PR) : Prop := Good l l.length ∧ pageOf l = xs
theorem page_length (l : List PR) : (pageOf l).length = (bodyAt l l.length).length + 4 * cntAt l.length + 4 := by
  unfold pageOf; rw [List.length_append, List.length_append, whole_length, le_length]
theorem page_cnt {l : List PR} (h : Good l l.length) : leVal ((pageOf l).drop ((pageOf l).length - 4)) = cntAt l.length := by
  have h1 : (pageOf l).length - 4 = (bodyAt l l.length ++ wholeAt l l.length).length := by rw [page_length, List.length_append, whole_length]; omega
  rw [h1, pageOf, List.drop_left, leVal_le]
  have := body_fit h
  have := body_len l l.length
  unfold cntAt
  have : (256 : Nat) ^ 4 = 4294967296 := by decide
  omega
theorem page_body (l : List PR) : (pageOf l).take ((pageOf l).length - 4 - 4 * cntAt l.length) = bodyAt l l.length := by
  have h1 : (pageOf l).length - 4 - 4 * cntAt l.length = (bodyAt l l.length).length := by rw [page_length]; omega
  rw [h1, pageOf, List.append_assoc, List.take_left]
/-- Whole pages are read one way. -/
theorem page_chain {l : List PR} (h : Good l l.length) : Chain (bodyAt l l.length) 0 (bodyAt l l.length).length (lastAt l l.length) l := by
  have := chain_body l l.length (Nat.le_refl _) (by have := body_fit h; omega) l.length (Nat.le_refl _)
  rwa [List.take_length] at this
theorem page_inj {l l' : List PR} (h : Good l l.length) (h' : Good l' l'.length) (he : pageOf l = pageOf l') : l = l' := by
  have hc : cntAt l.length = cntAt l'.length := by rw [← page_cnt h, ← page_cnt h', he]
  have hb : bodyAt l l.length = bodyAt l' l'.length := by rw [← page_body l, ← page_body l', he, hc]
  have c := page_chain h
  have c' := page_chain h'
  rw [← hb] at c'
  exact (chain_end c c' (.inl (Nat.le_refl _)) (.inl (Nat.le_refl _))).2.2
end Go.Proofs.Ytnkeijdpjcclcaa.Pg
-- Num
/- Contracts of package num: each call's answer by the plain functions of NumPure. -/
namespace Go.Proofs.Ytnkeijdpjcclcaa.Num
set_option linter.unusedVariables false
open Go.Proofs.Ytnkeijdpjcclcaa.Kit Go.RowKit Go.Proofs.YtnkeijdpjcclcaaW.PrintWords Go.Proofs.YtnkeijdpjcclcaaW.PrintLast Go.Proofs.YtnkeijdpjcclcaaW.PrintMore NumPure

theorem infob : (Try.prog.info? 5).map (fun i => (i.zero, i.size, i.bytes)) = some (some (.int .u8 0), 1, 1) := by kernel_rfl
theorem tb : SlTy Try.prog 25 5 (.int .u8 0) 1 := ⟨Try.underlying25, infob, rfl, by decide⟩
abbrev GrB (w : World) (B : Nat) (v : Value) (xs : List Int) : Prop := Gr .u8 5 w B v xs
abbrev OwnB (w : World) (B : Nat) (v : Value) (xs : List Int) : Prop := Own .u8 5 w B v xs
abbrev AppB (w0 w wr : World) (v vr : Value) (xs : List Int) : Prop := App .u8 5 w0 w wr v vr xs
theorem getD_nat {l : List Int} (h : Byte l) (i : Nat) : ∃ a : Nat, l.getD i 0 = (a : Int) ∧ a < 256 := by
  rw [List.getD_eq_getElem?_getD]
  cases hi : l[i]? with
  | none => exact ⟨0, rfl, by omega⟩
  | some x =>
    have := h x (List.mem_of_getElem? hi)
    exact ⟨x.toNat, by simp; omega, by omega⟩
theorem div_pow (n k : Nat) : n / 256 ^ (k + 1) = n / 256 ^ k / 256 := by rw [Nat.pow_succ, Nat.div_div_eq_div_mul]
set_option maxHeartbeats 800000 in
theorem little_any (n s : Nat) (hn : n < 18446744073709551616) (hs : s ≤ 8) (v : Value) (xs : List Int) (w0 w : World) (HO : GrB w w0.heap.size v xs) (HB : Below w0.heap.size w0 w) (hl : xs.length + 8 ≤ 140737488355328) :
    Calls Try.prog 46 #[v, .int .u64 (n : Nat), .int .i64 (s : Nat)] w fun e w' => ∃ v', e = .returned v' ∧ AppB w0 w w' v v' (xs ++ le n s) := by
  have hR0 : AppB w0 w w v v (xs ++ le n 0) := ⟨by rw [le_zero, List.append_nil]; exact HO, HB, Fr.refl _ _⟩
  clear HO HB
  go_enter Try.func46, Try.ntmps46
  go_wp2_with fail
  go_loopw [0, 1, 8] (fun b m i wr => ∃ k : Nat, k ≤ s ∧ i = .int .i64 k ∧ m = .int .u64 ((n / 256 ^ k : Nat) : Int) ∧ AppB w0 w wr v b (xs ++ le n k)) (fun _ _ i _ => s - (intOf i).toNat)
  case atStart => exact ⟨0, Nat.zero_le _, rfl, by simp, hR0⟩
  case round =>
    obtain ⟨k, hk, rfl, rfl, hR⟩ := hrel
    clear hR0
    have hq : n / 256 ^ k < 18446744073709551616 := Nat.lt_of_le_of_lt (Nat.div_le_self _ _) hn
    have hsn := le_succ n k
    have hd := div_pow n k
    generalize n / 256 ^ k = q at hq hsn hd
    have hm : ((q % 256 : Nat) : Int) = (q : Int) % 256 := by omega
    rw [hm] at hsn
    have hd2 : ((n / 256 ^ (k + 1) : Nat) : Int) = (q : Int) / 256 := by rw [hd]; exact Int.natCast_ediv q 256
    have HS := Lib.hid hsn
    have HD := Lib.hid hd2
    have HR := Lib.hid hR
    clear hsn hd hd2 hm hR
    by_cases hlt : k < s
    · go_wp2_with (at_builtin; refine gapp_one tb rfl (.tmp 10) (.tmp 13) rfl rfl rfl HR.out.own HR.out.bel HR.out.bel.size ?cL ?_; (case cL => rw [List.length_append, le_length]; omega); intro v1 w1 ho hb hs1 hf; rw [List.append_assoc, ← HS.out] at ho; have hR1 : AppB w0 w w1 v v1 (xs ++ le n (k + 1)) := ⟨ho, hb, HR.out.fr.trans hf⟩; clear ho hb hs1 hf)
      go_roundw
      case rel => exact ⟨k + 1, by omega, by go_num, by rw [HD.out], hR1⟩
      case measure => simp [intOf]; omega
    · obtain rfl : k = s := by omega
      go_wp2_with fail
      go_ret
      exact ⟨_, rfl, HR.out⟩
set_option maxHeartbeats 800000 in
theorem putLittle_any (n : Nat) (size : Int) (hn : n < 18446744073709551616) (v : Value) (xs : List Int) (w0 w : World) (HO : GrB w w0.heap.size v xs) (HB : Below w0.heap.size w0 w) (hl : xs.length + 8 ≤ 140737488355328) :
    Calls Try.prog 17 #[v, .int .u64 (n : Nat), .int .i64 size] w fun e w' => ∃ v', e = .returned v' ∧ AppB w0 w w' v v' (xs ++ le n (min size.toNat 8)) := by
  have h1 : mx 0 (mn size 8) = ((min size.toNat 8 : Nat) : Int) := by unfold mx mn; split <;> split <;> omega
  have hmin : ∀ W : World, (Builtin.min_ #[3, 3] 3 #[.int .i64 size, .int .i64 8]).run Try.prog W = .ok (.int .i64 (mn size 8)) W := fun W => run_min2 _ _ W
  generalize mn size 8 = m at h1 hmin
  have hmax : ∀ W : World, (Builtin.max_ #[3, 3] 3 #[.int .i64 0, .int .i64 m]).run Try.prog W = .ok (.int .i64 ((min size.toNat 8 : Nat) : Int)) W := fun W => by rw [run_max2, h1]
  have hs : min size.toNat 8 ≤ 8 := by omega
  clear h1
  generalize min size.toNat 8 = s at hmax hs ⊢
  have C := Lib.hid (little_any n s hn hs v xs w0 w HO HB hl)
  clear HO HB
  go_enter Try.func17, Try.ntmps17
  go_wp2_with fail
  refine C.out.mono ?_
  rintro e w' ⟨v', rfl, hA⟩
  have HA := Lib.hid hA
  clear hA
  go_wp2_with fail
  go_ret
  exact ⟨_, rfl, HA.out⟩
theorem or_add (a x c : Nat) (hx : x < 256) (ha : a < 72057594037927936) : Go.bits .or .u64 ((a : Int) * 256) (x : Int) = ((x + 256 * a : Nat) : Int) := by
  have h := u64_or_nat (a * 256) x (by omega) (by omega)
  have h2 : a * 256 ||| x = x + 256 * a := by
    rw [Nat.mul_comm, show (256 : Nat) * a = 2 ^ 8 * a from rfl, ← Nat.two_pow_add_eq_or_of_lt hx]
    omega
  rw [h2] at h
  rw [← h]
  simp
set_option maxHeartbeats 800000 in
theorem little_val (A : Option Addr) (n c : Nat) (l : List Int) (w : World) (hr : Rds .u8 w A n l) (hl : l.length = n) (hn : n ≤ 9223372036854775807) (hb : Byte l) :
    Calls Try.prog 22 #[.slice A n c] w fun e w' => e = .returned (.int .u64 (leVal (l.take 8) : Nat)) ∧ w = w' := by
  have hmin : ∀ W : World, (Builtin.min_ #[3, 3] 3 #[.int .i64 (n : Int), .int .i64 8]).run Try.prog W = .ok (.int .i64 ((min n 8 : Nat) : Int)) W := fun W => by rw [run_min2, show (8 : Int) = ((8 : Nat) : Int) from rfl, mn_nat]
  have hL : (l.take 8).length = min n 8 := by rw [List.length_take, hl]; omega
  have hbt := hb.take 8
  have hg : ∀ k, k < min n 8 → (l.take 8).getD k 0 = l.getD k 0 := fun k hk => by
    rw [List.getD_eq_getElem?_getD, List.getD_eq_getElem?_getD, List.getElem?_take, if_pos (by omega)]
  have hm8 : min n 8 ≤ 8 := by omega
  have hmn : min n 8 ≤ n := by omega
  generalize min n 8 = m at hmin hL hg hm8 hmn
  generalize l.take 8 = t at hL hbt hg ⊢
  have HG := Lib.hid hg
  have HL := Lib.hid hL
  have hz : leVal (t.drop m) = 0 := by rw [List.drop_eq_nil_of_le (by omega)]; rfl
  have HZ := Lib.hid hz
  clear hg hL hl hz
  go_enter Try.func22, Try.ntmps22
  go_wp2_with fail
  go_loop [3, 4] (fun r i => ∃ p : Int, -1 ≤ p ∧ p < m ∧ i = .int .i64 p ∧ r = .int .u64 ((leVal (t.drop (p + 1).toNat) : Nat) : Int)) (fun _ i => (intOf i + 1).toNat)
  case atStart => exact ⟨(m : Int) - 1, by omega, by omega, rfl, by rw [show ((m : Int) - 1 + 1).toNat = m by omega, HZ.out]; rfl⟩
  case round =>
    obtain ⟨p, hp1, hp2, rfl, rfl⟩ := hrel
    by_cases h0 : 0 ≤ p
    · obtain ⟨k, rfl⟩ := Int.eq_ofNat_of_zero_le h0
      obtain ⟨ad, e1, hc⟩ := rds_at 0 hr k (by omega)
      subst e1
      obtain ⟨x, hx, hxl⟩ := getD_nat hb k
      have hd := leVal_drop t k (by rw [HL.out]; omega)
      rw [HG.out k (by omega), hx, Int.toNat_natCast] at hd
      rw [hx] at hc
      have hlt : leVal (t.drop (k + 1)) < 72057594037927936 := by
        have h1 := leVal_lt (hbt.drop (k + 1))
        rw [List.length_drop, HL.out] at h1
        have h2 : 256 ^ (m - (k + 1)) ≤ 256 ^ 7 := Nat.pow_le_pow_right (by omega) (by omega)
        have h3 : 256 ^ 7 = 72057594037927936 := by decide
        omega
      rw [show ((k : Int) + 1).toNat = k + 1 by omega]
      generalize leVal (t.drop (k + 1)) = q at hd hlt ⊢
      have hor := or_add q x 0 hxl hlt
      have HD := Lib.hid hd
      have i0 : (0 : Int) ≤ (k : Int) := Int.natCast_nonneg _
      have i1 : (k : Int) < (n : Int) := by omega
      clear hd
      go_wp2_with fail
      go_round
      case rel => exact ⟨(k : Int) - 1, by omega, by omega, rfl, by rw [show ((k : Int) - 1 + 1).toNat = k by omega, HD.out]; go_num⟩
      case measure => simp [intOf]
    · obtain rfl : p = -1 := by omega
      go_wp2_with fail
      go_ret
      exact ⟨rfl, rfl⟩
theorem beVal_take (t : List Int) (k : Nat) (h : k < t.length) : beVal (t.take (k + 1)) = beVal (t.take k) * 256 + (t.getD k 0).toNat := by
  rw [List.take_succ_eq_append_getElem h, beVal_snoc, List.getD_eq_getElem?_getD, List.getElem?_eq_getElem h]
  rfl
set_option maxHeartbeats 800000 in
theorem big_val (A : Option Addr) (n c : Nat) (l : List Int) (w : World) (hr : Rds .u8 w A n l) (hl : l.length = n) (hn : n ≤ 9223372036854775807) (hc : n ≤ c) (hb : Byte l) :
    Calls Try.prog 60 #[.slice A n c] w fun e w' => e = .returned (.int .u64 (beVal (l.take 8) : Nat)) ∧ w = w' := by
  have hmin : ∀ W : World, (Builtin.min_ #[3, 3] 3 #[.int .i64 (n : Int), .int .i64 8]).run Try.prog W = .ok (.int .i64 ((min n 8 : Nat) : Int)) W := fun W => by rw [run_min2, show (8 : Int) = ((8 : Nat) : Int) from rfl, mn_nat]
  have hL : (l.take 8).length = min n 8 := by rw [List.length_take, hl]; omega
  have hbt := hb.take 8
  have hg : ∀ k, k < min n 8 → (l.take 8).getD k 0 = l.getD k 0 := fun k hk => by
    rw [List.getD_eq_getElem?_getD, List.getD_eq_getElem?_getD, List.getElem?_take, if_pos (by omega)]
  have hm8 : min n 8 ≤ 8 := by omega
  have hmn : min n 8 ≤ n := by omega
  generalize min n 8 = m at hmin hL hg hm8 hmn
  generalize l.take 8 = t at hL hbt hg ⊢
  obtain ⟨hcut, _⟩ := cut_to (enc := Value.int .u8) (h1 := int_one .u8) 0 tb A n c m hmn hc (m : Int) rfl
  have HG := Lib.hid hg
  have HL := Lib.hid hL
  clear hg hL hl
  go_enter Try.func60, Try.ntmps60
  go_wp2_with fail
  go_loop [3, 12] (fun r i => ∃ k : Nat, k ≤ m ∧ i = .int .i64 k ∧ r = .int .u64 ((beVal (t.take k) : Nat) : Int)) (fun _ i => m - (intOf i).toNat)
  case atStart => exact ⟨0, Nat.zero_le _, rfl, rfl⟩
  case round =>
    obtain ⟨k, hk, rfl, rfl⟩ := hrel
    by_cases hlt : k < m
    · obtain ⟨ad, e1, hc⟩ := rds_at 0 hr k (by omega)
      subst e1
      obtain ⟨x, hx, hxl⟩ := getD_nat hb k
      have hd := beVal_take t k (by rw [HL.out]; omega)
      rw [HG.out k hlt, hx, Int.toNat_natCast] at hd
      rw [hx] at hc
      have hlt7 : beVal (t.take k) < 72057594037927936 := by
        have h1 := beVal_lt (hbt.take k)
        have h2 : 256 ^ (t.take k).length ≤ 256 ^ 7 := Nat.pow_le_pow_right (by omega) (by rw [List.length_take, HL.out]; omega)
        have h3 : 256 ^ 7 = 72057594037927936 := by decide
        omega
      generalize beVal (t.take k) = q at hd hlt7 ⊢
      have hor := or_add q x 0 hxl hlt7
      have hd2 : ((beVal (t.take (k + 1)) : Nat) : Int) = (x + 256 * q : Nat) := by rw [hd]; omega
      have HD := Lib.hid hd2
      have i0 : (0 : Int) ≤ (k : Int) := Int.natCast_nonneg _
      have i1 : (k : Int) < (n : Int) := by omega
      clear hd hd2
      go_wp2_with fail
      go_round
      case rel => exact ⟨k + 1, by omega, by go_num, by rw [HD.out]; go_num⟩
      case measure => simp [intOf]; omega
    · obtain rfl : k = m := by omega
      rw [List.take_of_length_le (by rw [HL.out]; omega)]
      go_wp2_with fail
      go_ret
      exact ⟨rfl, rfl⟩
theorem or_128 (m : Nat) : Go.bits .or .u8 ((m : Int) % 256) 128 = ((m % 128 + 128 : Nat) : Int) := by
  have h := u8_or_nat (m % 256) 128 (by omega) (by omega)
  have h2 : m % 256 ||| 128 = m % 128 + 128 := by
    have hx : m % 256 < 256 := by omega
    have key : ∀ x, x < 256 → x ||| 128 = x % 128 + 128 := by decide +kernel
    rw [key _ hx]
    omega
  rw [h2] at h
  rw [← h]
  rfl
structure PutRel (w0 w wr : World) (v b : Value) (xs : List Int) (n m : Nat) : Prop where
  app : ∃ done : List Int, AppB w0 w wr v b (xs ++ done) ∧ done ++ put7 m = put7 n
  lt : m < 18446744073709551616
set_option maxRecDepth 20000 in
set_option maxHeartbeats 800000 in
theorem put_any (n : Nat) (hn : n < 18446744073709551616) (v : Value) (xs : List Int) (w0 w : World) (HO : GrB w w0.heap.size v xs) (HB : Below w0.heap.size w0 w) (hl : xs.length + 10 ≤ 140737488355328) :
    Calls Try.prog 18 #[v, .int .u64 (n : Nat)] w fun e w' => ∃ v', e = .returned v' ∧ AppB w0 w w' v v' (xs ++ put7 n) := by
  have hR0 : PutRel w0 w w v v xs n n := ⟨⟨[], ⟨by rw [List.append_nil]; exact HO, HB, Fr.refl _ _⟩, rfl⟩, hn⟩
  have HN := Lib.hid hn
  clear HO HB hn
  go_enter Try.func18, Try.ntmps18
  go_wp2_with fail
  go_loopw [0, 1] (fun b m wr => ∃ q : Nat, m = .int .u64 (q : Int) ∧ PutRel w0 w wr v b xs n q) (fun _ m _ => (intOf m).toNat)
  case atStart => exact ⟨n, rfl, hR0⟩
  case round =>
    obtain ⟨q, rfl, ⟨done, hA, hd⟩, hq⟩ := hrel
    clear hR0
    have hlen : done.length + (put7 q).length ≤ 10 := by rw [← List.length_append, hd]; exact put7_len10 HN.out
    have hp := put7_pos q
    have HQ := Lib.hid hq
    clear hq
    by_cases hb : q < 128
    · have hm : (q : Int) % 256 = (q : Int) := by omega
      rw [put7_small hb] at hd
      have HD := Lib.hid hd
      have HA := Lib.hid hA
      clear hd hA
      go_wp2_with (at_builtin; refine gapp_one tb rfl (.tmp 15) (.tmp 18) rfl rfl rfl HA.out.own HA.out.bel HA.out.bel.size ?cL ?_; (case cL => rw [List.length_append]; omega); intro v1 w1 ho hb1 hs1 hf; rw [List.append_assoc, HD.out] at ho; have hR1 : AppB w0 w w1 v v1 (xs ++ put7 n) := ⟨ho, hb1, HA.out.fr.trans hf⟩; clear ho hb1 hs1 hf)
      go_ret
      exact ⟨_, rfl, hR1⟩
    · have ho128 := or_128 q
      rw [put7_big hb] at hd
      rw [show done ++ ((q % 128 + 128 : Nat) : Int) :: put7 (q / 128) = (done ++ [((q % 128 + 128 : Nat) : Int)]) ++ put7 (q / 128) by simp] at hd
      have hdv : ((q / 128 : Nat) : Int) = (q : Int) / 128 := Int.natCast_ediv q 128
      generalize hgg : ((q % 128 + 128 : Nat) : Int) = g at ho128 hd
      have HD := Lib.hid hd
      have HA := Lib.hid hA
      have HV := Lib.hid hdv
      clear hd hA hdv hgg
      go_wp2_with (at_builtin; refine gapp_one tb rfl (.tmp 7) (.tmp 11) rfl rfl rfl HA.out.own HA.out.bel HA.out.bel.size ?cL ?_; (case cL => rw [List.length_append]; omega); intro v1 w1 ho hb1 hs1 hf; rw [List.append_assoc] at ho; have hR1 : PutRel w0 w w1 v v1 xs n (q / 128) := ⟨⟨_, ⟨ho, hb1, HA.out.fr.trans hf⟩, HD.out⟩, Nat.lt_of_le_of_lt (Nat.div_le_self _ _) HQ.out⟩; clear ho hb1 hs1 hf)
      go_roundw
      case rel => exact ⟨q / 128, by rw [HV.out], hR1⟩
      case measure => simp [intOf]; omega
theorem be_drop (n s p : Nat) (hp : p < s) : ∃ done : List Int, be n s = done ++ be n (p + 1) ∧ done.length + (p + 1) = s := by
  refine ⟨(be n s).take (s - (p + 1)), ?_, ?_⟩
  · induction s with
    | zero => omega
    | succ s ih =>
      by_cases h : p = s
      · subst h; simp
      · have := ih (by omega)
        rw [be_succ, show s + 1 - (p + 1) = (s - (p + 1)) + 1 by omega, List.take_succ_cons, List.cons_append, ← this]
  · rw [List.length_take, be_length]; omega
structure BigRel (w0 w wr : World) (v b : Value) (xs : List Int) (n s j : Nat) : Prop where
  app : ∃ done : List Int, AppB w0 w wr v b (xs ++ done) ∧ done ++ be n j = be n s
  le : j ≤ s
set_option maxRecDepth 20000 in
set_option maxHeartbeats 800000 in
theorem putBig_any (n : Nat) (size : Int) (hn : n < 18446744073709551616) (v : Value) (xs : List Int) (w0 w : World) (HO : GrB w w0.heap.size v xs) (HB : Below w0.heap.size w0 w) (hl : xs.length + 8 ≤ 140737488355328) :
    Calls Try.prog 71 #[v, .int .u64 (n : Nat), .int .i64 size] w fun e w' => ∃ v', e = .returned v' ∧ AppB w0 w w' v v' (xs ++ be n (min size.toNat 8)) := by
  have h1 : mx 0 (mn size 8) = ((min size.toNat 8 : Nat) : Int) := by unfold mx mn; split <;> split <;> omega
  have hmin : ∀ W : World, (Builtin.min_ #[3, 3] 3 #[.int .i64 size, .int .i64 8]).run Try.prog W = .ok (.int .i64 (mn size 8)) W := fun W => run_min2 _ _ W
  generalize mn size 8 = m at h1 hmin
  have hmax : ∀ W : World, (Builtin.max_ #[3, 3] 3 #[.int .i64 0, .int .i64 m]).run Try.prog W = .ok (.int .i64 ((min size.toNat 8 : Nat) : Int)) W := fun W => by rw [run_max2, h1]
  have hs : min size.toNat 8 ≤ 8 := by omega
  clear h1
  generalize min size.toNat 8 = s at hmax hs ⊢
  have hR0 : BigRel w0 w w v v xs n s s := ⟨⟨[], ⟨by rw [List.append_nil]; exact HO, HB, Fr.refl _ _⟩, rfl⟩, Nat.le_refl _⟩
  have HN := Lib.hid hn
  clear HO HB hn
  go_enter Try.func71, Try.ntmps71
  go_wp2_with fail
  go_loopw [0, 7] (fun b i wr => ∃ p : Int, -1 ≤ p ∧ p < s ∧ i = .int .i64 p ∧ BigRel w0 w wr v b xs n s (p + 1).toNat) (fun _ i _ => (intOf i + 1).toNat)
  case atStart => exact ⟨(s : Int) - 1, by omega, by omega, rfl, by rw [show ((s : Int) - 1 + 1).toNat = s by omega]; exact hR0⟩
  case round =>
    obtain ⟨p, hp1, hp2, rfl, ⟨done, hA, hd⟩, hle⟩ := hrel
    clear hR0
    by_cases h0 : 0 ≤ p
    · obtain ⟨k, rfl⟩ := Int.eq_ofNat_of_zero_le h0
      rw [show ((k : Int) + 1).toNat = k + 1 by omega, be_succ, show done ++ ((n / 256 ^ k % 256 : Nat) : Int) :: be n k = (done ++ [((n / 256 ^ k % 256 : Nat) : Int)]) ++ be n k by simp] at hd
      have hlen : done.length + 1 + k = s := by have := congrArg List.length hd; simp [be_length] at this; omega
      have hsh : (n : Int) / 2 ^ (8 * k) % 256 = ((n / 256 ^ k % 256 : Nat) : Int) := by
        rw [show (256 : Nat) = 2 ^ 8 from rfl, ← Nat.pow_mul]
        simp
      generalize ((n / 256 ^ k % 256 : Nat) : Int) = g at hd hsh
      have HD := Lib.hid hd
      have HA := Lib.hid hA
      have hlen2 : done.length < s := by omega
      clear hd hA hlen
      go_wp2_with (at_builtin; refine gapp_one tb rfl (.tmp 16) (.tmp 22) rfl rfl rfl HA.out.own HA.out.bel HA.out.bel.size ?cL ?_; (case cL => rw [List.length_append]; omega); intro v1 w1 ho hb1 hs1 hf; rw [List.append_assoc] at ho; have hR1 : BigRel w0 w w1 v v1 xs n s k := ⟨⟨_, ⟨ho, hb1, HA.out.fr.trans hf⟩, HD.out⟩, by omega⟩; clear ho hb1 hs1 hf)
      go_roundw
      case rel => exact ⟨(k : Int) - 1, by omega, by omega, rfl, by rw [show ((k : Int) - 1 + 1).toNat = k by omega]; exact hR1⟩
      case measure => simp [intOf]
    · obtain rfl : p = -1 := by omega
      have hd2 : done = be n s := by rw [← hd]; simp [be, le]
      rw [hd2] at hA
      have HA := Lib.hid hA
      clear hA hd hd2
      go_wp2_with fail
      go_ret
      exact ⟨_, rfl, HA.out⟩
theorem and_127 (x : Nat) (h : x < 256) : Go.bits .and .u8 (x : Int) 127 = ((x % 128 : Nat) : Int) := by
  have h1 := u8_and_nat x 127 h (by omega)
  rw [show ((127 : Nat) : Int) = 127 from rfl] at h1
  rw [h1]
  congr 1
  exact Nat.and_two_pow_sub_one_eq_mod x 7
theorem get_step (i acc x : Nat) (hi : i ≤ 9) (h9 : i = 9 → x ≤ 1) (hx : x < 256) (ha : acc < 2 ^ (7 * i)) :
    x % 128 * 2 ^ (7 * i) < 18446744073709551616 ∧ acc + x % 128 * 2 ^ (7 * i) < 2 ^ (7 * (i + 1)) ∧ Go.bits .or .u64 (acc : Int) ((x % 128 * 2 ^ (7 * i) : Nat) : Int) = ((acc + x % 128 * 2 ^ (7 * i) : Nat) : Int) ∧ (i < 9 ∨ acc + x % 128 * 2 ^ (7 * i) < 18446744073709551616) := by
  have hp : 2 ^ (7 * i) ≤ 2 ^ 63 := Nat.pow_le_pow_right (by omega) (by omega)
  have h63 : 2 ^ 63 = 9223372036854775808 := by decide
  have hs : 2 ^ (7 * (i + 1)) = 128 * 2 ^ (7 * i) := by rw [show 7 * (i + 1) = 7 + 7 * i by omega, Nat.pow_add]
  have h1 : x % 128 * 2 ^ (7 * i) < 18446744073709551616 := by
    by_cases h : i = 9
    · have := h9 h
      subst h
      omega
    · have hp2 : 2 ^ (7 * i) ≤ 2 ^ 56 := Nat.pow_le_pow_right (by omega) (by omega)
      have h56 : 2 ^ 56 = 72057594037927936 := by decide
      have h3 : x % 128 * 2 ^ (7 * i) ≤ 127 * 2 ^ (7 * i) := Nat.mul_le_mul_right _ (by omega)
      omega
  have h2 : acc + x % 128 * 2 ^ (7 * i) < 2 ^ (7 * (i + 1)) := by
    have h3 : x % 128 * 2 ^ (7 * i) ≤ 127 * 2 ^ (7 * i) := Nat.mul_le_mul_right _ (by omega)
    omega
  have h4 : acc + x % 128 * 2 ^ (7 * i) < 18446744073709551616 := by
    by_cases h : i = 9
    · have := h9 h
      subst h
      omega
    · have hp2 : 2 ^ (7 * (i + 1)) ≤ 2 ^ 63 := Nat.pow_le_pow_right (by omega) (by omega)
      omega
  refine ⟨h1, h2, ?_, .inr h4⟩
  rw [u64_or_nat acc _ (by omega) h1]
  congr 1
  rw [Nat.mul_comm, Nat.or_comm, ← Nat.two_pow_add_eq_or_of_lt ha]
  omega
theorem wrap_nat (p : Nat) (h : p < 18446744073709551616) : IntKind.u64.wrap (p : Int) = (p : Int) := by
  have h1 : IntKind.u64.wrap (p : Int) = (p : Int) % 18446744073709551616 := by simp [IntKind.wrap, IntKind.bits, IntKind.signed]
  rw [h1]
  omega
/-- What a call answers: three numbers. -/
def three (a b e : Int) : Ending := .returned (.tuple #[.int .u64 a, .int .i64 b, .int .i64 e])
set_option maxRecDepth 20000 in
set_option maxHeartbeats 1600000 in
theorem get_any (A : Option Addr) (n c : Nat) (l : List Int) (w : World) (hr : Rds .u8 w A n l) (hl : l.length = n) (hn : n ≤ 9223372036854775807) (hb : Byte l) :
    Calls Try.prog 67 #[.slice A n c] w fun e w' => e = three ((get l).1 : Nat) ((get l).2.1 : Nat) ((get l).2.2 : Nat) ∧ w = w' := by
  have HL := Lib.hid hl
  clear hl
  go_enter Try.func67, Try.ntmps67
  go_wp2_with fail
  go_loop [5, 10] (fun r i => ∃ k acc : Nat, k ≤ n ∧ k ≤ 9 ∧ i = .int .i64 k ∧ r = .int .u64 (acc : Int) ∧ Hid (acc < 2 ^ (7 * k)) ∧ Hid (getAt k acc (l.drop k) = get l)) (fun _ i => n - (intOf i).toNat)
  case atStart => exact ⟨0, 0, Nat.zero_le _, by omega, rfl, rfl, Lib.hid (by omega), Lib.hid rfl⟩
  case round =>
    obtain ⟨k, acc, hk, hk9, rfl, rfl, HA, HG⟩ := hrel
    by_cases hlt : k < n
    · obtain ⟨ad, e1, hc⟩ := rds_at 0 hr k hlt
      subst e1
      obtain ⟨x, hx, hxl⟩ := getD_nat hb k
      have hg := HG.out
      rw [List.drop_eq_getElem_cons (by rw [HL.out]; exact hlt)] at hg
      have hx2 : l[k]'(by rw [HL.out]; exact hlt) = (x : Int) := by rw [← hx, List.getD_eq_getElem?_getD, List.getElem?_eq_getElem]; rfl
      rw [hx2] at hg
      rw [hx] at hc
      have i0 : (0 : Int) ≤ (k : Int) := Int.natCast_nonneg _
      have i1 : (k : Int) < (n : Int) := by omega
      have HGG := Lib.hid hg
      clear hg hx hx2 HG
      by_cases h9 : k = 9 ∧ 1 < x
      · obtain ⟨h9a, h9b⟩ := h9
        have t1 : ((k : Int) == 9) = true := by simp; omega
        have t2 : decide ((1 : Int) < (x : Int)) = true := by simp; omega
        have hf : get l = (0, 0, 2) := by rw [← HGG.out]; simp only [getAt]; rw [if_pos ⟨h9a, by omega⟩]
        have HF := Lib.hid hf
        clear hf h9a
        go_wp2_with fail
        go_ret3
        exact ⟨by rw [HF.out]; rfl, rfl⟩
      · have hn9 : k = 9 → x ≤ 1 := fun h => by omega
        obtain ⟨g1, g2, g3, _⟩ := get_step k acc x hk9 hn9 hxl HA.out
        have ha := and_127 x hxl
        have hy : x % 128 < 128 := Nat.mod_lt _ (by omega)
        have hxy : x < 128 → x = x % 128 := fun h => by omega
        have HGY : Hid (get l = if (x : Int) < 128 then (if (x : Int) = 0 ∧ 0 < k then (0, 0, 2) else (acc + x % 128 * 2 ^ (7 * k), k + 1, 0)) else getAt (k + 1) (acc + x % 128 * 2 ^ (7 * k)) (l.drop (k + 1))) := Lib.hid (by
          rw [← HGG.out]; simp only [getAt]; rw [if_neg (by omega), Int.toNat_natCast])
        clear HGG
        generalize x % 128 = y at g1 g2 g3 ha hy hxy HGY
        have HXY := Lib.hid hxy
        have hn9' : x ≤ 1 ∨ k ≠ 9 := by omega
        clear hxy hn9 h9
        have hsh : IntKind.u64.wrap ((y : Int) * 2 ^ (7 * k)) = ((y * 2 ^ (7 * k) : Nat) : Int) := by
          rw [show (y : Int) * 2 ^ (7 * k) = ((y * 2 ^ (7 * k) : Nat) : Int) by simp]
          exact wrap_nat _ g1
        generalize y * 2 ^ (7 * k) = P at g1 g2 g3 HGY hsh
        have HB2 := Lib.hid g2
        clear g1 g2
        generalize acc + P = a2 at g3 HB2 HGY
        have i2 : (k : Int) + 1 ≤ 10 := by omega
        have h9 : k = 9 ∧ decide ((1 : Int) < (x : Int)) = false ∨ ((k : Int) == 9) = false := by
          by_cases h : k = 9
          · exact .inl ⟨h, by simp; omega⟩
          · exact .inr (by simp; omega)
        have hx0 : ((x : Int) == 0) = true ∨ ((x : Int) == 0) = false := by cases ((x : Int) == 0) <;> simp
        have hk0 : k = 0 ∨ 0 < k := by omega
        have h128 : x < 128 ∨ (128 ≤ x ∧ k < 9) := by omega
        rcases h128 with h128 | ⟨h128, hk8⟩
        · rcases hx0 with hx0 | hx0
          · have hxz : x = 0 := by simpa using hx0
            rcases hk0 with hk0 | hk0
            · have hf : get l = (a2, 1, 0) := by rw [HGY.out, if_pos (by omega), if_neg (by omega), hk0]
              have HF := Lib.hid hf
              have hk9' : ((k : Int) == 9) = false := by simp; omega
              have hkz : decide ((0 : Int) < (k : Int)) = false := by simp; omega
              have hkz2 : decide (0 < k) = false := by simp; omega
              have hkz3 : ¬ 0 < k := by omega
              have H0 := Lib.hid hk0
              clear hf hxz h9 hk0 hn9'
              go_wp2_with fail
              go_ret3
              exact ⟨by rw [HF.out, H0.out]; rfl, rfl⟩
            · have hf : get l = (0, 0, 2) := by rw [HGY.out, if_pos (by omega), if_pos (by omega)]
              have HF := Lib.hid hf
              have hkz : decide ((0 : Int) < (k : Int)) = true := by simp; omega
              clear hf hxz hn9'
              rcases h9 with ⟨h9, t2⟩ | t1
              · have t1 : ((k : Int) == 9) = true := by simp; omega
                have H9 := Lib.hid h9
                clear h9
                go_wp2_with fail
                go_ret3
                exact ⟨by rw [HF.out]; rfl, rfl⟩
              · go_wp2_with fail
                go_ret3
                exact ⟨by rw [HF.out]; rfl, rfl⟩
          · have hxz : x ≠ 0 := by simpa using hx0
            have hf : get l = (a2, k + 1, 0) := by rw [HGY.out, if_pos (by omega), if_neg (by omega)]
            have HF := Lib.hid hf
            clear hf hxz hn9'
            rcases h9 with ⟨h9, t2⟩ | t1
            · have t1 : ((k : Int) == 9) = true := by simp; omega
              have H9 := Lib.hid h9
              clear h9
              go_wp2_with fail
              go_ret3
              exact ⟨by rw [HF.out]; rfl, rfl⟩
            · go_wp2_with fail
              go_ret3
              exact ⟨by rw [HF.out]; rfl, rfl⟩
        · have HG2 : Hid (getAt (k + 1) a2 (l.drop (k + 1)) = get l) := Lib.hid (by rw [HGY.out, if_neg (by omega)])
          have t1 : ((k : Int) == 9) = false := by simp; omega
          clear h9 hx0 hn9' hk0
          go_wp2_with fail
          go_round
          case rel => exact ⟨k + 1, a2, by omega, by omega, by go_num, rfl, HB2, HG2⟩
          case measure => simp [intOf]; omega
    · obtain rfl : k = n := by omega
      have hf : get l = (0, 0, 8) := by rw [← HG.out, List.drop_eq_nil_of_le (by rw [HL.out]; omega)]; rfl
      have HF := Lib.hid hf
      clear hf
      go_wp2_with fail
      go_ret3
      exact ⟨by rw [HF.out]; rfl, rfl⟩
end Go.Proofs.Ytnkeijdpjcclcaa.Num
-- NumAid
/- Small facts for the laws of num. -/
namespace Go.Proofs.Ytnkeijdpjcclcaa.Num
set_option linter.unusedVariables false
open Go.Proofs.Ytnkeijdpjcclcaa.Kit Go.RowKit Go.Proofs.YtnkeijdpjcclcaaW.PrintWords Go.Proofs.YtnkeijdpjcclcaaW.PrintLast Go.Proofs.YtnkeijdpjcclcaaW.PrintMore NumPure
theorem put300 : put7 300 = [172, 2] := by rw [put7_big (by omega), put7_small (by omega)]; rfl
theorem compact300 : compact 300 = [253, 44, 1] := by unfold compact; rw [if_neg (by omega), if_pos (by omega)]; rfl
theorem be300 : be 300 3 = [0, 1, 44] := by rfl
theorem high_succ {l : List Int} {k n x : Nat} (h : High (l.take k)) (hk : k < n) (hl : l.length = n) (hx : l.getD k 0 = (x : Int)) (h1 : 128 ≤ x) (h2 : x < 256) : High (l.take (k + 1)) := by
  rw [List.take_succ_eq_append_getElem (by omega)]
  intro y hy
  rcases List.mem_append.1 hy with hy | hy
  · exact h y hy
  · rcases List.mem_singleton.1 hy with rfl
    rw [List.getD_eq_getElem?_getD, List.getElem?_eq_getElem (by omega)] at hx
    simp only [Option.getD_some] at hx
    omega
theorem split_at {l : List Int} {k n : Nat} {x : Int} (hk : k < n) (hl : l.length = n) (hx : l.getD k 0 = x) : l = l.take k ++ x :: l.drop (k + 1) := by
  have h1 : l[k]'(by omega) = x := by rw [← hx, List.getD_eq_getElem?_getD, List.getElem?_eq_getElem (by omega)]; rfl
  have h2 := List.drop_eq_getElem_cons (l := l) (i := k) (by omega)
  rw [h1] at h2
  rw [← h2, List.take_append_drop]
theorem below_drew_then {w w' : World} (h : Below w.drew.heap.size w.drew w') : Below w.heap.size w w' := ⟨h.os, h.tape, h.output, h.size, h.block⟩
theorem byte_wf {l : List Int} (h : ∀ x ∈ l, (Lit.int .u8 x).wf = true) : Byte l := fun x hx => wf_u8 (h x hx)
/-- A constant's bytes, laid and marked. -/
theorem marked (w : World) (B : Nat) (xs : List Int) (n : Nat) (hn : xs.length = n) (hB : B ≤ w.heap.size) (hm : xs.length ≤ 9223372036854775807) :
    GrB (w.alloc (.cells (nums .u8 xs).toArray 5 ((nums .u8 xs).toArray.size, (nums .u8 xs).toArray.size + 1))) B (.slice (some ⟨w.heap.size, 0, none⟩) n n) xs := gr_marked w B _ xs n (by simp [nums, hn]) hn hB hm
theorem conv_marked (w : World) (C : Array Value) (n c : Nat) :
    (convert 25 25 (.slice (some ⟨w.heap.size, 0, none⟩) n c)).run Try.prog (w.alloc (.cells C 5)) = .ok (.slice (some ⟨w.heap.size, 0, none⟩) n c) (w.alloc (.cells C 5 (C.size, C.size + 1))) :=
  Lib.run_convert_bytes_const w 25 5 C n c Try.underlying25 Try.underlying5
end Go.Proofs.Ytnkeijdpjcclcaa.Num
-- Box
/- Structs in a variable of the call's own: stored whole, loaded whole, handed back. -/
namespace Go.Proofs.Ytnkeijdpjcclcaa.Kit
set_option linter.unusedVariables false
set_option linter.unusedSimpArgs false
open Go.RowKit Go.Proofs.YtnkeijdpjcclcaaW.PrintWords Go.Proofs.YtnkeijdpjcclcaaW.PrintLast Go.Proofs.YtnkeijdpjcclcaaW.PrintMore
/-- One block is written anew; nothing else is turned. -/
structure Set1 (w : World) (g : Nat) (o : Obj) (w' : World) : Prop where
  at_ : w'.heap[g]? = some o
  other : ∀ j, j ≠ g → w'.heap[j]? = w.heap[j]?
  size : w'.heap.size = w.heap.size
  os : w'.os = w.os
  tape : w'.tape = w.tape
  output : w'.output = w.output
theorem Set1.below {w w' : World} {g : Nat} {o : Obj} (h : Set1 w g o w') {B : Nat} (hB : B ≤ g) : Below B w w' :=
  ⟨h.os, h.tape, h.output, by rw [h.size]; exact Nat.le_refl _, fun k hk => h.other k (by omega)⟩
/-- What was turned since a world stays so where a block of since then is written. -/
theorem Set1.then_ {w0 w w' : World} {g : Nat} {o : Obj} (h : Set1 w g o w') (hb : Below w0.heap.size w0 w) (hB : w0.heap.size ≤ g) : Below w0.heap.size w0 w' :=
  ⟨h.os.trans hb.os, h.tape.trans hb.tape, h.output.trans hb.output, by rw [h.size]; exact hb.size, fun k hk => (h.other k (by omega)).trans (hb.block k hk)⟩
theorem Set1.keep {w w' : World} {g j : Nat} {o p : Obj} (h : Set1 w g o w') (hj : w.heap[j]? = some p) (hne : j ≠ g) : w'.heap[j]? = some p := (h.other j hne).trans hj
theorem Set1.gr {k : IntKind} {e : TypeId} {w w' : World} {g B : Nat} {o : Obj} {v : Value} {xs : List Int} (h : Set1 w g o w') (hv : Gr k e w B v xs) (hne : v.ownBlock ≠ some g) : Gr k e w' B v xs :=
  gr_move hv fun j hj => h.other j (fun e => hne (by rw [← e]; exact hj))
theorem set1_row {w : World} {g : Nat} {old cs : Array Value} {t : TypeId} {fr : Nat × Nat} (hg : w.heap[g]? = some (.cells old t fr)) : Set1 w g (.cells cs t fr) (w.setRow g cs) := by
  refine ⟨setRow_heap w g old cs t fr hg, fun j hj => ?_, by simp [World.setRow], rfl, rfl, rfl⟩
  simp only [World.setRow]
  rw [Array.getElem?_modify, if_neg (fun e => hj e.symm)]
section
variable {P : Program} {ops : Array Oper} {rest : List Oper} {op : Oper} {a : Act} {w : World} {Q : Exit → Act → World → Prop}
theorem wpList_store_box (hgd : op.guard = none) (ty : TypeId) (x y : Operand) (ho : op.op = .store ty x y) (g : Nat) (cs : List Value) (hx : a.eval x = .pointer (some ⟨g, 0, none⟩)) (hy : a.eval y = .agg cs.toArray)
    {old : List Value} {t : TypeId} (hg : w.heap[g]? = some (.cells old.toArray t (0, 0))) (hl : old.length = cs.length) (hi : (P.info? ty).map (·.size) = some cs.length) (h1 : cs.all (·.oneCell') = true)
    (h : ∀ w', Set1 w g (.cells cs.toArray t (0, 0)) w' → wpList P ops Q rest (a.put op.dst undef) w') : wpList P ops Q (op :: rest) a w := by
  refine wpList_plain hgd fun _ hK => ?_
  refine wp_store_row (P := P) ty x y ho g cs.toArray hx hy t old.toArray hg (by simpa using hi) (by simpa using hl) (by simpa using h1) ?_
  exact hK _ _ (h _ (set1_row hg))
theorem wpList_load_box (hgd : op.guard = none) (ty : TypeId) (x : Operand) (ho : op.op = .load ty x) (g : Nat) (cs : List Value) (hx : a.eval x = .pointer (some ⟨g, 0, none⟩)) {t : TypeId} {fr : Nat × Nat} {d : TypeDesc}
    (hg : w.heap[g]? = some (.cells cs.toArray t fr)) (hu : P.underlying ty = some d) (hd : d.isRow = true) (hi : (P.info? ty).map (·.size) = some cs.length)
    (h : wpList P ops Q rest (a.put op.dst (.agg cs.toArray)) w) : wpList P ops Q (op :: rest) a w :=
  wpList_load_mid hgd ty x ho g 0 hx cs d (range_block hg) hu hd hi h
end
theorem storeVar_cell {P : Program} (ty : TypeId) (hi : (P.info? ty).map (·.size) = some 1) (a : Addr) (v o : Value) (hv : v.oneCell' = true) (w : World) (hc : w.cell? a = some o) (hf : w.frozen? a = false) : (storeVar ty a v).run P w = .ok () (w.setCell a v) := by
  cases hq : P.info? ty with
  | none => simp [hq] at hi
  | some i =>
    have hs : i.size = 1 := by simp [hq] at hi; exact hi
    have hcv : v.cells = #[v] := by cases v <;> simp_all [Value.oneCell', Value.cells]
    have h0 : a.add 0 = a := by simp [Addr.add]
    have hst : (store (a.add 0) v).run P w = .ok () (w.setCell a v) := by
      rw [h0, run_store P w a v _ hv, hc]
      simp [hf]
    simp [storeVar, sizeOf, typeInfo, hq, hcv, hs, storeCells, hst]
section
variable {P : Program} {ops : Array Oper} {rest : List Oper} {op : Oper} {a : Act} {w : World} {Q : Exit → Act → World → Prop}
theorem wpList_store_cell (hgd : op.guard = none) (ty : TypeId) (x y : Operand) (ho : op.op = .store ty x y) (g i : Nat) (v : Value) (hx : a.eval x = .pointer (some ⟨g, i, none⟩)) (hy : a.eval y = v) (hv : v.oneCell' = true)
    {old : List Value} {t : TypeId} (hg : w.heap[g]? = some (.cells old.toArray t (0, 0))) (hl : i < old.length) (hi : (P.info? ty).map (·.size) = some 1)
    (h : ∀ w', Set1 w g (.cells (old.set i v).toArray t (0, 0)) w' → wpList P ops Q rest (a.put op.dst undef) w') : wpList P ops Q (op :: rest) a w := by
  refine wpList_plain hgd fun K hK => ?_
  have hc : w.cell? ⟨g, i, none⟩ = some old[i] := by simp [World.cell?, hg, hl]
  have hf : w.frozen? ⟨g, i, none⟩ = false := by simp [World.frozen?, hg]
  have hst := storeVar_cell (P := P) ty hi ⟨g, i, none⟩ v _ hv w hc hf
  have hs1 : Set1 w g (.cells (old.set i v).toArray t (0, 0)) (w.setCell ⟨g, i, none⟩ v) := by
    rw [setCell_eq_setRow w g i old.toArray t (0, 0) v hg, show old.toArray.setIfInBounds i v = (old.set i v).toArray by simp]
    exact set1_row hg
  unfold Oper.wp execOp
  simp only [ho, hx, hy, Instr.storeAt, Instr.sureAddr, Sem.run_bind, Sem.run_pure, Result.andThen_ok, hst]
  exact hK _ _ (h _ hs1)
end
theorem loadVar_box {P : Program} {w : World} {g : Nat} {t ty : TypeId} {cs : List Value} {fr : Nat × Nat} {d : TypeDesc} (h : w.heap[g]? = some (.cells cs.toArray t fr)) (hu : P.underlying ty = some d) (hd : d.isRow = true) (hi : (P.info? ty).map (·.size) = some cs.length) :
    (loadVar ty ⟨g, 0, none⟩).run P w = .ok (.agg cs.toArray) w := run_loadVar_mid w g 0 ty cs d (range_block h) hu hd hi
theorem results_box {P : Program} {fn : Func} {p : Tmp} {ty : TypeId} {tmps : Array Value} {w : World} {g : Nat} {v : Value} (h : fn.results = #[.cell p ty]) (hp : tmps.getD p undef = .pointer (some ⟨g, 0, none⟩)) (hl : (loadVar ty ⟨g, 0, none⟩).run P w = .ok v w) :
    (results fn tmps).run P w = .ok v w := by
  have hp' : tmps[p]?.getD undef = .pointer (some ⟨g, 0, none⟩) := by simpa using hp
  simp only [results, h]
  simp [Sem.run_bind, Result.andThen, hp', asAddr, hl]
theorem results_box_tmp {P : Program} {fn : Func} {p u : Tmp} {ty : TypeId} {tmps : Array Value} {w : World} {g : Nat} {v : Value} (h : fn.results = #[.cell p ty, .tmp u]) (hp : tmps.getD p undef = .pointer (some ⟨g, 0, none⟩)) (hl : (loadVar ty ⟨g, 0, none⟩).run P w = .ok v w) :
    (results fn tmps).run P w = .ok (.tuple #[v, tmps.getD u undef]) w := by
  rw [results_cell_tmp h, hp]
  simp [asAddr, hl, Result.andThen]
theorem results_box_tmp2 {P : Program} {fn : Func} {p u u2 : Tmp} {ty : TypeId} {tmps : Array Value} {w : World} {g : Nat} {v : Value} (h : fn.results = #[.cell p ty, .tmp u, .tmp u2]) (hp : tmps.getD p undef = .pointer (some ⟨g, 0, none⟩)) (hl : (loadVar ty ⟨g, 0, none⟩).run P w = .ok v w) :
    (results fn tmps).run P w = .ok (.tuple #[v, tmps.getD u undef, tmps.getD u2 undef]) w := by
  have hp' : tmps[p]?.getD undef = .pointer (some ⟨g, 0, none⟩) := by simpa using hp
  simp only [results, h]
  simp [Sem.run_bind, Result.andThen, hp', asAddr, hl]
theorem results_box2_tmp {P : Program} {fn : Func} {p p2 u : Tmp} {ty ty2 : TypeId} {tmps : Array Value} {w : World} {g g2 : Nat} {v v2 : Value} (h : fn.results = #[.cell p ty, .cell p2 ty2, .tmp u]) (hp : tmps.getD p undef = .pointer (some ⟨g, 0, none⟩)) (hl : (loadVar ty ⟨g, 0, none⟩).run P w = .ok v w)
    (hp2 : tmps.getD p2 undef = .pointer (some ⟨g2, 0, none⟩)) (hl2 : (loadVar ty2 ⟨g2, 0, none⟩).run P w = .ok v2 w) :
    (results fn tmps).run P w = .ok (.tuple #[v, v2, tmps.getD u undef]) w := by
  have hp' : tmps[p]?.getD undef = .pointer (some ⟨g, 0, none⟩) := by simpa using hp
  have hp2' : tmps[p2]?.getD undef = .pointer (some ⟨g2, 0, none⟩) := by simpa using hp2
  simp only [results, h]
  simp [Sem.run_bind, Result.andThen, hp', asAddr, hl, hp2', hl2]
end Go.Proofs.Ytnkeijdpjcclcaa.Kit
-- Ops
/- More operations in regions: numbers multiplied, shifted, cut, turned to another kind; a literal of bytes; its text. -/
namespace Go.Proofs.Ytnkeijdpjcclcaa.Kit
set_option linter.unusedVariables false
set_option linter.unusedSimpArgs false
open Go.RowKit Go.Proofs.YtnkeijdpjcclcaaW.PrintWords Go.Proofs.YtnkeijdpjcclcaaW.PrintLast Go.Proofs.YtnkeijdpjcclcaaW.PrintMore
section
variable {P : Program} {o : Oper} {l : List (Nat × Value)} {x y : Operand} {t t2 : TypeId} {m : Nat} {k k2 : IntKind} {a b c : Int} {w : World}
theorem op_mul (ho : o.op = .binOp .mul t x y m) (hx : lk l x = .int k a) (hy : lk l y = .int k b) (h : k.wrap (a * b) = c) : (execOp (lk l) o).run P w = .ok (.value (.int k c)) w := by
  subst h
  unfold execOp
  simp [ho, hx, hy, eqGuard, binOp, Op.intArith]
theorem op_rem (ho : o.op = .binOp .rem t x y m) (hx : lk l x = .int k a) (hy : lk l y = .int k b) (hb : b ≠ 0) (h : Int.tmod a b = c) : (execOp (lk l) o).run P w = .ok (.value (.int k c)) w := by
  subst h
  unfold execOp
  simp [ho, hx, hy, eqGuard, binOp, Op.intArith, Op.intDiv, hb]
theorem op_quo (ho : o.op = .binOp .quo t x y m) (hx : lk l x = .int k a) (hy : lk l y = .int k b) (hb : b ≠ 0) (h : k.wrap (Int.tdiv a b) = c) : (execOp (lk l) o).run P w = .ok (.value (.int k c)) w := by
  subst h
  unfold execOp
  simp [ho, hx, hy, eqGuard, binOp, Op.intArith, Op.intDiv, hb]
theorem op_shr (ho : o.op = .binOp .shr t x y m) (hx : lk l x = .int k a) (hy : lk l y = .int k2 b) (hb : 0 ≤ b) (h : a / 2 ^ min b.toNat k.bits = c) : (execOp (lk l) o).run P w = .ok (.value (.int k c)) w := by
  subst h
  unfold execOp
  simp [ho, hx, hy, eqGuard, binOp, shift_shr_any k k2 a b hb]
theorem op_shl (ho : o.op = .binOp .shl t x y m) (hx : lk l x = .int k a) (hy : lk l y = .int k2 b) (hb : 0 ≤ b) (h : k.wrap (a * 2 ^ min b.toNat k.bits) = c) : (execOp (lk l) o).run P w = .ok (.value (.int k c)) w := by
  subst h
  unfold execOp
  simp [ho, hx, hy, eqGuard, binOp, shift_shl_any k k2 a b hb]
theorem op_and (ho : o.op = .binOp .and t x y m) (hx : lk l x = .int k a) (hy : lk l y = .int k b) (h : Go.bits .and k a b = c) : (execOp (lk l) o).run P w = .ok (.value (.int k c)) w := by
  subst h
  unfold execOp
  have e : Op.intBits .and k a b = pure (.int k (Go.bits .and k a b)) := rfl
  simp [ho, hx, hy, eqGuard, binOp, Op.intArith, e]
theorem op_conv_int (ho : o.op = .convert t t2 x) (hs : P.underlying t = some (.int k)) (hd : P.underlying t2 = some (.int k2)) (hx : lk l x = .int k a) (h : k2.wrap a = c) : (execOp (lk l) o).run P w = .ok (.value (.int k2 c)) w := by
  subst h
  refine run_conv_op ho hx ?_
  unfold convert
  simp [run_underlying hs, run_underlying hd, Conv.intToInt]
end
section
variable {P : Program} {D : List (List Nat)} {L : List Nat} {dsts : List (Option Tmp)} {I J : World → Prop} {a0 : Act} {K : (Nat → Value) → World → Prop} {o : Oper} {r : List Oper} {k : Nat} {Fs : List FW} {t e : TypeId} {n bytes : Nat} {z : Int}
/-- []byte{..}: its bytes, as a row. -/
theorem w_lit (hL : k ∉ L) (l : List (Nat × Value)) (kd : IntKind) (cs : List Int) (ps : Array (Nat × Operand)) (T : SlTy P t e (.int kd z) bytes) (hv : ∀ vs w, Known Fs k (deps D L Fs k) vs w → Wants o vs = true ∧ Vs (rho (dsts.take k) vs a0) l) (hc : covers o (l.map (·.1)) = true)
    (ho : o.op = .buildSlice t n ps) (hn : cs.length = n) (hp : 0 < n) (h24 : n ≤ 16777216)
    (hps : (ps.toList.map fun p => (p.1, lk l p.2)) = (((cs.map (Value.int kd)).zipIdx 0).map fun x => (x.2, x.1)))
    (tl : Walk P D L dsts I J a0 K r (k + 1) (FW.row kd cs :: Fs)) : Walk P D L dsts I J a0 K (o :: r) k Fs := by
  refine w_any (FW.row kd cs) hL (fun vs w hI hK => ?_) tl
  obtain ⟨ie, hie, hz, hs, _⟩ := info_of T
  have hrun : (execOp (lk l) o).run P w = .ok (.value (.slice (some ⟨w.heap.size, 0, none⟩) n n)) (w.alloc (.cells (nums kd cs).toArray e)) := by
    unfold execOp
    simp only [ho, Sem.run_bind]
    have hpe : (ps.map fun (x : Nat × Operand) => (x.1, lk l x.2)).toList = (((cs.map (Value.int kd)).zipIdx 0).map fun x => (x.2, x.1)) := by rw [Array.toList_map]; exact hps
    have hfl : Instr.fill (fun i => some (i * 1, 1)) ((Array.range (n * 1)).map ((Value.int kd z).cells[· % (Value.int kd z).cells.size]!)) (ps.map fun (x : Nat × Operand) => (x.1, lk l x.2)).toList = some (nums kd cs).toArray := by
      rw [hpe]
      exact Great.fill_flat _ _ (fun v hv => by obtain ⟨n, _, rfl⟩ := List.mem_map.1 hv; rfl) (by simp [hn])
    rw [run_buildSlice w t e n _ (nums kd cs).toArray ie (.int kd z) T.und hie hz (by rw [hs]; omega) (by rw [hs]; omega) (by rw [hs]; exact hfl)]
    rfl
  refine ob_run l (hv vs w hK).1 (hv vs w hK).2 hc hrun ⟨below_alloc (Below.refl _ _) _, ?_⟩
  exact ⟨_, n, n, rfl, Nat.le_refl _, Lib.hid hn, by omega, rds_lit w e (0, 0) 0 cs (by omega) n hn⟩
/-- string(row). -/
theorem w_str {j d : Nat} {xs : List Int} {src dst : TypeId} (hL : k ∉ L) (hd : P.underlying dst = some .string) (he : P.underlying e = some (.int .u8)) (T : SlTy P src e (.int .u8 z) bytes) (ho : o.op = .convert src dst (.tmp d)) (hj : srcOf (dsts.take k) 0 d = some j) (hw : ∀ vs w, Known Fs k (deps D L Fs k) vs w → Wants o vs = true)
    (hF : ∀ vs w, Known Fs k (deps D L Fs k) vs w → IsRow .u8 xs (vs j) w) (tl : Walk P D L dsts I J a0 K r (k + 1) (FW.val (.string (strOfNums xs)) :: Fs)) : Walk P D L dsts I J a0 K (o :: r) k Fs := by
  refine w_any (FW.val (.string (strOfNums xs))) hL (fun vs w hI hK => ?_) tl
  obtain ⟨A, n, c, e1, h1, h2, h3, h4⟩ := hF vs w hK
  have hlk : lk [(d, .slice A n c)] (.tmp d) = .slice A n c := by simp [lk, lkT]
  have hcv : covers o ([(d, Value.slice A n c)].map (·.1)) = true := by simp [covers, ho, Op.operands]
  exact ob_run [(d, .slice A n c)] (hw vs w hK) ⟨rho_in hj e1, trivial⟩ hcv (run_conv_op ho hlk (conv_rds T he hd h4)) ⟨Below.refl _ _, rfl⟩
end
section
variable {P : Program} {o : Oper} {l : List (Nat × Value)} {x y : Operand} {t : TypeId} {m : Nat} {xs ys : Array Value} {r : Bool} {w : World}
theorem op_agg_eql (ho : o.op = .binOp .eql t x y m) (hx : lk l x = .agg xs) (hy : lk l y = .agg ys) (hm : P.eqGuardType P.depth t = false) (he : (Op.equalIn (9998 + 1 + 1) t (.agg xs) (.agg ys)).run P w = .ok r w) : (execOp (lk l) o).run P w = .ok (.value (.bool r)) w := by
  have e2 : (Op.equal t (.agg xs) (.agg ys)).run P w = .ok r w := he
  have e3 : (binOp .eql t (.agg xs) (.agg ys)).run P w = .ok (.bool r) w := by
    show ((do pure (.bool (← Op.equal t (.agg xs) (.agg ys))) : Sem Value)).run P w = _
    simp only [Sem.run_bind, e2, Result.andThen_ok, Sem.run_pure]
  unfold execOp
  simp only [ho, hx, hy, Sem.run_bind, run_eqGuard_agg w .eql t x y xs ys hm, Result.andThen_ok, e3, Sem.run_pure]
theorem op_agg_neq (ho : o.op = .binOp .neq t x y m) (hx : lk l x = .agg xs) (hy : lk l y = .agg ys) (hm : P.eqGuardType P.depth t = false) (he : (Op.equalIn (9998 + 1 + 1) t (.agg xs) (.agg ys)).run P w = .ok r w) : (execOp (lk l) o).run P w = .ok (.value (.bool (!r))) w := by
  have e2 : (Op.equal t (.agg xs) (.agg ys)).run P w = .ok r w := he
  have e3 : (binOp .neq t (.agg xs) (.agg ys)).run P w = .ok (.bool (!r)) w := by
    show ((do pure (.bool (!(← Op.equal t (.agg xs) (.agg ys)))) : Sem Value)).run P w = _
    simp only [Sem.run_bind, e2, Result.andThen_ok, Sem.run_pure]
  unfold execOp
  simp only [ho, hx, hy, Sem.run_bind, run_eqGuard_agg w .neq t x y xs ys hm, Result.andThen_ok, e3, Sem.run_pure]
end
/-- Arrays of whole numbers compared. -/
theorem eqItems_ints {P : Program} {e : TypeId} {k kd : IntKind} (he : P.underlying e = some (.int kd)) (hc : P.cellsOf e = 1) (d : Nat) (xs ys : List Int) (w : World) : ∀ is : List Nat, (∀ i ∈ is, i < xs.length ∧ i < ys.length) →
    (Op.eqItems (d + 1) e (P.cellsOf e) (nums k xs).toArray (nums k ys).toArray is).run P w = .ok (is.all fun i => xs.getD i 0 == ys.getD i 0) w
  | [], _ => by simp [Op.eqItems]
  | i :: is, h => by
    have ih := eqItems_ints (k := k) he hc d xs ys w is (fun j hj => h j (by simp [hj]))
    have hpk : P.plainKey e = true := by simp [Program.plainKey, he]
    obtain ⟨h1, h2⟩ := h i (by simp)
    have p1 : (part e (nums k xs).toArray (i * P.cellsOf e)).run P w = .ok (.int k (xs.getD i 0)) w := run_part_plain w hpk (by
      rw [hc, Nat.mul_one]
      simp [nums, List.getD_eq_getElem?_getD, List.getElem?_eq_getElem h1])
    have p2 : (part e (nums k ys).toArray (i * P.cellsOf e)).run P w = .ok (.int k (ys.getD i 0)) w := run_part_plain w hpk (by
      rw [hc, Nat.mul_one]
      simp [nums, List.getD_eq_getElem?_getD, List.getElem?_eq_getElem h2])
    simp only [Op.eqItems, Sem.run_bind, p1, p2, Result.andThen_ok, run_equalIn_int w d e k kd _ _ he, List.all_cons]
    cases hb : (xs.getD i 0 == ys.getD i 0)
    · simp
    · simpa using ih
theorem all_eq_lists (xs ys : List Int) (n : Nat) (hx : xs.length = n) (hy : ys.length = n) : ((List.range n).all fun i => xs.getD i 0 == ys.getD i 0) = decide (xs = ys) := by
  rw [Bool.eq_iff_iff, List.all_eq_true, decide_eq_true_iff]
  constructor
  · intro h
    apply List.ext_getElem (by omega)
    intro i h1 h2
    have := h i (by simp; omega)
    rw [beq_iff_eq, List.getD_eq_getElem?_getD, List.getD_eq_getElem?_getD, List.getElem?_eq_getElem h1, List.getElem?_eq_getElem h2] at this
    exact this
  · rintro rfl i _
    simp
theorem equalIn_ints {P : Program} {t e : TypeId} {n : Nat} {k kd : IntKind} (hu : P.underlying t = some (.array n e)) (he : P.underlying e = some (.int kd)) (hi : (P.info? e).isSome = true) (hc : P.cellsOf e = 1) (d : Nat) (xs ys : List Int) (hx : xs.length = n) (hy : ys.length = n) (w : World) :
    (Op.equalIn (d + 1 + 1) t (.agg (nums k xs).toArray) (.agg (nums k ys).toArray)).run P w = .ok (decide (xs = ys)) w := by
  obtain ⟨i, hi⟩ := Option.isSome_iff_exists.1 hi
  rw [run_equalIn_array w (d + 1) _ _ hu hi, eqItems_ints he hc d xs ys w (List.range n) (fun j hj => by have := List.mem_range.1 hj; omega), all_eq_lists xs ys n hx hy]
theorem rem_nat (p m : Nat) : Int.tmod (p : Int) (m : Int) = ((p % m : Nat) : Int) := by
  rw [Int.tmod_eq_emod_of_nonneg (Int.natCast_nonneg _)]
  exact (Int.natCast_emod p m).symm
theorem quo_nat (p m : Nat) : Int.tdiv (p : Int) (m : Int) = ((p / m : Nat) : Int) := by
  rw [Int.tdiv_eq_ediv_of_nonneg (Int.natCast_nonneg _)]
  exact (Int.natCast_ediv p m).symm
theorem u8_nat (n : Nat) (h : n < 256) : IntKind.u8.wrap (n : Int) = (n : Int) := by simp [IntKind.wrap, IntKind.signed, IntKind.bits]; omega
theorem u32_nat (n : Nat) (h : n < 4294967296) : IntKind.u32.wrap (n : Int) = (n : Int) := by simp [IntKind.wrap, IntKind.signed, IntKind.bits]; omega
theorem u64_nat (n : Nat) (h : n < 18446744073709551616) : IntKind.u64.wrap (n : Int) = (n : Int) := by simp [IntKind.wrap, IntKind.signed, IntKind.bits]; omega
end Go.Proofs.Ytnkeijdpjcclcaa.Kit
