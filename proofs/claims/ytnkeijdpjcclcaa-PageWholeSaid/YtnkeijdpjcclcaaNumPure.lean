/- Plain laws of numbers as bytes. -/
namespace NumPure

/-- seven bits a byte, the lowest first -/
def put7 (n : Nat) : List Int := if n < 128 then [(n : Int)] else ((n % 128 + 128 : Nat) : Int) :: put7 (n / 128)
termination_by n
decreasing_by omega
theorem put7_small {n : Nat} (h : n < 128) : put7 n = [(n : Int)] := by rw [put7, if_pos h]
theorem put7_big {n : Nat} (h : ¬ n < 128) : put7 n = ((n % 128 + 128 : Nat) : Int) :: put7 (n / 128) := by rw [put7, if_neg h]
theorem put7_pos (n : Nat) : 0 < (put7 n).length := by
  by_cases h : n < 128
  · rw [put7_small h]; simp
  · rw [put7_big h]; simp
theorem put7_len (k n : Nat) (h : n < 128 ^ (k + 1)) : (put7 n).length ≤ k + 1 := by
  induction k generalizing n with
  | zero => rw [put7_small (by omega)]; simp
  | succ k ih =>
    by_cases hn : n < 128
    · rw [put7_small hn]; simp
    · rw [put7_big hn, List.length_cons]
      have := ih (n / 128) (by rw [Nat.pow_succ] at h; omega)
      omega
theorem put7_len10 {n : Nat} (h : n < 18446744073709551616) : (put7 n).length ≤ 10 := put7_len 9 n (by omega)
theorem put7_byte (n : Nat) : ∀ x ∈ put7 n, 0 ≤ x ∧ x < 256 := by
  induction n using Nat.strongRecOn with
  | _ n ih =>
    by_cases h : n < 128
    · rw [put7_small h]
      intro x hx
      rcases List.mem_singleton.1 hx with rfl
      omega
    · rw [put7_big h]
      intro x hx
      rcases List.mem_cons.1 hx with rfl | hx
      · omega
      · exact ih _ (by omega) x hx

/-- the lowest s bytes, the lowest first -/
def le (n s : Nat) : List Int := (List.range s).map fun i => ((n / 256 ^ i % 256 : Nat) : Int)
theorem le_zero (n : Nat) : le n 0 = [] := rfl
theorem le_succ (n s : Nat) : le n (s + 1) = le n s ++ [((n / 256 ^ s % 256 : Nat) : Int)] := by simp [le, List.range_succ]
theorem le_length (n s : Nat) : (le n s).length = s := by simp [le]
theorem le_byte (n s : Nat) : ∀ x ∈ le n s, 0 ≤ x ∧ x < 256 := by
  intro x hx
  obtain ⟨i, _, rfl⟩ := List.mem_map.1 hx
  omega
/-- .. the highest first -/
def be (n s : Nat) : List Int := (le n s).reverse
theorem be_length (n s : Nat) : (be n s).length = s := by simp [be, le_length]
theorem be_byte (n s : Nat) : ∀ x ∈ be n s, 0 ≤ x ∧ x < 256 := fun x hx => le_byte n s x (List.mem_reverse.1 hx)
theorem be_succ (n s : Nat) : be n (s + 1) = ((n / 256 ^ s % 256 : Nat) : Int) :: be n s := by simp [be, le_succ]
/-- the number of bytes, the lowest first -/
def leVal : List Int → Nat
  | [] => 0
  | c :: r => c.toNat + 256 * leVal r
/-- .. the highest first -/
def beVal (l : List Int) : Nat := l.foldl (fun a c => a * 256 + c.toNat) 0
def Byte (l : List Int) : Prop := ∀ x ∈ l, 0 ≤ x ∧ x < 256
theorem Byte.head {c : Int} {r : List Int} (h : Byte (c :: r)) : 0 ≤ c ∧ c < 256 := h c (by simp)
theorem Byte.tail {c : Int} {r : List Int} (h : Byte (c :: r)) : Byte r := fun x hx => h x (by simp [hx])
theorem Byte.take {l : List Int} (h : Byte l) (k : Nat) : Byte (l.take k) := fun x hx => h x (List.mem_of_mem_take hx)
theorem Byte.drop {l : List Int} (h : Byte l) (k : Nat) : Byte (l.drop k) := fun x hx => h x (List.mem_of_mem_drop hx)
theorem Byte.append {l k : List Int} (h : Byte l) (h' : Byte k) : Byte (l ++ k) := fun x hx => by
  rcases List.mem_append.1 hx with hx | hx
  · exact h x hx
  · exact h' x hx
theorem leVal_lt {l : List Int} (h : Byte l) : leVal l < 256 ^ l.length := by
  induction l with
  | nil => simp [leVal]
  | cons c r ih =>
    have h1 := ih h.tail
    have h2 := h.head
    rw [List.length_cons, Nat.pow_succ]
    simp only [leVal]
    omega
theorem leVal_append (l : List Int) (c : Int) : leVal (l ++ [c]) = leVal l + 256 ^ l.length * c.toNat := by
  induction l with
  | nil => simp [leVal]
  | cons x r ih =>
    simp only [List.cons_append, leVal, ih, List.length_cons, Nat.pow_succ]
    rw [Nat.mul_add, ← Nat.mul_assoc, Nat.mul_comm 256 (256 ^ r.length), Nat.add_assoc]
theorem leVal_drop (l : List Int) (k : Nat) (h : k < l.length) : leVal (l.drop k) = (l.getD k 0).toNat + 256 * leVal (l.drop (k + 1)) := by
  rw [List.drop_eq_getElem_cons h]
  simp only [leVal]
  rw [List.getD_eq_getElem?_getD, List.getElem?_eq_getElem h]
  rfl
theorem leVal_le (n s : Nat) (h : n < 256 ^ s) : leVal (le n s) = n := by
  have key : ∀ s, leVal (le n s) = n % 256 ^ s := by
    intro s
    induction s with
    | zero => simp [le_zero, leVal, Nat.mod_one]
    | succ s ih =>
      rw [le_succ, leVal_append, ih, le_length, Int.toNat_natCast, Nat.pow_succ, Nat.mod_mul]
  rw [key s, Nat.mod_eq_of_lt h]
theorem le_leVal (l : List Int) (h : Byte l) : le (leVal l) l.length = l := by
  have hc : ∀ (l : List Int), Byte l → ∀ i, i < l.length → leVal l / 256 ^ i % 256 = (l.getD i 0).toNat := by
    intro l
    induction l with
    | nil => intro _ i hi; simp at hi
    | cons c r ih =>
      intro h i hi
      have h2 := h.head
      cases i with
      | zero => simp [leVal]; omega
      | succ i =>
        rw [Nat.pow_succ, Nat.mul_comm, ← Nat.div_div_eq_div_mul]
        simp only [leVal]
        rw [show (c.toNat + 256 * leVal r) / 256 = leVal r by omega]
        rw [ih h.tail i (by simpa using hi)]
        rfl
  apply List.ext_getElem
  · rw [le_length]
  · intro i h1 h2
    simp only [le, List.getElem_map, List.getElem_range]
    rw [hc l h i h2, List.getD_eq_getElem?_getD, List.getElem?_eq_getElem h2]
    have := h _ (List.getElem_mem h2)
    simp only [Option.getD_some]
    omega
theorem beVal_snoc (l : List Int) (c : Int) : beVal (l ++ [c]) = beVal l * 256 + c.toNat := by simp [beVal, List.foldl_append]
theorem beVal_reverse (l : List Int) : beVal l.reverse = leVal l := by
  induction l with
  | nil => rfl
  | cons c r ih => rw [List.reverse_cons, beVal_snoc, ih]; simp only [leVal]; omega
theorem beVal_eq (l : List Int) : beVal l = leVal l.reverse := by rw [← beVal_reverse, List.reverse_reverse]
theorem beVal_lt {l : List Int} (h : Byte l) : beVal l < 256 ^ l.length := by
  rw [beVal_eq, ← List.length_reverse]
  exact leVal_lt fun x hx => h x (List.mem_reverse.1 hx)
theorem beVal_be (n s : Nat) (h : n < 256 ^ s) : beVal (be n s) = n := by rw [beVal_eq, be, List.reverse_reverse, leVal_le n s h]
theorem be_beVal (l : List Int) (h : Byte l) : be (beVal l) l.length = l := by
  have := le_leVal l.reverse (fun x hx => h x (List.mem_reverse.1 hx))
  rw [List.length_reverse, ← beVal_eq] at this
  rw [be, this, List.reverse_reverse]

/-- as Bitcoin lays a number -/
def compact (n : Nat) : List Int := if n < 253 then [(n : Int)] else if n ≤ 65535 then 253 :: le n 2 else if n ≤ 4294967295 then 254 :: le n 4 else 255 :: le n 8

/-- What Get tells from byte i on: the number, how many bytes, the error. -/
def getAt : Nat → Nat → List Int → Nat × Nat × Nat
  | _, _, [] => (0, 0, 8)
  | i, acc, c :: r =>
    if i = 9 ∧ 1 < c then (0, 0, 2)
    else if c < 128 then (if c = 0 ∧ 0 < i then (0, 0, 2) else (acc + c.toNat % 128 * 2 ^ (7 * i), i + 1, 0))
    else getAt (i + 1) (acc + c.toNat % 128 * 2 ^ (7 * i)) r
def get (l : List Int) : Nat × Nat × Nat := getAt 0 0 l
/-- What Expand tells. -/
def expand (l : List Int) : Nat × Nat × Nat :=
  match l with
  | [] => (0, 0, 8)
  | c :: _ =>
    if c < 253 then (c.toNat, 1, 0)
    else
      let size := 2 * 2 ^ (c.toNat - 253)
      if l.length < 1 + size then (0, 0, 8)
      else
        let n := leVal ((l.take (1 + size)).drop 1)
        if (compact n).length ≠ 1 + size then (0, 0, 2) else (n, 1 + size, 0)
end NumPure
