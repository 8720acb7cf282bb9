namespace CrcPure

/-- the polynomial -/
def P : Nat := 2197175160

/-- the register goes one bit down -/
def st (r : Nat) : Nat := (r >>> 1) ^^^ (if r.testBit 0 then P else 0)

def sts : Nat → Nat → Nat
  | 0, r => r
  | k + 1, r => sts k (st r)

theorem st_zero : st 0 = 0 := by decide

theorem st_xor (a b : Nat) : st (a ^^^ b) = st a ^^^ st b := by
  unfold st
  rw [Nat.shiftRight_xor_distrib, Nat.testBit_xor]
  have lc : ∀ x y z : Nat, x ^^^ (y ^^^ z) = y ^^^ (x ^^^ z) := fun x y z => by rw [← Nat.xor_assoc, Nat.xor_comm x y, Nat.xor_assoc]
  cases a.testBit 0 <;> cases b.testBit 0 <;> simp only [Bool.xor_false, Bool.xor_true, Bool.not_false, Bool.not_true, if_true, Bool.false_eq_true, if_false, Nat.xor_zero]
  · rw [Nat.xor_assoc]
  · rw [Nat.xor_assoc, Nat.xor_assoc, Nat.xor_comm P]
  · rw [Nat.xor_assoc (a >>> 1) P, lc P, Nat.xor_self, Nat.xor_zero]

theorem st_double (x : Nat) : st (2 * x) = x := by
  unfold st
  simp [Nat.shiftRight_eq_div_pow, Nat.testBit_zero]

theorem sts_xor (k : Nat) : ∀ a b : Nat, sts k (a ^^^ b) = sts k a ^^^ sts k b := by
  induction k with
  | zero => intro a b; rfl
  | succ k ih => intro a b; simp only [sts]; rw [st_xor, ih]

theorem sts_add (j k r : Nat) : sts (j + k) r = sts k (sts j r) := by
  induction j generalizing r with
  | zero => simp [sts]
  | succ j ih => rw [Nat.succ_add]; simp only [sts]; exact ih _

theorem sts_zero (k : Nat) : sts k 0 = 0 := by
  induction k with
  | zero => rfl
  | succ k ih => simp only [sts, st_zero, ih]

theorem sts_shift (k x : Nat) : sts k (2 ^ k * x) = x := by
  induction k generalizing x with
  | zero => simp [sts]
  | succ k ih =>
    simp only [sts]
    rw [show 2 ^ (k + 1) * x = 2 * (2 ^ k * x) by rw [Nat.pow_succ]; rw [Nat.mul_comm (2 ^ k) 2, Nat.mul_assoc], st_double, ih]

theorem st_lt {r : Nat} (h : r < 2 ^ 32) : st r < 2 ^ 32 := by
  unfold st
  apply Nat.xor_lt_two_pow
  · rw [Nat.shiftRight_eq_div_pow]; omega
  · split <;> decide

theorem sts_lt (k : Nat) {r : Nat} (h : r < 2 ^ 32) : sts k r < 2 ^ 32 := by
  induction k generalizing r with
  | zero => exact h
  | succ k ih => exact ih (st_lt h)

theorem st_inj {r : Nat} (h : r < 2 ^ 32) (hz : st r = 0) : r = 0 := by
  unfold st at hz
  have ht : ∀ i, ((r >>> 1) ^^^ (if r.testBit 0 then P else 0)).testBit i = false := fun i => by rw [hz]; simp
  have h0 : r.testBit 0 = false := by
    have h31 := ht 31
    rw [Nat.testBit_xor, Nat.testBit_shiftRight, Nat.testBit_lt_two_pow (by omega : r < 2 ^ (1 + 31))] at h31
    cases hb : r.testBit 0
    · rfl
    · rw [hb] at h31; exact absurd h31 (by decide)
  rw [h0] at hz
  simp [Nat.shiftRight_eq_div_pow] at hz
  rw [Nat.testBit_zero] at h0
  simp at h0
  omega

theorem sts_inj (k : Nat) {r : Nat} (h : r < 2 ^ 32) (hz : sts k r = 0) : r = 0 := by
  induction k generalizing r with
  | zero => exact hz
  | succ k ih => exact st_inj h (ih (st_lt h) hz)

/-- what four bits do -/
def half : Nat → Nat
  | 0 => 0 | 1 => 274646895 | 2 => 549293790 | 3 => 820201905 | 4 => 1098587580 | 5 => 1361435347 | 6 => 1640403810 | 7 => 1905808397
  | 8 => 2197175160 | 9 => 2460548119 | 10 => 2722870694 | 11 => 2987750089 | 12 => 3280807620 | 13 => 3553878443 | 14 => 3811616794 | 15 => 4084100981
  | _ => 0

theorem half_sts : ∀ s, s < 16 → half s = sts 4 s := by decide

theorem split16 (r : Nat) : r = (2 ^ 4 * (r / 16)) ^^^ (r % 16) := by
  have e : 2 ^ 4 * (r / 16) = (r / 16) <<< 4 := by rw [Nat.shiftLeft_eq, Nat.mul_comm]
  rw [e]
  apply Nat.eq_of_testBit_eq
  intro i
  rw [Nat.testBit_xor, Nat.testBit_shiftLeft]
  rw [show r % 16 = r % 2 ^ 4 from rfl, Nat.testBit_mod_two_pow, show r / 16 = r / 2 ^ 4 from rfl, Nat.testBit_div_two_pow]
  by_cases h : i < 4
  · simp [h, show ¬ i ≥ 4 by omega]
  · simp [h, show i ≥ 4 by omega, show i - 4 + 4 = i by omega]

theorem nib_eq (r : Nat) : (r / 16) ^^^ half (r % 16) = sts 4 r := by
  have h := split16 r
  conv => rhs; rw [h]
  rw [sts_xor, sts_shift, half_sts _ (Nat.mod_lt _ (by decide))]

/-- a byte is laid over the register, then it goes eight bits down -/
def byte (r c : Nat) : Nat := sts 8 (r ^^^ c)
def bytes (r : Nat) (l : List Nat) : Nat := l.foldl byte r

theorem byte_nib (r c : Nat) : byte r c = ((((r ^^^ c) / 16) ^^^ half ((r ^^^ c) % 16)) / 16) ^^^ half (((((r ^^^ c) / 16) ^^^ half ((r ^^^ c) % 16))) % 16) := by
  rw [nib_eq, nib_eq]
  exact sts_add 4 4 _

theorem byte_lt {r c : Nat} (hr : r < 2 ^ 32) (hc : c < 256) : byte r c < 2 ^ 32 :=
  sts_lt 8 (Nat.xor_lt_two_pow hr (by omega))
theorem bytes_lt {r : Nat} (hr : r < 2 ^ 32) (l : List Nat) (hl : ∀ c ∈ l, c < 256) : bytes r l < 2 ^ 32 := by
  induction l generalizing r with
  | nil => exact hr
  | cons c l ih => exact ih (byte_lt hr (hl c (by simp))) (fun x hx => hl x (by simp [hx]))
theorem byte_xor (r r' c c' : Nat) : byte (r ^^^ r') (c ^^^ c') = byte r c ^^^ byte r' c' := by
  unfold byte
  rw [← sts_xor]
  congr 1
  rw [Nat.xor_assoc, Nat.xor_assoc, ← Nat.xor_assoc r' c c', Nat.xor_comm r' c, Nat.xor_assoc]
theorem bytes_append (r : Nat) (l k : List Nat) : bytes r (l ++ k) = bytes (bytes r l) k := by simp [bytes, List.foldl_append]
theorem bytes_xor (l k : List Nat) (h : l.length = k.length) : ∀ r r' : Nat, bytes (r ^^^ r') (List.zipWith (· ^^^ ·) l k) = bytes r l ^^^ bytes r' k := by
  induction l generalizing k with
  | nil => intro r r'; cases k with
    | nil => rfl
    | cons _ _ => simp at h
  | cons c l ih => intro r r'; cases k with
    | nil => simp at h
    | cons d k =>
      simp only [List.zipWith_cons_cons, bytes, List.foldl_cons]
      rw [byte_xor]
      exact ih k (by simpa using h) _ _

theorem xor32 {a b : Nat} (ha : a < 4294967296) (hb : b < 4294967296) : a ^^^ b < 4294967296 := by
  have h := Nat.xor_lt_two_pow (n := 32) (x := a) (y := b) (by omega) (by omega)
  omega
theorem half_lt : ∀ s, s < 16 → half s < 4294967296 := by decide
theorem bytes_lt' {r : Nat} (hr : r < 4294967296) (l : List Nat) (hl : ∀ c ∈ l, c < 256) : bytes r l < 4294967296 := by
  have h := bytes_lt (r := r) (by omega) l hl
  omega
theorem bytes_snoc (r : Nat) (l : List Nat) (c : Nat) : bytes r (l ++ [c]) = byte (bytes r l) c := by simp [bytes, List.foldl_append]

/-! bit by bit -/
def feed (r : Nat) : List Bool → Nat
  | [] => r
  | b :: l => feed (st (r ^^^ b.toNat)) l
theorem feed_append (r : Nat) (l k : List Bool) : feed r (l ++ k) = feed (feed r l) k := by
  induction l generalizing r with
  | nil => rfl
  | cons b l ih => exact ih _
/-- the number whose bits these are, the lowest first -/
def num : List Bool → Nat
  | [] => 0
  | b :: l => b.toNat ^^^ (2 * num l)
theorem num_eq (b : Bool) (l : List Bool) : num (b :: l) = b.toNat + 2 * num l := by
  show b.toNat ^^^ (2 * num l) = _
  apply Nat.eq_of_testBit_eq
  intro i
  rw [Nat.testBit_xor]
  cases i with
  | zero =>
    rw [Nat.testBit_zero, Nat.testBit_zero, Nat.testBit_zero]
    cases b <;> simp
  | succ i =>
    have e1 : ∀ n, Nat.testBit n (i + 1) = Nat.testBit (n / 2) i := fun n => Nat.testBit_succ ..
    rw [e1, e1, e1]
    have h1 : b.toNat / 2 = 0 := by cases b <;> decide
    have h2 : (b.toNat + 2 * num l) / 2 = num l := by cases b <;> simp <;> omega
    have h3 : 2 * num l / 2 = num l := by omega
    rw [h1, h2, h3]
    simp
theorem num_lt (l : List Bool) : num l < 2 ^ l.length := by
  induction l with
  | nil => decide
  | cons b l ih =>
    rw [num_eq, List.length_cons, Nat.pow_succ]
    have : b.toNat ≤ 1 := by cases b <;> decide
    omega
theorem num_zero {l : List Bool} (h : num l = 0) : ∀ b ∈ l, b = false := by
  induction l with
  | nil => simp
  | cons b l ih =>
    rw [num_eq] at h
    intro x hx
    have hb : b = false := by cases b with
      | false => rfl
      | true => simp at h
    rcases List.mem_cons.1 hx with rfl | hx
    · exact hb
    · exact ih (by omega) x hx
/-- fed with bits: as if they were laid over the register at once -/
theorem feed_num (l : List Bool) : ∀ r, feed r l = sts l.length (r ^^^ num l) := by
  induction l with
  | nil => intro r; simp [feed, num, sts]
  | cons b l ih =>
    intro r
    simp only [feed, List.length_cons, sts]
    rw [ih]
    congr 1
    show _ = st (r ^^^ (b.toNat ^^^ (2 * num l)))
    rw [← Nat.xor_assoc, st_xor (r ^^^ b.toNat), st_double]
/-- of a byte the bits, the lowest first -/
def bits8 (c : Nat) : List Bool := (List.range 8).map fun i => c.testBit i
theorem num_bits8 : ∀ c, c < 256 → num (bits8 c) = c := by decide +kernel
theorem byte_feed (r : Nat) {c : Nat} (h : c < 256) : byte r c = feed r (bits8 c) := by
  rw [feed_num, num_bits8 c h]
  rfl
theorem bytes_feed (l : List Nat) (hl : ∀ c ∈ l, c < 256) : ∀ r, bytes r l = feed r (l.flatMap bits8) := by
  induction l with
  | nil => intro r; rfl
  | cons c l ih =>
    intro r
    rw [List.flatMap_cons, feed_append, ← byte_feed r (hl c (by simp))]
    exact ih (fun x hx => hl x (by simp [hx])) _
theorem feed_false (n : Nat) : ∀ r, feed r (List.replicate n false) = sts n r := by
  induction n with
  | zero => intro r; rfl
  | succ n ih => intro r; simp only [List.replicate_succ, feed, sts]; rw [ih]; simp
/-- A burst: noughts, at most 32 bits that are not all nought, noughts: the register is not nought. -/
theorem feed_burst (a b : Nat) (l : List Bool) (hl : l.length ≤ 32) (hx : true ∈ l) : feed 0 (List.replicate a false ++ l ++ List.replicate b false) ≠ 0 := by
  rw [feed_append, feed_append, feed_false, feed_false, sts_zero, feed_num, Nat.zero_xor]
  intro hz
  have hlt : num l < 2 ^ 32 := Nat.lt_of_lt_of_le (num_lt l) (Nat.pow_le_pow_right (by decide) hl)
  have := sts_inj _ hlt (sts_inj _ (sts_lt _ hlt) hz)
  have := num_zero this true hx
  cases this
end CrcPure
