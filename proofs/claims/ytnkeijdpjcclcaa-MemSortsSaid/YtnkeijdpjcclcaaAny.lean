/- Regions that draw their order: one obligation an operation, whatever order is drawn. -/
import Derived.Test.YtnkeijdpjcclcaaKit2
import Derived.Orders
namespace Go.Proofs.Ytnkeijdpjcclcaa.Kit
set_option linter.unusedVariables false
set_option linter.unusedSimpArgs false
open Go.RowKit Go.Proofs.YtnkeijdpjcclcaaW.PrintWords Go.Proofs.YtnkeijdpjcclcaaW.PrintLast Go.Proofs.YtnkeijdpjcclcaaW.PrintMore

section
variable {P : Program} {ops : Array Oper} {Q : Exit → Act → World → Prop}
/-- What an operation's result tells: a value and a world. -/
def Told (P : Program) (R : Value → World → Prop) : Result Next → Prop
  | .ok (.value v) w' => R v w'
  | .ok .skip w' => R undef w'
  | .ok (.enter f args) w' => Calls P f args w' fun e w'' => ∃ v, e = .returned v ∧ R v w''
  | _ => False
/-- The operation, in this state and world, leaves a value and a world of which R tells. -/
def Yl (P : Program) (ops : Array Oper) (o : Oper) (a : Act) (w : World) (R : Value → World → Prop) : Prop :=
  if Region.wanted o (yielded ops a.tmps) = true then Told P R ((execOp a.eval o).run P w) else R undef w
theorem Yl.wpOp {i : Nat} {o : Oper} {a : Act} {w : World} {R : Value → World → Prop} {K : Act → World → Prop} (hi : ops[i]? = some o) (h : Yl P ops o a w R)
    (hK : ∀ v w', R v w' → K (a.put o.dst v) w') : wpOp P ops Q i K a w := by
  unfold Yl at h
  unfold Go.wpOp
  simp only [hi]
  split
  · rename_i hw
    rw [if_pos hw] at h
    left
    unfold Oper.wp
    generalize (execOp a.eval o).run P w = r at h
    cases r with
    | ok n w' =>
      cases n <;> simp only [Told] at h <;> simp only [Oper.upon]
      case value v => exact hK _ _ h
      case skip => exact hK _ _ h
      case enter f args =>
        refine h.mono ?_
        rintro e w'' ⟨v, rfl, hr⟩
        exact hK _ _ hr
    | halt x w' => exact h.elim
  · rename_i hw
    rw [if_neg hw] at h
    exact hK _ _ h
/-- The frame behind the first n operations. -/
def putN (ops : Array Oper) (vs : Nat → Value) : Nat → Act → Act
  | 0, a => a
  | n + 1, a => (putN ops vs n a).put ((ops[n]?).bind (·.dst)) (vs n)
def dstOf (ops : Array Oper) (i : Nat) : Option Tmp := (ops[i]?).bind (·.dst)
/-- The table D (what must have come up before i) is right, destinations are distinct, and who reads or writes another's destination waits for it (or is waited for). -/
def okAny (ops : Array Oper) (D : List (List Nat)) : Bool :=
  (D.length == ops.size) && Region.noSelect ops &&
  (List.range ops.size).all fun i =>
    (match ops[i]? with | some o => o.after.all fun e => !Region.binds .any e || decide (e.on < i) | none => true) &&
    ((D.getD i []).all fun j => decide (j < i) && match ops[i]? with
      | some o => o.after.any fun e => Region.binds .any e && (e.on == j || (decide (e.on < ops.size) && (D.getD e.on []).contains j))
      | none => false) &&
    (List.range ops.size).all fun j => decide (i = j) ||
      (match dstOf ops j with
       | none => true
       | some d => (dstOf ops i != some d) && (match ops[i]? with
          | some o => !(o.looksAt ops).contains d || (D.getD i []).contains j || (D.getD j []).contains i
          | none => true))
theorem put_get (a : Act) (d : Option Tmp) (v : Value) (t : Nat) : (a.put d v).tmps[t]? = if d = some t ∧ t < a.tmps.size then some v else a.tmps[t]? := by
  cases d with
  | none => simp [Act.put]
  | some d =>
    simp only [Act.put, Array.getElem?_setIfInBounds, Option.some.injEq]
    by_cases h : d = t
    · subst h
      by_cases h2 : d < a.tmps.size
      · simp [h2]
      · simp [h2]
    · simp [h]
theorem put_size (a : Act) (d : Option Tmp) (v : Value) : (a.put d v).tmps.size = a.tmps.size := by cases d <;> simp [Act.put]
theorem put_defers (a : Act) (d : Option Tmp) (v : Value) : (a.put d v).defers = a.defers := by cases d <;> simp [Act.put]
theorem putN_size (vs : Nat → Value) (a : Act) : ∀ n, (putN ops vs n a).tmps.size = a.tmps.size
  | 0 => rfl
  | n + 1 => by simp only [putN]; rw [put_size, putN_size vs a n]
theorem putN_defers (vs : Nat → Value) (a : Act) : ∀ n, (putN ops vs n a).defers = a.defers
  | 0 => rfl
  | n + 1 => by simp only [putN]; rw [put_defers, putN_defers vs a n]
/-- No two operations have one destination. -/
def Dist (ops : Array Oper) : Prop := ∀ i j t, dstOf ops i = some t → dstOf ops j = some t → i = j
theorem putN_out (vs : Nat → Value) (a : Act) (t : Nat) : ∀ n, (∀ j, j < n → dstOf ops j ≠ some t) → (putN ops vs n a).tmps[t]? = a.tmps[t]?
  | 0, _ => rfl
  | n + 1, h => by
    simp only [putN]
    rw [put_get, if_neg (fun hh => h n (by omega) hh.1)]
    exact putN_out vs a t n (fun j hj => h j (by omega))
theorem putN_in (hd : Dist ops) (vs : Nat → Value) (a : Act) (t i : Nat) (hi : dstOf ops i = some t) (ht : t < a.tmps.size) : ∀ n, i < n → (putN ops vs n a).tmps[t]? = some (vs i)
  | 0, h => by omega
  | n + 1, h => by
    simp only [putN]
    rw [put_get]
    by_cases hn : dstOf ops n = some t
    · have := hd i n t hi hn
      subst this
      rw [if_pos ⟨hn, by rw [putN_size]; exact ht⟩]
    · rw [if_neg (fun hh => hn hh.1)]
      have hne : i ≠ n := fun e => hn (e ▸ hi)
      exact putN_in hd vs a t i hi ht n (by omega)
/-- The state in the midst of a drawn order. L: the operations that write in turn (each one's fact serves the next alone). -/
structure Mid (ops : Array Oper) (D : List (List Nat)) (L : List Nat) (Inv J : World → Prop) (F : Nat → Value → World → Prop) (fx : Nat → Bool) (a0 : Act) (vs : Nat → Value) (l : Array Bool) (a : Act) (w : World) : Prop where
  size : l.size = ops.size
  tsz : a.tmps.size = a0.tmps.size
  dfr : a.defers = a0.defers
  out : ∀ t, (∀ i, l.getD i false = true → dstOf ops i ≠ some t) → a.tmps[t]? = a0.tmps[t]?
  mem : ∀ i t, l.getD i false = true → dstOf ops i = some t → t < a0.tmps.size → a.tmps[t]? = some (vs i)
  shut : ∀ i, l.getD i false = true → ∀ j ∈ D.getD i [], l.getD j false = true
  inv : Inv w
  head : (∀ k ∈ L, l.getD k false = false) → J w
  facts : ∀ i, l.getD i false = true → (i ∈ L → ∀ k ∈ L, l.getD k false = true → k ≤ i) → (fx i = true ∨ i ∈ L ∨ ∀ q ∈ L, ¬ l.getD q false = true) → F i (vs i) w
/-- Operation j's fact may serve operation i. -/
def useB (L : List Nat) (j i : Nat) : Bool := !(L.contains j) || L.all fun k => decide (k ≤ j) || (L.contains i && decide (i ≤ k))
theorem useB_spec {L : List Nat} {j i : Nat} (h : useB L j i = true) (hj : j ∈ L) (k : Nat) (hk : k ∈ L) : k ≤ j ∨ (i ∈ L ∧ i ≤ k) := by
  simp only [useB, Bool.or_eq_true, Bool.not_eq_true', List.all_eq_true, decide_eq_true_eq, Bool.and_eq_true, List.contains_iff_mem] at h
  rcases h with h | h
  · have : L.contains j = true := by simpa using hj
    rw [this] at h; cases h
  · exact h k hk
/-- Operation i has its turn ahead of all that write in turn (or is the first of them). -/
def earlyB (D : List (List Nat)) (L : List Nat) (i : Nat) : Bool := L.all fun k => Nat.beq i k || (D.getD k []).contains i
theorem earlyB_spec {D : List (List Nat)} {L : List Nat} {i : Nat} (h : earlyB D L i = true) (k : Nat) (hk : k ∈ L) : i = k ∨ i ∈ D.getD k [] := by
  have := List.all_eq_true.1 h k hk
  simp only [Bool.or_eq_true, List.contains_iff_mem] at this
  exact this.imp Nat.eq_of_beq_eq_true id
/-- Operation j's fact (b: the world is nothing to it) may serve operation i. -/
def useE (D : List (List Nat)) (L : List Nat) (b : Bool) (j i : Nat) : Bool := useB L j i && (L.contains j || (earlyB D L i || b))
theorem useE_spec {D : List (List Nat)} {L : List Nat} {b : Bool} {j i : Nat} (h : useE D L b j i = true) : useB L j i = true ∧ (j ∈ L ∨ earlyB D L i = true ∨ b = true) := by
  simp only [useE, Bool.and_eq_true, Bool.or_eq_true, List.contains_iff_mem] at h
  exact h
theorem getD_false_lt {l : Array Bool} {i : Nat} (h : l.getD i false = true) : i < l.size := by
  rcases Nat.lt_or_ge i l.size with h' | h'
  · exact h'
  · simp [Array.getElem?_eq_none h'] at h
theorem getD_true_of_lt {l : Array Bool} {i : Nat} (hi : i < l.size) (h : ¬ l.getD i false = true) : l.getD i true = false := by
  simp [hi] at h ⊢; exact h
theorem dst_lt {i : Nat} {t : Tmp} (h : dstOf ops i = some t) : i < ops.size := by
  unfold dstOf at h
  rcases Nat.lt_or_ge i ops.size with h' | h'
  · exact h'
  · rw [Array.getElem?_eq_none h'] at h; cases h
/-- The operation looks at operands and its guard alone. -/
theorem told_congr {o : Oper} {a b : Act} {w : World} {R : Value → World → Prop} (hs : ∀ cs b, o.op ≠ .select cs b) (h : ∀ t ∈ o.looksAt ops, a.tmps[t]? = b.tmps[t]?) (hy : Yl P ops o b w R) : Yl P ops o a w R := by
  have e1 : execOp a.eval o = execOp b.eval o := execOp_congr o hs fun x hx => by
    cases x with
    | tmp t =>
      have ht := h t (List.mem_append_left _ (List.mem_filterMap.2 ⟨.tmp t, by simpa using hx, rfl⟩))
      simp [Act.eval, ht]
    | _ => rfl
  have e2 : Region.wanted o (yielded ops a.tmps) = Region.wanted o (yielded ops b.tmps) := by
    unfold Region.wanted
    cases hg : o.guard with
    | none => rfl
    | some gw =>
      obtain ⟨g, want⟩ := gw
      have hy : yielded ops a.tmps g = yielded ops b.tmps g := by
        unfold yielded
        cases ht : (ops[g]?).bind (·.dst) with
        | none => rfl
        | some t =>
          have := h t (by simp [Oper.looksAt, hg, ht])
          simp [this]
      simp only [hy]
  unfold Yl at *
  rw [e1, e2]
  exact hy
def upd (vs : Nat → Value) (i : Nat) (v : Value) : Nat → Value := fun j => if j = i then v else vs j
theorem upd_same (vs : Nat → Value) (i : Nat) (v : Value) : upd vs i v i = v := by simp [upd]
theorem upd_other (vs : Nat → Value) {i j : Nat} (v : Value) (h : j ≠ i) : upd vs i v j = vs j := by simp [upd, h]
/-- How many have not come up yet. -/
def cnt (l : Array Bool) : Nat → Nat
  | 0 => 0
  | n + 1 => cnt l n + if l.getD n false = true then 0 else 1
theorem cnt_zero {l : Array Bool} : ∀ n, cnt l n = 0 → ∀ i, i < n → l.getD i false = true
  | 0, _, _, h => by omega
  | n + 1, h, i, hi => by
    simp only [cnt] at h
    split at h
    · rename_i hl
      rcases Nat.lt_or_ge i n with h2 | h2
      · exact cnt_zero n (by omega) i h2
      · obtain rfl : i = n := by omega
        exact hl
    · omega
theorem getD_set_self {l : Array Bool} {i : Nat} (h : i < l.size) : (l.setIfInBounds i true).getD i false = true := by simp [h]
theorem cnt_above {l : Array Bool} {i : Nat} : ∀ n, n ≤ i → cnt (l.setIfInBounds i true) n = cnt l n
  | 0, _ => rfl
  | n + 1, h => by
    simp only [cnt]
    rw [cnt_above n (by omega), getD_set_ne false (show i ≠ n by omega)]
theorem cnt_set {l : Array Bool} {i : Nat} (hl : i < l.size) (hn : ¬ l.getD i false = true) : ∀ n, i < n → cnt (l.setIfInBounds i true) n + 1 = cnt l n
  | 0, h => by omega
  | n + 1, h => by
    simp only [cnt]
    by_cases hi : i = n
    · subst hi
      rw [cnt_above i (Nat.le_refl _), if_pos (getD_set_self hl), if_neg hn]
    · rw [getD_set_ne false hi]
      have := cnt_set hl hn n (by omega)
      omega
theorem cnt_all : ∀ (m n : Nat), n ≤ m → cnt (Array.replicate m false) n = n
  | _, 0, _ => rfl
  | m, n + 1, h => by
    simp only [cnt]
    rw [cnt_all m n (by omega), if_neg (by simp [show n < m by omega])]
structure Chk (ops : Array Oper) (D : List (List Nat)) : Prop where
  dist : Dist ops
  low : ∀ i o, ops[i]? = some o → ∀ e ∈ o.after, Region.binds .any e = true → e.on < i
  dep : ∀ i j, i < ops.size → j ∈ D.getD i [] → j < i ∧ ∃ o, ops[i]? = some o ∧ ∃ e ∈ o.after, Region.binds .any e = true ∧ (e.on = j ∨ (e.on < ops.size ∧ j ∈ D.getD e.on []))
  look : ∀ i j o d, ops[i]? = some o → dstOf ops j = some d → d ∈ o.looksAt ops → i ≠ j → j ∈ D.getD i [] ∨ i ∈ D.getD j []
  sel : ∀ (j : Nat) (o : Oper) (cs : Array SelectCase) (b : Bool), ops[j]? = some o → o.op ≠ .select cs b
theorem chk_of {D : List (List Nat)} (hchk : okAny ops D = true) : Chk ops D := by
  simp only [okAny, Bool.and_eq_true, beq_iff_eq, List.all_eq_true, List.mem_range, decide_eq_true_eq, Bool.or_eq_true] at hchk
  obtain ⟨⟨hDl, hns⟩, hall⟩ := hchk
  refine ⟨fun i j t hi hj => ?_, fun i o hi e he hb => ?_, fun i j hi hj => ?_, fun i j o d hi hj hd hne => ?_, Region.noSelect_spec hns⟩
  · rcases (hall i (dst_lt hi)).2 j (dst_lt hj) with h | h
    · exact h
    · rw [hj] at h
      simp only [Bool.and_eq_true, bne_iff_ne, ne_eq] at h
      exact absurd hi h.1
  · have hil : i < ops.size := (Array.getElem?_eq_some_iff.1 hi).1
    have h := (hall i hil).1.1
    rw [hi] at h
    have h2 := Array.all_eq_true_iff_forall_mem.1 h e he
    rw [hb] at h2
    simpa using h2
  · have h := (hall i hi).1.2 j hj
    refine ⟨h.1, ?_⟩
    have h2 := h.2
    rw [Array.getElem?_eq_getElem hi] at h2
    obtain ⟨e, he, hb⟩ := Array.any_eq_true'.1 h2
    simp only [Bool.and_eq_true, Bool.or_eq_true, beq_iff_eq, decide_eq_true_eq, List.contains_iff_mem] at hb
    exact ⟨_, Array.getElem?_eq_getElem hi, e, he, hb.1, hb.2⟩
  · have hil : i < ops.size := (Array.getElem?_eq_some_iff.1 hi).1
    rcases (hall i hil).2 j (dst_lt hj) with h | h
    · exact absurd h hne
    · rw [hj, hi] at h
      simp only [Bool.and_eq_true, Bool.or_eq_true, Bool.not_eq_true', List.contains_iff_mem] at h
      rcases h.2 with (h2 | h2) | h2
      · have : (o.looksAt ops).contains d = true := by simpa using hd
        rw [this] at h2; cases h2
      · exact .inl h2
      · exact .inr h2
theorem act_ext {a b : Act} (h1 : a.tmps.size = b.tmps.size) (h2 : ∀ t : Nat, a.tmps[t]? = b.tmps[t]?) (h3 : a.defers = b.defers) : a = b := by
  cases a; cases b
  simp only at h1 h2 h3
  congr
  exact Array.ext h1 (fun i hi hj => by have := h2 i; rw [Array.getElem?_eq_getElem hi, Array.getElem?_eq_getElem hj] at this; exact Option.some.inj this)
/-- The value that the t-th place of the frame has had from an operation. -/
def srcOf : List (Option Tmp) → Nat → Nat → Option Nat
  | [], _, _ => none
  | some d :: r, k, t => cond (Nat.beq d t) (some k) (srcOf r (k + 1) t)
  | none :: r, k, t => srcOf r (k + 1) t
def rho (dsts : List (Option Tmp)) (vs : Nat → Value) (a0 : Act) : Operand → Value
  | .tmp t => match srcOf dsts 0 t with
    | some j => vs j
    | none => a0.tmps.getD t undef
  | x => a0.eval x
/-- The operation's guard. -/
def Wants (o : Oper) (vs : Nat → Value) : Bool :=
  match o.guard with
  | none => true
  | some (g, want) => (match vs g with | .bool b => some b | _ => none) == some want
def Ob (P : Program) (dsts : List (Option Tmp)) (o : Oper) (vs : Nat → Value) (a0 : Act) (w : World) (R : Value → World → Prop) : Prop :=
  if Wants o vs = true then Told P R ((execOp (rho dsts vs a0) o).run P w) else R undef w
theorem srcOf_some {dsts : List (Option Tmp)} : ∀ {k t j : Nat}, srcOf dsts k t = some j → k ≤ j ∧ dsts[j - k]? = some (some t) := by
  induction dsts with
  | nil => intro k t j h; cases h
  | cons d r ih =>
    intro k t j h
    have hstep : srcOf r (k + 1) t = some j → k ≤ j ∧ (d :: r)[j - k]? = some (some t) := fun h => by
      obtain ⟨h1, h2⟩ := ih h
      refine ⟨by omega, ?_⟩
      rw [show j - k = (j - (k + 1)) + 1 by omega, List.getElem?_cons_succ]
      exact h2
    cases d with
    | none => exact hstep h
    | some d =>
      simp only [srcOf] at h
      cases hb : Nat.beq d t with
      | true =>
        rw [hb] at h
        simp only [cond_true, Option.some.injEq] at h
        subst h
        have : d = t := Nat.eq_of_beq_eq_true hb
        subst this
        exact ⟨Nat.le_refl _, by simp⟩
      | false =>
        rw [hb] at h
        exact hstep h
theorem srcOf_none {dsts : List (Option Tmp)} : ∀ {k t : Nat}, srcOf dsts k t = none → ∀ j : Nat, dsts[j]? ≠ some (some t) := by
  induction dsts with
  | nil => intro k t _ j; simp
  | cons d r ih =>
    intro k t h j
    cases d with
    | none =>
      cases j with
      | zero => simp
      | succ j => rw [List.getElem?_cons_succ]; exact ih (k := k + 1) h j
    | some d =>
      simp only [srcOf] at h
      cases hb : Nat.beq d t with
      | true => rw [hb] at h; cases h
      | false =>
        rw [hb] at h
        cases j with
        | zero =>
          simp only [List.getElem?_cons_zero, ne_eq, Option.some.injEq]
          rintro rfl
          rw [Nat.beq_refl] at hb
          cases hb
        | succ j => rw [List.getElem?_cons_succ]; exact ih (k := k + 1) h j
theorem dsts_at {dsts : List (Option Tmp)} (hd : ops.toList.map (·.dst) = dsts) (i j : Nat) (t : Nat) : (dsts.take i)[j]? = some (some t) ↔ j < i ∧ dstOf ops j = some t := by
  subst hd
  rw [List.getElem?_take]
  by_cases h : j < i
  · rw [if_pos h]
    unfold dstOf
    cases ho : ops[j]? with
    | none => simp [ho]
    | some o => simp [ho, h]
  · simp [h]
/-- In the midst of an order, an operation that may come up: its obligation in the text's order serves. -/
theorem mid_ob {D : List (List Nat)} {L : List Nat} {Inv J : World → Prop} {F : Nat → Value → World → Prop} {fx : Nat → Bool} {a0 a : Act} {vs : Nat → Value} {l : Array Bool} {w : World} {dsts : List (Option Tmp)} {R : Value → World → Prop} (hC : Chk ops D) (hd : ops.toList.map (·.dst) = dsts)
    (hsz : ∀ j t, dstOf ops j = some t → t < a0.tmps.size) (hM : Mid ops D L Inv J F fx a0 vs l a w) {i : Nat} {o : Oper} (ho : ops[i]? = some o) (hun : ¬ l.getD i false = true) (hds : ∀ j ∈ D.getD i [], l.getD j false = true)
    (hg : ∀ g want, o.guard = some (g, want) → g ∈ D.getD i [] ∧ (dstOf ops g).isSome = true)
    (h : Ob P (dsts.take i) o vs a0 w R) : Yl P ops o a w R := by
  have hil : i < ops.size := (Array.getElem?_eq_some_iff.1 ho).1
  have e1 : execOp a.eval o = execOp (rho (dsts.take i) vs a0) o := execOp_congr o (fun cs b => hC.sel i o cs b ho) fun x hx => by
    cases x with
    | tmp t =>
      have ht : t ∈ o.looksAt ops := List.mem_append_left _ (List.mem_filterMap.2 ⟨.tmp t, by simpa using hx, rfl⟩)
      show a.tmps.getD t undef = (match srcOf (dsts.take i) 0 t with | some j => vs j | none => a0.tmps.getD t undef)
      cases hs : srcOf (dsts.take i) 0 t with
      | some j =>
        obtain ⟨_, h2⟩ := srcOf_some hs
        rw [Nat.sub_zero] at h2
        obtain ⟨hji, hj⟩ := (dsts_at hd i j t).1 h2
        have hjl : l.getD j false = true := by
          rcases hC.look i j o t ho hj ht (by omega) with h | h
          · exact hds j h
          · have := (hC.dep j i (dst_lt hj) h).1
            omega
        have := hM.mem j t hjl hj (hsz j t hj)
        simp [this]
      | none =>
        have hout : ∀ j, l.getD j false = true → dstOf ops j ≠ some t := fun j hjl hj => by
          by_cases hij : i = j
          · subst hij; exact hun hjl
          · rcases hC.look i j o t ho hj ht hij with h | h
            · exact srcOf_none hs j ((dsts_at hd i j t).2 ⟨(hC.dep i j hil h).1, hj⟩)
            · exact hun (hM.shut j hjl i h)
        have := hM.out t hout
        simp [this]
    | _ => rfl
  have e2 : Region.wanted o (yielded ops a.tmps) = Wants o vs := by
    unfold Region.wanted Wants
    cases hgd : o.guard with
    | none => rfl
    | some gw =>
      obtain ⟨g, want⟩ := gw
      obtain ⟨h1, h2⟩ := hg g want hgd
      obtain ⟨d, hdd⟩ := Option.isSome_iff_exists.1 h2
      have hm := hM.mem g d (hds g h1) hdd (hsz g d hdd)
      have : yielded ops a.tmps g = (match vs g with | .bool b => some b | _ => none) := by
        unfold yielded
        have hdd' : (ops[g]?).bind (·.dst) = some d := hdd
        rw [hdd']
        simp only [Option.bind_some, hm]
        cases vs g <;> rfl
      simp only [this]
  unfold Ob at h
  unfold Yl
  rw [e1, e2]
  exact h
theorem mid_next {D : List (List Nat)} {L : List Nat} {Inv J : World → Prop} {F : Nat → Value → World → Prop} {fx : Nat → Bool} {a0 a : Act} {vs : Nat → Value} {l : Array Bool} {w : World} (hC : Chk ops D)
    (hchain : ∀ i ∈ L, ∀ k ∈ L, i < k → i ∈ D.getD k []) (hst : ∀ i v w w', F i v w → Below w.heap.size w w' → F i v w') (hfx : ∀ i v w w', i ∉ L → fx i = true → F i v w → F i v w') (hJs : ∀ w w', J w → Below w.heap.size w w' → J w')
    (hM : Mid ops D L Inv J F fx a0 vs l a w) {i : Nat} {o : Oper} (ho : ops[i]? = some o) (hun : ¬ l.getD i false = true) (hds : ∀ j ∈ D.getD i [], l.getD j false = true) {v : Value} {w' : World} (hI : Inv w') (hS : i ∉ L → Below w.heap.size w w') (hF : F i v w') :
    Mid ops D L Inv J F fx a0 (upd vs i v) (l.setIfInBounds i true) (a.put o.dst v) w' := by
  have hil : i < ops.size := (Array.getElem?_eq_some_iff.1 ho).1
  have his : i < l.size := by rw [hM.size]; exact hil
  have hdo : dstOf ops i = o.dst := by simp [dstOf, ho]
  have hset : ∀ k, (l.setIfInBounds i true).getD k false = true → k = i ∨ l.getD k false = true := fun k hk => by
    by_cases hki : k = i
    · exact .inl hki
    · rw [getD_set_ne false (Ne.symm hki)] at hk
      exact .inr hk
  refine ⟨by rw [Array.size_setIfInBounds]; exact hM.size, by rw [put_size]; exact hM.tsz, by rw [put_defers]; exact hM.dfr, fun t ht => ?_, fun k t hk hkd htl => ?_, fun k hk j hj => ?_, hI, fun hno => ?_, fun k hk hmax => ?_⟩
  · rw [put_get, if_neg (fun hh => ht i (getD_set_self his) (by rw [hdo]; exact hh.1))]
    exact hM.out t (fun k hk => ht k (getD_set_true hk))
  · by_cases hki : k = i
    · subst hki
      rw [put_get, if_pos ⟨by rw [← hdo]; exact hkd, by rw [hM.tsz]; exact htl⟩, upd_same]
    · rw [put_get, if_neg (fun hh => hki (hC.dist k i t hkd (by rw [hdo]; exact hh.1))), upd_other _ _ hki]
      exact hM.mem k t ((hset k hk).resolve_left hki) hkd htl
  · rcases hset k hk with rfl | h
    · exact getD_set_true (hds j hj)
    · exact getD_set_true (hM.shut k h j hj)
  · by_cases hiL : i ∈ L
    · have := hno i hiL
      rw [getD_set_self his] at this
      cases this
    · refine hJs w w' (hM.head fun k hk => ?_) (hS hiL)
      have := hno k hk
      rwa [getD_set_ne false (show i ≠ k from fun h => hiL (by rw [h]; exact hk))] at this
  · intro hcond
    by_cases hki : k = i
    · subst hki
      rw [upd_same]
      exact hF
    · rw [upd_other _ _ hki]
      have hkl := (hset k hk).resolve_left hki
      by_cases hiL : i ∈ L
      · have hkL : k ∉ L := fun hkL => by
          have h1 := hmax hkL i hiL (getD_set_self his)
          exact hun (hM.shut k hkl i (hchain i hiL k hkL (by omega)))
        have hfk : fx k = true := by
          rcases hcond with h | h | h
          · exact h
          · exact absurd h hkL
          · exact absurd (getD_set_self his) (h i hiL)
        exact hfx k _ w w' hkL hfk (hM.facts k hkl (fun h => absurd h hkL) (.inl hfk))
      · exact hst k _ w w' (hM.facts k hkl (fun h k' hk' hl' => hmax h k' hk' (getD_set_true hl')) (hcond.imp id (Or.imp id fun h q hq hl => h q hq (getD_set_true hl)))) (hS hiL)
theorem mid_end {D : List (List Nat)} {L : List Nat} {Inv J : World → Prop} {F : Nat → Value → World → Prop} {fx : Nat → Bool} {a0 a : Act} {vs : Nat → Value} {l : Array Bool} {w : World} (hC : Chk ops D)
    (hM : Mid ops D L Inv J F fx a0 vs l a w) (hfull : ∀ i, i < ops.size → l.getD i false = true) : a = putN ops vs ops.size a0 := by
  refine act_ext (by rw [hM.tsz, putN_size]) (fun t => ?_) (by rw [hM.dfr, putN_defers])
  by_cases hx : ∃ i, dstOf ops i = some t
  · obtain ⟨i, hi⟩ := hx
    by_cases ht : t < a0.tmps.size
    · rw [hM.mem i t (hfull i (dst_lt hi)) hi ht, putN_in hC.dist vs a0 t i hi ht _ (dst_lt hi)]
    · rw [Array.getElem?_eq_none (by rw [hM.tsz]; omega), Array.getElem?_eq_none (by rw [putN_size]; omega)]
  · rw [hM.out t (fun i _ hi => hx ⟨i, hi⟩), putN_out vs a0 t _ (fun j _ hj => hx ⟨j, hj⟩)]
/-- All that is asked of a region's operations, in the text's order, at any world of Inv. -/
structure All (P : Program) (ops : Array Oper) (Q : Exit → Act → World → Prop) (D : List (List Nat)) (L : List Nat) (Inv J : World → Prop) (F : Nat → Value → World → Prop) (fx : Nat → Bool) (a0 : Act) (dsts : List (Option Tmp)) : Prop where
  chk : Chk ops D
  dst : ops.toList.map (·.dst) = dsts
  room : ∀ j t, dstOf ops j = some t → t < a0.tmps.size
  grd : ∀ i o g want, ops[i]? = some o → o.guard = some (g, want) → g ∈ D.getD i [] ∧ (dstOf ops g).isSome = true
  chain : ∀ i ∈ L, ∀ k ∈ L, i < k → i ∈ D.getD k []
  stay : ∀ i v w w', F i v w → Below w.heap.size w w' → F i v w'
  fix : ∀ i v w w', i ∉ L → fx i = true → F i v w → F i v w'
  jst : ∀ w w', J w → Below w.heap.size w w' → J w'
  step : ∀ i o, ops[i]? = some o → ∀ (vs : Nat → Value) (w : World), Inv w → (i ∈ L → (∀ k ∈ L, i ≤ k) → J w) → (earlyB D L i = true → J w) → (∀ j ∈ (D.getD i []).filter (fun j => useE D L (fx j) j i), F j (vs j) w) → Ob P (dsts.take i) o vs a0 w (fun v w' => Inv w' ∧ (i ∉ L → Below w.heap.size w w') ∧ F i v w')
  last : ∀ (vs : Nat → Value) (w : World), Inv w → (∀ i, i < ops.size → useE D L (fx i) i ops.size = true → F i (vs i) w) → Q .normal (putN ops vs ops.size a0) w
theorem mid_go {D : List (List Nat)} {L : List Nat} {Inv J : World → Prop} {F : Nat → Value → World → Prop} {fx : Nat → Bool} {a0 a : Act} {dsts : List (Option Tmp)} {vs : Nat → Value} {l : Array Bool} {w : World} (H : All P ops Q D L Inv J F fx a0 dsts)
    (hM : Mid ops D L Inv J F fx a0 vs l a w) {i : Nat} {o : Oper} (ho : ops[i]? = some o) (hun : ¬ l.getD i false = true) (hds : ∀ j ∈ D.getD i [], l.getD j false = true) {K : Act → World → Prop}
    (hK : ∀ vs' a' w', Mid ops D L Inv J F fx a0 vs' (l.setIfInBounds i true) a' w' → K a' w') : wpOp P ops Q i K a w := by
  have hearly : earlyB D L i = true → ∀ q ∈ L, ¬ l.getD q false = true := fun he q hq hql => by
    rcases earlyB_spec he q hq with h | h
    · subst h; exact hun hql
    · exact hun (hM.shut q hql i h)
  exact (mid_ob H.chk H.dst H.room hM ho hun hds (fun g want hg => H.grd i o g want ho hg) (H.step i o ho vs w hM.inv (fun hiL hmin => hM.head fun k hk => by
    rw [← Bool.not_eq_true]
    intro hkl
    by_cases hik : k = i
    · exact hun (hik ▸ hkl)
    · exact hun (hM.shut k hkl i (H.chain i hiL k hk (by have := hmin k hk; omega)))) (fun he => hM.head fun k hk => by
    rw [← Bool.not_eq_true]
    exact hearly he k hk) (fun j hj => by
    obtain ⟨hj1, hj2⟩ := List.mem_filter.1 hj
    obtain ⟨hj2, hj3⟩ := useE_spec hj2
    refine hM.facts j (hds j hj1) (fun hjL k hkL hkl => ?_) (hj3.elim (fun h => .inr (.inl h)) fun h => h.elim (fun h => .inr (.inr (hearly h))) .inl)
    rcases useB_spec hj2 hjL k hkL with h | ⟨hiL, h⟩
    · exact h
    · exfalso
      rcases Nat.lt_or_ge i k with h2 | h2
      · exact hun (hM.shut k hkl i (H.chain i hiL k hkL h2))
      · obtain rfl : i = k := by omega
        exact hun hkl))).wpOp ho
    fun v w' ⟨hI, hS, hF⟩ => hK _ _ _ (mid_next H.chk H.chain H.stay H.fix H.jst hM ho hun hds hI hS hF)
/-- **Whatever order is drawn**: each operation's obligation is told once. -/
theorem any_go {D : List (List Nat)} {L : List Nat} {Inv J : World → Prop} {F : Nat → Value → World → Prop} {fx : Nat → Bool} {a0 : Act} {dsts : List (Option Tmp)} (H : All P ops Q D L Inv J F fx a0 dsts) :
    ∀ (fuel : Nat) (l : Array Bool) (vs : Nat → Value) (a : Act) (w : World), cnt l ops.size ≤ fuel → Mid ops D L Inv J F fx a0 vs l a w → wpAny P .any ops Q fuel l a w := by
  have hfin : ∀ (l : Array Bool) (vs : Nat → Value) (a : Act) (w : World), Mid ops D L Inv J F fx a0 vs l a w → (∀ i, i < ops.size → l.getD i false = true) → Q .normal a w := by
    intro l vs a w hM hfull
    rw [mid_end H.chk hM hfull]
    exact H.last vs w hM.inv (fun i hi hu => hM.facts i (hfull i hi) (fun hiL k hkL hkl => by
      rcases useB_spec (useE_spec hu).1 hiL k hkL with h | ⟨_, h⟩
      · exact h
      · have := getD_false_lt hkl
        rw [hM.size] at this
        omega) ((useE_spec hu).2.elim (fun h => .inr (.inl h)) fun h => h.elim (fun h => .inr (.inr fun q hq hql => by
          have hqs := getD_false_lt hql
          rw [hM.size] at hqs
          rcases earlyB_spec h q hq with h2 | h2
          · omega
          · have := (H.chk.dep q _ hqs h2).1
            omega)) .inl))
  have hdone : ∀ (l : Array Bool) (vs : Nat → Value) (a : Act) (w : World), Mid ops D L Inv J F fx a0 vs l a w → Region.ready .any ops l = [] → Q .normal a w := by
    intro l vs a w hM hr
    refine hfin l vs a w hM fun i => ?_
    induction i using Nat.strongRecOn with
    | _ i ih =>
      intro hi
      refine Classical.byContradiction fun hn => ?_
      have : i ∈ Region.ready .any ops l := mem_ready.2 ⟨getD_true_of_lt (by rw [hM.size]; exact hi) hn, _, Array.getElem?_eq_getElem hi, fun e he hb => by
        have h1 := H.chk.low i _ (Array.getElem?_eq_getElem hi) e he hb
        exact ih e.on h1 (by omega)⟩
      rw [hr] at this
      cases this
  intro fuel
  induction fuel with
  | zero =>
    intro l vs a w hf hM
    have hfull := cnt_zero (l := l) ops.size (by omega)
    refine ⟨?_, hfin l vs a w hM hfull⟩
    rw [List.eq_nil_iff_forall_not_mem]
    intro j hj
    obtain ⟨h0, o, ho, _⟩ := mem_ready.1 hj
    have hjl : j < ops.size := (Array.getElem?_eq_some_iff.1 ho).1
    have := hfull j hjl
    have hjs : j < l.size := by rw [hM.size]; exact hjl
    simp [hjs] at h0 this
    rw [this] at h0
    cases h0
  | succ fuel ih =>
    intro l vs a w hf hM
    refine ⟨hdone l vs a w hM, fun i hi => ?_⟩
    obtain ⟨h0, o, ho, hall⟩ := mem_ready.1 hi
    have hil : i < ops.size := (Array.getElem?_eq_some_iff.1 ho).1
    have his : i < l.size := by rw [hM.size]; exact hil
    have hun : ¬ l.getD i false = true := by
      simp [his] at h0 ⊢
      exact h0
    have hds : ∀ j ∈ D.getD i [], l.getD j false = true := fun j hj => by
      obtain ⟨hlt, o', ho', e, he, hb, hor⟩ := H.chk.dep i j hil hj
      rw [ho] at ho'
      injection ho' with ho'
      subst ho'
      have h1 := hall e he hb
      rcases hor with rfl | ⟨_, h2⟩
      · exact h1
      · exact hM.shut _ h1 j h2
    refine mid_go H hM ho hun hds fun vs' a' w' hM' => ih _ vs' a' w' ?_ hM'
    have := cnt_set his hun ops.size hil
    omega
theorem mid_start {D : List (List Nat)} {L : List Nat} {Inv J : World → Prop} {F : Nat → Value → World → Prop} {fx : Nat → Bool} {a0 : Act} {w : World} (hI : Inv w) (hJ : J w) : Mid ops D L Inv J F fx a0 (fun _ => undef) (Array.replicate ops.size false) a0 w :=
  ⟨by simp, rfl, rfl, fun _ _ => rfl, fun i _ h => by rcases Nat.lt_or_ge i ops.size with h' | h' <;> simp [h'] at h, fun i h => by rcases Nat.lt_or_ge i ops.size with h' | h' <;> simp [h'] at h, hI, fun _ => hJ, fun i h => by rcases Nat.lt_or_ge i ops.size with h' | h' <;> simp [h'] at h⟩
/-- A region that draws its order. -/
theorem any_region {id : Nat} {a0 : Act} {w0 : World} {D : List (List Nat)} {L : List Nat} {Inv J : World → Prop} {F : Nat → Value → World → Prop} {fx : Nat → Bool} {dsts : List (Option Tmp)} (hm : P.follows .mixedOrders = true) (hI : Inv w0.drew) (hJ : J w0.drew)
    (H : All P ops Q D L Inv J F fx a0 dsts) : (Code.region id ops true).wp P Q a0 w0 :=
  wp_region_any hm (any_go H ops.size _ (fun _ => undef) a0 w0.drew (by rw [cnt_all _ _ (Nat.le_refl _)]; exact Nat.le_refl _) (mid_start hI hJ))
/-- A region in the text's order. -/
theorem seq_go {D : List (List Nat)} {L : List Nat} {Inv J : World → Prop} {F : Nat → Value → World → Prop} {fx : Nat → Bool} {a0 : Act} {dsts : List (Option Tmp)} (H : All P ops Q D L Inv J F fx a0 dsts) :
    ∀ (m k : Nat) (l : Array Bool) (vs : Nat → Value) (a : Act) (w : World), k + m = ops.size → (∀ j, l.getD j false = true ↔ j < k) → Mid ops D L Inv J F fx a0 vs l a w → wpOps P ops Q (List.range' k m) a w := by
  intro m
  induction m with
  | zero =>
    intro k l vs a w hkm hl hM
    have hfull : ∀ i, i < ops.size → l.getD i false = true := fun i hi => (hl i).2 (by omega)
    show Q .normal a w
    rw [mid_end H.chk hM hfull]
    exact H.last vs w hM.inv (fun i hi hu => hM.facts i (hfull i hi) (fun hiL k hkL hkl => by
      rcases useB_spec (useE_spec hu).1 hiL k hkL with h | ⟨_, h⟩
      · exact h
      · have := getD_false_lt hkl
        rw [hM.size] at this
        omega) ((useE_spec hu).2.elim (fun h => .inr (.inl h)) fun h => h.elim (fun h => .inr (.inr fun q hq hql => by
          have hqs := getD_false_lt hql
          rw [hM.size] at hqs
          rcases earlyB_spec h q hq with h2 | h2
          · omega
          · have := (H.chk.dep q _ hqs h2).1
            omega)) .inl))
  | succ m ih =>
    intro k l vs a w hkm hl hM
    rw [List.range'_succ, wpOps_cons]
    have hk : k < ops.size := by omega
    refine mid_go H hM (Array.getElem?_eq_getElem hk) (fun h => by have := (hl k).1 h; omega) (fun j hj => (hl j).2 (H.chk.dep k j hk hj).1) fun vs' a' w' hM' => ih (k + 1) _ vs' a' w' (by omega) (fun j => ?_) hM'
    by_cases hjk : j = k
    · subst hjk
      rw [getD_set_self (by rw [hM.size]; exact hk)]
      exact ⟨fun _ => by omega, fun _ => rfl⟩
    · rw [getD_set_ne false (Ne.symm hjk), hl j]
      omega
theorem seq_region {id : Nat} {a0 : Act} {w0 : World} {D : List (List Nat)} {L : List Nat} {Inv J : World → Prop} {F : Nat → Value → World → Prop} {fx : Nat → Bool} {dsts : List (Option Tmp)} (hI : Inv w0) (hJ : J w0)
    (H : All P ops Q D L Inv J F fx a0 dsts) : (Code.region id ops false).wp P Q a0 w0 :=
  wp_region (by rw [List.range_eq_range']; exact seq_go H ops.size 0 _ (fun _ => undef) a0 w0 (by omega) (fun j => by rcases Nat.lt_or_ge j ops.size with h' | h' <;> simp [h']) (mid_start hI hJ))
end
end Go.Proofs.Ytnkeijdpjcclcaa.Kit
