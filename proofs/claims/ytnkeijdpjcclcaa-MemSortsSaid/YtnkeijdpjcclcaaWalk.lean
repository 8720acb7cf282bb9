/- Regions walked operation by operation, whatever order they draw: the words. -/
import Derived.Test.YtnkeijdpjcclcaaAny
import Derived.Deep.MidRow
namespace Go.Proofs.Ytnkeijdpjcclcaa.Kit
set_option linter.unusedVariables false
set_option linter.unusedSimpArgs false
open Go.RowKit Go.Proofs.YtnkeijdpjcclcaaW.PrintWords Go.Proofs.YtnkeijdpjcclcaaW.PrintLast Go.Proofs.YtnkeijdpjcclcaaW.PrintMore

/-- A fact on a value and a world that lives on where nothing that lay is turned; the value itself, where it is known; whether the world is nothing to it. -/
structure FW where
  p : Value → World → Prop
  st : ∀ v w w', p v w → Below w.heap.size w w' → p v w'
  det : Option Value
  ok : ∀ c, det = some c → ∀ v w, p v w → v = c
  fix : Bool
  fx : fix = true → ∀ v w w', p v w → p v w'
def FW.val (c : Value) : FW := ⟨fun v _ => v = c, fun _ _ _ h _ => h, some c, (fun _ h _ _ hv => by cases h; exact hv), true, fun _ _ _ _ h => h⟩
def FW.any : FW := ⟨fun _ _ => True, fun _ _ _ h _ => h, none, (fun _ h => by cases h), true, fun _ _ _ _ h => h⟩
def FW.of (p : Value → World → Prop) (st : ∀ v w w', p v w → Below w.heap.size w w' → p v w') : FW := ⟨p, st, none, (fun _ h => by cases h), false, (fun h => by cases h)⟩
/-- A row of whole numbers that is the call's own, or full. -/
def FW.gr (k : IntKind) (e : TypeId) (B : Nat) (xs : List Int) : FW := .of (fun v w => Gr k e w B v xs) fun _ _ _ h hb => gr_below h hb
/-- A row of whole numbers that is read. -/
def IsRow (k : IntKind) (xs : List Int) (v : Value) (w : World) : Prop := ∃ A n c, v = .slice A n c ∧ n ≤ c ∧ Hid (xs.length = n) ∧ n ≤ 9223372036854775807 ∧ Rds k w A n xs
theorem IsRow.below {k : IntKind} {xs : List Int} {v : Value} {w w' : World} (h : IsRow k xs v w) (hb : Below w.heap.size w w') : IsRow k xs v w' := by
  obtain ⟨A, n, c, e, h1, h2, h3, h4⟩ := h
  exact ⟨A, n, c, e, h1, h2, h3, rds_below h4 hb⟩
theorem isRow_gr {k : IntKind} {e : TypeId} {w : World} {B : Nat} {v : Value} {xs : List Int} (h : Gr k e w B v xs) : IsRow k xs v w := gr_open h
def FW.row (k : IntKind) (xs : List Int) : FW := .of (IsRow k xs) fun _ _ _ h hb => h.below hb
/-- A pointer to a block that lies whole. -/
def IsBox (B : Nat) (cs : List Value) (T : TypeId) (v : Value) (w : World) : Prop := ∃ g, v = .pointer (some ⟨g, 0, none⟩) ∧ B ≤ g ∧ g < w.heap.size ∧ w.heap[g]? = some (.cells cs.toArray T (0, 0))
theorem IsBox.below {B : Nat} {cs : List Value} {T : TypeId} {v : Value} {w w' : World} (h : IsBox B cs T v w) (hb : Below w.heap.size w w') : IsBox B cs T v w' := by
  obtain ⟨g, e, h1, h2, h3⟩ := h
  exact ⟨g, e, h1, Nat.lt_of_lt_of_le h2 hb.size, by rw [hb.block g h2]; exact h3⟩
def FW.box (B : Nat) (cs : List Value) (T : TypeId) : FW := .of (IsBox B cs T) fun _ _ _ h hb => h.below hb
theorem fv {c v : Value} {w : World} (h : (FW.val c).p v w) : v = c := h

/-- Values by places. -/
def lkT : List (Nat × Value) → Nat → Value
  | [], _ => undef
  | (d, v) :: r, t => if d = t then v else lkT r t
theorem lkT_cons {d t : Nat} {v : Value} {r : List (Nat × Value)} : lkT ((d, v) :: r) t = if d = t then v else lkT r t := rfl
def lk (l : List (Nat × Value)) : Operand → Value
  | .tmp t => lkT l t
  | .const v => v
  | .global g => .pointer (some ⟨g, 0, none⟩)
  | .func f => .func (.func f) #[] #[]
theorem lk_tmp {l : List (Nat × Value)} {t : Nat} : lk l (.tmp t) = lkT l t := rfl
theorem lk_const {l : List (Nat × Value)} {v : Value} : lk l (.const v) = v := rfl
theorem lk_func {l : List (Nat × Value)} {f : Nat} : lk l (.func f) = .func (.func f) #[] #[] := rfl
theorem lk_global {l : List (Nat × Value)} {g : Nat} : lk l (.global g) = .pointer (some ⟨g, 0, none⟩) := rfl
@[reducible] def Vs (ρ : Operand → Value) : List (Nat × Value) → Prop
  | [] => True
  | (d, v) :: r => ρ (.tmp d) = v ∧ Vs ρ r
def covers (o : Oper) (l : List Nat) : Bool :=
  (match o.op with | .select .. => false | _ => true) && o.op.operands.toList.all fun x => match x with | .tmp t => l.any (fun d => Nat.beq d t) | _ => true
section
variable {P : Program} {ops : Array Oper} {Q : Exit → Act → World → Prop}
theorem lk_of {ρ : Operand → Value} {a : Act} {l : List (Nat × Value)} {o : Oper} (hρ : ∀ x, (∀ t, x ≠ .tmp t) → ρ x = a.eval x) (hv : Vs ρ l) (hc : covers o (l.map (·.1)) = true) : execOp ρ o = execOp (lk l) o := by
  simp only [covers, Bool.and_eq_true, List.all_eq_true] at hc
  refine execOp_congr o (fun cs b h => by have := hc.1; simp [h] at this) fun x hx => ?_
  cases x with
  | tmp t =>
    have h := hc.2 (.tmp t) (by simpa using hx)
    simp only [List.any_eq_true, List.mem_map] at h
    obtain ⟨d, ⟨p, hp, rfl⟩, hd⟩ := h
    have hd := Nat.eq_of_beq_eq_true hd
    clear hc hx
    show ρ (.tmp t) = lkT l t
    induction l with
    | nil => cases hp
    | cons q r ih =>
      obtain ⟨d, v⟩ := q
      rw [lkT_cons]
      by_cases hb : d = t
      · subst hb
        rw [if_pos rfl]
        exact hv.1
      · rw [if_neg hb]
        rcases List.mem_cons.1 hp with rfl | hp
        · exact absurd hd hb
        · exact ih hv.2 hp
  | const v => rw [hρ _ (by simp)]; rfl
  | global g => rw [hρ _ (by simp)]; rfl
  | func f => rw [hρ _ (by simp)]; rfl
/-- The n-th of a list, by steps. -/
def nth {α : Type} : List α → Nat → Option α
  | [], _ => none
  | x :: _, 0 => some x
  | _ :: r, n + 1 => nth r n
theorem nth_eq {α : Type} : ∀ (l : List α) (n : Nat), nth l n = l[n]?
  | [], n => by simp [nth]
  | x :: r, 0 => rfl
  | x :: r, n + 1 => by simp only [nth, List.getElem?_cons_succ]; exact nth_eq r n
theorem rho_in {dsts : List (Option Tmp)} {vs : Nat → Value} {a0 : Act} {t j : Nat} {c : Value} (h : srcOf dsts 0 t = some j) (hv : vs j = c) : rho dsts vs a0 (.tmp t) = c := by
  simp only [rho, h]
  exact hv
theorem rho_out {dsts : List (Option Tmp)} {vs : Nat → Value} {a0 : Act} {t : Nat} {c : Value} (h : srcOf dsts 0 t = none) (hv : nth a0.tmps.toList t = some c) : rho dsts vs a0 (.tmp t) = c := by
  simp only [rho, h]
  rw [nth_eq] at hv
  have : a0.tmps[t]? = some c := by simpa using hv
  simp [this]
theorem rho_else {dsts : List (Option Tmp)} {vs : Nat → Value} {a0 : Act} (x : Operand) (h : ∀ t, x ≠ .tmp t) : rho dsts vs a0 x = a0.eval x := by
  cases x with
  | tmp t => exact absurd rfl (h t)
  | _ => rfl
theorem wants_none {o : Oper} {vs : Nat → Value} (h : o.guard = none) : Wants o vs = true := by simp [Wants, h]
theorem wants_g {o : Oper} {vs : Nat → Value} {g : Nat} {b : Bool} (h : o.guard = some (g, b)) (hv : vs g = .bool b) : Wants o vs = true := by simp [Wants, h, hv]
theorem wants_not {o : Oper} {vs : Nat → Value} {g : Nat} {b : Bool} (h : o.guard = some (g, b)) (hv : vs g = .bool (!b)) : Wants o vs = false := by cases b <;> simp [Wants, h, hv]
theorem ob_run {dsts : List (Option Tmp)} {vs : Nat → Value} {a0 : Act} {o : Oper} {w w' : World} {R : Value → World → Prop} {v : Value} (l : List (Nat × Value)) (hw : Wants o vs = true) (hv : Vs (rho dsts vs a0) l) (hc : covers o (l.map (·.1)) = true)
    (hrun : (execOp (lk l) o).run P w = .ok (.value v) w') (hR : R v w') : Ob P dsts o vs a0 w R := by
  unfold Ob
  rw [if_pos hw, lk_of (fun x hx => rho_else x hx) hv hc, hrun]
  exact hR
theorem ob_not {dsts : List (Option Tmp)} {vs : Nat → Value} {a0 : Act} {o : Oper} {w : World} {R : Value → World → Prop} (hw : Wants o vs = false) (hR : R undef w) : Ob P dsts o vs a0 w R := by
  unfold Ob
  rw [if_neg (by rw [hw]; simp)]
  exact hR
theorem ob_call {dsts : List (Option Tmp)} {vs : Nat → Value} {a0 : Act} {o : Oper} {w : World} {R : Value → World → Prop} {f : FuncId} {fn : Func} {ags : Array Operand} {ts : Array TypeId} (l : List (Nat × Value)) (args : Array Value) (hw : Wants o vs = true) (hv : Vs (rho dsts vs a0) l) (hc : covers o (l.map (·.1)) = true)
    (hop : o.op = .call { callee := .value (.func f), args := ags, argTypes := ts }) (hf : P.funcs[f]? = some fn) (hname : (fn.name == "runtime.NumGoroutine") = false) (hb : fn.body.isSome = true) (hargs : ags.map (lk l) = args)
    (h : Calls P f args w fun e w' => ∃ v, e = .returned v ∧ R v w') : Ob P dsts o vs a0 w R := by
  unfold Ob
  have he := enters_ hf hname hb args w
  have hrun : (execOp (lk l) o).run P w = .ok (.enter f args) w := by
    unfold execOp
    simp [hop, resolve, Deferred.ofValue, invoke, lk, hargs, he]
  rw [if_pos hw, lk_of (fun x hx => rho_else x hx) hv hc, hrun]
  exact h
theorem margs {ags : Array Operand} {l : List (Nat × Value)} {args : Array Value} (h : ags.toList.map (lk l) = args.toList) : ags.map (lk l) = args := by
  rw [← Array.toList_inj, Array.toList_map]
  exact h
/-- What is known of the operations so far (the last first), of their values and the world. -/
def Known (Fs : List FW) (k : Nat) (js : List Nat) (vs : Nat → Value) (w : World) : Prop := ∀ j ∈ js, (Fs.getD (k - 1 - j) FW.any).p (vs j) w
/-- Whose facts serve operation k. -/
def deps (D : List (List Nat)) (L : List Nat) (Fs : List FW) (k : Nat) : List Nat := (D.getD k []).filter fun j => useE D L (Fs.getD (k - 1 - j) FW.any).fix j k
theorem memE {D : List (List Nat)} {L : List Nat} {Fs : List FW} {k j : Nat} (h : (deps D L Fs k).elem j = true) : j ∈ deps D L Fs k := List.mem_of_elem_eq_true h
/-- A region's walk: for each operation a fact that it leaves, whatever world of I it meets; then the rest. L: the operations that write in turn. -/
def Walk (P : Program) (D : List (List Nat)) (L : List Nat) (dsts : List (Option Tmp)) (I J : World → Prop) (a0 : Act) (K : (Nat → Value) → World → Prop) : List Oper → Nat → List FW → Prop
  | [], k, Fs => ∀ vs w, I w → (∀ j, j < k → useE D L (Fs.getD (k - 1 - j) FW.any).fix j k = true → (Fs.getD (k - 1 - j) FW.any).p (vs j) w) → K vs w
  | o :: r, k, Fs => ∃ F : FW, (∀ vs w, I w → (k ∈ L → (∀ q ∈ L, k ≤ q) → J w) → (earlyB D L k = true → J w) → Known Fs k (deps D L Fs k) vs w → Ob P (dsts.take k) o vs a0 w (fun v w' => (k ∈ L → I w') ∧ (k ∉ L → Below w.heap.size w w') ∧ F.p v w')) ∧ Walk P D L dsts I J a0 K r (k + 1) (F :: Fs)
def putL : List (Option Tmp) → Nat → (Nat → Value) → Act → Act
  | [], _, _, a => a
  | d :: r, k, vs, a => putL r (k + 1) vs (a.put d (vs k))
theorem putL_append (vs : Nat → Value) : ∀ (l : List (Option Tmp)) (d : Option Tmp) (k : Nat) (a : Act), putL (l ++ [d]) k vs a = (putL l k vs a).put d (vs (k + l.length))
  | [], d, k, a => rfl
  | x :: l, d, k, a => by
    simp only [List.cons_append, putL]
    rw [putL_append vs l d (k + 1), List.length_cons, show k + 1 + l.length = k + (l.length + 1) by omega]
theorem putN_putL (vs : Nat → Value) (a : Act) (dsts : List (Option Tmp)) (hd : ops.toList.map (·.dst) = dsts) : ∀ n, n ≤ ops.size → putN ops vs n a = putL (dsts.take n) 0 vs a
  | 0, _ => rfl
  | n + 1, h => by
    have hlt : n < dsts.length := by subst hd; simp; omega
    have hn : (ops[n]?).bind (·.dst) = dsts[n] := by subst hd; simp [Array.getElem?_eq_getElem (show n < ops.size by omega)]
    rw [List.take_succ_eq_append_getElem hlt, putL_append, ← putN_putL vs a dsts hd n (by omega)]
    simp only [putN, hn, List.length_take]
    rw [Nat.min_eq_left (Nat.le_of_lt hlt), Nat.zero_add]
/-- The frame behind the region: known values written out. -/
def finL : List (Option Tmp) → List FW → Nat → (Nat → Value) → Act → Act
  | d :: r, F :: Fs, k, vs, a => finL r Fs (k + 1) vs (a.put d (match F.det with | some c => c | none => vs k))
  | _, _, _, _, a => a
theorem finL_eq (vs : Nat → Value) (w : World) : ∀ (dsts : List (Option Tmp)) (Fs : List FW) (k : Nat) (a : Act), dsts.length = Fs.length → (∀ j, j < Fs.length → (Fs.getD j FW.any).det = none ∨ (Fs.getD j FW.any).p (vs (k + j)) w) → putL dsts k vs a = finL dsts Fs k vs a
  | [], _, _, _, _, _ => rfl
  | d :: r, [], _, _, h, _ => by simp at h
  | d :: r, F :: Fs, k, a, h, hp => by
    simp only [putL, finL]
    have h0 : F.det = none ∨ F.p (vs k) w := by have := hp 0 (by simp); simpa using this
    have hv : (match F.det with | some c => c | none => vs k) = vs k := by
      cases hd : F.det with
      | none => rfl
      | some c =>
        rcases h0 with h0 | h0
        · rw [hd] at h0; cases h0
        · exact (F.ok c hd _ _ h0).symm
    rw [hv]
    refine finL_eq vs w r Fs (k + 1) _ (by simpa using h) fun j hj => ?_
    have := hp (j + 1) (by simp; omega)
    rw [List.getD_cons_succ, show k + (j + 1) = k + 1 + j by omega] at this
    exact this
theorem walk_facts {D : List (List Nat)} {L : List Nat} {dsts : List (Option Tmp)} {I J : World → Prop} {a0 : Act} {K : (Nat → Value) → World → Prop} : ∀ (r : List Oper) (k : Nat) (Fs : List FW), Fs.length = k → Walk P D L dsts I J a0 K r k Fs →
    ∃ Gs : List FW, Gs.length = k + r.length ∧ (∀ j, j < k → Gs.getD j FW.any = Fs.getD (k - 1 - j) FW.any) ∧
      (∀ i o, r[i]? = some o → ∀ vs w, I w → (k + i ∈ L → (∀ q ∈ L, k + i ≤ q) → J w) → (earlyB D L (k + i) = true → J w) → (∀ j ∈ D.getD (k + i) [], useE D L (Gs.getD j FW.any).fix j (k + i) = true → (Gs.getD j FW.any).p (vs j) w) → (∀ j ∈ D.getD (k + i) [], j < k + i) → Ob P (dsts.take (k + i)) o vs a0 w (fun v w' => (k + i ∈ L → I w') ∧ (k + i ∉ L → Below w.heap.size w w') ∧ (Gs.getD (k + i) FW.any).p v w')) ∧
      (∀ vs w, I w → (∀ j, j < k + r.length → useE D L (Gs.getD j FW.any).fix j (k + r.length) = true → (Gs.getD j FW.any).p (vs j) w) → K vs w) := by
  intro r
  induction r with
  | nil =>
    intro k Fs hk h
    have hget : ∀ j, j < k → Fs.reverse.getD j FW.any = Fs.getD (k - 1 - j) FW.any := fun j hj => by
      rw [List.getD_eq_getElem?_getD, List.getD_eq_getElem?_getD, List.getElem?_reverse (by omega), hk]
    refine ⟨Fs.reverse, by simp [hk], hget, fun i o hi => by simp at hi, fun vs w hb hf => h vs w hb fun j hj hu => ?_⟩
    rw [← hget j hj] at hu ⊢
    exact hf j (by simpa using hj) (by simpa using hu)
  | cons o r ih =>
    intro k Fs hk h
    obtain ⟨F, h1, h2⟩ := h
    obtain ⟨Gs, g1, g2, g3, g4⟩ := ih (k + 1) (F :: Fs) (by simp [hk]) h2
    have hFk : Gs.getD k FW.any = F := by
      rw [g2 k (by omega), show k + 1 - 1 - k = 0 by omega]
      rfl
    have hlow : ∀ j, j < k → Gs.getD j FW.any = Fs.getD (k - 1 - j) FW.any := fun j hj => by
      rw [g2 j (by omega), show k + 1 - 1 - j = (k - 1 - j) + 1 by omega, List.getD_cons_succ]
    refine ⟨Gs, by rw [g1, List.length_cons]; omega, hlow, fun i o' hi vs w hb hj0 hje hf hlt => ?_, fun vs w hb hf => g4 vs w hb fun j hj hu => hf j (by rw [List.length_cons]; omega) (by rw [List.length_cons, show k + (r.length + 1) = k + 1 + r.length by omega]; exact hu)⟩
    · cases i with
      | zero =>
        simp only [List.getElem?_cons_zero, Option.some.injEq] at hi
        subst hi
        rw [Nat.add_zero] at *
        rw [hFk]
        refine h1 vs w hb hj0 hje fun j hj => ?_
        obtain ⟨hj1, hj2⟩ := List.mem_filter.1 hj
        have hjk : j < k := hlt j hj1
        rw [← hlow j hjk] at hj2 ⊢
        exact hf j hj1 hj2
      | succ i =>
        rw [show k + (i + 1) = k + 1 + i by omega] at *
        exact g3 i o' (by simpa using hi) vs w hb hj0 hje hf hlt
def guardsB (ops : Array Oper) (D : List (List Nat)) : Bool :=
  (List.range ops.size).all fun i => match ops[i]? with
    | some o => (match o.guard with | some (g, _) => (D.getD i []).contains g && (dstOf ops g).isSome | none => true)
    | none => true
def roomB : List (Option Tmp) → Nat → Bool
  | [], _ => true
  | some d :: r, n => Nat.blt d n && roomB r n
  | none :: r, n => roomB r n
theorem roomB_spec : ∀ (l : List (Option Tmp)) (n : Nat), roomB l n = true → ∀ t, some t ∈ l → t < n
  | [], _, _, t, h => by cases h
  | some d :: r, n, h, t, ht => by
    simp only [roomB, Bool.and_eq_true] at h
    rcases List.mem_cons.1 ht with h2 | h2
    · injection h2 with h2
      subst h2
      exact cast Nat.blt_eq h.1
    · exact roomB_spec r n h.2 t h2
  | none :: r, n, h, t, ht => by
    rcases List.mem_cons.1 ht with h2 | h2
    · cases h2
    · exact roomB_spec r n h t h2
/-- What is asked of a region's text alone. -/
structure RegOk (ops : Array Oper) (D : List (List Nat)) (L : List Nat) (dsts : List (Option Tmp)) : Prop where
  chk : okAny ops D = true
  dst : ops.toList.map (·.dst) = dsts
  grd : guardsB ops D = true
  chain : ∀ i ∈ L, ∀ k ∈ L, i < k → i ∈ D.getD k []
def regB (ops : Array Oper) (D : List (List Nat)) (L : List Nat) (dsts : List (Option Tmp)) : Bool := okAny ops D && (ops.toList.map (·.dst) == dsts) && guardsB ops D && L.all fun i => L.all fun k => !decide (i < k) || (D.getD k []).contains i
theorem regOk {D : List (List Nat)} {L : List Nat} {dsts : List (Option Tmp)} (h : regB ops D L dsts = true) : RegOk ops D L dsts := by
  simp only [regB, Bool.and_eq_true, beq_iff_eq] at h
  refine ⟨h.1.1.1, h.1.1.2, h.1.2, fun i hi k hk hik => ?_⟩
  have h2 := List.all_eq_true.1 (List.all_eq_true.1 h.2 i hi) k hk
  simpa [hik] using h2
theorem all_of {D : List (List Nat)} {L : List Nat} {dsts : List (Option Tmp)} {I J : World → Prop} {a0 : Act} (hr : RegOk ops D L dsts) (hroom : roomB dsts a0.tmps.size = true) (hI : ∀ w w', I w → Below w.heap.size w w' → I w') (hJ : ∀ w w', J w → Below w.heap.size w w' → J w') {Q : Exit → Act → World → Prop}
    (h : Walk P D L dsts I J a0 (fun vs w => Q .normal (putL dsts 0 vs a0) w) ops.toList 0 []) :
    ∃ (F : Nat → Value → World → Prop) (fx : Nat → Bool), All P ops Q D L I J F fx a0 dsts := by
  obtain ⟨Gs, g1, g2, g3, g4⟩ := walk_facts ops.toList 0 [] rfl h
  have hC := chk_of hr.chk
  refine ⟨fun i => (Gs.getD i FW.any).p, fun i => (Gs.getD i FW.any).fix, hC, hr.dst, fun j t hj => ?_, fun i o g want hi hg => ?_, hr.chain, fun i v w w' hf hs => (Gs.getD i FW.any).st v w w' hf hs, fun i v w w' hi hfx hf => (Gs.getD i FW.any).fx hfx v w w' hf, hJ, fun i o hi vs w hb hj0 hje hf => ?_, fun vs w hb hf => ?_⟩
  · have hm : some t ∈ dsts := by
      rw [← hr.dst]
      unfold dstOf at hj
      cases ho : ops[j]? with
      | none => rw [ho] at hj; cases hj
      | some o =>
        rw [ho] at hj
        exact List.mem_map.2 ⟨o, by simpa using Array.mem_of_getElem? ho, hj⟩
    exact roomB_spec dsts _ hroom t hm
  · have h := hr.grd
    simp only [guardsB, List.all_eq_true, List.mem_range] at h
    have h2 := h i (Array.getElem?_eq_some_iff.1 hi).1
    rw [hi] at h2
    simp only [hg, Bool.and_eq_true, List.contains_iff_mem] at h2
    exact h2
  · have hi' : ops.toList[i]? = some o := by simpa using hi
    have h := g3 i o hi' vs w hb
    rw [Nat.zero_add] at h
    have h := h hj0 hje
    have hlt : ∀ j ∈ D.getD i [], j < i := fun j hj => (hC.dep i j (Array.getElem?_eq_some_iff.1 hi).1 hj).1
    have h2 := h (fun j hj hu => hf j (List.mem_filter.2 ⟨hj, hu⟩)) hlt
    have key : ∀ (v : Value) (w' : World), ((i ∈ L → I w') ∧ (i ∉ L → Below w.heap.size w w') ∧ (Gs.getD i FW.any).p v w') → (I w' ∧ (i ∉ L → Below w.heap.size w w') ∧ (Gs.getD i FW.any).p v w') := fun v w' ⟨q0, q1, q2⟩ => by
      refine ⟨?_, q1, q2⟩
      by_cases hiL : i ∈ L
      · exact q0 hiL
      · exact hI _ _ hb (q1 hiL)
    unfold Ob at h2 ⊢
    split
    · rename_i hw
      rw [if_pos hw] at h2
      generalize (execOp (rho (dsts.take i) vs a0) o).run P w = res at h2 ⊢
      cases res with
      | ok n w' =>
        cases n <;> simp only [Told] at h2 ⊢
        case value v => exact key _ _ h2
        case skip => exact key _ _ h2
        case enter f args =>
          refine h2.mono ?_
          rintro e w'' ⟨v, he, hq⟩
          exact ⟨v, he, key _ _ hq⟩
      | halt x w' => exact h2.elim
    · rename_i hw
      rw [if_neg hw] at h2
      exact key _ _ h2
  · rw [putN_putL vs a0 dsts hr.dst _ (Nat.le_refl _), List.take_of_length_le (by rw [← hr.dst]; simp)]
    refine g4 vs w hb fun j hj hu => hf j (by simpa using hj) ?_
    simpa using hu
/-- A region that draws its order. -/
theorem draws_ {id : Nat} {a0 : Act} {w0 : World} {D : List (List Nat)} {L : List Nat} {dsts : List (Option Tmp)} (I J : World → Prop) (hm : P.follows .mixedOrders = true) (hr : RegOk ops D L dsts) (hroom : roomB dsts a0.tmps.size = true)
    (hI : ∀ w w', I w → Below w.heap.size w w' → I w') (hJ : ∀ w w', J w → Below w.heap.size w w' → J w') (h0 : I w0.drew) (hJ0 : J w0.drew)
    (h : Walk P D L dsts I J a0 (fun vs w => Q .normal (putL dsts 0 vs a0) w) ops.toList 0 []) : (Code.region id ops true).wp P Q a0 w0 := by
  obtain ⟨F, fx, hA⟩ := all_of hr hroom hI hJ h
  exact any_region hm h0 hJ0 hA
/-- A region in the text's order. -/
theorem plain_ {id : Nat} {a0 : Act} {w0 : World} {D : List (List Nat)} {L : List Nat} {dsts : List (Option Tmp)} (I J : World → Prop) (hr : RegOk ops D L dsts) (hroom : roomB dsts a0.tmps.size = true)
    (hI : ∀ w w', I w → Below w.heap.size w w' → I w') (hJ : ∀ w w', J w → Below w.heap.size w w' → J w') (h0 : I w0) (hJ0 : J w0)
    (h : Walk P D L dsts I J a0 (fun vs w => Q .normal (putL dsts 0 vs a0) w) ops.toList 0 []) : (Code.region id ops false).wp P Q a0 w0 := by
  obtain ⟨F, fx, hA⟩ := all_of hr hroom hI hJ h
  exact seq_region h0 hJ0 hA
/-- The start's world, as an invariant. -/
theorem inv0 {w0 : World} : ∀ w w', Below w0.heap.size w0 w → Below w.heap.size w w' → Below w0.heap.size w0 w' := fun _ _ h k => below_then h h.size k
/-! ### The moves -/
variable {D : List (List Nat)} {L : List Nat} {dsts : List (Option Tmp)} {I J : World → Prop} {a0 : Act} {K : (Nat → Value) → World → Prop} {o : Oper} {r : List Oper} {k : Nat} {Fs : List FW}
/-- An operation that yields a known value and turns nothing. -/
theorem w_val (l : List (Nat × Value)) (c : Value) (hv : ∀ vs w, Known Fs k (deps D L Fs k) vs w → Wants o vs = true ∧ Vs (rho (dsts.take k) vs a0) l) (hc : covers o (l.map (·.1)) = true)
    (hrun : ∀ w, I w → (execOp (lk l) o).run P w = .ok (.value c) w) (t : Walk P D L dsts I J a0 K r (k + 1) (FW.val c :: Fs)) : Walk P D L dsts I J a0 K (o :: r) k Fs :=
  ⟨_, fun vs w hb _ _ hK => ob_run l (hv vs w hK).1 (hv vs w hK).2 hc (hrun w hb) ⟨fun _ => hb, fun _ => Below.refl _ _, rfl⟩, t⟩
/-- A copy. -/
theorem w_move {t : Nat} {c : Value} (ho : o.op = .move (.tmp t) ∨ o.op = .assign (.tmp t)) (hv : ∀ vs w, Known Fs k (deps D L Fs k) vs w → Wants o vs = true ∧ rho (dsts.take k) vs a0 (.tmp t) = c)
    (t : Walk P D L dsts I J a0 K r (k + 1) (FW.val c :: Fs)) : Walk P D L dsts I J a0 K (o :: r) k Fs :=
  ⟨_, fun vs w hb _ _ hK => by
    unfold Ob
    rw [if_pos (hv vs w hK).1]
    have : (execOp (rho (dsts.take k) vs a0) o).run P w = .ok (.value c) w := by
      rcases ho with ho | ho <;> simp [execOp, ho, (hv vs w hK).2]
    rw [this]
    exact ⟨fun _ => hb, fun _ => Below.refl _ _, rfl⟩, t⟩
theorem w_const {c : Value} (ho : o.op = .move (.const c) ∨ o.op = .assign (.const c)) (hv : ∀ vs w, Known Fs k (deps D L Fs k) vs w → Wants o vs = true)
    (t : Walk P D L dsts I J a0 K r (k + 1) (FW.val c :: Fs)) : Walk P D L dsts I J a0 K (o :: r) k Fs :=
  ⟨_, fun vs w hb _ _ hK => by
    unfold Ob
    rw [if_pos (hv vs w hK)]
    have : (execOp (rho (dsts.take k) vs a0) o).run P w = .ok (.value c) w := by
      rcases ho with ho | ho <;> simp [execOp, ho, rho, Act.eval]
    rw [this]
    exact ⟨fun _ => hb, fun _ => Below.refl _ _, rfl⟩, t⟩
/-- A choice, decided. -/
theorem w_pick {x y z : Operand} {b : Bool} {c : Value} (ho : o.op = .pick x y z) (hv : ∀ vs w, Known Fs k (deps D L Fs k) vs w → Wants o vs = true ∧ rho (dsts.take k) vs a0 x = .bool b ∧ rho (dsts.take k) vs a0 (if b then y else z) = c)
    (t : Walk P D L dsts I J a0 K r (k + 1) (FW.val c :: Fs)) : Walk P D L dsts I J a0 K (o :: r) k Fs :=
  ⟨_, fun vs w hb _ _ hK => by
    unfold Ob
    rw [if_pos (hv vs w hK).1]
    obtain ⟨_, h1, h2⟩ := hv vs w hK
    have : (execOp (rho (dsts.take k) vs a0) o).run P w = .ok (.value c) w := by
      cases b
      · simp only [Bool.false_eq_true, if_false] at h2
        simp [execOp, ho, h1, h2, asBool]
      · simp only [if_true] at h2
        simp [execOp, ho, h1, h2, asBool]
    rw [this]
    exact ⟨fun _ => hb, fun _ => Below.refl _ _, rfl⟩, t⟩
theorem rho_const {dsts : List (Option Tmp)} {vs : Nat → Value} {a0 : Act} {c : Value} : rho dsts vs a0 (.const c) = c := rfl
/-- One that is not run. -/
theorem w_not (hv : ∀ vs w, Known Fs k (deps D L Fs k) vs w → Wants o vs = false) (t : Walk P D L dsts I J a0 K r (k + 1) (FW.val undef :: Fs)) : Walk P D L dsts I J a0 K (o :: r) k Fs :=
  ⟨_, fun vs w hb _ _ hK => ob_not (hv vs w hK) ⟨fun _ => hb, fun _ => Below.refl _ _, rfl⟩, t⟩
/-- A call whose answer is known. -/
theorem w_call {f : FuncId} {fn : Func} {ags : Array Operand} {ts : Array TypeId} (l : List (Nat × Value)) (args : Array Value) (c : Value) (hL : k ∉ L) (hv : ∀ vs w, Known Fs k (deps D L Fs k) vs w → Wants o vs = true ∧ Vs (rho (dsts.take k) vs a0) l) (hc : covers o (l.map (·.1)) = true)
    (hop : o.op = .call { callee := .value (.func f), args := ags, argTypes := ts }) (hf : P.funcs[f]? = some fn) (hname : (fn.name == "runtime.NumGoroutine") = false) (hb : fn.body.isSome = true)
    (h : ∀ w, I w → Calls P f args w fun e w' => e = .returned c ∧ Below w.heap.size w w') (hargs : ags.map (lk l) = args) (t : Walk P D L dsts I J a0 K r (k + 1) (FW.val c :: Fs)) : Walk P D L dsts I J a0 K (o :: r) k Fs :=
  ⟨_, fun vs w hbl _ _ hK => ob_call l args (hv vs w hK).1 (hv vs w hK).2 hc hop hf hname hb hargs ((h w hbl).mono fun e w' ⟨he, hw⟩ => ⟨c, he, fun h => absurd h hL, fun _ => hw, rfl⟩), t⟩
/-- A call, its answer told by a fact. -/
theorem w_callF (F : FW) {f : FuncId} {fn : Func} {ags : Array Operand} {ts : Array TypeId} (l : List (Nat × Value)) (args : Array Value) (hL : k ∉ L) (hv : ∀ vs w, Known Fs k (deps D L Fs k) vs w → Wants o vs = true ∧ Vs (rho (dsts.take k) vs a0) l) (hc : covers o (l.map (·.1)) = true)
    (hop : o.op = .call { callee := .value (.func f), args := ags, argTypes := ts }) (hf : P.funcs[f]? = some fn) (hname : (fn.name == "runtime.NumGoroutine") = false) (hb : fn.body.isSome = true)
    (h : ∀ w, I w → Calls P f args w fun e w' => ∃ v, e = .returned v ∧ Below w.heap.size w w' ∧ F.p v w') (hargs : ags.map (lk l) = args) (t : Walk P D L dsts I J a0 K r (k + 1) (F :: Fs)) : Walk P D L dsts I J a0 K (o :: r) k Fs :=
  ⟨F, fun vs w hbl _ _ hK => ob_call l args (hv vs w hK).1 (hv vs w hK).2 hc hop hf hname hb hargs ((h w hbl).mono fun e w' ⟨v, he, hw, hF⟩ => ⟨v, he, (fun h => absurd h hL), fun _ => hw, hF⟩), t⟩
/-- Anything that turns nothing that lay: by hand. -/
theorem w_any (F : FW) (hkL : k ∉ L) (h : ∀ vs w, I w → Known Fs k (deps D L Fs k) vs w → Ob P (dsts.take k) o vs a0 w (fun v w' => Below w.heap.size w w' ∧ F.p v w')) (t : Walk P D L dsts I J a0 K r (k + 1) (F :: Fs)) : Walk P D L dsts I J a0 K (o :: r) k Fs := by
  refine ⟨F, fun vs w hb _ _ hK => ?_, t⟩
  have h2 := h vs w hb hK
  have key : ∀ (v : Value) (w' : World), (Below w.heap.size w w' ∧ F.p v w') → ((k ∈ L → I w') ∧ (k ∉ L → Below w.heap.size w w') ∧ F.p v w') := fun v w' ⟨q1, q2⟩ => ⟨fun h => absurd h hkL, fun _ => q1, q2⟩
  unfold Ob at h2 ⊢
  split
  · rename_i hw
    rw [if_pos hw] at h2
    generalize (execOp (rho (dsts.take k) vs a0) o).run P w = res at h2 ⊢
    cases res with
    | ok n w' =>
      cases n <;> simp only [Told] at h2 ⊢
      case value v => exact key _ _ h2
      case skip => exact key _ _ h2
      case enter f args =>
        refine h2.mono ?_
        rintro e w'' ⟨v, he, hq⟩
        exact ⟨v, he, key _ _ hq⟩
    | halt x w' => exact h2.elim
  · rename_i hw
    rw [if_neg hw] at h2
    exact key _ _ h2
/-- With the start fact: anything that turns nothing that lay: by hand. -/
theorem w_anyJ (F : FW) (hkL : k ∉ L) (h : ∀ vs w, I w → (earlyB D L k = true → J w) → Known Fs k (deps D L Fs k) vs w → Ob P (dsts.take k) o vs a0 w (fun v w' => Below w.heap.size w w' ∧ F.p v w')) (t : Walk P D L dsts I J a0 K r (k + 1) (F :: Fs)) : Walk P D L dsts I J a0 K (o :: r) k Fs := by
  refine ⟨F, fun vs w hb _ hj hK => ?_, t⟩
  have h2 := h vs w hb hj hK
  have key : ∀ (v : Value) (w' : World), (Below w.heap.size w w' ∧ F.p v w') → ((k ∈ L → I w') ∧ (k ∉ L → Below w.heap.size w w') ∧ F.p v w') := fun v w' ⟨q1, q2⟩ => ⟨fun h => absurd h hkL, fun _ => q1, q2⟩
  unfold Ob at h2 ⊢
  split
  · rename_i hw
    rw [if_pos hw] at h2
    generalize (execOp (rho (dsts.take k) vs a0) o).run P w = res at h2 ⊢
    cases res with
    | ok n w' =>
      cases n <;> simp only [Told] at h2 ⊢
      case value v => exact key _ _ h2
      case skip => exact key _ _ h2
      case enter f args =>
        refine h2.mono ?_
        rintro e w'' ⟨v, he, hq⟩
        exact ⟨v, he, key _ _ hq⟩
    | halt x w' => exact h2.elim
  · rename_i hw
    rw [if_neg hw] at h2
    exact key _ _ h2
/-- One of those that write in turn: by hand. -/
theorem w_lin (F : FW) (hL : k ∈ L) (h : ∀ vs w, I w → (k ∈ L → (∀ q ∈ L, k ≤ q) → J w) → Known Fs k (deps D L Fs k) vs w → Ob P (dsts.take k) o vs a0 w (fun v w' => I w' ∧ F.p v w')) (t : Walk P D L dsts I J a0 K r (k + 1) (F :: Fs)) : Walk P D L dsts I J a0 K (o :: r) k Fs :=
  ⟨F, fun vs w hb hj _ hK => by
    have h2 := h vs w hb hj hK
    have key : ∀ (v : Value) (w' : World), (I w' ∧ F.p v w') → ((k ∈ L → I w') ∧ (k ∉ L → Below w.heap.size w w') ∧ F.p v w') := fun v w' ⟨q1, q2⟩ => ⟨fun _ => q1, fun h => absurd hL h, q2⟩
    unfold Ob at h2 ⊢
    split
    · rename_i hw
      rw [if_pos hw] at h2
      generalize (execOp (rho (dsts.take k) vs a0) o).run P w = res at h2 ⊢
      cases res with
      | ok n w' =>
        cases n <;> simp only [Told] at h2 ⊢
        case value v => exact key _ _ h2
        case skip => exact key _ _ h2
        case enter f args =>
          refine h2.mono ?_
          rintro e w'' ⟨v, he, hq⟩
          exact ⟨v, he, key _ _ hq⟩
      | halt x w' => exact h2.elim
    · rename_i hw
      rw [if_neg hw] at h2
      exact key _ _ h2, t⟩
theorem finL_val {d : Option Tmp} {c : Value} {r : List (Option Tmp)} {Fs : List FW} {k : Nat} {vs : Nat → Value} {a : Act} : finL (d :: r) (FW.val c :: Fs) k vs a = finL r Fs (k + 1) vs (a.put d c) := rfl
theorem finL_of {d : Option Tmp} {p : Value → World → Prop} {st : ∀ v w w', p v w → Below w.heap.size w w' → p v w'} {r : List (Option Tmp)} {Fs : List FW} {k : Nat} {vs : Nat → Value} {a : Act} : finL (d :: r) (FW.of p st :: Fs) k vs a = finL r Fs (k + 1) vs (a.put d (vs k)) := rfl
theorem finL_any {d : Option Tmp} {r : List (Option Tmp)} {Fs : List FW} {k : Nat} {vs : Nat → Value} {a : Act} : finL (d :: r) (FW.any :: Fs) k vs a = finL r Fs (k + 1) vs (a.put d (vs k)) := rfl
theorem finL_nil {k : Nat} {vs : Nat → Value} {a : Act} : finL [] [] k vs a = a := rfl
def endB (D : List (List Nat)) (L : List Nat) (Fs : List FW) (k : Nat) : Bool := (List.range k).all fun j => (Fs.getD (k - 1 - j) FW.any).det.isNone || useE D L (Fs.getD (k - 1 - j) FW.any).fix j k
theorem endB_spec {D : List (List Nat)} {L : List Nat} {Fs : List FW} {k : Nat} (h : endB D L Fs k = true) : ∀ j, j < k → (Fs.getD (k - 1 - j) FW.any).det = none ∨ useE D L (Fs.getD (k - 1 - j) FW.any).fix j k = true := fun j hj => by
  have := List.all_eq_true.1 h j (List.mem_range.2 hj)
  simpa using this
/-- The end: the frame, known values written out. -/
theorem w_end {Q : Act → World → Prop} (hl : dsts.length = Fs.length) (hk : Fs.length = k) (hd0 : endB D L Fs k = true) (h : ∀ vs w, I w → (∀ j, j < k → useE D L (Fs.getD (k - 1 - j) FW.any).fix j k = true → (Fs.getD (k - 1 - j) FW.any).p (vs j) w) → Q (finL dsts Fs.reverse 0 vs a0) w) : Walk P D L dsts I J a0 (fun vs w => Q (putL dsts 0 vs a0) w) [] k Fs := fun vs w hb hf => by
  have hd := endB_spec hd0
  show Q (putL dsts 0 vs a0) w
  rw [finL_eq vs w dsts Fs.reverse 0 a0 (by simp [hl]) (fun j hj => by
    rw [Nat.zero_add]
    have hj' : j < Fs.length := by simpa using hj
    have h1 := hd j (by omega)
    have h2 := hf j (by omega)
    rw [List.getD_eq_getElem?_getD, List.getElem?_reverse hj']
    rw [List.getD_eq_getElem?_getD] at h1 h2
    rw [hk]
    exact h1.imp id h2)]
  exact h vs w hb hf
/-- A copy, its value told by whatever fact. -/
theorem ob_copy {dsts : List (Option Tmp)} {vs : Nat → Value} {a0 : Act} {o : Oper} {w : World} {R : Value → World → Prop} {t : Nat} {c : Value} (ho : o.op = .move (.tmp t) ∨ o.op = .assign (.tmp t)) (hw : Wants o vs = true) (hv : rho dsts vs a0 (.tmp t) = c) (hR : R c w) : Ob P dsts o vs a0 w R := by
  unfold Ob
  rw [if_pos hw]
  have : (execOp (rho dsts vs a0) o).run P w = .ok (.value c) w := by
    rcases ho with ho | ho <;> simp [execOp, ho, hv]
  rw [this]
  exact hR
theorem run_append_op {l : List (Nat × Value)} {s x : Operand} {ts : Array TypeId} {u v v1 : Value} {w w1 : World} (ho : o.op = .call { callee := .builtin .append, args := #[s, x], argTypes := ts }) (hs : lk l s = v) (hx : lk l x = u)
    (hrun : (Builtin.append_ ts o.type #[v, u]).run P w = .ok v1 w1) : (execOp (lk l) o).run P w = .ok (.value v1) w1 := by
  unfold execOp
  simp [ho, resolve, invoke, builtin, hs, hx, hrun]
end
/-- An appended row, as a fact. -/
def FW.app (k : IntKind) (E : TypeId) (w0 w : World) (v : Value) (xs : List Int) : FW := .of (fun v' w' => App k E w0 w w' v v' xs) fun _ _ _ h hb => ⟨gr_below h.own hb, below_then h.bel h.bel.size hb, h.fr.below hb⟩
section
variable {d : Option Tmp} {r : List (Option Tmp)} {Fs : List FW} {n : Nat} {vs : Nat → Value} {a : Act} {k : IntKind} {E : TypeId} {w0 w : World} {v : Value} {xs : List Int} {B : Nat} {cs : List Value} {T : TypeId}
theorem finL_app : finL (d :: r) (FW.app k E w0 w v xs :: Fs) n vs a = finL r Fs (n + 1) vs (a.put d (vs n)) := rfl
theorem finL_gr : finL (d :: r) (FW.gr k E B xs :: Fs) n vs a = finL r Fs (n + 1) vs (a.put d (vs n)) := rfl
theorem finL_row : finL (d :: r) (FW.row k xs :: Fs) n vs a = finL r Fs (n + 1) vs (a.put d (vs n)) := rfl
theorem finL_box : finL (d :: r) (FW.box B cs T :: Fs) n vs a = finL r Fs (n + 1) vs (a.put d (vs n)) := rfl
end
theorem app_start {k : IntKind} {E : TypeId} {w0 w : World} {v : Value} {xs : List Int} (HO : Gr k E w w0.heap.size v xs) (HB : Below w0.heap.size w0 w) {w' : World} (hb : Below w.heap.size w w') : App k E w0 w w' v v xs :=
  ⟨gr_below HO hb, below_then HB HB.size hb, (Fr.refl w v).below hb⟩
theorem app_st {k : IntKind} {E : TypeId} {w0 w : World} {v v' : Value} {xs : List Int} : ∀ w1 w2, App k E w0 w w1 v v' xs → Below w1.heap.size w1 w2 → App k E w0 w w2 v v' xs := fun _ _ h hb => ⟨gr_below h.own hb, below_then h.bel h.bel.size hb, h.fr.below hb⟩
/-- The next of a chain. -/
theorem app_next {k : IntKind} {E : TypeId} {w0 w w1 w2 : World} {v v1 v2 : Value} {xs ys : List Int} (h : App k E w0 w w1 v v1 xs) (a : App k E w0 w1 w2 v1 v2 ys) : App k E w0 w w2 v v2 ys := ⟨a.own, a.bel, h.fr.trans a.fr⟩
theorem app_of_run {k : IntKind} {E : TypeId} {w0 w w1 w2 : World} {v v1 v2 : Value} {xs ys : List Int} (h : App k E w0 w w1 v v1 xs) (a : Apd (Value.int k) (int_one k) E w1 w2 w0.heap.size v1 v2 ys) : App k E w0 w w2 v v2 ys :=
  ⟨a.own, h.bel.grown a.fr.grown h.bel.size (gr_base h.own), h.fr.trans a.fr⟩
/-- A row that was made since the world W; nothing that lay there is turned. -/
structure New (k : IntKind) (E : TypeId) (W : World) (xs : List Int) (v : Value) (w : World) : Prop where
  own : Gr k E w W.heap.size v xs
  bel : Below W.heap.size W w
theorem New.below {k : IntKind} {E : TypeId} {W : World} {xs : List Int} {v : Value} {w w' : World} (h : New k E W xs v w) (hb : Below w.heap.size w w') : New k E W xs v w' := ⟨gr_below h.own hb, below_then h.bel h.bel.size hb⟩
def FW.new (k : IntKind) (E : TypeId) (W : World) (xs : List Int) : FW := .of (New k E W xs) fun _ _ _ h hb => h.below hb
theorem finL_new {d : Option Tmp} {r : List (Option Tmp)} {Fs : List FW} {n : Nat} {vs : Nat → Value} {a : Act} {k : IntKind} {E : TypeId} {W : World} {xs : List Int} : finL (d :: r) (FW.new k E W xs :: Fs) n vs a = finL r Fs (n + 1) vs (a.put d (vs n)) := rfl
theorem new_app {k : IntKind} {E : TypeId} {W w w' : World} {v v' : Value} {xs : List Int} (h : App k E W w w' v v' xs) : New k E W xs v' w' := ⟨h.own, h.bel⟩
theorem new_run {k : IntKind} {E : TypeId} {W w w' : World} {v v' : Value} {xs ys : List Int} (h : New k E W xs v w) (a : Apd (Value.int k) (int_one k) E w w' W.heap.size v v' ys) : New k E W ys v' w' := ⟨a.own, h.bel.grown a.fr.grown h.bel.size (gr_base h.own)⟩
theorem new_nil (k : IntKind) (E : TypeId) {W w : World} (hb : Below W.heap.size W w) : New k E W [] (.slice none 0 0) w := ⟨gr_nil _ _ _, hb⟩
theorem run_conv_op {P : Program} {o : Oper} {l : List (Nat × Value)} {s : Operand} {src dst : TypeId} {v c : Value} {w w' : World} (ho : o.op = .convert src dst s) (hs : lk l s = v) (hrun : (convert src dst v).run P w = .ok c w') : (execOp (lk l) o).run P w = .ok (.value c) w' := by
  unfold execOp
  simp [ho, hs, hrun]
theorem run_load_op {P : Program} {o : Oper} {l : List (Nat × Value)} {x : Operand} {t : TypeId} {p v : Value} {w : World} (ho : o.op = .load t x) (hx : lk l x = p) (hrun : (Instr.loadAt t p).run P w = .ok v w) : (execOp (lk l) o).run P w = .ok (.value v) w := by
  unfold execOp
  simp [ho, hx, hrun]
theorem run_cat_op {P : Program} {o : Oper} {l : List (Nat × Value)} {x y : Operand} {t : TypeId} {m : Nat} {a b : ByteArray} {w : World} (ho : o.op = .binOp .add t x y m) (hx : lk l x = .string a) (hy : lk l y = .string b) (hs : a.size + b.size ≤ 9223372036854775807) : (execOp (lk l) o).run P w = .ok (.value (.string (a ++ b))) w := by
  unfold execOp
  simp [ho, hx, hy, eqGuard, binOp, run_string_add_sum w a b hs, Result.andThen]
theorem run_eql_same {P : Program} {o : Oper} {l : List (Nat × Value)} {x y : Operand} {t : TypeId} {m : Nat} {a b : ByteArray} {w : World} (ho : o.op = .binOp .eql t x y m) (hx : lk l x = .string a) (hy : lk l y = .string b) (hs : a = b) : (execOp (lk l) o).run P w = .ok (.value (.bool true)) w := by
  subst hs
  unfold execOp
  simp [ho, hx, hy, eqGuard, binOp, Op.stringOp]
theorem run_neq_same {P : Program} {o : Oper} {l : List (Nat × Value)} {x y : Operand} {t : TypeId} {m : Nat} {a b : ByteArray} {w : World} (ho : o.op = .binOp .neq t x y m) (hx : lk l x = .string a) (hy : lk l y = .string b) (hs : a = b) : (execOp (lk l) o).run P w = .ok (.value (.bool false)) w := by
  subst hs
  unfold execOp
  simp [ho, hx, hy, eqGuard, binOp, Op.stringOp]
theorem run_len_str {P : Program} {o : Oper} {l : List (Nat × Value)} {x : Operand} {t : TypeId} {s : ByteArray} {n : Int} {w : World} (ho : o.op = .call { callee := .builtin .len, args := #[x], argTypes := #[t] }) (ht : P.underlying t = some .string) (hx : lk l x = .string s) (hs : (s.size : Int) = n) : (execOp (lk l) o).run P w = .ok (.value (.int .i64 n)) w := by
  subst hs
  unfold execOp
  simp [ho, resolve, invoke, builtin, hx, run_len_string w t o.type s ht, Result.andThen, goInt]
theorem run_int_eql {P : Program} {o : Oper} {l : List (Nat × Value)} {x y : Operand} {t : TypeId} {m : Nat} {k : IntKind} {a b : Int} {r : Bool} {w : World} (ho : o.op = .binOp .eql t x y m) (hx : lk l x = .int k a) (hy : lk l y = .int k b) (h : (a == b) = r) : (execOp (lk l) o).run P w = .ok (.value (.bool r)) w := by
  subst h
  unfold execOp
  simp [ho, hx, hy, eqGuard, binOp, Op.intCmp]
theorem run_int_neq {P : Program} {o : Oper} {l : List (Nat × Value)} {x y : Operand} {t : TypeId} {m : Nat} {k : IntKind} {a b : Int} {r : Bool} {w : World} (ho : o.op = .binOp .neq t x y m) (hx : lk l x = .int k a) (hy : lk l y = .int k b) (h : (a != b) = r) : (execOp (lk l) o).run P w = .ok (.value (.bool r)) w := by
  subst h
  unfold execOp
  simp [ho, hx, hy, eqGuard, binOp, Op.intCmp]
theorem run_int_lss {P : Program} {o : Oper} {l : List (Nat × Value)} {x y : Operand} {t : TypeId} {m : Nat} {k : IntKind} {a b : Int} {r : Bool} {w : World} (ho : o.op = .binOp .lss t x y m) (hx : lk l x = .int k a) (hy : lk l y = .int k b) (h : decide (a < b) = r) : (execOp (lk l) o).run P w = .ok (.value (.bool r)) w := by
  subst h
  unfold execOp
  simp [ho, hx, hy, eqGuard, binOp, Op.intCmp]
theorem run_int_leq {P : Program} {o : Oper} {l : List (Nat × Value)} {x y : Operand} {t : TypeId} {m : Nat} {k : IntKind} {a b : Int} {r : Bool} {w : World} (ho : o.op = .binOp .leq t x y m) (hx : lk l x = .int k a) (hy : lk l y = .int k b) (h : decide (a ≤ b) = r) : (execOp (lk l) o).run P w = .ok (.value (.bool r)) w := by
  subst h
  unfold execOp
  simp [ho, hx, hy, eqGuard, binOp, Op.intCmp]
theorem run_int_gtr {P : Program} {o : Oper} {l : List (Nat × Value)} {x y : Operand} {t : TypeId} {m : Nat} {k : IntKind} {a b : Int} {r : Bool} {w : World} (ho : o.op = .binOp .gtr t x y m) (hx : lk l x = .int k a) (hy : lk l y = .int k b) (h : decide (a > b) = r) : (execOp (lk l) o).run P w = .ok (.value (.bool r)) w := by
  subst h
  unfold execOp
  simp [ho, hx, hy, eqGuard, binOp, Op.intCmp]
theorem run_int_geq {P : Program} {o : Oper} {l : List (Nat × Value)} {x y : Operand} {t : TypeId} {m : Nat} {k : IntKind} {a b : Int} {r : Bool} {w : World} (ho : o.op = .binOp .geq t x y m) (hx : lk l x = .int k a) (hy : lk l y = .int k b) (h : decide (a ≥ b) = r) : (execOp (lk l) o).run P w = .ok (.value (.bool r)) w := by
  subst h
  unfold execOp
  simp [ho, hx, hy, eqGuard, binOp, Op.intCmp]
/-- A contract that leaves the world alone. -/
theorem pureB {P : Program} {f : FuncId} {args : Array Value} {w : World} {c : Value} (h : Calls P f args w fun e w' => e = .returned c ∧ w = w') : Calls P f args w fun e w' => e = .returned c ∧ Below w.heap.size w w' :=
  h.mono fun e w' ⟨he, hw⟩ => ⟨he, hw ▸ Below.refl _ _⟩
theorem run_slice_op {P : Program} {o : Oper} {l : List (Nat × Value)} {t : TypeId} {x : Operand} {lo hi : Option Operand} {v c : Value} {w : World} (ho : o.op = .slice t x lo hi none) (hx : lk l x = v) (hrun : (Instr.sliceAt t v (lo.map (lk l)) (hi.map (lk l)) none).run P w = .ok c w) : (execOp (lk l) o).run P w = .ok (.value c) w := by
  unfold execOp
  simp [ho, hx, hrun]
/-- s[lo:hi], the bounds of whatever kinds. -/
theorem cut_mid_k {α : Type} {enc : α → Value} {h1 : ∀ x, (enc x).oneCell' = true} {P : Program} {t e : TypeId} {z : Value} {bytes : Nat} (k1 k2 : IntKind) (d : α) (T : SlTy P t e z bytes) (A : Option Addr) (n c lo hi m : Nat) (hm : m + lo = hi) (hh : hi ≤ n) (hc : n ≤ c) (j1 j2 : Int) (hj1 : j1 = (lo : Int)) (hj2 : j2 = (hi : Int)) :
    ∃ A' : Option Addr, (∀ W : World, (Instr.slice t (.slice A n c) (some (.int k1 j1)) (some (.int k2 j2)) none).run P W = .ok (.slice A' m (c - lo)) W) ∧ ∀ (w : World) (xs : List α), RdsE enc h1 w A n xs → RdsE enc h1 w A' m ((xs.take hi).drop lo) := by
  obtain ⟨i0, hi0, hzz⟩ := Option.map_eq_some_iff.1 T.info
  simp only [Prod.mk.injEq] at hzz
  have hel : P.elem t = e := by simp [Program.elem, T.und]
  have hu : P.underlying t = some (.slice (P.elem t)) := by rw [hel]; exact T.und
  obtain rfl : m = hi - lo := by omega
  refine ⟨if c = lo then A else A.map (·.add lo), fun W => ?_, fun w xs h => rds_drop d (c := c) (rds_take d h hi hh) lo (by omega) (by omega)⟩
  rw [hj1, hj2, run_slice_lh W t A n c hu k1 k2 lo hi (by omega) (by omega) (by omega), hel]
  simp [sizeOf, typeInfo, hi0, hzz.2.1, sliced, Result.andThen]
theorem szc (b : UInt8) : (⟨#[b]⟩ : ByteArray).size = 1 := rfl
theorem range_block {w : World} {g : Nat} {cs : List Value} {T : TypeId} {fr : Nat × Nat} (h : w.heap[g]? = some (.cells cs.toArray T fr)) : w.rangeAt g 0 cs := fun j v hv => by
  simp only [World.cell?, h]
  simpa using hv
theorem range_mid {w : World} {g o n : Nat} {cs ds : List Value} {T : TypeId} {fr : Nat × Nat} (h : w.heap[g]? = some (.cells cs.toArray T fr)) (hd : (cs.drop o).take n = ds) : w.rangeAt g o ds := fun j v hv => by
  subst hd
  simp only [World.cell?, h]
  rw [List.getElem?_take] at hv
  split at hv
  · rw [List.getElem?_drop] at hv
    simpa using hv
  · cases hv
/-- Blocks that stay, beside a chain. -/
structure Keeps (w0 : World) (g : Nat) (o : Obj) (w : World) : Prop where
  bel : Below w0.heap.size w0 w
  at_ : w.heap[g]? = some o
theorem keeps_below {w0 : World} {g : Nat} {o : Obj} : ∀ w w', Keeps w0 g o w → Below w.heap.size w w' → Keeps w0 g o w' := fun _ _ h hb =>
  ⟨below_then h.bel h.bel.size hb, by rw [hb.block g (mk_lt h.at_)]; exact h.at_⟩
/-- .. where a row beside it is written. -/
theorem keeps_fr {w0 : World} {g : Nat} {o : Obj} {w w' : World} {v v' : Value} (h : Keeps w0 g o w) (hb : Below w0.heap.size w0 w') (hf : Fr w w' v v') (hne : v.ownBlock ≠ some g) : Keeps w0 g o w' :=
  ⟨hb, by rw [hf.grown.block g (mk_lt h.at_) (Ne.symm hne)]; exact h.at_⟩
/-- A chain's row stays away from an elder block that it did not begin in. -/
theorem app_ne {k : IntKind} {E : TypeId} {w0 w w1 : World} {v v1 : Value} {xs : List Int} (h : App k E w0 w w1 v v1 xs) {g : Nat} (hg : g < w.heap.size) (hne : v.ownBlock ≠ some g) : v1.ownBlock ≠ some g := by
  rcases h.fr.at_ with e | ⟨b, e, hb⟩
  · rw [e]; exact hne
  · rw [e]
    intro he
    injection he with he
    omega
theorem gr_ne {k : IntKind} {E : TypeId} {w : World} {B : Nat} {v : Value} {xs : List Int} (h : Gr k E w B v xs) {g : Nat} (hg : w.heap.size ≤ g) : v.ownBlock ≠ some g := fun he => by
  have := gr_lt h g he
  omega
/-- Cells of a block that is known. -/
theorem rds_block {k : IntKind} {w : World} {g o n : Nat} {cs : List Value} {T : TypeId} {fr : Nat × Nat} {xs : List Int} (h : w.heap[g]? = some (.cells cs.toArray T fr)) (hc : (cs.drop o).take n = nums k xs) (hn : xs.length = n) (hm : n ≤ 9223372036854775807) : Rds k w (some ⟨g, o, none⟩) n xs := by
  subst hn
  refine Kd.C_of_reads (d := (0 : Int)) ⟨rfl, hm, fun _ => ⟨_, rfl, fun j hj => ?_⟩⟩
  rw [Addr.add_mid]
  have h2 : ((cs.drop o).take xs.length)[j]? = (nums k xs)[j]? := by rw [hc]
  rw [List.getElem?_take, if_pos hj, List.getElem?_drop] at h2
  simp only [World.cell?, h]
  simp [nums, List.getElem?_eq_getElem hj, List.getD_eq_getElem?_getD] at h2 ⊢
  exact h2
end Go.Proofs.Ytnkeijdpjcclcaa.Kit
