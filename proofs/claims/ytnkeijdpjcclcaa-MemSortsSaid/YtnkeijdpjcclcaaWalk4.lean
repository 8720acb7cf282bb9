/- Operations that a condition guards, the condition a truth value that is not decided: one walk for all ways. -/
import Derived.Test.YtnkeijdpjcclcaaWalk3
namespace Go.Proofs.Ytnkeijdpjcclcaa.Kit
set_option linter.unusedVariables false
set_option linter.unusedSimpArgs false
open Go.RowKit Go.Proofs.YtnkeijdpjcclcaaW.PrintWords Go.Proofs.YtnkeijdpjcclcaaW.PrintLast Go.Proofs.YtnkeijdpjcclcaaW.PrintMore
/-- A value that is there where a condition holds. -/
def gv (G : Bool) (c : Value) : Value := bif G then c else undef
theorem fvg {G : Bool} {c v : Value} {w : World} (h : (FW.val (gv G c)).p v w) (hG : G = true) : v = c := by
  subst hG
  exact h
theorem gl {A B : Bool} (h : (A && B) = true) : A = true := by cases A <;> simp_all
theorem gr_ {A B : Bool} (h : (A && B) = true) : B = true := by cases A <;> simp_all
theorem gand {A B : Bool} (h : A = true) (k : B = true) : (A && B) = true := by simp [h, k]
theorem gnot {B : Bool} (h : B = false) : (!B) = true := by simp [h]
theorem ungnot {B : Bool} (h : (!B) = true) : B = false := by cases B <;> simp_all
section
variable {o : Oper} {vs : Nat → Value} {g : Nat} {B G : Bool}
theorem wantsT (h : o.guard = some (g, true)) (hv : vs g = .bool B) : Wants o vs = B := by cases B <;> simp [Wants, h, hv]
theorem wantsF (h : o.guard = some (g, false)) (hv : vs g = .bool B) : Wants o vs = !B := by cases B <;> simp [Wants, h, hv]
theorem wantsTg (h : o.guard = some (g, true)) (hv : vs g = gv G (.bool B)) : Wants o vs = (G && B) := by cases G <;> cases B <;> simp [Wants, h, hv, gv, undef]
theorem wantsFg (h : o.guard = some (g, false)) (hv : vs g = gv G (.bool B)) : Wants o vs = (G && !B) := by cases G <;> cases B <;> simp [Wants, h, hv, gv, undef]
end
section
variable {P : Program} {D : List (List Nat)} {L : List Nat} {dsts : List (Option Tmp)} {I J : World → Prop} {a0 : Act} {K : (Nat → Value) → World → Prop} {o : Oper} {r : List Oper} {k : Nat} {Fs : List FW} {G B C : Bool}
theorem w_as {c c' : Value} (h : c = c') (t : Walk P D L dsts I J a0 K r k (FW.val c' :: Fs)) : Walk P D L dsts I J a0 K r k (FW.val c :: Fs) := by
  subst h
  exact t
theorem w_valG (l : List (Nat × Value)) (c : Value) (hw : ∀ vs w, Known Fs k (deps D L Fs k) vs w → Wants o vs = G) (hv : G = true → ∀ vs w, Known Fs k (deps D L Fs k) vs w → Vs (rho (dsts.take k) vs a0) l) (hc : covers o (l.map (·.1)) = true)
    (hrun : G = true → ∀ w, I w → (execOp (lk l) o).run P w = .ok (.value c) w) (t : Walk P D L dsts I J a0 K r (k + 1) (FW.val (gv G c) :: Fs)) : Walk P D L dsts I J a0 K (o :: r) k Fs := by
  cases G
  · exact w_not hw t
  · exact w_val l c (fun vs w hK => ⟨hw vs w hK, hv rfl vs w hK⟩) hc (hrun rfl) t
theorem w_moveG {t : Nat} {c : Value} (ho : o.op = .move (.tmp t) ∨ o.op = .assign (.tmp t)) (hw : ∀ vs w, Known Fs k (deps D L Fs k) vs w → Wants o vs = G) (hv : G = true → ∀ vs w, Known Fs k (deps D L Fs k) vs w → rho (dsts.take k) vs a0 (.tmp t) = c)
    (t : Walk P D L dsts I J a0 K r (k + 1) (FW.val (gv G c) :: Fs)) : Walk P D L dsts I J a0 K (o :: r) k Fs := by
  cases G
  · exact w_not hw t
  · exact w_move ho (fun vs w hK => ⟨hw vs w hK, hv rfl vs w hK⟩) t
theorem w_constG {c : Value} (ho : o.op = .move (.const c) ∨ o.op = .assign (.const c)) (hw : ∀ vs w, Known Fs k (deps D L Fs k) vs w → Wants o vs = G)
    (t : Walk P D L dsts I J a0 K r (k + 1) (FW.val (gv G c) :: Fs)) : Walk P D L dsts I J a0 K (o :: r) k Fs := by
  cases G
  · exact w_not hw t
  · exact w_const ho hw t
theorem w_callG {f : FuncId} {fn : Func} {ags : Array Operand} {ts : Array TypeId} (l : List (Nat × Value)) (args : Array Value) (c : Value) (hL : k ∉ L) (hw : ∀ vs w, Known Fs k (deps D L Fs k) vs w → Wants o vs = G) (hv : G = true → ∀ vs w, Known Fs k (deps D L Fs k) vs w → Vs (rho (dsts.take k) vs a0) l) (hc : covers o (l.map (·.1)) = true)
    (hop : o.op = .call { callee := .value (.func f), args := ags, argTypes := ts }) (hf : P.funcs[f]? = some fn) (hname : (fn.name == "runtime.NumGoroutine") = false) (hb : fn.body.isSome = true)
    (h : G = true → ∀ w, I w → Calls P f args w fun e w' => e = .returned c ∧ Below w.heap.size w w') (hargs : ags.map (lk l) = args) (t : Walk P D L dsts I J a0 K r (k + 1) (FW.val (gv G c) :: Fs)) : Walk P D L dsts I J a0 K (o :: r) k Fs := by
  cases G
  · exact w_not hw t
  · exact w_call l args c hL (fun vs w hK => ⟨hw vs w hK, hv rfl vs w hK⟩) hc hop hf hname hb (h rfl) hargs t
/-- x || y, x && y. -/
theorem w_or {x y : Operand} (ho : o.op = .pick x (.const (.bool true)) y) (hw : ∀ vs w, Known Fs k (deps D L Fs k) vs w → Wants o vs = true) (hx : ∀ vs w, Known Fs k (deps D L Fs k) vs w → rho (dsts.take k) vs a0 x = .bool B) (hy : B = false → ∀ vs w, Known Fs k (deps D L Fs k) vs w → rho (dsts.take k) vs a0 y = .bool C)
    (t : Walk P D L dsts I J a0 K r (k + 1) (FW.val (.bool (B || C)) :: Fs)) : Walk P D L dsts I J a0 K (o :: r) k Fs := by
  cases B
  · exact w_pick (b := false) ho (fun vs w hK => ⟨hw vs w hK, hx vs w hK, hy rfl vs w hK⟩) (by rwa [Bool.false_or] at t)
  · exact w_pick (b := true) ho (fun vs w hK => ⟨hw vs w hK, hx vs w hK, rho_const⟩) t
theorem w_and {x y : Operand} (ho : o.op = .pick x y (.const (.bool false))) (hw : ∀ vs w, Known Fs k (deps D L Fs k) vs w → Wants o vs = true) (hx : ∀ vs w, Known Fs k (deps D L Fs k) vs w → rho (dsts.take k) vs a0 x = .bool B) (hy : B = true → ∀ vs w, Known Fs k (deps D L Fs k) vs w → rho (dsts.take k) vs a0 y = .bool C)
    (t : Walk P D L dsts I J a0 K r (k + 1) (FW.val (.bool (B && C)) :: Fs)) : Walk P D L dsts I J a0 K (o :: r) k Fs := by
  cases B
  · exact w_pick (b := false) ho (fun vs w hK => ⟨hw vs w hK, hx vs w hK, rho_const⟩) t
  · exact w_pick (b := true) ho (fun vs w hK => ⟨hw vs w hK, hx vs w hK, hy rfl vs w hK⟩) (by rwa [Bool.true_and] at t)
theorem w_orG {x y : Operand} (ho : o.op = .pick x (.const (.bool true)) y) (hw : ∀ vs w, Known Fs k (deps D L Fs k) vs w → Wants o vs = G) (hx : G = true → ∀ vs w, Known Fs k (deps D L Fs k) vs w → rho (dsts.take k) vs a0 x = .bool B) (hy : G = true → B = false → ∀ vs w, Known Fs k (deps D L Fs k) vs w → rho (dsts.take k) vs a0 y = .bool C)
    (t : Walk P D L dsts I J a0 K r (k + 1) (FW.val (gv G (.bool (B || C))) :: Fs)) : Walk P D L dsts I J a0 K (o :: r) k Fs := by
  cases G
  · exact w_not hw t
  · exact w_or ho hw (hx rfl) (hy rfl) t
theorem w_andG {x y : Operand} (ho : o.op = .pick x y (.const (.bool false))) (hw : ∀ vs w, Known Fs k (deps D L Fs k) vs w → Wants o vs = G) (hx : G = true → ∀ vs w, Known Fs k (deps D L Fs k) vs w → rho (dsts.take k) vs a0 x = .bool B) (hy : G = true → B = true → ∀ vs w, Known Fs k (deps D L Fs k) vs w → rho (dsts.take k) vs a0 y = .bool C)
    (t : Walk P D L dsts I J a0 K r (k + 1) (FW.val (gv G (.bool (B && C))) :: Fs)) : Walk P D L dsts I J a0 K (o :: r) k Fs := by
  cases G
  · exact w_not hw t
  · exact w_and ho hw (hx rfl) (hy rfl) t
/-- A fact that is told where a condition holds. -/
def FW.imp (G : Bool) (F : FW) : FW := ⟨fun v w => G = true → F.p v w, fun v w w' h hb hG => F.st v w w' (h hG) hb, none, (fun _ h => by cases h), F.fix, fun h v w w' hp hG => F.fx h v w w' (hp hG)⟩
theorem w_anyG (F : FW) (hL : k ∉ L) (hw : ∀ vs w, Known Fs k (deps D L Fs k) vs w → Wants o vs = G) (h : G = true → ∀ vs w, I w → Known Fs k (deps D L Fs k) vs w → Wants o vs = true → Ob P (dsts.take k) o vs a0 w (fun v w' => Below w.heap.size w w' ∧ F.p v w')) (t : Walk P D L dsts I J a0 K r (k + 1) (FW.imp G F :: Fs)) : Walk P D L dsts I J a0 K (o :: r) k Fs := by
  refine w_any (FW.imp G F) hL (fun vs w hI hK => ?_) t
  cases G
  · exact ob_not (hw vs w hK) ⟨Below.refl _ _, fun h => by cases h⟩
  · have h2 := h rfl vs w hI hK (hw vs w hK)
    have e : (fun v w' => Below w.heap.size w w' ∧ (FW.imp true F).p v w') = (fun v w' => Below w.heap.size w w' ∧ F.p v w') := by
      funext v w'
      exact propext ⟨fun q => ⟨q.1, q.2 rfl⟩, fun q => ⟨q.1, fun _ => q.2⟩⟩
    rw [e]
    exact h2
end
/-- A call through a function's value. -/
theorem ob_callv {P : Program} {dsts : List (Option Tmp)} {vs : Nat → Value} {a0 : Act} {o : Oper} {w : World} {R : Value → World → Prop} {f : FuncId} {fn : Func} {g : Operand} {ags : Array Operand} {ts : Array TypeId} {cp : Array Value} (l : List (Nat × Value)) (args : Array Value) (hw : Wants o vs = true) (hv : Vs (rho dsts vs a0) l) (hc : covers o (l.map (·.1)) = true)
    (hop : o.op = .call { callee := .value g, args := ags, argTypes := ts }) (hg : lk l g = .func (.func f) #[] cp) (hf : P.funcs[f]? = some fn) (hname : (fn.name == "runtime.NumGoroutine") = false) (hb : fn.body.isSome = true) (hargs : ags.map (lk l) ++ cp = args)
    (h : Calls P f args w fun e w' => ∃ v, e = .returned v ∧ R v w') : Ob P dsts o vs a0 w R := by
  unfold Ob
  have he := enters_ hf hname hb args w
  have hrun : (execOp (lk l) o).run P w = .ok (.enter f args) w := by
    unfold execOp
    simp [hop, resolve, Deferred.ofValue, invoke, hg, hargs, he]
  rw [if_pos hw, lk_of (fun x hx => rho_else x hx) hv hc, hrun]
  exact h
section
variable {P : Program} {D : List (List Nat)} {L : List Nat} {dsts : List (Option Tmp)} {I J : World → Prop} {a0 : Act} {K : (Nat → Value) → World → Prop} {o : Oper} {r : List Oper} {k : Nat} {Fs : List FW} {G : Bool}
theorem w_callv {f : FuncId} {fn : Func} {g : Operand} {ags : Array Operand} {ts : Array TypeId} {cp : Array Value} (l : List (Nat × Value)) (args : Array Value) (c : Value) (hL : k ∉ L) (hv : ∀ vs w, Known Fs k (deps D L Fs k) vs w → Wants o vs = true ∧ Vs (rho (dsts.take k) vs a0) l) (hc : covers o (l.map (·.1)) = true)
    (hop : o.op = .call { callee := .value g, args := ags, argTypes := ts }) (hg : lk l g = .func (.func f) #[] cp) (hf : P.funcs[f]? = some fn) (hname : (fn.name == "runtime.NumGoroutine") = false) (hb : fn.body.isSome = true)
    (h : ∀ w, I w → Calls P f args w fun e w' => e = .returned c ∧ Below w.heap.size w w') (hargs : ags.map (lk l) ++ cp = args) (t : Walk P D L dsts I J a0 K r (k + 1) (FW.val c :: Fs)) : Walk P D L dsts I J a0 K (o :: r) k Fs :=
  ⟨_, fun vs w hbl _ _ hK => ob_callv l args (hv vs w hK).1 (hv vs w hK).2 hc hop hg hf hname hb hargs ((h w hbl).mono fun e w' ⟨he, hw⟩ => ⟨c, he, fun h => absurd h hL, fun _ => hw, rfl⟩), t⟩
theorem w_callvG {f : FuncId} {fn : Func} {g : Operand} {ags : Array Operand} {ts : Array TypeId} {cp : Array Value} (l : List (Nat × Value)) (args : Array Value) (c : Value) (hL : k ∉ L) (hw : ∀ vs w, Known Fs k (deps D L Fs k) vs w → Wants o vs = G) (hv : G = true → ∀ vs w, Known Fs k (deps D L Fs k) vs w → Vs (rho (dsts.take k) vs a0) l) (hc : covers o (l.map (·.1)) = true)
    (hop : o.op = .call { callee := .value g, args := ags, argTypes := ts }) (hg : lk l g = .func (.func f) #[] cp) (hf : P.funcs[f]? = some fn) (hname : (fn.name == "runtime.NumGoroutine") = false) (hb : fn.body.isSome = true)
    (h : G = true → ∀ w, I w → Calls P f args w fun e w' => e = .returned c ∧ Below w.heap.size w w') (hargs : ags.map (lk l) ++ cp = args) (t : Walk P D L dsts I J a0 K r (k + 1) (FW.val (gv G c) :: Fs)) : Walk P D L dsts I J a0 K (o :: r) k Fs := by
  cases G
  · exact w_not hw t
  · exact w_callv l args c hL (fun vs w hK => ⟨hw vs w hK, hv rfl vs w hK⟩) hc hop hg hf hname hb (h rfl) hargs t
end
theorem margs0 {ags : Array Operand} {l : List (Nat × Value)} {args : Array Value} (h : ags.toList.map (lk l) = args.toList) : ags.map (lk l) ++ #[] = args := by
  rw [Array.append_empty]
  exact margs h
theorem margsC {ags : Array Operand} {l : List (Nat × Value)} {args cp : Array Value} (h : ags.toList.map (lk l) ++ cp.toList = args.toList) : ags.map (lk l) ++ cp = args := by
  rw [← Array.toList_inj, Array.toList_append, Array.toList_map]
  exact h
/-- The facts that are kept; the others are forgotten. -/
def maskF : List Bool → List FW → List FW
  | true :: bs, F :: Fs => F :: maskF bs Fs
  | false :: bs, _ :: Fs => FW.any :: maskF bs Fs
  | [], Fs => Fs
  | _ :: _, [] => []
theorem maskF_length : ∀ (bs : List Bool) (Fs : List FW), (maskF bs Fs).length = Fs.length
  | [], _ => rfl
  | true :: bs, [] => rfl
  | false :: bs, [] => rfl
  | true :: bs, F :: Fs => by simp [maskF, maskF_length bs Fs]
  | false :: bs, F :: Fs => by simp [maskF, maskF_length bs Fs]
theorem maskF_getD : ∀ (bs : List Bool) (Fs : List FW) (j : Nat), (maskF bs Fs).getD j FW.any = Fs.getD j FW.any ∨ (maskF bs Fs).getD j FW.any = FW.any
  | [], _, _ => .inl rfl
  | true :: bs, [], _ => .inl rfl
  | false :: bs, [], _ => .inl rfl
  | true :: bs, F :: Fs, 0 => .inl rfl
  | false :: bs, F :: Fs, 0 => .inr rfl
  | true :: bs, F :: Fs, j + 1 => maskF_getD bs Fs j
  | false :: bs, F :: Fs, j + 1 => maskF_getD bs Fs j
section
variable {P : Program} {D : List (List Nat)} {L : List Nat} {dsts : List (Option Tmp)} {I J : World → Prop} {a0 : Act} {Fs : List FW} {k : Nat}
/-- The end; of the values that are not kept nothing is said. -/
theorem w_endM (bs : List Bool) {Q : Act → World → Prop} (hl : dsts.length = Fs.length) (hk : Fs.length = k) (hd0 : endB D L Fs k = true) (h : ∀ vs w, I w → (∀ j, j < k → useE D L (Fs.getD (k - 1 - j) FW.any).fix j k = true → (Fs.getD (k - 1 - j) FW.any).p (vs j) w) → Q (finL dsts (maskF bs Fs.reverse) 0 vs a0) w) : Walk P D L dsts I J a0 (fun vs w => Q (putL dsts 0 vs a0) w) [] k Fs := fun vs w hb hf => by
  have hd := endB_spec hd0
  show Q (putL dsts 0 vs a0) w
  rw [finL_eq vs w dsts (maskF bs Fs.reverse) 0 a0 (by rw [maskF_length]; simp [hl]) (fun j hj => by
    rw [maskF_length] at hj
    rcases maskF_getD bs Fs.reverse j with e | e
    · rw [e, Nat.zero_add]
      have hj' : j < Fs.length := by simpa using hj
      have h1 := hd j (by omega)
      have h2 := hf j (by omega)
      rw [List.getD_eq_getElem?_getD, List.getElem?_reverse hj']
      rw [List.getD_eq_getElem?_getD] at h1 h2
      rw [hk]
      exact h1.imp id h2
    · rw [e]
      exact .inl rfl)]
  exact h vs w hb hf
end
theorem finL_imp {d : Option Tmp} {r : List (Option Tmp)} {Fs : List FW} {n : Nat} {vs : Nat → Value} {a : Act} {G : Bool} {F : FW} : finL (d :: r) (FW.imp G F :: Fs) n vs a = finL r Fs (n + 1) vs (a.put d (vs n)) := rfl
section
variable {P : Program} {o : Oper} {l : List (Nat × Value)} {x y : Operand} {t : TypeId} {m : Nat} {a b : ByteArray} {r : Bool} {w : World}
theorem op_str_eq (ho : o.op = .binOp .eql t x y m) (hx : lk l x = .string a) (hy : lk l y = .string b) (h : decide (a = b) = r) : (execOp (lk l) o).run P w = .ok (.value (.bool r)) w := by
  by_cases e : a = b
  · rw [decide_eq_true e] at h
    subst h
    exact run_eql_same ho hx hy e
  · rw [decide_eq_false e] at h
    subst h
    exact op_str_ne ho hx hy e
theorem op_str_nq (ho : o.op = .binOp .neq t x y m) (hx : lk l x = .string a) (hy : lk l y = .string b) (h : (!decide (a = b)) = r) : (execOp (lk l) o).run P w = .ok (.value (.bool r)) w := by
  by_cases e : a = b
  · rw [decide_eq_true e] at h
    subst h
    exact run_neq_same ho hx hy e
  · rw [decide_eq_false e] at h
    subst h
    exact op_str_neq ho hx hy e
theorem op_not {b : Bool} (ho : o.op = .unOp .not t x) (hx : lk l x = .bool b) (h : (!b) = r) : (execOp (lk l) o).run P w = .ok (.value (.bool r)) w := by
  subst h
  unfold execOp
  simp [ho, hx, Op.unary]
end
end Go.Proofs.Ytnkeijdpjcclcaa.Kit
