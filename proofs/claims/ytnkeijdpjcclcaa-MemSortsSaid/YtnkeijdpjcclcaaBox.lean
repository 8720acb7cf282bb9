/- Structs in a variable of the call's own: stored whole, loaded whole, handed back. -/
import Derived.Test.YtnkeijdpjcclcaaStr2
import Derived.Laws.Tables
import Derived.Deep.MidRow
namespace Go.Proofs.Ytnkeijdpjcclcaa.Kit
set_option linter.unusedVariables false
set_option linter.unusedSimpArgs false
open Go.RowKit Go.Proofs.YtnkeijdpjcclcaaW.PrintWords Go.Proofs.YtnkeijdpjcclcaaW.PrintLast Go.Proofs.YtnkeijdpjcclcaaW.PrintMore
/-- One block is written anew; nothing else is turned. -/
structure Set1 (w : World) (g : Nat) (o : Obj) (w' : World) : Prop where
  at_ : w'.heap[g]? = some o
  other : ∀ j, j ≠ g → w'.heap[j]? = w.heap[j]?
  size : w'.heap.size = w.heap.size
  os : w'.os = w.os
  tape : w'.tape = w.tape
  output : w'.output = w.output
theorem Set1.below {w w' : World} {g : Nat} {o : Obj} (h : Set1 w g o w') {B : Nat} (hB : B ≤ g) : Below B w w' :=
  ⟨h.os, h.tape, h.output, by rw [h.size]; exact Nat.le_refl _, fun k hk => h.other k (by omega)⟩
/-- What was turned since a world stays so where a block of since then is written. -/
theorem Set1.then_ {w0 w w' : World} {g : Nat} {o : Obj} (h : Set1 w g o w') (hb : Below w0.heap.size w0 w) (hB : w0.heap.size ≤ g) : Below w0.heap.size w0 w' :=
  ⟨h.os.trans hb.os, h.tape.trans hb.tape, h.output.trans hb.output, by rw [h.size]; exact hb.size, fun k hk => (h.other k (by omega)).trans (hb.block k hk)⟩
theorem Set1.keep {w w' : World} {g j : Nat} {o p : Obj} (h : Set1 w g o w') (hj : w.heap[j]? = some p) (hne : j ≠ g) : w'.heap[j]? = some p := (h.other j hne).trans hj
theorem Set1.gr {k : IntKind} {e : TypeId} {w w' : World} {g B : Nat} {o : Obj} {v : Value} {xs : List Int} (h : Set1 w g o w') (hv : Gr k e w B v xs) (hne : v.ownBlock ≠ some g) : Gr k e w' B v xs :=
  gr_move hv fun j hj => h.other j (fun e => hne (by rw [← e]; exact hj))
theorem set1_row {w : World} {g : Nat} {old cs : Array Value} {t : TypeId} {fr : Nat × Nat} (hg : w.heap[g]? = some (.cells old t fr)) : Set1 w g (.cells cs t fr) (w.setRow g cs) := by
  refine ⟨setRow_heap w g old cs t fr hg, fun j hj => ?_, by simp [World.setRow], rfl, rfl, rfl⟩
  simp only [World.setRow]
  rw [Array.getElem?_modify, if_neg (fun e => hj e.symm)]
section
variable {P : Program} {ops : Array Oper} {rest : List Oper} {op : Oper} {a : Act} {w : World} {Q : Exit → Act → World → Prop}
theorem wpList_store_box (hgd : op.guard = none) (ty : TypeId) (x y : Operand) (ho : op.op = .store ty x y) (g : Nat) (cs : List Value) (hx : a.eval x = .pointer (some ⟨g, 0, none⟩)) (hy : a.eval y = .agg cs.toArray)
    {old : List Value} {t : TypeId} (hg : w.heap[g]? = some (.cells old.toArray t (0, 0))) (hl : old.length = cs.length) (hi : (P.info? ty).map (·.size) = some cs.length) (h1 : cs.all (·.oneCell') = true)
    (h : ∀ w', Set1 w g (.cells cs.toArray t (0, 0)) w' → wpList P ops Q rest (a.put op.dst undef) w') : wpList P ops Q (op :: rest) a w := by
  refine wpList_plain hgd fun _ hK => ?_
  refine wp_store_row (P := P) ty x y ho g cs.toArray hx hy t old.toArray hg (by simpa using hi) (by simpa using hl) (by simpa using h1) ?_
  exact hK _ _ (h _ (set1_row hg))
theorem wpList_load_box (hgd : op.guard = none) (ty : TypeId) (x : Operand) (ho : op.op = .load ty x) (g : Nat) (cs : List Value) (hx : a.eval x = .pointer (some ⟨g, 0, none⟩)) {t : TypeId} {fr : Nat × Nat} {d : TypeDesc}
    (hg : w.heap[g]? = some (.cells cs.toArray t fr)) (hu : P.underlying ty = some d) (hd : d.isRow = true) (hi : (P.info? ty).map (·.size) = some cs.length)
    (h : wpList P ops Q rest (a.put op.dst (.agg cs.toArray)) w) : wpList P ops Q (op :: rest) a w :=
  wpList_load_mid hgd ty x ho g 0 hx cs d (range_block hg) hu hd hi h
end
theorem storeVar_cell {P : Program} (ty : TypeId) (hi : (P.info? ty).map (·.size) = some 1) (a : Addr) (v o : Value) (hv : v.oneCell' = true) (w : World) (hc : w.cell? a = some o) (hf : w.frozen? a = false) : (storeVar ty a v).run P w = .ok () (w.setCell a v) := by
  cases hq : P.info? ty with
  | none => simp [hq] at hi
  | some i =>
    have hs : i.size = 1 := by simp [hq] at hi; exact hi
    have hcv : v.cells = #[v] := by cases v <;> simp_all [Value.oneCell', Value.cells]
    have h0 : a.add 0 = a := by simp [Addr.add]
    have hst : (store (a.add 0) v).run P w = .ok () (w.setCell a v) := by
      rw [h0, run_store P w a v _ hv, hc]
      simp [hf]
    simp [storeVar, sizeOf, typeInfo, hq, hcv, hs, storeCells, hst]
section
variable {P : Program} {ops : Array Oper} {rest : List Oper} {op : Oper} {a : Act} {w : World} {Q : Exit → Act → World → Prop}
theorem wpList_store_cell (hgd : op.guard = none) (ty : TypeId) (x y : Operand) (ho : op.op = .store ty x y) (g i : Nat) (v : Value) (hx : a.eval x = .pointer (some ⟨g, i, none⟩)) (hy : a.eval y = v) (hv : v.oneCell' = true)
    {old : List Value} {t : TypeId} (hg : w.heap[g]? = some (.cells old.toArray t (0, 0))) (hl : i < old.length) (hi : (P.info? ty).map (·.size) = some 1)
    (h : ∀ w', Set1 w g (.cells (old.set i v).toArray t (0, 0)) w' → wpList P ops Q rest (a.put op.dst undef) w') : wpList P ops Q (op :: rest) a w := by
  refine wpList_plain hgd fun K hK => ?_
  have hc : w.cell? ⟨g, i, none⟩ = some old[i] := by simp [World.cell?, hg, hl]
  have hf : w.frozen? ⟨g, i, none⟩ = false := by simp [World.frozen?, hg]
  have hst := storeVar_cell (P := P) ty hi ⟨g, i, none⟩ v _ hv w hc hf
  have hs1 : Set1 w g (.cells (old.set i v).toArray t (0, 0)) (w.setCell ⟨g, i, none⟩ v) := by
    rw [setCell_eq_setRow w g i old.toArray t (0, 0) v hg, show old.toArray.setIfInBounds i v = (old.set i v).toArray by simp]
    exact set1_row hg
  unfold Oper.wp execOp
  simp only [ho, hx, hy, Instr.storeAt, Instr.sureAddr, Sem.run_bind, Sem.run_pure, Result.andThen_ok, hst]
  exact hK _ _ (h _ hs1)
end
theorem loadVar_box {P : Program} {w : World} {g : Nat} {t ty : TypeId} {cs : List Value} {fr : Nat × Nat} {d : TypeDesc} (h : w.heap[g]? = some (.cells cs.toArray t fr)) (hu : P.underlying ty = some d) (hd : d.isRow = true) (hi : (P.info? ty).map (·.size) = some cs.length) :
    (loadVar ty ⟨g, 0, none⟩).run P w = .ok (.agg cs.toArray) w := run_loadVar_mid w g 0 ty cs d (range_block h) hu hd hi
theorem results_box {P : Program} {fn : Func} {p : Tmp} {ty : TypeId} {tmps : Array Value} {w : World} {g : Nat} {v : Value} (h : fn.results = #[.cell p ty]) (hp : tmps.getD p undef = .pointer (some ⟨g, 0, none⟩)) (hl : (loadVar ty ⟨g, 0, none⟩).run P w = .ok v w) :
    (results fn tmps).run P w = .ok v w := by
  have hp' : tmps[p]?.getD undef = .pointer (some ⟨g, 0, none⟩) := by simpa using hp
  simp only [results, h]
  simp [Sem.run_bind, Result.andThen, hp', asAddr, hl]
theorem results_box_tmp {P : Program} {fn : Func} {p u : Tmp} {ty : TypeId} {tmps : Array Value} {w : World} {g : Nat} {v : Value} (h : fn.results = #[.cell p ty, .tmp u]) (hp : tmps.getD p undef = .pointer (some ⟨g, 0, none⟩)) (hl : (loadVar ty ⟨g, 0, none⟩).run P w = .ok v w) :
    (results fn tmps).run P w = .ok (.tuple #[v, tmps.getD u undef]) w := by
  rw [results_cell_tmp h, hp]
  simp [asAddr, hl, Result.andThen]
theorem results_box_tmp2 {P : Program} {fn : Func} {p u u2 : Tmp} {ty : TypeId} {tmps : Array Value} {w : World} {g : Nat} {v : Value} (h : fn.results = #[.cell p ty, .tmp u, .tmp u2]) (hp : tmps.getD p undef = .pointer (some ⟨g, 0, none⟩)) (hl : (loadVar ty ⟨g, 0, none⟩).run P w = .ok v w) :
    (results fn tmps).run P w = .ok (.tuple #[v, tmps.getD u undef, tmps.getD u2 undef]) w := by
  have hp' : tmps[p]?.getD undef = .pointer (some ⟨g, 0, none⟩) := by simpa using hp
  simp only [results, h]
  simp [Sem.run_bind, Result.andThen, hp', asAddr, hl]
theorem results_box2_tmp {P : Program} {fn : Func} {p p2 u : Tmp} {ty ty2 : TypeId} {tmps : Array Value} {w : World} {g g2 : Nat} {v v2 : Value} (h : fn.results = #[.cell p ty, .cell p2 ty2, .tmp u]) (hp : tmps.getD p undef = .pointer (some ⟨g, 0, none⟩)) (hl : (loadVar ty ⟨g, 0, none⟩).run P w = .ok v w)
    (hp2 : tmps.getD p2 undef = .pointer (some ⟨g2, 0, none⟩)) (hl2 : (loadVar ty2 ⟨g2, 0, none⟩).run P w = .ok v2 w) :
    (results fn tmps).run P w = .ok (.tuple #[v, v2, tmps.getD u undef]) w := by
  have hp' : tmps[p]?.getD undef = .pointer (some ⟨g, 0, none⟩) := by simpa using hp
  have hp2' : tmps[p2]?.getD undef = .pointer (some ⟨g2, 0, none⟩) := by simpa using hp2
  simp only [results, h]
  simp [Sem.run_bind, Result.andThen, hp', asAddr, hl, hp2', hl2]
end Go.Proofs.Ytnkeijdpjcclcaa.Kit
