/- The walk of the law KeyChecks. -/
import Derived.Test.YtgnicgcdhldmmaaKeyC
import Derived.Test.YtgnicgcdhldmmaaKeyD
namespace Go.Proofs.Ytgnicgcdhldmmaa.Key
set_option linter.unusedVariables false
set_option linter.unusedSimpArgs false
open Go.Proofs.Ytgnicgcdhldmmaa.Kit Go.Proofs.Ytgnicgcdhldmmaa.Num Go.RowKit Go.Proofs.YtgnicgcdhldmmaaW.PrintWords Go.Proofs.YtgnicgcdhldmmaaW.PrintLast Go.Proofs.YtgnicgcdhldmmaaW.PrintMore NumPure
theorem run_int_neg {P : Program} {o : Oper} {l : List (Nat × Value)} {x : Operand} {t : TypeId} {k : IntKind} {a c : Int} {w : World} (ho : o.op = .unOp .neg t x) (hx : lk l x = .int k a) (h : k.wrap (-a) = c) : (execOp (lk l) o).run P w = .ok (.value (.int k c)) w := by
  subst h
  unfold execOp
  simp [ho, hx, Op.unary, Op.intArith]
theorem run_str_eql {P : Program} {o : Oper} {l : List (Nat × Value)} {x y : Operand} {t : TypeId} {m : Nat} {a b : ByteArray} {w : World} (ho : o.op = .binOp .eql t x y m) (hx : lk l x = .string a) (hy : lk l y = .string b) (h : a ≠ b) : (execOp (lk l) o).run P w = .ok (.value (.bool false)) w := by
  unfold execOp
  simp [ho, hx, hy, eqGuard, binOp, Op.stringOp]
  intro e
  apply h
  exact ByteArray.ext (Array.toList_inj.1 (by rw [← ByteArray.toList_eq, ← ByteArray.toList_eq]; exact e))
theorem run_str_lss {P : Program} {o : Oper} {l : List (Nat × Value)} {x y : Operand} {t : TypeId} {m : Nat} {a b : ByteArray} {r : Bool} {w : World} (ho : o.op = .binOp .lss t x y m) (hx : lk l x = .string a) (hy : lk l y = .string b) (h : Op.bytesLess a.toList b.toList = r) : (execOp (lk l) o).run P w = .ok (.value (.bool r)) w := by
  subst h
  unfold execOp
  simp [ho, hx, hy, eqGuard, binOp, Op.stringOp]
theorem run_bool_eql {P : Program} {o : Oper} {l : List (Nat × Value)} {x y : Operand} {t : TypeId} {m : Nat} {a b r : Bool} {w : World} (ho : o.op = .binOp .eql t x y m) (hx : lk l x = .bool a) (hu : P.underlying t = some .bool) (hy : lk l y = .bool b) (h : (a == b) = r) : (execOp (lk l) o).run P w = .ok (.value (.bool r)) w := by
  subst h
  unfold execOp
  simp [ho, hx, hy, eqGuard, binOp, Op.equal]
  unfold Op.maxDepth Op.equalIn
  simp only [Sem.run_bind, run_underlying hu, Sem.run_pure, Result.andThen_ok]
  try rfl
theorem run_bool_neq {P : Program} {o : Oper} {l : List (Nat × Value)} {x y : Operand} {t : TypeId} {m : Nat} {a b r : Bool} {w : World} (ho : o.op = .binOp .neq t x y m) (hx : lk l x = .bool a) (hu : P.underlying t = some .bool) (hy : lk l y = .bool b) (h : (a != b) = r) : (execOp (lk l) o).run P w = .ok (.value (.bool r)) w := by
  subst h
  unfold execOp
  simp [ho, hx, hy, eqGuard, binOp, Op.equal]
  unfold Op.maxDepth Op.equalIn
  simp only [Sem.run_bind, run_underlying hu, Sem.run_pure, Result.andThen_ok]
  try rfl
structure Box3 (g : Nat) (x y z : Ent) (w : World) : Prop where
  a : w.heap[g]? = some (.cells x.cells.toArray 24)
  b : w.heap[g + 1]? = some (.cells y.cells.toArray 24)
  c : w.heap[g + 2]? = some (.cells z.cells.toArray 24)
theorem Box3.below {g : Nat} {x y z : Ent} {w w' : World} (h : Box3 g x y z w) (hb : Below w.heap.size w w') : Box3 g x y z w' := ⟨box_below h.a hb, box_below h.b hb, box_below h.c hb⟩
theorem box3_new (w : World) (x y z : Ent) : Box3 w.heap.size x y z (((w.alloc (.cells x.cells.toArray 24)).alloc (.cells y.cells.toArray 24)).alloc (.cells z.cells.toArray 24)) :=
  ⟨(heap_alloc_old _ _ (by simp; omega)).trans ((heap_alloc_old _ _ (by simp)).trans (heap_alloc_new w _)), (heap_alloc_old _ _ (by simp)).trans (by have := heap_alloc_new (w.alloc (.cells x.cells.toArray 24)) (.cells y.cells.toArray 24); simpa using this), by have := heap_alloc_new ((w.alloc (.cells x.cells.toArray 24)).alloc (.cells y.cells.toArray 24)) (.cells z.cells.toArray 24); simpa using this⟩
theorem load_ent {w : World} {g : Nat} {x : Ent} (h : w.heap[g]? = some (.cells x.cells.toArray 24)) : (Instr.loadAt 24 (.pointer (some ⟨g, 0, none⟩))).run Try.prog w = .ok x.ag w :=
  run_loadAt_mid w _ 0 24 x.cells _ (range_block h) Try.underlying24 rfl (by
    show _ = some 4
    kernel_rfl)
theorem cell_ent {w : World} {g i : Nat} {x : Ent} {v : Value} (h : w.heap[g]? = some (.cells x.cells.toArray 24)) (hv : x.cells[i]? = some v) : w.cell? ⟨g, i, none⟩ = some v := by
  simp only [World.cell?, h]
  simpa using hv
end Go.Proofs.Ytgnicgcdhldmmaa.Key

