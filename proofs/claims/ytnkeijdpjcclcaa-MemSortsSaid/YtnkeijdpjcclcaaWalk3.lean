/- More operations in regions: texts compared, truth values compared, minus. -/
import Derived.Test.YtnkeijdpjcclcaaWalk2
namespace Go.Proofs.Ytnkeijdpjcclcaa.Kit
set_option linter.unusedVariables false
set_option linter.unusedSimpArgs false
open Go.RowKit Go.Proofs.YtnkeijdpjcclcaaW.PrintWords Go.Proofs.YtnkeijdpjcclcaaW.PrintLast Go.Proofs.YtnkeijdpjcclcaaW.PrintMore
theorem box_stays {w w' : World} {g : Nat} {o : Obj} (h : w.heap[g]? = some o) (hb : Below w.heap.size w w') : w'.heap[g]? = some o := by rw [hb.block g (mk_lt h)]; exact h
theorem op_int_neg {P : Program} {o : Oper} {l : List (Nat × Value)} {x : Operand} {t : TypeId} {k : IntKind} {a c : Int} {w : World} (ho : o.op = .unOp .neg t x) (hx : lk l x = .int k a) (h : k.wrap (-a) = c) : (execOp (lk l) o).run P w = .ok (.value (.int k c)) w := by
  subst h
  unfold execOp
  simp [ho, hx, Op.unary, Op.intArith]
theorem op_str_ne {P : Program} {o : Oper} {l : List (Nat × Value)} {x y : Operand} {t : TypeId} {m : Nat} {a b : ByteArray} {w : World} (ho : o.op = .binOp .eql t x y m) (hx : lk l x = .string a) (hy : lk l y = .string b) (h : a ≠ b) : (execOp (lk l) o).run P w = .ok (.value (.bool false)) w := by
  unfold execOp
  simp [ho, hx, hy, eqGuard, binOp, Op.stringOp]
  intro e
  apply h
  exact ByteArray.ext (Array.toList_inj.1 (by rw [← ByteArray.toList_eq, ← ByteArray.toList_eq]; exact e))
theorem op_str_neq {P : Program} {o : Oper} {l : List (Nat × Value)} {x y : Operand} {t : TypeId} {m : Nat} {a b : ByteArray} {w : World} (ho : o.op = .binOp .neq t x y m) (hx : lk l x = .string a) (hy : lk l y = .string b) (h : a ≠ b) : (execOp (lk l) o).run P w = .ok (.value (.bool true)) w := by
  unfold execOp
  simp [ho, hx, hy, eqGuard, binOp, Op.stringOp]
  intro e
  apply h
  exact ByteArray.ext (Array.toList_inj.1 (by rw [← ByteArray.toList_eq, ← ByteArray.toList_eq]; exact e))
theorem op_str_lss {P : Program} {o : Oper} {l : List (Nat × Value)} {x y : Operand} {t : TypeId} {m : Nat} {a b : ByteArray} {r : Bool} {w : World} (ho : o.op = .binOp .lss t x y m) (hx : lk l x = .string a) (hy : lk l y = .string b) (h : Op.bytesLess a.toList b.toList = r) : (execOp (lk l) o).run P w = .ok (.value (.bool r)) w := by
  subst h
  unfold execOp
  simp [ho, hx, hy, eqGuard, binOp, Op.stringOp]
theorem op_bool_eql {P : Program} {o : Oper} {l : List (Nat × Value)} {x y : Operand} {t : TypeId} {m : Nat} {a b r : Bool} {w : World} (ho : o.op = .binOp .eql t x y m) (hx : lk l x = .bool a) (hu : P.underlying t = some .bool) (hy : lk l y = .bool b) (h : (a == b) = r) : (execOp (lk l) o).run P w = .ok (.value (.bool r)) w := by
  subst h
  unfold execOp
  simp [ho, hx, hy, eqGuard, binOp, Op.equal]
  unfold Op.maxDepth Op.equalIn
  simp only [Sem.run_bind, run_underlying hu, Sem.run_pure, Result.andThen_ok]
  try rfl
theorem op_bool_neq {P : Program} {o : Oper} {l : List (Nat × Value)} {x y : Operand} {t : TypeId} {m : Nat} {a b r : Bool} {w : World} (ho : o.op = .binOp .neq t x y m) (hx : lk l x = .bool a) (hu : P.underlying t = some .bool) (hy : lk l y = .bool b) (h : (a != b) = r) : (execOp (lk l) o).run P w = .ok (.value (.bool r)) w := by
  subst h
  unfold execOp
  simp [ho, hx, hy, eqGuard, binOp, Op.equal]
  unfold Op.maxDepth Op.equalIn
  simp only [Sem.run_bind, run_underlying hu, Sem.run_pure, Result.andThen_ok]
  try rfl
end Go.Proofs.Ytnkeijdpjcclcaa.Kit
