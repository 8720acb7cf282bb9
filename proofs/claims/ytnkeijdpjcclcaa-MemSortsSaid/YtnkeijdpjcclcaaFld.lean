/- Fields' addresses, stores, structs built: operations in regions. -/
import Derived.Test.YtnkeijdpjcclcaaSt
namespace Go.Proofs.Ytnkeijdpjcclcaa.Kit
set_option linter.unusedVariables false
set_option linter.unusedSimpArgs false
open Go.RowKit Go.Proofs.YtnkeijdpjcclcaaW.PrintWords Go.Proofs.YtnkeijdpjcclcaaW.PrintLast Go.Proofs.YtnkeijdpjcclcaaW.PrintMore
section
variable {P : Program} {o : Oper} {l : List (Nat × Value)} {x y : Operand} {t t2 : TypeId} {m : Nat} {k k2 : IntKind} {a b c : Int} {w : World}
theorem op_field {fs : Array Field} {f : Field} {i g off d : Nat} (ho : o.op = .fieldAddr t x i) (hx : lk l x = .pointer (some ⟨g, d, none⟩)) (hu : P.underlying t = some (.struct fs)) (hf : fs[i]? = some f) (hof : f.offset = off) (hft : f.type = t2) (hs : (P.info? t2).map (·.size) = some m) (hm : m ≠ 0) :
    (execOp (lk l) o).run P w = .ok (.value (.pointer (some ⟨g, d + off, none⟩))) w := by
  subst hof
  subst hft
  cases hq : P.info? f.type with
  | none => simp [hq] at hs
  | some i0 =>
    have hs2 : i0.size ≠ 0 := by simp [hq] at hs; omega
    unfold execOp
    simp [ho, hx, Instr.fieldAt, run_underlying hu, hf, Instr.sureAddr, fieldPlace, sizeOf, typeInfo, hq, hs2, Addr.add]
theorem op_or (ho : o.op = .binOp .or t x y m) (hx : lk l x = .int k a) (hy : lk l y = .int k b) (h : Go.bits .or k a b = c) : (execOp (lk l) o).run P w = .ok (.value (.int k c)) w := by
  subst h
  unfold execOp
  have e : Op.intBits .or k a b = pure (.int k (Go.bits .or k a b)) := rfl
  simp [ho, hx, hy, eqGuard, binOp, Op.intArith, e]
theorem op_build {ps : Array (Nat × Operand)} {cells : Array Value} (ho : o.op = .build t ps) (h : P.built t (ps.toList.map fun p => (p.1, lk l p.2)) = some cells) : (execOp (lk l) o).run P w = .ok (.value (.agg cells)) w := by
  unfold execOp
  have := run_build w t (ps.map fun (x : Nat × Operand) => (x.1, lk l x.2)) cells (by rw [Array.toList_map]; exact h)
  simp [ho, this]
/-- A store of one cell. -/
theorem ob_store_cell {dsts : List (Option Tmp)} {vs : Nat → Value} {a0 : Act} {R : Value → World → Prop} (l : List (Nat × Value)) {ad : Addr} {v old : Value} (hw : Wants o vs = true) (hv : Vs (rho dsts vs a0) l) (hc : covers o (l.map (·.1)) = true)
    (ho : o.op = .store t x y) (hx : lk l x = .pointer (some ad)) (hy : lk l y = v) (hv1 : v.oneCell' = true) (hcell : w.cell? ad = some old) (hfr : w.frozen? ad = false) (hi : (P.info? t).map (·.size) = some 1)
    (hR : R undef (w.setCell ad v)) : Ob P dsts o vs a0 w R := by
  have hst := storeVar_cell (P := P) t hi ad v _ hv1 w hcell hfr
  unfold Ob
  have hrun : (execOp (lk l) o).run P w = .ok .skip (w.setCell ad v) := by
    unfold execOp
    simp only [ho, hx, hy, Instr.storeAt, Instr.sureAddr, Sem.run_bind, Sem.run_pure, Result.andThen_ok, hst]
  rw [if_pos hw, lk_of (fun x hx => rho_else x hx) hv hc, hrun]
  exact hR
end
section
variable {P : Program} {ops : Array Oper} {rest : List Oper} {op : Oper} {a : Act} {w : World} {Q : Exit → Act → World → Prop} {x y : Operand}
/-- max(x, y), its answer known. -/
theorem wpList_max2 (hgd : op.guard = none) {ts : Array TypeId} (ho : op.op = .call { callee := .builtin .max, args := #[x, y], argTypes := ts }) {p q c : Int} (hx : a.eval x = .int .i64 p) (hy : a.eval y = .int .i64 q) (hc : mx p q = c)
    (h : wpList P ops Q rest (a.put op.dst (.int .i64 c)) w) : wpList P ops Q (op :: rest) a w := by
  refine wpList_plain hgd fun K hK => ?_
  have hrun : (execOp a.eval op).run P w = .ok (.value (.int .i64 c)) w := by
    subst hc
    unfold execOp
    simp [ho, resolve, invoke, builtin, hx, hy, run_max2, Result.andThen]
  unfold Oper.wp
  rw [hrun]
  exact hK _ _ h
end
theorem gr_made {W : World} {B : Nat} (k : IntKind) (e : TypeId) (m : Nat) (hB : B ≤ W.heap.size) (hm : m ≤ 9223372036854775807) : Gr k e (W.alloc (.cells (madeCells #[.int k 0] m) e)) B (.slice (some ⟨W.heap.size, 0, none⟩) m m) (List.replicate m 0) := by
  have h : (madeCells #[Value.int k 0] m) = (nums k (List.replicate m 0)).toArray := by
    apply Array.toList_inj.1
    simp only [madeCells, nums, List.map_replicate]
    apply List.ext_getElem
    · simp
    · intro i h1 h2
      simp [Nat.mod_one]
  rw [h]
  exact .inl (own_lit_ k e W B _ m List.length_replicate hB (by simpa using hm))
end Go.Proofs.Ytnkeijdpjcclcaa.Kit
