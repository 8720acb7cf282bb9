/- A struct stored into a variable, in regions. -/
import Derived.Test.YtnkeijdpjcclcaaFld
namespace Go.Proofs.Ytnkeijdpjcclcaa.Kit
set_option linter.unusedVariables false
set_option linter.unusedSimpArgs false
open Go.RowKit Go.Proofs.YtnkeijdpjcclcaaW.PrintWords Go.Proofs.YtnkeijdpjcclcaaW.PrintLast Go.Proofs.YtnkeijdpjcclcaaW.PrintMore
section
variable {P : Program} {o : Oper} {x y : Operand} {ty : TypeId} {w : World}
theorem ob_store_box {dsts : List (Option Tmp)} {vs : Nat → Value} {a0 : Act} {R : Value → World → Prop} (l : List (Nat × Value)) {g : Nat} {cs old : List Value} {t : TypeId} (hw : Wants o vs = true) (hv : Vs (rho dsts vs a0) l) (hc : covers o (l.map (·.1)) = true)
    (ho : o.op = .store ty x y) (hx : lk l x = .pointer (some ⟨g, 0, none⟩)) (hy : lk l y = .agg cs.toArray) (hg : w.heap[g]? = some (.cells old.toArray t (0, 0))) (hl : old.length = cs.length) (hi : (P.info? ty).map (·.size) = some cs.length) (h1 : cs.all (·.oneCell') = true)
    (hR : ∀ w', Set1 w g (.cells cs.toArray t (0, 0)) w' → R undef w') : Ob P dsts o vs a0 w R := by
  have hst := run_storeVar_row (P := P) w g t ty old.toArray cs.toArray hg (by simpa using hi) (by simpa using hl) (by simpa using h1)
  unfold Ob
  have hrun : (execOp (lk l) o).run P w = .ok .skip (w.setRow g cs.toArray) := by
    unfold execOp
    simp only [ho, hx, hy, Instr.storeAt, Instr.sureAddr, Sem.run_bind, Sem.run_pure, Result.andThen_ok, hst]
  rw [if_pos hw, lk_of (fun x hx => rho_else x hx) hv hc, hrun]
  exact hR _ (set1_row hg)
end
/-- .. and what lay beside the box stays. -/
theorem Set1.keepB {w0 w w' : World} {g : Nat} {o : Obj} (h : Set1 w g o w') (hb : Below w0.heap.size w0 w) (hg : w0.heap.size ≤ g) : Below w0.heap.size w0 w' := h.then_ hb hg
end Go.Proofs.Ytnkeijdpjcclcaa.Kit
