/- Entries compared whole, in regions. -/
import Derived.Test.YtgnicgcdhldmmaaKeyI
import Derived.Test.YtgnicgcdhldmmaaOps
import Derived.Test.YtgnicgcdhldmmaaWEqStruct
namespace Go.Proofs.Ytgnicgcdhldmmaa.Key
set_option linter.unusedVariables false
set_option linter.unusedSimpArgs false
open Go.Proofs.Ytgnicgcdhldmmaa.Kit Go.Proofs.Ytgnicgcdhldmmaa.Num Go.RowKit Go.Proofs.YtgnicgcdhldmmaaW.PrintWords Go.Proofs.YtgnicgcdhldmmaaW.PrintLast Go.Proofs.YtgnicgcdhldmmaaW.PrintMore NumPure
def Ent.eqb (a b : Ent) : Bool := decide (a.key = b.key) && (((a.seq : Int) == (b.seq : Int)) && ((a.del == b.del) && decide (a.val = b.val)))
theorem Ent.eqb_iff {a b : Ent} : a.eqb b = true ↔ a = b := by
  obtain ⟨k, s, d, v⟩ := a
  obtain ⟨k2, s2, d2, v2⟩ := b
  simp only [Ent.eqb, Bool.and_eq_true, decide_eq_true_eq, beq_iff_eq, Ent.mk.injEq]
  exact ⟨fun ⟨h1, h2, h3, h4⟩ => ⟨h1, by omega, h3, h4⟩, fun ⟨h1, h2, h3, h4⟩ => ⟨h1, by omega, h3, h4⟩⟩
theorem Ent.eqb_self (a : Ent) : a.eqb a = true := Ent.eqb_iff.2 rfl
theorem toList_beq (a b : ByteArray) : (a.toList == b.toList) = decide (a = b) := by
  rw [Bool.eq_iff_iff, beq_iff_eq, decide_eq_true_iff, ByteArray.toList_eq, ByteArray.toList_eq]
  exact ⟨ba_ext, fun h => by rw [h]⟩
theorem ent_equalIn (d : Nat) (a b : Ent) (w : World) : (Op.equalIn (d + 1 + 1) 24 a.ag b.ag).run Try.prog w = .ok (a.eqb b) w := by
  obtain ⟨k, s, e, v⟩ := a
  obtain ⟨k2, s2, e2, v2⟩ := b
  unfold Ent.eqb Ent.ag Ent.cells
  rw [← toList_beq, ← toList_beq]
  refine eqA_of Try.underlying24 (by kernel_rfl) (eqf_cons rfl ?_ ?_ (run_equalIn_string w d 9 k k2 Try.underlying9) (eqf_cons rfl ?_ ?_ (run_equalIn_int w d 22 .u64 .u64 _ _ Try.underlying22) (eqf_cons rfl ?_ ?_ (run_equalIn_bool' w d 4 e e2 Try.underlying4) (eqf_last rfl ?_ ?_ (run_equalIn_string w d 9 v v2 Try.underlying9)))))
  all_goals go_simp
theorem op_ent_eql {o : Oper} {l : List (Nat × Value)} {x y : Operand} {m : Nat} {a b : Ent} {r : Bool} {w : World} (ho : o.op = .binOp .eql 24 x y m) (hx : lk l x = a.ag) (hy : lk l y = b.ag) (h : a.eqb b = r) : (execOp (lk l) o).run Try.prog w = .ok (.value (.bool r)) w := by
  subst h
  exact op_agg_eql ho hx hy (by kernel_rfl) (ent_equalIn 9998 a b w)
theorem op_ent_neq {o : Oper} {l : List (Nat × Value)} {x y : Operand} {m : Nat} {a b : Ent} {r : Bool} {w : World} (ho : o.op = .binOp .neq 24 x y m) (hx : lk l x = a.ag) (hy : lk l y = b.ag) (h : (!a.eqb b) = r) : (execOp (lk l) o).run Try.prog w = .ok (.value (.bool r)) w := by
  subst h
  exact op_agg_neq ho hx hy (by kernel_rfl) (ent_equalIn 9998 a b w)
end Go.Proofs.Ytgnicgcdhldmmaa.Key
