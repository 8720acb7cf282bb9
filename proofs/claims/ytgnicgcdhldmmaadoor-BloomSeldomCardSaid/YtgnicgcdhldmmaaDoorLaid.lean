/- What the listed variable (the table of the check) gives the walks: sixteen cells; and the witness' heap, which the program's own start leaves. -/
import Derived.Test.YtgnicgcdhldmmaaDoorCrcHead
import Derived.Test.YtgnicgcdhldmmaaDoorRows
import Derived.ProofKit
import Derived.LaidMore
import Derived.OpenShut
import Derived.Stop.Joined
import Derived.Lib.LaidTab
namespace Go.Proofs.YtgnicgcdhldmmaaDoor.Crc
open Go.ChangeShapes Go.WideShapes Go.ChangeAt Go.WideMaps Go.WideElems Go.RowKit

abbrev laid : List (String × DataW Unit) := [("tailrace/crc.halves", Rows.laid_tailrace_crc_halves)]
def tabZs : List Int := [0, 274646895, 549293790, 820201905, 1098587580, 1361435347, 1640403810, 1905808397, 2197175160, 2460548119, 2722870694, 2987750089, 3280807620, 3553878443, 3811616794, 4084100981]
theorem gHalves : Tryd.prog.globalNamed "tailrace/crc.halves" = some 0 := by kernel_rfl
theorem tHalves : (Tryd.prog.globals[0]?).map (·.type) = some 69 := by kernel_rfl
theorem door_met (os : Os) (args : Array Value) : laidMetH Tryd.prog laid ((World.doorLaid Tryd.prog 400 os).forCall (fun _ _ => 0) ⟨#[], args, []⟩).memory :=
  laidMetH_of_parts3 (fuel := 8) (laidMet_of_run' 8 (by kernel_rfl) (by kernel_rfl)) (by kernel_rfl) (by kernel_rfl)
theorem half_tab : ∀ i, i < 16 → tabZs[i]? = some ((CrcPure.half i : Nat) : Int) := by decide
theorem of_laid {W : World} (h : laidMetH Tryd.prog laid W) : Halves W := by
  rw [MakeChecks.laidMetH_plain _ _ _ (by kernel_rfl)] at h
  have ht : Lib.TabIs Tryd.prog W "tailrace/crc.halves" .u32 tabZs := Lib.tabIs_of_head gHalves tHalves Tryd.underlying69 Tryd.underlying42 (by kernel_rfl) (by kernel_rfl) h
  refine ⟨fun i hi => ?_⟩
  have hc := World.var?_cell gHalves ht i
  rw [hc]
  simp [half_tab i hi]
end Go.Proofs.YtgnicgcdhldmmaaDoor.Crc
