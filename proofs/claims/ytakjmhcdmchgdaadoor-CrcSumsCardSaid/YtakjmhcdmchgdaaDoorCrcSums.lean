/- The walk of the law CrcSums. -/
import Derived.Test.YtakjmhcdmchgdaaDoorCrcRefSum
namespace Go.Proofs.YtakjmhcdmchgdaaDoor.Crc
set_option linter.unusedVariables false
open Go.Proofs.YtakjmhcdmchgdaaDoor.Kit Go.RowKit Go.Proofs.YtakjmhcdmchgdaaDoorW.PrintWords Go.Proofs.YtakjmhcdmchgdaaDoorW.PrintLast Go.Proofs.YtakjmhcdmchgdaaDoorW.PrintMore

theorem sums_any (A1 : Option Addr) (n1 c1 : Nat) (l1 : List Int) (w : World) (hT : Halves w)
    (hr1 : Rds .u8 w A1 n1 l1) (hl1 : l1.length = n1) (hm1 : n1 * 1 ≤ 140737488351232) (hw1 : ∀ x ∈ l1, (Lit.int .u8 x).wf = true) (hc1 : n1 ≤ c1) :
    Calls Tryd.prog 3 #[.slice A1 n1 c1] w fun e w' => e = .returned (.bool true) ∧ Below w.heap.size w w' := by
  have hb1 := isByte_wf hw1
  clear hw1
  have c1' := fun w1 (hB1 : Below w.heap.size w w1) => sum_any A1 n1 c1 l1 w1 (hT.below hB1) (rds_below hr1 hB1) hl1 (by omega) hb1
  have c2' := fun w1 (hB1 : Below w.heap.size w w1) => refsum_any A1 n1 c1 l1 w1 (rds_below hr1 hB1) hl1 (by omega) hb1
  have C1 := Lib.hid c1'
  have C2 := Lib.hid c2'
  clear c1' c2' hl1
  by_cases g : n1 ≤ 400
  all_goals
    go_enter Tryd.func3, Tryd.ntmps3
    go_wp2_with fail
    refine (head_any w hT).mono ?_
    rintro e w1 ⟨rfl, hB1⟩
    have HB1 := Lib.hid hB1
    clear hB1
    go_wp2_with fail
  · refine (C1.out _ HB1.out).mono ?_
    rintro e w' ⟨rfl, rfl⟩
    go_wp2_with fail
    refine (C2.out _ HB1.out).mono ?_
    rintro e w2 ⟨rfl, hB2⟩
    have HB2 := Lib.hid (below_then HB1.out HB1.out.size hB2)
    clear hB2
    go_wp2_with fail
    go_ret
    exact ⟨rfl, HB2.out⟩
  · go_ret
    exact ⟨rfl, HB1.out⟩
end Go.Proofs.YtakjmhcdmchgdaaDoor.Crc
