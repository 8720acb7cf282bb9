/-
  NARROWER THAN 'FOR EVERY INPUT', by the rows' own cells (each row's printed sentence says how): CrcSums: laid · CrcMores: laid · CrcBursts: laid · CrcLinear: laid · CrcKnown: laid · CrcMasks: laid · RecordPuts: laid · RecordNexts: laid · RecordLong: laid · RecordAlls: laid · RecordTurns: laid · RecordAgain: laid.
  DERIVED. THE GIVEN ROWS OF THIS SEAT. 12 by the template 'for every input the law returns true; each argument reads behind the call as it read before'; 0 by the template 'total and deterministic' (their statements: YtakjmhcdmchgdaaDoorTotals.lean).
  GIVEN WITH THE SEED: the statements are not yours to turn. If you find one false, say at which input.
  Laid BY PROGRAM, IN A SANDBOX (cutbox-rows.mjs): the forced cells as the released guide's own fill.sh prints them over the translation 912fe8efa310d768… (all of the seat's roots in one cut). By AI agents, Wed Nov 11 2026. No macro, syntax, notation, axiom, sorry.
-/
import Derived.Test.YtakjmhcdmchgdaaDoorChecked
import GoSem.Claim
import GoSem.ClaimJoined
import GoSem.ClaimMapViews
import Derived.JoinedTies
import Derived.KernelRfl
namespace Go.Proofs.YtakjmhcdmchgdaaDoor
/- THE CELL 'sum', in the pinned program and in every row, IS THE sha256 OF THE DUMP (.gsa) THAT YtakjmhcdmchgdaaDoorProg.lean LOADS. Nothing in Lean hashes anything: it is a label: what it is worth is what the hold of that sum in a sandbox is worth. -/
noncomputable def Tryd.pinned : Pinned := { name := "ytakjmhcdmchgdaadoor", sum := "912fe8efa310d7683726b59c6946810e8c8c934d4845c153387b520ed9cc6bfb", checked := Tryd.checked }
namespace Rows
def none {H : Type} : Left H := { results := [], args := [] }

/- WHAT THE LISTED PACKAGE-LEVEL VARIABLES READ AS WHEN THE CALL BEGINS. Each datum BY PROGRAM (the guide's laid-datum.mjs) off the statement by which the dump's own 'gosem.cut.vars' lays the variable. In a bare row this is a premise. The card (YtakjmhcdmchgdaaDoorCards.lean) ties it to the program's text. -/
def laid_tailrace_crc_halves {H : Type} : DataW H := .agg [.lit (.int .u32 0), .lit (.int .u32 274646895), .lit (.int .u32 549293790), .lit (.int .u32 820201905), .lit (.int .u32 1098587580), .lit (.int .u32 1361435347), .lit (.int .u32 1640403810), .lit (.int .u32 1905808397), .lit (.int .u32 2197175160), .lit (.int .u32 2460548119), .lit (.int .u32 2722870694), .lit (.int .u32 2987750089), .lit (.int .u32 3280807620), .lit (.int .u32 3553878443), .lit (.int .u32 3811616794), .lit (.int .u32 4084100981)]

/-- 'tailracelaw02.CrcSums': WHATEVER THE INPUT: true; the input reads as it did. -/
def crcSumsSpec : ChangeSpec := { name := "crcSums", fn := fun _ => fun
  | [d] => { results := [.lit (.bool true)], args := [d] }
  | _ => none }
def crcSumsRow : OpenClaim := { program := "ytakjmhcdmchgdaadoor", sum := "912fe8efa310d7683726b59c6946810e8c8c934d4845c153387b520ed9cc6bfb", func := "tailrace/tailracelaw02.CrcSums", spec := "crcSums", named := ["tailrace/crc.halves"], apart := false, laid := [("tailrace/crc.halves", laid_tailrace_crc_halves)] }
def CrcSumsSaid : Prop := crcSumsRow.holds Tryd.pinned (OpenSpec.ofChange crcSumsSpec)

/-- ITS FALSE NEIGHBOUR: 'it returns false'. Refute it at one input. -/
def crcSumsWrong : ChangeSpec := { name := "crcSums", fn := fun _ => fun
  | [d] => { results := [.lit (.bool false)], args := [d] }
  | _ => none }
def CrcSumsWrongFalsely : Prop := crcSumsRow.holds Tryd.pinned (OpenSpec.ofChange crcSumsWrong)

/-- 'tailracelaw02.CrcMores': WHATEVER THE INPUT: true; the input reads as it did. -/
def crcMoresSpec : ChangeSpec := { name := "crcMores", fn := fun _ => fun
  | [d1, d2, d3] => { results := [.lit (.bool true)], args := [d1, d2, d3] }
  | _ => none }
def crcMoresRow : OpenClaim := { program := "ytakjmhcdmchgdaadoor", sum := "912fe8efa310d7683726b59c6946810e8c8c934d4845c153387b520ed9cc6bfb", func := "tailrace/tailracelaw02.CrcMores", spec := "crcMores", named := ["tailrace/crc.halves"], apart := false, laid := [("tailrace/crc.halves", laid_tailrace_crc_halves)] }
def CrcMoresSaid : Prop := crcMoresRow.holds Tryd.pinned (OpenSpec.ofChange crcMoresSpec)

/-- ITS FALSE NEIGHBOUR: 'it returns false'. Refute it at one input. -/
def crcMoresWrong : ChangeSpec := { name := "crcMores", fn := fun _ => fun
  | [d1, d2, d3] => { results := [.lit (.bool false)], args := [d1, d2, d3] }
  | _ => none }
def CrcMoresWrongFalsely : Prop := crcMoresRow.holds Tryd.pinned (OpenSpec.ofChange crcMoresWrong)

/-- 'tailracelaw02.CrcBursts': WHATEVER THE INPUT: true; the input reads as it did. -/
def crcBurstsSpec : ChangeSpec := { name := "crcBursts", fn := fun _ => fun
  | [d1, d2, d3] => { results := [.lit (.bool true)], args := [d1, d2, d3] }
  | _ => none }
def crcBurstsRow : OpenClaim := { program := "ytakjmhcdmchgdaadoor", sum := "912fe8efa310d7683726b59c6946810e8c8c934d4845c153387b520ed9cc6bfb", func := "tailrace/tailracelaw02.CrcBursts", spec := "crcBursts", named := ["tailrace/crc.halves"], apart := false, laid := [("tailrace/crc.halves", laid_tailrace_crc_halves)] }
def CrcBurstsSaid : Prop := crcBurstsRow.holds Tryd.pinned (OpenSpec.ofChange crcBurstsSpec)

/-- ITS FALSE NEIGHBOUR: 'it returns false'. Refute it at one input. -/
def crcBurstsWrong : ChangeSpec := { name := "crcBursts", fn := fun _ => fun
  | [d1, d2, d3] => { results := [.lit (.bool false)], args := [d1, d2, d3] }
  | _ => none }
def CrcBurstsWrongFalsely : Prop := crcBurstsRow.holds Tryd.pinned (OpenSpec.ofChange crcBurstsWrong)

/-- 'tailracelaw02.CrcLinear': WHATEVER THE INPUT: true; the input reads as it did. -/
def crcLinearSpec : ChangeSpec := { name := "crcLinear", fn := fun _ => fun
  | [d1, d2, d3] => { results := [.lit (.bool true)], args := [d1, d2, d3] }
  | _ => none }
def crcLinearRow : OpenClaim := { program := "ytakjmhcdmchgdaadoor", sum := "912fe8efa310d7683726b59c6946810e8c8c934d4845c153387b520ed9cc6bfb", func := "tailrace/tailracelaw02.CrcLinear", spec := "crcLinear", named := ["tailrace/crc.halves"], apart := false, laid := [("tailrace/crc.halves", laid_tailrace_crc_halves)] }
def CrcLinearSaid : Prop := crcLinearRow.holds Tryd.pinned (OpenSpec.ofChange crcLinearSpec)

/-- ITS FALSE NEIGHBOUR: 'it returns false'. Refute it at one input. -/
def crcLinearWrong : ChangeSpec := { name := "crcLinear", fn := fun _ => fun
  | [d1, d2, d3] => { results := [.lit (.bool false)], args := [d1, d2, d3] }
  | _ => none }
def CrcLinearWrongFalsely : Prop := crcLinearRow.holds Tryd.pinned (OpenSpec.ofChange crcLinearWrong)

/-- 'tailracelaw02.CrcKnown': WHATEVER THE INPUT: true; the input reads as it did. -/
def crcKnownSpec : ChangeSpec := { name := "crcKnown", fn := fun _ => fun
  | [d1, d2] => { results := [.lit (.bool true)], args := [d1, d2] }
  | _ => none }
def crcKnownRow : OpenClaim := { program := "ytakjmhcdmchgdaadoor", sum := "912fe8efa310d7683726b59c6946810e8c8c934d4845c153387b520ed9cc6bfb", func := "tailrace/tailracelaw02.CrcKnown", spec := "crcKnown", named := ["tailrace/crc.halves"], apart := false, laid := [("tailrace/crc.halves", laid_tailrace_crc_halves)] }
def CrcKnownSaid : Prop := crcKnownRow.holds Tryd.pinned (OpenSpec.ofChange crcKnownSpec)

/-- ITS FALSE NEIGHBOUR: 'it returns false'. Refute it at one input. -/
def crcKnownWrong : ChangeSpec := { name := "crcKnown", fn := fun _ => fun
  | [d1, d2] => { results := [.lit (.bool false)], args := [d1, d2] }
  | _ => none }
def CrcKnownWrongFalsely : Prop := crcKnownRow.holds Tryd.pinned (OpenSpec.ofChange crcKnownWrong)

/-- 'tailracelaw02.CrcMasks': WHATEVER THE INPUT: true; the input reads as it did. -/
def crcMasksSpec : ChangeSpec := { name := "crcMasks", fn := fun _ => fun
  | [d] => { results := [.lit (.bool true)], args := [d] }
  | _ => none }
def crcMasksRow : OpenClaim := { program := "ytakjmhcdmchgdaadoor", sum := "912fe8efa310d7683726b59c6946810e8c8c934d4845c153387b520ed9cc6bfb", func := "tailrace/tailracelaw02.CrcMasks", spec := "crcMasks", named := ["tailrace/crc.halves"], apart := false, laid := [("tailrace/crc.halves", laid_tailrace_crc_halves)] }
def CrcMasksSaid : Prop := crcMasksRow.holds Tryd.pinned (OpenSpec.ofChange crcMasksSpec)

/-- ITS FALSE NEIGHBOUR: 'it returns false'. Refute it at one input. -/
def crcMasksWrong : ChangeSpec := { name := "crcMasks", fn := fun _ => fun
  | [d] => { results := [.lit (.bool false)], args := [d] }
  | _ => none }
def CrcMasksWrongFalsely : Prop := crcMasksRow.holds Tryd.pinned (OpenSpec.ofChange crcMasksWrong)

/-- 'tailracelaw05.RecordPuts': WHATEVER THE INPUT: true; the input reads as it did. -/
def recordPutsSpec : ChangeSpec := { name := "recordPuts", fn := fun _ => fun
  | [d1, d2, d3] => { results := [.lit (.bool true)], args := [d1, d2, d3] }
  | _ => none }
def recordPutsRow : OpenClaim := { program := "ytakjmhcdmchgdaadoor", sum := "912fe8efa310d7683726b59c6946810e8c8c934d4845c153387b520ed9cc6bfb", func := "tailrace/tailracelaw05.RecordPuts", spec := "recordPuts", named := ["tailrace/crc.halves"], apart := false, laid := [("tailrace/crc.halves", laid_tailrace_crc_halves)] }
def RecordPutsSaid : Prop := recordPutsRow.holds Tryd.pinned (OpenSpec.ofChange recordPutsSpec)

/-- ITS FALSE NEIGHBOUR: 'it returns false'. Refute it at one input. -/
def recordPutsWrong : ChangeSpec := { name := "recordPuts", fn := fun _ => fun
  | [d1, d2, d3] => { results := [.lit (.bool false)], args := [d1, d2, d3] }
  | _ => none }
def RecordPutsWrongFalsely : Prop := recordPutsRow.holds Tryd.pinned (OpenSpec.ofChange recordPutsWrong)

/-- 'tailracelaw05.RecordNexts': WHATEVER THE INPUT: true; the input reads as it did. -/
def recordNextsSpec : ChangeSpec := { name := "recordNexts", fn := fun _ => fun
  | [d] => { results := [.lit (.bool true)], args := [d] }
  | _ => none }
def recordNextsRow : OpenClaim := { program := "ytakjmhcdmchgdaadoor", sum := "912fe8efa310d7683726b59c6946810e8c8c934d4845c153387b520ed9cc6bfb", func := "tailrace/tailracelaw05.RecordNexts", spec := "recordNexts", named := ["tailrace/crc.halves"], apart := false, laid := [("tailrace/crc.halves", laid_tailrace_crc_halves)] }
def RecordNextsSaid : Prop := recordNextsRow.holds Tryd.pinned (OpenSpec.ofChange recordNextsSpec)

/-- ITS FALSE NEIGHBOUR: 'it returns false'. Refute it at one input. -/
def recordNextsWrong : ChangeSpec := { name := "recordNexts", fn := fun _ => fun
  | [d] => { results := [.lit (.bool false)], args := [d] }
  | _ => none }
def RecordNextsWrongFalsely : Prop := recordNextsRow.holds Tryd.pinned (OpenSpec.ofChange recordNextsWrong)

/-- 'tailracelaw05.RecordLong': WHATEVER THE INPUT: true; the input reads as it did. -/
def recordLongSpec : ChangeSpec := { name := "recordLong", fn := fun _ => fun
  | [d1, d2] => { results := [.lit (.bool true)], args := [d1, d2] }
  | _ => none }
def recordLongRow : OpenClaim := { program := "ytakjmhcdmchgdaadoor", sum := "912fe8efa310d7683726b59c6946810e8c8c934d4845c153387b520ed9cc6bfb", func := "tailrace/tailracelaw05.RecordLong", spec := "recordLong", named := ["tailrace/crc.halves"], apart := false, laid := [("tailrace/crc.halves", laid_tailrace_crc_halves)] }
def RecordLongSaid : Prop := recordLongRow.holds Tryd.pinned (OpenSpec.ofChange recordLongSpec)

/-- ITS FALSE NEIGHBOUR: 'it returns false'. Refute it at one input. -/
def recordLongWrong : ChangeSpec := { name := "recordLong", fn := fun _ => fun
  | [d1, d2] => { results := [.lit (.bool false)], args := [d1, d2] }
  | _ => none }
def RecordLongWrongFalsely : Prop := recordLongRow.holds Tryd.pinned (OpenSpec.ofChange recordLongWrong)

/-- 'tailracelaw05.RecordAlls': WHATEVER THE INPUT: true; the input reads as it did. -/
def recordAllsSpec : ChangeSpec := { name := "recordAlls", fn := fun _ => fun
  | [d1, d2] => { results := [.lit (.bool true)], args := [d1, d2] }
  | _ => none }
def recordAllsRow : OpenClaim := { program := "ytakjmhcdmchgdaadoor", sum := "912fe8efa310d7683726b59c6946810e8c8c934d4845c153387b520ed9cc6bfb", func := "tailrace/tailracelaw05.RecordAlls", spec := "recordAlls", named := ["tailrace/crc.halves"], apart := false, laid := [("tailrace/crc.halves", laid_tailrace_crc_halves)] }
def RecordAllsSaid : Prop := recordAllsRow.holds Tryd.pinned (OpenSpec.ofChange recordAllsSpec)

/-- ITS FALSE NEIGHBOUR: 'it returns false'. Refute it at one input. -/
def recordAllsWrong : ChangeSpec := { name := "recordAlls", fn := fun _ => fun
  | [d1, d2] => { results := [.lit (.bool false)], args := [d1, d2] }
  | _ => none }
def RecordAllsWrongFalsely : Prop := recordAllsRow.holds Tryd.pinned (OpenSpec.ofChange recordAllsWrong)

/-- 'tailracelaw05.RecordTurns': WHATEVER THE INPUT: true; the input reads as it did. -/
def recordTurnsSpec : ChangeSpec := { name := "recordTurns", fn := fun _ => fun
  | [d1, d2, d3, d4, d5] => { results := [.lit (.bool true)], args := [d1, d2, d3, d4, d5] }
  | _ => none }
def recordTurnsRow : OpenClaim := { program := "ytakjmhcdmchgdaadoor", sum := "912fe8efa310d7683726b59c6946810e8c8c934d4845c153387b520ed9cc6bfb", func := "tailrace/tailracelaw05.RecordTurns", spec := "recordTurns", named := ["tailrace/crc.halves"], apart := false, laid := [("tailrace/crc.halves", laid_tailrace_crc_halves)] }
def RecordTurnsSaid : Prop := recordTurnsRow.holds Tryd.pinned (OpenSpec.ofChange recordTurnsSpec)

/-- ITS FALSE NEIGHBOUR: 'it returns false'. Refute it at one input. -/
def recordTurnsWrong : ChangeSpec := { name := "recordTurns", fn := fun _ => fun
  | [d1, d2, d3, d4, d5] => { results := [.lit (.bool false)], args := [d1, d2, d3, d4, d5] }
  | _ => none }
def RecordTurnsWrongFalsely : Prop := recordTurnsRow.holds Tryd.pinned (OpenSpec.ofChange recordTurnsWrong)

/-- 'tailracelaw05.RecordAgain': WHATEVER THE INPUT: true; the input reads as it did. -/
def recordAgainSpec : ChangeSpec := { name := "recordAgain", fn := fun _ => fun
  | [d] => { results := [.lit (.bool true)], args := [d] }
  | _ => none }
def recordAgainRow : OpenClaim := { program := "ytakjmhcdmchgdaadoor", sum := "912fe8efa310d7683726b59c6946810e8c8c934d4845c153387b520ed9cc6bfb", func := "tailrace/tailracelaw05.RecordAgain", spec := "recordAgain", named := ["tailrace/crc.halves"], apart := false, laid := [("tailrace/crc.halves", laid_tailrace_crc_halves)] }
def RecordAgainSaid : Prop := recordAgainRow.holds Tryd.pinned (OpenSpec.ofChange recordAgainSpec)

/-- ITS FALSE NEIGHBOUR: 'it returns false'. Refute it at one input. -/
def recordAgainWrong : ChangeSpec := { name := "recordAgain", fn := fun _ => fun
  | [d] => { results := [.lit (.bool false)], args := [d] }
  | _ => none }
def RecordAgainWrongFalsely : Prop := recordAgainRow.holds Tryd.pinned (OpenSpec.ofChange recordAgainWrong)

/- THE SECOND FORM. 'bulk': how many values and letters a reading holds, each counted each time it is reached (what is shared counts as often as it is met; a slice's spare places count too). A statement '..UptoSaid' is the law's where the arguments, and the package variables that the reading takes, are together of bulk at most 1048576: NARROWER than '..Said'. Prove '..Said' where nothing that the law and all that it calls make is longer than what came in: it says more and counts as full. Else prove '..UptoSaid'. A law counts once. -/
mutual
def uptoBulk {H : Type} : DataW H → Nat
  | .lit (.string bytes) => bytes.length + 1
  | .lit _ => 1
  | .nil => 1
  | .ptr d => uptoBulk d + 1
  | .slice elems spare => uptoBulkAll elems + uptoBulkAll spare + 1
  | .agg parts => uptoBulkAll parts + 1
  | .iface _ d => uptoBulk d + 1
  | .map entries => uptoBulkEntries entries + 1
  | .held _ => 1
def uptoBulkAll {H : Type} : List (DataW H) → Nat
  | [] => 0
  | d :: r => uptoBulk d + uptoBulkAll r
def uptoBulkEntries {H : Type} : List (Lit × DataW H) → Nat
  | [] => 0
  | x :: r => uptoBulkEntry x + uptoBulkEntries r
def uptoBulkEntry {H : Type} : Lit × DataW H → Nat
  | (.string bytes, d) => bytes.length + uptoBulk d + 1
  | (_, d) => uptoBulk d + 1
 end
def uptoSmall : (H : Type) → List (DataW H) → Bool := fun _ ds => decide (uptoBulkAll ds ≤ 1048576)
def OpenSpec.upto (s : _root_.Go.ChangeSpec) : _root_.Go.OpenSpec := { _root_.Go.OpenSpec.ofChange s with cond := some uptoSmall }

/-- 'tailracelaw02.CrcSums', WHERE WHAT IT READS IS OF BULK AT MOST 1048576: true; the input reads as it did. -/
def crcSumsUptoRow : OpenClaim := { program := "ytakjmhcdmchgdaadoor", sum := "912fe8efa310d7683726b59c6946810e8c8c934d4845c153387b520ed9cc6bfb", func := "tailrace/tailracelaw02.CrcSums", spec := "crcSums", named := ["tailrace/crc.halves"], apart := false, laid := [("tailrace/crc.halves", laid_tailrace_crc_halves)], narrowed := true }
def CrcSumsUptoSaid : Prop := crcSumsUptoRow.holds Tryd.pinned (OpenSpec.upto crcSumsSpec)

/-- 'tailracelaw02.CrcMores', WHERE WHAT IT READS IS OF BULK AT MOST 1048576: true; the input reads as it did. -/
def crcMoresUptoRow : OpenClaim := { program := "ytakjmhcdmchgdaadoor", sum := "912fe8efa310d7683726b59c6946810e8c8c934d4845c153387b520ed9cc6bfb", func := "tailrace/tailracelaw02.CrcMores", spec := "crcMores", named := ["tailrace/crc.halves"], apart := false, laid := [("tailrace/crc.halves", laid_tailrace_crc_halves)], narrowed := true }
def CrcMoresUptoSaid : Prop := crcMoresUptoRow.holds Tryd.pinned (OpenSpec.upto crcMoresSpec)

/-- 'tailracelaw02.CrcBursts', WHERE WHAT IT READS IS OF BULK AT MOST 1048576: true; the input reads as it did. -/
def crcBurstsUptoRow : OpenClaim := { program := "ytakjmhcdmchgdaadoor", sum := "912fe8efa310d7683726b59c6946810e8c8c934d4845c153387b520ed9cc6bfb", func := "tailrace/tailracelaw02.CrcBursts", spec := "crcBursts", named := ["tailrace/crc.halves"], apart := false, laid := [("tailrace/crc.halves", laid_tailrace_crc_halves)], narrowed := true }
def CrcBurstsUptoSaid : Prop := crcBurstsUptoRow.holds Tryd.pinned (OpenSpec.upto crcBurstsSpec)

/-- 'tailracelaw02.CrcLinear', WHERE WHAT IT READS IS OF BULK AT MOST 1048576: true; the input reads as it did. -/
def crcLinearUptoRow : OpenClaim := { program := "ytakjmhcdmchgdaadoor", sum := "912fe8efa310d7683726b59c6946810e8c8c934d4845c153387b520ed9cc6bfb", func := "tailrace/tailracelaw02.CrcLinear", spec := "crcLinear", named := ["tailrace/crc.halves"], apart := false, laid := [("tailrace/crc.halves", laid_tailrace_crc_halves)], narrowed := true }
def CrcLinearUptoSaid : Prop := crcLinearUptoRow.holds Tryd.pinned (OpenSpec.upto crcLinearSpec)

/-- 'tailracelaw02.CrcKnown', WHERE WHAT IT READS IS OF BULK AT MOST 1048576: true; the input reads as it did. -/
def crcKnownUptoRow : OpenClaim := { program := "ytakjmhcdmchgdaadoor", sum := "912fe8efa310d7683726b59c6946810e8c8c934d4845c153387b520ed9cc6bfb", func := "tailrace/tailracelaw02.CrcKnown", spec := "crcKnown", named := ["tailrace/crc.halves"], apart := false, laid := [("tailrace/crc.halves", laid_tailrace_crc_halves)], narrowed := true }
def CrcKnownUptoSaid : Prop := crcKnownUptoRow.holds Tryd.pinned (OpenSpec.upto crcKnownSpec)

/-- 'tailracelaw02.CrcMasks', WHERE WHAT IT READS IS OF BULK AT MOST 1048576: true; the input reads as it did. -/
def crcMasksUptoRow : OpenClaim := { program := "ytakjmhcdmchgdaadoor", sum := "912fe8efa310d7683726b59c6946810e8c8c934d4845c153387b520ed9cc6bfb", func := "tailrace/tailracelaw02.CrcMasks", spec := "crcMasks", named := ["tailrace/crc.halves"], apart := false, laid := [("tailrace/crc.halves", laid_tailrace_crc_halves)], narrowed := true }
def CrcMasksUptoSaid : Prop := crcMasksUptoRow.holds Tryd.pinned (OpenSpec.upto crcMasksSpec)

/-- 'tailracelaw05.RecordPuts', WHERE WHAT IT READS IS OF BULK AT MOST 1048576: true; the input reads as it did. -/
def recordPutsUptoRow : OpenClaim := { program := "ytakjmhcdmchgdaadoor", sum := "912fe8efa310d7683726b59c6946810e8c8c934d4845c153387b520ed9cc6bfb", func := "tailrace/tailracelaw05.RecordPuts", spec := "recordPuts", named := ["tailrace/crc.halves"], apart := false, laid := [("tailrace/crc.halves", laid_tailrace_crc_halves)], narrowed := true }
def RecordPutsUptoSaid : Prop := recordPutsUptoRow.holds Tryd.pinned (OpenSpec.upto recordPutsSpec)

/-- 'tailracelaw05.RecordNexts', WHERE WHAT IT READS IS OF BULK AT MOST 1048576: true; the input reads as it did. -/
def recordNextsUptoRow : OpenClaim := { program := "ytakjmhcdmchgdaadoor", sum := "912fe8efa310d7683726b59c6946810e8c8c934d4845c153387b520ed9cc6bfb", func := "tailrace/tailracelaw05.RecordNexts", spec := "recordNexts", named := ["tailrace/crc.halves"], apart := false, laid := [("tailrace/crc.halves", laid_tailrace_crc_halves)], narrowed := true }
def RecordNextsUptoSaid : Prop := recordNextsUptoRow.holds Tryd.pinned (OpenSpec.upto recordNextsSpec)

/-- 'tailracelaw05.RecordLong', WHERE WHAT IT READS IS OF BULK AT MOST 1048576: true; the input reads as it did. -/
def recordLongUptoRow : OpenClaim := { program := "ytakjmhcdmchgdaadoor", sum := "912fe8efa310d7683726b59c6946810e8c8c934d4845c153387b520ed9cc6bfb", func := "tailrace/tailracelaw05.RecordLong", spec := "recordLong", named := ["tailrace/crc.halves"], apart := false, laid := [("tailrace/crc.halves", laid_tailrace_crc_halves)], narrowed := true }
def RecordLongUptoSaid : Prop := recordLongUptoRow.holds Tryd.pinned (OpenSpec.upto recordLongSpec)

/-- 'tailracelaw05.RecordAlls', WHERE WHAT IT READS IS OF BULK AT MOST 1048576: true; the input reads as it did. -/
def recordAllsUptoRow : OpenClaim := { program := "ytakjmhcdmchgdaadoor", sum := "912fe8efa310d7683726b59c6946810e8c8c934d4845c153387b520ed9cc6bfb", func := "tailrace/tailracelaw05.RecordAlls", spec := "recordAlls", named := ["tailrace/crc.halves"], apart := false, laid := [("tailrace/crc.halves", laid_tailrace_crc_halves)], narrowed := true }
def RecordAllsUptoSaid : Prop := recordAllsUptoRow.holds Tryd.pinned (OpenSpec.upto recordAllsSpec)

/-- 'tailracelaw05.RecordTurns', WHERE WHAT IT READS IS OF BULK AT MOST 1048576: true; the input reads as it did. -/
def recordTurnsUptoRow : OpenClaim := { program := "ytakjmhcdmchgdaadoor", sum := "912fe8efa310d7683726b59c6946810e8c8c934d4845c153387b520ed9cc6bfb", func := "tailrace/tailracelaw05.RecordTurns", spec := "recordTurns", named := ["tailrace/crc.halves"], apart := false, laid := [("tailrace/crc.halves", laid_tailrace_crc_halves)], narrowed := true }
def RecordTurnsUptoSaid : Prop := recordTurnsUptoRow.holds Tryd.pinned (OpenSpec.upto recordTurnsSpec)

/-- 'tailracelaw05.RecordAgain', WHERE WHAT IT READS IS OF BULK AT MOST 1048576: true; the input reads as it did. -/
def recordAgainUptoRow : OpenClaim := { program := "ytakjmhcdmchgdaadoor", sum := "912fe8efa310d7683726b59c6946810e8c8c934d4845c153387b520ed9cc6bfb", func := "tailrace/tailracelaw05.RecordAgain", spec := "recordAgain", named := ["tailrace/crc.halves"], apart := false, laid := [("tailrace/crc.halves", laid_tailrace_crc_halves)], narrowed := true }
def RecordAgainUptoSaid : Prop := recordAgainUptoRow.holds Tryd.pinned (OpenSpec.upto recordAgainSpec)

end Rows
end Go.Proofs.YtakjmhcdmchgdaaDoor
