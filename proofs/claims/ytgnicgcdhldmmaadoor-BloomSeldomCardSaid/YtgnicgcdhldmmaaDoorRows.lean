/-
  NARROWER THAN 'FOR EVERY INPUT', by the rows' own cells (each row's printed sentence says how): BloomKeeps: laid · BloomMakes: laid · BloomMays: laid · BloomSizes: laid · BloomSeldom: laid.
  DERIVED. THE GIVEN ROWS OF THIS SEAT. 5 by the template 'for every input the law returns true; each argument reads behind the call as it read before'; 0 by the template 'total and deterministic' (their statements: YtgnicgcdhldmmaaDoorTotals.lean).
  GIVEN WITH THE SEED: the statements are not yours to turn. If you find one false, say at which input.
  Laid BY PROGRAM, IN A SANDBOX (cutbox-rows.mjs): the forced cells as the released guide's own fill.sh prints them over the translation 3221dffcbd214fe6… (all of the seat's roots in one cut). By AI agents, Wed Nov 11 2026. No macro, syntax, notation, axiom, sorry.
-/
import Derived.Test.YtgnicgcdhldmmaaDoorChecked
import GoSem.Claim
import GoSem.ClaimJoined
import GoSem.ClaimMapViews
import Derived.JoinedTies
import Derived.KernelRfl
namespace Go.Proofs.YtgnicgcdhldmmaaDoor
/- THE CELL 'sum', in the pinned program and in every row, IS THE sha256 OF THE DUMP (.gsa) THAT YtgnicgcdhldmmaaDoorProg.lean LOADS. Nothing in Lean hashes anything: it is a label: what it is worth is what the hold of that sum in a sandbox is worth. -/
noncomputable def Tryd.pinned : Pinned := { name := "ytgnicgcdhldmmaadoor", sum := "3221dffcbd214fe6fe3498ce9fb7b3b4ebfd29a900a50dc0b7d59d92cb294159", checked := Tryd.checked }
namespace Rows
def none {H : Type} : Left H := { results := [], args := [] }

/- WHAT THE LISTED PACKAGE-LEVEL VARIABLES READ AS WHEN THE CALL BEGINS. Each datum BY PROGRAM (the guide's laid-datum.mjs) off the statement by which the dump's own 'gosem.cut.vars' lays the variable. In a bare row this is a premise. The card (YtgnicgcdhldmmaaDoorCards.lean) ties it to the program's text. -/
def laid_tailrace_crc_halves {H : Type} : DataW H := .agg [.lit (.int .u32 0), .lit (.int .u32 274646895), .lit (.int .u32 549293790), .lit (.int .u32 820201905), .lit (.int .u32 1098587580), .lit (.int .u32 1361435347), .lit (.int .u32 1640403810), .lit (.int .u32 1905808397), .lit (.int .u32 2197175160), .lit (.int .u32 2460548119), .lit (.int .u32 2722870694), .lit (.int .u32 2987750089), .lit (.int .u32 3280807620), .lit (.int .u32 3553878443), .lit (.int .u32 3811616794), .lit (.int .u32 4084100981)]

/-- 'tailracelaw11.BloomKeeps': WHATEVER THE INPUT: true; the input reads as it did. -/
def bloomKeepsSpec : ChangeSpec := { name := "bloomKeeps", fn := fun _ => fun
  | [d] => { results := [.lit (.bool true)], args := [d] }
  | _ => none }
def bloomKeepsRow : OpenClaim := { program := "ytgnicgcdhldmmaadoor", sum := "3221dffcbd214fe6fe3498ce9fb7b3b4ebfd29a900a50dc0b7d59d92cb294159", func := "tailrace/tailracelaw11.BloomKeeps", spec := "bloomKeeps", unfollowed := true, recurses := true, named := ["tailrace/crc.halves"], apart := false, laid := [("tailrace/crc.halves", laid_tailrace_crc_halves)] }
def BloomKeepsSaid : Prop := bloomKeepsRow.holds Tryd.pinned (OpenSpec.ofChange bloomKeepsSpec)

/-- ITS FALSE NEIGHBOUR: 'it returns false'. Refute it at one input. -/
def bloomKeepsWrong : ChangeSpec := { name := "bloomKeeps", fn := fun _ => fun
  | [d] => { results := [.lit (.bool false)], args := [d] }
  | _ => none }
def BloomKeepsWrongFalsely : Prop := bloomKeepsRow.holds Tryd.pinned (OpenSpec.ofChange bloomKeepsWrong)

/-- 'tailracelaw11.BloomMakes': WHATEVER THE INPUT: true; the input reads as it did. -/
def bloomMakesSpec : ChangeSpec := { name := "bloomMakes", fn := fun _ => fun
  | [d] => { results := [.lit (.bool true)], args := [d] }
  | _ => none }
def bloomMakesRow : OpenClaim := { program := "ytgnicgcdhldmmaadoor", sum := "3221dffcbd214fe6fe3498ce9fb7b3b4ebfd29a900a50dc0b7d59d92cb294159", func := "tailrace/tailracelaw11.BloomMakes", spec := "bloomMakes", unfollowed := true, recurses := true, named := ["tailrace/crc.halves"], apart := false, laid := [("tailrace/crc.halves", laid_tailrace_crc_halves)] }
def BloomMakesSaid : Prop := bloomMakesRow.holds Tryd.pinned (OpenSpec.ofChange bloomMakesSpec)

/-- ITS FALSE NEIGHBOUR: 'it returns false'. Refute it at one input. -/
def bloomMakesWrong : ChangeSpec := { name := "bloomMakes", fn := fun _ => fun
  | [d] => { results := [.lit (.bool false)], args := [d] }
  | _ => none }
def BloomMakesWrongFalsely : Prop := bloomMakesRow.holds Tryd.pinned (OpenSpec.ofChange bloomMakesWrong)

/-- 'tailracelaw11.BloomMays': WHATEVER THE INPUT: true; the input reads as it did. -/
def bloomMaysSpec : ChangeSpec := { name := "bloomMays", fn := fun _ => fun
  | [d1, d2] => { results := [.lit (.bool true)], args := [d1, d2] }
  | _ => none }
def bloomMaysRow : OpenClaim := { program := "ytgnicgcdhldmmaadoor", sum := "3221dffcbd214fe6fe3498ce9fb7b3b4ebfd29a900a50dc0b7d59d92cb294159", func := "tailrace/tailracelaw11.BloomMays", spec := "bloomMays", unfollowed := true, recurses := true, named := ["tailrace/crc.halves"], apart := false, laid := [("tailrace/crc.halves", laid_tailrace_crc_halves)] }
def BloomMaysSaid : Prop := bloomMaysRow.holds Tryd.pinned (OpenSpec.ofChange bloomMaysSpec)

/-- ITS FALSE NEIGHBOUR: 'it returns false'. Refute it at one input. -/
def bloomMaysWrong : ChangeSpec := { name := "bloomMays", fn := fun _ => fun
  | [d1, d2] => { results := [.lit (.bool false)], args := [d1, d2] }
  | _ => none }
def BloomMaysWrongFalsely : Prop := bloomMaysRow.holds Tryd.pinned (OpenSpec.ofChange bloomMaysWrong)

/-- 'tailracelaw11.BloomSizes': WHATEVER THE INPUT: true; the input reads as it did. -/
def bloomSizesSpec : ChangeSpec := { name := "bloomSizes", fn := fun _ => fun
  | [d1, d2] => { results := [.lit (.bool true)], args := [d1, d2] }
  | _ => none }
def bloomSizesRow : OpenClaim := { program := "ytgnicgcdhldmmaadoor", sum := "3221dffcbd214fe6fe3498ce9fb7b3b4ebfd29a900a50dc0b7d59d92cb294159", func := "tailrace/tailracelaw11.BloomSizes", spec := "bloomSizes", unfollowed := true, recurses := true, named := ["tailrace/crc.halves"], apart := false, laid := [("tailrace/crc.halves", laid_tailrace_crc_halves)] }
def BloomSizesSaid : Prop := bloomSizesRow.holds Tryd.pinned (OpenSpec.ofChange bloomSizesSpec)

/-- ITS FALSE NEIGHBOUR: 'it returns false'. Refute it at one input. -/
def bloomSizesWrong : ChangeSpec := { name := "bloomSizes", fn := fun _ => fun
  | [d1, d2] => { results := [.lit (.bool false)], args := [d1, d2] }
  | _ => none }
def BloomSizesWrongFalsely : Prop := bloomSizesRow.holds Tryd.pinned (OpenSpec.ofChange bloomSizesWrong)

/-- 'tailracelaw11.BloomSeldom': WHATEVER THE INPUT: true; the input reads as it did. -/
def bloomSeldomSpec : ChangeSpec := { name := "bloomSeldom", fn := fun _ => fun
  | [d] => { results := [.lit (.bool true)], args := [d] }
  | _ => none }
def bloomSeldomRow : OpenClaim := { program := "ytgnicgcdhldmmaadoor", sum := "3221dffcbd214fe6fe3498ce9fb7b3b4ebfd29a900a50dc0b7d59d92cb294159", func := "tailrace/tailracelaw11.BloomSeldom", spec := "bloomSeldom", inPlace := ["internal/abi.NoEscape", "internal/bytealg.MakeNoZero"], unfollowed := true, recurses := true, named := ["tailrace/crc.halves"], apart := false, laid := [("tailrace/crc.halves", laid_tailrace_crc_halves)] }
def BloomSeldomSaid : Prop := bloomSeldomRow.holds Tryd.pinned (OpenSpec.ofChange bloomSeldomSpec)

/-- ITS FALSE NEIGHBOUR: 'it returns false'. Refute it at one input. -/
def bloomSeldomWrong : ChangeSpec := { name := "bloomSeldom", fn := fun _ => fun
  | [d] => { results := [.lit (.bool false)], args := [d] }
  | _ => none }
def BloomSeldomWrongFalsely : Prop := bloomSeldomRow.holds Tryd.pinned (OpenSpec.ofChange bloomSeldomWrong)

/- THE SECOND FORM. 'bulk': how many values and letters a reading holds, each counted each time it is reached (what is shared counts as often as it is met; a slice's spare places count too). A statement '..UptoSaid' is the law's where the arguments, and the package variables that the reading takes, are together of bulk at most 1048576: NARROWER than '..Said'. Prove '..Said' where nothing that the law and all that it calls make is longer than what came in: it says more and counts as full. Else prove '..UptoSaid'. A law counts once. -/
mutual
def uptoBulk {H : Type} : DataW H → Nat
  | .lit (.string bytes) => bytes.length + 1
  | .lit _ => 1
  | .nil => 1
  | .ptr d => uptoBulk d + 1
  | .slice elems spare => uptoBulkAll elems + uptoBulkAll spare + 1
  | .agg parts => uptoBulkAll parts + 1
  | .iface _ d => uptoBulk d + 1
  | .map entries => uptoBulkEntries entries + 1
  | .held _ => 1
def uptoBulkAll {H : Type} : List (DataW H) → Nat
  | [] => 0
  | d :: r => uptoBulk d + uptoBulkAll r
def uptoBulkEntries {H : Type} : List (Lit × DataW H) → Nat
  | [] => 0
  | x :: r => uptoBulkEntry x + uptoBulkEntries r
def uptoBulkEntry {H : Type} : Lit × DataW H → Nat
  | (.string bytes, d) => bytes.length + uptoBulk d + 1
  | (_, d) => uptoBulk d + 1
 end
def uptoSmall : (H : Type) → List (DataW H) → Bool := fun _ ds => decide (uptoBulkAll ds ≤ 1048576)
def OpenSpec.upto (s : _root_.Go.ChangeSpec) : _root_.Go.OpenSpec := { _root_.Go.OpenSpec.ofChange s with cond := some uptoSmall }

/-- 'tailracelaw11.BloomKeeps', WHERE WHAT IT READS IS OF BULK AT MOST 1048576: true; the input reads as it did. -/
def bloomKeepsUptoRow : OpenClaim := { program := "ytgnicgcdhldmmaadoor", sum := "3221dffcbd214fe6fe3498ce9fb7b3b4ebfd29a900a50dc0b7d59d92cb294159", func := "tailrace/tailracelaw11.BloomKeeps", spec := "bloomKeeps", unfollowed := true, recurses := true, named := ["tailrace/crc.halves"], apart := false, laid := [("tailrace/crc.halves", laid_tailrace_crc_halves)], narrowed := true }
def BloomKeepsUptoSaid : Prop := bloomKeepsUptoRow.holds Tryd.pinned (OpenSpec.upto bloomKeepsSpec)

/-- 'tailracelaw11.BloomMakes', WHERE WHAT IT READS IS OF BULK AT MOST 1048576: true; the input reads as it did. -/
def bloomMakesUptoRow : OpenClaim := { program := "ytgnicgcdhldmmaadoor", sum := "3221dffcbd214fe6fe3498ce9fb7b3b4ebfd29a900a50dc0b7d59d92cb294159", func := "tailrace/tailracelaw11.BloomMakes", spec := "bloomMakes", unfollowed := true, recurses := true, named := ["tailrace/crc.halves"], apart := false, laid := [("tailrace/crc.halves", laid_tailrace_crc_halves)], narrowed := true }
def BloomMakesUptoSaid : Prop := bloomMakesUptoRow.holds Tryd.pinned (OpenSpec.upto bloomMakesSpec)

/-- 'tailracelaw11.BloomMays', WHERE WHAT IT READS IS OF BULK AT MOST 1048576: true; the input reads as it did. -/
def bloomMaysUptoRow : OpenClaim := { program := "ytgnicgcdhldmmaadoor", sum := "3221dffcbd214fe6fe3498ce9fb7b3b4ebfd29a900a50dc0b7d59d92cb294159", func := "tailrace/tailracelaw11.BloomMays", spec := "bloomMays", unfollowed := true, recurses := true, named := ["tailrace/crc.halves"], apart := false, laid := [("tailrace/crc.halves", laid_tailrace_crc_halves)], narrowed := true }
def BloomMaysUptoSaid : Prop := bloomMaysUptoRow.holds Tryd.pinned (OpenSpec.upto bloomMaysSpec)

/-- 'tailracelaw11.BloomSizes', WHERE WHAT IT READS IS OF BULK AT MOST 1048576: true; the input reads as it did. -/
def bloomSizesUptoRow : OpenClaim := { program := "ytgnicgcdhldmmaadoor", sum := "3221dffcbd214fe6fe3498ce9fb7b3b4ebfd29a900a50dc0b7d59d92cb294159", func := "tailrace/tailracelaw11.BloomSizes", spec := "bloomSizes", unfollowed := true, recurses := true, named := ["tailrace/crc.halves"], apart := false, laid := [("tailrace/crc.halves", laid_tailrace_crc_halves)], narrowed := true }
def BloomSizesUptoSaid : Prop := bloomSizesUptoRow.holds Tryd.pinned (OpenSpec.upto bloomSizesSpec)

/-- 'tailracelaw11.BloomSeldom', WHERE WHAT IT READS IS OF BULK AT MOST 1048576: true; the input reads as it did. -/
def bloomSeldomUptoRow : OpenClaim := { program := "ytgnicgcdhldmmaadoor", sum := "3221dffcbd214fe6fe3498ce9fb7b3b4ebfd29a900a50dc0b7d59d92cb294159", func := "tailrace/tailracelaw11.BloomSeldom", spec := "bloomSeldom", inPlace := ["internal/abi.NoEscape", "internal/bytealg.MakeNoZero"], unfollowed := true, recurses := true, named := ["tailrace/crc.halves"], apart := false, laid := [("tailrace/crc.halves", laid_tailrace_crc_halves)], narrowed := true }
def BloomSeldomUptoSaid : Prop := bloomSeldomUptoRow.holds Tryd.pinned (OpenSpec.upto bloomSeldomSpec)

end Rows
end Go.Proofs.YtgnicgcdhldmmaaDoor
