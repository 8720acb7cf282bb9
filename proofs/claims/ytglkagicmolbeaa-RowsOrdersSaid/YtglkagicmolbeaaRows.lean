/-
  No cell of these rows narrows 'for every input' (looked for: loops, veiled, ifaces, maps, wideKeys, modest, calm, conditions, laid).
  DERIVED. THE GIVEN ROWS OF THIS SEAT. 12 by the template 'for every input the law returns true; each argument reads behind the call as it read before'; 0 by the template 'total and deterministic' (their statements: YtglkagicmolbeaaTotals.lean).
  GIVEN WITH THE SEED: the statements are not yours to turn. If you find one false, say at which input.
  Laid BY PROGRAM, IN A SANDBOX (cutbox-rows.mjs): the forced cells as the released guide's own fill.sh prints them over the translation 93f203584d317280… (all of the seat's roots in one cut). By AI agents, Wed Nov 11 2026. No macro, syntax, notation, axiom, sorry.
-/
import Derived.Test.YtglkagicmolbeaaChecked
import GoSem.Claim
import GoSem.ClaimJoined
import GoSem.ClaimMapViews
import Derived.JoinedTies
import Derived.KernelRfl
namespace Go.Proofs.Ytglkagicmolbeaa
/- THE CELL 'sum', in the pinned program and in every row, IS THE sha256 OF THE DUMP (.gsa) THAT YtglkagicmolbeaaProg.lean LOADS. Nothing in Lean hashes anything: it is a label: what it is worth is what the hold of that sum in a sandbox is worth. -/
noncomputable def Try.pinned : Pinned := { name := "ytglkagicmolbeaa", sum := "93f203584d31728019055ffd3f05a169988c3ab0085aa228b40f044bff60a854", checked := Try.checked }
namespace Rows
def none {H : Type} : Left H := { results := [], args := [] }

/-- 'tailracelaw01.NumGets': WHATEVER THE INPUT: true; the input reads as it did. -/
def numGetsSpec : ChangeSpec := { name := "numGets", fn := fun _ => fun
  | [d] => { results := [.lit (.bool true)], args := [d] }
  | _ => none }
def numGetsRow : OpenClaim := { program := "ytglkagicmolbeaa", sum := "93f203584d31728019055ffd3f05a169988c3ab0085aa228b40f044bff60a854", func := "tailrace/tailracelaw01.NumGets", spec := "numGets", apart := false }
def NumGetsSaid : Prop := numGetsRow.holds Try.pinned (OpenSpec.ofChange numGetsSpec)

/-- ITS FALSE NEIGHBOUR: 'it returns false'. Refute it at one input. -/
def numGetsWrong : ChangeSpec := { name := "numGets", fn := fun _ => fun
  | [d] => { results := [.lit (.bool false)], args := [d] }
  | _ => none }
def NumGetsWrongFalsely : Prop := numGetsRow.holds Try.pinned (OpenSpec.ofChange numGetsWrong)

/-- 'tailracelaw01.NumPuts': WHATEVER THE INPUT: true; the input reads as it did. -/
def numPutsSpec : ChangeSpec := { name := "numPuts", fn := fun _ => fun
  | [d1, d2] => { results := [.lit (.bool true)], args := [d1, d2] }
  | _ => none }
def numPutsRow : OpenClaim := { program := "ytglkagicmolbeaa", sum := "93f203584d31728019055ffd3f05a169988c3ab0085aa228b40f044bff60a854", func := "tailrace/tailracelaw01.NumPuts", spec := "numPuts", apart := false }
def NumPutsSaid : Prop := numPutsRow.holds Try.pinned (OpenSpec.ofChange numPutsSpec)

/-- ITS FALSE NEIGHBOUR: 'it returns false'. Refute it at one input. -/
def numPutsWrong : ChangeSpec := { name := "numPuts", fn := fun _ => fun
  | [d1, d2] => { results := [.lit (.bool false)], args := [d1, d2] }
  | _ => none }
def NumPutsWrongFalsely : Prop := numPutsRow.holds Try.pinned (OpenSpec.ofChange numPutsWrong)

/-- 'tailracelaw18.RowsOrders': WHATEVER THE INPUT: true; the input reads as it did. -/
def rowsOrdersSpec : ChangeSpec := { name := "rowsOrders", fn := fun _ => fun
  | [d1, d2, d3, d4, d5] => { results := [.lit (.bool true)], args := [d1, d2, d3, d4, d5] }
  | _ => none }
def rowsOrdersRow : OpenClaim := { program := "ytglkagicmolbeaa", sum := "93f203584d31728019055ffd3f05a169988c3ab0085aa228b40f044bff60a854", func := "tailrace/tailracelaw18.RowsOrders", spec := "rowsOrders", apart := false }
def RowsOrdersSaid : Prop := rowsOrdersRow.holds Try.pinned (OpenSpec.ofChange rowsOrdersSpec)

/-- ITS FALSE NEIGHBOUR: 'it returns false'. Refute it at one input. -/
def rowsOrdersWrong : ChangeSpec := { name := "rowsOrders", fn := fun _ => fun
  | [d1, d2, d3, d4, d5] => { results := [.lit (.bool false)], args := [d1, d2, d3, d4, d5] }
  | _ => none }
def RowsOrdersWrongFalsely : Prop := rowsOrdersRow.holds Try.pinned (OpenSpec.ofChange rowsOrdersWrong)

/-- 'tailracelaw18.RowsKeys': WHATEVER THE INPUT: true; the input reads as it did. -/
def rowsKeysSpec : ChangeSpec := { name := "rowsKeys", fn := fun _ => fun
  | [d1, d2, d3, d4, d5] => { results := [.lit (.bool true)], args := [d1, d2, d3, d4, d5] }
  | _ => none }
def rowsKeysRow : OpenClaim := { program := "ytglkagicmolbeaa", sum := "93f203584d31728019055ffd3f05a169988c3ab0085aa228b40f044bff60a854", func := "tailrace/tailracelaw18.RowsKeys", spec := "rowsKeys", apart := false }
def RowsKeysSaid : Prop := rowsKeysRow.holds Try.pinned (OpenSpec.ofChange rowsKeysSpec)

/-- ITS FALSE NEIGHBOUR: 'it returns false'. Refute it at one input. -/
def rowsKeysWrong : ChangeSpec := { name := "rowsKeys", fn := fun _ => fun
  | [d1, d2, d3, d4, d5] => { results := [.lit (.bool false)], args := [d1, d2, d3, d4, d5] }
  | _ => none }
def RowsKeysWrongFalsely : Prop := rowsKeysRow.holds Try.pinned (OpenSpec.ofChange rowsKeysWrong)

/-- 'tailracelaw01.NumOrders': WHATEVER THE INPUT: true; the input reads as it did. -/
def numOrdersSpec : ChangeSpec := { name := "numOrders", fn := fun _ => fun
  | [d1, d2] => { results := [.lit (.bool true)], args := [d1, d2] }
  | _ => none }
def numOrdersRow : OpenClaim := { program := "ytglkagicmolbeaa", sum := "93f203584d31728019055ffd3f05a169988c3ab0085aa228b40f044bff60a854", func := "tailrace/tailracelaw01.NumOrders", spec := "numOrders", apart := false }
def NumOrdersSaid : Prop := numOrdersRow.holds Try.pinned (OpenSpec.ofChange numOrdersSpec)

/-- ITS FALSE NEIGHBOUR: 'it returns false'. Refute it at one input. -/
def numOrdersWrong : ChangeSpec := { name := "numOrders", fn := fun _ => fun
  | [d1, d2] => { results := [.lit (.bool false)], args := [d1, d2] }
  | _ => none }
def NumOrdersWrongFalsely : Prop := numOrdersRow.holds Try.pinned (OpenSpec.ofChange numOrdersWrong)

/-- 'tailracelaw01.NumCompacts': WHATEVER THE INPUT: true; the input reads as it did. -/
def numCompactsSpec : ChangeSpec := { name := "numCompacts", fn := fun _ => fun
  | [d1, d2] => { results := [.lit (.bool true)], args := [d1, d2] }
  | _ => none }
def numCompactsRow : OpenClaim := { program := "ytglkagicmolbeaa", sum := "93f203584d31728019055ffd3f05a169988c3ab0085aa228b40f044bff60a854", func := "tailrace/tailracelaw01.NumCompacts", spec := "numCompacts", apart := false }
def NumCompactsSaid : Prop := numCompactsRow.holds Try.pinned (OpenSpec.ofChange numCompactsSpec)

/-- ITS FALSE NEIGHBOUR: 'it returns false'. Refute it at one input. -/
def numCompactsWrong : ChangeSpec := { name := "numCompacts", fn := fun _ => fun
  | [d1, d2] => { results := [.lit (.bool false)], args := [d1, d2] }
  | _ => none }
def NumCompactsWrongFalsely : Prop := numCompactsRow.holds Try.pinned (OpenSpec.ofChange numCompactsWrong)

/-- 'tailracelaw01.NumExpands': WHATEVER THE INPUT: true; the input reads as it did. -/
def numExpandsSpec : ChangeSpec := { name := "numExpands", fn := fun _ => fun
  | [d] => { results := [.lit (.bool true)], args := [d] }
  | _ => none }
def numExpandsRow : OpenClaim := { program := "ytglkagicmolbeaa", sum := "93f203584d31728019055ffd3f05a169988c3ab0085aa228b40f044bff60a854", func := "tailrace/tailracelaw01.NumExpands", spec := "numExpands", apart := false }
def NumExpandsSaid : Prop := numExpandsRow.holds Try.pinned (OpenSpec.ofChange numExpandsSpec)

/-- ITS FALSE NEIGHBOUR: 'it returns false'. Refute it at one input. -/
def numExpandsWrong : ChangeSpec := { name := "numExpands", fn := fun _ => fun
  | [d] => { results := [.lit (.bool false)], args := [d] }
  | _ => none }
def NumExpandsWrongFalsely : Prop := numExpandsRow.holds Try.pinned (OpenSpec.ofChange numExpandsWrong)

/-- 'tailracelaw01.NumBytes': WHATEVER THE INPUT: true; the input reads as it did. -/
def numBytesSpec : ChangeSpec := { name := "numBytes", fn := fun _ => fun
  | [d1, d2, d3] => { results := [.lit (.bool true)], args := [d1, d2, d3] }
  | _ => none }
def numBytesRow : OpenClaim := { program := "ytglkagicmolbeaa", sum := "93f203584d31728019055ffd3f05a169988c3ab0085aa228b40f044bff60a854", func := "tailrace/tailracelaw01.NumBytes", spec := "numBytes", apart := false }
def NumBytesSaid : Prop := numBytesRow.holds Try.pinned (OpenSpec.ofChange numBytesSpec)

/-- ITS FALSE NEIGHBOUR: 'it returns false'. Refute it at one input. -/
def numBytesWrong : ChangeSpec := { name := "numBytes", fn := fun _ => fun
  | [d1, d2, d3] => { results := [.lit (.bool false)], args := [d1, d2, d3] }
  | _ => none }
def NumBytesWrongFalsely : Prop := numBytesRow.holds Try.pinned (OpenSpec.ofChange numBytesWrong)

/-- 'tailracelaw18.RowsCoins': WHATEVER THE INPUT: true; the input reads as it did. -/
def rowsCoinsSpec : ChangeSpec := { name := "rowsCoins", fn := fun _ => fun
  | [d1, d2, d3] => { results := [.lit (.bool true)], args := [d1, d2, d3] }
  | _ => none }
def rowsCoinsRow : OpenClaim := { program := "ytglkagicmolbeaa", sum := "93f203584d31728019055ffd3f05a169988c3ab0085aa228b40f044bff60a854", func := "tailrace/tailracelaw18.RowsCoins", spec := "rowsCoins", apart := false }
def RowsCoinsSaid : Prop := rowsCoinsRow.holds Try.pinned (OpenSpec.ofChange rowsCoinsSpec)

/-- ITS FALSE NEIGHBOUR: 'it returns false'. Refute it at one input. -/
def rowsCoinsWrong : ChangeSpec := { name := "rowsCoins", fn := fun _ => fun
  | [d1, d2, d3] => { results := [.lit (.bool false)], args := [d1, d2, d3] }
  | _ => none }
def RowsCoinsWrongFalsely : Prop := rowsCoinsRow.holds Try.pinned (OpenSpec.ofChange rowsCoinsWrong)

/-- 'tailracelaw18.RowsParts': WHATEVER THE INPUT: true; the input reads as it did. -/
def rowsPartsSpec : ChangeSpec := { name := "rowsParts", fn := fun _ => fun
  | [d1, d2, d3, d4, d5] => { results := [.lit (.bool true)], args := [d1, d2, d3, d4, d5] }
  | _ => none }
def rowsPartsRow : OpenClaim := { program := "ytglkagicmolbeaa", sum := "93f203584d31728019055ffd3f05a169988c3ab0085aa228b40f044bff60a854", func := "tailrace/tailracelaw18.RowsParts", spec := "rowsParts", unfollowed := true, recurses := true, apart := false }
def RowsPartsSaid : Prop := rowsPartsRow.holds Try.pinned (OpenSpec.ofChange rowsPartsSpec)

/-- ITS FALSE NEIGHBOUR: 'it returns false'. Refute it at one input. -/
def rowsPartsWrong : ChangeSpec := { name := "rowsParts", fn := fun _ => fun
  | [d1, d2, d3, d4, d5] => { results := [.lit (.bool false)], args := [d1, d2, d3, d4, d5] }
  | _ => none }
def RowsPartsWrongFalsely : Prop := rowsPartsRow.holds Try.pinned (OpenSpec.ofChange rowsPartsWrong)

/-- 'tailracelaw01.NumLines': WHATEVER THE INPUT: true; the input reads as it did. -/
def numLinesSpec : ChangeSpec := { name := "numLines", fn := fun _ => fun
  | [d] => { results := [.lit (.bool true)], args := [d] }
  | _ => none }
def numLinesRow : OpenClaim := { program := "ytglkagicmolbeaa", sum := "93f203584d31728019055ffd3f05a169988c3ab0085aa228b40f044bff60a854", func := "tailrace/tailracelaw01.NumLines", spec := "numLines", apart := false }
def NumLinesSaid : Prop := numLinesRow.holds Try.pinned (OpenSpec.ofChange numLinesSpec)

/-- ITS FALSE NEIGHBOUR: 'it returns false'. Refute it at one input. -/
def numLinesWrong : ChangeSpec := { name := "numLines", fn := fun _ => fun
  | [d] => { results := [.lit (.bool false)], args := [d] }
  | _ => none }
def NumLinesWrongFalsely : Prop := numLinesRow.holds Try.pinned (OpenSpec.ofChange numLinesWrong)

/-- 'tailracelaw18.RowsReads': WHATEVER THE INPUT: true; the input reads as it did. -/
def rowsReadsSpec : ChangeSpec := { name := "rowsReads", fn := fun _ => fun
  | [d1, d2] => { results := [.lit (.bool true)], args := [d1, d2] }
  | _ => none }
def rowsReadsRow : OpenClaim := { program := "ytglkagicmolbeaa", sum := "93f203584d31728019055ffd3f05a169988c3ab0085aa228b40f044bff60a854", func := "tailrace/tailracelaw18.RowsReads", spec := "rowsReads", unfollowed := true, recurses := true, apart := false }
def RowsReadsSaid : Prop := rowsReadsRow.holds Try.pinned (OpenSpec.ofChange rowsReadsSpec)

/-- ITS FALSE NEIGHBOUR: 'it returns false'. Refute it at one input. -/
def rowsReadsWrong : ChangeSpec := { name := "rowsReads", fn := fun _ => fun
  | [d1, d2] => { results := [.lit (.bool false)], args := [d1, d2] }
  | _ => none }
def RowsReadsWrongFalsely : Prop := rowsReadsRow.holds Try.pinned (OpenSpec.ofChange rowsReadsWrong)

/- THE SECOND FORM. 'bulk': how many values and letters a reading holds, each counted each time it is reached (what is shared counts as often as it is met; a slice's spare places count too). A statement '..UptoSaid' is the law's where the arguments, and the package variables that the reading takes, are together of bulk at most 1048576: NARROWER than '..Said'. Prove '..Said' where nothing that the law and all that it calls make is longer than what came in: it says more and counts as full. Else prove '..UptoSaid'. A law counts once. -/
mutual
def uptoBulk {H : Type} : DataW H → Nat
  | .lit (.string bytes) => bytes.length + 1
  | .lit _ => 1
  | .nil => 1
  | .ptr d => uptoBulk d + 1
  | .slice elems spare => uptoBulkAll elems + uptoBulkAll spare + 1
  | .agg parts => uptoBulkAll parts + 1
  | .iface _ d => uptoBulk d + 1
  | .map entries => uptoBulkEntries entries + 1
  | .held _ => 1
def uptoBulkAll {H : Type} : List (DataW H) → Nat
  | [] => 0
  | d :: r => uptoBulk d + uptoBulkAll r
def uptoBulkEntries {H : Type} : List (Lit × DataW H) → Nat
  | [] => 0
  | x :: r => uptoBulkEntry x + uptoBulkEntries r
def uptoBulkEntry {H : Type} : Lit × DataW H → Nat
  | (.string bytes, d) => bytes.length + uptoBulk d + 1
  | (_, d) => uptoBulk d + 1
 end
def uptoSmall : (H : Type) → List (DataW H) → Bool := fun _ ds => decide (uptoBulkAll ds ≤ 1048576)
def OpenSpec.upto (s : _root_.Go.ChangeSpec) : _root_.Go.OpenSpec := { _root_.Go.OpenSpec.ofChange s with cond := some uptoSmall }

/-- 'tailracelaw01.NumGets', WHERE WHAT IT READS IS OF BULK AT MOST 1048576: true; the input reads as it did. -/
def numGetsUptoRow : OpenClaim := { program := "ytglkagicmolbeaa", sum := "93f203584d31728019055ffd3f05a169988c3ab0085aa228b40f044bff60a854", func := "tailrace/tailracelaw01.NumGets", spec := "numGets", apart := false, narrowed := true }
def NumGetsUptoSaid : Prop := numGetsUptoRow.holds Try.pinned (OpenSpec.upto numGetsSpec)

/-- 'tailracelaw01.NumPuts', WHERE WHAT IT READS IS OF BULK AT MOST 1048576: true; the input reads as it did. -/
def numPutsUptoRow : OpenClaim := { program := "ytglkagicmolbeaa", sum := "93f203584d31728019055ffd3f05a169988c3ab0085aa228b40f044bff60a854", func := "tailrace/tailracelaw01.NumPuts", spec := "numPuts", apart := false, narrowed := true }
def NumPutsUptoSaid : Prop := numPutsUptoRow.holds Try.pinned (OpenSpec.upto numPutsSpec)

/-- 'tailracelaw18.RowsOrders', WHERE WHAT IT READS IS OF BULK AT MOST 1048576: true; the input reads as it did. -/
def rowsOrdersUptoRow : OpenClaim := { program := "ytglkagicmolbeaa", sum := "93f203584d31728019055ffd3f05a169988c3ab0085aa228b40f044bff60a854", func := "tailrace/tailracelaw18.RowsOrders", spec := "rowsOrders", apart := false, narrowed := true }
def RowsOrdersUptoSaid : Prop := rowsOrdersUptoRow.holds Try.pinned (OpenSpec.upto rowsOrdersSpec)

/-- 'tailracelaw18.RowsKeys', WHERE WHAT IT READS IS OF BULK AT MOST 1048576: true; the input reads as it did. -/
def rowsKeysUptoRow : OpenClaim := { program := "ytglkagicmolbeaa", sum := "93f203584d31728019055ffd3f05a169988c3ab0085aa228b40f044bff60a854", func := "tailrace/tailracelaw18.RowsKeys", spec := "rowsKeys", apart := false, narrowed := true }
def RowsKeysUptoSaid : Prop := rowsKeysUptoRow.holds Try.pinned (OpenSpec.upto rowsKeysSpec)

/-- 'tailracelaw01.NumOrders', WHERE WHAT IT READS IS OF BULK AT MOST 1048576: true; the input reads as it did. -/
def numOrdersUptoRow : OpenClaim := { program := "ytglkagicmolbeaa", sum := "93f203584d31728019055ffd3f05a169988c3ab0085aa228b40f044bff60a854", func := "tailrace/tailracelaw01.NumOrders", spec := "numOrders", apart := false, narrowed := true }
def NumOrdersUptoSaid : Prop := numOrdersUptoRow.holds Try.pinned (OpenSpec.upto numOrdersSpec)

/-- 'tailracelaw01.NumCompacts', WHERE WHAT IT READS IS OF BULK AT MOST 1048576: true; the input reads as it did. -/
def numCompactsUptoRow : OpenClaim := { program := "ytglkagicmolbeaa", sum := "93f203584d31728019055ffd3f05a169988c3ab0085aa228b40f044bff60a854", func := "tailrace/tailracelaw01.NumCompacts", spec := "numCompacts", apart := false, narrowed := true }
def NumCompactsUptoSaid : Prop := numCompactsUptoRow.holds Try.pinned (OpenSpec.upto numCompactsSpec)

/-- 'tailracelaw01.NumExpands', WHERE WHAT IT READS IS OF BULK AT MOST 1048576: true; the input reads as it did. -/
def numExpandsUptoRow : OpenClaim := { program := "ytglkagicmolbeaa", sum := "93f203584d31728019055ffd3f05a169988c3ab0085aa228b40f044bff60a854", func := "tailrace/tailracelaw01.NumExpands", spec := "numExpands", apart := false, narrowed := true }
def NumExpandsUptoSaid : Prop := numExpandsUptoRow.holds Try.pinned (OpenSpec.upto numExpandsSpec)

/-- 'tailracelaw01.NumBytes', WHERE WHAT IT READS IS OF BULK AT MOST 1048576: true; the input reads as it did. -/
def numBytesUptoRow : OpenClaim := { program := "ytglkagicmolbeaa", sum := "93f203584d31728019055ffd3f05a169988c3ab0085aa228b40f044bff60a854", func := "tailrace/tailracelaw01.NumBytes", spec := "numBytes", apart := false, narrowed := true }
def NumBytesUptoSaid : Prop := numBytesUptoRow.holds Try.pinned (OpenSpec.upto numBytesSpec)

/-- 'tailracelaw18.RowsCoins', WHERE WHAT IT READS IS OF BULK AT MOST 1048576: true; the input reads as it did. -/
def rowsCoinsUptoRow : OpenClaim := { program := "ytglkagicmolbeaa", sum := "93f203584d31728019055ffd3f05a169988c3ab0085aa228b40f044bff60a854", func := "tailrace/tailracelaw18.RowsCoins", spec := "rowsCoins", apart := false, narrowed := true }
def RowsCoinsUptoSaid : Prop := rowsCoinsUptoRow.holds Try.pinned (OpenSpec.upto rowsCoinsSpec)

/-- 'tailracelaw18.RowsParts', WHERE WHAT IT READS IS OF BULK AT MOST 1048576: true; the input reads as it did. -/
def rowsPartsUptoRow : OpenClaim := { program := "ytglkagicmolbeaa", sum := "93f203584d31728019055ffd3f05a169988c3ab0085aa228b40f044bff60a854", func := "tailrace/tailracelaw18.RowsParts", spec := "rowsParts", unfollowed := true, recurses := true, apart := false, narrowed := true }
def RowsPartsUptoSaid : Prop := rowsPartsUptoRow.holds Try.pinned (OpenSpec.upto rowsPartsSpec)

/-- 'tailracelaw01.NumLines', WHERE WHAT IT READS IS OF BULK AT MOST 1048576: true; the input reads as it did. -/
def numLinesUptoRow : OpenClaim := { program := "ytglkagicmolbeaa", sum := "93f203584d31728019055ffd3f05a169988c3ab0085aa228b40f044bff60a854", func := "tailrace/tailracelaw01.NumLines", spec := "numLines", apart := false, narrowed := true }
def NumLinesUptoSaid : Prop := numLinesUptoRow.holds Try.pinned (OpenSpec.upto numLinesSpec)

/-- 'tailracelaw18.RowsReads', WHERE WHAT IT READS IS OF BULK AT MOST 1048576: true; the input reads as it did. -/
def rowsReadsUptoRow : OpenClaim := { program := "ytglkagicmolbeaa", sum := "93f203584d31728019055ffd3f05a169988c3ab0085aa228b40f044bff60a854", func := "tailrace/tailracelaw18.RowsReads", spec := "rowsReads", unfollowed := true, recurses := true, apart := false, narrowed := true }
def RowsReadsUptoSaid : Prop := rowsReadsUptoRow.holds Try.pinned (OpenSpec.upto rowsReadsSpec)

end Rows
end Go.Proofs.Ytglkagicmolbeaa
