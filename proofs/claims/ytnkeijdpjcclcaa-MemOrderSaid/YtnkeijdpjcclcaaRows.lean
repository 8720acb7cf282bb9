/-
  No cell of these rows narrows 'for every input' (looked for: loops, veiled, ifaces, maps, wideKeys, modest, calm, conditions, laid).
  DERIVED. THE GIVEN ROWS OF THIS SEAT. 11 by the template 'for every input the law returns true; each argument reads behind the call as it read before'; 0 by the template 'total and deterministic' (their statements: YtnkeijdpjcclcaaTotals.lean).
  GIVEN WITH THE SEED: the statements are not yours to turn. If you find one false, say at which input.
  Laid BY PROGRAM, IN A SANDBOX (cutbox-rows.mjs): the forced cells as the released guide's own fill.sh prints them over the translation e2c2f4ab7af74bc2… (all of the seat's roots in one cut). By AI agents, Wed Nov 11 2026. No macro, syntax, notation, axiom, sorry.
-/
import Derived.Test.YtnkeijdpjcclcaaChecked
import GoSem.Claim
import GoSem.ClaimJoined
import GoSem.ClaimMapViews
import Derived.JoinedTies
import Derived.KernelRfl
namespace Go.Proofs.Ytnkeijdpjcclcaa
/- THE CELL 'sum', in the pinned program and in every row, IS THE sha256 OF THE DUMP (.gsa) THAT YtnkeijdpjcclcaaProg.lean LOADS. Nothing in Lean hashes anything: it is a label: what it is worth is what the hold of that sum in a sandbox is worth. -/
noncomputable def Try.pinned : Pinned := { name := "ytnkeijdpjcclcaa", sum := "e2c2f4ab7af74bc291e07b36a52caefa95deba7ef3bbbdeea89434ac5345b542", checked := Try.checked }
namespace Rows
def none {H : Type} : Left H := { results := [], args := [] }

/-- 'tailracelaw12.PageMakes': WHATEVER THE INPUT: true; the input reads as it did. -/
def pageMakesSpec : ChangeSpec := { name := "pageMakes", fn := fun _ => fun
  | [d] => { results := [.lit (.bool true)], args := [d] }
  | _ => none }
def pageMakesRow : OpenClaim := { program := "ytnkeijdpjcclcaa", sum := "e2c2f4ab7af74bc291e07b36a52caefa95deba7ef3bbbdeea89434ac5345b542", func := "tailrace/tailracelaw12.PageMakes", spec := "pageMakes", apart := false }
def PageMakesSaid : Prop := pageMakesRow.holds Try.pinned (OpenSpec.ofChange pageMakesSpec)

/-- ITS FALSE NEIGHBOUR: 'it returns false'. Refute it at one input. -/
def pageMakesWrong : ChangeSpec := { name := "pageMakes", fn := fun _ => fun
  | [d] => { results := [.lit (.bool false)], args := [d] }
  | _ => none }
def PageMakesWrongFalsely : Prop := pageMakesRow.holds Try.pinned (OpenSpec.ofChange pageMakesWrong)

/-- 'tailracelaw12.PageParses': WHATEVER THE INPUT: true; the input reads as it did. -/
def pageParsesSpec : ChangeSpec := { name := "pageParses", fn := fun _ => fun
  | [d] => { results := [.lit (.bool true)], args := [d] }
  | _ => none }
def pageParsesRow : OpenClaim := { program := "ytnkeijdpjcclcaa", sum := "e2c2f4ab7af74bc291e07b36a52caefa95deba7ef3bbbdeea89434ac5345b542", func := "tailrace/tailracelaw12.PageParses", spec := "pageParses", apart := false }
def PageParsesSaid : Prop := pageParsesRow.holds Try.pinned (OpenSpec.ofChange pageParsesSpec)

/-- ITS FALSE NEIGHBOUR: 'it returns false'. Refute it at one input. -/
def pageParsesWrong : ChangeSpec := { name := "pageParses", fn := fun _ => fun
  | [d] => { results := [.lit (.bool false)], args := [d] }
  | _ => none }
def PageParsesWrongFalsely : Prop := pageParsesRow.holds Try.pinned (OpenSpec.ofChange pageParsesWrong)

/-- 'tailracelaw12.PageCuts': WHATEVER THE INPUT: true; the input reads as it did. -/
def pageCutsSpec : ChangeSpec := { name := "pageCuts", fn := fun _ => fun
  | [d1, d2, d3] => { results := [.lit (.bool true)], args := [d1, d2, d3] }
  | _ => none }
def pageCutsRow : OpenClaim := { program := "ytnkeijdpjcclcaa", sum := "e2c2f4ab7af74bc291e07b36a52caefa95deba7ef3bbbdeea89434ac5345b542", func := "tailrace/tailracelaw12.PageCuts", spec := "pageCuts", apart := false }
def PageCutsSaid : Prop := pageCutsRow.holds Try.pinned (OpenSpec.ofChange pageCutsSpec)

/-- ITS FALSE NEIGHBOUR: 'it returns false'. Refute it at one input. -/
def pageCutsWrong : ChangeSpec := { name := "pageCuts", fn := fun _ => fun
  | [d1, d2, d3] => { results := [.lit (.bool false)], args := [d1, d2, d3] }
  | _ => none }
def PageCutsWrongFalsely : Prop := pageCutsRow.holds Try.pinned (OpenSpec.ofChange pageCutsWrong)

/-- 'tailracelaw12.PageWhole': WHATEVER THE INPUT: true; the input reads as it did. -/
def pageWholeSpec : ChangeSpec := { name := "pageWhole", fn := fun _ => fun
  | [d1, d2] => { results := [.lit (.bool true)], args := [d1, d2] }
  | _ => none }
def pageWholeRow : OpenClaim := { program := "ytnkeijdpjcclcaa", sum := "e2c2f4ab7af74bc291e07b36a52caefa95deba7ef3bbbdeea89434ac5345b542", func := "tailrace/tailracelaw12.PageWhole", spec := "pageWhole", apart := false }
def PageWholeSaid : Prop := pageWholeRow.holds Try.pinned (OpenSpec.ofChange pageWholeSpec)

/-- ITS FALSE NEIGHBOUR: 'it returns false'. Refute it at one input. -/
def pageWholeWrong : ChangeSpec := { name := "pageWhole", fn := fun _ => fun
  | [d1, d2] => { results := [.lit (.bool false)], args := [d1, d2] }
  | _ => none }
def PageWholeWrongFalsely : Prop := pageWholeRow.holds Try.pinned (OpenSpec.ofChange pageWholeWrong)

/-- 'tailracelaw12.PageFroms': WHATEVER THE INPUT: true; the input reads as it did. -/
def pageFromsSpec : ChangeSpec := { name := "pageFroms", fn := fun _ => fun
  | [d1, d2] => { results := [.lit (.bool true)], args := [d1, d2] }
  | _ => none }
def pageFromsRow : OpenClaim := { program := "ytnkeijdpjcclcaa", sum := "e2c2f4ab7af74bc291e07b36a52caefa95deba7ef3bbbdeea89434ac5345b542", func := "tailrace/tailracelaw12.PageFroms", spec := "pageFroms", unfollowed := true, recurses := true, apart := false }
def PageFromsSaid : Prop := pageFromsRow.holds Try.pinned (OpenSpec.ofChange pageFromsSpec)

/-- ITS FALSE NEIGHBOUR: 'it returns false'. Refute it at one input. -/
def pageFromsWrong : ChangeSpec := { name := "pageFroms", fn := fun _ => fun
  | [d1, d2] => { results := [.lit (.bool false)], args := [d1, d2] }
  | _ => none }
def PageFromsWrongFalsely : Prop := pageFromsRow.holds Try.pinned (OpenSpec.ofChange pageFromsWrong)

/-- 'tailracelaw10.MemSorts': WHATEVER THE INPUT: true; the input reads as it did. -/
def memSortsSpec : ChangeSpec := { name := "memSorts", fn := fun _ => fun
  | [d] => { results := [.lit (.bool true)], args := [d] }
  | _ => none }
def memSortsRow : OpenClaim := { program := "ytnkeijdpjcclcaa", sum := "e2c2f4ab7af74bc291e07b36a52caefa95deba7ef3bbbdeea89434ac5345b542", func := "tailrace/tailracelaw10.MemSorts", spec := "memSorts", inPlace := ["slices.overlaps[int]"], unfollowed := true, recurses := true, apart := false }
def MemSortsSaid : Prop := memSortsRow.holds Try.pinned (OpenSpec.ofChange memSortsSpec)

/-- ITS FALSE NEIGHBOUR: 'it returns false'. Refute it at one input. -/
def memSortsWrong : ChangeSpec := { name := "memSorts", fn := fun _ => fun
  | [d] => { results := [.lit (.bool false)], args := [d] }
  | _ => none }
def MemSortsWrongFalsely : Prop := memSortsRow.holds Try.pinned (OpenSpec.ofChange memSortsWrong)

/-- 'tailracelaw12.PageOfs': WHATEVER THE INPUT: true; the input reads as it did. -/
def pageOfsSpec : ChangeSpec := { name := "pageOfs", fn := fun _ => fun
  | [d] => { results := [.lit (.bool true)], args := [d] }
  | _ => none }
def pageOfsRow : OpenClaim := { program := "ytnkeijdpjcclcaa", sum := "e2c2f4ab7af74bc291e07b36a52caefa95deba7ef3bbbdeea89434ac5345b542", func := "tailrace/tailracelaw12.PageOfs", spec := "pageOfs", inPlace := ["internal/bytealg.abigen_runtime_cmpstring"], apart := false }
def PageOfsSaid : Prop := pageOfsRow.holds Try.pinned (OpenSpec.ofChange pageOfsSpec)

/-- ITS FALSE NEIGHBOUR: 'it returns false'. Refute it at one input. -/
def pageOfsWrong : ChangeSpec := { name := "pageOfs", fn := fun _ => fun
  | [d] => { results := [.lit (.bool false)], args := [d] }
  | _ => none }
def PageOfsWrongFalsely : Prop := pageOfsRow.holds Try.pinned (OpenSpec.ofChange pageOfsWrong)

/-- 'tailracelaw10.MemFroms': WHATEVER THE INPUT: true; the input reads as it did. -/
def memFromsSpec : ChangeSpec := { name := "memFroms", fn := fun _ => fun
  | [d1, d2] => { results := [.lit (.bool true)], args := [d1, d2] }
  | _ => none }
def memFromsRow : OpenClaim := { program := "ytnkeijdpjcclcaa", sum := "e2c2f4ab7af74bc291e07b36a52caefa95deba7ef3bbbdeea89434ac5345b542", func := "tailrace/tailracelaw10.MemFroms", spec := "memFroms", inPlace := ["internal/bytealg.abigen_runtime_cmpstring", "slices.overlaps[tailrace/key.Entry]"], unfollowed := true, recurses := true, apart := false }
def MemFromsSaid : Prop := memFromsRow.holds Try.pinned (OpenSpec.ofChange memFromsSpec)

/-- ITS FALSE NEIGHBOUR: 'it returns false'. Refute it at one input. -/
def memFromsWrong : ChangeSpec := { name := "memFroms", fn := fun _ => fun
  | [d1, d2] => { results := [.lit (.bool false)], args := [d1, d2] }
  | _ => none }
def MemFromsWrongFalsely : Prop := memFromsRow.holds Try.pinned (OpenSpec.ofChange memFromsWrong)

/-- 'tailracelaw10.MemOrder': WHATEVER THE INPUT: true; the input reads as it did. -/
def memOrderSpec : ChangeSpec := { name := "memOrder", fn := fun _ => fun
  | [d1, d2, d3] => { results := [.lit (.bool true)], args := [d1, d2, d3] }
  | _ => none }
def memOrderRow : OpenClaim := { program := "ytnkeijdpjcclcaa", sum := "e2c2f4ab7af74bc291e07b36a52caefa95deba7ef3bbbdeea89434ac5345b542", func := "tailrace/tailracelaw10.MemOrder", spec := "memOrder", inPlace := ["internal/bytealg.abigen_runtime_cmpstring", "slices.overlaps[tailrace/key.Entry]"], unfollowed := true, recurses := true, apart := false }
def MemOrderSaid : Prop := memOrderRow.holds Try.pinned (OpenSpec.ofChange memOrderSpec)

/-- ITS FALSE NEIGHBOUR: 'it returns false'. Refute it at one input. -/
def memOrderWrong : ChangeSpec := { name := "memOrder", fn := fun _ => fun
  | [d1, d2, d3] => { results := [.lit (.bool false)], args := [d1, d2, d3] }
  | _ => none }
def MemOrderWrongFalsely : Prop := memOrderRow.holds Try.pinned (OpenSpec.ofChange memOrderWrong)

/-- 'tailracelaw10.MemAdds': WHATEVER THE INPUT: true; the input reads as it did. -/
def memAddsSpec : ChangeSpec := { name := "memAdds", fn := fun _ => fun
  | [d] => { results := [.lit (.bool true)], args := [d] }
  | _ => none }
def memAddsRow : OpenClaim := { program := "ytnkeijdpjcclcaa", sum := "e2c2f4ab7af74bc291e07b36a52caefa95deba7ef3bbbdeea89434ac5345b542", func := "tailrace/tailracelaw10.MemAdds", spec := "memAdds", inPlace := ["internal/bytealg.abigen_runtime_cmpstring", "slices.overlaps[tailrace/key.Entry]"], unfollowed := true, recurses := true, apart := false }
def MemAddsSaid : Prop := memAddsRow.holds Try.pinned (OpenSpec.ofChange memAddsSpec)

/-- ITS FALSE NEIGHBOUR: 'it returns false'. Refute it at one input. -/
def memAddsWrong : ChangeSpec := { name := "memAdds", fn := fun _ => fun
  | [d] => { results := [.lit (.bool false)], args := [d] }
  | _ => none }
def MemAddsWrongFalsely : Prop := memAddsRow.holds Try.pinned (OpenSpec.ofChange memAddsWrong)

/-- 'tailracelaw10.MemGets': WHATEVER THE INPUT: true; the input reads as it did. -/
def memGetsSpec : ChangeSpec := { name := "memGets", fn := fun _ => fun
  | [d1, d2, d3] => { results := [.lit (.bool true)], args := [d1, d2, d3] }
  | _ => none }
def memGetsRow : OpenClaim := { program := "ytnkeijdpjcclcaa", sum := "e2c2f4ab7af74bc291e07b36a52caefa95deba7ef3bbbdeea89434ac5345b542", func := "tailrace/tailracelaw10.MemGets", spec := "memGets", inPlace := ["internal/bytealg.abigen_runtime_cmpstring", "slices.overlaps[tailrace/key.Entry]"], unfollowed := true, recurses := true, apart := false }
def MemGetsSaid : Prop := memGetsRow.holds Try.pinned (OpenSpec.ofChange memGetsSpec)

/-- ITS FALSE NEIGHBOUR: 'it returns false'. Refute it at one input. -/
def memGetsWrong : ChangeSpec := { name := "memGets", fn := fun _ => fun
  | [d1, d2, d3] => { results := [.lit (.bool false)], args := [d1, d2, d3] }
  | _ => none }
def MemGetsWrongFalsely : Prop := memGetsRow.holds Try.pinned (OpenSpec.ofChange memGetsWrong)

/- THE SECOND FORM. 'bulk': how many values and letters a reading holds, each counted each time it is reached (what is shared counts as often as it is met; a slice's spare places count too). A statement '..UptoSaid' is the law's where the arguments, and the package variables that the reading takes, are together of bulk at most 1048576: NARROWER than '..Said'. Prove '..Said' where nothing that the law and all that it calls make is longer than what came in: it says more and counts as full. Else prove '..UptoSaid'. A law counts once. -/
mutual
def uptoBulk {H : Type} : DataW H → Nat
  | .lit (.string bytes) => bytes.length + 1
  | .lit _ => 1
  | .nil => 1
  | .ptr d => uptoBulk d + 1
  | .slice elems spare => uptoBulkAll elems + uptoBulkAll spare + 1
  | .agg parts => uptoBulkAll parts + 1
  | .iface _ d => uptoBulk d + 1
  | .map entries => uptoBulkEntries entries + 1
  | .held _ => 1
def uptoBulkAll {H : Type} : List (DataW H) → Nat
  | [] => 0
  | d :: r => uptoBulk d + uptoBulkAll r
def uptoBulkEntries {H : Type} : List (Lit × DataW H) → Nat
  | [] => 0
  | x :: r => uptoBulkEntry x + uptoBulkEntries r
def uptoBulkEntry {H : Type} : Lit × DataW H → Nat
  | (.string bytes, d) => bytes.length + uptoBulk d + 1
  | (_, d) => uptoBulk d + 1
 end
def uptoSmall : (H : Type) → List (DataW H) → Bool := fun _ ds => decide (uptoBulkAll ds ≤ 1048576)
def OpenSpec.upto (s : _root_.Go.ChangeSpec) : _root_.Go.OpenSpec := { _root_.Go.OpenSpec.ofChange s with cond := some uptoSmall }

/-- 'tailracelaw12.PageMakes', WHERE WHAT IT READS IS OF BULK AT MOST 1048576: true; the input reads as it did. -/
def pageMakesUptoRow : OpenClaim := { program := "ytnkeijdpjcclcaa", sum := "e2c2f4ab7af74bc291e07b36a52caefa95deba7ef3bbbdeea89434ac5345b542", func := "tailrace/tailracelaw12.PageMakes", spec := "pageMakes", apart := false, narrowed := true }
def PageMakesUptoSaid : Prop := pageMakesUptoRow.holds Try.pinned (OpenSpec.upto pageMakesSpec)

/-- 'tailracelaw12.PageParses', WHERE WHAT IT READS IS OF BULK AT MOST 1048576: true; the input reads as it did. -/
def pageParsesUptoRow : OpenClaim := { program := "ytnkeijdpjcclcaa", sum := "e2c2f4ab7af74bc291e07b36a52caefa95deba7ef3bbbdeea89434ac5345b542", func := "tailrace/tailracelaw12.PageParses", spec := "pageParses", apart := false, narrowed := true }
def PageParsesUptoSaid : Prop := pageParsesUptoRow.holds Try.pinned (OpenSpec.upto pageParsesSpec)

/-- 'tailracelaw12.PageCuts', WHERE WHAT IT READS IS OF BULK AT MOST 1048576: true; the input reads as it did. -/
def pageCutsUptoRow : OpenClaim := { program := "ytnkeijdpjcclcaa", sum := "e2c2f4ab7af74bc291e07b36a52caefa95deba7ef3bbbdeea89434ac5345b542", func := "tailrace/tailracelaw12.PageCuts", spec := "pageCuts", apart := false, narrowed := true }
def PageCutsUptoSaid : Prop := pageCutsUptoRow.holds Try.pinned (OpenSpec.upto pageCutsSpec)

/-- 'tailracelaw12.PageWhole', WHERE WHAT IT READS IS OF BULK AT MOST 1048576: true; the input reads as it did. -/
def pageWholeUptoRow : OpenClaim := { program := "ytnkeijdpjcclcaa", sum := "e2c2f4ab7af74bc291e07b36a52caefa95deba7ef3bbbdeea89434ac5345b542", func := "tailrace/tailracelaw12.PageWhole", spec := "pageWhole", apart := false, narrowed := true }
def PageWholeUptoSaid : Prop := pageWholeUptoRow.holds Try.pinned (OpenSpec.upto pageWholeSpec)

/-- 'tailracelaw12.PageFroms', WHERE WHAT IT READS IS OF BULK AT MOST 1048576: true; the input reads as it did. -/
def pageFromsUptoRow : OpenClaim := { program := "ytnkeijdpjcclcaa", sum := "e2c2f4ab7af74bc291e07b36a52caefa95deba7ef3bbbdeea89434ac5345b542", func := "tailrace/tailracelaw12.PageFroms", spec := "pageFroms", unfollowed := true, recurses := true, apart := false, narrowed := true }
def PageFromsUptoSaid : Prop := pageFromsUptoRow.holds Try.pinned (OpenSpec.upto pageFromsSpec)

/-- 'tailracelaw10.MemSorts', WHERE WHAT IT READS IS OF BULK AT MOST 1048576: true; the input reads as it did. -/
def memSortsUptoRow : OpenClaim := { program := "ytnkeijdpjcclcaa", sum := "e2c2f4ab7af74bc291e07b36a52caefa95deba7ef3bbbdeea89434ac5345b542", func := "tailrace/tailracelaw10.MemSorts", spec := "memSorts", inPlace := ["slices.overlaps[int]"], unfollowed := true, recurses := true, apart := false, narrowed := true }
def MemSortsUptoSaid : Prop := memSortsUptoRow.holds Try.pinned (OpenSpec.upto memSortsSpec)

/-- 'tailracelaw12.PageOfs', WHERE WHAT IT READS IS OF BULK AT MOST 1048576: true; the input reads as it did. -/
def pageOfsUptoRow : OpenClaim := { program := "ytnkeijdpjcclcaa", sum := "e2c2f4ab7af74bc291e07b36a52caefa95deba7ef3bbbdeea89434ac5345b542", func := "tailrace/tailracelaw12.PageOfs", spec := "pageOfs", inPlace := ["internal/bytealg.abigen_runtime_cmpstring"], apart := false, narrowed := true }
def PageOfsUptoSaid : Prop := pageOfsUptoRow.holds Try.pinned (OpenSpec.upto pageOfsSpec)

/-- 'tailracelaw10.MemFroms', WHERE WHAT IT READS IS OF BULK AT MOST 1048576: true; the input reads as it did. -/
def memFromsUptoRow : OpenClaim := { program := "ytnkeijdpjcclcaa", sum := "e2c2f4ab7af74bc291e07b36a52caefa95deba7ef3bbbdeea89434ac5345b542", func := "tailrace/tailracelaw10.MemFroms", spec := "memFroms", inPlace := ["internal/bytealg.abigen_runtime_cmpstring", "slices.overlaps[tailrace/key.Entry]"], unfollowed := true, recurses := true, apart := false, narrowed := true }
def MemFromsUptoSaid : Prop := memFromsUptoRow.holds Try.pinned (OpenSpec.upto memFromsSpec)

/-- 'tailracelaw10.MemOrder', WHERE WHAT IT READS IS OF BULK AT MOST 1048576: true; the input reads as it did. -/
def memOrderUptoRow : OpenClaim := { program := "ytnkeijdpjcclcaa", sum := "e2c2f4ab7af74bc291e07b36a52caefa95deba7ef3bbbdeea89434ac5345b542", func := "tailrace/tailracelaw10.MemOrder", spec := "memOrder", inPlace := ["internal/bytealg.abigen_runtime_cmpstring", "slices.overlaps[tailrace/key.Entry]"], unfollowed := true, recurses := true, apart := false, narrowed := true }
def MemOrderUptoSaid : Prop := memOrderUptoRow.holds Try.pinned (OpenSpec.upto memOrderSpec)

/-- 'tailracelaw10.MemAdds', WHERE WHAT IT READS IS OF BULK AT MOST 1048576: true; the input reads as it did. -/
def memAddsUptoRow : OpenClaim := { program := "ytnkeijdpjcclcaa", sum := "e2c2f4ab7af74bc291e07b36a52caefa95deba7ef3bbbdeea89434ac5345b542", func := "tailrace/tailracelaw10.MemAdds", spec := "memAdds", inPlace := ["internal/bytealg.abigen_runtime_cmpstring", "slices.overlaps[tailrace/key.Entry]"], unfollowed := true, recurses := true, apart := false, narrowed := true }
def MemAddsUptoSaid : Prop := memAddsUptoRow.holds Try.pinned (OpenSpec.upto memAddsSpec)

/-- 'tailracelaw10.MemGets', WHERE WHAT IT READS IS OF BULK AT MOST 1048576: true; the input reads as it did. -/
def memGetsUptoRow : OpenClaim := { program := "ytnkeijdpjcclcaa", sum := "e2c2f4ab7af74bc291e07b36a52caefa95deba7ef3bbbdeea89434ac5345b542", func := "tailrace/tailracelaw10.MemGets", spec := "memGets", inPlace := ["internal/bytealg.abigen_runtime_cmpstring", "slices.overlaps[tailrace/key.Entry]"], unfollowed := true, recurses := true, apart := false, narrowed := true }
def MemGetsUptoSaid : Prop := memGetsUptoRow.holds Try.pinned (OpenSpec.upto memGetsSpec)

end Rows
end Go.Proofs.Ytnkeijdpjcclcaa
