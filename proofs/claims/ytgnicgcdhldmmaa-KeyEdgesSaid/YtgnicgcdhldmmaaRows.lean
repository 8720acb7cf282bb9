/-
  No cell of these rows narrows 'for every input' (looked for: loops, veiled, ifaces, maps, wideKeys, modest, calm, conditions, laid).
  DERIVED. THE GIVEN ROWS OF THIS SEAT. 6 by the template 'for every input the law returns true; each argument reads behind the call as it read before'; 0 by the template 'total and deterministic' (their statements: YtgnicgcdhldmmaaTotals.lean).
  GIVEN WITH THE SEED: the statements are not yours to turn. If you find one false, say at which input.
  Laid BY PROGRAM, IN A SANDBOX (cutbox-rows.mjs): the forced cells as the released guide's own fill.sh prints them over the translation f36281617d910b49… (all of the seat's roots in one cut). By AI agents, Wed Nov 11 2026. No macro, syntax, notation, axiom, sorry.
-/
import Derived.Test.YtgnicgcdhldmmaaChecked
import GoSem.Claim
import GoSem.ClaimJoined
import GoSem.ClaimMapViews
import Derived.JoinedTies
import Derived.KernelRfl
namespace Go.Proofs.Ytgnicgcdhldmmaa
/- THE CELL 'sum', in the pinned program and in every row, IS THE sha256 OF THE DUMP (.gsa) THAT YtgnicgcdhldmmaaProg.lean LOADS. Nothing in Lean hashes anything: it is a label: what it is worth is what the hold of that sum in a sandbox is worth. -/
noncomputable def Try.pinned : Pinned := { name := "ytgnicgcdhldmmaa", sum := "f36281617d910b492108c02e2d85beb7712a7be09285f3beb47b3bf7ce0c9ea1", checked := Try.checked }
namespace Rows
def none {H : Type} : Left H := { results := [], args := [] }

/-- 'tailracelaw06.KeyChecks': WHATEVER THE INPUT: true; the input reads as it did. -/
def keyChecksSpec : ChangeSpec := { name := "keyChecks", fn := fun _ => fun
  | [d1, d2, d3] => { results := [.lit (.bool true)], args := [d1, d2, d3] }
  | _ => none }
def keyChecksRow : OpenClaim := { program := "ytgnicgcdhldmmaa", sum := "f36281617d910b492108c02e2d85beb7712a7be09285f3beb47b3bf7ce0c9ea1", func := "tailrace/tailracelaw06.KeyChecks", spec := "keyChecks", inPlace := ["internal/bytealg.abigen_runtime_cmpstring"], apart := false }
def KeyChecksSaid : Prop := keyChecksRow.holds Try.pinned (OpenSpec.ofChange keyChecksSpec)

/-- ITS FALSE NEIGHBOUR: 'it returns false'. Refute it at one input. -/
def keyChecksWrong : ChangeSpec := { name := "keyChecks", fn := fun _ => fun
  | [d1, d2, d3] => { results := [.lit (.bool false)], args := [d1, d2, d3] }
  | _ => none }
def KeyChecksWrongFalsely : Prop := keyChecksRow.holds Try.pinned (OpenSpec.ofChange keyChecksWrong)

/-- 'tailracelaw06.KeyInners': WHATEVER THE INPUT: true; the input reads as it did. -/
def keyInnersSpec : ChangeSpec := { name := "keyInners", fn := fun _ => fun
  | [d1, d2] => { results := [.lit (.bool true)], args := [d1, d2] }
  | _ => none }
def keyInnersRow : OpenClaim := { program := "ytgnicgcdhldmmaa", sum := "f36281617d910b492108c02e2d85beb7712a7be09285f3beb47b3bf7ce0c9ea1", func := "tailrace/tailracelaw06.KeyInners", spec := "keyInners", inPlace := ["internal/bytealg.abigen_runtime_cmpstring"], apart := false }
def KeyInnersSaid : Prop := keyInnersRow.holds Try.pinned (OpenSpec.ofChange keyInnersSpec)

/-- ITS FALSE NEIGHBOUR: 'it returns false'. Refute it at one input. -/
def keyInnersWrong : ChangeSpec := { name := "keyInners", fn := fun _ => fun
  | [d1, d2] => { results := [.lit (.bool false)], args := [d1, d2] }
  | _ => none }
def KeyInnersWrongFalsely : Prop := keyInnersRow.holds Try.pinned (OpenSpec.ofChange keyInnersWrong)

/-- 'tailracelaw06.KeyOuters': WHATEVER THE INPUT: true; the input reads as it did. -/
def keyOutersSpec : ChangeSpec := { name := "keyOuters", fn := fun _ => fun
  | [d] => { results := [.lit (.bool true)], args := [d] }
  | _ => none }
def keyOutersRow : OpenClaim := { program := "ytgnicgcdhldmmaa", sum := "f36281617d910b492108c02e2d85beb7712a7be09285f3beb47b3bf7ce0c9ea1", func := "tailrace/tailracelaw06.KeyOuters", spec := "keyOuters", inPlace := ["internal/bytealg.abigen_runtime_cmpstring"], apart := false }
def KeyOutersSaid : Prop := keyOutersRow.holds Try.pinned (OpenSpec.ofChange keyOutersSpec)

/-- ITS FALSE NEIGHBOUR: 'it returns false'. Refute it at one input. -/
def keyOutersWrong : ChangeSpec := { name := "keyOuters", fn := fun _ => fun
  | [d] => { results := [.lit (.bool false)], args := [d] }
  | _ => none }
def KeyOutersWrongFalsely : Prop := keyOutersRow.holds Try.pinned (OpenSpec.ofChange keyOutersWrong)

/-- 'tailracelaw06.KeyPuts': WHATEVER THE INPUT: true; the input reads as it did. -/
def keyPutsSpec : ChangeSpec := { name := "keyPuts", fn := fun _ => fun
  | [d1, d2] => { results := [.lit (.bool true)], args := [d1, d2] }
  | _ => none }
def keyPutsRow : OpenClaim := { program := "ytgnicgcdhldmmaa", sum := "f36281617d910b492108c02e2d85beb7712a7be09285f3beb47b3bf7ce0c9ea1", func := "tailrace/tailracelaw06.KeyPuts", spec := "keyPuts", inPlace := ["internal/bytealg.abigen_runtime_cmpstring"], apart := false }
def KeyPutsSaid : Prop := keyPutsRow.holds Try.pinned (OpenSpec.ofChange keyPutsSpec)

/-- ITS FALSE NEIGHBOUR: 'it returns false'. Refute it at one input. -/
def keyPutsWrong : ChangeSpec := { name := "keyPuts", fn := fun _ => fun
  | [d1, d2] => { results := [.lit (.bool false)], args := [d1, d2] }
  | _ => none }
def KeyPutsWrongFalsely : Prop := keyPutsRow.holds Try.pinned (OpenSpec.ofChange keyPutsWrong)

/-- 'tailracelaw06.KeyGets': WHATEVER THE INPUT: true; the input reads as it did. -/
def keyGetsSpec : ChangeSpec := { name := "keyGets", fn := fun _ => fun
  | [d] => { results := [.lit (.bool true)], args := [d] }
  | _ => none }
def keyGetsRow : OpenClaim := { program := "ytgnicgcdhldmmaa", sum := "f36281617d910b492108c02e2d85beb7712a7be09285f3beb47b3bf7ce0c9ea1", func := "tailrace/tailracelaw06.KeyGets", spec := "keyGets", inPlace := ["internal/bytealg.abigen_runtime_cmpstring"], apart := false }
def KeyGetsSaid : Prop := keyGetsRow.holds Try.pinned (OpenSpec.ofChange keyGetsSpec)

/-- ITS FALSE NEIGHBOUR: 'it returns false'. Refute it at one input. -/
def keyGetsWrong : ChangeSpec := { name := "keyGets", fn := fun _ => fun
  | [d] => { results := [.lit (.bool false)], args := [d] }
  | _ => none }
def KeyGetsWrongFalsely : Prop := keyGetsRow.holds Try.pinned (OpenSpec.ofChange keyGetsWrong)

/-- 'tailracelaw06.KeyEdges': WHATEVER THE INPUT: true; the input reads as it did. -/
def keyEdgesSpec : ChangeSpec := { name := "keyEdges", fn := fun _ => fun
  | [d1, d2, d3, d4] => { results := [.lit (.bool true)], args := [d1, d2, d3, d4] }
  | _ => none }
def keyEdgesRow : OpenClaim := { program := "ytgnicgcdhldmmaa", sum := "f36281617d910b492108c02e2d85beb7712a7be09285f3beb47b3bf7ce0c9ea1", func := "tailrace/tailracelaw06.KeyEdges", spec := "keyEdges", inPlace := ["internal/bytealg.abigen_runtime_cmpstring", "internal/abi.NoEscape", "internal/bytealg.MakeNoZero"], apart := false }
def KeyEdgesSaid : Prop := keyEdgesRow.holds Try.pinned (OpenSpec.ofChange keyEdgesSpec)

/-- ITS FALSE NEIGHBOUR: 'it returns false'. Refute it at one input. -/
def keyEdgesWrong : ChangeSpec := { name := "keyEdges", fn := fun _ => fun
  | [d1, d2, d3, d4] => { results := [.lit (.bool false)], args := [d1, d2, d3, d4] }
  | _ => none }
def KeyEdgesWrongFalsely : Prop := keyEdgesRow.holds Try.pinned (OpenSpec.ofChange keyEdgesWrong)

/- THE SECOND FORM. 'bulk': how many values and letters a reading holds, each counted each time it is reached (what is shared counts as often as it is met; a slice's spare places count too). A statement '..UptoSaid' is the law's where the arguments, and the package variables that the reading takes, are together of bulk at most 1048576: NARROWER than '..Said'. Prove '..Said' where nothing that the law and all that it calls make is longer than what came in: it says more and counts as full. Else prove '..UptoSaid'. A law counts once. -/
mutual
def uptoBulk {H : Type} : DataW H → Nat
  | .lit (.string bytes) => bytes.length + 1
  | .lit _ => 1
  | .nil => 1
  | .ptr d => uptoBulk d + 1
  | .slice elems spare => uptoBulkAll elems + uptoBulkAll spare + 1
  | .agg parts => uptoBulkAll parts + 1
  | .iface _ d => uptoBulk d + 1
  | .map entries => uptoBulkEntries entries + 1
  | .held _ => 1
def uptoBulkAll {H : Type} : List (DataW H) → Nat
  | [] => 0
  | d :: r => uptoBulk d + uptoBulkAll r
def uptoBulkEntries {H : Type} : List (Lit × DataW H) → Nat
  | [] => 0
  | x :: r => uptoBulkEntry x + uptoBulkEntries r
def uptoBulkEntry {H : Type} : Lit × DataW H → Nat
  | (.string bytes, d) => bytes.length + uptoBulk d + 1
  | (_, d) => uptoBulk d + 1
 end
def uptoSmall : (H : Type) → List (DataW H) → Bool := fun _ ds => decide (uptoBulkAll ds ≤ 1048576)
def OpenSpec.upto (s : _root_.Go.ChangeSpec) : _root_.Go.OpenSpec := { _root_.Go.OpenSpec.ofChange s with cond := some uptoSmall }

/-- 'tailracelaw06.KeyChecks', WHERE WHAT IT READS IS OF BULK AT MOST 1048576: true; the input reads as it did. -/
def keyChecksUptoRow : OpenClaim := { program := "ytgnicgcdhldmmaa", sum := "f36281617d910b492108c02e2d85beb7712a7be09285f3beb47b3bf7ce0c9ea1", func := "tailrace/tailracelaw06.KeyChecks", spec := "keyChecks", inPlace := ["internal/bytealg.abigen_runtime_cmpstring"], apart := false, narrowed := true }
def KeyChecksUptoSaid : Prop := keyChecksUptoRow.holds Try.pinned (OpenSpec.upto keyChecksSpec)

/-- 'tailracelaw06.KeyInners', WHERE WHAT IT READS IS OF BULK AT MOST 1048576: true; the input reads as it did. -/
def keyInnersUptoRow : OpenClaim := { program := "ytgnicgcdhldmmaa", sum := "f36281617d910b492108c02e2d85beb7712a7be09285f3beb47b3bf7ce0c9ea1", func := "tailrace/tailracelaw06.KeyInners", spec := "keyInners", inPlace := ["internal/bytealg.abigen_runtime_cmpstring"], apart := false, narrowed := true }
def KeyInnersUptoSaid : Prop := keyInnersUptoRow.holds Try.pinned (OpenSpec.upto keyInnersSpec)

/-- 'tailracelaw06.KeyOuters', WHERE WHAT IT READS IS OF BULK AT MOST 1048576: true; the input reads as it did. -/
def keyOutersUptoRow : OpenClaim := { program := "ytgnicgcdhldmmaa", sum := "f36281617d910b492108c02e2d85beb7712a7be09285f3beb47b3bf7ce0c9ea1", func := "tailrace/tailracelaw06.KeyOuters", spec := "keyOuters", inPlace := ["internal/bytealg.abigen_runtime_cmpstring"], apart := false, narrowed := true }
def KeyOutersUptoSaid : Prop := keyOutersUptoRow.holds Try.pinned (OpenSpec.upto keyOutersSpec)

/-- 'tailracelaw06.KeyPuts', WHERE WHAT IT READS IS OF BULK AT MOST 1048576: true; the input reads as it did. -/
def keyPutsUptoRow : OpenClaim := { program := "ytgnicgcdhldmmaa", sum := "f36281617d910b492108c02e2d85beb7712a7be09285f3beb47b3bf7ce0c9ea1", func := "tailrace/tailracelaw06.KeyPuts", spec := "keyPuts", inPlace := ["internal/bytealg.abigen_runtime_cmpstring"], apart := false, narrowed := true }
def KeyPutsUptoSaid : Prop := keyPutsUptoRow.holds Try.pinned (OpenSpec.upto keyPutsSpec)

/-- 'tailracelaw06.KeyGets', WHERE WHAT IT READS IS OF BULK AT MOST 1048576: true; the input reads as it did. -/
def keyGetsUptoRow : OpenClaim := { program := "ytgnicgcdhldmmaa", sum := "f36281617d910b492108c02e2d85beb7712a7be09285f3beb47b3bf7ce0c9ea1", func := "tailrace/tailracelaw06.KeyGets", spec := "keyGets", inPlace := ["internal/bytealg.abigen_runtime_cmpstring"], apart := false, narrowed := true }
def KeyGetsUptoSaid : Prop := keyGetsUptoRow.holds Try.pinned (OpenSpec.upto keyGetsSpec)

/-- 'tailracelaw06.KeyEdges', WHERE WHAT IT READS IS OF BULK AT MOST 1048576: true; the input reads as it did. -/
def keyEdgesUptoRow : OpenClaim := { program := "ytgnicgcdhldmmaa", sum := "f36281617d910b492108c02e2d85beb7712a7be09285f3beb47b3bf7ce0c9ea1", func := "tailrace/tailracelaw06.KeyEdges", spec := "keyEdges", inPlace := ["internal/bytealg.abigen_runtime_cmpstring", "internal/abi.NoEscape", "internal/bytealg.MakeNoZero"], apart := false, narrowed := true }
def KeyEdgesUptoSaid : Prop := keyEdgesUptoRow.holds Try.pinned (OpenSpec.upto keyEdgesSpec)

end Rows
end Go.Proofs.Ytgnicgcdhldmmaa
