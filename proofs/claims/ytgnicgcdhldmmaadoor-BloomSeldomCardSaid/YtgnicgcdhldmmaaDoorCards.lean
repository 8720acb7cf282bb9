/-
  DERIVED. GIVEN WITH THE SEED: THE CARDS: each row of YtgnicgcdhldmmaaDoorRows.lean that lists a variable, with what it lists TIED to the program's text (the seventh form; the later family's looks); each row that meets fmt, with fmt's text TOLD by the authors' own Lean function (tested against real Go, not proved from fmt's source: count such statements apart). THE CARD IS WHAT COUNTS. Prove the row's statement (the work); the ties are given (YtgnicgcdhldmmaaDoorTie.lean); close each card by the builder's one call (the guide's Derived/Test/ToyasCard.lean, 'card_holds'). Laid BY PROGRAM, IN A SANDBOX (cutbox-door.mjs). By AI agents, Wed Nov 11 2026. No macro, syntax, notation, axiom, sorry.
-/
import Derived.Test.YtgnicgcdhldmmaaDoorRows
import GoSem.ClaimSeven
namespace Go.Proofs.YtgnicgcdhldmmaaDoor
namespace Rows

/-- THE TIED CARD OF 'tailracelaw11.BloomKeeps'. -/
def bloomKeepsCard : Claim7 := { stood := { row := bloomKeepsRow, standIns := [], harness := (true, "ab9c8208c69caa42039130a70559dd65bd80a8fdad0fe5ba1bcb0a5cfadc3568"), looks := false }, kinds := [], alts := [], laidByText := true, laidKinds := [.data], laidTests := true, laidLooks := .later }
def BloomKeepsCardSaid : Prop := Claim7.holds Tryd.pinned (.plain (OpenSpec.ofChange bloomKeepsSpec)) bloomKeepsCard

/-- THE TIED CARD OF 'tailracelaw11.BloomMakes'. -/
def bloomMakesCard : Claim7 := { stood := { row := bloomMakesRow, standIns := [], harness := (true, "ab9c8208c69caa42039130a70559dd65bd80a8fdad0fe5ba1bcb0a5cfadc3568"), looks := false }, kinds := [], alts := [], laidByText := true, laidKinds := [.data], laidTests := true, laidLooks := .later }
def BloomMakesCardSaid : Prop := Claim7.holds Tryd.pinned (.plain (OpenSpec.ofChange bloomMakesSpec)) bloomMakesCard

/-- THE TIED CARD OF 'tailracelaw11.BloomMays'. -/
def bloomMaysCard : Claim7 := { stood := { row := bloomMaysRow, standIns := [], harness := (true, "ab9c8208c69caa42039130a70559dd65bd80a8fdad0fe5ba1bcb0a5cfadc3568"), looks := false }, kinds := [], alts := [], laidByText := true, laidKinds := [.data], laidTests := true, laidLooks := .later }
def BloomMaysCardSaid : Prop := Claim7.holds Tryd.pinned (.plain (OpenSpec.ofChange bloomMaysSpec)) bloomMaysCard

/-- THE TIED CARD OF 'tailracelaw11.BloomSizes'. -/
def bloomSizesCard : Claim7 := { stood := { row := bloomSizesRow, standIns := [], harness := (true, "ab9c8208c69caa42039130a70559dd65bd80a8fdad0fe5ba1bcb0a5cfadc3568"), looks := false }, kinds := [], alts := [], laidByText := true, laidKinds := [.data], laidTests := true, laidLooks := .later }
def BloomSizesCardSaid : Prop := Claim7.holds Tryd.pinned (.plain (OpenSpec.ofChange bloomSizesSpec)) bloomSizesCard

/-- THE TIED CARD OF 'tailracelaw11.BloomSeldom'. -/
def bloomSeldomCard : Claim7 := { stood := { row := bloomSeldomRow, standIns := [], harness := (true, "ab9c8208c69caa42039130a70559dd65bd80a8fdad0fe5ba1bcb0a5cfadc3568"), looks := false }, kinds := [], alts := [], laidByText := true, laidKinds := [.data], laidTests := true, laidLooks := .later }
def BloomSeldomCardSaid : Prop := Claim7.holds Tryd.pinned (.plain (OpenSpec.ofChange bloomSeldomSpec)) bloomSeldomCard

/-- THE SECOND FORM's CARD OF 'tailracelaw11.BloomKeeps'. -/
def bloomKeepsUptoCard : Claim7 := { stood := { row := bloomKeepsUptoRow, standIns := [], harness := (true, "ab9c8208c69caa42039130a70559dd65bd80a8fdad0fe5ba1bcb0a5cfadc3568"), looks := false }, kinds := [], alts := [], laidByText := true, laidKinds := [.data], laidTests := true, laidLooks := .later }
def BloomKeepsUptoCardSaid : Prop := Claim7.holds Tryd.pinned (.plain (OpenSpec.upto bloomKeepsSpec)) bloomKeepsUptoCard

/-- THE SECOND FORM's CARD OF 'tailracelaw11.BloomMakes'. -/
def bloomMakesUptoCard : Claim7 := { stood := { row := bloomMakesUptoRow, standIns := [], harness := (true, "ab9c8208c69caa42039130a70559dd65bd80a8fdad0fe5ba1bcb0a5cfadc3568"), looks := false }, kinds := [], alts := [], laidByText := true, laidKinds := [.data], laidTests := true, laidLooks := .later }
def BloomMakesUptoCardSaid : Prop := Claim7.holds Tryd.pinned (.plain (OpenSpec.upto bloomMakesSpec)) bloomMakesUptoCard

/-- THE SECOND FORM's CARD OF 'tailracelaw11.BloomMays'. -/
def bloomMaysUptoCard : Claim7 := { stood := { row := bloomMaysUptoRow, standIns := [], harness := (true, "ab9c8208c69caa42039130a70559dd65bd80a8fdad0fe5ba1bcb0a5cfadc3568"), looks := false }, kinds := [], alts := [], laidByText := true, laidKinds := [.data], laidTests := true, laidLooks := .later }
def BloomMaysUptoCardSaid : Prop := Claim7.holds Tryd.pinned (.plain (OpenSpec.upto bloomMaysSpec)) bloomMaysUptoCard

/-- THE SECOND FORM's CARD OF 'tailracelaw11.BloomSizes'. -/
def bloomSizesUptoCard : Claim7 := { stood := { row := bloomSizesUptoRow, standIns := [], harness := (true, "ab9c8208c69caa42039130a70559dd65bd80a8fdad0fe5ba1bcb0a5cfadc3568"), looks := false }, kinds := [], alts := [], laidByText := true, laidKinds := [.data], laidTests := true, laidLooks := .later }
def BloomSizesUptoCardSaid : Prop := Claim7.holds Tryd.pinned (.plain (OpenSpec.upto bloomSizesSpec)) bloomSizesUptoCard

/-- THE SECOND FORM's CARD OF 'tailracelaw11.BloomSeldom'. -/
def bloomSeldomUptoCard : Claim7 := { stood := { row := bloomSeldomUptoRow, standIns := [], harness := (true, "ab9c8208c69caa42039130a70559dd65bd80a8fdad0fe5ba1bcb0a5cfadc3568"), looks := false }, kinds := [], alts := [], laidByText := true, laidKinds := [.data], laidTests := true, laidLooks := .later }
def BloomSeldomUptoCardSaid : Prop := Claim7.holds Tryd.pinned (.plain (OpenSpec.upto bloomSeldomSpec)) bloomSeldomUptoCard
end Rows
end Go.Proofs.YtgnicgcdhldmmaaDoor
