/-
  DERIVED. GIVEN WITH THE SEED: THE CARDS: each row of YtakjmhcdmchgdaaDoorRows.lean that lists a variable, with what it lists TIED to the program's text (the seventh form; the later family's looks); each row that meets fmt, with fmt's text TOLD by the authors' own Lean function (tested against real Go, not proved from fmt's source: count such statements apart). THE CARD IS WHAT COUNTS. Prove the row's statement (the work); the ties are given (YtakjmhcdmchgdaaDoorTie.lean); close each card by the builder's one call (the guide's Derived/Test/ToyasCard.lean, 'card_holds'). Laid BY PROGRAM, IN A SANDBOX (cutbox-door.mjs). By AI agents, Wed Nov 11 2026. No macro, syntax, notation, axiom, sorry.
-/
import Derived.Test.YtakjmhcdmchgdaaDoorRows
import GoSem.ClaimSeven
namespace Go.Proofs.YtakjmhcdmchgdaaDoor
namespace Rows

/-- THE TIED CARD OF 'tailracelaw02.CrcSums'. -/
def crcSumsCard : Claim7 := { stood := { row := crcSumsRow, standIns := [], harness := (true, "c9805bbf875350ce144ad6b75765971fdc67467a02b01436cf1ee39810b361d9"), looks := false }, kinds := [], alts := [], laidByText := true, laidKinds := [.data], laidTests := true, laidLooks := .later }
def CrcSumsCardSaid : Prop := Claim7.holds Tryd.pinned (.plain (OpenSpec.ofChange crcSumsSpec)) crcSumsCard

/-- THE TIED CARD OF 'tailracelaw02.CrcMores'. -/
def crcMoresCard : Claim7 := { stood := { row := crcMoresRow, standIns := [], harness := (true, "c9805bbf875350ce144ad6b75765971fdc67467a02b01436cf1ee39810b361d9"), looks := false }, kinds := [], alts := [], laidByText := true, laidKinds := [.data], laidTests := true, laidLooks := .later }
def CrcMoresCardSaid : Prop := Claim7.holds Tryd.pinned (.plain (OpenSpec.ofChange crcMoresSpec)) crcMoresCard

/-- THE TIED CARD OF 'tailracelaw02.CrcBursts'. -/
def crcBurstsCard : Claim7 := { stood := { row := crcBurstsRow, standIns := [], harness := (true, "c9805bbf875350ce144ad6b75765971fdc67467a02b01436cf1ee39810b361d9"), looks := false }, kinds := [], alts := [], laidByText := true, laidKinds := [.data], laidTests := true, laidLooks := .later }
def CrcBurstsCardSaid : Prop := Claim7.holds Tryd.pinned (.plain (OpenSpec.ofChange crcBurstsSpec)) crcBurstsCard

/-- THE TIED CARD OF 'tailracelaw02.CrcLinear'. -/
def crcLinearCard : Claim7 := { stood := { row := crcLinearRow, standIns := [], harness := (true, "c9805bbf875350ce144ad6b75765971fdc67467a02b01436cf1ee39810b361d9"), looks := false }, kinds := [], alts := [], laidByText := true, laidKinds := [.data], laidTests := true, laidLooks := .later }
def CrcLinearCardSaid : Prop := Claim7.holds Tryd.pinned (.plain (OpenSpec.ofChange crcLinearSpec)) crcLinearCard

/-- THE TIED CARD OF 'tailracelaw02.CrcKnown'. -/
def crcKnownCard : Claim7 := { stood := { row := crcKnownRow, standIns := [], harness := (true, "c9805bbf875350ce144ad6b75765971fdc67467a02b01436cf1ee39810b361d9"), looks := false }, kinds := [], alts := [], laidByText := true, laidKinds := [.data], laidTests := true, laidLooks := .later }
def CrcKnownCardSaid : Prop := Claim7.holds Tryd.pinned (.plain (OpenSpec.ofChange crcKnownSpec)) crcKnownCard

/-- THE TIED CARD OF 'tailracelaw02.CrcMasks'. -/
def crcMasksCard : Claim7 := { stood := { row := crcMasksRow, standIns := [], harness := (true, "c9805bbf875350ce144ad6b75765971fdc67467a02b01436cf1ee39810b361d9"), looks := false }, kinds := [], alts := [], laidByText := true, laidKinds := [.data], laidTests := true, laidLooks := .later }
def CrcMasksCardSaid : Prop := Claim7.holds Tryd.pinned (.plain (OpenSpec.ofChange crcMasksSpec)) crcMasksCard

/-- THE TIED CARD OF 'tailracelaw05.RecordPuts'. -/
def recordPutsCard : Claim7 := { stood := { row := recordPutsRow, standIns := [], harness := (true, "c9805bbf875350ce144ad6b75765971fdc67467a02b01436cf1ee39810b361d9"), looks := false }, kinds := [], alts := [], laidByText := true, laidKinds := [.data], laidTests := true, laidLooks := .later }
def RecordPutsCardSaid : Prop := Claim7.holds Tryd.pinned (.plain (OpenSpec.ofChange recordPutsSpec)) recordPutsCard

/-- THE TIED CARD OF 'tailracelaw05.RecordNexts'. -/
def recordNextsCard : Claim7 := { stood := { row := recordNextsRow, standIns := [], harness := (true, "c9805bbf875350ce144ad6b75765971fdc67467a02b01436cf1ee39810b361d9"), looks := false }, kinds := [], alts := [], laidByText := true, laidKinds := [.data], laidTests := true, laidLooks := .later }
def RecordNextsCardSaid : Prop := Claim7.holds Tryd.pinned (.plain (OpenSpec.ofChange recordNextsSpec)) recordNextsCard

/-- THE TIED CARD OF 'tailracelaw05.RecordLong'. -/
def recordLongCard : Claim7 := { stood := { row := recordLongRow, standIns := [], harness := (true, "c9805bbf875350ce144ad6b75765971fdc67467a02b01436cf1ee39810b361d9"), looks := false }, kinds := [], alts := [], laidByText := true, laidKinds := [.data], laidTests := true, laidLooks := .later }
def RecordLongCardSaid : Prop := Claim7.holds Tryd.pinned (.plain (OpenSpec.ofChange recordLongSpec)) recordLongCard

/-- THE TIED CARD OF 'tailracelaw05.RecordAlls'. -/
def recordAllsCard : Claim7 := { stood := { row := recordAllsRow, standIns := [], harness := (true, "c9805bbf875350ce144ad6b75765971fdc67467a02b01436cf1ee39810b361d9"), looks := false }, kinds := [], alts := [], laidByText := true, laidKinds := [.data], laidTests := true, laidLooks := .later }
def RecordAllsCardSaid : Prop := Claim7.holds Tryd.pinned (.plain (OpenSpec.ofChange recordAllsSpec)) recordAllsCard

/-- THE TIED CARD OF 'tailracelaw05.RecordTurns'. -/
def recordTurnsCard : Claim7 := { stood := { row := recordTurnsRow, standIns := [], harness := (true, "c9805bbf875350ce144ad6b75765971fdc67467a02b01436cf1ee39810b361d9"), looks := false }, kinds := [], alts := [], laidByText := true, laidKinds := [.data], laidTests := true, laidLooks := .later }
def RecordTurnsCardSaid : Prop := Claim7.holds Tryd.pinned (.plain (OpenSpec.ofChange recordTurnsSpec)) recordTurnsCard

/-- THE TIED CARD OF 'tailracelaw05.RecordAgain'. -/
def recordAgainCard : Claim7 := { stood := { row := recordAgainRow, standIns := [], harness := (true, "c9805bbf875350ce144ad6b75765971fdc67467a02b01436cf1ee39810b361d9"), looks := false }, kinds := [], alts := [], laidByText := true, laidKinds := [.data], laidTests := true, laidLooks := .later }
def RecordAgainCardSaid : Prop := Claim7.holds Tryd.pinned (.plain (OpenSpec.ofChange recordAgainSpec)) recordAgainCard

/-- THE SECOND FORM's CARD OF 'tailracelaw02.CrcSums'. -/
def crcSumsUptoCard : Claim7 := { stood := { row := crcSumsUptoRow, standIns := [], harness := (true, "c9805bbf875350ce144ad6b75765971fdc67467a02b01436cf1ee39810b361d9"), looks := false }, kinds := [], alts := [], laidByText := true, laidKinds := [.data], laidTests := true, laidLooks := .later }
def CrcSumsUptoCardSaid : Prop := Claim7.holds Tryd.pinned (.plain (OpenSpec.upto crcSumsSpec)) crcSumsUptoCard

/-- THE SECOND FORM's CARD OF 'tailracelaw02.CrcMores'. -/
def crcMoresUptoCard : Claim7 := { stood := { row := crcMoresUptoRow, standIns := [], harness := (true, "c9805bbf875350ce144ad6b75765971fdc67467a02b01436cf1ee39810b361d9"), looks := false }, kinds := [], alts := [], laidByText := true, laidKinds := [.data], laidTests := true, laidLooks := .later }
def CrcMoresUptoCardSaid : Prop := Claim7.holds Tryd.pinned (.plain (OpenSpec.upto crcMoresSpec)) crcMoresUptoCard

/-- THE SECOND FORM's CARD OF 'tailracelaw02.CrcBursts'. -/
def crcBurstsUptoCard : Claim7 := { stood := { row := crcBurstsUptoRow, standIns := [], harness := (true, "c9805bbf875350ce144ad6b75765971fdc67467a02b01436cf1ee39810b361d9"), looks := false }, kinds := [], alts := [], laidByText := true, laidKinds := [.data], laidTests := true, laidLooks := .later }
def CrcBurstsUptoCardSaid : Prop := Claim7.holds Tryd.pinned (.plain (OpenSpec.upto crcBurstsSpec)) crcBurstsUptoCard

/-- THE SECOND FORM's CARD OF 'tailracelaw02.CrcLinear'. -/
def crcLinearUptoCard : Claim7 := { stood := { row := crcLinearUptoRow, standIns := [], harness := (true, "c9805bbf875350ce144ad6b75765971fdc67467a02b01436cf1ee39810b361d9"), looks := false }, kinds := [], alts := [], laidByText := true, laidKinds := [.data], laidTests := true, laidLooks := .later }
def CrcLinearUptoCardSaid : Prop := Claim7.holds Tryd.pinned (.plain (OpenSpec.upto crcLinearSpec)) crcLinearUptoCard

/-- THE SECOND FORM's CARD OF 'tailracelaw02.CrcKnown'. -/
def crcKnownUptoCard : Claim7 := { stood := { row := crcKnownUptoRow, standIns := [], harness := (true, "c9805bbf875350ce144ad6b75765971fdc67467a02b01436cf1ee39810b361d9"), looks := false }, kinds := [], alts := [], laidByText := true, laidKinds := [.data], laidTests := true, laidLooks := .later }
def CrcKnownUptoCardSaid : Prop := Claim7.holds Tryd.pinned (.plain (OpenSpec.upto crcKnownSpec)) crcKnownUptoCard

/-- THE SECOND FORM's CARD OF 'tailracelaw02.CrcMasks'. -/
def crcMasksUptoCard : Claim7 := { stood := { row := crcMasksUptoRow, standIns := [], harness := (true, "c9805bbf875350ce144ad6b75765971fdc67467a02b01436cf1ee39810b361d9"), looks := false }, kinds := [], alts := [], laidByText := true, laidKinds := [.data], laidTests := true, laidLooks := .later }
def CrcMasksUptoCardSaid : Prop := Claim7.holds Tryd.pinned (.plain (OpenSpec.upto crcMasksSpec)) crcMasksUptoCard

/-- THE SECOND FORM's CARD OF 'tailracelaw05.RecordPuts'. -/
def recordPutsUptoCard : Claim7 := { stood := { row := recordPutsUptoRow, standIns := [], harness := (true, "c9805bbf875350ce144ad6b75765971fdc67467a02b01436cf1ee39810b361d9"), looks := false }, kinds := [], alts := [], laidByText := true, laidKinds := [.data], laidTests := true, laidLooks := .later }
def RecordPutsUptoCardSaid : Prop := Claim7.holds Tryd.pinned (.plain (OpenSpec.upto recordPutsSpec)) recordPutsUptoCard

/-- THE SECOND FORM's CARD OF 'tailracelaw05.RecordNexts'. -/
def recordNextsUptoCard : Claim7 := { stood := { row := recordNextsUptoRow, standIns := [], harness := (true, "c9805bbf875350ce144ad6b75765971fdc67467a02b01436cf1ee39810b361d9"), looks := false }, kinds := [], alts := [], laidByText := true, laidKinds := [.data], laidTests := true, laidLooks := .later }
def RecordNextsUptoCardSaid : Prop := Claim7.holds Tryd.pinned (.plain (OpenSpec.upto recordNextsSpec)) recordNextsUptoCard

/-- THE SECOND FORM's CARD OF 'tailracelaw05.RecordLong'. -/
def recordLongUptoCard : Claim7 := { stood := { row := recordLongUptoRow, standIns := [], harness := (true, "c9805bbf875350ce144ad6b75765971fdc67467a02b01436cf1ee39810b361d9"), looks := false }, kinds := [], alts := [], laidByText := true, laidKinds := [.data], laidTests := true, laidLooks := .later }
def RecordLongUptoCardSaid : Prop := Claim7.holds Tryd.pinned (.plain (OpenSpec.upto recordLongSpec)) recordLongUptoCard

/-- THE SECOND FORM's CARD OF 'tailracelaw05.RecordAlls'. -/
def recordAllsUptoCard : Claim7 := { stood := { row := recordAllsUptoRow, standIns := [], harness := (true, "c9805bbf875350ce144ad6b75765971fdc67467a02b01436cf1ee39810b361d9"), looks := false }, kinds := [], alts := [], laidByText := true, laidKinds := [.data], laidTests := true, laidLooks := .later }
def RecordAllsUptoCardSaid : Prop := Claim7.holds Tryd.pinned (.plain (OpenSpec.upto recordAllsSpec)) recordAllsUptoCard

/-- THE SECOND FORM's CARD OF 'tailracelaw05.RecordTurns'. -/
def recordTurnsUptoCard : Claim7 := { stood := { row := recordTurnsUptoRow, standIns := [], harness := (true, "c9805bbf875350ce144ad6b75765971fdc67467a02b01436cf1ee39810b361d9"), looks := false }, kinds := [], alts := [], laidByText := true, laidKinds := [.data], laidTests := true, laidLooks := .later }
def RecordTurnsUptoCardSaid : Prop := Claim7.holds Tryd.pinned (.plain (OpenSpec.upto recordTurnsSpec)) recordTurnsUptoCard

/-- THE SECOND FORM's CARD OF 'tailracelaw05.RecordAgain'. -/
def recordAgainUptoCard : Claim7 := { stood := { row := recordAgainUptoRow, standIns := [], harness := (true, "c9805bbf875350ce144ad6b75765971fdc67467a02b01436cf1ee39810b361d9"), looks := false }, kinds := [], alts := [], laidByText := true, laidKinds := [.data], laidTests := true, laidLooks := .later }
def RecordAgainUptoCardSaid : Prop := Claim7.holds Tryd.pinned (.plain (OpenSpec.upto recordAgainSpec)) recordAgainUptoCard
end Rows
end Go.Proofs.YtakjmhcdmchgdaaDoor
