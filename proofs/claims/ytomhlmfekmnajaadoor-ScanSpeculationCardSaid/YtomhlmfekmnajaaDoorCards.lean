/-
  DERIVED. GIVEN WITH THE SEED: THE CARDS: each row of YtomhlmfekmnajaaDoorRows.lean that lists a variable, with what it lists TIED to the program's text (the seventh form; the later family's looks); each row that meets fmt, with fmt's text TOLD by the authors' own Lean function (tested against real Go, not proved from fmt's source: count such statements apart). THE CARD IS WHAT COUNTS. Prove the row's statement (the work); the ties are given (YtomhlmfekmnajaaDoorTie.lean); close each card by the builder's one call (the guide's Derived/Test/ToyasCard.lean, 'card_holds'). Laid BY PROGRAM, IN A SANDBOX (cutbox-door.mjs). By AI agents, Wed Nov 11 2026. No macro, syntax, notation, axiom, sorry.
-/
import Derived.Test.YtomhlmfekmnajaaDoorRows
import GoSem.ClaimSeven
namespace Go.Proofs.YtomhlmfekmnajaaDoor
namespace Rows

/-- THE TIED CARD OF 'ndjqlaw18.AutomatonMonoid'. -/
def automatonMonoidCard : Claim7 := { stood := { row := automatonMonoidRow, standIns := [], harness := (true, "f55614716dcf1522f0d4f2f1e060c584c4463192dd36256782e39f4d8ea08a6a"), looks := false }, kinds := [], alts := [], laidByText := true, laidKinds := [.data], laidTests := true, laidLooks := .later }
def AutomatonMonoidCardSaid : Prop := Claim7.holds Tryd.pinned (.plain (OpenSpec.ofChange automatonMonoidSpec)) automatonMonoidCard

/-- THE TIED CARD OF 'ndjqlaw18.AutomatonRaw'. -/
def automatonRawCard : Claim7 := { stood := { row := automatonRawRow, standIns := [], harness := (true, "f55614716dcf1522f0d4f2f1e060c584c4463192dd36256782e39f4d8ea08a6a"), looks := false }, kinds := [], alts := [], laidByText := true, laidKinds := [.data], laidTests := true, laidLooks := .later }
def AutomatonRawCardSaid : Prop := Claim7.holds Tryd.pinned (.plain (OpenSpec.ofChange automatonRawSpec)) automatonRawCard

/-- THE TIED CARD OF 'ndjqlaw20.ScanBracket'. -/
def scanBracketCard : Claim7 := { stood := { row := scanBracketRow, standIns := [], harness := (true, "f55614716dcf1522f0d4f2f1e060c584c4463192dd36256782e39f4d8ea08a6a"), looks := false }, kinds := [], alts := [], laidByText := true, laidKinds := [.data], laidTests := true, laidLooks := .later }
def ScanBracketCardSaid : Prop := Claim7.holds Tryd.pinned (.plain (OpenSpec.ofChange scanBracketSpec)) scanBracketCard

/-- THE TIED CARD OF 'ndjqlaw20.ScanSpeculation'. -/
def scanSpeculationCard : Claim7 := { stood := { row := scanSpeculationRow, standIns := [], harness := (true, "f55614716dcf1522f0d4f2f1e060c584c4463192dd36256782e39f4d8ea08a6a"), looks := false }, kinds := [], alts := [], laidByText := true, laidKinds := [.data], laidTests := true, laidLooks := .later }
def ScanSpeculationCardSaid : Prop := Claim7.holds Tryd.pinned (.plain (OpenSpec.ofChange scanSpeculationSpec)) scanSpeculationCard

/-- THE TIED CARD OF 'ndjqlaw25.WindowRun'. -/
def windowRunCard : Claim7 := { stood := { row := windowRunRow, standIns := [], harness := (true, "f55614716dcf1522f0d4f2f1e060c584c4463192dd36256782e39f4d8ea08a6a"), looks := false }, kinds := [], alts := [], laidByText := true, laidKinds := [.data], laidTests := true, laidLooks := .later }
def WindowRunCardSaid : Prop := Claim7.holds Tryd.pinned (.plain (OpenSpec.ofChange windowRunSpec)) windowRunCard

/-- THE TIED CARD OF 'ndjqlaw25.WindowProgress'. -/
def windowProgressCard : Claim7 := { stood := { row := windowProgressRow, standIns := [], harness := (true, "f55614716dcf1522f0d4f2f1e060c584c4463192dd36256782e39f4d8ea08a6a"), looks := false }, kinds := [], alts := [], laidByText := true, laidKinds := [.data], laidTests := true, laidLooks := .later }
def WindowProgressCardSaid : Prop := Claim7.holds Tryd.pinned (.plain (OpenSpec.ofChange windowProgressSpec)) windowProgressCard

/-- THE TIED CARD OF 'ndjqlaw25.WindowSteps'. -/
def windowStepsCard : Claim7 := { stood := { row := windowStepsRow, standIns := [], harness := (true, "f55614716dcf1522f0d4f2f1e060c584c4463192dd36256782e39f4d8ea08a6a"), looks := false }, kinds := [], alts := [], laidByText := true, laidKinds := [.data], laidTests := true, laidLooks := .later }
def WindowStepsCardSaid : Prop := Claim7.holds Tryd.pinned (.plain (OpenSpec.ofChange windowStepsSpec)) windowStepsCard

/-- THE TIED CARD OF 'ndjqlaw25.WindowNil'. -/
def windowNilCard : Claim7 := { stood := { row := windowNilRow, standIns := [], harness := (true, "f55614716dcf1522f0d4f2f1e060c584c4463192dd36256782e39f4d8ea08a6a"), looks := false }, kinds := [], alts := [], laidByText := true, laidKinds := [.data], laidTests := true, laidLooks := .later }
def WindowNilCardSaid : Prop := Claim7.holds Tryd.pinned (.plain (OpenSpec.ofChange windowNilSpec)) windowNilCard

/-- THE TIED CARD OF 'ndjqlaw25.WindowBeginning'. -/
def windowBeginningCard : Claim7 := { stood := { row := windowBeginningRow, standIns := [], harness := (true, "f55614716dcf1522f0d4f2f1e060c584c4463192dd36256782e39f4d8ea08a6a"), looks := false }, kinds := [], alts := [], laidByText := true, laidKinds := [.data], laidTests := true, laidLooks := .later }
def WindowBeginningCardSaid : Prop := Claim7.holds Tryd.pinned (.plain (OpenSpec.ofChange windowBeginningSpec)) windowBeginningCard

/-- THE SECOND FORM's CARD OF 'ndjqlaw18.AutomatonMonoid'. -/
def automatonMonoidUptoCard : Claim7 := { stood := { row := automatonMonoidUptoRow, standIns := [], harness := (true, "f55614716dcf1522f0d4f2f1e060c584c4463192dd36256782e39f4d8ea08a6a"), looks := false }, kinds := [], alts := [], laidByText := true, laidKinds := [.data], laidTests := true, laidLooks := .later }
def AutomatonMonoidUptoCardSaid : Prop := Claim7.holds Tryd.pinned (.plain (OpenSpec.upto automatonMonoidSpec)) automatonMonoidUptoCard

/-- THE SECOND FORM's CARD OF 'ndjqlaw18.AutomatonRaw'. -/
def automatonRawUptoCard : Claim7 := { stood := { row := automatonRawUptoRow, standIns := [], harness := (true, "f55614716dcf1522f0d4f2f1e060c584c4463192dd36256782e39f4d8ea08a6a"), looks := false }, kinds := [], alts := [], laidByText := true, laidKinds := [.data], laidTests := true, laidLooks := .later }
def AutomatonRawUptoCardSaid : Prop := Claim7.holds Tryd.pinned (.plain (OpenSpec.upto automatonRawSpec)) automatonRawUptoCard

/-- THE SECOND FORM's CARD OF 'ndjqlaw20.ScanBracket'. -/
def scanBracketUptoCard : Claim7 := { stood := { row := scanBracketUptoRow, standIns := [], harness := (true, "f55614716dcf1522f0d4f2f1e060c584c4463192dd36256782e39f4d8ea08a6a"), looks := false }, kinds := [], alts := [], laidByText := true, laidKinds := [.data], laidTests := true, laidLooks := .later }
def ScanBracketUptoCardSaid : Prop := Claim7.holds Tryd.pinned (.plain (OpenSpec.upto scanBracketSpec)) scanBracketUptoCard

/-- THE SECOND FORM's CARD OF 'ndjqlaw20.ScanSpeculation'. -/
def scanSpeculationUptoCard : Claim7 := { stood := { row := scanSpeculationUptoRow, standIns := [], harness := (true, "f55614716dcf1522f0d4f2f1e060c584c4463192dd36256782e39f4d8ea08a6a"), looks := false }, kinds := [], alts := [], laidByText := true, laidKinds := [.data], laidTests := true, laidLooks := .later }
def ScanSpeculationUptoCardSaid : Prop := Claim7.holds Tryd.pinned (.plain (OpenSpec.upto scanSpeculationSpec)) scanSpeculationUptoCard

/-- THE SECOND FORM's CARD OF 'ndjqlaw25.WindowRun'. -/
def windowRunUptoCard : Claim7 := { stood := { row := windowRunUptoRow, standIns := [], harness := (true, "f55614716dcf1522f0d4f2f1e060c584c4463192dd36256782e39f4d8ea08a6a"), looks := false }, kinds := [], alts := [], laidByText := true, laidKinds := [.data], laidTests := true, laidLooks := .later }
def WindowRunUptoCardSaid : Prop := Claim7.holds Tryd.pinned (.plain (OpenSpec.upto windowRunSpec)) windowRunUptoCard

/-- THE SECOND FORM's CARD OF 'ndjqlaw25.WindowProgress'. -/
def windowProgressUptoCard : Claim7 := { stood := { row := windowProgressUptoRow, standIns := [], harness := (true, "f55614716dcf1522f0d4f2f1e060c584c4463192dd36256782e39f4d8ea08a6a"), looks := false }, kinds := [], alts := [], laidByText := true, laidKinds := [.data], laidTests := true, laidLooks := .later }
def WindowProgressUptoCardSaid : Prop := Claim7.holds Tryd.pinned (.plain (OpenSpec.upto windowProgressSpec)) windowProgressUptoCard

/-- THE SECOND FORM's CARD OF 'ndjqlaw25.WindowSteps'. -/
def windowStepsUptoCard : Claim7 := { stood := { row := windowStepsUptoRow, standIns := [], harness := (true, "f55614716dcf1522f0d4f2f1e060c584c4463192dd36256782e39f4d8ea08a6a"), looks := false }, kinds := [], alts := [], laidByText := true, laidKinds := [.data], laidTests := true, laidLooks := .later }
def WindowStepsUptoCardSaid : Prop := Claim7.holds Tryd.pinned (.plain (OpenSpec.upto windowStepsSpec)) windowStepsUptoCard

/-- THE SECOND FORM's CARD OF 'ndjqlaw25.WindowNil'. -/
def windowNilUptoCard : Claim7 := { stood := { row := windowNilUptoRow, standIns := [], harness := (true, "f55614716dcf1522f0d4f2f1e060c584c4463192dd36256782e39f4d8ea08a6a"), looks := false }, kinds := [], alts := [], laidByText := true, laidKinds := [.data], laidTests := true, laidLooks := .later }
def WindowNilUptoCardSaid : Prop := Claim7.holds Tryd.pinned (.plain (OpenSpec.upto windowNilSpec)) windowNilUptoCard

/-- THE SECOND FORM's CARD OF 'ndjqlaw25.WindowBeginning'. -/
def windowBeginningUptoCard : Claim7 := { stood := { row := windowBeginningUptoRow, standIns := [], harness := (true, "f55614716dcf1522f0d4f2f1e060c584c4463192dd36256782e39f4d8ea08a6a"), looks := false }, kinds := [], alts := [], laidByText := true, laidKinds := [.data], laidTests := true, laidLooks := .later }
def WindowBeginningUptoCardSaid : Prop := Claim7.holds Tryd.pinned (.plain (OpenSpec.upto windowBeginningSpec)) windowBeginningUptoCard
end Rows
end Go.Proofs.YtomhlmfekmnajaaDoor
