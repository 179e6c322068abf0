/-
  DERIVED. GIVEN WITH THE SEED: THE CARDS: each row of YthooacpfmjpdmaaGreatDoorRows.lean that lists a variable, with what it lists TIED to the program's text (the seventh form; the later family's looks); each row that meets fmt, with fmt's text TOLD by the authors' own Lean function (tested against real Go, not proved from fmt's source: count such statements apart). THE CARD IS WHAT COUNTS. Prove the row's statement (the work); the ties are given (YthooacpfmjpdmaaGreatDoorTie.lean); close each card by the builder's one call (the guide's Derived/Test/ToyasCard.lean, 'card_holds'). Laid BY PROGRAM, IN A SANDBOX (cutbox-door.mjs). By AI agents, Wed Nov 11 2026. No macro, syntax, notation, axiom, sorry.
-/
import Derived.Test.YthooacpfmjpdmaaGreatDoorRows
import GoSem.ClaimSeven
namespace Go.Proofs.YthooacpfmjpdmaaGreatDoor
namespace Rows

/-- THE TIED CARD OF 'seliontop.TopMinutes'. -/
def topMinutesCard : Claim7 := { stood := { row := topMinutesRow, standIns := [], harness := (true, "6c4c35d60dd5113993016134ea5bd9322abf0f53267f11b12c395e10363a2cf7"), looks := true }, kinds := [], alts := [], laidByText := true, laidKinds := [.data, .data, .data, .data, .handle, .sentinel, .sentinel, .pinned], laidTests := true, laidLooks := .later }
def TopMinutesCardSaid : Prop := Claim7.holds Tryz.pinned (.plain (OpenSpec.ofChange topMinutesSpec)) topMinutesCard

/-- THE TIED CARD OF 'selionlaw09.OfficeSums'. -/
def officeSumsCard : Claim7 := { stood := { row := officeSumsRow, standIns := [], harness := (true, "6c4c35d60dd5113993016134ea5bd9322abf0f53267f11b12c395e10363a2cf7"), looks := true }, kinds := [], alts := [], laidByText := true, laidKinds := [.data, .data, .data, .data, .handle, .sentinel, .sentinel, .pinned], laidTests := true, laidLooks := .later }
def OfficeSumsCardSaid : Prop := Claim7.holds Tryz.pinned (.plain (OpenSpec.ofChange officeSumsSpec)) officeSumsCard

/-- THE TIED CARD OF 'selionlaw09.OfficeMoney'. -/
def officeMoneyCard : Claim7 := { stood := { row := officeMoneyRow, standIns := [], harness := (true, "6c4c35d60dd5113993016134ea5bd9322abf0f53267f11b12c395e10363a2cf7"), looks := true }, kinds := [], alts := [], laidByText := true, laidKinds := [.data, .data, .data, .data, .handle, .sentinel, .sentinel, .pinned], laidTests := true, laidLooks := .later }
def OfficeMoneyCardSaid : Prop := Claim7.holds Tryz.pinned (.plain (OpenSpec.ofChange officeMoneySpec)) officeMoneyCard

/-- THE TIED CARD OF 'selionlaw09.OfficeReads'. -/
def officeReadsCard : Claim7 := { stood := { row := officeReadsRow, standIns := [], harness := (true, "6c4c35d60dd5113993016134ea5bd9322abf0f53267f11b12c395e10363a2cf7"), looks := true }, kinds := [], alts := [], laidByText := true, laidKinds := [.data, .data, .data, .data, .handle, .sentinel, .sentinel, .pinned], laidTests := true, laidLooks := .later }
def OfficeReadsCardSaid : Prop := Claim7.holds Tryz.pinned (.plain (OpenSpec.ofChange officeReadsSpec)) officeReadsCard

/-- THE TIED CARD OF 'selionlaw09.OfficeWrites'. -/
def officeWritesCard : Claim7 := { stood := { row := officeWritesRow, standIns := [], harness := (true, "6c4c35d60dd5113993016134ea5bd9322abf0f53267f11b12c395e10363a2cf7"), looks := true }, kinds := [], alts := [], laidByText := true, laidKinds := [.data, .data, .data, .data, .handle, .sentinel, .sentinel, .pinned], laidTests := true, laidLooks := .later }
def OfficeWritesCardSaid : Prop := Claim7.holds Tryz.pinned (.plain (OpenSpec.ofChange officeWritesSpec)) officeWritesCard

/-- THE TIED CARD OF 'selionlaw09.OfficeMerges'. -/
def officeMergesCard : Claim7 := { stood := { row := officeMergesRow, standIns := [], harness := (true, "6c4c35d60dd5113993016134ea5bd9322abf0f53267f11b12c395e10363a2cf7"), looks := true }, kinds := [], alts := [], laidByText := true, laidKinds := [.data, .data, .data, .data, .handle, .sentinel, .sentinel, .pinned], laidTests := true, laidLooks := .later }
def OfficeMergesCardSaid : Prop := Claim7.holds Tryz.pinned (.plain (OpenSpec.ofChange officeMergesSpec)) officeMergesCard

/-- THE TIED CARD OF 'selionlaw09.OfficeAgain'. -/
def officeAgainCard : Claim7 := { stood := { row := officeAgainRow, standIns := [], harness := (true, "6c4c35d60dd5113993016134ea5bd9322abf0f53267f11b12c395e10363a2cf7"), looks := true }, kinds := [], alts := [], laidByText := true, laidKinds := [.data, .data, .data, .data, .handle, .sentinel, .sentinel, .pinned], laidTests := true, laidLooks := .later }
def OfficeAgainCardSaid : Prop := Claim7.holds Tryz.pinned (.plain (OpenSpec.ofChange officeAgainSpec)) officeAgainCard

/-- THE TIED CARD OF 'selionlaw09.OfficeAudits'. -/
def officeAuditsCard : Claim7 := { stood := { row := officeAuditsRow, standIns := [], harness := (true, "6c4c35d60dd5113993016134ea5bd9322abf0f53267f11b12c395e10363a2cf7"), looks := true }, kinds := [], alts := [], laidByText := true, laidKinds := [.data, .data, .data, .data, .handle, .sentinel, .sentinel, .pinned], laidTests := true, laidLooks := .later }
def OfficeAuditsCardSaid : Prop := Claim7.holds Tryz.pinned (.plain (OpenSpec.ofChange officeAuditsSpec)) officeAuditsCard

/-- THE TIED CARD OF 'selionlaw09.OfficeRefuses'. -/
def officeRefusesCard : Claim7 := { stood := { row := officeRefusesRow, standIns := [], harness := (true, "6c4c35d60dd5113993016134ea5bd9322abf0f53267f11b12c395e10363a2cf7"), looks := true }, kinds := [], alts := [], laidByText := true, laidKinds := [.data, .data, .data, .data, .handle, .sentinel, .sentinel, .pinned], laidTests := true, laidLooks := .later }
def OfficeRefusesCardSaid : Prop := Claim7.holds Tryz.pinned (.plain (OpenSpec.ofChange officeRefusesSpec)) officeRefusesCard

/-- THE TIED CARD OF 'selionlaw09.OfficeLeans'. -/
def officeLeansCard : Claim7 := { stood := { row := officeLeansRow, standIns := [], harness := (true, "6c4c35d60dd5113993016134ea5bd9322abf0f53267f11b12c395e10363a2cf7"), looks := true }, kinds := [], alts := [], laidByText := true, laidKinds := [.data, .data, .data, .data, .handle, .sentinel, .sentinel, .pinned], laidTests := true, laidLooks := .later }
def OfficeLeansCardSaid : Prop := Claim7.holds Tryz.pinned (.plain (OpenSpec.ofChange officeLeansSpec)) officeLeansCard

/-- THE TIED CARD OF 'selionlaw09.OfficeNone'. -/
def officeNoneCard : Claim7 := { stood := { row := officeNoneRow, standIns := [], harness := (true, "6c4c35d60dd5113993016134ea5bd9322abf0f53267f11b12c395e10363a2cf7"), looks := true }, kinds := [], alts := [], laidByText := true, laidKinds := [.data, .data, .data, .data, .handle, .sentinel, .sentinel, .pinned], laidTests := true, laidLooks := .later }
def OfficeNoneCardSaid : Prop := Claim7.holds Tryz.pinned (.plain (OpenSpec.ofChange officeNoneSpec)) officeNoneCard

/-- THE TIED CARD OF 'seliontop.TopReplay'. -/
def topReplayCard : Claim7 := { stood := { row := topReplayRow, standIns := [], harness := (true, "6c4c35d60dd5113993016134ea5bd9322abf0f53267f11b12c395e10363a2cf7"), looks := true }, kinds := [], alts := [], laidByText := true, laidKinds := [.data, .data, .data, .data, .handle, .sentinel, .sentinel, .pinned], laidTests := true, laidLooks := .later }
def TopReplayCardSaid : Prop := Claim7.holds Tryz.pinned (.plain (OpenSpec.ofChange topReplaySpec)) topReplayCard

/-- THE TIED CARD OF 'seliontop.TopOffice'. -/
def topOfficeCard : Claim7 := { stood := { row := topOfficeRow, standIns := [], harness := (true, "6c4c35d60dd5113993016134ea5bd9322abf0f53267f11b12c395e10363a2cf7"), looks := true }, kinds := [], alts := [], laidByText := true, laidKinds := [.data, .data, .data, .data, .handle, .sentinel, .sentinel, .pinned], laidTests := true, laidLooks := .later }
def TopOfficeCardSaid : Prop := Claim7.holds Tryz.pinned (.plain (OpenSpec.ofChange topOfficeSpec)) topOfficeCard

/-- THE SECOND FORM's CARD OF 'seliontop.TopMinutes'. -/
def topMinutesUptoCard : Claim7 := { stood := { row := topMinutesUptoRow, standIns := [], harness := (true, "6c4c35d60dd5113993016134ea5bd9322abf0f53267f11b12c395e10363a2cf7"), looks := true }, kinds := [], alts := [], laidByText := true, laidKinds := [.data, .data, .data, .data, .handle, .sentinel, .sentinel, .pinned], laidTests := true, laidLooks := .later }
def TopMinutesUptoCardSaid : Prop := Claim7.holds Tryz.pinned (.plain (OpenSpec.upto topMinutesSpec)) topMinutesUptoCard

/-- THE SECOND FORM's CARD OF 'selionlaw09.OfficeSums'. -/
def officeSumsUptoCard : Claim7 := { stood := { row := officeSumsUptoRow, standIns := [], harness := (true, "6c4c35d60dd5113993016134ea5bd9322abf0f53267f11b12c395e10363a2cf7"), looks := true }, kinds := [], alts := [], laidByText := true, laidKinds := [.data, .data, .data, .data, .handle, .sentinel, .sentinel, .pinned], laidTests := true, laidLooks := .later }
def OfficeSumsUptoCardSaid : Prop := Claim7.holds Tryz.pinned (.plain (OpenSpec.upto officeSumsSpec)) officeSumsUptoCard

/-- THE SECOND FORM's CARD OF 'selionlaw09.OfficeMoney'. -/
def officeMoneyUptoCard : Claim7 := { stood := { row := officeMoneyUptoRow, standIns := [], harness := (true, "6c4c35d60dd5113993016134ea5bd9322abf0f53267f11b12c395e10363a2cf7"), looks := true }, kinds := [], alts := [], laidByText := true, laidKinds := [.data, .data, .data, .data, .handle, .sentinel, .sentinel, .pinned], laidTests := true, laidLooks := .later }
def OfficeMoneyUptoCardSaid : Prop := Claim7.holds Tryz.pinned (.plain (OpenSpec.upto officeMoneySpec)) officeMoneyUptoCard

/-- THE SECOND FORM's CARD OF 'selionlaw09.OfficeReads'. -/
def officeReadsUptoCard : Claim7 := { stood := { row := officeReadsUptoRow, standIns := [], harness := (true, "6c4c35d60dd5113993016134ea5bd9322abf0f53267f11b12c395e10363a2cf7"), looks := true }, kinds := [], alts := [], laidByText := true, laidKinds := [.data, .data, .data, .data, .handle, .sentinel, .sentinel, .pinned], laidTests := true, laidLooks := .later }
def OfficeReadsUptoCardSaid : Prop := Claim7.holds Tryz.pinned (.plain (OpenSpec.upto officeReadsSpec)) officeReadsUptoCard

/-- THE SECOND FORM's CARD OF 'selionlaw09.OfficeWrites'. -/
def officeWritesUptoCard : Claim7 := { stood := { row := officeWritesUptoRow, standIns := [], harness := (true, "6c4c35d60dd5113993016134ea5bd9322abf0f53267f11b12c395e10363a2cf7"), looks := true }, kinds := [], alts := [], laidByText := true, laidKinds := [.data, .data, .data, .data, .handle, .sentinel, .sentinel, .pinned], laidTests := true, laidLooks := .later }
def OfficeWritesUptoCardSaid : Prop := Claim7.holds Tryz.pinned (.plain (OpenSpec.upto officeWritesSpec)) officeWritesUptoCard

/-- THE SECOND FORM's CARD OF 'selionlaw09.OfficeMerges'. -/
def officeMergesUptoCard : Claim7 := { stood := { row := officeMergesUptoRow, standIns := [], harness := (true, "6c4c35d60dd5113993016134ea5bd9322abf0f53267f11b12c395e10363a2cf7"), looks := true }, kinds := [], alts := [], laidByText := true, laidKinds := [.data, .data, .data, .data, .handle, .sentinel, .sentinel, .pinned], laidTests := true, laidLooks := .later }
def OfficeMergesUptoCardSaid : Prop := Claim7.holds Tryz.pinned (.plain (OpenSpec.upto officeMergesSpec)) officeMergesUptoCard

/-- THE SECOND FORM's CARD OF 'selionlaw09.OfficeAgain'. -/
def officeAgainUptoCard : Claim7 := { stood := { row := officeAgainUptoRow, standIns := [], harness := (true, "6c4c35d60dd5113993016134ea5bd9322abf0f53267f11b12c395e10363a2cf7"), looks := true }, kinds := [], alts := [], laidByText := true, laidKinds := [.data, .data, .data, .data, .handle, .sentinel, .sentinel, .pinned], laidTests := true, laidLooks := .later }
def OfficeAgainUptoCardSaid : Prop := Claim7.holds Tryz.pinned (.plain (OpenSpec.upto officeAgainSpec)) officeAgainUptoCard

/-- THE SECOND FORM's CARD OF 'selionlaw09.OfficeAudits'. -/
def officeAuditsUptoCard : Claim7 := { stood := { row := officeAuditsUptoRow, standIns := [], harness := (true, "6c4c35d60dd5113993016134ea5bd9322abf0f53267f11b12c395e10363a2cf7"), looks := true }, kinds := [], alts := [], laidByText := true, laidKinds := [.data, .data, .data, .data, .handle, .sentinel, .sentinel, .pinned], laidTests := true, laidLooks := .later }
def OfficeAuditsUptoCardSaid : Prop := Claim7.holds Tryz.pinned (.plain (OpenSpec.upto officeAuditsSpec)) officeAuditsUptoCard

/-- THE SECOND FORM's CARD OF 'selionlaw09.OfficeRefuses'. -/
def officeRefusesUptoCard : Claim7 := { stood := { row := officeRefusesUptoRow, standIns := [], harness := (true, "6c4c35d60dd5113993016134ea5bd9322abf0f53267f11b12c395e10363a2cf7"), looks := true }, kinds := [], alts := [], laidByText := true, laidKinds := [.data, .data, .data, .data, .handle, .sentinel, .sentinel, .pinned], laidTests := true, laidLooks := .later }
def OfficeRefusesUptoCardSaid : Prop := Claim7.holds Tryz.pinned (.plain (OpenSpec.upto officeRefusesSpec)) officeRefusesUptoCard

/-- THE SECOND FORM's CARD OF 'selionlaw09.OfficeLeans'. -/
def officeLeansUptoCard : Claim7 := { stood := { row := officeLeansUptoRow, standIns := [], harness := (true, "6c4c35d60dd5113993016134ea5bd9322abf0f53267f11b12c395e10363a2cf7"), looks := true }, kinds := [], alts := [], laidByText := true, laidKinds := [.data, .data, .data, .data, .handle, .sentinel, .sentinel, .pinned], laidTests := true, laidLooks := .later }
def OfficeLeansUptoCardSaid : Prop := Claim7.holds Tryz.pinned (.plain (OpenSpec.upto officeLeansSpec)) officeLeansUptoCard

/-- THE SECOND FORM's CARD OF 'selionlaw09.OfficeNone'. -/
def officeNoneUptoCard : Claim7 := { stood := { row := officeNoneUptoRow, standIns := [], harness := (true, "6c4c35d60dd5113993016134ea5bd9322abf0f53267f11b12c395e10363a2cf7"), looks := true }, kinds := [], alts := [], laidByText := true, laidKinds := [.data, .data, .data, .data, .handle, .sentinel, .sentinel, .pinned], laidTests := true, laidLooks := .later }
def OfficeNoneUptoCardSaid : Prop := Claim7.holds Tryz.pinned (.plain (OpenSpec.upto officeNoneSpec)) officeNoneUptoCard

/-- THE SECOND FORM's CARD OF 'seliontop.TopReplay'. -/
def topReplayUptoCard : Claim7 := { stood := { row := topReplayUptoRow, standIns := [], harness := (true, "6c4c35d60dd5113993016134ea5bd9322abf0f53267f11b12c395e10363a2cf7"), looks := true }, kinds := [], alts := [], laidByText := true, laidKinds := [.data, .data, .data, .data, .handle, .sentinel, .sentinel, .pinned], laidTests := true, laidLooks := .later }
def TopReplayUptoCardSaid : Prop := Claim7.holds Tryz.pinned (.plain (OpenSpec.upto topReplaySpec)) topReplayUptoCard

/-- THE SECOND FORM's CARD OF 'seliontop.TopOffice'. -/
def topOfficeUptoCard : Claim7 := { stood := { row := topOfficeUptoRow, standIns := [], harness := (true, "6c4c35d60dd5113993016134ea5bd9322abf0f53267f11b12c395e10363a2cf7"), looks := true }, kinds := [], alts := [], laidByText := true, laidKinds := [.data, .data, .data, .data, .handle, .sentinel, .sentinel, .pinned], laidTests := true, laidLooks := .later }
def TopOfficeUptoCardSaid : Prop := Claim7.holds Tryz.pinned (.plain (OpenSpec.upto topOfficeSpec)) topOfficeUptoCard
end Rows
end Go.Proofs.YthooacpfmjpdmaaGreatDoor
