/-
  DERIVED. GIVEN WITH THE SEED: THE CARDS: each row of YtnfomoeicgdkkaaGreatDoorRows.lean that lists a variable, with what it lists TIED to the program's text (the seventh form; the later family's looks); each row that meets fmt, with fmt's text TOLD by the authors' own Lean function (tested against real Go, not proved from fmt's source: count such statements apart). THE CARD IS WHAT COUNTS. Prove the row's statement (the work); the ties are given (YtnfomoeicgdkkaaGreatDoorTie.lean); close each card by the builder's one call (the guide's Derived/Test/ToyasCard.lean, 'card_holds'). Laid BY PROGRAM, IN A SANDBOX (cutbox-door.mjs). By AI agents, Wed Nov 11 2026. No macro, syntax, notation, axiom, sorry.
-/
import Derived.Test.YtnfomoeicgdkkaaGreatDoorRows
import GoSem.ClaimSeven
namespace Go.Proofs.YtnfomoeicgdkkaaGreatDoor
namespace Rows

/-- THE TIED CARD OF 'farrierlaw07.VolHolds'. -/
def volHoldsCard : Claim7 := { stood := { row := volHoldsRow, standIns := [], harness := (true, "138d6610aabe04bd058705bb132886a463760f71cfaa03dace35cc9b22d0b03a"), looks := true }, kinds := [], alts := [], laidByText := true, laidKinds := [.data, .pinned], laidTests := true, laidLooks := .later }
def VolHoldsCardSaid : Prop := Claim7.holds Tryz.pinned (.plain (OpenSpec.ofChange volHoldsSpec)) volHoldsCard

/-- THE TIED CARD OF 'farrierlaw07.VolLong'. -/
def volLongCard : Claim7 := { stood := { row := volLongRow, standIns := [], harness := (true, "138d6610aabe04bd058705bb132886a463760f71cfaa03dace35cc9b22d0b03a"), looks := true }, kinds := [], alts := [], laidByText := true, laidKinds := [.data, .pinned], laidTests := true, laidLooks := .later }
def VolLongCardSaid : Prop := Claim7.holds Tryz.pinned (.plain (OpenSpec.ofChange volLongSpec)) volLongCard

/-- THE TIED CARD OF 'farrierlaw07.VolAlike'. -/
def volAlikeCard : Claim7 := { stood := { row := volAlikeRow, standIns := [], harness := (true, "138d6610aabe04bd058705bb132886a463760f71cfaa03dace35cc9b22d0b03a"), looks := true }, kinds := [], alts := [], laidByText := true, laidKinds := [.data, .pinned], laidTests := true, laidLooks := .later }
def VolAlikeCardSaid : Prop := Claim7.holds Tryz.pinned (.plain (OpenSpec.ofChange volAlikeSpec)) volAlikeCard

/-- THE TIED CARD OF 'farrierlaw07.VolSmall'. -/
def volSmallCard : Claim7 := { stood := { row := volSmallRow, standIns := [], harness := (true, "138d6610aabe04bd058705bb132886a463760f71cfaa03dace35cc9b22d0b03a"), looks := true }, kinds := [], alts := [], laidByText := true, laidKinds := [.data, .pinned], laidTests := true, laidLooks := .later }
def VolSmallCardSaid : Prop := Claim7.holds Tryz.pinned (.plain (OpenSpec.ofChange volSmallSpec)) volSmallCard

/-- THE TIED CARD OF 'farrierlaw08.ProcEnds'. -/
def procEndsCard : Claim7 := { stood := { row := procEndsRow, standIns := [], harness := (true, "138d6610aabe04bd058705bb132886a463760f71cfaa03dace35cc9b22d0b03a"), looks := true }, kinds := [], alts := [], laidByText := true, laidKinds := [.data, .pinned], laidTests := true, laidLooks := .later }
def ProcEndsCardSaid : Prop := Claim7.holds Tryz.pinned (.plain (OpenSpec.ofChange procEndsSpec)) procEndsCard

/-- THE TIED CARD OF 'farrierlaw08.ProcNumbers'. -/
def procNumbersCard : Claim7 := { stood := { row := procNumbersRow, standIns := [], harness := (true, "138d6610aabe04bd058705bb132886a463760f71cfaa03dace35cc9b22d0b03a"), looks := true }, kinds := [], alts := [], laidByText := true, laidKinds := [.data, .pinned], laidTests := true, laidLooks := .later }
def ProcNumbersCardSaid : Prop := Claim7.holds Tryz.pinned (.plain (OpenSpec.ofChange procNumbersSpec)) procNumbersCard

/-- THE TIED CARD OF 'farrierlaw08.ProcPlays'. -/
def procPlaysCard : Claim7 := { stood := { row := procPlaysRow, standIns := [], harness := (true, "138d6610aabe04bd058705bb132886a463760f71cfaa03dace35cc9b22d0b03a"), looks := true }, kinds := [], alts := [], laidByText := true, laidKinds := [.data, .pinned], laidTests := true, laidLooks := .later }
def ProcPlaysCardSaid : Prop := Claim7.holds Tryz.pinned (.plain (OpenSpec.ofChange procPlaysSpec)) procPlaysCard

/-- THE TIED CARD OF 'farrierlaw17.NeedNone'. -/
def needNoneCard : Claim7 := { stood := { row := needNoneRow, standIns := [], harness := (true, "138d6610aabe04bd058705bb132886a463760f71cfaa03dace35cc9b22d0b03a"), looks := true }, kinds := [], alts := [], laidByText := true, laidKinds := [.data, .pinned], laidTests := true, laidLooks := .later }
def NeedNoneCardSaid : Prop := Claim7.holds Tryz.pinned (.plain (OpenSpec.ofChange needNoneSpec)) needNoneCard

/-- THE TIED CARD OF 'farrierlaw17.NeedHits'. -/
def needHitsCard : Claim7 := { stood := { row := needHitsRow, standIns := [], harness := (true, "138d6610aabe04bd058705bb132886a463760f71cfaa03dace35cc9b22d0b03a"), looks := true }, kinds := [], alts := [], laidByText := true, laidKinds := [.data, .pinned], laidTests := true, laidLooks := .later }
def NeedHitsCardSaid : Prop := Claim7.holds Tryz.pinned (.plain (OpenSpec.ofChange needHitsSpec)) needHitsCard

/-- THE TIED CARD OF 'farrierlaw16.MgrPlays'. -/
def mgrPlaysCard : Claim7 := { stood := { row := mgrPlaysRow, standIns := [], harness := (true, "138d6610aabe04bd058705bb132886a463760f71cfaa03dace35cc9b22d0b03a"), looks := true }, kinds := [], alts := [], laidByText := true, laidKinds := [.data, .pinned], laidTests := true, laidLooks := .later }
def MgrPlaysCardSaid : Prop := Claim7.holds Tryz.pinned (.plain (OpenSpec.ofChange mgrPlaysSpec)) mgrPlaysCard

/-- THE TIED CARD OF 'farrierlaw16.MgrRetries'. -/
def mgrRetriesCard : Claim7 := { stood := { row := mgrRetriesRow, standIns := [], harness := (true, "138d6610aabe04bd058705bb132886a463760f71cfaa03dace35cc9b22d0b03a"), looks := true }, kinds := [], alts := [], laidByText := true, laidKinds := [.data, .pinned], laidTests := true, laidLooks := .later }
def MgrRetriesCardSaid : Prop := Claim7.holds Tryz.pinned (.plain (OpenSpec.ofChange mgrRetriesSpec)) mgrRetriesCard

/-- THE TIED CARD OF 'farrierlaw16.MgrLoses'. -/
def mgrLosesCard : Claim7 := { stood := { row := mgrLosesRow, standIns := [], harness := (true, "138d6610aabe04bd058705bb132886a463760f71cfaa03dace35cc9b22d0b03a"), looks := true }, kinds := [], alts := [], laidByText := true, laidKinds := [.data, .pinned], laidTests := true, laidLooks := .later }
def MgrLosesCardSaid : Prop := Claim7.holds Tryz.pinned (.plain (OpenSpec.ofChange mgrLosesSpec)) mgrLosesCard

/-- THE SECOND FORM's CARD OF 'farrierlaw07.VolHolds'. -/
def volHoldsUptoCard : Claim7 := { stood := { row := volHoldsUptoRow, standIns := [], harness := (true, "138d6610aabe04bd058705bb132886a463760f71cfaa03dace35cc9b22d0b03a"), looks := true }, kinds := [], alts := [], laidByText := true, laidKinds := [.data, .pinned], laidTests := true, laidLooks := .later }
def VolHoldsUptoCardSaid : Prop := Claim7.holds Tryz.pinned (.plain (OpenSpec.upto volHoldsSpec)) volHoldsUptoCard

/-- THE SECOND FORM's CARD OF 'farrierlaw07.VolLong'. -/
def volLongUptoCard : Claim7 := { stood := { row := volLongUptoRow, standIns := [], harness := (true, "138d6610aabe04bd058705bb132886a463760f71cfaa03dace35cc9b22d0b03a"), looks := true }, kinds := [], alts := [], laidByText := true, laidKinds := [.data, .pinned], laidTests := true, laidLooks := .later }
def VolLongUptoCardSaid : Prop := Claim7.holds Tryz.pinned (.plain (OpenSpec.upto volLongSpec)) volLongUptoCard

/-- THE SECOND FORM's CARD OF 'farrierlaw07.VolAlike'. -/
def volAlikeUptoCard : Claim7 := { stood := { row := volAlikeUptoRow, standIns := [], harness := (true, "138d6610aabe04bd058705bb132886a463760f71cfaa03dace35cc9b22d0b03a"), looks := true }, kinds := [], alts := [], laidByText := true, laidKinds := [.data, .pinned], laidTests := true, laidLooks := .later }
def VolAlikeUptoCardSaid : Prop := Claim7.holds Tryz.pinned (.plain (OpenSpec.upto volAlikeSpec)) volAlikeUptoCard

/-- THE SECOND FORM's CARD OF 'farrierlaw07.VolSmall'. -/
def volSmallUptoCard : Claim7 := { stood := { row := volSmallUptoRow, standIns := [], harness := (true, "138d6610aabe04bd058705bb132886a463760f71cfaa03dace35cc9b22d0b03a"), looks := true }, kinds := [], alts := [], laidByText := true, laidKinds := [.data, .pinned], laidTests := true, laidLooks := .later }
def VolSmallUptoCardSaid : Prop := Claim7.holds Tryz.pinned (.plain (OpenSpec.upto volSmallSpec)) volSmallUptoCard

/-- THE SECOND FORM's CARD OF 'farrierlaw08.ProcEnds'. -/
def procEndsUptoCard : Claim7 := { stood := { row := procEndsUptoRow, standIns := [], harness := (true, "138d6610aabe04bd058705bb132886a463760f71cfaa03dace35cc9b22d0b03a"), looks := true }, kinds := [], alts := [], laidByText := true, laidKinds := [.data, .pinned], laidTests := true, laidLooks := .later }
def ProcEndsUptoCardSaid : Prop := Claim7.holds Tryz.pinned (.plain (OpenSpec.upto procEndsSpec)) procEndsUptoCard

/-- THE SECOND FORM's CARD OF 'farrierlaw08.ProcNumbers'. -/
def procNumbersUptoCard : Claim7 := { stood := { row := procNumbersUptoRow, standIns := [], harness := (true, "138d6610aabe04bd058705bb132886a463760f71cfaa03dace35cc9b22d0b03a"), looks := true }, kinds := [], alts := [], laidByText := true, laidKinds := [.data, .pinned], laidTests := true, laidLooks := .later }
def ProcNumbersUptoCardSaid : Prop := Claim7.holds Tryz.pinned (.plain (OpenSpec.upto procNumbersSpec)) procNumbersUptoCard

/-- THE SECOND FORM's CARD OF 'farrierlaw08.ProcPlays'. -/
def procPlaysUptoCard : Claim7 := { stood := { row := procPlaysUptoRow, standIns := [], harness := (true, "138d6610aabe04bd058705bb132886a463760f71cfaa03dace35cc9b22d0b03a"), looks := true }, kinds := [], alts := [], laidByText := true, laidKinds := [.data, .pinned], laidTests := true, laidLooks := .later }
def ProcPlaysUptoCardSaid : Prop := Claim7.holds Tryz.pinned (.plain (OpenSpec.upto procPlaysSpec)) procPlaysUptoCard

/-- THE SECOND FORM's CARD OF 'farrierlaw17.NeedNone'. -/
def needNoneUptoCard : Claim7 := { stood := { row := needNoneUptoRow, standIns := [], harness := (true, "138d6610aabe04bd058705bb132886a463760f71cfaa03dace35cc9b22d0b03a"), looks := true }, kinds := [], alts := [], laidByText := true, laidKinds := [.data, .pinned], laidTests := true, laidLooks := .later }
def NeedNoneUptoCardSaid : Prop := Claim7.holds Tryz.pinned (.plain (OpenSpec.upto needNoneSpec)) needNoneUptoCard

/-- THE SECOND FORM's CARD OF 'farrierlaw17.NeedHits'. -/
def needHitsUptoCard : Claim7 := { stood := { row := needHitsUptoRow, standIns := [], harness := (true, "138d6610aabe04bd058705bb132886a463760f71cfaa03dace35cc9b22d0b03a"), looks := true }, kinds := [], alts := [], laidByText := true, laidKinds := [.data, .pinned], laidTests := true, laidLooks := .later }
def NeedHitsUptoCardSaid : Prop := Claim7.holds Tryz.pinned (.plain (OpenSpec.upto needHitsSpec)) needHitsUptoCard

/-- THE SECOND FORM's CARD OF 'farrierlaw16.MgrPlays'. -/
def mgrPlaysUptoCard : Claim7 := { stood := { row := mgrPlaysUptoRow, standIns := [], harness := (true, "138d6610aabe04bd058705bb132886a463760f71cfaa03dace35cc9b22d0b03a"), looks := true }, kinds := [], alts := [], laidByText := true, laidKinds := [.data, .pinned], laidTests := true, laidLooks := .later }
def MgrPlaysUptoCardSaid : Prop := Claim7.holds Tryz.pinned (.plain (OpenSpec.upto mgrPlaysSpec)) mgrPlaysUptoCard

/-- THE SECOND FORM's CARD OF 'farrierlaw16.MgrRetries'. -/
def mgrRetriesUptoCard : Claim7 := { stood := { row := mgrRetriesUptoRow, standIns := [], harness := (true, "138d6610aabe04bd058705bb132886a463760f71cfaa03dace35cc9b22d0b03a"), looks := true }, kinds := [], alts := [], laidByText := true, laidKinds := [.data, .pinned], laidTests := true, laidLooks := .later }
def MgrRetriesUptoCardSaid : Prop := Claim7.holds Tryz.pinned (.plain (OpenSpec.upto mgrRetriesSpec)) mgrRetriesUptoCard

/-- THE SECOND FORM's CARD OF 'farrierlaw16.MgrLoses'. -/
def mgrLosesUptoCard : Claim7 := { stood := { row := mgrLosesUptoRow, standIns := [], harness := (true, "138d6610aabe04bd058705bb132886a463760f71cfaa03dace35cc9b22d0b03a"), looks := true }, kinds := [], alts := [], laidByText := true, laidKinds := [.data, .pinned], laidTests := true, laidLooks := .later }
def MgrLosesUptoCardSaid : Prop := Claim7.holds Tryz.pinned (.plain (OpenSpec.upto mgrLosesSpec)) mgrLosesUptoCard
end Rows
end Go.Proofs.YtnfomoeicgdkkaaGreatDoor
