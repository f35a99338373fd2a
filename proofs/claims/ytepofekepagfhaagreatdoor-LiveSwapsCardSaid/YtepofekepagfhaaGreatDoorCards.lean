/-
  DERIVED. GIVEN WITH THE SEED: THE CARDS: each row of YtepofekepagfhaaGreatDoorRows.lean that lists a variable, with what it lists TIED to the program's text (the seventh form; the later family's looks); each row that meets fmt, with fmt's text TOLD by the authors' own Lean function (tested against real Go, not proved from fmt's source: count such statements apart). THE CARD IS WHAT COUNTS. Prove the row's statement (the work); the ties are given (YtepofekepagfhaaGreatDoorTie.lean); close each card by the builder's one call (the guide's Derived/Test/ToyasCard.lean, 'card_holds'). Laid BY PROGRAM, IN A SANDBOX (cutbox-door.mjs). By AI agents, Wed Nov 11 2026. No macro, syntax, notation, axiom, sorry.
-/
import Derived.Test.YtepofekepagfhaaGreatDoorRows
import GoSem.ClaimSeven
namespace Go.Proofs.YtepofekepagfhaaGreatDoor
namespace Rows

/-- THE TIED CARD OF 'codexlaw15.LiveTwice'. -/
def liveTwiceCard : Claim7 := { stood := { row := liveTwiceRow, standIns := [], harness := (true, "14cadbeef5d01124464652ed5b1cb3c55be78b2b8d3adf5d831927c2bae522e4"), looks := false }, kinds := [], alts := [], laidByText := true, laidKinds := [.data, .data, .pinned], laidTests := true, laidLooks := .later }
def LiveTwiceCardSaid : Prop := Claim7.holds Tryz.pinned (.plain (OpenSpec.ofChange liveTwiceSpec)) liveTwiceCard

/-- THE TIED CARD OF 'codexlaw15.LiveSwaps'. -/
def liveSwapsCard : Claim7 := { stood := { row := liveSwapsRow, standIns := [], harness := (true, "14cadbeef5d01124464652ed5b1cb3c55be78b2b8d3adf5d831927c2bae522e4"), looks := false }, kinds := [], alts := [], laidByText := true, laidKinds := [.data, .data, .pinned], laidTests := true, laidLooks := .later }
def LiveSwapsCardSaid : Prop := Claim7.holds Tryz.pinned (.plain (OpenSpec.ofChange liveSwapsSpec)) liveSwapsCard

/-- THE TIED CARD OF 'codexlaw15.LiveEmpties'. -/
def liveEmptiesCard : Claim7 := { stood := { row := liveEmptiesRow, standIns := [], harness := (true, "14cadbeef5d01124464652ed5b1cb3c55be78b2b8d3adf5d831927c2bae522e4"), looks := false }, kinds := [], alts := [], laidByText := true, laidKinds := [.data, .data, .pinned], laidTests := true, laidLooks := .later }
def LiveEmptiesCardSaid : Prop := Claim7.holds Tryz.pinned (.plain (OpenSpec.ofChange liveEmptiesSpec)) liveEmptiesCard

/-- THE TIED CARD OF 'codexlaw15.LivePlays'. -/
def livePlaysCard : Claim7 := { stood := { row := livePlaysRow, standIns := [], harness := (true, "14cadbeef5d01124464652ed5b1cb3c55be78b2b8d3adf5d831927c2bae522e4"), looks := false }, kinds := [], alts := [], laidByText := true, laidKinds := [.data, .data, .pinned], laidTests := true, laidLooks := .later }
def LivePlaysCardSaid : Prop := Claim7.holds Tryz.pinned (.plain (OpenSpec.ofChange livePlaysSpec)) livePlaysCard

/-- THE TIED CARD OF 'codexlaw15.LiveSays'. -/
def liveSaysCard : Claim7 := { stood := { row := liveSaysRow, standIns := [], harness := (true, "14cadbeef5d01124464652ed5b1cb3c55be78b2b8d3adf5d831927c2bae522e4"), looks := false }, kinds := [], alts := [], laidByText := true, laidKinds := [.data, .data, .pinned], laidTests := true, laidLooks := .later }
def LiveSaysCardSaid : Prop := Claim7.holds Tryz.pinned (.plain (OpenSpec.ofChange liveSaysSpec)) liveSaysCard

/-- THE TIED CARD OF 'codexlaw15.LiveMerges'. -/
def liveMergesCard : Claim7 := { stood := { row := liveMergesRow, standIns := [], harness := (true, "14cadbeef5d01124464652ed5b1cb3c55be78b2b8d3adf5d831927c2bae522e4"), looks := false }, kinds := [], alts := [], laidByText := true, laidKinds := [.data, .data, .pinned], laidTests := true, laidLooks := .later }
def LiveMergesCardSaid : Prop := Claim7.holds Tryz.pinned (.plain (OpenSpec.ofChange liveMergesSpec)) liveMergesCard

/-- THE TIED CARD OF 'codexlaw14.SegmentBuilds'. -/
def segmentBuildsCard : Claim7 := { stood := { row := segmentBuildsRow, standIns := [], harness := (true, "14cadbeef5d01124464652ed5b1cb3c55be78b2b8d3adf5d831927c2bae522e4"), looks := false }, kinds := [], alts := [], laidByText := true, laidKinds := [.data, .data, .pinned], laidTests := true, laidLooks := .later }
def SegmentBuildsCardSaid : Prop := Claim7.holds Tryz.pinned (.plain (OpenSpec.ofChange segmentBuildsSpec)) segmentBuildsCard

/-- THE TIED CARD OF 'codexlaw14.SegmentOpens'. -/
def segmentOpensCard : Claim7 := { stood := { row := segmentOpensRow, standIns := [], harness := (true, "14cadbeef5d01124464652ed5b1cb3c55be78b2b8d3adf5d831927c2bae522e4"), looks := false }, kinds := [], alts := [], laidByText := true, laidKinds := [.data, .data, .pinned], laidTests := true, laidLooks := .later }
def SegmentOpensCardSaid : Prop := Claim7.holds Tryz.pinned (.plain (OpenSpec.ofChange segmentOpensSpec)) segmentOpensCard

/-- THE TIED CARD OF 'codexlaw14.SegmentTells'. -/
def segmentTellsCard : Claim7 := { stood := { row := segmentTellsRow, standIns := [], harness := (true, "14cadbeef5d01124464652ed5b1cb3c55be78b2b8d3adf5d831927c2bae522e4"), looks := false }, kinds := [], alts := [], laidByText := true, laidKinds := [.data, .data, .pinned], laidTests := true, laidLooks := .later }
def SegmentTellsCardSaid : Prop := Claim7.holds Tryz.pinned (.plain (OpenSpec.ofChange segmentTellsSpec)) segmentTellsCard

/-- THE TIED CARD OF 'codexlaw14.SegmentPlaces'. -/
def segmentPlacesCard : Claim7 := { stood := { row := segmentPlacesRow, standIns := [], harness := (true, "14cadbeef5d01124464652ed5b1cb3c55be78b2b8d3adf5d831927c2bae522e4"), looks := false }, kinds := [], alts := [], laidByText := true, laidKinds := [.data, .data, .pinned], laidTests := true, laidLooks := .later }
def SegmentPlacesCardSaid : Prop := Claim7.holds Tryz.pinned (.plain (OpenSpec.ofChange segmentPlacesSpec)) segmentPlacesCard

/-- THE TIED CARD OF 'codexlaw14.SegmentTurns'. -/
def segmentTurnsCard : Claim7 := { stood := { row := segmentTurnsRow, standIns := [], harness := (true, "14cadbeef5d01124464652ed5b1cb3c55be78b2b8d3adf5d831927c2bae522e4"), looks := false }, kinds := [], alts := [], laidByText := true, laidKinds := [.data, .data, .pinned], laidTests := true, laidLooks := .later }
def SegmentTurnsCardSaid : Prop := Claim7.holds Tryz.pinned (.plain (OpenSpec.ofChange segmentTurnsSpec)) segmentTurnsCard

/-- THE TIED CARD OF 'codexlaw14.SegmentCuts'. -/
def segmentCutsCard : Claim7 := { stood := { row := segmentCutsRow, standIns := [], harness := (true, "14cadbeef5d01124464652ed5b1cb3c55be78b2b8d3adf5d831927c2bae522e4"), looks := false }, kinds := [], alts := [], laidByText := true, laidKinds := [.data, .data, .pinned], laidTests := true, laidLooks := .later }
def SegmentCutsCardSaid : Prop := Claim7.holds Tryz.pinned (.plain (OpenSpec.ofChange segmentCutsSpec)) segmentCutsCard

/-- THE TIED CARD OF 'codexlaw14.SegmentLists'. -/
def segmentListsCard : Claim7 := { stood := { row := segmentListsRow, standIns := [], harness := (true, "14cadbeef5d01124464652ed5b1cb3c55be78b2b8d3adf5d831927c2bae522e4"), looks := false }, kinds := [], alts := [], laidByText := true, laidKinds := [.data, .data, .pinned], laidTests := true, laidLooks := .later }
def SegmentListsCardSaid : Prop := Claim7.holds Tryz.pinned (.plain (OpenSpec.ofChange segmentListsSpec)) segmentListsCard

/-- THE SECOND FORM's CARD OF 'codexlaw15.LiveTwice'. -/
def liveTwiceUptoCard : Claim7 := { stood := { row := liveTwiceUptoRow, standIns := [], harness := (true, "14cadbeef5d01124464652ed5b1cb3c55be78b2b8d3adf5d831927c2bae522e4"), looks := false }, kinds := [], alts := [], laidByText := true, laidKinds := [.data, .data, .pinned], laidTests := true, laidLooks := .later }
def LiveTwiceUptoCardSaid : Prop := Claim7.holds Tryz.pinned (.plain (OpenSpec.upto liveTwiceSpec)) liveTwiceUptoCard

/-- THE SECOND FORM's CARD OF 'codexlaw15.LiveSwaps'. -/
def liveSwapsUptoCard : Claim7 := { stood := { row := liveSwapsUptoRow, standIns := [], harness := (true, "14cadbeef5d01124464652ed5b1cb3c55be78b2b8d3adf5d831927c2bae522e4"), looks := false }, kinds := [], alts := [], laidByText := true, laidKinds := [.data, .data, .pinned], laidTests := true, laidLooks := .later }
def LiveSwapsUptoCardSaid : Prop := Claim7.holds Tryz.pinned (.plain (OpenSpec.upto liveSwapsSpec)) liveSwapsUptoCard

/-- THE SECOND FORM's CARD OF 'codexlaw15.LiveEmpties'. -/
def liveEmptiesUptoCard : Claim7 := { stood := { row := liveEmptiesUptoRow, standIns := [], harness := (true, "14cadbeef5d01124464652ed5b1cb3c55be78b2b8d3adf5d831927c2bae522e4"), looks := false }, kinds := [], alts := [], laidByText := true, laidKinds := [.data, .data, .pinned], laidTests := true, laidLooks := .later }
def LiveEmptiesUptoCardSaid : Prop := Claim7.holds Tryz.pinned (.plain (OpenSpec.upto liveEmptiesSpec)) liveEmptiesUptoCard

/-- THE SECOND FORM's CARD OF 'codexlaw15.LivePlays'. -/
def livePlaysUptoCard : Claim7 := { stood := { row := livePlaysUptoRow, standIns := [], harness := (true, "14cadbeef5d01124464652ed5b1cb3c55be78b2b8d3adf5d831927c2bae522e4"), looks := false }, kinds := [], alts := [], laidByText := true, laidKinds := [.data, .data, .pinned], laidTests := true, laidLooks := .later }
def LivePlaysUptoCardSaid : Prop := Claim7.holds Tryz.pinned (.plain (OpenSpec.upto livePlaysSpec)) livePlaysUptoCard

/-- THE SECOND FORM's CARD OF 'codexlaw15.LiveSays'. -/
def liveSaysUptoCard : Claim7 := { stood := { row := liveSaysUptoRow, standIns := [], harness := (true, "14cadbeef5d01124464652ed5b1cb3c55be78b2b8d3adf5d831927c2bae522e4"), looks := false }, kinds := [], alts := [], laidByText := true, laidKinds := [.data, .data, .pinned], laidTests := true, laidLooks := .later }
def LiveSaysUptoCardSaid : Prop := Claim7.holds Tryz.pinned (.plain (OpenSpec.upto liveSaysSpec)) liveSaysUptoCard

/-- THE SECOND FORM's CARD OF 'codexlaw15.LiveMerges'. -/
def liveMergesUptoCard : Claim7 := { stood := { row := liveMergesUptoRow, standIns := [], harness := (true, "14cadbeef5d01124464652ed5b1cb3c55be78b2b8d3adf5d831927c2bae522e4"), looks := false }, kinds := [], alts := [], laidByText := true, laidKinds := [.data, .data, .pinned], laidTests := true, laidLooks := .later }
def LiveMergesUptoCardSaid : Prop := Claim7.holds Tryz.pinned (.plain (OpenSpec.upto liveMergesSpec)) liveMergesUptoCard

/-- THE SECOND FORM's CARD OF 'codexlaw14.SegmentBuilds'. -/
def segmentBuildsUptoCard : Claim7 := { stood := { row := segmentBuildsUptoRow, standIns := [], harness := (true, "14cadbeef5d01124464652ed5b1cb3c55be78b2b8d3adf5d831927c2bae522e4"), looks := false }, kinds := [], alts := [], laidByText := true, laidKinds := [.data, .data, .pinned], laidTests := true, laidLooks := .later }
def SegmentBuildsUptoCardSaid : Prop := Claim7.holds Tryz.pinned (.plain (OpenSpec.upto segmentBuildsSpec)) segmentBuildsUptoCard

/-- THE SECOND FORM's CARD OF 'codexlaw14.SegmentOpens'. -/
def segmentOpensUptoCard : Claim7 := { stood := { row := segmentOpensUptoRow, standIns := [], harness := (true, "14cadbeef5d01124464652ed5b1cb3c55be78b2b8d3adf5d831927c2bae522e4"), looks := false }, kinds := [], alts := [], laidByText := true, laidKinds := [.data, .data, .pinned], laidTests := true, laidLooks := .later }
def SegmentOpensUptoCardSaid : Prop := Claim7.holds Tryz.pinned (.plain (OpenSpec.upto segmentOpensSpec)) segmentOpensUptoCard

/-- THE SECOND FORM's CARD OF 'codexlaw14.SegmentTells'. -/
def segmentTellsUptoCard : Claim7 := { stood := { row := segmentTellsUptoRow, standIns := [], harness := (true, "14cadbeef5d01124464652ed5b1cb3c55be78b2b8d3adf5d831927c2bae522e4"), looks := false }, kinds := [], alts := [], laidByText := true, laidKinds := [.data, .data, .pinned], laidTests := true, laidLooks := .later }
def SegmentTellsUptoCardSaid : Prop := Claim7.holds Tryz.pinned (.plain (OpenSpec.upto segmentTellsSpec)) segmentTellsUptoCard

/-- THE SECOND FORM's CARD OF 'codexlaw14.SegmentPlaces'. -/
def segmentPlacesUptoCard : Claim7 := { stood := { row := segmentPlacesUptoRow, standIns := [], harness := (true, "14cadbeef5d01124464652ed5b1cb3c55be78b2b8d3adf5d831927c2bae522e4"), looks := false }, kinds := [], alts := [], laidByText := true, laidKinds := [.data, .data, .pinned], laidTests := true, laidLooks := .later }
def SegmentPlacesUptoCardSaid : Prop := Claim7.holds Tryz.pinned (.plain (OpenSpec.upto segmentPlacesSpec)) segmentPlacesUptoCard

/-- THE SECOND FORM's CARD OF 'codexlaw14.SegmentTurns'. -/
def segmentTurnsUptoCard : Claim7 := { stood := { row := segmentTurnsUptoRow, standIns := [], harness := (true, "14cadbeef5d01124464652ed5b1cb3c55be78b2b8d3adf5d831927c2bae522e4"), looks := false }, kinds := [], alts := [], laidByText := true, laidKinds := [.data, .data, .pinned], laidTests := true, laidLooks := .later }
def SegmentTurnsUptoCardSaid : Prop := Claim7.holds Tryz.pinned (.plain (OpenSpec.upto segmentTurnsSpec)) segmentTurnsUptoCard

/-- THE SECOND FORM's CARD OF 'codexlaw14.SegmentCuts'. -/
def segmentCutsUptoCard : Claim7 := { stood := { row := segmentCutsUptoRow, standIns := [], harness := (true, "14cadbeef5d01124464652ed5b1cb3c55be78b2b8d3adf5d831927c2bae522e4"), looks := false }, kinds := [], alts := [], laidByText := true, laidKinds := [.data, .data, .pinned], laidTests := true, laidLooks := .later }
def SegmentCutsUptoCardSaid : Prop := Claim7.holds Tryz.pinned (.plain (OpenSpec.upto segmentCutsSpec)) segmentCutsUptoCard

/-- THE SECOND FORM's CARD OF 'codexlaw14.SegmentLists'. -/
def segmentListsUptoCard : Claim7 := { stood := { row := segmentListsUptoRow, standIns := [], harness := (true, "14cadbeef5d01124464652ed5b1cb3c55be78b2b8d3adf5d831927c2bae522e4"), looks := false }, kinds := [], alts := [], laidByText := true, laidKinds := [.data, .data, .pinned], laidTests := true, laidLooks := .later }
def SegmentListsUptoCardSaid : Prop := Claim7.holds Tryz.pinned (.plain (OpenSpec.upto segmentListsSpec)) segmentListsUptoCard
end Rows
end Go.Proofs.YtepofekepagfhaaGreatDoor
