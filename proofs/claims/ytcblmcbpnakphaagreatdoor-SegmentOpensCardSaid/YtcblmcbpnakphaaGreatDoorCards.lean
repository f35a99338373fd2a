/-
  DERIVED. GIVEN WITH THE SEED: THE CARDS: each row of YtcblmcbpnakphaaGreatDoorRows.lean that lists a variable, with what it lists TIED to the program's text (the seventh form; the later family's looks); each row that meets fmt, with fmt's text TOLD by the authors' own Lean function (tested against real Go, not proved from fmt's source: count such statements apart). THE CARD IS WHAT COUNTS. Prove the row's statement (the work); the ties are given (YtcblmcbpnakphaaGreatDoorTie.lean); close each card by the builder's one call (the guide's Derived/Test/ToyasCard.lean, 'card_holds'). Laid BY PROGRAM, IN A SANDBOX (cutbox-door.mjs). By AI agents, Wed Nov 11 2026. No macro, syntax, notation, axiom, sorry.
-/
import Derived.Test.YtcblmcbpnakphaaGreatDoorRows
import GoSem.ClaimSeven
namespace Go.Proofs.YtcblmcbpnakphaaGreatDoor
namespace Rows

/-- THE TIED CARD OF 'codexlaw15.LivePlays'. -/
def livePlaysCard : Claim7 := { stood := { row := livePlaysRow, standIns := [], harness := (true, "e04fb813512669a195a7e74cc2c0068b9b1db3f7597e588170a3428f4e08c29b"), looks := false }, kinds := [], alts := [], laidByText := true, laidKinds := [.data, .data, .pinned], laidTests := true, laidLooks := .later }
def LivePlaysCardSaid : Prop := Claim7.holds Tryz.pinned (.plain (OpenSpec.ofChange livePlaysSpec)) livePlaysCard

/-- THE TIED CARD OF 'codexlaw14.SegmentBuilds'. -/
def segmentBuildsCard : Claim7 := { stood := { row := segmentBuildsRow, standIns := [], harness := (true, "e04fb813512669a195a7e74cc2c0068b9b1db3f7597e588170a3428f4e08c29b"), looks := false }, kinds := [], alts := [], laidByText := true, laidKinds := [.data, .data, .pinned], laidTests := true, laidLooks := .later }
def SegmentBuildsCardSaid : Prop := Claim7.holds Tryz.pinned (.plain (OpenSpec.ofChange segmentBuildsSpec)) segmentBuildsCard

/-- THE TIED CARD OF 'codexlaw14.SegmentOpens'. -/
def segmentOpensCard : Claim7 := { stood := { row := segmentOpensRow, standIns := [], harness := (true, "e04fb813512669a195a7e74cc2c0068b9b1db3f7597e588170a3428f4e08c29b"), looks := false }, kinds := [], alts := [], laidByText := true, laidKinds := [.data, .data, .pinned], laidTests := true, laidLooks := .later }
def SegmentOpensCardSaid : Prop := Claim7.holds Tryz.pinned (.plain (OpenSpec.ofChange segmentOpensSpec)) segmentOpensCard

/-- THE TIED CARD OF 'codexlaw14.SegmentTells'. -/
def segmentTellsCard : Claim7 := { stood := { row := segmentTellsRow, standIns := [], harness := (true, "e04fb813512669a195a7e74cc2c0068b9b1db3f7597e588170a3428f4e08c29b"), looks := false }, kinds := [], alts := [], laidByText := true, laidKinds := [.data, .data, .pinned], laidTests := true, laidLooks := .later }
def SegmentTellsCardSaid : Prop := Claim7.holds Tryz.pinned (.plain (OpenSpec.ofChange segmentTellsSpec)) segmentTellsCard

/-- THE TIED CARD OF 'codexlaw14.SegmentPlaces'. -/
def segmentPlacesCard : Claim7 := { stood := { row := segmentPlacesRow, standIns := [], harness := (true, "e04fb813512669a195a7e74cc2c0068b9b1db3f7597e588170a3428f4e08c29b"), looks := false }, kinds := [], alts := [], laidByText := true, laidKinds := [.data, .data, .pinned], laidTests := true, laidLooks := .later }
def SegmentPlacesCardSaid : Prop := Claim7.holds Tryz.pinned (.plain (OpenSpec.ofChange segmentPlacesSpec)) segmentPlacesCard

/-- THE SECOND FORM's CARD OF 'codexlaw15.LivePlays'. -/
def livePlaysUptoCard : Claim7 := { stood := { row := livePlaysUptoRow, standIns := [], harness := (true, "e04fb813512669a195a7e74cc2c0068b9b1db3f7597e588170a3428f4e08c29b"), looks := false }, kinds := [], alts := [], laidByText := true, laidKinds := [.data, .data, .pinned], laidTests := true, laidLooks := .later }
def LivePlaysUptoCardSaid : Prop := Claim7.holds Tryz.pinned (.plain (OpenSpec.upto livePlaysSpec)) livePlaysUptoCard

/-- THE SECOND FORM's CARD OF 'codexlaw14.SegmentBuilds'. -/
def segmentBuildsUptoCard : Claim7 := { stood := { row := segmentBuildsUptoRow, standIns := [], harness := (true, "e04fb813512669a195a7e74cc2c0068b9b1db3f7597e588170a3428f4e08c29b"), looks := false }, kinds := [], alts := [], laidByText := true, laidKinds := [.data, .data, .pinned], laidTests := true, laidLooks := .later }
def SegmentBuildsUptoCardSaid : Prop := Claim7.holds Tryz.pinned (.plain (OpenSpec.upto segmentBuildsSpec)) segmentBuildsUptoCard

/-- THE SECOND FORM's CARD OF 'codexlaw14.SegmentOpens'. -/
def segmentOpensUptoCard : Claim7 := { stood := { row := segmentOpensUptoRow, standIns := [], harness := (true, "e04fb813512669a195a7e74cc2c0068b9b1db3f7597e588170a3428f4e08c29b"), looks := false }, kinds := [], alts := [], laidByText := true, laidKinds := [.data, .data, .pinned], laidTests := true, laidLooks := .later }
def SegmentOpensUptoCardSaid : Prop := Claim7.holds Tryz.pinned (.plain (OpenSpec.upto segmentOpensSpec)) segmentOpensUptoCard

/-- THE SECOND FORM's CARD OF 'codexlaw14.SegmentTells'. -/
def segmentTellsUptoCard : Claim7 := { stood := { row := segmentTellsUptoRow, standIns := [], harness := (true, "e04fb813512669a195a7e74cc2c0068b9b1db3f7597e588170a3428f4e08c29b"), looks := false }, kinds := [], alts := [], laidByText := true, laidKinds := [.data, .data, .pinned], laidTests := true, laidLooks := .later }
def SegmentTellsUptoCardSaid : Prop := Claim7.holds Tryz.pinned (.plain (OpenSpec.upto segmentTellsSpec)) segmentTellsUptoCard

/-- THE SECOND FORM's CARD OF 'codexlaw14.SegmentPlaces'. -/
def segmentPlacesUptoCard : Claim7 := { stood := { row := segmentPlacesUptoRow, standIns := [], harness := (true, "e04fb813512669a195a7e74cc2c0068b9b1db3f7597e588170a3428f4e08c29b"), looks := false }, kinds := [], alts := [], laidByText := true, laidKinds := [.data, .data, .pinned], laidTests := true, laidLooks := .later }
def SegmentPlacesUptoCardSaid : Prop := Claim7.holds Tryz.pinned (.plain (OpenSpec.upto segmentPlacesSpec)) segmentPlacesUptoCard
end Rows
end Go.Proofs.YtcblmcbpnakphaaGreatDoor
