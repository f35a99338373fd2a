/-
  DERIVED. GIVEN WITH THE SEED: THE CARDS: each row of YtoabhcfmdkhmgaaGreatDoorRows.lean that lists a variable, with what it lists TIED to the program's text (the seventh form; the later family's looks); each row that meets fmt, with fmt's text TOLD by the authors' own Lean function (tested against real Go, not proved from fmt's source: count such statements apart). THE CARD IS WHAT COUNTS. Prove the row's statement (the work); the ties are given (YtoabhcfmdkhmgaaGreatDoorTie.lean); close each card by the builder's one call (the guide's Derived/Test/ToyasCard.lean, 'card_holds'). Laid BY PROGRAM, IN A SANDBOX (cutbox-door.mjs). By AI agents, Wed Nov 11 2026. No macro, syntax, notation, axiom, sorry.
-/
import Derived.Test.YtoabhcfmdkhmgaaGreatDoorRows
import GoSem.ClaimSeven
namespace Go.Proofs.YtoabhcfmdkhmgaaGreatDoor
namespace Rows

/-- THE TIED CARD OF 'codexlaw15.LivePlays'. -/
def livePlaysCard : Claim7 := { stood := { row := livePlaysRow, standIns := [], harness := (true, "ad0027ff02a11d23f5eef3ab2aaf9286d3cd886a6581c77d16fff70064586837"), looks := false }, kinds := [], alts := [], laidByText := true, laidKinds := [.data, .data, .pinned], laidTests := true, laidLooks := .later }
def LivePlaysCardSaid : Prop := Claim7.holds Tryz.pinned (.plain (OpenSpec.ofChange livePlaysSpec)) livePlaysCard

/-- THE SECOND FORM's CARD OF 'codexlaw15.LivePlays'. -/
def livePlaysUptoCard : Claim7 := { stood := { row := livePlaysUptoRow, standIns := [], harness := (true, "ad0027ff02a11d23f5eef3ab2aaf9286d3cd886a6581c77d16fff70064586837"), looks := false }, kinds := [], alts := [], laidByText := true, laidKinds := [.data, .data, .pinned], laidTests := true, laidLooks := .later }
def LivePlaysUptoCardSaid : Prop := Claim7.holds Tryz.pinned (.plain (OpenSpec.upto livePlaysSpec)) livePlaysUptoCard
end Rows
end Go.Proofs.YtoabhcfmdkhmgaaGreatDoor
