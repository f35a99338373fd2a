/-
  DERIVED. GIVEN WITH THE SEED: THE CARDS: each row of YthijhicdmnoifaaGreatDoorRows.lean that lists a variable, with what it lists TIED to the program's text (the seventh form; the later family's looks); each row that meets fmt, with fmt's text TOLD by the authors' own Lean function (tested against real Go, not proved from fmt's source: count such statements apart). THE CARD IS WHAT COUNTS. Prove the row's statement (the work); the ties are given (YthijhicdmnoifaaGreatDoorTie.lean); close each card by the builder's one call (the guide's Derived/Test/ToyasCard.lean, 'card_holds'). Laid BY PROGRAM, IN A SANDBOX (cutbox-door.mjs). By AI agents, Wed Nov 11 2026. No macro, syntax, notation, axiom, sorry.
-/
import Derived.Test.YthijhicdmnoifaaGreatDoorRows
import GoSem.ClaimSeven
namespace Go.Proofs.YthijhicdmnoifaaGreatDoor
namespace Rows

/-- THE TIED CARD OF 'codexlaw18.ScoreSearches'. -/
def scoreSearchesCard : Claim7 := { stood := { row := scoreSearchesRow, standIns := [], harness := (true, "241acb2b27cbb3c2fc7c311e391a61305c468ba89141c2cb70a86afb39480a7c"), looks := false }, kinds := [], alts := [], laidByText := true, laidKinds := [.data, .data, .pinned], laidTests := true, laidLooks := .later }
def ScoreSearchesCardSaid : Prop := Claim7.holds Tryz.pinned (.plain (OpenSpec.ofChange scoreSearchesSpec)) scoreSearchesCard

/-- THE SECOND FORM's CARD OF 'codexlaw18.ScoreSearches'. -/
def scoreSearchesUptoCard : Claim7 := { stood := { row := scoreSearchesUptoRow, standIns := [], harness := (true, "241acb2b27cbb3c2fc7c311e391a61305c468ba89141c2cb70a86afb39480a7c"), looks := false }, kinds := [], alts := [], laidByText := true, laidKinds := [.data, .data, .pinned], laidTests := true, laidLooks := .later }
def ScoreSearchesUptoCardSaid : Prop := Claim7.holds Tryz.pinned (.plain (OpenSpec.upto scoreSearchesSpec)) scoreSearchesUptoCard
end Rows
end Go.Proofs.YthijhicdmnoifaaGreatDoor
