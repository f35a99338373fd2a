/-
  DERIVED. GIVEN WITH THE SEED: THE CARDS: each row of YtbkahhebmpehnaaGreatDoorRows.lean that lists a variable, with what it lists TIED to the program's text (the seventh form; the later family's looks); each row that meets fmt, with fmt's text TOLD by the authors' own Lean function (tested against real Go, not proved from fmt's source: count such statements apart). THE CARD IS WHAT COUNTS. Prove the row's statement (the work); the ties are given (YtbkahhebmpehnaaGreatDoorTie.lean); close each card by the builder's one call (the guide's Derived/Test/ToyasCard.lean, 'card_holds'). Laid BY PROGRAM, IN A SANDBOX (cutbox-door.mjs). By AI agents, Wed Nov 11 2026. No macro, syntax, notation, axiom, sorry.
-/
import Derived.Test.YtbkahhebmpehnaaGreatDoorRows
import GoSem.ClaimSeven
namespace Go.Proofs.YtbkahhebmpehnaaGreatDoor
namespace Rows

/-- THE TIED CARD OF 'codexlaw9.FilesRead'. -/
def filesReadCard : Claim7 := { stood := { row := filesReadRow, standIns := [], harness := (true, "bb356793350edde2c38b6cb0cf8bd73505b9f6ff6e8f532a8c53df665b04a5c6"), looks := true }, kinds := [], alts := [], laidByText := true, laidKinds := [.data, .pinned], laidTests := true, laidLooks := .later }
def FilesReadCardSaid : Prop := Claim7.holds Tryz.pinned (.plain (OpenSpec.ofChange filesReadSpec)) filesReadCard

/-- THE TIED CARD OF 'codexlaw9.FilesPieces'. -/
def filesPiecesCard : Claim7 := { stood := { row := filesPiecesRow, standIns := [], harness := (true, "bb356793350edde2c38b6cb0cf8bd73505b9f6ff6e8f532a8c53df665b04a5c6"), looks := true }, kinds := [], alts := [], laidByText := true, laidKinds := [.data, .pinned], laidTests := true, laidLooks := .later }
def FilesPiecesCardSaid : Prop := Claim7.holds Tryz.pinned (.plain (OpenSpec.ofChange filesPiecesSpec)) filesPiecesCard

/-- THE TIED CARD OF 'codexlaw9.FilesMove'. -/
def filesMoveCard : Claim7 := { stood := { row := filesMoveRow, standIns := [], harness := (true, "bb356793350edde2c38b6cb0cf8bd73505b9f6ff6e8f532a8c53df665b04a5c6"), looks := true }, kinds := [], alts := [], laidByText := true, laidKinds := [.data, .pinned], laidTests := true, laidLooks := .later }
def FilesMoveCardSaid : Prop := Claim7.holds Tryz.pinned (.plain (OpenSpec.ofChange filesMoveSpec)) filesMoveCard

/-- THE SECOND FORM's CARD OF 'codexlaw9.FilesRead'. -/
def filesReadUptoCard : Claim7 := { stood := { row := filesReadUptoRow, standIns := [], harness := (true, "bb356793350edde2c38b6cb0cf8bd73505b9f6ff6e8f532a8c53df665b04a5c6"), looks := true }, kinds := [], alts := [], laidByText := true, laidKinds := [.data, .pinned], laidTests := true, laidLooks := .later }
def FilesReadUptoCardSaid : Prop := Claim7.holds Tryz.pinned (.plain (OpenSpec.upto filesReadSpec)) filesReadUptoCard

/-- THE SECOND FORM's CARD OF 'codexlaw9.FilesPieces'. -/
def filesPiecesUptoCard : Claim7 := { stood := { row := filesPiecesUptoRow, standIns := [], harness := (true, "bb356793350edde2c38b6cb0cf8bd73505b9f6ff6e8f532a8c53df665b04a5c6"), looks := true }, kinds := [], alts := [], laidByText := true, laidKinds := [.data, .pinned], laidTests := true, laidLooks := .later }
def FilesPiecesUptoCardSaid : Prop := Claim7.holds Tryz.pinned (.plain (OpenSpec.upto filesPiecesSpec)) filesPiecesUptoCard

/-- THE SECOND FORM's CARD OF 'codexlaw9.FilesMove'. -/
def filesMoveUptoCard : Claim7 := { stood := { row := filesMoveUptoRow, standIns := [], harness := (true, "bb356793350edde2c38b6cb0cf8bd73505b9f6ff6e8f532a8c53df665b04a5c6"), looks := true }, kinds := [], alts := [], laidByText := true, laidKinds := [.data, .pinned], laidTests := true, laidLooks := .later }
def FilesMoveUptoCardSaid : Prop := Claim7.holds Tryz.pinned (.plain (OpenSpec.upto filesMoveSpec)) filesMoveUptoCard
end Rows
end Go.Proofs.YtbkahhebmpehnaaGreatDoor
