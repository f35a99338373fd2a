/-
  DERIVED. GIVEN WITH THE SEED: THE CARDS: each row of YtonlbpljghohmaaGreatDoorRows.lean that lists a variable, with what it lists TIED to the program's text (the seventh form; the later family's looks); each row that meets fmt, with fmt's text TOLD by the authors' own Lean function (tested against real Go, not proved from fmt's source: count such statements apart). THE CARD IS WHAT COUNTS. Prove the row's statement (the work); the ties are given (YtonlbpljghohmaaGreatDoorTie.lean); close each card by the builder's one call (the guide's Derived/Test/ToyasCard.lean, 'card_holds'). Laid BY PROGRAM, IN A SANDBOX (cutbox-door.mjs). By AI agents, Wed Nov 11 2026. No macro, syntax, notation, axiom, sorry.
-/
import Derived.Test.YtonlbpljghohmaaGreatDoorRows
import GoSem.ClaimSeven
namespace Go.Proofs.YtonlbpljghohmaaGreatDoor
namespace Rows

/-- THE TIED CARD OF 'codexlaw9.FilesSealed'. -/
def filesSealedCard : Claim7 := { stood := { row := filesSealedRow, standIns := [], harness := (true, "554cbf7dab0cd4420abb5aacf91751db4223b22f0ccce3531806b1b3c392287e"), looks := true }, kinds := [], alts := [], laidByText := true, laidKinds := [.data, .pinned], laidTests := true, laidLooks := .later }
def FilesSealedCardSaid : Prop := Claim7.holds Tryz.pinned (.plain (OpenSpec.ofChange filesSealedSpec)) filesSealedCard

/-- THE TIED CARD OF 'codexlaw9.FilesKeep'. -/
def filesKeepCard : Claim7 := { stood := { row := filesKeepRow, standIns := [], harness := (true, "554cbf7dab0cd4420abb5aacf91751db4223b22f0ccce3531806b1b3c392287e"), looks := true }, kinds := [], alts := [], laidByText := true, laidKinds := [.data, .pinned], laidTests := true, laidLooks := .later }
def FilesKeepCardSaid : Prop := Claim7.holds Tryz.pinned (.plain (OpenSpec.ofChange filesKeepSpec)) filesKeepCard

/-- THE TIED CARD OF 'codexlaw9.FilesRead'. -/
def filesReadCard : Claim7 := { stood := { row := filesReadRow, standIns := [], harness := (true, "554cbf7dab0cd4420abb5aacf91751db4223b22f0ccce3531806b1b3c392287e"), looks := true }, kinds := [], alts := [], laidByText := true, laidKinds := [.data, .pinned], laidTests := true, laidLooks := .later }
def FilesReadCardSaid : Prop := Claim7.holds Tryz.pinned (.plain (OpenSpec.ofChange filesReadSpec)) filesReadCard

/-- THE TIED CARD OF 'codexlaw9.FilesPieces'. -/
def filesPiecesCard : Claim7 := { stood := { row := filesPiecesRow, standIns := [], harness := (true, "554cbf7dab0cd4420abb5aacf91751db4223b22f0ccce3531806b1b3c392287e"), looks := true }, kinds := [], alts := [], laidByText := true, laidKinds := [.data, .pinned], laidTests := true, laidLooks := .later }
def FilesPiecesCardSaid : Prop := Claim7.holds Tryz.pinned (.plain (OpenSpec.ofChange filesPiecesSpec)) filesPiecesCard

/-- THE TIED CARD OF 'codexlaw9.FilesMove'. -/
def filesMoveCard : Claim7 := { stood := { row := filesMoveRow, standIns := [], harness := (true, "554cbf7dab0cd4420abb5aacf91751db4223b22f0ccce3531806b1b3c392287e"), looks := true }, kinds := [], alts := [], laidByText := true, laidKinds := [.data, .pinned], laidTests := true, laidLooks := .later }
def FilesMoveCardSaid : Prop := Claim7.holds Tryz.pinned (.plain (OpenSpec.ofChange filesMoveSpec)) filesMoveCard

/-- THE TIED CARD OF 'codexlaw9.FilesPlay'. -/
def filesPlayCard : Claim7 := { stood := { row := filesPlayRow, standIns := [], harness := (true, "554cbf7dab0cd4420abb5aacf91751db4223b22f0ccce3531806b1b3c392287e"), looks := true }, kinds := [], alts := [], laidByText := true, laidKinds := [.data, .pinned], laidTests := true, laidLooks := .later }
def FilesPlayCardSaid : Prop := Claim7.holds Tryz.pinned (.plain (OpenSpec.ofChange filesPlaySpec)) filesPlayCard

/-- THE SECOND FORM's CARD OF 'codexlaw9.FilesSealed'. -/
def filesSealedUptoCard : Claim7 := { stood := { row := filesSealedUptoRow, standIns := [], harness := (true, "554cbf7dab0cd4420abb5aacf91751db4223b22f0ccce3531806b1b3c392287e"), looks := true }, kinds := [], alts := [], laidByText := true, laidKinds := [.data, .pinned], laidTests := true, laidLooks := .later }
def FilesSealedUptoCardSaid : Prop := Claim7.holds Tryz.pinned (.plain (OpenSpec.upto filesSealedSpec)) filesSealedUptoCard

/-- THE SECOND FORM's CARD OF 'codexlaw9.FilesKeep'. -/
def filesKeepUptoCard : Claim7 := { stood := { row := filesKeepUptoRow, standIns := [], harness := (true, "554cbf7dab0cd4420abb5aacf91751db4223b22f0ccce3531806b1b3c392287e"), looks := true }, kinds := [], alts := [], laidByText := true, laidKinds := [.data, .pinned], laidTests := true, laidLooks := .later }
def FilesKeepUptoCardSaid : Prop := Claim7.holds Tryz.pinned (.plain (OpenSpec.upto filesKeepSpec)) filesKeepUptoCard

/-- THE SECOND FORM's CARD OF 'codexlaw9.FilesRead'. -/
def filesReadUptoCard : Claim7 := { stood := { row := filesReadUptoRow, standIns := [], harness := (true, "554cbf7dab0cd4420abb5aacf91751db4223b22f0ccce3531806b1b3c392287e"), looks := true }, kinds := [], alts := [], laidByText := true, laidKinds := [.data, .pinned], laidTests := true, laidLooks := .later }
def FilesReadUptoCardSaid : Prop := Claim7.holds Tryz.pinned (.plain (OpenSpec.upto filesReadSpec)) filesReadUptoCard

/-- THE SECOND FORM's CARD OF 'codexlaw9.FilesPieces'. -/
def filesPiecesUptoCard : Claim7 := { stood := { row := filesPiecesUptoRow, standIns := [], harness := (true, "554cbf7dab0cd4420abb5aacf91751db4223b22f0ccce3531806b1b3c392287e"), looks := true }, kinds := [], alts := [], laidByText := true, laidKinds := [.data, .pinned], laidTests := true, laidLooks := .later }
def FilesPiecesUptoCardSaid : Prop := Claim7.holds Tryz.pinned (.plain (OpenSpec.upto filesPiecesSpec)) filesPiecesUptoCard

/-- THE SECOND FORM's CARD OF 'codexlaw9.FilesMove'. -/
def filesMoveUptoCard : Claim7 := { stood := { row := filesMoveUptoRow, standIns := [], harness := (true, "554cbf7dab0cd4420abb5aacf91751db4223b22f0ccce3531806b1b3c392287e"), looks := true }, kinds := [], alts := [], laidByText := true, laidKinds := [.data, .pinned], laidTests := true, laidLooks := .later }
def FilesMoveUptoCardSaid : Prop := Claim7.holds Tryz.pinned (.plain (OpenSpec.upto filesMoveSpec)) filesMoveUptoCard

/-- THE SECOND FORM's CARD OF 'codexlaw9.FilesPlay'. -/
def filesPlayUptoCard : Claim7 := { stood := { row := filesPlayUptoRow, standIns := [], harness := (true, "554cbf7dab0cd4420abb5aacf91751db4223b22f0ccce3531806b1b3c392287e"), looks := true }, kinds := [], alts := [], laidByText := true, laidKinds := [.data, .pinned], laidTests := true, laidLooks := .later }
def FilesPlayUptoCardSaid : Prop := Claim7.holds Tryz.pinned (.plain (OpenSpec.upto filesPlaySpec)) filesPlayUptoCard
end Rows
end Go.Proofs.YtonlbpljghohmaaGreatDoor
