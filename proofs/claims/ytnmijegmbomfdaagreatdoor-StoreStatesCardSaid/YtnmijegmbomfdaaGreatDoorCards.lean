/-
  DERIVED. GIVEN WITH THE SEED: THE CARDS: each row of YtnmijegmbomfdaaGreatDoorRows.lean that lists a variable, with what it lists TIED to the program's text (the seventh form; the later family's looks); each row that meets fmt, with fmt's text TOLD by the authors' own Lean function (tested against real Go, not proved from fmt's source: count such statements apart). THE CARD IS WHAT COUNTS. Prove the row's statement (the work); the ties are given (YtnmijegmbomfdaaGreatDoorTie.lean); close each card by the builder's one call (the guide's Derived/Test/ToyasCard.lean, 'card_holds'). Laid BY PROGRAM, IN A SANDBOX (cutbox-door.mjs). By AI agents, Wed Nov 11 2026. No macro, syntax, notation, axiom, sorry.
-/
import Derived.Test.YtnmijegmbomfdaaGreatDoorRows
import GoSem.ClaimSeven
namespace Go.Proofs.YtnmijegmbomfdaaGreatDoor
namespace Rows

/-- THE TIED CARD OF 'codexlaw7.StoreKeeps'. -/
def storeKeepsCard : Claim7 := { stood := { row := storeKeepsRow, standIns := [], harness := (true, "7b340f3c3216a3faeed59513495d1249dab8bee444205c1273c59e4efdd73020"), looks := true }, kinds := [], alts := [], laidByText := true, laidKinds := [.data, .pinned], laidTests := true, laidLooks := .later }
def StoreKeepsCardSaid : Prop := Claim7.holds Tryz.pinned (.plain (OpenSpec.ofChange storeKeepsSpec)) storeKeepsCard

/-- THE TIED CARD OF 'codexlaw7.StoreCounts'. -/
def storeCountsCard : Claim7 := { stood := { row := storeCountsRow, standIns := [], harness := (true, "7b340f3c3216a3faeed59513495d1249dab8bee444205c1273c59e4efdd73020"), looks := true }, kinds := [], alts := [], laidByText := true, laidKinds := [.data, .pinned], laidTests := true, laidLooks := .later }
def StoreCountsCardSaid : Prop := Claim7.holds Tryz.pinned (.plain (OpenSpec.ofChange storeCountsSpec)) storeCountsCard

/-- THE TIED CARD OF 'codexlaw7.StoreOthers'. -/
def storeOthersCard : Claim7 := { stood := { row := storeOthersRow, standIns := [], harness := (true, "7b340f3c3216a3faeed59513495d1249dab8bee444205c1273c59e4efdd73020"), looks := true }, kinds := [], alts := [], laidByText := true, laidKinds := [.data, .pinned], laidTests := true, laidLooks := .later }
def StoreOthersCardSaid : Prop := Claim7.holds Tryz.pinned (.plain (OpenSpec.ofChange storeOthersSpec)) storeOthersCard

/-- THE TIED CARD OF 'codexlaw7.StoreAgain'. -/
def storeAgainCard : Claim7 := { stood := { row := storeAgainRow, standIns := [], harness := (true, "7b340f3c3216a3faeed59513495d1249dab8bee444205c1273c59e4efdd73020"), looks := true }, kinds := [], alts := [], laidByText := true, laidKinds := [.data, .pinned], laidTests := true, laidLooks := .later }
def StoreAgainCardSaid : Prop := Claim7.holds Tryz.pinned (.plain (OpenSpec.ofChange storeAgainSpec)) storeAgainCard

/-- THE TIED CARD OF 'codexlaw7.StoreStates'. -/
def storeStatesCard : Claim7 := { stood := { row := storeStatesRow, standIns := [], harness := (true, "7b340f3c3216a3faeed59513495d1249dab8bee444205c1273c59e4efdd73020"), looks := true }, kinds := [], alts := [], laidByText := true, laidKinds := [.data, .pinned], laidTests := true, laidLooks := .later }
def StoreStatesCardSaid : Prop := Claim7.holds Tryz.pinned (.plain (OpenSpec.ofChange storeStatesSpec)) storeStatesCard

/-- THE TIED CARD OF 'codexlaw7.StorePlays'. -/
def storePlaysCard : Claim7 := { stood := { row := storePlaysRow, standIns := [], harness := (true, "7b340f3c3216a3faeed59513495d1249dab8bee444205c1273c59e4efdd73020"), looks := true }, kinds := [], alts := [], laidByText := true, laidKinds := [.data, .pinned], laidTests := true, laidLooks := .later }
def StorePlaysCardSaid : Prop := Claim7.holds Tryz.pinned (.plain (OpenSpec.ofChange storePlaysSpec)) storePlaysCard

/-- THE SECOND FORM's CARD OF 'codexlaw7.StoreKeeps'. -/
def storeKeepsUptoCard : Claim7 := { stood := { row := storeKeepsUptoRow, standIns := [], harness := (true, "7b340f3c3216a3faeed59513495d1249dab8bee444205c1273c59e4efdd73020"), looks := true }, kinds := [], alts := [], laidByText := true, laidKinds := [.data, .pinned], laidTests := true, laidLooks := .later }
def StoreKeepsUptoCardSaid : Prop := Claim7.holds Tryz.pinned (.plain (OpenSpec.upto storeKeepsSpec)) storeKeepsUptoCard

/-- THE SECOND FORM's CARD OF 'codexlaw7.StoreCounts'. -/
def storeCountsUptoCard : Claim7 := { stood := { row := storeCountsUptoRow, standIns := [], harness := (true, "7b340f3c3216a3faeed59513495d1249dab8bee444205c1273c59e4efdd73020"), looks := true }, kinds := [], alts := [], laidByText := true, laidKinds := [.data, .pinned], laidTests := true, laidLooks := .later }
def StoreCountsUptoCardSaid : Prop := Claim7.holds Tryz.pinned (.plain (OpenSpec.upto storeCountsSpec)) storeCountsUptoCard

/-- THE SECOND FORM's CARD OF 'codexlaw7.StoreOthers'. -/
def storeOthersUptoCard : Claim7 := { stood := { row := storeOthersUptoRow, standIns := [], harness := (true, "7b340f3c3216a3faeed59513495d1249dab8bee444205c1273c59e4efdd73020"), looks := true }, kinds := [], alts := [], laidByText := true, laidKinds := [.data, .pinned], laidTests := true, laidLooks := .later }
def StoreOthersUptoCardSaid : Prop := Claim7.holds Tryz.pinned (.plain (OpenSpec.upto storeOthersSpec)) storeOthersUptoCard

/-- THE SECOND FORM's CARD OF 'codexlaw7.StoreAgain'. -/
def storeAgainUptoCard : Claim7 := { stood := { row := storeAgainUptoRow, standIns := [], harness := (true, "7b340f3c3216a3faeed59513495d1249dab8bee444205c1273c59e4efdd73020"), looks := true }, kinds := [], alts := [], laidByText := true, laidKinds := [.data, .pinned], laidTests := true, laidLooks := .later }
def StoreAgainUptoCardSaid : Prop := Claim7.holds Tryz.pinned (.plain (OpenSpec.upto storeAgainSpec)) storeAgainUptoCard

/-- THE SECOND FORM's CARD OF 'codexlaw7.StoreStates'. -/
def storeStatesUptoCard : Claim7 := { stood := { row := storeStatesUptoRow, standIns := [], harness := (true, "7b340f3c3216a3faeed59513495d1249dab8bee444205c1273c59e4efdd73020"), looks := true }, kinds := [], alts := [], laidByText := true, laidKinds := [.data, .pinned], laidTests := true, laidLooks := .later }
def StoreStatesUptoCardSaid : Prop := Claim7.holds Tryz.pinned (.plain (OpenSpec.upto storeStatesSpec)) storeStatesUptoCard

/-- THE SECOND FORM's CARD OF 'codexlaw7.StorePlays'. -/
def storePlaysUptoCard : Claim7 := { stood := { row := storePlaysUptoRow, standIns := [], harness := (true, "7b340f3c3216a3faeed59513495d1249dab8bee444205c1273c59e4efdd73020"), looks := true }, kinds := [], alts := [], laidByText := true, laidKinds := [.data, .pinned], laidTests := true, laidLooks := .later }
def StorePlaysUptoCardSaid : Prop := Claim7.holds Tryz.pinned (.plain (OpenSpec.upto storePlaysSpec)) storePlaysUptoCard
end Rows
end Go.Proofs.YtnmijegmbomfdaaGreatDoor
