/-
  DERIVED. GIVEN WITH THE SEED: THE CARDS: each row of YteddhajdandopaaGreatDoorRows.lean that lists a variable, with what it lists TIED to the program's text (the seventh form; the later family's looks); each row that meets fmt, with fmt's text TOLD by the authors' own Lean function (tested against real Go, not proved from fmt's source: count such statements apart). THE CARD IS WHAT COUNTS. Prove the row's statement (the work); the ties are given (YteddhajdandopaaGreatDoorTie.lean); close each card by the builder's one call (the guide's Derived/Test/ToyasCard.lean, 'card_holds'). Laid BY PROGRAM, IN A SANDBOX (cutbox-door.mjs). By AI agents, Wed Nov 11 2026. No macro, syntax, notation, axiom, sorry.
-/
import Derived.Test.YteddhajdandopaaGreatDoorRows
import GoSem.ClaimSeven
namespace Go.Proofs.YteddhajdandopaaGreatDoor
namespace Rows

/-- THE TIED CARD OF 'codexlaw18.ScoreSearches'. -/
def scoreSearchesCard : Claim7 := { stood := { row := scoreSearchesRow, standIns := [], harness := (true, "72f665c6d56f420c2c55183578ff47964137b08b5bd94a19dbf0511ae8b8d8bd"), looks := false }, kinds := [], alts := [], laidByText := true, laidKinds := [.data, .data, .pinned], laidTests := true, laidLooks := .later }
def ScoreSearchesCardSaid : Prop := Claim7.holds Tryz.pinned (.plain (OpenSpec.ofChange scoreSearchesSpec)) scoreSearchesCard

/-- THE TIED CARD OF 'codexlaw18.ScoreAdds'. -/
def scoreAddsCard : Claim7 := { stood := { row := scoreAddsRow, standIns := [], harness := (true, "72f665c6d56f420c2c55183578ff47964137b08b5bd94a19dbf0511ae8b8d8bd"), looks := false }, kinds := [], alts := [], laidByText := true, laidKinds := [.data, .data, .pinned], laidTests := true, laidLooks := .later }
def ScoreAddsCardSaid : Prop := Claim7.holds Tryz.pinned (.plain (OpenSpec.ofChange scoreAddsSpec)) scoreAddsCard

/-- THE TIED CARD OF 'codexlaw18.ScoreLeaves'. -/
def scoreLeavesCard : Claim7 := { stood := { row := scoreLeavesRow, standIns := [], harness := (true, "72f665c6d56f420c2c55183578ff47964137b08b5bd94a19dbf0511ae8b8d8bd"), looks := false }, kinds := [], alts := [], laidByText := true, laidKinds := [.data, .data, .pinned], laidTests := true, laidLooks := .later }
def ScoreLeavesCardSaid : Prop := Claim7.holds Tryz.pinned (.plain (OpenSpec.ofChange scoreLeavesSpec)) scoreLeavesCard

/-- THE TIED CARD OF 'codexlaw18.ScoreWords'. -/
def scoreWordsCard : Claim7 := { stood := { row := scoreWordsRow, standIns := [], harness := (true, "72f665c6d56f420c2c55183578ff47964137b08b5bd94a19dbf0511ae8b8d8bd"), looks := false }, kinds := [], alts := [], laidByText := true, laidKinds := [.data, .data, .pinned], laidTests := true, laidLooks := .later }
def ScoreWordsCardSaid : Prop := Claim7.holds Tryz.pinned (.plain (OpenSpec.ofChange scoreWordsSpec)) scoreWordsCard

/-- THE TIED CARD OF 'codexlaw18.ScoreSpreads'. -/
def scoreSpreadsCard : Claim7 := { stood := { row := scoreSpreadsRow, standIns := [], harness := (true, "72f665c6d56f420c2c55183578ff47964137b08b5bd94a19dbf0511ae8b8d8bd"), looks := false }, kinds := [], alts := [], laidByText := true, laidKinds := [.data, .data, .pinned], laidTests := true, laidLooks := .later }
def ScoreSpreadsCardSaid : Prop := Claim7.holds Tryz.pinned (.plain (OpenSpec.ofChange scoreSpreadsSpec)) scoreSpreadsCard

/-- THE TIED CARD OF 'codexlaw18.ScoreFinds'. -/
def scoreFindsCard : Claim7 := { stood := { row := scoreFindsRow, standIns := [], harness := (true, "72f665c6d56f420c2c55183578ff47964137b08b5bd94a19dbf0511ae8b8d8bd"), looks := false }, kinds := [], alts := [], laidByText := true, laidKinds := [.data, .data, .pinned], laidTests := true, laidLooks := .later }
def ScoreFindsCardSaid : Prop := Claim7.holds Tryz.pinned (.plain (OpenSpec.ofChange scoreFindsSpec)) scoreFindsCard

/-- THE SECOND FORM's CARD OF 'codexlaw18.ScoreSearches'. -/
def scoreSearchesUptoCard : Claim7 := { stood := { row := scoreSearchesUptoRow, standIns := [], harness := (true, "72f665c6d56f420c2c55183578ff47964137b08b5bd94a19dbf0511ae8b8d8bd"), looks := false }, kinds := [], alts := [], laidByText := true, laidKinds := [.data, .data, .pinned], laidTests := true, laidLooks := .later }
def ScoreSearchesUptoCardSaid : Prop := Claim7.holds Tryz.pinned (.plain (OpenSpec.upto scoreSearchesSpec)) scoreSearchesUptoCard

/-- THE SECOND FORM's CARD OF 'codexlaw18.ScoreAdds'. -/
def scoreAddsUptoCard : Claim7 := { stood := { row := scoreAddsUptoRow, standIns := [], harness := (true, "72f665c6d56f420c2c55183578ff47964137b08b5bd94a19dbf0511ae8b8d8bd"), looks := false }, kinds := [], alts := [], laidByText := true, laidKinds := [.data, .data, .pinned], laidTests := true, laidLooks := .later }
def ScoreAddsUptoCardSaid : Prop := Claim7.holds Tryz.pinned (.plain (OpenSpec.upto scoreAddsSpec)) scoreAddsUptoCard

/-- THE SECOND FORM's CARD OF 'codexlaw18.ScoreLeaves'. -/
def scoreLeavesUptoCard : Claim7 := { stood := { row := scoreLeavesUptoRow, standIns := [], harness := (true, "72f665c6d56f420c2c55183578ff47964137b08b5bd94a19dbf0511ae8b8d8bd"), looks := false }, kinds := [], alts := [], laidByText := true, laidKinds := [.data, .data, .pinned], laidTests := true, laidLooks := .later }
def ScoreLeavesUptoCardSaid : Prop := Claim7.holds Tryz.pinned (.plain (OpenSpec.upto scoreLeavesSpec)) scoreLeavesUptoCard

/-- THE SECOND FORM's CARD OF 'codexlaw18.ScoreWords'. -/
def scoreWordsUptoCard : Claim7 := { stood := { row := scoreWordsUptoRow, standIns := [], harness := (true, "72f665c6d56f420c2c55183578ff47964137b08b5bd94a19dbf0511ae8b8d8bd"), looks := false }, kinds := [], alts := [], laidByText := true, laidKinds := [.data, .data, .pinned], laidTests := true, laidLooks := .later }
def ScoreWordsUptoCardSaid : Prop := Claim7.holds Tryz.pinned (.plain (OpenSpec.upto scoreWordsSpec)) scoreWordsUptoCard

/-- THE SECOND FORM's CARD OF 'codexlaw18.ScoreSpreads'. -/
def scoreSpreadsUptoCard : Claim7 := { stood := { row := scoreSpreadsUptoRow, standIns := [], harness := (true, "72f665c6d56f420c2c55183578ff47964137b08b5bd94a19dbf0511ae8b8d8bd"), looks := false }, kinds := [], alts := [], laidByText := true, laidKinds := [.data, .data, .pinned], laidTests := true, laidLooks := .later }
def ScoreSpreadsUptoCardSaid : Prop := Claim7.holds Tryz.pinned (.plain (OpenSpec.upto scoreSpreadsSpec)) scoreSpreadsUptoCard

/-- THE SECOND FORM's CARD OF 'codexlaw18.ScoreFinds'. -/
def scoreFindsUptoCard : Claim7 := { stood := { row := scoreFindsUptoRow, standIns := [], harness := (true, "72f665c6d56f420c2c55183578ff47964137b08b5bd94a19dbf0511ae8b8d8bd"), looks := false }, kinds := [], alts := [], laidByText := true, laidKinds := [.data, .data, .pinned], laidTests := true, laidLooks := .later }
def ScoreFindsUptoCardSaid : Prop := Claim7.holds Tryz.pinned (.plain (OpenSpec.upto scoreFindsSpec)) scoreFindsUptoCard
end Rows
end Go.Proofs.YteddhajdandopaaGreatDoor
