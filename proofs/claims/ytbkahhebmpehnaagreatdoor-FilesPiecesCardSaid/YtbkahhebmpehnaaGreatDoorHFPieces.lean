/- The statement 'FilesPiecesCardSaid': for every input codex/codexlaw9.FilesPieces returns true, and each argument reads behind the call as it read before; what the listed variables hold is tied to the program's text. No condition of ours: every reading of the arguments' types. -/
import Derived.Test.YtbkahhebmpehnaaGreatDoorHGPieces
set_option linter.unusedSimpArgs false
set_option linter.unusedVariables false
set_option linter.unnecessarySimpa false
set_option linter.unusedVariables false
namespace Go.Proofs.YtbkahhebmpehnaaGreatDoor.filesPieces
open Go
theorem facts1 : Rows.filesPiecesRow.wfByText (OpenSpec.ofChange Rows.filesPiecesSpec) = true := by kernel_rfl
theorem facts2 : Tryz.pinned.checked.prog.mainIs = some (Rows.filesPiecesCard.stood.harness.1, Rows.filesPiecesCard.stood.harness.2.toList) := by kernel_rfl
theorem facts3 : true = Tryz.pinned.checked.prog.looks [] := by kernel_rfl
theorem facts4 : ([22, 51, 5].all fun u => !Tryz.prog.wantsStandIn u) = true := by kernel_rfl
theorem facts5 : false = Rows.filesPiecesRow.goesBy Tryz.pinned.checked.prog := by kernel_rfl
theorem facts6 : Tryz.pinned.checked.prog.funcNamed Rows.filesPiecesRow.func = some 4 := by kernel_rfl
theorem facts7 (f : FuncId) (fn : Func) (hf : Tryz.pinned.checked.prog.funcNamed Rows.filesPiecesRow.func = some f) (hfn : Tryz.pinned.checked.prog.funcs[f]? = some fn) :
    true = Tryz.pinned.checked.prog.looks [] ∧ ∀ (j : Nat) t, fn.params[j]? = some t → Tryz.pinned.checked.prog.wantsStandIn t = false := by
  obtain rfl : f = 4 := (Option.some.inj (facts6.symm.trans hf)).symm
  obtain rfl : fn = Tryz.f4 := (Option.some.inj (Tryz.func4.symm.trans hfn)).symm
  exact ⟨facts3, fun j t ht => by
    rw [Tryz.params4] at ht
    have hm : t ∈ [22, 51, 5] := by simpa using Array.mem_of_getElem? ht
    exact (show Tryz.prog.wantsStandIn t = false by simpa using List.all_eq_true.1 facts4 t hm)⟩
end Go.Proofs.YtbkahhebmpehnaaGreatDoor.filesPieces
namespace Go.Proofs.YtbkahhebmpehnaaGreatDoor
open Go
/-- the statement -/
theorem filesPieces_card : Rows.FilesPiecesCardSaid :=
  Claim7.holds_tied_plain_at .later [] [.data, .pinned] true Rows.filesPiecesCard.stood.harness true filesPieces.over (fun _ h => by cases h) filesPieces.facts1 (fun _ h => by cases h) filesPieces_row_tie rfl ⟨rfl, rfl⟩ filesPieces.facts2 rfl
    filesPieces.facts7 filesPieces.facts5
#print axioms filesPieces_card
end Go.Proofs.YtbkahhebmpehnaaGreatDoor
