/- The statement 'FilesMoveCardSaid': for every input codex/codexlaw9.FilesMove returns true, and each argument reads behind the call as it read before; what the listed variables hold is tied to the program's text. No condition of ours: every reading of the arguments' types. -/
import Derived.Test.YtbkahhebmpehnaaGreatDoorHGMove
set_option linter.unusedSimpArgs false
set_option linter.unusedVariables false
set_option linter.unnecessarySimpa false
set_option linter.unusedVariables false
namespace Go.Proofs.YtbkahhebmpehnaaGreatDoor.filesMove
open Go
theorem facts1 : Rows.filesMoveRow.wfByText (OpenSpec.ofChange Rows.filesMoveSpec) = true := by kernel_rfl
theorem facts2 : Tryz.pinned.checked.prog.mainIs = some (Rows.filesMoveCard.stood.harness.1, Rows.filesMoveCard.stood.harness.2.toList) := by kernel_rfl
theorem facts3 : true = Tryz.pinned.checked.prog.looks [] := by kernel_rfl
theorem facts4 : ([22, 9, 9].all fun u => !Tryz.prog.wantsStandIn u) = true := by kernel_rfl
theorem facts5 : false = Rows.filesMoveRow.goesBy Tryz.pinned.checked.prog := by kernel_rfl
theorem facts6 : Tryz.pinned.checked.prog.funcNamed Rows.filesMoveRow.func = some 5 := by kernel_rfl
theorem facts7 (f : FuncId) (fn : Func) (hf : Tryz.pinned.checked.prog.funcNamed Rows.filesMoveRow.func = some f) (hfn : Tryz.pinned.checked.prog.funcs[f]? = some fn) :
    true = Tryz.pinned.checked.prog.looks [] ∧ ∀ (j : Nat) t, fn.params[j]? = some t → Tryz.pinned.checked.prog.wantsStandIn t = false := by
  obtain rfl : f = 5 := (Option.some.inj (facts6.symm.trans hf)).symm
  obtain rfl : fn = Tryz.f5 := (Option.some.inj (Tryz.func5.symm.trans hfn)).symm
  exact ⟨facts3, fun j t ht => by
    rw [Tryz.params5] at ht
    have hm : t ∈ [22, 9, 9] := by simpa using Array.mem_of_getElem? ht
    exact (show Tryz.prog.wantsStandIn t = false by simpa using List.all_eq_true.1 facts4 t hm)⟩
end Go.Proofs.YtbkahhebmpehnaaGreatDoor.filesMove
namespace Go.Proofs.YtbkahhebmpehnaaGreatDoor
open Go
/-- the statement -/
theorem filesMove_card : Rows.FilesMoveCardSaid :=
  Claim7.holds_tied_plain_at .later [] [.data, .pinned] true Rows.filesMoveCard.stood.harness true filesMove.over (fun _ h => by cases h) filesMove.facts1 (fun _ h => by cases h) filesMove_row_tie rfl ⟨rfl, rfl⟩ filesMove.facts2 rfl
    filesMove.facts7 filesMove.facts5
#print axioms filesMove_card
end Go.Proofs.YtbkahhebmpehnaaGreatDoor
