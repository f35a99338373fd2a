/- The statement 'FilesReadCardSaid': for every input codex/codexlaw9.FilesRead returns true, and each argument reads behind the call as it read before; what the listed variables hold is tied to the program's text. No condition of ours: every reading of the arguments' types. -/
import Derived.Test.YtbkahhebmpehnaaGreatDoorHGRead
set_option linter.unusedSimpArgs false
set_option linter.unusedVariables false
set_option linter.unnecessarySimpa false
set_option linter.unusedVariables false
namespace Go.Proofs.YtbkahhebmpehnaaGreatDoor.filesRead
open Go
theorem facts1 : Rows.filesReadRow.wfByText (OpenSpec.ofChange Rows.filesReadSpec) = true := by kernel_rfl
theorem facts2 : Tryz.pinned.checked.prog.mainIs = some (Rows.filesReadCard.stood.harness.1, Rows.filesReadCard.stood.harness.2.toList) := by kernel_rfl
theorem facts3 : true = Tryz.pinned.checked.prog.looks [] := by kernel_rfl
theorem facts4 : ([22, 3, 3].all fun u => !Tryz.prog.wantsStandIn u) = true := by kernel_rfl
theorem facts5 : false = Rows.filesReadRow.goesBy Tryz.pinned.checked.prog := by kernel_rfl
theorem facts6 : Tryz.pinned.checked.prog.funcNamed Rows.filesReadRow.func = some 3 := by kernel_rfl
theorem facts7 (f : FuncId) (fn : Func) (hf : Tryz.pinned.checked.prog.funcNamed Rows.filesReadRow.func = some f) (hfn : Tryz.pinned.checked.prog.funcs[f]? = some fn) :
    true = Tryz.pinned.checked.prog.looks [] ∧ ∀ (j : Nat) t, fn.params[j]? = some t → Tryz.pinned.checked.prog.wantsStandIn t = false := by
  obtain rfl : f = 3 := (Option.some.inj (facts6.symm.trans hf)).symm
  obtain rfl : fn = Tryz.f3 := (Option.some.inj (Tryz.func3.symm.trans hfn)).symm
  exact ⟨facts3, fun j t ht => by
    rw [Tryz.params3] at ht
    have hm : t ∈ [22, 3, 3] := by simpa using Array.mem_of_getElem? ht
    exact (show Tryz.prog.wantsStandIn t = false by simpa using List.all_eq_true.1 facts4 t hm)⟩
end Go.Proofs.YtbkahhebmpehnaaGreatDoor.filesRead
namespace Go.Proofs.YtbkahhebmpehnaaGreatDoor
open Go
/-- the statement -/
theorem filesRead_card : Rows.FilesReadCardSaid :=
  Claim7.holds_tied_plain_at .later [] [.data, .pinned] true Rows.filesReadCard.stood.harness true filesRead.over (fun _ h => by cases h) filesRead.facts1 (fun _ h => by cases h) filesRead_row_tie rfl ⟨rfl, rfl⟩ filesRead.facts2 rfl
    filesRead.facts7 filesRead.facts5
#print axioms filesRead_card
end Go.Proofs.YtbkahhebmpehnaaGreatDoor
