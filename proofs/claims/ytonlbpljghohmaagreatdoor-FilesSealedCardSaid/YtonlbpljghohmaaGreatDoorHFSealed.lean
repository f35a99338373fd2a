/- The statement 'FilesSealedCardSaid': for every input codex/codexlaw9.FilesSealed returns true, and each argument reads behind the call as before. No condition. -/
import Derived.Test.YtonlbpljghohmaaGreatDoorHGSealed
set_option linter.unusedVariables false
namespace Go.Proofs.YtonlbpljghohmaaGreatDoor.filesSealed
open Go
theorem facts1 : Rows.filesSealedRow.wfByText (OpenSpec.ofChange Rows.filesSealedSpec) = true := by kernel_rfl
theorem facts2 : Tryz.pinned.checked.prog.mainIs = some (Rows.filesSealedCard.stood.harness.1, Rows.filesSealedCard.stood.harness.2.toList) := by kernel_rfl
theorem facts3 : true = Tryz.pinned.checked.prog.looks [] := by kernel_rfl
theorem facts4 : ([22, 3].all fun u => !Tryz.prog.wantsStandIn u) = true := by kernel_rfl
theorem facts5 : false = Rows.filesSealedRow.goesBy Tryz.pinned.checked.prog := by kernel_rfl
theorem facts6 : Tryz.pinned.checked.prog.funcNamed Rows.filesSealedRow.func = some 3 := by kernel_rfl
theorem facts7 (f : FuncId) (fn : Func) (hf : Tryz.pinned.checked.prog.funcNamed Rows.filesSealedRow.func = some f) (hfn : Tryz.pinned.checked.prog.funcs[f]? = some fn) :
    true = Tryz.pinned.checked.prog.looks [] ∧ ∀ (j : Nat) t, fn.params[j]? = some t → Tryz.pinned.checked.prog.wantsStandIn t = false := by
  obtain rfl : f = 3 := (Option.some.inj (facts6.symm.trans hf)).symm
  obtain rfl : fn = Tryz.f3 := (Option.some.inj (Tryz.func3.symm.trans hfn)).symm
  exact ⟨facts3, fun j t ht => by
    rw [Tryz.params3] at ht
    have hm : t ∈ [22, 3] := by simpa using Array.mem_of_getElem? ht
    exact (show Tryz.prog.wantsStandIn t = false by simpa using List.all_eq_true.1 facts4 t hm)⟩
end Go.Proofs.YtonlbpljghohmaaGreatDoor.filesSealed
namespace Go.Proofs.YtonlbpljghohmaaGreatDoor
open Go
/-- the statement -/
theorem filesSealed_card : Rows.FilesSealedCardSaid :=
  Claim7.holds_tied_plain_at .later [] [.data, .pinned] true Rows.filesSealedCard.stood.harness true filesSealed.over (fun _ h => by cases h) filesSealed.facts1 (fun _ h => by cases h) filesSealed_row_tie rfl ⟨rfl, rfl⟩ filesSealed.facts2 rfl
    filesSealed.facts7 filesSealed.facts5
#print axioms filesSealed_card
end Go.Proofs.YtonlbpljghohmaaGreatDoor
