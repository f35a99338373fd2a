/- codexlaw14.find: walked (where no ID stands twice). -/
import Derived.Test.YtcblmcbpnakphaaGreatDoorHWRef14c
set_option linter.unusedSimpArgs false
set_option linter.unusedVariables false
set_option linter.unnecessarySimpa false
namespace Go.Proofs.YtcblmcbpnakphaaGreatDoor
open Go.RowKit
set_option linter.unusedVariables false

set_option maxRecDepth 100000 in
set_option maxHeartbeats 4000000 in
theorem find14_any (v : Value) (l : List DocL) (id : Bytes) (w : World) (hv : Docs w v l) (hn : l.length ≤ 1000000000) (hnd : (l.map (·.1)).Nodup) :
    Calls Tryz.prog 35 #[v, strV id] w fun e w' => e = .returned (.tuple #[.int .i64 (((findL l id).getD 0 : Nat) : Int), .bool (findL l id).isSome]) ∧ Q w w' := by
  obtain ⟨a, cap, rfl, hcell⟩ := hv.value
  have HC := Lib.hid hcell; have HN := Lib.hid hnd
  clear hcell hv hnd
  go_enter Tryz.func35, Tryz.ntmps35
  go_wp2_with fail
  go_loopw [6] (fun i wr => ∃ k : Nat, k ≤ l.length ∧ i = .int .i64 (k : Nat) ∧ Hid (∀ d ∈ l.take k, d.1 ≠ id) ∧ Hid (Q w wr)) (fun i _ => l.length - (intOf i).toNat)
  case atStart => exact ⟨0, by omega, rfl, fun d hd => by simp at hd, Q.refl _⟩
  case round =>
    obtain ⟨k, hk, rfl, HNO, HQ⟩ := hrel
    obtain ⟨wo, rfl⟩ : ∃ wo : World, wo = wr := ⟨_, rfl⟩
    by_cases hlt : k < l.length
    · obtain ⟨b, of, rfl, hcc⟩ := HC.out (by omega)
      have c0 := cell_stays HQ.out (hcc k hlt).1
      have hki : (k : Int) < (l.length : Int) := by omega
      have hk0 : (0 : Int) ≤ (k : Int) := by omega
      have hof := findL_of l HN.out k l[k] (List.getElem?_eq_getElem hlt)
      have hno : l[k].1 ≠ id → ∀ d ∈ l.take (k + 1), d.1 ≠ id := fun hne d hd => by
        rw [List.take_succ_eq_append_getElem hlt] at hd
        rcases List.mem_append.1 hd with hd | hd
        · exact HNO.out d hd
        · rw [List.mem_singleton] at hd; subst hd; exact hne
      clear hcc
      generalize l[k] = x at *
      obtain ⟨u, tx⟩ := x
      simp only at c0 hof hno
      have HOF := Lib.hid hof; have HNN := Lib.hid hno
      clear hof hno
      by_cases he : u = id
      · subst he
        go_wp2_with fail
        go_ret2
        exact ⟨by rw [HOF.out]; rfl, HQ.out⟩
      · have heb1 : (u == id) = false := by simpa using he
        have heb2 : @BEq.beq (List UInt8) instBEqOfDecidableEq u id = false := by simpa using he
        have heb3 : @BEq.beq (List UInt8) List.instBEq u id = false := by simpa using he
        have HE := Lib.hid he
        clear he
        go_wp2_with fail
        go_roundw
        case rel => exact ⟨k + 1, by omega, by go_num, HNN.out HE.out, HQ⟩
        case measure => simp [intOf]; omega
    · have hke : k = l.length := by omega
      subst hke
      have hnone : findL l id = none := by
        cases hf : findL l id with
        | none => rfl
        | some j =>
          obtain ⟨d, hd, hde⟩ := findL_some l id j hf
          have hno := HNO.out
          rw [List.take_length] at hno
          exact absurd hde (hno d (List.mem_of_getElem? hd))
      have HNONE := Lib.hid hnone
      clear hnone
      go_wp2_with fail
      go_ret2
      exact ⟨by rw [HNONE.out]; rfl, HQ.out⟩
end Go.Proofs.YtcblmcbpnakphaaGreatDoor
