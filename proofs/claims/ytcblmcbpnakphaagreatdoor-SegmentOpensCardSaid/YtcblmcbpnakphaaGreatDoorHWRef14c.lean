/- codexref14: Terms: walked. -/
import Derived.Test.YtcblmcbpnakphaaGreatDoorHWRef11d
import Derived.Test.YtcblmcbpnakphaaGreatDoorHWRef14b
set_option linter.unusedSimpArgs false
set_option linter.unusedVariables false
set_option linter.unnecessarySimpa false
namespace Go.Proofs.YtcblmcbpnakphaaGreatDoor
open Go.RowKit
set_option linter.unusedVariables false

set_option maxRecDepth 100000 in
set_option maxHeartbeats 4000000 in
theorem RTerms14_any (v : Value) (l : List DocL) (w : World) (hv : Docs w v l) (hn : l.length ≤ 1000) (hl : ∀ d ∈ l, d.2.length ≤ 2100) :
    Calls Tryz.prog 32 #[v] w fun e w' => ∃ v', e = .returned v' ∧ w'.ownsRow w.heap.size 9 1 v' (termsL l).length (strVs (termsL l)) ∧ Q w w' := by
  obtain ⟨a, cap, rfl, hcell⟩ := hv.value
  have hal := allL_len l hl
  have HC := Lib.hid hcell; have HL := Lib.hid hl
  clear hcell hv hl
  go_enter Tryz.func32, Tryz.ntmps32
  go_wp2_with fail
  go_loopw [3, 4] (fun sv i wr => ∃ (k : Nat) (s : Bytes), k ≤ l.length ∧ i = .int .i64 (k : Nat) ∧ sv = strV s ∧ s.length ≤ 2101 * k ∧ Hid (s = allL (l.take k)) ∧ Hid (Q w wr)) (fun _ i _ => l.length - (intOf i).toNat)
  case atStart => exact ⟨0, [], by omega, rfl, rfl, by simp, rfl, Q.refl _⟩
  case round =>
    obtain ⟨k, s, hk, rfl, rfl, hsl, HS, HQ⟩ := hrel
    obtain ⟨wo, rfl⟩ : ∃ wo : World, wo = wr := ⟨_, rfl⟩
    by_cases hlt : k < l.length
    · obtain ⟨b, of, rfl, hcc⟩ := HC.out (by omega)
      have c1 := cell_stays HQ.out (hcc k hlt).2
      have hki : (k : Int) < (l.length : Int) := by omega
      have hk0 : (0 : Int) ≤ (k : Int) := by omega
      have hst := allL_take l k hlt
      rw [← HS.out] at hst
      have hxl := HL.out _ (List.getElem_mem hlt)
      clear hcc
      generalize l[k].2 = x at *
      have HST := Lib.hid hst
      have hsum : s.length + x.length ≤ 9223372036854775807 := by omega
      have hsum2 : s.length + x.length + 1 ≤ 9223372036854775807 := by omega
      clear hst
      go_wp2_with fail
      go_roundw
      case rel => exact ⟨k + 1, s ++ (x ++ [32]), by omega, by go_num, str_cat (a := s ++ x) (b := [32]) (by rw [bytes_append]; exact bytes_append _ _) (by simp), by simp; omega, HST.out.symm, HQ⟩
      case measure => simp [intOf]; omega
    · have hke : k = l.length := by omega
      subst hke
      have hs := HS.out
      rw [List.take_length] at hs
      have ct := RTerms_any s wo (by omega)
      rw [hs, termsT_all, ← hs] at ct
      have CT := Lib.hid ct
      clear ct hs
      go_wp2_with fail
      refine CT.out.mono ?_
      rintro e w1 ⟨v1, rfl, ho1, q1⟩
      have HO1 := Lib.hid (owns_low ho1 HQ.out.size); have HQ1 := Lib.hid (HQ.out.trans q1)
      clear ho1 q1
      go_wp2_with fail
      go_ret
      exact ⟨_, rfl, HO1.out, HQ1.out⟩
end Go.Proofs.YtcblmcbpnakphaaGreatDoor
