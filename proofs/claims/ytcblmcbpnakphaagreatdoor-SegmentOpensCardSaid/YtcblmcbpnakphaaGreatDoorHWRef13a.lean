/- codexref13: number, alike, Right: walked (where entries are right). -/
import Derived.Test.YtcblmcbpnakphaaGreatDoorMTermsJToWRef12a
import Derived.Test.YtcblmcbpnakphaaGreatDoorMTokToWDictR
import Derived.Test.YtcblmcbpnakphaaGreatDoorMWDictPToWRead
import Derived.BigQuiet
import Derived.Deep.RegionHeld3
set_option linter.unusedSimpArgs false
set_option linter.unusedVariables false
set_option linter.unnecessarySimpa false
namespace Go.Proofs.YtcblmcbpnakphaaGreatDoor
open Go.RowKit
set_option linter.unusedVariables false

theorem RDNum_int (x : Int) (n : Nat) (hx : x = (n : Int)) (hn : n < 9223372036854775808) (w : World) :
    Calls Tryz.prog 140 #[.int .i64 x] w fun e w' => e = .returned (strV (varE n)) ∧ Q w w' := by
  subst hx
  have c := fun W => RVar_any n W (by omega)
  have C := Lib.hid c
  have hw : IntKind.u64.wrap (n : Int) = n := IntWalk.u64_in _ (by omega)
  clear c
  go_enter Tryz.func140, Tryz.ntmps140
  go_wp2_with fail
  refine (C.out _).mono ?_
  rintro e w1 ⟨rfl, q1⟩
  have HQ1 := Lib.hid q1
  clear q1 C
  go_wp2_with fail
  go_ret
  exact ⟨rfl, HQ1.out⟩
set_option maxHeartbeats 1000000 in
theorem RDAlike_any (a b : Bytes) (w : World) (ha : a.length ≤ 9223372036854775807) (hb : b.length ≤ 9223372036854775807) :
    Calls Tryz.prog 164 #[.string ⟨a.toArray⟩, .string ⟨b.toArray⟩] w fun e w' => e = .returned (.int .i64 (alikeN a b)) ∧ Q w w' := by
  go_enter Tryz.func164, Tryz.ntmps164
  go_wp2_with fail
  go_loopw [5] (fun i wr => ∃ k : Nat, i = .int .i64 k ∧ k ≤ a.length ∧ k ≤ b.length ∧ Hid (alikeN a b = k + alikeN (a.drop k) (b.drop k)) ∧ Hid (Q w wr)) (fun i _ => a.length - (intOf i).toNat)
  case atStart => exact ⟨0, rfl, by omega, by omega, by show _ = _; simp, Q.refl w⟩
  case round =>
    obtain ⟨k, rfl, hka, hkb, HA, HQ⟩ := hrel
    by_cases hlt : k < a.length ∧ k < b.length
    · obtain ⟨h1, h2⟩ := hlt
      have hs := alike_step a b k h1 h2
      have he := byte_eq a b k h1 h2
      have HS := Lib.hid hs; clear hs
      by_cases hab : a[k] = b[k]
      · rw [decide_eq_true hab] at he
        have HAB := Lib.hid hab; clear hab
        by_cases hba : b.length < a.length
        all_goals
          go_wp2_with fail
          go_quiet (fail)
          go_wp2_with fail
          go_roundw
          case rel => exact ⟨k + 1, by go_num, by omega, by omega, by show _ = _; rw [HA.out, HS.out, if_pos HAB.out]; omega, HQ.out.trans (Q.drewN _ _)⟩
          case measure => simp [intOf]; omega
      · rw [decide_eq_false hab] at he
        have HAB := Lib.hid hab; clear hab
        by_cases hba : b.length < a.length
        all_goals
          go_wp2_with fail
          go_quiet (fail)
          go_wp2_with fail
          go_ret
          exact ⟨ret_int (by rw [HA.out, HS.out, if_neg HAB.out]; omega), HQ.out.trans (Q.drewN _ _)⟩
    · have hs := alike_stop a b k hlt
      have HS := Lib.hid hs; clear hs
      by_cases hba : k < a.length
      · have hk : decide (k < b.length) = false := decide_eq_false (by omega)
        clear hlt
        go_wp2_with fail
        go_quiet (fail)
        go_wp2_with fail
        go_ret
        exact ⟨ret_int (by rw [HA.out, HS.out]; omega), HQ.out.trans (Q.drewN _ _)⟩
      · have hk : decide (k < a.length) = false := decide_eq_false (by omega)
        clear hlt
        go_wp2_with fail
        go_quiet (fail)
        go_wp2_with fail
        go_ret
        exact ⟨ret_int (by rw [HA.out, HS.out]; omega), HQ.out.trans (Q.drewN _ _)⟩
/-- right entries, one by one -/
theorem entriesAt (last : Bytes) (l : List EntryL) (h : entriesRight last l = true) (k : Nat) (hk : k < l.length) : lessL (if k = 0 then last else (l.getD (k - 1) ([], [])).1) l[k].1 = true ∧ l[k].1.length ≤ 40 ∧ l[k].2.length ≤ 4194304 := by
  induction l generalizing last k with
  | nil => simp at hk
  | cons x l ih =>
    simp only [entriesRight, Bool.and_eq_true, decide_eq_true_eq] at h
    obtain ⟨⟨⟨h1, h2⟩, h3⟩, h4⟩ := h
    cases k with
    | zero => exact ⟨by simpa using h1, by simpa using h2, by simpa using h3⟩
    | succ k =>
      have := ih x.1 h4 k (by simpa using hk)
      cases k with
      | zero => simpa using this
      | succ k => simpa using this
theorem lessL_pos (a b : Bytes) (h : lessL a b = true) : 1 ≤ b.length := by
  cases b with
  | nil => cases a <;> simp [lessL] at h
  | cons x b => simp
set_option maxRecDepth 100000 in
set_option maxHeartbeats 4000000 in
theorem RDRight_ok (v : Value) (l : List EntryL) (w : World) (hv : Pairs w v l) (hn : l.length ≤ 1048576) (hr : entriesRight [] l = true) :
    Calls Tryz.prog 100 #[v] w fun e w' => e = .returned (.bool true) ∧ Q w w' := by
  obtain ⟨a, cap, rfl, hcell⟩ := hv.value
  have HC := Lib.hid hcell; have HR := Lib.hid hr
  clear hcell hv hr
  go_enter Tryz.func100, Tryz.ntmps100
  go_wp2_with fail
  go_loopw [3, 4] (fun i _ wr => ∃ k : Nat, k ≤ l.length ∧ i = .int .i64 (k : Nat) ∧ Hid (Q w wr)) (fun i _ _ => l.length - (intOf i).toNat)
  case atStart => exact ⟨0, by omega, rfl, Q.refl _⟩
  case round =>
    obtain ⟨k, hk, rfl, HQ⟩ := hrel
    obtain ⟨wo, rfl⟩ : ∃ wo : World, wo = wr := ⟨_, rfl⟩
    by_cases hlt : k < l.length
    · obtain ⟨bb, o, rfl, hc⟩ := HC.out (by omega)
      have c0 := cell_stays HQ.out (hc k hlt).1
      have c1 := cell_stays HQ.out (hc k hlt).2
      obtain ⟨r1, r2, r3⟩ := entriesAt _ _ HR.out k hlt
      have r4 := lessL_pos _ _ r1
      have hki : (k : Int) < (l.length : Int) := by omega
      have hk0 : (0 : Int) ≤ (k : Int) := by omega
      by_cases hz : k = 0
      · have hz2 : ¬ 0 < k := by omega
        have hz3 : ¬ (0 : Int) < (k : Int) := by omega
        have hz4 : decide (0 < k) = false := by simp; omega
        clear hc hz r1
        generalize l[k] = x at *
        obtain ⟨t, u⟩ := x
        simp only at c0 c1 r2 r3 r4
        have h1 : decide ((t.length : Int) < 1) = false := decide_eq_false (by omega)
        have h2 : decide ((40 : Int) < (t.length : Int)) = false := decide_eq_false (by omega)
        have h3 : decide ((4194304 : Int) < (u.length : Int)) = false := decide_eq_false (by omega)
        have h5 : decide (t.length < 1) = false := decide_eq_false (by omega)
        have h6 : decide (40 < t.length) = false := decide_eq_false (by omega)
        have h7 : decide (4194304 < u.length) = false := decide_eq_false (by omega)
        go_wp2_with fail
        go_quiet (fail)
        go_wp2_with fail
        go_roundw
        case rel => exact ⟨k + 1, by omega, by go_num, HQ.out.trans (Q.drewN _ _)⟩
        case measure => simp [intOf]; omega
      · have d0 := cell_stays HQ.out (hc (k - 1) (by omega)).1
        rw [if_neg hz] at r1
        have e1 : (l.getD (k - 1) ([], [])).1 = l[k - 1].1 := by rw [List.getD_eq_getElem?_getD, List.getElem?_eq_getElem (by omega)]; rfl
        rw [e1] at r1
        have hk1 : (0 : Int) < (k : Int) := by omega
        have hk2 : 0 < k := by omega
        have hk3 : decide (0 < k) = true := by simp; omega
        have hkk : (k : Int) - 1 = ((k - 1 : Nat) : Int) := by omega
        have hkl : ((k - 1 : Nat) : Int) < (l.length : Int) := by omega
        clear hc e1 hz
        generalize l[k - 1] = y at *
        generalize l[k] = x at *
        obtain ⟨t, u⟩ := x
        obtain ⟨t', u'⟩ := y
        simp only at c0 c1 r1 r2 r3 r4 d0
        obtain ⟨g1, g2⟩ := lessL_not _ _ r1
        have hb : Op.bytesLess t t' = false := by rw [lessL_eq]; exact g1
        have hb2 : Op.bytesLess t' t = true := by rw [lessL_eq]; exact r1
        have he : (t == t') = false := by simpa using g2
        have h1 : decide ((t.length : Int) < 1) = false := decide_eq_false (by omega)
        have h2 : decide ((40 : Int) < (t.length : Int)) = false := decide_eq_false (by omega)
        have h3 : decide ((4194304 : Int) < (u.length : Int)) = false := decide_eq_false (by omega)
        have h5 : decide (t.length < 1) = false := decide_eq_false (by omega)
        have h6 : decide (40 < t.length) = false := decide_eq_false (by omega)
        have h7 : decide (4194304 < u.length) = false := decide_eq_false (by omega)
        generalize k - 1 = k1 at *
        clear g1 g2 r1
        go_wp2_with fail
        go_quiet (fail)
        go_wp2_with fail
        go_roundw
        case rel => exact ⟨k + 1, by omega, by go_num, HQ.out.trans (Q.drewN _ _)⟩
        case measure => simp [intOf]; omega
    · have hke : k = l.length := by omega
      subst hke
      have hn2 : (l.length : Int) ≤ 1048576 := by omega
      go_wp2_with fail
      go_ret
      exact ⟨rfl, HQ.out⟩
end Go.Proofs.YtcblmcbpnakphaaGreatDoor
