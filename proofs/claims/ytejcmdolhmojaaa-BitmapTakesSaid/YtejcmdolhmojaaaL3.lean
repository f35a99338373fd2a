/- the walk of BitmapTakes -/
import Derived.Test.YtejcmdolhmojaaaJ
import Derived.Test.YtejcmdolhmojaaaBase3
namespace Go.Proofs.Ytejcmdolhmojaaa
open Go.RowKit
set_option linter.unusedVariables false

/-- what 'Fit' tells when it tells a place -/
theorem fitR_ok (l : List UInt8) (n c : Int) (h : (fitR l n c).2 = true) : ∃ s k : Nat, c = k ∧ 1 ≤ k ∧ fitR l n c = ((s : Int), true) ∧ fitN l k (firstN l n) = some s := by
  unfold fitR at h ⊢
  by_cases hc : c < 1
  · rw [if_pos hc] at h; cases h
  · rw [if_neg hc] at h ⊢
    cases hf : fitN l c.toNat (firstN l n) with
    | none => rw [hf] at h; cases h
    | some s => exact ⟨s, c.toNat, by omega, by omega, rfl, hf⟩
theorem fitR_no (l : List UInt8) (n c : Int) (h : (fitR l n c).2 = false) : fitR l n c = (0, false) := by
  unfold fitR at h ⊢
  by_cases hc : c < 1
  · rw [if_pos hc]
  · rw [if_neg hc] at h ⊢
    cases hf : fitN l c.toNat (firstN l n) with
    | none => rfl
    | some s => rw [hf] at h; cases h

set_option maxHeartbeats 2000000 in
theorem walk_BitmapTakes (b : List UInt8) (n count : Int) (w : World) (hb : b.length ≤ 9223372036854775807)
    (n1 : -9223372036854775808 ≤ n) (n2 : n ≤ 9223372036854775807) (c1 : -9223372036854775808 ≤ count) (c2 : count ≤ 9223372036854775807) :
    Calls Try.prog 5 #[.string ⟨b.toArray⟩, .int .i64 n, .int .i64 count] w fun e w' => e = .returned (.bool true) ∧ Below w.heap.size w w' := by
  by_cases hl : b.length ≤ 200
  · have hb8 : b.length ≤ 9223372036854775807 / 8 := by omega
    have hb9 : b.length ≤ 1099511627776 := by omega
    have F := fun w => Fit_any b n count w hb9 n1 n2
    cases hok : (fitR b n count).2 with
    | false =>
      rw [fitR_no b n count hok] at F
      clear hok
      have F := Lib.hid F
      go_enter Try.func5, Try.ntmps5
      go_wp2_with fail
      refine (shown_any _).mono ?_
      rintro e w1 ⟨rfl, q1⟩
      go_wp2_with fail
      refine (F.out _).mono ?_
      rintro e w2 ⟨rfl, q2⟩
      have HQ := Lib.hid (q1.trans q2)
      clear q1 q2
      go_wp2_with fail
      go_ret
      exact ⟨rfl, HQ.out⟩
    | true =>
      obtain ⟨s, c, rfl, hc1, hR, hfit⟩ := fitR_ok b n count hok
      rw [hR] at F
      obtain ⟨ht, hsN, hnone⟩ := fit_some b c _ s hfit
      have hN := firstN_le b n
      have hNi := firstN_int b n
      have hsc : c + s ≤ 8 * b.length := by omega
      have hsn : (s : Int) + c ≤ n := by omega
      have hfree : ∀ j, s ≤ j → j < s + c → bit b j = false := fun j j1 j2 => tail_free b (s + c) j (by omega) j2
      have S1 := fun w => set_any b s c true w hb8
      have hm1 : setOk b s c = true := by simp only [setOk, decide_eq_true_iff]; omega
      have hm2 : setL b s c true = setTo b s true c := by unfold setL; rw [hm1]; rfl
      rw [hm1, hm2] at S1
      have hlm : (setTo b s true c).length = b.length := length_setTo _ _ _ _
      have S2 := fun w => set_any (setTo b s true c) s c false w (by rw [hlm]; exact hb8)
      have hm3 : setOk (setTo b s true c) s c = true := by simp only [setOk, decide_eq_true_iff, hlm]; omega
      have hm4 : setL (setTo b s true c) s c false = b := by unfold setL; rw [hm3]; exact setTo_back b s c hsc hfree
      rw [hm3, hm4] at S2
      have E1 := fun w => Free_any (setTo b s true c) n w (by rw [hlm]; exact hb8) n1 n2
      have E2 := fun w => Free_any b n w hb8 n1 n2
      have hf0 : firstN (setTo b s true c) n = firstN b n := by unfold firstN; rw [hlm]
      have hcnt := cnt_set b (setTo b s true c) s c (fun j => bit_setTo b s c j true hsc) hfree (firstN b n)
      have hcnt2 : cnt b (firstN b n) = cnt (setTo b s true c) (firstN b n) + c := by omega
      have hcle := cnt_le b (firstN b n)
      rw [hf0] at E1
      rw [hcnt2] at E2 hcle
      have F2 := fun w => Fit_any (setTo b s true c) ((s : Int) + c - 1) c w (by rw [hlm]; exact hb9) (by omega) (by omega)
      have hf2 : fitR (setTo b s true c) ((s : Int) + c - 1) c = (0, false) := by
        unfold fitR
        rw [if_neg (by omega), Int.toNat_natCast, fit_taken b c (firstN b n) s _ hc1 hfit hsc (by unfold firstN; omega)]
        rfl
      rw [hf2] at F2
      have G1 : ∀ k, k < c → bitI b ((s : Int) + k) = false := fun k hk => by
        rw [show (s : Int) + k = ((s + k : Nat) : Int) by omega, bitI_nat]; exact hfree _ (by omega) (by omega)
      have G2 : ∀ k, k < c → bitI (setTo b s true c) ((s : Int) + k) = true := fun k hk => by
        rw [show (s : Int) + k = ((s + k : Nat) : Int) by omega, bitI_nat, bit_setTo b s c _ true hsc, if_pos (by omega)]
      have hlm2 : (setTo b s true c).length ≤ 9223372036854775807 := by rw [hlm]; exact hb
      generalize setTo b s true c = m at *
      generalize cnt m (firstN b n) = C at *
      have heq : ((C : Int) == ((C + c : Nat) : Int) - c) = true := by rw [beq_iff_eq]; omega
      have HF := Lib.hid F; have HS1 := Lib.hid S1; have HS2 := Lib.hid S2; have HE1 := Lib.hid E1; have HE2 := Lib.hid E2; have HF2 := Lib.hid F2; have HG1 := Lib.hid G1; have HG2 := Lib.hid G2
      clear F S1 S2 E1 E2 F2 G1 G2 hok hR hfit ht hnone hNi hfree hm1 hm2 hm3 hm4 hf0 hcnt hcnt2 hf2 hlm
      have hcb : C + c ≤ 9223372036854775807 := by omega
      have hsb : s + c ≤ 1600 := by omega
      clear hN hsN hsc hcle
      go_enter Try.func5, Try.ntmps5
      go_wp2_with fail
      refine (shown_any _).mono ?_
      rintro e w1 ⟨rfl, q1⟩
      go_wp2_with fail
      refine (HF.out _).mono ?_
      rintro e w2 ⟨rfl, q2⟩
      go_wp2_with fail
      refine (HS1.out _).mono ?_
      rintro e w3 ⟨rfl, q3⟩
      go_wp2_with fail
      refine (HS2.out _).mono ?_
      rintro e w4 ⟨rfl, q4⟩
      go_wp2_with fail
      refine (HE1.out _).mono ?_
      rintro e w5 ⟨rfl, q5⟩
      go_wp2_with fail
      refine (HE2.out _).mono ?_
      rintro e w6 ⟨rfl, q6⟩
      have HQ := Lib.hid (((((q1.trans q2).trans q3).trans q4).trans q5).trans q6)
      clear q1 q2 q3 q4 q5 q6
      go_wp2_with fail
      go_loop [14] (fun i => ∃ k : Nat, k ≤ c ∧ i = .int .i64 ((s : Int) + k)) (fun i => s + c - (intOf i).toNat)
      case atStart => exact ⟨0, by omega, by simp⟩
      case round =>
        obtain ⟨k, hk, rfl⟩ := hrel
        by_cases hlt : k < c
        · have g1 := HG1.out k hlt
          have g2 := HG2.out k hlt
          have g1 := Lib.hid g1; have g2 := Lib.hid g2
          go_wp2_with fail
          refine (get_any b _ _ hb (by omega)).mono ?_
          rintro e w' ⟨rfl, rfl⟩
          rw [g1.out]
          go_wp2_with fail
          refine (get_any m _ _ hlm2 (by omega)).mono ?_
          rintro e w' ⟨rfl, rfl⟩
          rw [g2.out]
          go_wp2_with fail
          go_round
          case rel => exact ⟨k + 1, by omega, by go_num⟩
          case measure => simp [intOf]; omega
        · go_wp2_with fail
          refine (HF2.out _).mono ?_
          rintro e w7 ⟨rfl, q7⟩
          have HQ7 := Lib.hid (HQ.out.trans q7)
          clear q7
          go_wp2_with fail
          go_ret
          exact ⟨rfl, HQ7.out⟩
  · go_enter Try.func5, Try.ntmps5
    go_wp2_with fail
    refine (shown_any _).mono ?_
    rintro e w1 ⟨rfl, q1⟩
    go_wp2_with fail
    go_ret
    exact ⟨rfl, q1⟩
end Go.Proofs.Ytejcmdolhmojaaa
