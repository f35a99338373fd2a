/- the walk of BitmapOthers -/
import Derived.Test.YtejcmdolhmojaaaJ
import Derived.Test.YtejcmdolhmojaaaBase3
namespace Go.Proofs.Ytejcmdolhmojaaa
open Go.RowKit
set_option linter.unusedVariables false

set_option maxHeartbeats 2000000 in
theorem walk_BitmapOthers (b : List UInt8) (start count : Int) (on : Bool) (w : World) (hb : b.length ≤ 9223372036854775807)
    (s1 : -9223372036854775808 ≤ start) (s2 : start ≤ 9223372036854775807) (c1 : -9223372036854775808 ≤ count) (c2 : count ≤ 9223372036854775807) :
    Calls Try.prog 7 #[.string ⟨b.toArray⟩, .int .i64 start, .int .i64 count, .bool on] w fun e w' => e = .returned (.bool true) ∧ Below w.heap.size w w' := by
  by_cases hl : b.length ≤ 200
  · have hb8 : b.length ≤ 9223372036854775807 / 8 := by omega
    have S1 := fun w => set_any b start count on w hb8
    by_cases hok : 0 ≤ start ∧ 0 ≤ count ∧ count + start ≤ 8 * b.length
    · have hm1 : setOk b start count = true := by simp only [setOk, decide_eq_true_iff]; exact hok
      have hm2 : setL b start count on = setTo b start.toNat on count.toNat := by unfold setL; rw [hm1]; rfl
      rw [hm1, hm2] at S1
      obtain ⟨s, rfl⟩ := Int.eq_ofNat_of_zero_le hok.1
      obtain ⟨c, rfl⟩ := Int.eq_ofNat_of_zero_le hok.2.1
      rw [Int.toNat_natCast, Int.toNat_natCast] at S1
      have hsc : c + s ≤ 8 * b.length := by omega
      have hlm : (setTo b s on c).length = b.length := length_setTo _ _ _ _
      have G : ∀ k : Nat, bitI (setTo b s on c) k = if s ≤ k ∧ k < s + c then on else bit b k := fun k => by rw [bitI_nat, bit_setTo b s c k on hsc]
      generalize setTo b s on c = m at *
      have heq : (((m.length : Nat) : Int) != ((b.length : Nat) : Int)) = false := by rw [bne_eq_false_iff_eq]; omega
      have heq2 : (m.length != b.length) = false := by rw [bne_eq_false_iff_eq]; omega
      have hlm2 : m.length ≤ 9223372036854775807 := by omega
      have HS1 := Lib.hid S1; have HG := Lib.hid G
      clear S1 G hm1 hm2 hlm hok
      go_enter Try.func7, Try.ntmps7
      go_wp2_with fail
      refine (shown_any _).mono ?_
      rintro e w1 ⟨rfl, q1⟩
      go_wp2_with fail
      refine (HS1.out _).mono ?_
      rintro e w3 ⟨rfl, q3⟩
      have HQ := Lib.hid (q1.trans q3)
      clear q1 q3
      go_wp2_with fail
      clear heq heq2
      go_loop [12, 13, 14, 15] (fun i _ _ _ => ∃ k : Nat, k ≤ 8 * b.length ∧ i = .int .i64 k) (fun i _ _ _ => 8 * b.length - (intOf i).toNat)
      case atStart => exact ⟨0, by omega, rfl⟩
      case round =>
        obtain ⟨k, hk, rfl⟩ := hrel
        by_cases hlt : k < 8 * b.length
        · have g1 := HG.out k
          by_cases hin : s ≤ k ∧ k < s + c
          · rw [if_pos hin] at g1
            have g1 := Lib.hid g1
            obtain ⟨hin1, hin2⟩ := hin
            go_wp2_with fail
            refine (get_any m _ _ hlm2 (by omega)).mono ?_
            rintro e w' ⟨rfl, rfl⟩
            rw [g1.out]
            go_wp2_with fail
            refine (get_any b _ _ hb (by omega)).mono ?_
            rintro e w' ⟨rfl, rfl⟩
            rw [bitI_nat]
            go_wp2_with fail
            go_round
            case rel => exact ⟨k + 1, by omega, by go_num⟩
            case measure => simp [intOf]; omega
          · rw [if_neg hin] at g1
            have g1 := Lib.hid g1
            have hor : k < s ∨ s + c ≤ k := by omega
            clear hin
            rcases hor with h | h
            all_goals
              go_wp2_with fail
              refine (get_any m _ _ hlm2 (by omega)).mono ?_
              rintro e w' ⟨rfl, rfl⟩
              rw [g1.out]
              go_wp2_with fail
              refine (get_any b _ _ hb (by omega)).mono ?_
              rintro e w' ⟨rfl, rfl⟩
              rw [bitI_nat]
              go_wp2_with fail
              go_round
              case rel => exact ⟨k + 1, by omega, by go_num⟩
              case measure => simp [intOf]; omega
        · go_wp2_with fail
          go_ret
          exact ⟨rfl, HQ.out⟩
    · have hm1 : setOk b start count = false := by simp only [setOk, decide_eq_false_iff_not]; exact hok
      have hm2 : setL b start count on = [] := by unfold setL; rw [hm1]; rfl
      rw [hm1, hm2] at S1
      have HS1 := Lib.hid S1
      have hcase : start < 0 ∨ (¬ start < 0 ∧ count < 0) ∨ (¬ start < 0 ∧ ¬ count < 0 ∧ 8 * (b.length : Int) < start) ∨ (¬ start < 0 ∧ ¬ count < 0 ∧ ¬ 8 * (b.length : Int) < start ∧ 8 * (b.length : Int) - start < count) := by omega
      clear S1 hm1 hm2 hok
      rcases hcase with h | ⟨h, g⟩ | ⟨h, g, f⟩ | ⟨h, g, f, d⟩
      all_goals
        go_enter Try.func7, Try.ntmps7
        go_wp2_with fail
        refine (shown_any _).mono ?_
        rintro e w1 ⟨rfl, q1⟩
        go_wp2_with fail
        refine (HS1.out _).mono ?_
        rintro e w3 ⟨rfl, q3⟩
        have HQ := Lib.hid (q1.trans q3)
        clear q1 q3
        go_wp2_with fail
        go_ret
        exact ⟨rfl, HQ.out⟩
  · go_enter Try.func7, Try.ntmps7
    go_wp2_with fail
    refine (shown_any _).mono ?_
    rintro e w1 ⟨rfl, q1⟩
    go_wp2_with fail
    go_ret
    exact ⟨rfl, q1⟩
end Go.Proofs.Ytejcmdolhmojaaa
