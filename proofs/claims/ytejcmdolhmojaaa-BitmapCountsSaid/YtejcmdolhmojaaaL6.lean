/- the walk of BitmapCounts -/
import Derived.Test.YtejcmdolhmojaaaJ
import Derived.Test.YtejcmdolhmojaaaBase3
namespace Go.Proofs.Ytejcmdolhmojaaa
open Go.RowKit
set_option linter.unusedVariables false

set_option maxHeartbeats 2000000 in
theorem walk_BitmapCounts (a b : List UInt8) (n : Int) (w : World) (ha : a.length ≤ 9223372036854775807) (hb : b.length ≤ 9223372036854775807)
    (n1 : -9223372036854775808 ≤ n) (n2 : n ≤ 9223372036854775807) :
    Calls Try.prog 8 #[.string ⟨a.toArray⟩, .string ⟨b.toArray⟩, .int .i64 n] w fun e w' => e = .returned (.bool true) ∧ Below w.heap.size w w' := by
  by_cases hl : a.length ≤ 300
  · by_cases hlb : b.length ≤ 300
    · have hN := firstN_le a n
      have hNi := firstN_int a n
      have hA := cnt_append a b (8 * b.length)
      have e1 : firstN (a ++ b) (8 * (a.length : Int) + 8 * (b.length : Int)) = 8 * a.length + 8 * b.length := by
        unfold firstN; rw [List.length_append]; omega
      have e2 : firstN a (8 * (a.length : Int)) = 8 * a.length := by unfold firstN; omega
      have e3 : firstN b (8 * (b.length : Int)) = 8 * b.length := by unfold firstN; omega
      have F1 := fun w => Free_any (a ++ b) (8 * (a.length : Int) + 8 * (b.length : Int)) w (by rw [List.length_append]; omega) (by omega) (by omega)
      have F2 := fun w => Free_any a n w (by omega) n1 n2
      have F3 := fun w => Free_any a (8 * (a.length : Int)) w (by omega) (by omega) (by omega)
      have F4 := fun w => Free_any b (8 * (b.length : Int)) w (by omega) (by omega) (by omega)
      rw [e1, hA] at F1
      rw [e2] at F3
      rw [e3] at F4
      have hc1 := cnt_le a (8 * a.length)
      have hc2 := cnt_le b (8 * b.length)
      have heq : (((cnt a (8 * a.length) + cnt b (8 * b.length) : Nat) : Int) == (cnt a (8 * a.length) : Int) + (cnt b (8 * b.length) : Int)) = true := by rw [beq_iff_eq]; omega
      generalize hNN : firstN a n = N at *
      generalize cnt a (8 * a.length) = ca at *
      generalize cnt b (8 * b.length) = cb at *
      have HF1 := Lib.hid F1; have HF2 := Lib.hid F2; have HF3 := Lib.hid F3; have HF4 := Lib.hid F4
      have hnb : (N : Int) = 0 ∧ n ≤ 0 ∨ (N : Int) = n ∨ ((N : Int) = 8 * a.length ∧ 8 * a.length ≤ n) := by omega
      have HNB := Lib.hid hnb
      clear F1 F2 F3 F4 e1 e2 e3 hA hNi hNN hnb
      go_enter Try.func8, Try.ntmps8
      go_wp2_with fail
      refine (shown_any _).mono ?_
      rintro e w1 ⟨rfl, q1⟩
      go_wp2_with fail
      go_loop [9, 8, 10] (fun i t _ => ∃ k : Nat, k ≤ N ∧ i = .int .i64 k ∧ t = .int .i64 (cnt a k)) (fun i _ _ => N - (intOf i).toNat)
      case atStart => exact ⟨0, by omega, rfl, rfl⟩
      case round =>
        obtain ⟨k, hk, rfl, rfl⟩ := hrel
        have hck := cnt_le a k
        by_cases hlt : k < N
        · have hk1 : k < 8 * a.length := by omega
          have hk2 : (k : Int) < n := by have := HNB.out; omega
          cases hbk : bit a k with
          | false =>
            have hc : cnt a (k + 1) = cnt a k + 1 := by rw [cnt, hbk]; rfl
            have HC := Lib.hid hc; have HB := Lib.hid hbk; clear hc hbk
            go_wp2_with fail
            refine (get_any a _ _ ha (by omega)).mono ?_
            rintro e w' ⟨rfl, rfl⟩
            rw [bitI_nat, HB.out]
            go_wp2_with fail
            go_round
            case rel => exact ⟨k + 1, by omega, by go_num, by rw [HC.out]; go_num⟩
            case measure => simp [intOf]; omega
          | true =>
            have hc : cnt a (k + 1) = cnt a k := by rw [cnt, hbk]; rfl
            have HC := Lib.hid hc; have HB := Lib.hid hbk; clear hc hbk
            go_wp2_with fail
            refine (get_any a _ _ ha (by omega)).mono ?_
            rintro e w' ⟨rfl, rfl⟩
            rw [bitI_nat, HB.out]
            go_wp2_with fail
            go_round
            case rel => exact ⟨k + 1, by omega, by go_num, by rw [HC.out]⟩
            case measure => simp [intOf]; omega
        · have hkN : k = N := by omega
          subst hkN
          have hor : 8 * a.length ≤ k ∨ (k < 8 * a.length ∧ n ≤ (k : Int)) := by have := HNB.out; omega
          rcases hor with h | ⟨h, g⟩
          all_goals
            go_wp2_with fail
            refine (HF1.out _).mono ?_
            rintro e w2 ⟨rfl, q2⟩
            go_wp2_with fail
            refine (HF2.out _).mono ?_
            rintro e w3 ⟨rfl, q3⟩
            go_wp2_with fail
            refine (HF3.out _).mono ?_
            rintro e w4 ⟨rfl, q4⟩
            go_wp2_with fail
            refine (HF4.out _).mono ?_
            rintro e w5 ⟨rfl, q5⟩
            have HQ := Lib.hid ((((q1.trans q2).trans q3).trans q4).trans q5)
            clear q1 q2 q3 q4 q5
            go_wp2_with fail
            go_ret
            exact ⟨rfl, HQ.out⟩
    · go_enter Try.func8, Try.ntmps8
      go_wp2_with fail
      refine (shown_any _).mono ?_
      rintro e w1 ⟨rfl, q1⟩
      go_wp2_with fail
      go_ret
      exact ⟨rfl, q1⟩
  · go_enter Try.func8, Try.ntmps8
    go_wp2_with fail
    refine (shown_any _).mono ?_
    rintro e w1 ⟨rfl, q1⟩
    go_wp2_with fail
    go_ret
    exact ⟨rfl, q1⟩
end Go.Proofs.Ytejcmdolhmojaaa
