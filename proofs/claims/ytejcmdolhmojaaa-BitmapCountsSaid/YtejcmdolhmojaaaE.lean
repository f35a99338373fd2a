/- trial -/
import Derived.Test.YtejcmdolhmojaaaA
import Derived.Test.YtejcmdolhmojaaaB
import Derived.Test.YtejcmdolhmojaaaC
import Derived.Test.YtejcmdolhmojaaaD
import Derived.Outline
namespace Go.Proofs.Ytejcmdolhmojaaa
open Go.RowKit
set_option linter.unusedVariables false

set_option maxHeartbeats 400000 in
theorem isfree_any (l : List UInt8) (N : Nat) (k : Int) (p q : Addr) (w : World) (hs : l.length ≤ 9223372036854775807 / 8) (hN : N ≤ 8 * l.length) (hp : w.cell? p = some (.int .i64 N)) (hq : w.cell? q = some (.string ⟨l.toArray⟩)) (h0 : 0 ≤ k) (h1 : k < N) :
    Calls Try.prog 26 #[.int .i64 k, .pointer (some p), .pointer (some q)] w fun e w' => e = .returned (.bool (!bitI l k)) ∧ w = w' := by
  have h3 : k ≤ 9223372036854775807 := by omega
  have h4 : l.length ≤ 9223372036854775807 := by omega
  go_enter Try.func26, Try.ntmps26
  go_wp2_with fail
  refine (get_any l k _ h4 h3).mono ?_
  rintro e w' ⟨rfl, rfl⟩
  go_wp2_with fail
  go_ret
  exact ⟨rfl, rfl⟩

set_option maxHeartbeats 400000 in
theorem Free_any (l : List UInt8) (n : Int) (w : World) (hs : l.length ≤ 9223372036854775807 / 8) (h1 : -9223372036854775808 ≤ n) (h2 : n ≤ 9223372036854775807):
    Calls Try.prog 18 #[.string ⟨l.toArray⟩, .int .i64 n] w fun e w' => e = .returned (.int .i64 (cnt l (firstN l n))) ∧ Below w.heap.size w w' := by
  have hN := firstN_le l n
  have hf := fun w => free_any l n w hs h1 h2
  generalize firstN l n = N at *
  have HF := Lib.hid hf; clear hf
  go_enter Try.func18, Try.ntmps18
  go_wp2_with fail
  refine (HF.out _).mono ?_
  rintro e w' ⟨rfl, rfl⟩
  go_wp2_with fail
  go_loop [15, 6, 7] (fun i t _ => ∃ k : Nat, k ≤ N ∧ i = .int .i64 k ∧ t = .int .i64 (cnt l k)) (fun i _ _ => N - (intOf i).toNat)
  case atStart => exact ⟨0, by omega, rfl, rfl⟩
  case round =>
    obtain ⟨k, hk, rfl, rfl⟩ := hrel
    have hcl := cnt_le l k
    by_cases hlt : k < N
    · cases hb : bit l k with
      | false =>
        have hc : cnt l (k + 1) = cnt l k + 1 := by rw [cnt, hb]; rfl
        have HC := Lib.hid hc; have HB := Lib.hid hb; clear hc hb
        go_wp2_with fail
        refine (isfree_any l N k _ _ _ hs hN (by go_simp) (by go_simp) (by omega) (by omega)).mono ?_
        rintro e w' ⟨rfl, rfl⟩
        rw [bitI_nat, HB.out]
        go_wp2_with fail
        go_round
        case rel => exact ⟨k + 1, by omega, by go_num, by rw [HC.out]; go_num⟩
        case measure => simp [intOf]; omega
      | true =>
        have hc : cnt l (k + 1) = cnt l k := by rw [cnt, hb]; rfl
        have HC := Lib.hid hc; have HB := Lib.hid hb; clear hc hb
        go_wp2_with fail
        refine (isfree_any l N k _ _ _ hs hN (by go_simp) (by go_simp) (by omega) (by omega)).mono ?_
        rintro e w' ⟨rfl, rfl⟩
        rw [bitI_nat, HB.out]
        go_wp2_with fail
        go_round
        case rel => exact ⟨k + 1, by omega, by go_num, by rw [HC.out]⟩
        case measure => simp [intOf]; omega
    · have hk : k = N := by omega
      subst hk
      go_wp2_with fail
      go_ret
      exact ⟨rfl, ((Below.refl _ _).alloc (Nat.le_refl _) _).alloc (by simp) _⟩

set_option maxHeartbeats 400000 in
theorem rFree_any (l : List UInt8) (n : Int) (w : World) (hs : l.length ≤ 9223372036854775807 / 8) (h1 : -9223372036854775808 ≤ n) (h2 : n ≤ 9223372036854775807):
    Calls Try.prog 19 #[.string ⟨l.toArray⟩, .int .i64 n] w fun e w' => e = .returned (.int .i64 (cnt l (firstN l n))) ∧ w = w' := by
  have hN := firstN_le l n
  have hf := fun w => first_any l n w hs h1 h2
  generalize firstN l n = N at *
  have HF := Lib.hid hf; clear hf
  have h4 : l.length ≤ 9223372036854775807 := by omega
  go_enter Try.func19, Try.ntmps19
  go_wp2_with fail
  go_loop [6, 5, 7] (fun i t _ => ∃ k : Nat, k ≤ N ∧ i = .int .i64 k ∧ t = .int .i64 (cnt l k)) (fun i _ _ => N - (intOf i).toNat)
  case atStart => exact ⟨0, by omega, rfl, rfl⟩
  case round =>
    obtain ⟨k, hk, rfl, rfl⟩ := hrel
    have hcl := cnt_le l k
    by_cases hlt : k < N
    · cases hb : bit l k with
      | false =>
        have hc : cnt l (k + 1) = cnt l k + 1 := by rw [cnt, hb]; rfl
        have HC := Lib.hid hc; have HB := Lib.hid hb; clear hc hb
        go_wp2_with fail
        refine (HF.out _).mono ?_
        rintro e w' ⟨rfl, rfl⟩
        go_wp2_with fail
        refine (rget_any l k _ h4 (by omega)).mono ?_
        rintro e w' ⟨rfl, rfl⟩
        rw [bitI_nat, HB.out]
        go_wp2_with fail
        go_round
        case rel => exact ⟨k + 1, by omega, by go_num, by rw [HC.out]; go_num⟩
        case measure => simp [intOf]; omega
      | true =>
        have hc : cnt l (k + 1) = cnt l k := by rw [cnt, hb]; rfl
        have HC := Lib.hid hc; have HB := Lib.hid hb; clear hc hb
        go_wp2_with fail
        refine (HF.out _).mono ?_
        rintro e w' ⟨rfl, rfl⟩
        go_wp2_with fail
        refine (rget_any l k _ h4 (by omega)).mono ?_
        rintro e w' ⟨rfl, rfl⟩
        rw [bitI_nat, HB.out]
        go_wp2_with fail
        go_round
        case rel => exact ⟨k + 1, by omega, by go_num, by rw [HC.out]⟩
        case measure => simp [intOf]; omega
    · have hk : k = N := by omega
      subst hk
      go_wp2_with fail
      refine (HF.out _).mono ?_
      rintro e w' ⟨rfl, rfl⟩
      go_wp2_with fail
      go_ret
      exact ⟨rfl, rfl⟩
end Go.Proofs.Ytejcmdolhmojaaa
