/- trial -/
import Derived.Test.YtejcmdolhmojaaaRows
import Derived.Test.YtejcmdolhmojaaaBase
import Derived.WalkKit
import Derived.WalkSpells
import Derived.WalkLawsBesides
import Derived.Outline
namespace Go.Proofs.Ytejcmdolhmojaaa
open Go.RowKit
set_option linter.unusedVariables false

theorem tinfo5 : (Try.prog.info? 5).map (fun i => (i.zero, i.size, i.bytes)) = some (some (.int .u8 0), 1, 1) := by kernel_rfl


set_option maxHeartbeats 400000 in
theorem make_in (n : Int) (w : World) (h1 : 1 ≤ n) (h2 : n ≤ 32768) :
    Calls Try.prog 12 #[.int .i64 n] w fun e w' => e = .returned (.string ⟨(makeL n).toArray⟩) ∧ Below w.heap.size w w' := by
  obtain ⟨i, hi, hz0, hz1, hz2⟩ := info_parts tinfo5
  have km := run_make (P := Try.prog) w 39 5 _ _ Try.underlying39 hi hz0 .i64 .i64 ((n + 7) / 8) ((n + 7) / 8) (by omega) (Int.le_refl _) (by rw [hz2]; omega) (by omega)
  have hb := (ByteRow.zeros w ((n + 7) / 8).toNat 5).back (P := Try.prog) 39 9 5 ((n + 7) / 8).toNat Try.underlying39 Try.underlying5 Try.underlying9
  rw [List.length_replicate] at hb
  have hm : makeL n = List.replicate ((n + 7) / 8).toNat 0 := by unfold makeL; rw [if_pos ⟨h1, h2⟩]
  rw [← hm] at hb
  have HM := Lib.hid hm; clear hm
  go_enter Try.func12, Try.ntmps12
  go_wp2
  go_ret
  exact ⟨rfl, (Below.refl _ _).alloc (Nat.le_refl _) _⟩

set_option maxHeartbeats 400000 in
theorem make_lo (n : Int) (w : World) (h1 : n < 1) :
    Calls Try.prog 12 #[.int .i64 n] w fun e w' => e = .returned (.string ⟨(makeL n).toArray⟩) ∧ Below w.heap.size w w' := by
  have hm : makeL n = [] := by unfold makeL; rw [if_neg (by omega)]
  have HM := Lib.hid hm; clear hm
  go_enter Try.func12, Try.ntmps12
  go_wp2
  go_ret
  exact ⟨by rw [HM.out]; rfl, Below.refl _ _⟩
set_option maxHeartbeats 400000 in
theorem make_hi (n : Int) (w : World) (h1 : 32768 < n) :
    Calls Try.prog 12 #[.int .i64 n] w fun e w' => e = .returned (.string ⟨(makeL n).toArray⟩) ∧ Below w.heap.size w w' := by
  have hm : makeL n = [] := by unfold makeL; rw [if_neg (by omega)]
  have HM := Lib.hid hm; clear hm
  have h0 : ¬ n < 1 := by omega
  go_enter Try.func12, Try.ntmps12
  go_wp2
  go_ret
  exact ⟨by rw [HM.out]; rfl, Below.refl _ _⟩
theorem make_any (n : Int) (w : World) :
    Calls Try.prog 12 #[.int .i64 n] w fun e w' => e = .returned (.string ⟨(makeL n).toArray⟩) ∧ Below w.heap.size w w' := by
  by_cases h1 : n < 1
  · exact make_lo n w h1
  · by_cases h2 : n ≤ 32768
    · exact make_in n w (by omega) h2
    · exact make_hi n w (by omega)

set_option maxHeartbeats 400000 in
theorem rmake_in (n : Int) (w : World) (h1 : 1 ≤ n) (h2 : n ≤ 32768) :
    Calls Try.prog 13 #[.int .i64 n] w fun e w' => e = .returned (.string ⟨(makeL n).toArray⟩) ∧ Below w.heap.size w w' := by
  obtain ⟨i, hi, hz0, hz1, hz2⟩ := info_parts tinfo5
  have km := run_make (P := Try.prog) w 39 5 _ _ Try.underlying39 hi hz0 .i64 .i64 ((n + 7) / 8) ((n + 7) / 8) (by omega) (Int.le_refl _) (by rw [hz2]; omega) (by omega)
  have hb := (ByteRow.zeros w ((n + 7) / 8).toNat 5).back (P := Try.prog) 39 9 5 ((n + 7) / 8).toNat Try.underlying39 Try.underlying5 Try.underlying9
  rw [List.length_replicate] at hb
  have hm : makeL n = List.replicate ((n + 7) / 8).toNat 0 := by unfold makeL; rw [if_pos ⟨h1, h2⟩]
  rw [← hm] at hb
  have HM := Lib.hid hm; clear hm
  go_enter Try.func13, Try.ntmps13
  go_wp2
  go_ret
  exact ⟨rfl, (Below.refl _ _).alloc (Nat.le_refl _) _⟩

set_option maxHeartbeats 400000 in
theorem rmake_lo (n : Int) (w : World) (h1 : n < 1) :
    Calls Try.prog 13 #[.int .i64 n] w fun e w' => e = .returned (.string ⟨(makeL n).toArray⟩) ∧ Below w.heap.size w w' := by
  have hm : makeL n = [] := by unfold makeL; rw [if_neg (by omega)]
  have HM := Lib.hid hm; clear hm
  go_enter Try.func13, Try.ntmps13
  go_wp2
  go_ret
  exact ⟨by rw [HM.out]; rfl, Below.refl _ _⟩
set_option maxHeartbeats 400000 in
theorem rmake_hi (n : Int) (w : World) (h1 : 32768 < n) :
    Calls Try.prog 13 #[.int .i64 n] w fun e w' => e = .returned (.string ⟨(makeL n).toArray⟩) ∧ Below w.heap.size w w' := by
  have hm : makeL n = [] := by unfold makeL; rw [if_neg (by omega)]
  have HM := Lib.hid hm; clear hm
  have h0 : ¬ n < 1 := by omega
  go_enter Try.func13, Try.ntmps13
  go_wp2
  go_ret
  exact ⟨by rw [HM.out]; rfl, Below.refl _ _⟩
theorem rmake_any (n : Int) (w : World) :
    Calls Try.prog 13 #[.int .i64 n] w fun e w' => e = .returned (.string ⟨(makeL n).toArray⟩) ∧ Below w.heap.size w w' := by
  by_cases h1 : n < 1
  · exact rmake_lo n w h1
  · by_cases h2 : n ≤ 32768
    · exact rmake_in n w (by omega) h2
    · exact rmake_hi n w (by omega)

set_option maxHeartbeats 400000 in
theorem free_any (l : List UInt8) (n : Int) (w : World) (hs : l.length ≤ 9223372036854775807 / 8) (h1 : -9223372036854775808 ≤ n) (h2 : n ≤ 9223372036854775807):
    Calls Try.prog 24 #[.string ⟨l.toArray⟩, .int .i64 n] w fun e w' => e = .returned (.tuple #[.int .i64 (firstN l n), .func (Fn.func 26) #[] #[.pointer (some ⟨w.heap.size + 1, 0, none⟩), .pointer (some ⟨w.heap.size, 0, none⟩)]]) ∧
      w' = (w.alloc (.cells #[.string ⟨l.toArray⟩] 9)).alloc (.cells #[.int .i64 (firstN l n)] 3) := by
  have e := firstN_int l n
  generalize ((firstN l n : Nat) : Int) = N at *
  by_cases c1 : 8 * ↑l.length < n
  · have e2 : N = 8 * ↑l.length := by omega
    clear e; subst e2
    have e3 : 0 < l.length ∨ l.length = 0 := by omega
    rcases e3 with e3 | e3
    · go_enter Try.func24, Try.ntmps24
      go_wp2
      go_ret2
      exact ⟨rfl, rfl⟩
    · obtain rfl : l = [] := List.eq_nil_of_length_eq_zero e3
      go_enter Try.func24, Try.ntmps24
      go_wp2
      go_ret2
      exact ⟨rfl, rfl⟩
  · by_cases c2 : 0 < n
    · have e2 : N = n := by omega
      clear e; subst e2
      go_enter Try.func24, Try.ntmps24
      go_wp2
      go_ret2
      exact ⟨rfl, rfl⟩
    · have e2 : N = 0 := by omega
      clear e; subst e2
      go_enter Try.func24, Try.ntmps24
      go_wp2
      go_ret2
      exact ⟨rfl, rfl⟩

set_option maxHeartbeats 400000 in
theorem first_any (l : List UInt8) (n : Int) (w : World) (hs : l.length ≤ 9223372036854775807 / 8) (h1 : -9223372036854775808 ≤ n) (h2 : n ≤ 9223372036854775807):
    Calls Try.prog 25 #[.string ⟨l.toArray⟩, .int .i64 n] w fun e w' => e = .returned (.int .i64 (firstN l n)) ∧ w = w' := by
  have e := firstN_int l n
  generalize ((firstN l n : Nat) : Int) = N at *
  by_cases c1 : 8 * ↑l.length < n
  · have e2 : N = 8 * ↑l.length := by omega
    clear e; subst e2
    have e3 : 0 < l.length ∨ l.length = 0 := by omega
    rcases e3 with e3 | e3
    · go_enter Try.func25, Try.ntmps25
      go_wp2
      go_ret
      exact ⟨rfl, rfl⟩
    · obtain rfl : l = [] := List.eq_nil_of_length_eq_zero e3
      go_enter Try.func25, Try.ntmps25
      go_wp2
      go_ret
      exact ⟨rfl, rfl⟩
  · by_cases c2 : 0 < n
    · have e2 : N = n := by omega
      clear e; subst e2
      go_enter Try.func25, Try.ntmps25
      go_wp2
      go_ret
      exact ⟨rfl, rfl⟩
    · have e2 : N = 0 := by omega
      clear e; subst e2
      go_enter Try.func25, Try.ntmps25
      go_wp2
      go_ret
      exact ⟨rfl, rfl⟩
end Go.Proofs.Ytejcmdolhmojaaa
