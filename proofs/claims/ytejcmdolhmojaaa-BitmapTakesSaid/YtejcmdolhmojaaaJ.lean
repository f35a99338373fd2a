/- trial -/
import Derived.Test.YtejcmdolhmojaaaI
namespace Go.Proofs.Ytejcmdolhmojaaa
open Go.RowKit
set_option linter.unusedVariables false

set_option maxHeartbeats 400000 in
theorem set_s (l : List UInt8) (s c : Int) (on : Bool) (w : World) (h : s < 0) :
    Calls Try.prog 10 #[.string ⟨l.toArray⟩, .int .i64 s, .int .i64 c, .bool on] w fun e w' => e = .returned (.tuple #[.string ⟨([] : List UInt8).toArray⟩, .bool false]) ∧ w = w' := by
  go_enter Try.func10, Try.ntmps10
  go_wp2_with fail
  go_ret2
  exact ⟨rfl, rfl⟩
set_option maxHeartbeats 400000 in
theorem set_c (l : List UInt8) (s c : Int) (on : Bool) (w : World) (h1 : 0 ≤ s) (h : c < 0) :
    Calls Try.prog 10 #[.string ⟨l.toArray⟩, .int .i64 s, .int .i64 c, .bool on] w fun e w' => e = .returned (.tuple #[.string ⟨([] : List UInt8).toArray⟩, .bool false]) ∧ w = w' := by
  go_enter Try.func10, Try.ntmps10
  go_wp2_with fail
  go_ret2
  exact ⟨rfl, rfl⟩
set_option maxHeartbeats 400000 in
theorem set_a (l : List UInt8) (s c : Int) (on : Bool) (w : World) (hs : l.length ≤ 9223372036854775807 / 8) (h1 : 0 ≤ s) (h2 : 0 ≤ c) (h : 8 * l.length < s) :
    Calls Try.prog 10 #[.string ⟨l.toArray⟩, .int .i64 s, .int .i64 c, .bool on] w fun e w' => e = .returned (.tuple #[.string ⟨([] : List UInt8).toArray⟩, .bool false]) ∧ w = w' := by
  go_enter Try.func10, Try.ntmps10
  go_wp2_with fail
  go_ret2
  exact ⟨rfl, rfl⟩
set_option maxHeartbeats 400000 in
theorem set_b (l : List UInt8) (s c : Int) (on : Bool) (w : World) (hs : l.length ≤ 9223372036854775807 / 8) (h1 : 0 ≤ s) (h2 : 0 ≤ c) (h3 : ¬ 8 * (l.length : Int) < s) (h : 8 * l.length - s < c) :
    Calls Try.prog 10 #[.string ⟨l.toArray⟩, .int .i64 s, .int .i64 c, .bool on] w fun e w' => e = .returned (.tuple #[.string ⟨([] : List UInt8).toArray⟩, .bool false]) ∧ w = w' := by
  go_enter Try.func10, Try.ntmps10
  go_wp2_with fail
  go_ret2
  exact ⟨rfl, rfl⟩
theorem set_any (l : List UInt8) (s c : Int) (on : Bool) (w : World) (hs : l.length ≤ 9223372036854775807 / 8) :
    Calls Try.prog 10 #[.string ⟨l.toArray⟩, .int .i64 s, .int .i64 c, .bool on] w fun e w' => e = .returned (.tuple #[.string ⟨(setL l s c on).toArray⟩, .bool (setOk l s c)]) ∧ Below w.heap.size w w' := by
  by_cases hok : 0 ≤ s ∧ 0 ≤ c ∧ c + s ≤ 8 * l.length
  · have h : setOk l s c = true := by simp [setOk, hok]
    unfold setL
    rw [h, if_pos rfl]
    obtain ⟨s, rfl⟩ := Int.eq_ofNat_of_zero_le hok.1
    obtain ⟨c, rfl⟩ := Int.eq_ofNat_of_zero_le hok.2.1
    exact set_ok l s c on w hs (by omega)
  · have h : setOk l s c = false := by simp only [setOk, decide_eq_false_iff_not]; exact hok
    unfold setL
    rw [h, if_neg (by simp)]
    by_cases c1 : s < 0
    · exact (set_s l s c on w c1).mono fun e w' ⟨h1, h2⟩ => ⟨h1, h2 ▸ Below.refl _ _⟩
    · by_cases c2 : c < 0
      · exact (set_c l s c on w (by omega) c2).mono fun e w' ⟨h1, h2⟩ => ⟨h1, h2 ▸ Below.refl _ _⟩
      · by_cases c3 : 8 * (l.length : Int) < s
        · exact (set_a l s c on w hs (by omega) (by omega) c3).mono fun e w' ⟨h1, h2⟩ => ⟨h1, h2 ▸ Below.refl _ _⟩
        · exact (set_b l s c on w hs (by omega) (by omega) c3 (by omega)).mono fun e w' ⟨h1, h2⟩ => ⟨h1, h2 ▸ Below.refl _ _⟩

set_option maxHeartbeats 400000 in
theorem rset_s (l : List UInt8) (s c : Int) (on : Bool) (w : World) (h : s < 0) :
    Calls Try.prog 11 #[.string ⟨l.toArray⟩, .int .i64 s, .int .i64 c, .bool on] w fun e w' => e = .returned (.tuple #[.string ⟨([] : List UInt8).toArray⟩, .bool false]) ∧ w = w' := by
  go_enter Try.func11, Try.ntmps11
  go_wp2_with fail
  go_ret2
  exact ⟨rfl, rfl⟩
set_option maxHeartbeats 400000 in
theorem rset_c (l : List UInt8) (s c : Int) (on : Bool) (w : World) (h1 : 0 ≤ s) (h : c < 0) :
    Calls Try.prog 11 #[.string ⟨l.toArray⟩, .int .i64 s, .int .i64 c, .bool on] w fun e w' => e = .returned (.tuple #[.string ⟨([] : List UInt8).toArray⟩, .bool false]) ∧ w = w' := by
  go_enter Try.func11, Try.ntmps11
  go_wp2_with fail
  go_ret2
  exact ⟨rfl, rfl⟩
set_option maxHeartbeats 400000 in
theorem rset_a (l : List UInt8) (s c : Int) (on : Bool) (w : World) (hs : l.length ≤ 9223372036854775807 / 8) (h1 : 0 ≤ s) (h2 : 0 ≤ c) (h : 8 * l.length < c) :
    Calls Try.prog 11 #[.string ⟨l.toArray⟩, .int .i64 s, .int .i64 c, .bool on] w fun e w' => e = .returned (.tuple #[.string ⟨([] : List UInt8).toArray⟩, .bool false]) ∧ w = w' := by
  go_enter Try.func11, Try.ntmps11
  go_wp2_with fail
  go_ret2
  exact ⟨rfl, rfl⟩
set_option maxHeartbeats 400000 in
theorem rset_b (l : List UInt8) (s c : Int) (on : Bool) (w : World) (hs : l.length ≤ 9223372036854775807 / 8) (h1 : 0 ≤ s) (h2 : 0 ≤ c) (h3 : ¬ 8 * (l.length : Int) < c) (h : 8 * l.length - c < s) :
    Calls Try.prog 11 #[.string ⟨l.toArray⟩, .int .i64 s, .int .i64 c, .bool on] w fun e w' => e = .returned (.tuple #[.string ⟨([] : List UInt8).toArray⟩, .bool false]) ∧ w = w' := by
  go_enter Try.func11, Try.ntmps11
  go_wp2_with fail
  go_ret2
  exact ⟨rfl, rfl⟩
theorem rset_any (l : List UInt8) (s c : Int) (on : Bool) (w : World) (hs : l.length ≤ 9223372036854775807 / 8) :
    Calls Try.prog 11 #[.string ⟨l.toArray⟩, .int .i64 s, .int .i64 c, .bool on] w fun e w' => e = .returned (.tuple #[.string ⟨(setL l s c on).toArray⟩, .bool (setOk l s c)]) ∧ Below w.heap.size w w' := by
  by_cases hok : 0 ≤ s ∧ 0 ≤ c ∧ c + s ≤ 8 * l.length
  · have h : setOk l s c = true := by simp [setOk, hok]
    unfold setL
    rw [h, if_pos rfl]
    obtain ⟨s, rfl⟩ := Int.eq_ofNat_of_zero_le hok.1
    obtain ⟨c, rfl⟩ := Int.eq_ofNat_of_zero_le hok.2.1
    exact rset_ok l s c on w hs (by omega)
  · have h : setOk l s c = false := by simp only [setOk, decide_eq_false_iff_not]; exact hok
    unfold setL
    rw [h, if_neg (by simp)]
    by_cases c1 : s < 0
    · exact (rset_s l s c on w c1).mono fun e w' ⟨h1, h2⟩ => ⟨h1, h2 ▸ Below.refl _ _⟩
    · by_cases c2 : c < 0
      · exact (rset_c l s c on w (by omega) c2).mono fun e w' ⟨h1, h2⟩ => ⟨h1, h2 ▸ Below.refl _ _⟩
      · by_cases c3 : 8 * (l.length : Int) < c
        · exact (rset_a l s c on w hs (by omega) (by omega) c3).mono fun e w' ⟨h1, h2⟩ => ⟨h1, h2 ▸ Below.refl _ _⟩
        · exact (rset_b l s c on w hs (by omega) (by omega) c3 (by omega)).mono fun e w' ⟨h1, h2⟩ => ⟨h1, h2 ▸ Below.refl _ _⟩


/-- nothing that was there has turned -/
def Q (w w' : World) : Prop := Below w.heap.size w w'
theorem Q.refl (w : World) : Q w w := Below.refl _ _
theorem Q.trans {a b c : World} (h1 : Q a b) (h2 : Q b c) : Q a c := Below.trans h1 (Below.mono h2 h1.size)
theorem Q.of {w w' : World} (h : Below w.heap.size w w') : Q w w' := h

set_option maxHeartbeats 2000000 in
theorem shown_any (w : World) : Calls Try.prog 9 #[] w fun e w' => e = .returned (.bool true) ∧ Q w w' := by
  have s1 := fun w => set_any [0] 1 3 true w (by decide)
  have s2 := fun w => set_any [0] 6 3 true w (by decide)
  have f1 := fun w => Fit_any [13] 8 1 w (by decide) (by decide) (by decide)
  have f2 := fun w => Fit_any [13] 8 2 w (by decide) (by decide) (by decide)
  have f3 := fun w => Fit_any [13] 8 5 w (by decide) (by decide) (by decide)
  have f4 := fun w => Fit_any [13] 5 2 w (by decide) (by decide) (by decide)
  have m1 := fun w => make_any 9 w
  have g1 := fun w => get_any [5] 0 w (by decide) (by decide)
  have g2 := fun w => get_any [5] 1 w (by decide) (by decide)
  have g3 := fun w => get_any [5] 2 w (by decide) (by decide)
  have g4 := fun w => get_any [5] 8 w (by decide) (by decide)
  have r1 := fun w => Runs_any [13] 8 w (by decide) (by decide) (by decide)
  have e1 := fun w => Free_any [13] 8 w (by decide) (by decide) (by decide)
  rw [show setL [0] 1 3 true = [14] by decide, show setOk [0] 1 3 = true by decide] at s1
  rw [show setL [0] 6 3 true = [] by decide, show setOk [0] 6 3 = false by decide] at s2
  rw [show fitR [13] 8 1 = (1, true) by decide] at f1
  rw [show fitR [13] 8 2 = (4, true) by decide] at f2
  rw [show fitR [13] 8 5 = (0, false) by decide] at f3
  rw [show fitR [13] 5 2 = (0, false) by decide] at f4
  rw [show makeL 9 = [0, 0] by decide] at m1
  rw [show bitI [5] 0 = true by decide] at g1
  rw [show bitI [5] 1 = false by decide] at g2
  rw [show bitI [5] 2 = true by decide] at g3
  rw [show bitI [5] 8 = false by decide] at g4
  rw [show runsTo [13] (firstN [13] 8) = [(1, 1), (4, 4)] by decide] at r1
  rw [show cnt [13] (firstN [13] 8) = 5 by decide] at e1
  have S1 := Lib.hid s1; have S2 := Lib.hid s2; have F1 := Lib.hid f1; have F2 := Lib.hid f2; have F3 := Lib.hid f3; have F4 := Lib.hid f4; have M1 := Lib.hid m1
  have G1 := Lib.hid g1; have G2 := Lib.hid g2; have G3 := Lib.hid g3; have G4 := Lib.hid g4; have R1 := Lib.hid r1; have E1 := Lib.hid e1
  clear s1 s2 f1 f2 f3 f4 m1 g1 g2 g3 g4 r1 e1
  go_enter Try.func9, Try.ntmps9
  go_wp2_with fail
  refine (S1.out _).mono ?_
  rintro e w1 ⟨rfl, q1⟩
  go_wp2_with fail
  refine (S2.out _).mono ?_
  rintro e w2 ⟨rfl, q2⟩
  go_wp2_with fail
  refine (F1.out _).mono ?_
  rintro e w3 ⟨rfl, q3⟩
  go_wp2_with fail
  refine (F2.out _).mono ?_
  rintro e w4 ⟨rfl, q4⟩
  go_wp2_with fail
  refine (F3.out _).mono ?_
  rintro e w5 ⟨rfl, q5⟩
  go_wp2_with fail
  refine (F4.out _).mono ?_
  rintro e w6 ⟨rfl, q6⟩
  go_wp2_with fail
  refine (M1.out _).mono ?_
  rintro e w7 ⟨rfl, q7⟩
  go_wp2_with fail
  refine (G1.out _).mono ?_
  rintro e w8 ⟨rfl, rfl⟩
  go_wp2_with fail
  refine (G2.out _).mono ?_
  rintro e w8 ⟨rfl, rfl⟩
  go_wp2_with fail
  refine (G3.out _).mono ?_
  rintro e w8 ⟨rfl, rfl⟩
  go_wp2_with fail
  refine (G4.out _).mono ?_
  rintro e w8 ⟨rfl, rfl⟩
  go_wp2_with fail
  refine (R1.out _).mono ?_
  rintro e w8 ⟨v8, rfl, q8, o8⟩
  have hlit := World.ownsRow_lit (base := w7.heap.size) (e := 36) (size := 2) w8 #[Value.int .i64 1, Value.int .i64 1, Value.int .i64 4, Value.int .i64 4] 2 q8.size (by decide) rfl
  have hsame := same_any v8 (.slice (some ⟨w8.heap.size, 0, none⟩) 2 2) w7.heap.size [(1, 1), (4, 4)] [(1, 1), (4, 4)] _ (o8.alloc _) hlit (by decide) (by decide)
  have HS := Lib.hid hsame; clear hsame hlit o8
  have hq : Q w w8 := ((((((Q.of q1).trans q2).trans q3).trans q4).trans q5).trans q6).trans q7 |>.trans q8
  have HQ := Lib.hid hq
  clear hq q1 q2 q3 q4 q5 q6 q7 q8
  go_wp2_with fail
  refine HS.out.mono ?_
  rintro e w9 ⟨rfl, q9⟩
  have HQ9 := HQ.out.trans (((Q.refl w8).alloc (Nat.le_refl _) _).trans (Below.mono q9 (by simp)))
  clear q9
  have HQ10 := Lib.hid HQ9; clear HQ9
  go_wp2_with fail
  refine (E1.out _).mono ?_
  rintro e w10 ⟨rfl, q10⟩
  have HQ11 := HQ10.out.trans q10
  have HQ12 := Lib.hid HQ11; clear HQ11 q10
  go_wp2_with fail
  go_ret
  exact ⟨rfl, HQ12.out⟩
end Go.Proofs.Ytejcmdolhmojaaa
