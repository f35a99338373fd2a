/- trial -/
import Derived.Test.YtejcmdolhmojaaaE
namespace Go.Proofs.Ytejcmdolhmojaaa
open Go.RowKit
set_option linter.unusedVariables false

set_option maxHeartbeats 400000 in
theorem one_any (m : List UInt8) (i cap B : Nat) (on : Bool) (w : World) (hs : m.length ≤ 9223372036854775807 / 8) (hr : ByteRow w B m) (hi : i / 8 < m.length) :
    Calls Try.prog 23 #[.slice (some ⟨B, 0, none⟩) m.length cap, .int .i64 i, .bool on] w fun e w' => e = .returned (.tuple #[]) ∧ Below B w w' ∧ ByteRow w' B (setBit m i on) := by
  have h4 : m.length ≤ 9223372036854775807 := by omega
  have h5 : (i : Int) ≤ 9223372036854775807 := by omega
  have hkc := hr.back (P := Try.prog) 39 9 5 cap Try.underlying39 Try.underlying5 Try.underlying9
  obtain ⟨x, hx, HV, hc, hf⟩ := hr.at (i / 8) hi
  have hk8 : i % 8 < 8 := Nat.mod_lt _ (by omega)
  have HR := Lib.hid hr; clear hr
  go_enter Try.func23, Try.ntmps23
  go_wp2_with fail
  go_loop [6, 7] (fun v k => ∃ j : Nat, j ≤ i % 8 ∧ k = .int .i64 j ∧ v = .int .u8 ((2 ^ j : Nat) : Int)) (fun _ k => 8 - (intOf k).toNat)
  case atStart => exact ⟨0, Nat.zero_le _, rfl, rfl⟩
  case round =>
    obtain ⟨j, hj, rfl, rfl⟩ := hrel
    have hp : 2 ^ (j + 1) = 2 ^ j * 2 := Nat.pow_succ _ _
    have hl := two_pow_lt j (by omega)
    have hl2 : j + 1 < 8 → 2 ^ j * 2 < 256 := fun h => by rw [← hp]; exact two_pow_lt _ h
    by_cases hlt : j < i % 8
    · have hl3 := hl2 (by omega)
      generalize hy : 2 ^ j = y at *
      have HP := Lib.hid hp; have HY := Lib.hid hy; clear hp hy hl2
      go_wp2
      go_round
      case rel => exact ⟨j + 1, by omega, by go_num, by rw [HP.out]; go_num⟩
      case measure => simp [intOf]; omega
    · have e : j = i % 8 := by omega
      subst e
      clear hl2 hp
      generalize hy : 2 ^ (i % 8) = y at *
      have HY := Lib.hid hy; clear hy
      go_wp2_with fail
      refine (rget_any m i _ h4 h5).mono ?_
      rintro e w' ⟨rfl, rfl⟩
      have hb : bitI m i = x.testBit (i % 8) := by rw [bitI_nat, bit, HV.out]
      cases hne : (bitI m i == on) with
      | true =>
        have HB := Lib.hid hb; clear hb
        go_wp2_with fail
        go_end0
        refine ⟨rfl, Below.refl _ _, ?_⟩
        rw [HB.out] at hne
        have e := same_set x (i % 8) on hx hk8 hne
        have hs : setBit m i on = m := by
          unfold setBit
          rw [HV.out, ← e, ← HV.out]
          rw [List.getD_eq_getElem?_getD, List.getElem?_eq_getElem hi]
          simp
        rw [hs]; exact HR.out
      | false =>
        have HB := Lib.hid hb; clear hb
        go_wp2_with fail
        go_end0
        refine ⟨rfl, (Below.refl B w).setCell (p := ⟨B, i / 8, none⟩) (Nat.le_refl _) _, ?_⟩
        rw [HB.out] at hne
        have e := xor_set x (i % 8) on hx hk8 hne
        have hk := two_pow_lt _ hk8
        unfold setBit
        rw [HV.out]
        refine HR.out.set _ _ _ ?_
        rw [u8_xor_nat _ _ hx hl, ← HY.out, e, ofNat_toNat _ (byteSet_lt _ _ _ hx hk8)]

theorem one_at (m : List UInt8) (i cap B n : Nat) (on : Bool) (w : World) (hs : m.length ≤ 9223372036854775807 / 8) (hr : ByteRow w B m) (hi : i / 8 < m.length) (hn : m.length = n) :
    Calls Try.prog 23 #[.slice (some ⟨B, 0, none⟩) n cap, .int .i64 i, .bool on] w fun e w' => e = .returned (.tuple #[]) ∧ Below B w w' ∧ ByteRow w' B (setBit m i on) := by
  subst hn; exact one_any m i cap B on w hs hr hi
set_option maxHeartbeats 400000 in
theorem rset_ok (l : List UInt8) (s c : Nat) (on : Bool) (w : World) (hs : l.length ≤ 9223372036854775807 / 8) (h2 : c + s ≤ 8 * l.length) :
    Calls Try.prog 11 #[.string ⟨l.toArray⟩, .int .i64 s, .int .i64 c, .bool on] w fun e w' => e = .returned (.tuple #[.string ⟨(setTo l s on c).toArray⟩, .bool true]) ∧ Below w.heap.size w w' := by
  have kc := fun (w : World) (s : ByteArray) => run_bytes_of_string (P := Try.prog) w 9 39 5 s Try.underlying9 Try.underlying39 Try.underlying5
  have H1 : ¬ (8 * (l.length : Int)) < c := by omega
  have H2 : ¬ (8 * (l.length : Int) - c) < s := by omega
  go_enter Try.func11, Try.ntmps11
  go_wp2_with fail
  go_loopw [12] (fun i wr => ∃ k : Nat, k ≤ c ∧ i = .int .i64 ((s : Int) + k) ∧ Below w.heap.size w wr ∧ ByteRow wr w.heap.size (setTo l s on k)) (fun i _ => s + c - (intOf i).toNat)
  case atStart => exact ⟨0, by omega, by simp, (Below.refl _ _).alloc (Nat.le_refl _) _ |>.drew, ByteRow.made _ _ _ _⟩
  case round =>
    obtain ⟨k, hk, rfl, hb, hr⟩ := hrel
    have hl := length_setTo l s on k
    have hst : setBit (setTo l s on k) (s + k) on = setTo l s on (k + 1) := rfl
    generalize hm : setTo l s on k = m at *
    have HL := Lib.hid hl; clear hl
    have HM := Lib.hid hm; clear hm
    have HS := Lib.hid hst; clear hst
    by_cases hlt : k < c
    · have hi2 : (s + k) / 8 < m.length := by rw [HL.out]; omega
      have hm8 : m.length ≤ 9223372036854775807 / 8 := by rw [HL.out]; exact hs
      have HR := Lib.hid hr; clear hr
      have HB := Lib.hid hb; clear hb
      go_wp2_with fail
      have ei : ((s : Int) + (k : Int)) = ((s + k : Nat) : Int) := by omega
      rw [ei]; clear ei
      refine (one_at m (s + k) _ w.heap.size l.length on _ hm8 HR.out hi2 HL.out).mono ?_
      rintro e w' ⟨rfl, hb2, hr2⟩
      rw [HS.out] at hr2
      have HB2 := Lib.hid hb2; have HR2 := Lib.hid hr2; clear hb2 hr2
      go_wp2_with fail
      go_roundw
      case rel => exact ⟨k + 1, by omega, by go_num, HB.out.trans HB2.out, HR2.out⟩
      case measure => simp [intOf]; omega
    · have hk2 : k = c := by omega
      have hkc := hr.back (P := Try.prog) 39 9 5 (grownCap w l.length 0 5) Try.underlying39 Try.underlying5 Try.underlying9
      rw [HL.out] at hkc
      have HR := Lib.hid hr; clear hr
      have HB := Lib.hid hb; clear hb
      have HK := Lib.hid hk2; clear hk2
      go_wp2
      go_ret2
      exact ⟨by rw [← HK.out, HM.out]; rfl, HB.out⟩
end Go.Proofs.Ytejcmdolhmojaaa
