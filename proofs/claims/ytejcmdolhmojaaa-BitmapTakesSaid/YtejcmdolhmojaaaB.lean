/- trial -/
import Derived.Test.YtejcmdolhmojaaaRows
import Derived.Test.YtejcmdolhmojaaaBase
import Derived.WalkKit
import Derived.WalkSpells
import Derived.WalkLawsBesides
import Derived.Outline
namespace Go.Proofs.Ytejcmdolhmojaaa
open Go.RowKit
set_option linter.unusedVariables false

set_option maxHeartbeats 400000 in
theorem rget_in (l : List UInt8) (i : Int) (w : World) (hs : l.length ≤ 9223372036854775807) (hi : 0 ≤ i) (hi3 : i ≤ 9223372036854775807) (hi2 : i / 8 < l.length) :
    Calls Try.prog 15 #[.string ⟨l.toArray⟩, .int .i64 i] w fun e w' => e = .returned (.bool (bitI l i)) ∧ w = w' := by
  have hx : (l[(i / 8).toNat]'(by omega)).toNat < 256 := UInt8.toNat_lt _
  have hb := bitI_in l i hi (by omega)
  generalize hv : (l[(i / 8).toNat]'(by omega)).toNat = x at *
  have HB := Lib.hid hb; clear hb
  have HV := Lib.hid hv; clear hv
  have H0 : 0 ≤ i / 8 := by omega
  have H1 : 0 ≤ i % 8 := by omega
  have H2 : i % 8 < 8 := by omega
  go_enter Try.func15, Try.ntmps15
  go_wp2
  go_loop [5, 6] (fun v k => ∃ j : Nat, j ≤ (i % 8).toNat ∧ k = .int .i64 j ∧ v = .int .i64 ((x / 2 ^ j : Nat) : Int)) (fun _ k => 8 - (intOf k).toNat)
  case atStart => exact ⟨0, Nat.zero_le _, rfl, by rw [w64b, ← HV.out]; simp; rfl⟩
  case round =>
    obtain ⟨j, hj, rfl, rfl⟩ := hrel
    have hd := div_two_pow x j
    have hxj : x / 2 ^ j ≤ x := Nat.div_le_self _ _
    have HD := Lib.hid hd; clear hd
    generalize hy : x / 2 ^ j = y at *
    have HY := Lib.hid hy; clear hy
    by_cases hlt : j < (i % 8).toNat
    · go_wp2
      go_round
      case rel => exact ⟨j + 1, by omega, by go_num, by rw [HD.out]⟩
      case measure => simp [intOf]; omega
    · go_wp2
      go_ret
      have e : j = (i % 8).toNat := by omega
      refine ⟨ret_bool ?_, rfl⟩
      rw [HB.out, ← e, ← mod_two_one, HY.out]
set_option maxHeartbeats 400000 in
theorem rget_neg (l : List UInt8) (i : Int) (w : World) (hi : i < 0) :
    Calls Try.prog 15 #[.string ⟨l.toArray⟩, .int .i64 i] w fun e w' => e = .returned (.bool (bitI l i)) ∧ w = w' := by
  have h := bitI_neg l i hi
  have H := Lib.hid h; clear h
  go_enter Try.func15, Try.ntmps15
  go_wp2
  go_ret
  exact ⟨by rw [H.out]; rfl, rfl⟩

set_option maxHeartbeats 400000 in
theorem rget_ge (l : List UInt8) (i : Int) (w : World) (hs : l.length ≤ 9223372036854775807) (hi : 0 ≤ i) (hi3 : i ≤ 9223372036854775807) (hi2 : l.length ≤ i / 8) :
    Calls Try.prog 15 #[.string ⟨l.toArray⟩, .int .i64 i] w fun e w' => e = .returned (.bool (bitI l i)) ∧ w = w' := by
  have h := bitI_ge l i (by omega)
  have H := Lib.hid h; clear h
  go_enter Try.func15, Try.ntmps15
  go_wp2
  go_ret
  exact ⟨by rw [H.out]; rfl, rfl⟩

theorem rget_any (l : List UInt8) (i : Int) (w : World) (hs : l.length ≤ 9223372036854775807) (hi3 : i ≤ 9223372036854775807) :
    Calls Try.prog 15 #[.string ⟨l.toArray⟩, .int .i64 i] w fun e w' => e = .returned (.bool (bitI l i)) ∧ w = w' := by
  by_cases h : i < 0
  · exact rget_neg l i w h
  · by_cases h2 : i / 8 < l.length
    · exact rget_in l i w hs (by omega) hi3 h2
    · exact rget_ge l i w hs (by omega) hi3 (by omega)
end Go.Proofs.Ytejcmdolhmojaaa
