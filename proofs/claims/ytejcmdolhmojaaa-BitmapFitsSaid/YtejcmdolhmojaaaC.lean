/- trial -/
import Derived.Test.YtejcmdolhmojaaaRows
import Derived.Test.YtejcmdolhmojaaaBase
import Derived.WalkKit
import Derived.WalkSpells
import Derived.WalkLawsBesides
import Derived.Outline
namespace Go.Proofs.Ytejcmdolhmojaaa
open Go.RowKit
set_option linter.unusedVariables false

/-- what a round of 'Set' does to the row -/
theorem set_rel_on {w0 wr : World} {B : Nat} {l m : List UInt8} (s k x : Nat) (hr : ByteRow wr B m) (hm : setTo l s true k = m) (hx : x < 256) (hv : (m.getD ((s + k) / 8) 0).toNat = x) :
    ByteRow ((wr.setCell ⟨B, (s + k) / 8, none⟩ (.int .u8 (bits BinOp.andNot .u8 x (2 ^ ((s + k) % 8) % 256)))).setCell ⟨B, (s + k) / 8, none⟩
      (.int .u8 (bits BinOp.or .u8 (bits BinOp.andNot .u8 x (2 ^ ((s + k) % 8) % 256)) (2 ^ ((s + k) % 8) % 256)))) B (setTo l s true (k + 1)) := by
  have hk : (s + k) % 8 < 8 := Nat.mod_lt _ (by omega)
  rw [walk_turn x _ hx hk, walk_clear x _ hx hk]
  have h1 := hr.set ((s + k) / 8) _ (UInt8.ofNat (byteSet x ((s + k) % 8) false)) (ofNat_toNat _ (byteSet_lt _ _ _ hx hk)).symm
  have h2 := h1.set ((s + k) / 8) _ (UInt8.ofNat (byteSet x ((s + k) % 8) true)) (ofNat_toNat _ (byteSet_lt _ _ _ hx hk)).symm
  rw [set_set] at h2
  rw [setTo, hm, setBit, hv]
  exact h2
theorem set_rel_off {w0 wr : World} {B : Nat} {l m : List UInt8} (s k x : Nat) (hr : ByteRow wr B m) (hm : setTo l s false k = m) (hx : x < 256) (hv : (m.getD ((s + k) / 8) 0).toNat = x) :
    ByteRow (wr.setCell ⟨B, (s + k) / 8, none⟩ (.int .u8 (bits BinOp.andNot .u8 x (2 ^ ((s + k) % 8) % 256)))) B (setTo l s false (k + 1)) := by
  have hk : (s + k) % 8 < 8 := Nat.mod_lt _ (by omega)
  rw [walk_clear x _ hx hk]
  have h1 := hr.set ((s + k) / 8) _ (UInt8.ofNat (byteSet x ((s + k) % 8) false)) (ofNat_toNat _ (byteSet_lt _ _ _ hx hk)).symm
  rw [setTo, hm, setBit, hv]
  exact h1

set_option maxHeartbeats 400000 in
theorem set_ok (l : List UInt8) (s c : Nat) (on : Bool) (w : World) (hs : l.length ≤ 9223372036854775807 / 8) (h2 : c + s ≤ 8 * l.length) :
    Calls Try.prog 10 #[.string ⟨l.toArray⟩, .int .i64 s, .int .i64 c, .bool on] w fun e w' => e = .returned (.tuple #[.string ⟨(setTo l s on c).toArray⟩, .bool true]) ∧ Below w.heap.size w w' := by
  have kc := fun (w : World) (s : ByteArray) => run_bytes_of_string (P := Try.prog) w 9 39 5 s Try.underlying9 Try.underlying39 Try.underlying5
  have H1 : ¬ (8 * (l.length : Int)) < s := by omega
  have H2 : ¬ (8 * (l.length : Int) - s) < c := by omega
  go_enter Try.func10, Try.ntmps10
  go_wp2
  go_loopw [38] (fun i wr => ∃ k : Nat, k ≤ c ∧ i = .int .i64 k ∧ Below w.heap.size w wr ∧ ByteRow wr w.heap.size (setTo l s on k)) (fun i _ => c - (intOf i).toNat)
  case atStart => exact ⟨0, by omega, rfl, (Below.refl _ _).alloc (Nat.le_refl _) _ |>.drew, ByteRow.made _ _ _ _⟩
  case round =>
    obtain ⟨k, hk, rfl, hb, hr⟩ := hrel
    have hl := length_setTo l s on k
    generalize hm : setTo l s on k = m at *
    have HL := Lib.hid hl; clear hl
    have HM := Lib.hid hm; clear hm
    by_cases hlt : k < c
    · have hi2 : (s + k) / 8 < l.length := by omega
      obtain ⟨x, hx, HV, hc, hf⟩ := hr.at ((s + k) / 8) (by rw [HL.out]; omega)
      have HR := Lib.hid hr; clear hr
      have HB := Lib.hid hb; clear hb
      cases on
      · go_wp2
        go_region
        go_wp2
        refine ⟨⟨k + 1, by omega, by go_num, ((HB.out.setCell (Nat.le_refl _) _).drew), ?_⟩, by simp [intOf]; omega⟩
        exact set_rel_off (w0 := w) s k x HR.out HM.out hx HV.out
      · go_wp2
        go_region
        go_wp2
        go_region
        go_wp2
        refine ⟨⟨k + 1, by omega, by go_num, (((HB.out.setCell (Nat.le_refl _) _).setCell (Nat.le_refl _) _).drew).drew, ?_⟩, by simp [intOf]; omega⟩
        exact set_rel_on (w0 := w) s k x HR.out HM.out hx HV.out
    · have hk2 : k = c := by omega
      have hkc := hr.back (P := Try.prog) 39 9 5 (grownCap w l.length 0 5) Try.underlying39 Try.underlying5 Try.underlying9
      rw [HL.out] at hkc
      have HR := Lib.hid hr; clear hr
      have HB := Lib.hid hb; clear hb
      have HK := Lib.hid hk2; clear hk2
      go_wp2
      go_ret2
      exact ⟨by rw [← HK.out, HM.out]; rfl, HB.out⟩
end Go.Proofs.Ytejcmdolhmojaaa
