/- trial -/
import Derived.Test.YtejcmdolhmojaaaRows
import Derived.Test.YtejcmdolhmojaaaBase
import Derived.WalkKit
import Derived.WalkSpells
import Derived.WalkLawsBesides
namespace Go.Proofs.Ytejcmdolhmojaaa
open Go.RowKit

set_option maxHeartbeats 400000 in
theorem get_pos (l : List UInt8) (i : Int) (w : World) (hs : l.length ≤ 9223372036854775807) (hi : 0 ≤ i) (hi3 : i ≤ 9223372036854775807) (hi2 : i / 8 < l.length) :
    Calls Try.prog 14 #[.string ⟨l.toArray⟩, .int .i64 i] w fun e w' => e = .returned (.bool (bitI l i)) ∧ w = w' := by
  go_enter Try.func14, Try.ntmps14
  go_wp2
  go_ret
  refine ⟨?_, rfl⟩
  rw [bitI_in l i hi (by omega), ← walk_bit _ _ (UInt8.toNat_lt _)]
  rfl

set_option maxHeartbeats 400000 in
theorem get_neg (l : List UInt8) (i : Int) (w : World) (hs : l.length ≤ 9223372036854775807) (hi : i < 0) :
    Calls Try.prog 14 #[.string ⟨l.toArray⟩, .int .i64 i] w fun e w' => e = .returned (.bool (bitI l i)) ∧ w = w' := by
  have h := bitI_neg l i hi
  have H := Lib.hid h; clear h
  go_enter Try.func14, Try.ntmps14
  go_wp2
  go_ret
  exact ⟨by rw [H.out]; rfl, rfl⟩

set_option maxHeartbeats 400000 in
theorem get_ge (l : List UInt8) (i : Int) (w : World) (hs : l.length ≤ 9223372036854775807) (hi : 0 ≤ i) (hi3 : i ≤ 9223372036854775807) (hi2 : l.length ≤ i / 8) :
    Calls Try.prog 14 #[.string ⟨l.toArray⟩, .int .i64 i] w fun e w' => e = .returned (.bool (bitI l i)) ∧ w = w' := by
  have h := bitI_ge l i (by omega)
  have H := Lib.hid h; clear h
  go_enter Try.func14, Try.ntmps14
  go_wp2
  go_ret
  exact ⟨by rw [H.out]; rfl, rfl⟩

theorem get_any (l : List UInt8) (i : Int) (w : World) (hs : l.length ≤ 9223372036854775807) (hi3 : i ≤ 9223372036854775807) :
    Calls Try.prog 14 #[.string ⟨l.toArray⟩, .int .i64 i] w fun e w' => e = .returned (.bool (bitI l i)) ∧ w = w' := by
  by_cases h : i < 0
  · exact get_neg l i w hs h
  · by_cases h2 : i / 8 < l.length
    · exact get_pos l i w hs (by omega) hi3 h2
    · exact get_ge l i w hs (by omega) hi3 (by omega)
end Go.Proofs.Ytejcmdolhmojaaa
