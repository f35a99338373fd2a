/- trial -/
import Derived.Test.YtejcmdolhmojaaaJ
namespace Go.Proofs.Ytejcmdolhmojaaa
open Go.RowKit
set_option linter.unusedVariables false

theorem head_long {f : FuncId} : True := trivial

set_option maxHeartbeats 2000000 in
theorem walk_BitmapBits (b : List UInt8) (n i start count : Int) (on : Bool) (w : World) (hb : b.length ≤ 9223372036854775807)
    (n1 : -9223372036854775808 ≤ n) (n2 : n ≤ 9223372036854775807) (i1 : -9223372036854775808 ≤ i) (i2 : i ≤ 9223372036854775807)
    (s1 : -9223372036854775808 ≤ start) (s2 : start ≤ 9223372036854775807) (c1 : -9223372036854775808 ≤ count) (c2 : count ≤ 9223372036854775807) :
    Calls Try.prog 3 #[.string ⟨b.toArray⟩, .int .i64 n, .int .i64 i, .int .i64 start, .int .i64 count, .bool on] w fun e w' => e = .returned (.bool true) ∧ Below w.heap.size w w' := by
  by_cases hl : b.length ≤ 1000
  · have hb8 : b.length ≤ 9223372036854775807 / 8 := by omega
    have S := fun w => set_any b start count on w hb8
    have RS := fun w => rset_any b start count on w hb8
    generalize setL b start count on = sl at *
    generalize setOk b start count = so at *
    have S := Lib.hid S; have RS := Lib.hid RS
    go_enter Try.func3, Try.ntmps3
    go_wp2_with fail
    refine (shown_any _).mono ?_
    rintro e w1 ⟨rfl, q1⟩
    go_wp2_with fail
    refine (S.out _).mono ?_
    rintro e w2 ⟨rfl, q2⟩
    go_wp2_with fail
    refine (RS.out _).mono ?_
    rintro e w3 ⟨rfl, q3⟩
    go_wp2_with fail
    refine (make_any n _).mono ?_
    rintro e w4 ⟨rfl, q4⟩
    go_wp2_with fail
    refine (rmake_any n _).mono ?_
    rintro e w5 ⟨rfl, q5⟩
    have HQ := Lib.hid ((((q1.trans q2).trans q3).trans q4).trans q5)
    clear q1 q2 q3 q4 q5
    go_wp2_with fail
    refine (get_any b i _ hb i2).mono ?_
    rintro e w' ⟨rfl, rfl⟩
    go_wp2_with fail
    refine (rget_any b i _ hb i2).mono ?_
    rintro e w' ⟨rfl, rfl⟩
    go_wp2_with fail
    go_ret
    exact ⟨rfl, HQ.out⟩
  · go_enter Try.func3, Try.ntmps3
    go_wp2_with fail
    refine (shown_any _).mono ?_
    rintro e w1 ⟨rfl, q1⟩
    go_wp2_with fail
    go_ret
    exact ⟨rfl, q1⟩
end Go.Proofs.Ytejcmdolhmojaaa
