/- the walk of BitmapFits -/
import Derived.Test.YtejcmdolhmojaaaJ
import Derived.Test.YtejcmdolhmojaaaBase3
namespace Go.Proofs.Ytejcmdolhmojaaa
open Go.RowKit
set_option linter.unusedVariables false

set_option maxHeartbeats 2000000 in
theorem walk_BitmapFits (b : List UInt8) (n count : Int) (w : World) (hb : b.length ≤ 9223372036854775807)
    (n1 : -9223372036854775808 ≤ n) (n2 : n ≤ 9223372036854775807) (c1 : -9223372036854775808 ≤ count) (c2 : count ≤ 9223372036854775807) :
    Calls Try.prog 4 #[.string ⟨b.toArray⟩, .int .i64 n, .int .i64 count] w fun e w' => e = .returned (.bool true) ∧ Below w.heap.size w w' := by
  by_cases hl : b.length ≤ 1000
  · have hb8 : b.length ≤ 9223372036854775807 / 8 := by omega
    have hb9 : b.length ≤ 1099511627776 := by omega
    have F := fun w => Fit_any b n count w hb9 n1 n2
    have RF := fun w => rFit_any b n count w hb9 n1 n2
    have E := fun w => Free_any b n w hb8 n1 n2
    have RE := fun w => rFree_any b n w hb8 n1 n2
    have U := fun w => Runs_any b n w hb9 n1 n2
    have RU := fun w => rRuns_any b n w hb9 n1 n2
    have hlen : (runsTo b (firstN b n)).length ≤ 9223372036854775807 := by
      have h1 := runsTo_length b (firstN b n)
      have h2 := firstN_le b n
      omega
    generalize fitR b n count = R at *
    generalize cnt b (firstN b n) = C at *
    generalize runsTo b (firstN b n) = rs at *
    have F := Lib.hid F; have RF := Lib.hid RF; have E := Lib.hid E; have RE := Lib.hid RE; have U := Lib.hid U; have RU := Lib.hid RU
    go_enter Try.func4, Try.ntmps4
    go_wp2_with fail
    refine (shown_any _).mono ?_
    rintro e w1 ⟨rfl, q1⟩
    go_wp2_with fail
    refine (F.out _).mono ?_
    rintro e w2 ⟨rfl, q2⟩
    go_wp2_with fail
    refine (RF.out _).mono ?_
    rintro e w3 ⟨rfl, q3⟩
    go_wp2_with fail
    refine (E.out _).mono ?_
    rintro e w4 ⟨rfl, q4⟩
    go_wp2_with fail
    refine (RE.out _).mono ?_
    rintro e w' ⟨rfl, rfl⟩
    have HQ := Lib.hid (((q1.trans q2).trans q3).trans q4)
    clear q1 q2 q3 q4
    go_wp2_with fail
    refine (U.out _).mono ?_
    rintro e w5 ⟨v5, rfl, q5, o5⟩
    have HO5 := Lib.hid o5
    have HQ5 := Lib.hid (HQ.out.trans q5)
    have Hz := q5.size
    clear o5 HQ q5
    go_wp2_with fail
    refine (RU.out _).mono ?_
    rintro e w6 ⟨v6, rfl, q6, o6⟩
    have HO6 := Lib.hid (o6.mono Hz)
    have HO7 := Lib.hid (ownsRow_below HO5.out q6)
    have HQ6 := Lib.hid (HQ5.out.trans q6)
    clear o6 HQ5 q6 Hz
    go_wp2_with fail
    refine (same_any v5 v6 w4.heap.size rs rs _ HO7.out HO6.out hlen hlen).mono ?_
    rintro e w7 ⟨rfl, q7⟩
    have HQ7 := Lib.hid (HQ6.out.trans q7)
    clear q7
    go_wp2_with fail
    go_ret
    exact ⟨by simp, HQ7.out⟩
  · go_enter Try.func4, Try.ntmps4
    go_wp2_with fail
    refine (shown_any _).mono ?_
    rintro e w1 ⟨rfl, q1⟩
    go_wp2_with fail
    go_ret
    exact ⟨rfl, q1⟩
end Go.Proofs.Ytejcmdolhmojaaa
