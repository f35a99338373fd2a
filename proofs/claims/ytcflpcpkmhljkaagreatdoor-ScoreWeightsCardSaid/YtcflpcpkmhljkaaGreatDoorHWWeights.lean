/- codexlaw18.ScoreWeights: walked: true. -/
import Derived.Test.YtcflpcpkmhljkaaGreatDoorMWShown18
import Derived.Test.YtcflpcpkmhljkaaGreatDoorMOpen0ToTabs
set_option linter.unusedSimpArgs false
set_option linter.unusedVariables false
set_option linter.unnecessarySimpa false
namespace Go.Proofs.YtcflpcpkmhljkaaGreatDoor
open Go.RowKit
set_option linter.unusedVariables false

theorem wz_less (n k : Int) (hn : 1 ≤ n) (hk : 1 ≤ k) : weightZ n (k + 1) ≤ weightZ n k := by
  obtain ⟨a, rfl⟩ : ∃ a : Nat, n = a := ⟨n.toNat, by omega⟩
  obtain ⟨b, rfl⟩ : ∃ b : Nat, k = b := ⟨k.toNat, by omega⟩
  rw [show ((b : Int) + 1) = ((b + 1 : Nat) : Int) by omega, weightZ_nat, weightZ_nat]
  exact weight_less a b (by omega) (by omega)
theorem wz_facts (n k : Int) (hk : 1 ≤ k) (h : k ≤ n) (hn : n ≤ 2305843009213693952) : 1 ≤ weightZ n k ∧ weightZ n k ≤ 63 ∧ weightZ n n = 1 ∧ weightZ k (n + k) = 0 := by
  obtain ⟨a, rfl⟩ : ∃ a : Nat, n = a := ⟨n.toNat, by omega⟩
  obtain ⟨b, rfl⟩ : ∃ b : Nat, k = b := ⟨k.toNat, by omega⟩
  rw [show ((a : Int) + (b : Int)) = ((a + b : Nat) : Int) by omega, weightZ_nat, weightZ_nat, weightZ_nat]
  exact ⟨weight_pos a b (by omega) (by omega), weight_le a b (by omega), weight_same a (by omega), weight_none b (a + b) (by omega)⟩
set_option maxRecDepth 100000 in
set_option maxHeartbeats 4000000 in
theorem SWeights_walk (n k : Int) (W : World) (n0 : -9223372036854775808 ≤ n) (n1 : n ≤ 9223372036854775807) (k0 : -9223372036854775808 ≤ k) (k1 : k ≤ 9223372036854775807) (hT : Tabs W) (hSp : Spans W) :
    Calls Tryz.prog 3 #[.int .i64 n, .int .i64 k] W fun e w' => e = .returned (.bool true) ∧ Below W.heap.size W w' := by
  have cs := Shown18 W hT hSp
  have CS := Lib.hid cs
  clear cs hT hSp
  by_cases h1 : n < 1
  · go_enter Tryz.func3, Tryz.ntmps3
    go_wp2_with fail
    refine CS.out.mono ?_
    rintro e w1 ⟨rfl, q1⟩
    go_wp2_with fail
    go_ret
    exact ⟨rfl, q1⟩
  · by_cases h2 : k < 1
    · go_enter Tryz.func3, Tryz.ntmps3
      go_wp2_with fail
      refine CS.out.mono ?_
      rintro e w1 ⟨rfl, q1⟩
      go_wp2_with fail
      go_ret
      exact ⟨rfl, q1⟩
    · by_cases h3 : n < k
      · go_enter Tryz.func3, Tryz.ntmps3
        go_wp2_with fail
        refine CS.out.mono ?_
        rintro e w1 ⟨rfl, q1⟩
        go_wp2_with fail
        go_ret
        exact ⟨rfl, q1⟩
      · by_cases h4 : 2305843009213693952 < n
        · go_enter Tryz.func3, Tryz.ntmps3
          go_wp2_with fail
          refine CS.out.mono ?_
          rintro e w1 ⟨rfl, q1⟩
          go_wp2_with fail
          go_ret
          exact ⟨rfl, q1⟩
        · obtain ⟨f1, f2, f3, f4⟩ := wz_facts n k (by omega) (by omega) (by omega)
          have cA := fun W => Weight_any n k W (by omega) (by omega) (by omega) (by omega)
          have cB := fun W => Weight_any n (k - 1) W (by omega) (by omega) (by omega) (by omega)
          have cC := fun W => Weight_any n (k + 1) W (by omega) (by omega) (by omega) (by omega)
          have cD := fun W => Weight_any n n W (by omega) (by omega) (by omega) (by omega)
          have cE := fun W => Weight_any k (n + k) W (by omega) (by omega) (by omega) (by omega)
          have g1 : 1 < k → weightZ n k ≤ weightZ n (k - 1) := fun h => by have := wz_less n (k - 1) (by omega) (by omega); rwa [show k - 1 + 1 = k by omega] at this
          have g2 := wz_less n k (by omega) (by omega)
          rw [f3] at cD
          rw [f4] at cE
          generalize weightZ n k = wa at *
          generalize weightZ n (k - 1) = wb at *
          generalize weightZ n (k + 1) = wc at *
          have CA := Lib.hid cA; have CB := Lib.hid cB; have CC := Lib.hid cC; have CD := Lib.hid cD; have CE := Lib.hid cE
          have r1 : IntKind.i64.wrap (k - 1) = k - 1 := IntWalk.i64_in _ (by omega)
          have r2 : IntKind.i64.wrap (k + 1) = k + 1 := IntWalk.i64_in _ (by omega)
          have r3 : IntKind.i64.wrap (n + k) = n + k := IntWalk.i64_in _ (by omega)
          clear cA cB cC cD cE f3 f4
          by_cases h5 : 1 < k
          · have g3 := g1 h5
            clear g1
            by_cases h6 : k < n
            · go_enter Tryz.func3, Tryz.ntmps3
              go_wp2_with fail
              refine CS.out.mono ?_
              rintro e w1 ⟨rfl, q1⟩
              go_wp2_with (first | (go_at_call 12; (with_reducible refine (CA.out _).mono ?_); rintro e w' ⟨rfl, rfl⟩) | (go_at_call 12; (with_reducible refine (CB.out _).mono ?_); rintro e w' ⟨rfl, rfl⟩) | (go_at_call 12; (with_reducible refine (CC.out _).mono ?_); rintro e w' ⟨rfl, rfl⟩) | (go_at_call 12; (with_reducible refine (CD.out _).mono ?_); rintro e w' ⟨rfl, rfl⟩) | (go_at_call 12; (with_reducible refine (CE.out _).mono ?_); rintro e w' ⟨rfl, rfl⟩))
              go_ret
              exact ⟨rfl, q1⟩
            · go_enter Tryz.func3, Tryz.ntmps3
              go_wp2_with fail
              refine CS.out.mono ?_
              rintro e w1 ⟨rfl, q1⟩
              go_wp2_with (first | (go_at_call 12; (with_reducible refine (CA.out _).mono ?_); rintro e w' ⟨rfl, rfl⟩) | (go_at_call 12; (with_reducible refine (CB.out _).mono ?_); rintro e w' ⟨rfl, rfl⟩) | (go_at_call 12; (with_reducible refine (CC.out _).mono ?_); rintro e w' ⟨rfl, rfl⟩) | (go_at_call 12; (with_reducible refine (CD.out _).mono ?_); rintro e w' ⟨rfl, rfl⟩) | (go_at_call 12; (with_reducible refine (CE.out _).mono ?_); rintro e w' ⟨rfl, rfl⟩))
              go_ret
              exact ⟨rfl, q1⟩
          · clear g1
            by_cases h6 : k < n
            · go_enter Tryz.func3, Tryz.ntmps3
              go_wp2_with fail
              refine CS.out.mono ?_
              rintro e w1 ⟨rfl, q1⟩
              go_wp2_with (first | (go_at_call 12; (with_reducible refine (CA.out _).mono ?_); rintro e w' ⟨rfl, rfl⟩) | (go_at_call 12; (with_reducible refine (CB.out _).mono ?_); rintro e w' ⟨rfl, rfl⟩) | (go_at_call 12; (with_reducible refine (CC.out _).mono ?_); rintro e w' ⟨rfl, rfl⟩) | (go_at_call 12; (with_reducible refine (CD.out _).mono ?_); rintro e w' ⟨rfl, rfl⟩) | (go_at_call 12; (with_reducible refine (CE.out _).mono ?_); rintro e w' ⟨rfl, rfl⟩))
              go_ret
              exact ⟨rfl, q1⟩
            · go_enter Tryz.func3, Tryz.ntmps3
              go_wp2_with fail
              refine CS.out.mono ?_
              rintro e w1 ⟨rfl, q1⟩
              go_wp2_with (first | (go_at_call 12; (with_reducible refine (CA.out _).mono ?_); rintro e w' ⟨rfl, rfl⟩) | (go_at_call 12; (with_reducible refine (CB.out _).mono ?_); rintro e w' ⟨rfl, rfl⟩) | (go_at_call 12; (with_reducible refine (CC.out _).mono ?_); rintro e w' ⟨rfl, rfl⟩) | (go_at_call 12; (with_reducible refine (CD.out _).mono ?_); rintro e w' ⟨rfl, rfl⟩) | (go_at_call 12; (with_reducible refine (CE.out _).mono ?_); rintro e w' ⟨rfl, rfl⟩))
              go_ret
              exact ⟨rfl, q1⟩
end Go.Proofs.YtcflpcpkmhljkaaGreatDoor
