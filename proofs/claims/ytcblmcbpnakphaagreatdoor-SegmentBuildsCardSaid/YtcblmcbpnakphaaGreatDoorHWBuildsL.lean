/- codexlaw14.SegmentBuilds: walked. -/
import Derived.Test.YtcblmcbpnakphaaGreatDoorMShown14ToWShown14
import Derived.Test.YtcblmcbpnakphaaGreatDoorHWRef14d
set_option linter.unusedSimpArgs false
set_option linter.unusedVariables false
set_option linter.unnecessarySimpa false
namespace Go.Proofs.YtcblmcbpnakphaaGreatDoor
open Go.RowKit
set_option linter.unusedVariables false

set_option maxRecDepth 100000 in
set_option maxHeartbeats 8000000 in
theorem BuildsL_walk (v : Value) (l : List DocL) (w : World) (hv : Docs w v l) (hlw : l.length ≤ 9223372036854775807 ∧ ∀ d ∈ l, d.1.length ≤ 9223372036854775807 ∧ d.2.length ≤ 9223372036854775807) (hT : Tabs w) (hSp : Spans w) :
    Calls Tryz.prog 4 #[v] w fun e w' => e = .returned (.bool true) ∧ Q w w' := by
  have csh := Shown14 w hT hSp
  have csm := fun W (q : Q w W) => small14_any v l W (hv.stays q) hlw.1 hlw.2
  have cb := fun W (q : Q w W) => Build_any v l W (hv.stays q) hlw.1 hlw.2 (hT.stays q) (hSp.stays q)
  have crb := fun W (q : Q w W) => RBuild_any v l W (hv.stays q) hlw.1 hlw.2
  have crr := fun (k : Nat) (hk : k < l.length) W (q : Q w W) => Right_any l[k].1 l[k].2 W (hlw.2 _ (List.getElem_mem hk)).1 (hlw.2 _ (List.getElem_mem hk)).2 (hT.stays q)
  have crr2 := fun (k : Nat) (hk : k < l.length) W => RRight14_any l[k].1 l[k].2 W (hlw.2 _ (List.getElem_mem hk)).1 (hlw.2 _ (List.getElem_mem hk)).2
  obtain ⟨a, cap, rfl, hcell⟩ := hv.value
  generalize hbs : buildS l = bs at *
  obtain ⟨sg, er⟩ := bs
  have hmx : Tryz.prog.follows .mixedOrders = true := by kernel_rfl
  have CSH := Lib.hid csh; have CSM := Lib.hid csm; have CB := Lib.hid cb; have CRB := Lib.hid crb; have CR1 := Lib.hid crr; have CR2 := Lib.hid crr2; have HC := Lib.hid hcell
  clear csh csm cb crb crr crr2 hcell hT hSp hv hbs
  go_enter Tryz.func4, Tryz.ntmps4
  go_wp2_with fail
  refine CSH.out.mono ?_
  rintro e w1 ⟨rfl, q1⟩
  have HQ1 := Lib.hid q1
  clear q1
  go_wp2_with fail
  refine (CSM.out _ HQ1.out).mono ?_
  rintro e w2 ⟨rfl, q2⟩
  have HQ2 := Lib.hid (HQ1.out.trans q2)
  clear q2 HQ1
  cases hs : small4 l with
  | false =>
    go_wp2_with fail
    go_ret
    exact ⟨rfl, HQ2.out⟩
  | true =>
    have hl40 : l.length ≤ 40 := by
      unfold small4 at hs
      simp only [Bool.and_eq_true, decide_eq_true_eq] at hs
      exact hs.1
    clear hs
    go_wp2_with fail
    refine (CB.out _ HQ2.out).mono ?_
    rintro e w3 ⟨rfl, q3⟩
    have HQ3 := Lib.hid (HQ2.out.trans q3)
    clear q3 HQ2 CB
    go_wp2_with fail
    refine (CRB.out _ HQ3.out).mono ?_
    rintro e w4 ⟨rfl, q4⟩
    have HQ4 := Lib.hid (HQ3.out.trans q4)
    clear q4 HQ3 CRB
    go_wp2_with fail
    go_loopw [9] (fun i wr => ∃ k : Nat, k ≤ l.length ∧ i = .int .i64 (k : Nat) ∧ Hid (Q w wr)) (fun i _ => l.length - (intOf i).toNat)
    case atStart => exact ⟨0, by omega, rfl, HQ4.out⟩
    case round =>
      obtain ⟨k, hk, rfl, HQ⟩ := hrel
      obtain ⟨wo, rfl⟩ : ∃ wo : World, wo = wr := ⟨_, rfl⟩
      by_cases hlt : k < l.length
      · obtain ⟨b, of, rfl, hcc⟩ := HC.out (by omega)
        obtain ⟨z0, z1⟩ := hcc k hlt
        have d0 := cell_stays HQ.out z0
        have d1 := cell_stays HQ.out z1
        have hki : (k : Int) < (l.length : Int) := by omega
        have hk0 : (0 : Int) ≤ (k : Int) := by omega
        have c1 := CR1.out k hlt
        have c2 := CR2.out k hlt
        clear hcc
        generalize rightB l[k].1 l[k].2 = rb at *
        generalize l[k] = x at *
        obtain ⟨id, tx⟩ := x
        simp only at z0 z1 d0 d1 c1 c2
        have C1 := Lib.hid c1; have C2 := Lib.hid c2; have Z0 := Lib.hid z0; have Z1 := Lib.hid z1
        clear c1 c2 z0 z1
        have KK := HQ
        have hne : (rb == rb) = true := by cases rb <;> rfl
        go_wp2_with fail
        go_region_held3 (fun w' => w'.cell? ⟨b, of + k * 2, none⟩ = some (strV id) ∧ w'.cell? ⟨b, of + k * 2 + 1, none⟩ = some (strV tx)) (first | exact ⟨d0, d1⟩ | exact ⟨cell_stays (Q.drew _) d0, cell_stays (Q.drew _) d1⟩ | exact ⟨cell_stays KK.out Z0.out, cell_stays KK.out Z1.out⟩ | exact ⟨cell_stays (KK.out.trans (Q.drew _)) Z0.out, cell_stays (KK.out.trans (Q.drew _)) Z1.out⟩)
          (first
            | (go_at_call 23; ((with_reducible refine (C1.out _ (by first | exact KK.out | exact KK.out.trans (Q.drew _))).mono ?_); rintro e w' ⟨rfl, q⟩); have s' : Q w w' := Q.trans (by first | exact KK.out | exact KK.out.trans (Q.drew _)) q; clear KK; have KK := Lib.hid s'; clear s' q)
            | (go_at_call 24; ((with_reducible refine (C2.out _).mono ?_); rintro e w' ⟨rfl, q⟩); have s' : Q w w' := Q.trans (by first | exact KK.out | exact KK.out.trans (Q.drew _)) q; clear KK; have KK := Lib.hid s'; clear s' q))
        all_goals
          clear d0 d1
          go_wp2_with fail
          go_roundw
          case rel => exact ⟨k + 1, by omega, by go_num, KK⟩
          case measure => simp [intOf]; omega
      · have hke : k = l.length := by omega
        subst hke
        go_wp2_with fail
        go_ret
        exact ⟨rfl, HQ.out⟩
end Go.Proofs.YtcblmcbpnakphaaGreatDoor
