/- codexlaw18.ScorePages: walked: true. -/
import Derived.Test.YtcflpcpkmhljkaaGreatDoorMWShown18
import Derived.Test.YtcflpcpkmhljkaaGreatDoorHW18p
import Derived.Test.YtcflpcpkmhljkaaGreatDoorHOpenH
set_option linter.unusedSimpArgs false
set_option linter.unusedVariables false
set_option linter.unnecessarySimpa false
namespace Go.Proofs.YtcflpcpkmhljkaaGreatDoor
open Go.RowKit
set_option linter.unusedVariables false

theorem page_take (l : List HitI) (i k : Nat) (h : i < l.length) : l.take i ++ pageI l (i : Int) (k : Int) = l.take (i + k) := by
  unfold pageI
  rw [if_neg (by omega)]
  simp only [Int.toNat_natCast]
  rw [List.drop_take, show i + min k (l.length - i) - i = min k (l.length - i) by omega]
  have e : (l.drop i).take (min k (l.length - i)) = (l.drop i).take k := by
    by_cases hk : k ≤ l.length - i
    · rw [Nat.min_eq_left hk]
    · rw [Nat.min_eq_right (by omega), List.take_of_length_le (by simp), List.take_of_length_le (by simp; omega)]
  rw [e, List.take_add]
set_option maxRecDepth 100000 in
set_option maxHeartbeats 4000000 in
theorem SPages_walk (v : Value) (l : List HitI) (f s : Int) (W : World) (hv : HitsArg W v l) (hw : HitsWf l) (f0 : -9223372036854775808 ≤ f) (f1 : f ≤ 9223372036854775807) (s0 : -9223372036854775808 ≤ s) (s1 : s ≤ 9223372036854775807) (hT : Tabs W) (hSp : Spans W) :
    Calls Tryz.prog 4 #[v, .int .i64 f, .int .i64 s] W fun e w' => e = .returned (.bool true) ∧ Below W.heap.size W w' := by
  have cs := Shown18 W hT hSp
  have CS := Lib.hid cs
  clear cs hT hSp
  obtain ⟨a, cap, rfl, _⟩ := hv.1.value
  have hcap := hv.2 _ _ _ rfl
  unfold HitsWf at hw
  have HV := Lib.hid hv.1
  clear hv
  by_cases h1 : 300 < l.length
  · have h1i : (300 : Int) < (l.length : Int) := by omega
    go_enter Tryz.func4, Tryz.ntmps4
    go_wp2_with fail
    refine CS.out.mono ?_
    rintro e w1 ⟨rfl, q1⟩
    go_wp2_with fail
    go_ret
    exact ⟨rfl, q1⟩
  · have h1i : ¬ (300 : Int) < (l.length : Int) := by omega
    obtain ⟨i0, hi, hz0, hz1, hz2⟩ := info_parts tinfoHit
    have cp := fun f s W' (q : Q W W') => Page_any a cap l f s W' (HV.out.stays q) hcap (by omega)
    have cr := fun W' (q : Q W W') => RPage_any a cap l f s W' (HV.out.stays q) hcap (by omega) f0 f1 s0 s1
    have hpl := pageI_len l f s
    obtain ⟨k, hk⟩ : ∃ k : Nat, 1 + pickZ s 20 = k := ⟨(1 + pickZ s 20).toNat, by have := pickZ_in s; omega⟩
    have hk1 : 1 ≤ k ∧ k ≤ 20 := by have := pickZ_in s; omega
    have hkw : IntKind.i64.wrap (1 + pickZ s 20) = (k : Int) := by rw [hk]; exact IntWalk.i64_in _ (by omega)
    have cpk := fun W' => Pick_any s W' s0 s1
    have hpt := page_take l
    have hplk := fun i : Nat => pageI_len l (i : Int) (k : Int)
    obtain ⟨n, hn⟩ : ∃ n, n = l.length := ⟨_, rfl⟩
    rw [← hn] at cp cr hcap h1 h1i hw hpl ⊢
    have CP := Lib.hid cp; have CR := Lib.hid cr; have CPK := Lib.hid cpk; have HPT := Lib.hid hpt; have HN := Lib.hid hn; have HPLK := Lib.hid hplk
    clear cp cr cpk hpt hn hplk hk
    generalize pickZ s 20 = pz at *
    generalize hpg : pageI l f s = pg at *
    have HPG := Lib.hid hpg
    clear hpg
    go_enter Tryz.func4, Tryz.ntmps4
    go_wp2_with fail
    refine CS.out.mono ?_
    rintro e w1 ⟨rfl, q1⟩
    have HQ1 := Lib.hid q1
    clear q1 CS
    go_wp2_with fail
    refine (CP.out f s _ HQ1.out f0 f1 s0 s1).mono ?_
    rintro e w2 ⟨pv, rfl, ho, q2⟩
    rw [HPG.out] at ho
    obtain ⟨pa, pcap, rfl, _⟩ := owns_value ho
    have HQ2 := Lib.hid (HQ1.out.trans q2); have HP := Lib.hid (show HitsI w2 (.slice pa pg.length pcap) pg from Sl.of_owns ho)
    clear ho q2 HQ1
    go_wp2_with fail
    refine (CR.out _ HQ2.out).mono ?_
    rintro e w3 ⟨rv, rfl, hr, rfl⟩
    obtain ⟨ra, rcap, rfl, _⟩ := hr.value
    have c := Same18_any _ _ pg pg w2 HP.out hr (by omega) (by omega)
    rw [decide_eq_true rfl] at c
    have C := Lib.hid c
    clear c hr HP CR
    go_wp2_with fail
    refine C.out.mono ?_
    rintro e w4 ⟨rfl, q4⟩
    have HQ4 := Lib.hid (HQ2.out.trans q4)
    clear q4 C HQ2
    go_wp2_with fail
    refine (CPK.out _).mono ?_
    rintro e w5 ⟨rfl, rfl⟩
    have hsz4 : W.heap.size ≤ w4.heap.size := HQ4.out.size
    go_wp2_with fail
    go_loopw [9, 10] (fun av i wr => ∃ j : Nat, j ≤ n + 20 ∧ i = .int .i64 (j : Nat) ∧ Hid (wr.ownsRow W.heap.size 49 2 av (l.take j).length (hitIVs (l.take j))) ∧ Hid (Q W wr)) (fun _ i _ => n + 21 - (intOf i).toNat)
    case atStart => exact ⟨0, by omega, rfl, World.ownsRow_nil _ _ _ _, HQ4.out⟩
    case round =>
      obtain ⟨j, hj, rfl, HR, HQ⟩ := hrel
      obtain ⟨wo, rfl⟩ : ∃ wo : World, wo = wr := ⟨_, rfl⟩
      by_cases hlt : j < n
      · have hlt' : j < l.length := by have := HN.out; omega
        have hpt := HPT.out j k hlt'
        have hplk := HPLK.out j
        have hn := HN.out
        have htl : (l.take j).length ≤ 1000 := by rw [List.length_take]; omega
        have c := CP.out (j : Int) (k : Int) wo HQ.out (by omega) (by omega) (by omega) (by omega)
        generalize pageI l (j : Int) (k : Int) = pj at *
        generalize htj : l.take j = tj at *
        have hi1 : (j : Int) < (n : Int) := by omega
        have C := Lib.hid c; have HPJ := Lib.hid hpt
        have hpj : pj.length ≤ 1000 := by omega
        clear c hpt hn htj
        go_wp2_with fail
        refine C.out.mono ?_
        rintro e w6 ⟨xv, rfl, ho, q6⟩
        have ho6 := ownsRow_below HR.out q6
        have hsl : Sl w6 xv pj.length 2 (hitIVs pj) := Sl.of_owns ho
        have hone := hitIVs_one pj
        have HQ6 := Lib.hid (HQ.out.trans q6)
        have h63 : tj.length + pj.length ≤ maxLen := by unfold maxLen; omega
        have hbytes : (tj.length + pj.length) * 24 ≤ 140737488355328 := by omega
        have hbase : W.heap.size ≤ w6.heap.size := HQ6.out.size
        clear ho q6 HQ C HR
        go_wp2_with (at_builtin; go_must (refine wpList_append_sl w6 (by rfl) _ _ 25 (by rfl) W.heap.size 49 i0 (.agg #[strV [], .int .i64 0]) 2 24 Tryz.underlying25 hi hz0 hz1 hz2 rfl (by decide) _ _ _ (by rfl) ho6 _ _ _ (by rfl) hsl hone h63 hbytes hbase ?_))
        intro v7 w7 ho7 hg7 hat7
        have q7 := grown_below HQ6.out ho6 hg7 (Nat.le_refl _) hbase
        have ho8 : w7.ownsRow W.heap.size 49 2 v7 (l.take (j + k)).length (hitIVs (l.take (j + k))) := by
          rw [← HPJ.out, List.length_append, hitIVs_append]; exact ho7
        have HR8 := Lib.hid ho8; have HQ8 := Lib.hid q7
        clear ho7 hg7 hat7 ho8 q7 ho6 hsl hone HQ6 HPJ
        go_wp2_with fail
        go_roundw
        case rel => exact ⟨j + k, by omega, by go_num, HR8, HQ8⟩
        case measure => simp [intOf]; omega
      · have htk : l.take j = l := List.take_of_length_le (by have := HN.out; omega)
        have hr := HR.out
        rw [htk] at hr
        have hrv : HitsI wo _ l := Sl.of_owns hr
        have c := Same18_any _ _ l l wo hrv (HV.out.stays HQ.out) (by have := HN.out; omega) (by have := HN.out; omega)
        rw [decide_eq_true rfl, ← HN.out] at c
        have C := Lib.hid c
        clear c hr hrv htk HR
        go_wp2_with fail
        refine C.out.mono ?_
        rintro e w9 ⟨rfl, q9⟩
        have HQ9 := Lib.hid (HQ.out.trans q9)
        clear q9 C HQ
        go_wp2_with fail
        go_ret
        exact ⟨rfl, HQ9.out⟩
end Go.Proofs.YtcflpcpkmhljkaaGreatDoor
