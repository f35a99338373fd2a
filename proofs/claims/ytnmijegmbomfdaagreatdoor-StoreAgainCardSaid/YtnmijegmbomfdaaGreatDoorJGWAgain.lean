/- Joined texts of one proof: what is needed of WAgain. -/
import Derived.Test.YtnmijegmbomfdaaGreatDoorJStt7
set_option linter.unusedSimpArgs false
set_option linter.unusedVariables false
set_option linter.unnecessarySimpa false
set_option maxRecDepth 100000
set_option maxHeartbeats 16000000
namespace Go.Proofs.YtnmijegmbomfdaaGreatDoor
section
open Go.RowKit
theorem Again_walk (v : Value) (l : List Act7) (m : Int) (w : World) (hv : Acts7 w v l) (hl : Acts7Wf l) (m0 : -9223372036854775808 ≤ m) (m1 : m ≤ 9223372036854775807) :
    Calls Tryz.prog 6 #[v, .int .i64 m] w fun e w' => e = .returned (.bool true) ∧ Below w.heap.size w w' := by
  have hsh := fun (W : World) => Shown7_any W
  have hsm := fun (W : World) (q : Q w W) => Small7_any v l W (hv.stays q) hl
  have hbg := fun (W : World) => Begin7_any W 64 (by decide)
  obtain ⟨va, vc, rfl, hcell⟩ := hv.value
  have hwf := hl.2
  have HSH := Lib.hid hsh; have HSM := Lib.hid hsm; have HBG := Lib.hid hbg; have HCE := Lib.hid hcell; have HWF := Lib.hid hwf
  have hl0 := hl.1
  have hpm : ∀ W, Calls Tryz.prog 13 #[.int .i64 m, .int .i64 900] W fun e w' => e = .returned (.int .i64 (pickZ m 900 : Nat)) ∧ W = w' := fun W => Pick7_any m 900 W m0 m1 (by decide) (by decide)
  have HPM := Lib.hid hpm
  have hml := pickZ_lt m 900 (by decide)
  clear hpm
  generalize pickZ m 900 = pm at *
  clear hsh hsm hbg hcell hwf hv hl
  go_enter Tryz.func6, Tryz.ntmps6
  go_wp2_with fail
  refine (HSH.out _).mono ?_
  rintro e w1 ⟨rfl, q1⟩
  have Q1 := Lib.hid q1
  clear q1
  go_wp2_with fail
  refine (HSM.out _ Q1.out).mono ?_
  rintro e w2 ⟨rfl, rfl⟩
  cases hsb : small7B l with
  | false =>
    go_wp2_with fail
    go_ret
    exact ⟨rfl, Q1.out⟩
  | true =>
    obtain ⟨hl80, hkeep⟩ := small7_wf hsb
    clear hsb hkeep
    have HBG1 := Lib.hid (HBG.out w1)
    rw [show ((64 : Nat) : Int) = 64 from rfl] at HBG1
    go_wp2_with fail
    refine HBG1.out.mono ?_
    rintro e w3 ⟨wb, sb, b, mb, rs, rb, rfl, hB⟩
    have HW0 := Lib.hid (show WAt w1 w3 wb sb b (startS 132) (2 * 0) from hB.w)
    clear hB
    go_wp2_with fail
    go_loopw [10] (fun i wr => ∃ (k : Nat) (σ : StL), i = .int .i64 (k : Nat) ∧ k ≤ l.length ∧ Hid (WAt w1 wr wb sb b σ (2 * k)) ∧ Hid (Good7 k σ)) (fun i _ => l.length - (intOf i).toNat)
    case atStart => exact ⟨0, startS 132, rfl, Nat.zero_le _, HW0, Lib.hid good7_start⟩
    case round =>
      obtain ⟨k, σ, rfl, hk, HW, HG⟩ := hrel
      by_cases hlt : k < l.length
      · have hki : (k : Int) < (l.length : Int) := by omega
        have hk0 : (0 : Int) ≤ (k : Int) := by omega
        obtain ⟨g, off, rfl, hc⟩ := HCE.out (by omega)
        obtain ⟨kv, x0, x1, x2, x3, x4, hbs⟩ := hc k hlt
        obtain ⟨ka2, kc2, rfl⟩ := hbs.len
        have hqw := Q1.out.trans HW.out.q
        obtain ⟨x0, x1, x2, x3, x4⟩ := five hqw x0 x1 x2 x3 x4
        have hwk := HWF.out _ (List.getElem_mem hlt)
        have hst := fun (h9 : l[k].k < 9) => Act7_step HW.out HG.out (by omega) ka2 l[k].keep.length kc2 l[k] hwk 64 h9
        have hpk := fun (W : World) => Pick7_any l[k].op 11 W hwk.op.1 hwk.op.2 (by decide) (by decide)
        have HST := Lib.hid hst; have HPK := Lib.hid hpk
        clear hc hbs hqw hwk hst hpk
        generalize l[k] = ac at *
        have hkk : ac.k = pickZ ac.op 11 := rfl
        rw [hkk] at HST
        clear hkk
        generalize hpz : pickZ ac.op 11 = pz at *
        clear hpz
        by_cases h9 : pz < 9
        · have h9i : (pz : Int) < 9 := by omega
          have HST2 := Lib.hid (HST.out h9)
          clear HST
          go_wp2_with fail
          refine (HPK.out _).mono ?_
          rintro e w4 ⟨rfl, rfl⟩
          go_wp2_with fail
          refine HST2.out.mono ?_
          rintro e w5 ⟨rfl, h5, g5⟩
          have H5 := Lib.hid h5; have G5 := Lib.hid g5
          clear h5 g5
          go_wp2_with fail
          go_roundw
          case rel => exact ⟨k + 1, _, by go_num, by omega, H5, G5⟩
          case measure => simp [intOf]; omega
        · have h9i : ¬ (pz : Int) < 9 := by omega
          have HWM := Lib.hid (HW.out.mono (show 2 * k ≤ 2 * (k + 1) by omega)); have HGM := Lib.hid HG.out.more
          clear HST
          go_wp2_with fail
          refine (HPK.out _).mono ?_
          rintro e w4 ⟨rfl, rfl⟩
          go_wp2_with fail
          go_roundw
          case rel => exact ⟨k + 1, _, by go_num, by omega, HWM, HGM⟩
          case measure => simp [intOf]; omega
      · have hki : ¬ (k : Int) < (l.length : Int) := by omega
        obtain rfl : k = l.length := by omega
        clear hki hlt hk HCE HWF
        obtain ⟨⟨fr, C, hi⟩, hfr, hn⟩ := HG.out.abort
        have ho := abort_open σ
        have kab := HW.out.abortK
        have c1 := HW.out.cells.2
        generalize hs : σ.abort = s at *
        have hu := hi.num (by omega)
        have hlv : s.dead = false := hi.inv.live
        have hpre := hi.inv.toJPre.open
        have hz : (openJ s.j.d).2 = 0 := by
          rcases open_code hpre (by omega) with e | ⟨_, _, _, _, e⟩
          · exact e
          · exact absurd hfr.1 e
        obtain ⟨o1, o2, o3⟩ := open_good hpre hi.good hi.big (by omega) hz
        have u2 := o2.num (by omega)
        have l2 : (openedS s.j.d).dead = false := o2.inv.live
        have hte : (openedS s.j.d).tell = s.tell := by
          rw [o2.tell_closed rfl, hi.tell_closed ho, o3]; rfl
        have hn2 : (openedS s.j.d).n = s.n := o3
        have hm2 : (openedS s.j.d).map1 = s.map1 := by
          have e1 := o2.now
          have e2 := hi.now
          rw [hi.closed ho] at e2
          rw [e1, e2, o3]; rfl
        have hfe : (openedS s.j.d).free = s.free := by unfold StL.free; rw [hm2, hn2]
        have kst := fun (W : World) (K : Nat) (hK : K ≤ 1000000000000) (h : WAt w1 W wb sb b s K) => h.stateK hu hlv hi.map.low (by omega)
        have kfr := fun (W : World) (K : Nat) (h : WAt w1 W wb sb b s K) => h.freeK hu
        have kop := fun (W : World) (K : Nat) (h : WAt w1 W wb sb b s K) => h.reopen hi.inv.ok (by have := hi.inv.plen; omega) o1 (64 + pm) (by omega)
        have kop2 := kop
        rw [show ((64 + pm : Nat) : Int) = IntKind.i64.wrap (64 + (pm : Int)) by rw [IntWalk.i64_in _ (by omega)]; omega] at kop
        rw [show ((64 + pm : Nat) : Int) = 64 + (pm : Int) by omega] at kop2
        have KOP2 := Lib.hid kop2
        clear kop2
        have ks2 := fun (W : World) (p sb2 : Nat) (cs js : Array Value) (K : Nat) (hK : K ≤ 1000000000000) (h : ReAt w1 W wb sb p b sb2 cs js (openedS s.j.d) K) => h.state u2 l2 o2.map.low (by omega)
        have kf2 := fun (W : World) (p sb2 : Nat) (cs js : Array Value) (K : Nat) (h : ReAt w1 W wb sb p b sb2 cs js (openedS s.j.d) K) => h.free u2
        have ki2 := fun (W : World) (p sb2 : Nat) (cs js : Array Value) (K : Nat) (h : ReAt w1 W wb sb p b sb2 cs js (openedS s.j.d) K) => h.first u2
        have kio := fun (W : World) (p sb2 : Nat) (cs js : Array Value) (K : Nat) (h : ReAt w1 W wb sb p b sb2 cs js (openedS s.j.d) K) => h.firstOld u2
        rw [hte] at ks2
        rw [hfe] at kf2
        have KAB := Lib.hid kab; have KST := Lib.hid kst; have KFR := Lib.hid kfr; have KOP := Lib.hid kop; have KS2 := Lib.hid ks2; have KF2 := Lib.hid kf2; have KI2 := Lib.hid ki2; have KIO := Lib.hid kio
        clear kab kst kfr kop ks2 kf2 ki2 kio hi hfr hn ho hs hu hlv hpre hz o1 o2 o3 u2 l2 hte hn2 hm2 hfe HW HG
        generalize s.tell = st at *
        generalize s.free = fe at *
        generalize openedS s.j.d = s2 at *
        go_wp2_with fail
        refine (KAB.out _ (Q.refl _)).mono ?_
        rintro e w4 ⟨rfl, h4, k4⟩
        have S4 := Lib.hid h4
        clear h4 k4 c1
        have c1 := S4.out.cells.2
        go_wp2_with fail
        refine (KST.out _ _ (by omega) S4.out _ (Q.refl _)).mono ?_
        rintro e w5 ⟨rfl, h5, k5⟩
        have S5 := Lib.hid h5
        clear h5 k5 S4 c1
        have c1 := S5.out.cells.2
        go_wp2_with fail
        refine (KFR.out _ _ S5.out _ (Q.refl _)).mono ?_
        rintro e w6 ⟨rfl, q6⟩
        have S6 := Lib.hid (S5.out.keep q6)
        clear q6 S5 c1
        have c0 := S6.out.cells.1
        have KK := Lib.hid (Q.refl w6)
        have kox := KOP.out w6 _ S6.out
        have KOX := Lib.hid kox
        clear kox
        go_wp2_with fail
        (go_region_held3 (fun w' => w'.cell? ⟨wb, 0, none⟩ = some (ptrV b))
          (first | exact g0 | exact c0 | exact cellQ (by repeat (first | with_reducible exact KK.out | with_reducible exact Q.refl _ | with_reducible apply Qs.dr | with_reducible apply Qs.al)) c0)
          (first
            | (go_at_call 13; with_reducible refine (HPM.out _).mono ?_; rintro e w3x ⟨rfl, rfl⟩)
            | (go_at_call 17; with_reducible refine (KOX.out _ (by repeat (first | with_reducible exact KK.out | with_reducible apply Qs.dr | with_reducible apply Qs.al))).mono ?_; rintro e w7 ⟨sb2, p, cs, js, rfl, h7, k7⟩; have g0 := Keeps.wb k7 c0; have S7 := Lib.hid h7; clear h7 k7)))
        all_goals
          clear c0 KK S6
          try clear g0
          go_wp2_with fail
          have c1x := ReAt.cell S7.out
          have KL := Lib.hid (Q.refl w7)
          have hbe : (st == st) = true := beq_self_eq_true _
          have ks2x := fun (W : World) (q : Q w7 W) => KS2.out W _ _ _ _ _ (by decide) (S7.out.keep q)
          have KSX := Lib.hid ks2x
          clear ks2x
          (go_region_held3 (fun w' => w'.cell? ⟨wb, 1, none⟩ = some (ptrV sb))
            (first | exact g1 | exact cellQ (by repeat (first | with_reducible exact KM.out | with_reducible exact Q.refl _ | with_reducible apply Qs.dr | with_reducible apply Qs.al)) g1 | exact c1x | exact cellQ (by repeat (first | with_reducible exact KL.out | with_reducible exact Q.refl _ | with_reducible apply Qs.dr | with_reducible apply Qs.al)) c1x)
            (first
              | (go_at_call 14; with_reducible refine (KSX.out _ (by repeat (first | with_reducible exact KL.out | with_reducible exact Q.refl _ | with_reducible apply Qs.dr | with_reducible apply Qs.al))).mono ?_; rintro e w8 ⟨rfl, h8⟩; have g1 := ReAt.cell h8; have S8 := Lib.hid h8; have KM := Lib.hid (Q.refl w8); clear h8)
              | (go_at_call 20; with_reducible refine (KF2.out _ _ _ _ _ _ (ReAt.keep S8.out (by repeat (first | with_reducible exact KM.out | with_reducible exact Q.refl _ | with_reducible apply Qs.dr | with_reducible apply Qs.al)))).mono ?_; rintro e w9 ⟨rfl, q9⟩; have s' : Q w8 w9 := Q.trans (by repeat (first | with_reducible exact KM.out | with_reducible exact Q.refl _ | with_reducible apply Qs.dr | with_reducible apply Qs.al)) q9; clear KM; have KM := Lib.hid s'; clear s' q9)
              | (go_at_call 21; with_reducible refine (KI2.out _ _ _ _ _ _ (ReAt.keep S8.out (by repeat (first | with_reducible exact KM.out | with_reducible exact Q.refl _ | with_reducible apply Qs.dr | with_reducible apply Qs.al)))).mono ?_; rintro e w9y ⟨rfl, rfl⟩)
              | (go_at_call 21; with_reducible refine (KIO.out _ _ _ _ _ _ (ReAt.keep S8.out (by repeat (first | with_reducible exact KM.out | with_reducible exact Q.refl _ | with_reducible apply Qs.dr | with_reducible apply Qs.al)))).mono ?_; rintro e w9z ⟨rfl, rfl⟩)))
          all_goals
            go_wp2_with fail
            go_ret
            exact ⟨rfl, (Q1.out.trans S8.out.q).trans (by repeat (first | with_reducible exact KM.out | with_reducible exact Q.refl _ | with_reducible apply Qs.dr | with_reducible apply Qs.al))⟩
end
end Go.Proofs.YtnmijegmbomfdaaGreatDoor
