/- Joined texts of one proof: what is needed of WStates. -/
import Derived.Test.YtnmijegmbomfdaaGreatDoorJStt7
set_option linter.unusedSimpArgs false
set_option linter.unusedVariables false
set_option linter.unnecessarySimpa false
set_option maxRecDepth 100000
set_option maxHeartbeats 16000000
namespace Go.Proofs.YtnmijegmbomfdaaGreatDoor
section
open Go.RowKit
theorem States_walk (v : Value) (l : List Act7) (av : Value) (a : Act7) (w : World) (hv : Acts7 w v l) (hav : ActA w av a) (hl : Acts7Wf l) (haw : a.Wf) :
    Calls Tryz.prog 7 #[v, av] w fun e w' => e = .returned (.bool true) ∧ Below w.heap.size w w' := by
  obtain ⟨kv, rfl, hkb⟩ := hav
  obtain ⟨ka, kc, rfl⟩ := hkb.len
  obtain ⟨wa, hwa⟩ : ∃ wa, wa = w.alloc (.cells #[.int .i64 a.op, .int .i64 a.at_, .int .i64 a.n, .slice ka a.keep.length kc, .int .u8 (a.byte.toNat : Nat)] 25) := ⟨_, rfl⟩
  have qa : Q w wa := by rw [hwa]; exact Q.alloc _ _
  have hbx : Blk wa w.heap.size 25 (actCs ka a.keep.length kc a) := by rw [hwa]; exact Blk.new w _ _
  have hsh := fun (W : World) => Shown7_any W
  have hsm := fun (W : World) (q : Q w W) => Small7_any v l W (hv.stays q) hl
  have hbg := fun (W : World) => Begin7_any W 64 (by decide)
  obtain ⟨va, vc, rfl, hcell⟩ := hv.value
  have hwf := hl.2
  obtain ⟨b0, b1, b2, b3, b4⟩ := hbx.c5
  have HSH := Lib.hid hsh; have HSM := Lib.hid hsm; have HBG := Lib.hid hbg; have HCE := Lib.hid hcell; have HWF := Lib.hid hwf; have HAW := Lib.hid haw; have QA := Lib.hid qa
  have hl0 := hl.1
  have hkl := haw.keep
  have hwz : w.heap.size < wa.heap.size := hbx.lt
  clear hsh hsm hbg hcell hwf qa hbx hv hl hkb haw
  unfold actV
  go_enter Tryz.func7, Tryz.ntmps7
  go_wp2_with fail
  rw [← hwa]
  clear hwa
  refine (HSH.out _).mono ?_
  rintro e w1 ⟨rfl, q1⟩
  have Q1 := Lib.hid (QA.out.trans q1)
  have y3 := cellQ q1 b3
  obtain ⟨z0, z1, z2, z3, z4⟩ := five q1 b0 b1 b2 b3 b4
  have hz1 := q1.size
  clear q1 b0 b1 b2 b3 b4
  go_wp2_with fail
  refine (HSM.out _ Q1.out).mono ?_
  rintro e w2 ⟨rfl, rfl⟩
  cases hsb : small7B l with
  | false =>
    go_wp2_with fail
    go_ret
    exact ⟨rfl, Q1.out⟩
  | true =>
    obtain ⟨hl80, hkeep⟩ := small7_wf hsb
    by_cases hk200 : a.keep.length ≤ 200
    · have hk2 : ¬ (200 : Int) < (a.keep.length : Int) := by omega
      clear hsb hkeep
      have HBG1 := Lib.hid (HBG.out w1)
      rw [show ((64 : Nat) : Int) = 64 from rfl] at HBG1
      go_wp2_with fail
      refine HBG1.out.mono ?_
      rintro e w3 ⟨wb, sb, b, mb, rs, rb, rfl, hB⟩
      have HW0 := Lib.hid (show WAt w1 w3 wb sb b (startS 132) (2 * 0) from hB.w)
      clear hB
      go_wp2_with fail
      go_loopw [10] (fun i wr => ∃ (k : Nat) (σ : StL), i = .int .i64 (k : Nat) ∧ k ≤ l.length ∧ Hid (WAt w1 wr wb sb b σ (2 * k)) ∧ Hid (Good7 k σ)) (fun i _ => l.length - (intOf i).toNat)
      case atStart => exact ⟨0, startS 132, rfl, Nat.zero_le _, HW0, Lib.hid good7_start⟩
      case round =>
        obtain ⟨k, σ, rfl, hk, HW, HG⟩ := hrel
        by_cases hlt : k < l.length
        · have hki : (k : Int) < (l.length : Int) := by omega
          have hk0 : (0 : Int) ≤ (k : Int) := by omega
          obtain ⟨g, off, rfl, hc⟩ := HCE.out (by omega)
          obtain ⟨kv, x0, x1, x2, x3, x4, hbs⟩ := hc k hlt
          obtain ⟨ka2, kc2, rfl⟩ := hbs.len
          have hqw := Q1.out.trans HW.out.q
          obtain ⟨x0, x1, x2, x3, x4⟩ := five hqw x0 x1 x2 x3 x4
          have hwk := HWF.out _ (List.getElem_mem hlt)
          have hst := fun (h9 : l[k].k < 9) => Act7_step HW.out HG.out (by omega) ka2 l[k].keep.length kc2 l[k] hwk 64 h9
          have hpk := fun (W : World) => Pick7_any l[k].op 11 W hwk.op.1 hwk.op.2 (by decide) (by decide)
          have HST := Lib.hid hst; have HPK := Lib.hid hpk
          clear hc hbs hqw hwk hst hpk
          generalize l[k] = ac at *
          have hkk : ac.k = pickZ ac.op 11 := rfl
          rw [hkk] at HST
          clear hkk
          generalize hpz : pickZ ac.op 11 = pz at *
          clear hpz
          by_cases h9 : pz < 9
          · have h9i : (pz : Int) < 9 := by omega
            have HST2 := Lib.hid (HST.out h9)
            clear HST
            go_wp2_with fail
            refine (HPK.out _).mono ?_
            rintro e w4 ⟨rfl, rfl⟩
            go_wp2_with fail
            refine HST2.out.mono ?_
            rintro e w5 ⟨rfl, h5, g5⟩
            have H5 := Lib.hid h5; have G5 := Lib.hid g5
            clear h5 g5
            go_wp2_with fail
            go_roundw
            case rel => exact ⟨k + 1, _, by go_num, by omega, H5, G5⟩
            case measure => simp [intOf]; omega
          · have h9i : ¬ (pz : Int) < 9 := by omega
            have HWM := Lib.hid (HW.out.mono (show 2 * k ≤ 2 * (k + 1) by omega)); have HGM := Lib.hid HG.out.more
            clear HST
            go_wp2_with fail
            refine (HPK.out _).mono ?_
            rintro e w4 ⟨rfl, rfl⟩
            go_wp2_with fail
            go_roundw
            case rel => exact ⟨k + 1, _, by go_num, by omega, HWM, HGM⟩
            case measure => simp [intOf]; omega
        · have hki : ¬ (k : Int) < (l.length : Int) := by omega
          obtain rfl : k = l.length := by omega
          clear hki hlt hk HCE HWF
          obtain ⟨⟨fr, C, hi⟩, hfr, hn⟩ := HG.out.abort
          have ho := abort_open σ
          have kab := HW.out.abortK
          have c1 := HW.out.cells.2
          have hqw := HW.out.q
          generalize hs : σ.abort = s at *
          have hu := hi.num (by omega)
          have hlv : s.dead = false := hi.inv.live
          have e1 := alloc_closed hi ho a.n
          have e2 := write_closed hi ho a.at7 a.data
          have e3 := release_closed hi ho a.at7 a.n
          have e4 := commit_closed hi ho
          have b1 := begin_run hi ho
          have i1 := begin_inv hi
          rw [b1] at i1
          obtain ⟨s1, hs1⟩ : ∃ s1 : StL, s1 = { s with open_ := true, was := s.map1 } := ⟨_, rfl⟩
          rw [← hs1] at b1 i1
          simp only at i1
          have o1 : s1.open_ = true := by rw [hs1]
          have t1 : s1.tx = [] := by rw [hs1]; exact hi.closed ho
          have f1 : s1.j.d.Free := by rw [hs1]; exact hfr
          have n1 : s1.n = s.n := by rw [hs1]; rfl
          have b2 := begin_again i1 o1
          obtain ⟨g1, ⟨fr2, i2⟩, g3, g4, g5, g6⟩ := commit_free_run i1 f1 o1 (by omega)
          have u1 := i1.num (by omega)
          have u2 := i2.num (by omega)
          have hte : s1.commit.1.tell = s.tell := by
            rw [i2.tell_closed g3, hi.tell_closed ho, g5, n1, t1]; rfl
          have p1 := commit_pre i1 (by omega)
          have l2 : s1.commit.1.dead = false := i2.inv.live
          generalize hs2 : s1.commit.1 = s2 at *
          have e5 : s1.commit = (s2, 0) := Prod.ext hs2 g1
          have kst := fun (W : World) (K : Nat) (hK : K ≤ 1000000000000) (h : WAt w1 W wb sb b s K) => h.stateK hu hlv hi.map.low (by omega)
          have kal := fun (W : World) (K : Nat) (hK : K ≤ 1000000000000) (h : WAt w1 W wb sb b s K) => h.allocK a.n hu (by omega)
          have kwr := fun (W : World) (K : Nat) (hK : K ≤ 1000000000000) (h : WAt w1 W wb sb b s K) => h.writeK a.at7 a.data hu (by omega) (by have := a.data_len; omega)
          have kre := fun (W : World) (K : Nat) (hK : K ≤ 1000000000000) (h : WAt w1 W wb sb b s K) => h.releaseK a.at7 a.n hu (by omega)
          have kco := fun (W : World) (K : Nat) (hK : K ≤ 1000000000000) (h : WAt w1 W wb sb b s K) => h.commitK hu (commit_pre hi (by omega))
          have kbe := fun (W : World) (K : Nat) (hK : K ≤ 1000000000000) (h : WAt w1 W wb sb b s K) => h.beginK
          have kb2 := fun (W : World) (K : Nat) (hK : K ≤ 1000000000000) (h : WAt w1 W wb sb b s1 K) => h.beginK
          have kc2 := fun (W : World) (K : Nat) (hK : K ≤ 1000000000000) (h : WAt w1 W wb sb b s1 K) => h.commitK u1 p1
          have ks2 := fun (W : World) (K : Nat) (hK : K ≤ 1000000000000) (h : WAt w1 W wb sb b s2 K) => h.stateK u2 l2 i2.map.low (by omega)
          simp only [e1] at kal; simp only [e2] at kwr; simp only [e3] at kre; simp only [e4] at kco; simp only [b1] at kbe; simp only [b2] at kb2; simp only [e5] at kc2; simp only [hte] at ks2
          have hat : ∀ W, Calls Tryz.prog 29 #[.agg #[.int .i64 a.op, .int .i64 a.at_, .int .i64 a.n, .slice ka a.keep.length kc, .int .u8 (a.byte.toNat : Nat)]] W fun e w' => e = .returned (.int .i64 a.at7) ∧ Q W w' := fun W => At7_any ka a.keep.length kc a W HAW.out
          have hda : ∀ W, Calls Tryz.prog 30 #[.agg #[.int .i64 a.op, .int .i64 a.at_, .int .i64 a.n, .slice ka a.keep.length kc, .int .u8 (a.byte.toNat : Nat)]] W fun e w' => e = .returned (strV a.data) ∧ Q W w' := fun W => Data7_any ka a.keep.length kc a W HAW.out
          have hab1 : w.heap.size < w1.heap.size := by omega
          have KAB := Lib.hid kab; have KST := Lib.hid kst; have KAL := Lib.hid kal; have KWR := Lib.hid kwr; have KRE := Lib.hid kre; have KCO := Lib.hid kco; have KBE := Lib.hid kbe; have KB2 := Lib.hid kb2; have KC2 := Lib.hid kc2; have KS2 := Lib.hid ks2
          have HAT := Lib.hid hat; have HDA := Lib.hid hda; have HAB := Lib.hid hab1
          obtain ⟨z0, z1, z2, z3, z4⟩ := five hqw z0 z1 z2 z3 z4
          have X0 := Lib.hid (show SixAt wb sb w.heap.size (.int .i64 a.op) (.int .i64 a.at_) (.int .i64 a.n) (.slice ka a.keep.length kc) (.int .u8 (a.byte.toNat : Nat)) wr from ⟨c1, z0, z1, z2, z3, z4⟩)
          clear hi hfr hn ho kab hqw hs hu hlv e1 e2 e3 e4 b1 i1 hs1 o1 t1 f1 n1 b2 g1 i2 g3 g4 g5 g6 u1 u2 hte p1 l2 hs2 e5 kst kal kwr kre kco kbe kb2 kc2 ks2 hat hda hab1 HW HG z0 z1 z2 z3 z4
          generalize a.at7 = ax at *
          generalize a.data = ad at *
          generalize s.tell = st at *
          go_wp2_with fail
          refine (KAB.out _ (Q.refl _)).mono ?_
          rintro e w4 ⟨rfl, h4, k4⟩
          have S4 := Lib.hid h4; have X4 := Lib.hid (X0.out.keeps k4 HAB.out)
          clear h4 k4 X0 c1
          have c1 := X4.out.1
          go_wp2_with fail
          refine (KST.out _ _ (by omega) S4.out _ (Q.refl _)).mono ?_
          rintro e w5 ⟨rfl, h5, k5⟩
          have hK5 : 2 * l.length + 17000000 ≤ 17000200 := by omega
          have S5 := Lib.hid (h5.mono hK5); have X5 := Lib.hid (X4.out.keeps k5 HAB.out)
          clear h5 k5 X4 S4 c1 hK5
          obtain ⟨c1, z0, z1, z2, z3, z4⟩ := X5.out
          have KK := Lib.hid (Q.refl w5)
          go_wp2_with fail
          (go_region_held3 (fun w' => w'.cell? ⟨wb, 1, none⟩ = some (ptrV sb) ∧ w'.cell? ⟨w.heap.size, 0, none⟩ = some (.int .i64 a.op) ∧ w'.cell? ⟨w.heap.size, 1, none⟩ = some (.int .i64 a.at_) ∧ w'.cell? ⟨w.heap.size, 2, none⟩ = some (.int .i64 a.n) ∧ w'.cell? ⟨w.heap.size, 3, none⟩ = some (.slice ka a.keep.length kc) ∧ w'.cell? ⟨w.heap.size, 4, none⟩ = some (.int .u8 (a.byte.toNat : Nat)))
            (first | exact g0 | exact ⟨c1, z0, z1, z2, z3, z4⟩ | exact seven (by repeat (first | with_reducible exact KK.out | with_reducible exact Q.refl _ | with_reducible apply Qs.dr | with_reducible apply Qs.al)) c1 z0 z1 z2 z3 z4)
            (first
              | (go_at_call 29; with_reducible refine (HAT.out _).mono ?_; rintro e w3x ⟨rfl, q3⟩; have s' : Q w5 w3x := Q.trans (by repeat (first | with_reducible exact KK.out | with_reducible apply Qs.dr | with_reducible apply Qs.al)) q3; clear KK; have KK := Lib.hid s'; clear s' q3)
              | (go_at_call 30; with_reducible refine (HDA.out _).mono ?_; rintro e w3x ⟨rfl, q3⟩; have s' : Q w5 w3x := Q.trans (by repeat (first | with_reducible exact KK.out | with_reducible apply Qs.dr | with_reducible apply Qs.al)) q3; clear KK; have KK := Lib.hid s'; clear s' q3)
              | (go_at_call 23; with_reducible refine (KAL.out w5 _ (by decide) S5.out _ (by repeat (first | with_reducible exact KK.out | with_reducible apply Qs.dr | with_reducible apply Qs.al))).mono ?_; rintro e w6 ⟨rfl, h5, k5⟩; have g0 := SixAt.keeps X5.out k5 HAB.out; have S6 := Lib.hid h5; have X6 := Lib.hid (show SixAt wb sb w.heap.size (.int .i64 a.op) (.int .i64 a.at_) (.int .i64 a.n) (.slice ka a.keep.length kc) (.int .u8 (a.byte.toNat : Nat)) w6 from g0); clear h5 k5)))
          all_goals
            clear c1 z0 z1 z2 z3 z4 KK X5 S5
            try clear g0
            obtain ⟨c1, z0, z1, z2, z3, z4⟩ := X6.out
            have KK := Lib.hid (Q.refl w6)
            go_wp2_with fail
            (go_region_held3 (fun w' => w'.cell? ⟨wb, 1, none⟩ = some (ptrV sb) ∧ w'.cell? ⟨w.heap.size, 0, none⟩ = some (.int .i64 a.op) ∧ w'.cell? ⟨w.heap.size, 1, none⟩ = some (.int .i64 a.at_) ∧ w'.cell? ⟨w.heap.size, 2, none⟩ = some (.int .i64 a.n) ∧ w'.cell? ⟨w.heap.size, 3, none⟩ = some (.slice ka a.keep.length kc) ∧ w'.cell? ⟨w.heap.size, 4, none⟩ = some (.int .u8 (a.byte.toNat : Nat)))
              (first | exact g0 | exact ⟨c1, z0, z1, z2, z3, z4⟩ | exact seven (by repeat (first | with_reducible exact KK.out | with_reducible exact Q.refl _ | with_reducible apply Qs.dr | with_reducible apply Qs.al)) c1 z0 z1 z2 z3 z4)
              (first
                | (go_at_call 29; with_reducible refine (HAT.out _).mono ?_; rintro e w3x ⟨rfl, q3⟩; have s' : Q w6 w3x := Q.trans (by repeat (first | with_reducible exact KK.out | with_reducible apply Qs.dr | with_reducible apply Qs.al)) q3; clear KK; have KK := Lib.hid s'; clear s' q3)
                | (go_at_call 30; with_reducible refine (HDA.out _).mono ?_; rintro e w3x ⟨rfl, q3⟩; have s' : Q w6 w3x := Q.trans (by repeat (first | with_reducible exact KK.out | with_reducible apply Qs.dr | with_reducible apply Qs.al)) q3; clear KK; have KK := Lib.hid s'; clear s' q3)
                | (go_at_call 26; with_reducible refine (KWR.out w6 _ (by decide) S6.out _ (by repeat (first | with_reducible exact KK.out | with_reducible apply Qs.dr | with_reducible apply Qs.al))).mono ?_; rintro e w7 ⟨rfl, h5, k5⟩; have g0 := SixAt.keeps X6.out k5 HAB.out; have S7 := Lib.hid h5; have X7 := Lib.hid (show SixAt wb sb w.heap.size (.int .i64 a.op) (.int .i64 a.at_) (.int .i64 a.n) (.slice ka a.keep.length kc) (.int .u8 (a.byte.toNat : Nat)) w7 from g0); clear h5 k5)))
            all_goals
              clear c1 z0 z1 z2 z3 z4 KK X6 S6
              try clear g0
              obtain ⟨c1, z0, z1, z2, z3, z4⟩ := X7.out
              have KK := Lib.hid (Q.refl w7)
              go_wp2_with fail
              (go_region_held3 (fun w' => w'.cell? ⟨wb, 1, none⟩ = some (ptrV sb) ∧ w'.cell? ⟨w.heap.size, 0, none⟩ = some (.int .i64 a.op) ∧ w'.cell? ⟨w.heap.size, 1, none⟩ = some (.int .i64 a.at_) ∧ w'.cell? ⟨w.heap.size, 2, none⟩ = some (.int .i64 a.n) ∧ w'.cell? ⟨w.heap.size, 3, none⟩ = some (.slice ka a.keep.length kc) ∧ w'.cell? ⟨w.heap.size, 4, none⟩ = some (.int .u8 (a.byte.toNat : Nat)))
                (first | exact g0 | exact ⟨c1, z0, z1, z2, z3, z4⟩ | exact seven (by repeat (first | with_reducible exact KK.out | with_reducible exact Q.refl _ | with_reducible apply Qs.dr | with_reducible apply Qs.al)) c1 z0 z1 z2 z3 z4)
                (first
                  | (go_at_call 29; with_reducible refine (HAT.out _).mono ?_; rintro e w3x ⟨rfl, q3⟩; have s' : Q w7 w3x := Q.trans (by repeat (first | with_reducible exact KK.out | with_reducible apply Qs.dr | with_reducible apply Qs.al)) q3; clear KK; have KK := Lib.hid s'; clear s' q3)
                  | (go_at_call 24; with_reducible refine (KRE.out w7 _ (by decide) S7.out _ (by repeat (first | with_reducible exact KK.out | with_reducible apply Qs.dr | with_reducible apply Qs.al))).mono ?_; rintro e w8 ⟨rfl, h5, k5⟩; have g0 := SixAt.keeps X7.out k5 HAB.out; have S8 := Lib.hid h5; have X8 := Lib.hid (show SixAt wb sb w.heap.size (.int .i64 a.op) (.int .i64 a.at_) (.int .i64 a.n) (.slice ka a.keep.length kc) (.int .u8 (a.byte.toNat : Nat)) w8 from g0); clear h5 k5)))
              all_goals
                clear c1 z0 z1 z2 z3 z4 KK X7 S7
                try clear g0
                have c1 := X8.out.1
                go_wp2_with fail
                refine (KCO.out _ _ (by decide) S8.out _ (Q.refl _)).mono ?_
                rintro e w9 ⟨rfl, h5, k5⟩
                have S9 := Lib.hid h5; have X9 := Lib.hid (X8.out.keeps k5 HAB.out)
                clear h5 k5 S8 X8 c1
                have c1 := X9.out.1
                go_wp2_with fail
                refine (KST.out _ _ (by decide) S9.out _ (Q.refl _)).mono ?_
                rintro e w10 ⟨rfl, h5, k5⟩
                have S10 := Lib.hid h5; have X10 := Lib.hid (X9.out.keeps k5 HAB.out)
                clear h5 k5 S9 X9 c1
                have c1 := X10.out.1
                go_wp2_with fail
                refine (KBE.out _ _ (by decide) S10.out _ (Q.refl _)).mono ?_
                rintro e w11 ⟨rfl, h5, k5⟩
                have S11 := Lib.hid h5; have X11 := Lib.hid (X10.out.keeps k5 HAB.out)
                clear h5 k5 S10 X10 c1
                have c1 := X11.out.1
                go_wp2_with fail
                refine (KB2.out _ _ (by decide) S11.out _ (Q.refl _)).mono ?_
                rintro e w12 ⟨rfl, h5, k5⟩
                have S12 := Lib.hid h5; have X12 := Lib.hid (X11.out.keeps k5 HAB.out)
                clear h5 k5 S11 X11 c1
                have c1 := X12.out.1
                go_wp2_with fail
                refine (KC2.out _ _ (by decide) S12.out _ (Q.refl _)).mono ?_
                rintro e w13 ⟨rfl, h5, k5⟩
                have S13 := Lib.hid h5; have X13 := Lib.hid (X12.out.keeps k5 HAB.out)
                clear h5 k5 S12 X12 c1
                have c1 := X13.out.1
                go_wp2_with fail
                refine (KS2.out _ _ (by decide) S13.out _ (Q.refl _)).mono ?_
                rintro e w14 ⟨rfl, h5, k5⟩
                have S14 := Lib.hid h5; have X14 := Lib.hid (X13.out.keeps k5 HAB.out)
                clear h5 k5 S13 X13 c1
                have c1 := X14.out.1
                go_wp2_with fail
                go_ret
                exact ⟨rfl, Q1.out.trans S14.out.q⟩
    · have hk2 : (200 : Int) < (a.keep.length : Int) := by omega
      go_wp2_with fail
      go_ret
      exact ⟨rfl, Q1.out⟩
end
end Go.Proofs.YtnmijegmbomfdaaGreatDoor
