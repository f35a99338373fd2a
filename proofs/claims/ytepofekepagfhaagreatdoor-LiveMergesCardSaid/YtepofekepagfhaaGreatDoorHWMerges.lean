/- codexlaw15.LiveMerges: walked. -/
import Derived.Test.YtepofekepagfhaaGreatDoorMWShown15ToTabs
import Derived.Test.YtepofekepagfhaaGreatDoorMLive2ToWMerge
import Derived.Test.YtepofekepagfhaaGreatDoorMWLiveRToWFresh
import Derived.Deep.RegionLaw
set_option linter.unusedSimpArgs false
set_option linter.unusedVariables false
set_option linter.unnecessarySimpa false
namespace Go.Proofs.YtepofekepagfhaaGreatDoor
open Go.RowKit
set_option linter.unusedVariables false

theorem segE_ne (l : List DocL) (d : Bytes) : (segE l d == ([] : Bytes)) = false := by
  simp [segE, segBody, magicL]
theorem parts_gone {W : World} {b off n c : Nat} {rs : List PartL} (h : PartsAt W (.slice (some ⟨b, off, none⟩) n c) rs) (hn : n = rs.length) (h0 : 0 < rs.length) {g : Bytes} (hg : rs[0].2 = g) : W.cell? ⟨b, off + 1, none⟩ = some (strV g) := by
  obtain ⟨a, cap, e, hc⟩ := h.value
  obtain ⟨b', o', ha, hj⟩ := hc h0
  cases e
  cases ha
  obtain ⟨p, _, h1, _⟩ := hj 0 h0
  rw [← hg]
  simpa using h1
structure MgSt (w W : World) (X1 X2 X3 : Nat) (v1 v2 v3 : Value) (p1 p2 p3 : List PartL) : Prop where
  t : TwSt w W X1 X2 v1 v2 p1 p2
  p3 : PartsAt W v3 p3
  b3 : Boxed W X3 30 v3
theorem MgSt.stays {w W W' : World} {X1 X2 X3 : Nat} {v1 v2 v3 : Value} {p1 p2 p3 : List PartL} (h : MgSt w W X1 X2 X3 v1 v2 v3 p1 p2 p3) (q : Q W W') : MgSt w W' X1 X2 X3 v1 v2 v3 p1 p2 p3 :=
  ⟨h.t.stays q, h.p3.stays q, block_stays' q h.b3⟩
theorem MgSt.dr {w W : World} {X1 X2 X3 : Nat} {v1 v2 v3 : Value} {p1 p2 p3 : List PartL} (h : MgSt w W X1 X2 X3 v1 v2 v3 p1 p2 p3) : MgSt w W.drew X1 X2 X3 v1 v2 v3 p1 p2 p3 := h.stays (Q.drew _)
set_option maxRecDepth 100000 in
set_option maxHeartbeats 8000000 in
theorem Merges_walk (v : Value) (l : List ActL) (fi ti : Int) (id : Bytes) (w : World) (hv : Acts w v l) (hlw : ActsWf l) (bf1 : -9223372036854775808 ≤ fi) (bf2 : fi ≤ 9223372036854775807) (bt1 : -9223372036854775808 ≤ ti) (bt2 : ti ≤ 9223372036854775807) (hidl : id.length ≤ 9223372036854775807) (hT : Tabs w) (hSp : Spans w) :
    Calls Tryz.prog 8 #[v, .int .i64 fi, .int .i64 ti, .string ⟨id.toArray⟩] w fun e w' => e = .returned (.bool true) ∧ Q w w' := by
  have csh := Shown15 w hT hSp
  have csm := fun W (q : Q w W) => Small_any v l W (hv.stays q) hlw.1 hlw.2
  obtain ⟨a1, c1, hva, hcell⟩ := hv.value
  subst hva
  have HC := Lib.hid hcell; have HT := Lib.hid hT; have HSP := Lib.hid hSp; have CSH := Lib.hid csh
  clear hv hT hSp csh hlw hcell
  cases hs1 : smallB l with
  | false =>
    rw [hs1] at csm
    have HS1 := Lib.hid hs1; have CSM := Lib.hid csm
    clear hs1 csm
    go_enter Tryz.func8, Tryz.ntmps8
    go_wp2_with fail
    refine CSH.out.mono ?_
    rintro e w1 ⟨rfl, q1⟩
    have HQ1 := Lib.hid q1; clear q1
    go_wp2_with fail
    refine (CSM.out w1 HQ1.out).mono ?_
    rintro e w2 ⟨rfl, rfl⟩
    go_wp2_with fail
    go_ret
    exact ⟨rfl, HQ1.out⟩
  | true =>
    rw [hs1] at csm
    obtain ⟨hf1, hf2⟩ := smallB_facts hs1
    have HS1 := Lib.hid hs1; have CSM := Lib.hid csm
    clear hs1 csm
    by_cases h200 : (200 : Int) < (id.length : Int)
    · go_enter Tryz.func8, Tryz.ntmps8
      go_wp2_with fail
      refine CSH.out.mono ?_
      rintro e w1 ⟨rfl, q1⟩
      have HQ1 := Lib.hid q1; clear q1
      go_wp2_with fail
      refine (CSM.out w1 HQ1.out).mono ?_
      rintro e w2 ⟨rfl, rfl⟩
      go_wp2_with fail
      go_ret
      exact ⟨rfl, HQ1.out⟩
    · have HL2 := Lib.hid hf2; clear hf2
      go_enter Tryz.func8, Tryz.ntmps8
      go_wp2_with fail
      refine CSH.out.mono ?_
      rintro e w1 ⟨rfl, q1⟩
      have HQ1 := Lib.hid q1; clear q1
      go_wp2_with fail
      refine (CSM.out w1 HQ1.out).mono ?_
      rintro e w2 ⟨rfl, rfl⟩
      go_wp2_with fail
      have hq0 := HQ1.out.trans (Q.alloc w1 (.cells #[.slice none 0 0] 30))
      have hi0 : ∃ a c, Boxed (w1.alloc (.cells #[.slice none 0 0] 30)) w1.heap.size 30 (.slice a (madeL l 0).length c) ∧ PartsAt (w1.alloc (.cells #[.slice none 0 0] 30)) (.slice a (madeL l 0).length c) (madeL l 0) := ⟨none, 0, Boxed.new _ _ _, PartsAt.nil _⟩
      have H0 := Lib.hid hi0; have HQ0 := Lib.hid hq0
      clear hi0 hq0 CSM CSH
      have hX : w.heap.size ≤ w1.heap.size := HQ1.out.size
      go_loopw [12] (fun x wr => ∃ k : Nat, x = .int .i64 (k : Nat) ∧ k ≤ l.length ∧ Hid (∃ a c, Boxed wr w1.heap.size 30 (.slice a (madeL l k).length c) ∧ PartsAt wr (.slice a (madeL l k).length c) (madeL l k)) ∧ Hid (Q w wr)) (fun x _ => l.length - (intOf x).toNat)
      case atStart => exact ⟨0, rfl, by omega, H0, HQ0⟩
      case round =>
        obtain ⟨k, rfl, hk, HI, HQ⟩ := hrel
        obtain ⟨wo, rfl⟩ : ∃ wo : World, wo = wr := ⟨_, rfl⟩
        obtain ⟨pa, pc, b3, hp⟩ := HI.out
        have hml := madeL_ok l k hk
        by_cases hlt : k < l.length
        · obtain ⟨b, off, rfl, hc⟩ := HC.out (by omega)
          obtain ⟨ov, c0, c1, c2, c3, hops⟩ := hc k hlt
          obtain ⟨hl1, hl2⟩ := HL2.out _ (List.getElem_mem hlt)
          have hbl := cell_lt c0
          simp only at hbl
          have hms := madeL_succ l k hlt
          have k0 := cell_stays HQ.out c0
          have k1 := cell_stays HQ.out c1
          have k2 := cell_stays HQ.out c2
          have k3 := cell_stays HQ.out c3
          have hi0 : (0 : Int) ≤ (k : Int) := by omega
          have hi1 : (k : Int) < (l.length : Int) := by omega
          have cdo := fun (W : World) (hq : Q wo W) => Does_any _ (madeL l k) ov l[k] W (hp.stays hq) ((hops.stays HQ.out).stays hq) (by omega) (fun o ho => by have := hl2 o ho; omega) (by omega) hml.1 ((HT.out.stays HQ.out).stays hq) ((HSP.out.stays HQ.out).stays hq)
          have b3c := b3.cell
          obtain ⟨oa, oc, hov, _⟩ := hops.value
          have CDO := Lib.hid cdo; have HMS := Lib.hid hms; have B3 := Lib.hid b3
          clear cdo hc c0 c1 c2 c3 hops hl1 hl2 hms b3 hp hml HI
          generalize l[k] = act at *
          obtain ⟨aops, am, ai, aj⟩ := act
          subst hov
          simp only at k0 k1 k2 k3
          have hmx : Tryz.prog.follows .mixedOrders = true := by kernel_rfl
          generalize hmk : madeL l k = mk at *
          have HMK := Lib.hid hmk
          clear hmk
          go_wp2_with fail
          go_region_law
            (first
              | (go_simp; go_at_call 25; refine (CDO.out _ (by first | exact Q.refl _ | exact Q.drew _)).mono ?_; rintro e w' ⟨⟨v', rfl, hp1⟩, q⟩; obtain ⟨xa, xcap, rfl, _⟩ := hp1.value; have qz := (Q.drew wo).trans q; have b1 := block_stays' qz B3.out; have c9 := Boxed.cell b1; have f9 := Boxed.frozen b1; have B1 := Lib.hid b1; have HP1 := Lib.hid hp1; clear hp1 q b1))
          all_goals
            have hpb := PartsAt.setBox B1.out (.slice xa (doesL mk (aops, am, ai, aj)).1.length xcap) HP1.out (by decide)
            have hbb := Boxed.set (.slice xa (doesL mk (aops, am, ai, aj)).1.length xcap) B1.out
            have hqq : Q w (w'.setCell ⟨w1.heap.size, 0, none⟩ (.slice xa (doesL mk (aops, am, ai, aj)).1.length xcap)) := (HQ.out.trans qz).setCell (by simpa using hX) _
            have hii : ∃ a c, Boxed (w'.setCell ⟨w1.heap.size, 0, none⟩ (.slice xa (doesL mk (aops, am, ai, aj)).1.length xcap)) w1.heap.size 30 (.slice a (madeL l (k + 1)).length c) ∧ PartsAt (w'.setCell ⟨w1.heap.size, 0, none⟩ (.slice xa (doesL mk (aops, am, ai, aj)).1.length xcap)) (.slice a (madeL l (k + 1)).length c) (madeL l (k + 1)) := by
              rw [HMS.out]; exact ⟨xa, xcap, hbb, hpb⟩
            have HII := Lib.hid hii; have HQQ := Lib.hid hqq
            clear hpb hbb hqq hii c9 f9
            go_wp2_with fail
            go_roundw
            case rel => exact ⟨k + 1, by go_num, by omega, HII, HQQ⟩
            case measure => simp [intOf]; omega
        · have hke : k = l.length := by omega
          subst hke
          obtain ⟨hmo, hmle⟩ := hml
          generalize madeL l l.length = ps at *
          have b3c := b3.cell
          have cmg := Merge_any _ ps fi ti wo hp (by omega) hmo (HT.out.stays HQ.out) (HSP.out.stays HQ.out)
          have HB3 := Lib.hid b3; have HP := Lib.hid hp; have HMO := Lib.hid hmo; have CMG := Lib.hid cmg
          clear b3 hp hmo cmg HI H0 HQ0
          go_wp2_with fail
          refine CMG.out.mono ?_
          rintro e w3 ⟨⟨v3, rfl, hp3⟩, q3⟩
          have hok2 := merge_ok ps fi ti HMO.out
          have hl2 := merge_length ps fi ti
          have hdd := merge_docs ps fi ti HMO.out
          generalize (mergeL ps fi ti).2.1 = S at *
          generalize (mergeL ps fi ti).2.2 = E at *
          generalize (mergeL ps fi ti).1 = qs at *
          have hgg := getL_docs qs ps hok2 HMO.out hdd id
          have hmm := many_docs qs ps hok2 HMO.out hdd
          obtain ⟨a3, c3, rfl, _⟩ := hp3.value
          have hx3 := Q.alloc w3 (.cells #[.slice a3 qs.length c3] 30)
          have hst : TwSt w (w3.alloc (.cells #[.slice a3 qs.length c3] 30)) w1.heap.size w3.heap.size (.slice pa ps.length pc) (.slice a3 qs.length c3) ps qs :=
            ⟨HP.out.stays (q3.trans hx3), hp3.stays hx3, block_stays' (q3.trans hx3) HB3.out, Boxed.new _ _ _, (HQ.out.trans q3).trans hx3⟩
          have k1 := hst.b1.cell
          have k2 := hst.b2.cell
          have cg1 := LGet_any _ ps id _ hst.p1 (by omega) HMO.out.1
          have KK := Lib.hid hst; have CG1 := Lib.hid cg1; have OK2 := Lib.hid hok2; have HDD := Lib.hid hdd; have HGG := Lib.hid hgg; have HMM := Lib.hid hmm
          clear hst cg1 hok2 hdd hgg hmm hx3 q3 hp3 HB3 HP HQ CMG b3c
          go_wp2_with fail
          refine CG1.out.mono ?_
          rintro e w4 ⟨rfl, q4⟩
          have hst := KK.out.stays q4
          have k1' := hst.b1.cell
          have k2' := hst.b2.cell
          have cg2 := LGet_any _ qs id w4 hst.p2 (by omega) OK2.out.1
          rw [HGG.out] at cg2
          clear k1 k2 KK CG1 q4
          have KK := Lib.hid hst; have CG2 := Lib.hid cg2
          clear hst cg2
          go_wp2_with fail
          refine CG2.out.mono ?_
          rintro e w5 ⟨rfl, q5⟩
          have hst := KK.out.stays q5
          have k1 := hst.b1.cell
          have k2 := hst.b2.cell
          clear k1' k2' KK CG2 q5
          have KK := Lib.hid hst
          clear hst
          have hmx : Tryz.prog.follows .mixedOrders = true := by kernel_rfl
          have hdl : (docsL ps).length ≤ 1000000000 := by
            rw [← many_eq ps HMO.out.2, ← plAll_length]
            have := plTo_length ps HMO.out.1 ps.length (Nat.le_refl _)
            unfold plAll; omega
          have hml2 : (liveM ps).length = (docsL ps).length := many_eq ps HMO.out.2
          have cd1 : ∀ W, TwSt w W w1.heap.size w3.heap.size (.slice pa ps.length pc) (.slice a3 qs.length c3) ps qs → Calls Tryz.prog 21 #[liveV (.slice pa ps.length pc)] W fun e w' => ∃ v', e = .returned v' ∧ Docs w' v' (docsL ps) ∧ Q W w' :=
            fun W s => (LiveDocs_any _ ps W s.p1 (by omega) HMO.out.1).mono fun e w' ⟨v', h1, h2, h3⟩ => ⟨v', h1, Sl.of_owns h2, h3⟩
          have cd2 : ∀ W, TwSt w W w1.heap.size w3.heap.size (.slice pa ps.length pc) (.slice a3 qs.length c3) ps qs → Calls Tryz.prog 21 #[liveV (.slice a3 qs.length c3)] W fun e w' => ∃ v', e = .returned v' ∧ Docs w' v' (docsL ps) ∧ Q W w' :=
            fun W s => (LiveDocs_any _ qs W s.p2 (by omega) OK2.out.1).mono fun e w' ⟨v', h1, h2, h3⟩ => ⟨v', h1, by rw [← HDD.out]; exact Sl.of_owns h2, h3⟩
          have cm1 : ∀ W, TwSt w W w1.heap.size w3.heap.size (.slice pa ps.length pc) (.slice a3 qs.length c3) ps qs → Calls Tryz.prog 23 #[liveV (.slice pa ps.length pc)] W fun e w' => e = .returned (.int .i64 ((docsL ps).length : Nat)) ∧ Q W w' :=
            fun W s => (Many_any _ ps W s.p1 (by omega) HMO.out.1).mono fun e w' ⟨h1, h2⟩ => ⟨by rw [h1, hml2], h2⟩
          have cm2 : ∀ W, TwSt w W w1.heap.size w3.heap.size (.slice pa ps.length pc) (.slice a3 qs.length c3) ps qs → Calls Tryz.prog 23 #[liveV (.slice a3 qs.length c3)] W fun e w' => e = .returned (.int .i64 ((docsL ps).length : Nat)) ∧ Q W w' :=
            fun W s => (Many_any _ qs W s.p2 (by omega) OK2.out.1).mono fun e w' ⟨h1, h2⟩ => ⟨by rw [h1, HMM.out, hml2], h2⟩
          have cmg : ∀ W, TwSt w W w1.heap.size w3.heap.size (.slice pa ps.length pc) (.slice a3 qs.length c3) ps qs → Calls Tryz.prog 24 #[liveV (.slice pa ps.length pc), .int .i64 0, .int .i64 ((ps.length : Int) - 1)] W fun e w' => (∃ v', e = .returned (.tuple #[liveV v', strV (mergeL ps 0 ((ps.length : Int) - 1)).2.1, .int .i64 (mergeL ps 0 ((ps.length : Int) - 1)).2.2]) ∧ PartsAt w' v' (mergeL ps 0 ((ps.length : Int) - 1)).1) ∧ Q W w' :=
            fun W s => Merge_any _ ps 0 ((ps.length : Int) - 1) W s.p1 (by omega) HMO.out (HT.out.stays s.q) (HSP.out.stays s.q)
          have CD1 := Lib.hid cd1; have CD2 := Lib.hid cd2; have CM1 := Lib.hid cm1; have CM2 := Lib.hid cm2; have CMG := Lib.hid cmg; have HML2 := Lib.hid hml2
          clear cd1 cd2 cm1 cm2 cmg hml2
          go_wp2_with fail
          go_region_held3 (fun w' => w'.cell? ⟨w1.heap.size, 0, none⟩ = some (.slice pa ps.length pc) ∧ w'.cell? ⟨w3.heap.size, 0, none⟩ = some (.slice a3 qs.length c3)) (first | exact ⟨k1, k2⟩ | exact ⟨KK.out.b1.cell, KK.out.b2.cell⟩)
            (first
              | (go_at_call 21; ((with_reducible refine (CD1.out _ (by first | exact KK.out | exact KK.out.dr)).mono ?_); rintro e w' ⟨vd1, rfl, hd1, q⟩); have s' := TwSt.stays (show TwSt w _ w1.heap.size w3.heap.size (.slice pa ps.length pc) (.slice a3 qs.length c3) ps qs by first | exact KK.out | exact KK.out.dr) q; clear KK; have KK := Lib.hid s'; have HD1 := Lib.hid hd1; clear s' q hd1)
              | (go_at_call 21; ((with_reducible refine (CD2.out _ (by first | exact KK.out | exact KK.out.dr)).mono ?_); rintro e w' ⟨vd2, rfl, hd2, q⟩); have s' := TwSt.stays (show TwSt w _ w1.heap.size w3.heap.size (.slice pa ps.length pc) (.slice a3 qs.length c3) ps qs by first | exact KK.out | exact KK.out.dr) q; clear KK; have KK := Lib.hid s'; have hd1 := Sl.stays HD1.out q; clear HD1; have HD1 := Lib.hid hd1; have HD2 := Lib.hid hd2; clear s' q hd1 hd2)
              | (go_at_call 20; refine (sameDocs_any _ _ (docsL ps) (docsL ps) _ (by first | exact HD1.out | exact Sl.stays HD1.out (Q.drew _)) (by first | exact HD2.out | exact Sl.stays HD2.out (Q.drew _)) hdl hdl).mono ?_; rw [decide_eq_true rfl]; rintro e w' ⟨rfl, q⟩; have s' := TwSt.stays (show TwSt w _ w1.heap.size w3.heap.size (.slice pa ps.length pc) (.slice a3 qs.length c3) ps qs by first | exact KK.out | exact KK.out.dr) q; clear KK; have KK := Lib.hid s'; clear s' q)
              | (go_at_call 23; ((with_reducible refine (CM1.out _ (by first | exact KK.out | exact KK.out.dr)).mono ?_); rintro e w' ⟨rfl, q⟩); have s' := TwSt.stays (show TwSt w _ w1.heap.size w3.heap.size (.slice pa ps.length pc) (.slice a3 qs.length c3) ps qs by first | exact KK.out | exact KK.out.dr) q; clear KK; have KK := Lib.hid s'; clear s' q)
              | (go_at_call 23; ((with_reducible refine (CM2.out _ (by first | exact KK.out | exact KK.out.dr)).mono ?_); rintro e w' ⟨rfl, q⟩); have s' := TwSt.stays (show TwSt w _ w1.heap.size w3.heap.size (.slice pa ps.length pc) (.slice a3 qs.length c3) ps qs by first | exact KK.out | exact KK.out.dr) q; clear KK; have KK := Lib.hid s'; clear s' q))
          all_goals
            have kx := KK.out.b1.cell
            clear k1 k2
            by_cases hn : ps.length < 2
            · have hni : ((ps.length : Nat) : Int) < 2 := by omega
              clear hn
              go_wp2_with fail
              go_ret
              exact ⟨rfl, KK.out.q⟩
            · have hni : ¬ (((ps.length : Nat) : Int) < 2) := by omega
              have hma := merge_all ps HMO.out (by omega)
              have cmg := CMG.out _ KK.out
              by_cases h5 : 500 < (docsL ps).length
              · rw [hma, if_pos h5] at cmg
                have C := Lib.hid cmg
                clear cmg hma hn h5 CMG
                go_wp2_with fail
                refine C.out.mono ?_
                rintro e w6 ⟨⟨v6, rfl, hp6⟩, q6⟩
                obtain ⟨a6, c6, rfl, _⟩ := hp6.value
                have hq := (KK.out.q.trans q6).trans (Q.alloc w6 (.cells #[.slice a6 ps.length c6] 30))
                have HQ6 := Lib.hid hq
                have kz : (w6.alloc (.cells #[.slice a6 ps.length c6] 30)).cell? ⟨w6.heap.size, 0, none⟩ = some (.slice a6 ps.length c6) := (Boxed.new _ _ _).cell
                have ky := cell_stays (q6.trans (Q.alloc w6 (.cells #[.slice a6 ps.length c6] 30))) kx
                clear hq q6 hp6 C kx KK
                go_wp2_with fail
                go_quiet (fail)
                go_wp2_with fail
                go_ret
                exact ⟨rfl, HQ6.out.trans (Q.drewN _ _)⟩
              · have hmo3 := merge_ok ps 0 ((ps.length : Int) - 1) HMO.out
                have hdd3 := merge_docs ps 0 ((ps.length : Int) - 1) HMO.out
                rw [hma, if_neg h5] at cmg hmo3 hdd3
                simp only at cmg hmo3 hdd3
                have hfl := fresh_length (docsL ps)
                have hfe : docsL ps = [] → (freshL (docsL ps)).1 = [] ∧ (freshL (docsL ps)).2 = [] := fun h => by rw [h]; exact ⟨rfl, rfl⟩
                have hfn : docsL ps ≠ [] → (freshL (docsL ps)).1 = [(docsL ps, makeL (docsL ps).length)] ∧ ((freshL (docsL ps)).2 == ([] : Bytes)) = false := fun h => by
                  unfold freshL; rw [if_neg h]; exact ⟨rfl, segE_ne _ _⟩
                generalize (freshL (docsL ps)).1 = rs at *
                generalize (freshL (docsL ps)).2 = sg at *
                have C := Lib.hid cmg; have HM3 := Lib.hid hmo3; have HD3 := Lib.hid hdd3; have HFE := Lib.hid hfe; have HFN := Lib.hid hfn
                clear cmg hma hn h5 CMG hmo3 hdd3 hfe hfn
                go_wp2_with fail
                refine C.out.mono ?_
                rintro e w6 ⟨⟨v6, rfl, hp6⟩, q6⟩
                obtain ⟨a6, c6, rfl, hc6⟩ := hp6.value
                have hx6 := Q.alloc w6 (.cells #[.slice a6 rs.length c6] 30)
                have hst : MgSt w (w6.alloc (.cells #[.slice a6 rs.length c6] 30)) w1.heap.size w3.heap.size w6.heap.size (.slice pa ps.length pc) (.slice a3 qs.length c3) (.slice a6 rs.length c6) ps qs rs :=
                  ⟨KK.out.stays (q6.trans hx6), hp6.stays hx6, Boxed.new _ _ _⟩
                have k1 := hst.t.b1.cell
                have k3 := hst.b3.cell
                have ce1 : ∀ W, MgSt w W w1.heap.size w3.heap.size w6.heap.size (.slice pa ps.length pc) (.slice a3 qs.length c3) (.slice a6 rs.length c6) ps qs rs → Calls Tryz.prog 21 #[liveV (.slice pa ps.length pc)] W fun e w' => ∃ v', e = .returned v' ∧ Docs w' v' (docsL ps) ∧ Q W w' := fun W s => CD1.out W s.t
                have ce3 : ∀ W, MgSt w W w1.heap.size w3.heap.size w6.heap.size (.slice pa ps.length pc) (.slice a3 qs.length c3) (.slice a6 rs.length c6) ps qs rs → Calls Tryz.prog 21 #[liveV (.slice a6 rs.length c6)] W fun e w' => ∃ v', e = .returned v' ∧ Docs w' v' (docsL ps) ∧ Q W w' :=
                  fun W s => (LiveDocs_any _ rs W s.p3 (by omega) HM3.out.1).mono fun e w' ⟨v', h1, h2, h3⟩ => ⟨v', h1, by rw [← HD3.out]; exact Sl.of_owns h2, h3⟩
                have cn1 : ∀ W, MgSt w W w1.heap.size w3.heap.size w6.heap.size (.slice pa ps.length pc) (.slice a3 qs.length c3) (.slice a6 rs.length c6) ps qs rs → Calls Tryz.prog 23 #[liveV (.slice pa ps.length pc)] W fun e w' => e = .returned (.int .i64 ((docsL ps).length : Nat)) ∧ Q W w' := fun W s => CM1.out W s.t
                have HC6 := Lib.hid hc6
                clear kx KK C CM1 CM2 CD1 CD2 HD1 HD2 q6 hx6 hp6 hc6
                have KK := Lib.hid hst; have CE1 := Lib.hid ce1; have CE3 := Lib.hid ce3; have CN1 := Lib.hid cn1
                clear hst ce1 ce3 cn1
                go_wp2_with fail
                go_region_held3 (fun w' => w'.cell? ⟨w1.heap.size, 0, none⟩ = some (.slice pa ps.length pc) ∧ w'.cell? ⟨w6.heap.size, 0, none⟩ = some (.slice a6 rs.length c6)) (first | exact ⟨k1, k3⟩ | exact ⟨KK.out.t.b1.cell, KK.out.b3.cell⟩)
                  (first
                    | (go_at_call 21; ((with_reducible refine (CE3.out _ (by first | exact KK.out | exact KK.out.dr)).mono ?_); rintro e w' ⟨ve1, rfl, hd1, q⟩); have s' := MgSt.stays (show MgSt w _ w1.heap.size w3.heap.size w6.heap.size (.slice pa ps.length pc) (.slice a3 qs.length c3) (.slice a6 rs.length c6) ps qs rs by first | exact KK.out | exact KK.out.dr) q; clear KK; have KK := Lib.hid s'; have HD1 := Lib.hid hd1; clear s' q hd1)
                    | (go_at_call 21; ((with_reducible refine (CE1.out _ (by first | exact KK.out | exact KK.out.dr)).mono ?_); rintro e w' ⟨ve2, rfl, hd2, q⟩); have s' := MgSt.stays (show MgSt w _ w1.heap.size w3.heap.size w6.heap.size (.slice pa ps.length pc) (.slice a3 qs.length c3) (.slice a6 rs.length c6) ps qs rs by first | exact KK.out | exact KK.out.dr) q; clear KK; have KK := Lib.hid s'; have hd1 := Sl.stays HD1.out q; clear HD1; have HD1 := Lib.hid hd1; have HD2 := Lib.hid hd2; clear s' q hd1 hd2)
                    | (go_at_call 20; refine (sameDocs_any _ _ (docsL ps) (docsL ps) _ (by first | exact HD1.out | exact Sl.stays HD1.out (Q.drew _)) (by first | exact HD2.out | exact Sl.stays HD2.out (Q.drew _)) hdl hdl).mono ?_; rw [decide_eq_true rfl]; rintro e w' ⟨rfl, q⟩; have s' := MgSt.stays (show MgSt w _ w1.heap.size w3.heap.size w6.heap.size (.slice pa ps.length pc) (.slice a3 qs.length c3) (.slice a6 rs.length c6) ps qs rs by first | exact KK.out | exact KK.out.dr) q; clear KK; have KK := Lib.hid s'; clear s' q))
                all_goals
                  have kx := KK.out.t.b1.cell
                  have kz := KK.out.b3.cell
                  have cn := CN1.out _ KK.out
                  have CN := Lib.hid cn
                  clear k1 k3 cn
                  go_wp2_with fail
                  refine CN.out.mono ?_
                  rintro e w8 ⟨rfl, q8⟩
                  have s8 := KK.out.stays q8
                  clear kx kz KK CN q8
                  have k1 := s8.t.b1.cell
                  have k3 := s8.b3.cell
                  have hq8 := s8.t.q
                  by_cases hds : docsL ps = []
                  · obtain ⟨r1, r2⟩ := HFE.out hds
                    have hl0 : (docsL ps).length = 0 := by rw [hds]; rfl
                    have HQ8 := Lib.hid hq8
                    clear s8 hds hq8
                    subst r1 r2
                    generalize (docsL ps).length = dn at *
                    subst hl0
                    go_wp2_with fail
                    go_ret
                    exact ⟨rfl, HQ8.out⟩
                  · obtain ⟨r1, r2⟩ := HFN.out hds
                    have hl0 : (docsL ps).length ≠ 0 := fun e => hds (List.eq_nil_of_length_eq_zero e)
                    have hl1 : rs.length = 1 := by rw [r1]; rfl
                    have hg0 : ∀ h : 0 < rs.length, rs[0].2 = makeL (docsL ps).length := by subst r1; intro h; rfl
                    obtain ⟨ax, cx, ee, hcx⟩ := s8.p3.value
                    cases ee
                    obtain ⟨b, off, ha, _⟩ := hcx (by omega)
                    subst ha
                    have hgc : ∀ W, MgSt w W w1.heap.size w3.heap.size w6.heap.size (.slice pa ps.length pc) (.slice a3 qs.length c3) (.slice (some ⟨b, off, none⟩) 1 c6) ps qs rs → W.cell? ⟨b, off + 1, none⟩ = some (strV (makeL (docsL ps).length)) := fun W s => parts_gone s.p3 hl1.symm (by omega) (hg0 _)
                    have cn1 : ∀ W, MgSt w W w1.heap.size w3.heap.size w6.heap.size (.slice pa ps.length pc) (.slice a3 qs.length c3) (.slice (some ⟨b, off, none⟩) 1 c6) ps qs rs → Calls Tryz.prog 23 #[liveV (.slice pa ps.length pc)] W fun e w' => e = .returned (.int .i64 ((docsL ps).length : Nat)) ∧ Q W w' := fun W s => CN1.out W (by rw [hl1]; exact s)
                    rw [hl1] at s8 k3
                    have k5 := hgc _ s8
                    have KK := Lib.hid s8; have HGC := Lib.hid hgc
                    clear CN1
                    have CN1 := Lib.hid cn1
                    have hl0i : ((((docsL ps).length : Nat) : Int) == 0) = false := by simpa using hl0
                    clear cn1 hgc hg0 hcx s8 hq8 r1 hds HFE HFN
                    generalize hdn : (docsL ps).length = dn at *
                    go_wp2_with fail
                    go_region_held3 (fun w' => w'.cell? ⟨w1.heap.size, 0, none⟩ = some (.slice pa ps.length pc) ∧ w'.cell? ⟨w6.heap.size, 0, none⟩ = some (.slice (some ⟨b, off, none⟩) 1 c6) ∧ w'.cell? ⟨b, off + 1, none⟩ = some (strV (makeL dn))) (first | exact ⟨k1, k3, k5⟩ | exact ⟨KK.out.t.b1.cell, KK.out.b3.cell, HGC.out _ KK.out⟩)
                      (first
                        | (go_at_call 23; ((with_reducible refine (CN1.out _ (by first | exact KK.out | exact KK.out.dr)).mono ?_); rintro e w' ⟨rfl, q⟩); have s' := MgSt.stays (show MgSt w _ w1.heap.size w3.heap.size w6.heap.size (.slice pa ps.length pc) (.slice a3 qs.length c3) (.slice (some ⟨b, off, none⟩) 1 c6) ps qs rs by first | exact KK.out | exact KK.out.dr) q; clear KK; have KK := Lib.hid s'; clear s' q)
                        | (go_at_call 31; refine (rmake_any _ _).mono ?_; rintro e w' ⟨rfl, q⟩; have s' := MgSt.stays (show MgSt w _ w1.heap.size w3.heap.size w6.heap.size (.slice pa ps.length pc) (.slice a3 qs.length c3) (.slice (some ⟨b, off, none⟩) 1 c6) ps qs rs by first | exact KK.out | exact KK.out.dr) q; clear KK; have KK := Lib.hid s'; clear s' q))
                    all_goals
                      go_wp2_with fail
                      go_ret
                      exact ⟨rfl, KK.out.t.q⟩
end Go.Proofs.YtepofekepagfhaaGreatDoor
