/- Joined texts of one proof: what is needed of WRef4f, WRef3c, WRef3d. -/
import Derived.Test.YtnmijegmbomfdaaGreatDoorJWRef4c
import Derived.Test.YtnmijegmbomfdaaGreatDoorJWJrnJ
import Derived.BigQuiet
import Derived.Test.YtnmijegmbomfdaaGreatDoorJWRDevD
import Derived.Test.YtnmijegmbomfdaaGreatDoorJNums
import Derived.Test.YtnmijegmbomfdaaGreatDoorJMem3
import Derived.Test.YtnmijegmbomfdaaGreatDoorJWFrmD
import Derived.Test.YtnmijegmbomfdaaGreatDoorJWBlkB
import Derived.Deep.RegionHeld3
set_option linter.unusedSimpArgs false
set_option linter.unusedVariables false
set_option linter.unnecessarySimpa false
set_option maxRecDepth 100000
set_option maxHeartbeats 16000000
namespace Go.Proofs.YtnmijegmbomfdaaGreatDoor
section
open Go.RowKit
theorem SlO.lt {w w' : World} {F : Nat → Prop} {base : Nat} {e : TypeId} {size : Nat} {v : Value} {n : Nat} {xs : List Value} (h : w.ownsRow base e size v n xs) (t : Turn F w w') (hF : ∀ k, F k → k < base) : SlO w' (grow F w w') v n size xs := by
  have h2 : SlO w F v n size xs := by
    refine ⟨Sl.of_owns h, fun hn => ?_⟩
    rcases h.2 with ⟨_, h2⟩ | ⟨g, cap, cur, rfl, hb2, hg, rest⟩
    · omega
    · exact ⟨g, 0, ⟨cap, rfl⟩, (Array.getElem?_eq_some_iff.1 hg).1, fun e => by have := hF g e; omega⟩
  exact h2.keep t
theorem logR_bad (j : JL) (ws : List WrL) (h : (j.logR ws).2 ≠ 0) : j.com ws = ({ j with d := (j.logR ws).1 }, (j.logR ws).2) := by
  unfold JL.logR at h ⊢
  unfold JL.com
  by_cases h1 : (j.com1 ws).2 ≠ 0
  · rw [if_pos h1, if_pos h1]
  · rw [if_neg h1] at h
    rw [if_neg h1, if_neg h1, if_pos h]
theorem logR_good (j : JL) (ws : List WrL) (h : (j.logR ws).2 = 0) : j.logR ws = j.com2 ws ∧ j.com ws = (({ j with d := ((j.logR ws).1.writes ws).1 } : JL).advance ws.length, ((j.logR ws).1.writes ws).2) := by
  unfold JL.logR at h ⊢
  unfold JL.com JL.com3
  by_cases h1 : (j.com1 ws).2 ≠ 0
  · rw [if_pos h1] at h; exact absurd h h1
  · rw [if_neg h1] at h
    rw [if_neg h1, if_neg h1, if_neg (by rw [h]; simp)]
    exact ⟨rfl, rfl⟩
theorem logR_ok {j : JL} (hn : JNum j) (ws : List WrL) : (j.logR ws).1.Ok ∧ ((j.logR ws).2 = 0 → (j.logR ws).1.p = []) := by
  have h1 : (j.com1 ws).1.Ok := DevL.lays_ok hn.ok _
  have h2 : (j.com2 ws).1.Ok := DevL.lays_ok h1 _
  unfold JL.logR
  split
  · rename_i h; exact ⟨h1, fun e => absurd e h⟩
  · exact ⟨h2, fun e => lays_flushed e⟩
theorem RCommit_any (w : World) (F : Nat → Prop) (p b : Nat) (j : JL) (lv : Value) (ws : List WrL) (h : RJrnAt w F p b j) (hn : JNum j) (hw : WrOk ws) (hh : ∀ x ∈ ws, j.home ≤ x.1 ∧ x.1 < j.d.l.length) (hl : SlO w F lv ws.length 2 (wrVs ws)) (hu : j.used ≤ j.s.log) :
    Calls Tryz.prog 91 #[ptrV p, lv] w fun e w' => e = .returned (.int .i64 (j.commit ws).2) ∧ RJrnAt w' (grow F w w') p b (j.commit ws).1 ∧ Turn F w w' := by
  have hpk := RPack_any w j.next hn.next lv ws hl.1 hw
  have hlt := h.lt
  have hmax := hn.ok.max
  obtain ⟨la, lc, rfl, hlc⟩ := hl.value
  have hcell : ∀ k (hk : k < ws.length), ∃ lb lo, la = some ⟨lb, lo, none⟩ ∧ lb < w.heap.size ∧ ¬ F lb ∧ w.cell? ⟨lb, lo + k * 2, none⟩ = some (.int .i64 (ws[k].1 : Nat)) ∧ w.cell? ⟨lb, lo + k * 2 + 1, none⟩ = some (strV ws[k].2) := fun k hk => by
    obtain ⟨lb, lo, h1, h2, h3, h4⟩ := hlc (by omega)
    exact ⟨lb, lo, h1, h2, h3, h4 _ _ (wrVs_at ws k hk).1, by have := h4 _ _ (wrVs_at ws k hk).2; rwa [← Nat.add_assoc] at this⟩
  have hok : ∀ k (hk : k < ws.length), (j.home ≤ ws[k].1 ∧ ws[k].1 < j.d.l.length) ∧ ws[k].2.length = 256 := fun k hk => ⟨hh _ (List.getElem_mem hk), (hw.2.2 _ (List.getElem_mem hk)).2⟩
  have hn1 := hw.1; have hn2 := hw.2.1
  have hho := fun (W : World) (q : Q w W) => RHome_any W p b j (h.box.stays q) hn.log2
  obtain ⟨c0, c1, c2, c3, c4, c5, c6, c7⟩ := h.box.c8
  have HPK := Lib.hid hpk; have HC := Lib.hid hcell; have HO := Lib.hid hok; have HHO := Lib.hid hho; have HJ := Lib.hid h; have HN := Lib.hid hn; have HLT := Lib.hid hlt; have HW := Lib.hid hw; have HU := Lib.hid hu
  clear hpk hcell hok hho h hn hlt hlc hl hh hw
  go_enter Tryz.func91, Tryz.ntmps91
  go_wp2_with fail
  refine HPK.out.mono ?_
  rintro e w1 ⟨fv, rfl, hfr, q1⟩
  obtain ⟨fa, fc, rfl, -⟩ := owns_value hfr
  have HFR := Lib.hid hfr; have HQ1 := Lib.hid q1
  clear hfr q1 c0 c1 c2 c3 c4 c5 c6 c7
  go_wp2_with fail
  go_loopw [7] (fun v wr => ∃ k : Nat, v = .int .i64 (k : Nat) ∧ k ≤ ws.length ∧ Hid (Q w1 wr)) (fun v _ => ws.length - (intOf v).toNat)
  case atStart => exact ⟨0, rfl, Nat.zero_le _, Q.refl _⟩
  case round =>
    obtain ⟨k, rfl, hk, HQ⟩ := hrel
    have hjr := HJ.out.keep (HQ1.out.trans HQ.out)
    obtain ⟨c0, c1, c2, c3, c4, c5, c6, c7⟩ := hjr.box.c8
    by_cases hlt : k < ws.length
    · have hki : (k : Int) < (ws.length : Int) := by omega
      obtain ⟨lb, lo, rfl, -, -, x1, x2⟩ := HC.out k hlt
      have y1 := cellQ (HQ1.out.trans HQ.out) x1; have y2 := cellQ (HQ1.out.trans HQ.out) x2
      obtain ⟨⟨h1, h2⟩, hdl⟩ := HO.out k hlt
      obtain ⟨dlv, dpv, hdg⟩ := hjr.dev
      obtain ⟨dla, dlc, rfl, -⟩ := hdg.lcells
      obtain ⟨z0, _⟩ := hdg.box.c4
      have hho := HHO.out wr (HQ1.out.trans HQ.out)
      generalize ws[k].1 = bk at *
      generalize ws[k].2 = dk at *
      have e1 : decide ((bk : Int) < (j.home : Int)) = false := decide_eq_false (by omega)
      have e2 : decide ((j.d.l.length : Int) ≤ (bk : Int)) = false := decide_eq_false (by omega)
      have e1n : decide (bk < j.home) = false := decide_eq_false (by omega)
      have e2n : decide (j.d.l.length ≤ bk) = false := decide_eq_false (by omega)
      have e3 : (!((dk.length : Int) == 256)) = false := by rw [beq_iff_eq.2 (by omega)]; rfl
      have e4 : ((dk.length : Int) != 256) = false := by rw [bne, beq_iff_eq.2 (by omega)]; rfl
      have HH := Lib.hid hho
      clear hho hdg hjr x1 x2 h1 h2 hdl
      generalize j.d.l.length = dn at *
      generalize j.home = hm at *
      clear HH
      go_wp2_with fail
      obtain ⟨c0b, hc0b⟩ : ∃ x, x = b := ⟨_, rfl⟩
      have KK := Lib.hid (Q.refl wr)
      go_region_held3 (fun w' => w'.cell? ⟨p, 0, none⟩ = some (ptrV b) ∧ w'.cell? ⟨b, 0, none⟩ = some (.slice dla dn dlc) ∧ w'.cell? ⟨lb, lo + k * 2, none⟩ = some (.int .i64 (bk : Nat)))
        (first | exact ⟨c0, z0, y1⟩ | exact three (by repeat (first | with_reducible exact KK.out | with_reducible exact Q.refl _ | with_reducible apply Qs.dr | with_reducible apply Qs.al)) c0 z0 y1)
        (first
          | (go_at_call 135; with_reducible refine (HHO.out _ (HQ1.out.trans (HQ.out.trans (by repeat (first | with_reducible exact KK.out | with_reducible apply Qs.dr | with_reducible apply Qs.al))))).mono ?_; rintro e w2 ⟨rfl, rfl⟩))
      all_goals
        have hqd : Q w1 wr.drew := HQ.out.trans (Q.drew _)
        have HQD := Lib.hid hqd
        have y3 := cellQ (Q.drew wr) y2
        clear c0 z0 y1 y2 hqd
        go_wp2_with fail
        go_roundw
        case rel => exact ⟨k + 1, by go_num, by omega, HQD⟩
        case measure => simp [intOf]; omega
    · have hki : ¬ (k : Int) < (ws.length : Int) := by omega
      obtain rfl : k = ws.length := by omega
      have hwr : IntKind.i64.wrap ((j.s.log : Int) - (j.used : Int)) = (j.s.log : Int) - (j.used : Int) := by have := HN.out.log2; rw [IntWalk.i64_in _ (by omega)]
      clear c1 c2 c4 c5 c6
      have hlg2 := HN.out.log2
      by_cases hroom : ws.length + 2 > j.s.log - j.used
      · have hgt : (j.s.log : Int) - (j.used : Int) < (ws.length : Int) + 1 + 1 := by omega
        have hcm : j.commit ws = if j.ckpt.2 ≠ 0 then j.ckpt else j.ckpt.1.com ws := by unfold JL.commit; rw [if_pos hroom]
        have HCM0 := Lib.hid hcm
        have hjd := hjr.keep (Q.drew wr)
        have HJD0 := Lib.hid hjd
        clear hcm hjd hjr hroom
        go_wp2_with fail
        go_region
        all_goals
          have cck := RCkpt_any wr.drew F p b j HJD0.out HN.out
          have HQY := Lib.hid (show Q w1 wr.drew from HQ.out.trans (Q.drew _))
          generalize wr.drew = wy at *
          have HSY := Lib.hid (show w.heap.size ≤ wy.heap.size from Nat.le_trans HQ1.out.size HQY.out.size)
          by_cases hz : j.ckpt.2 = 0
          case neg =>
            have hb : (j.ckpt.2 == 0) = false := beq_eq_false_iff_ne.2 hz
            have hcm := HCM0.out
            rw [if_pos hz] at hcm
            generalize j.ckpt = jc at *
            have HCK := Lib.hid cck; have HCM1 := Lib.hid hcm
            clear cck hcm hz c0 c3 c7
            go_wp2_with fail
            refine HCK.out.mono ?_
            rintro e w3 ⟨rfl, h3, t3⟩
            have hfin : RJrnAt w3 (grow F w w3) p b jc.1 := h3.mono (fun k hk => hk.elim .inl (fun hk => .inr ⟨Nat.le_trans HSY.out hk.1, hk.2⟩)) (fun k hk => hk.elim (fun hk => Nat.lt_of_lt_of_le (HLT.out k hk) (Nat.le_trans HSY.out t3.size)) (fun hk => hk.2))
            have htf : Turn F w w3 := (Turn.of_q (HQ1.out.trans HQY.out)).trans t3
            have HFIN := Lib.hid hfin; have HTF := Lib.hid htf
            clear h3 t3 hfin htf
            go_wp2_with fail
            go_ret
            rw [HCM1.out]
            exact ⟨rfl, HFIN.out, HTF.out⟩
          have hb : (j.ckpt.2 == 0) = true := beq_iff_eq.2 hz
          obtain ⟨hn1', hnx1, hlg1⟩ := HN.out.ckpt hz
          have hcm := HCM0.out
          rw [if_neg (by rw [hz]; decide)] at hcm
          generalize j.ckpt = jc at *
          obtain ⟨j1, ec⟩ := jc
          simp only at hz hn1' hnx1 hlg1 hcm cck hb
          subst hz
          have HCK := Lib.hid cck; have HCM := Lib.hid hcm; have HN1 := Lib.hid hn1'; have HNX := Lib.hid hnx1
          clear cck hcm hn1' hnx1 hlg1 hb c0 c3 c7 HCM0
          go_wp2_with fail
          refine HCK.out.mono ?_
          rintro e wx ⟨rfl, h3, t3⟩
          have HJ1 := Lib.hid h3; have T1 := Lib.hid t3
          clear h3 t3
          have hsl1 := SlO.lt (ownsRow_below HFR.out HQY.out) T1.out HLT.out
          rw [← HNX.out] at hsl1
          have hlg := RLog_any wx (grow F wy wx) p b j1 _ ws HJ1.out HN1.out HW.out hsl1
          have hlo := logR_ok HN1.out ws
          have hbad := logR_bad j1 ws
          have hgood := fun hz => (logR_good j1 ws hz).2
          generalize j1.logR ws = dL at *
          have HLG := Lib.hid hlg; have HLO := Lib.hid hlo; have HBAD := Lib.hid hbad; have HGOOD := Lib.hid hgood
          clear hlg hlo hbad hgood hsl1
          go_wp2_with fail
          refine HLG.out.mono ?_
          rintro e w4 ⟨rfl, h4, t4⟩
          have hs4 := RJrnAt.next (fun k hk => Nat.lt_of_lt_of_le (HLT.out k hk) HSY.out) T1.out h4 t4
          have H4 := Lib.hid hs4.1; have T4 := Lib.hid hs4.2
          clear hs4 h4 t4
          by_cases hzL : dL.2 = 0
          case neg =>
            have e9 : (dL.2 == 0) = false := beq_eq_false_iff_ne.2 hzL
            have hcm := HCM.out
            rw [HBAD.out hzL] at hcm
            have hfin : RJrnAt w4 (grow F w w4) p b { j1 with d := dL.1 } := H4.out.mono (fun k hk => hk.elim .inl (fun hk => .inr ⟨Nat.le_trans HSY.out hk.1, hk.2⟩)) (fun k hk => hk.elim (fun hk => Nat.lt_of_lt_of_le (HLT.out k hk) (Nat.le_trans HSY.out T4.out.size)) (fun hk => hk.2))
            have htf : Turn F w w4 := (Turn.of_q (HQ1.out.trans HQY.out)).trans T4.out
            have HCM1 := Lib.hid hcm; have HFIN := Lib.hid hfin; have HTF := Lib.hid htf
            clear hcm hfin htf hzL
            go_wp2_with fail
            go_ret
            rw [HCM1.out]
            exact ⟨rfl, HFIN.out, HTF.out⟩
          rw [hzL]
          have hcm := HCM.out
          rw [HGOOD.out hzL] at hcm
          have hpz := HLO.out.2 hzL
          have hokL := HLO.out.1
          obtain ⟨k0, k1, k2, k3, k4, k5, k6, k7⟩ := H4.out.box.c8
          have g6 := H4.out.box.frozen 6; have g7 := H4.out.box.frozen 7
          simp only at k0 k6 k7
          have hus := HN1.out.used
          have hw7 : IntKind.i64.wrap ((j1.used : Int) + ((ws.length : Int) + 1)) = (j1.used : Int) + (ws.length : Int) + 1 := by rw [IntWalk.i64_in _ (by omega)]; omega
          have hw7' : (j1.used : Int) + (ws.length : Int) + 1 = ((j1.used + ws.length + 1 : Nat) : Int) := by omega
          have hnx := HN1.out.next
          have hw6 : IntKind.u64.wrap ((j1.next : Int) + 1) = (((j1.next + 1) % 18446744073709551616 : Nat) : Int) := by simp [IntKind.wrap, IntKind.bits, IntKind.signed]
          have hbx5 := (H4.out.box.set 7 (.int .i64 ((j1.used + ws.length + 1 : Nat) : Int))).set 6 (.int .u64 (((j1.next + 1) % 18446744073709551616 : Nat) : Int))
          have ht5 : Turn (fun k => k = p) w4 ((w4.setCell ⟨p, 7, none⟩ (.int .i64 ((j1.used + ws.length + 1 : Nat) : Int))).setCell ⟨p, 6, none⟩ (.int .u64 (((j1.next + 1) % 18446744073709551616 : Nat) : Int))) := Turn.setCell (a := ⟨p, 6, none⟩) (Turn.setCell (a := ⟨p, 7, none⟩) (Turn.refl (fun k => k = p) w4) (.inl rfl) _) (.inl rfl) _
          have hj5 : RJrnAt ((w4.setCell ⟨p, 7, none⟩ (.int .i64 ((j1.used + ws.length + 1 : Nat) : Int))).setCell ⟨p, 6, none⟩ (.int .u64 (((j1.next + 1) % 18446744073709551616 : Nat) : Int))) (grow F wy w4) p b (({ j1 with d := dL.1 } : JL).advance ws.length) := H4.out.turned hbx5 rfl ht5
          have hsz5 : ((w4.setCell ⟨p, 7, none⟩ (.int .i64 ((j1.used + ws.length + 1 : Nat) : Int))).setCell ⟨p, 6, none⟩ (.int .u64 (((j1.next + 1) % 18446744073709551616 : Nat) : Int))).heap.size = w4.heap.size := by rw [setCell_size, setCell_size]
          have ht5' : Turn F wy ((w4.setCell ⟨p, 7, none⟩ (.int .i64 ((j1.used + ws.length + 1 : Nat) : Int))).setCell ⟨p, 6, none⟩ (.int .u64 (((j1.next + 1) % 18446744073709551616 : Nat) : Int))) := T4.out.step (ht5.mono (fun k hk => by rw [hk]; exact H4.out.fp))
          have hj5' : RJrnAt ((w4.setCell ⟨p, 7, none⟩ (.int .i64 ((j1.used + ws.length + 1 : Nat) : Int))).setCell ⟨p, 6, none⟩ (.int .u64 (((j1.next + 1) % 18446744073709551616 : Nat) : Int))) (grow F wy ((w4.setCell ⟨p, 7, none⟩ (.int .i64 ((j1.used + ws.length + 1 : Nat) : Int))).setCell ⟨p, 6, none⟩ (.int .u64 (((j1.next + 1) % 18446744073709551616 : Nat) : Int)))) p b (({ j1 with d := dL.1 } : JL).advance ws.length) := hj5.mono (fun k hk => hk.elim .inl (fun hk => .inr ⟨hk.1, by rw [hsz5]; exact hk.2⟩)) (fun k hk => hk.elim (fun hk => by rw [hsz5]; exact Nat.lt_of_lt_of_le (HLT.out k hk) (Nat.le_trans HSY.out T4.out.size)) (fun hk => hk.2))
          have HJ5 := Lib.hid hj5'; have HT5 := Lib.hid ht5'; have HCM1 := Lib.hid hcm; have HPZ := Lib.hid hpz; have HOKL := Lib.hid hokL; have HW6 := Lib.hid hw6; have HW7 := Lib.hid hw7'
          clear hj5 hj5' ht5 ht5' hbx5 hsz5 hcm hpz hokL hzL hw7' k1 k2 k3 k4 k5 hus hnx hw6
          go_upto_region 20 with fail
          rw [HW6.out, HW7.out]
          clear hw7 k0 k6 k7 g6 g7
          generalize (w4.setCell ⟨p, 7, none⟩ (.int .i64 ((j1.used + ws.length + 1 : Nat) : Int))).setCell ⟨p, 6, none⟩ (.int .u64 (((j1.next + 1) % 18446744073709551616 : Nat) : Int)) = w5 at *
          generalize ((j1.used + ws.length + 1 : Nat) : Int) = vv7
          generalize (((j1.next + 1) % 18446744073709551616 : Nat) : Int) = vv6
          generalize hjA : ({ j1 with d := dL.1 } : JL).advance ws.length = jA at *
          have hfn : j.commit ws = ({ jA with d := (dL.1.writes ws).1 }, (dL.1.writes ws).2) := by rw [HCM1.out, ← hjA]; rfl
          have hjd : jA.d = dL.1 := by rw [← hjA]; rfl
          have HFN := Lib.hid hfn; have HJD := Lib.hid hjd
          clear hfn hjd hjA HCM1
          go_wp2_with fail
          go_loopw [9] (fun v wr => ∃ (k : Nat) (d2 : DevL), v = .int .i64 (k : Nat) ∧ k ≤ ws.length ∧ Hid (dL.1.writes ws = d2.writes (ws.drop k)) ∧ Hid (RJrnAt wr (grow F wy wr) p b { jA with d := d2 }) ∧ Hid (Turn F wy wr) ∧ Hid d2.Ok ∧ Hid (d2.dead = false → d2.p.length ≤ k)) (fun v _ => ws.length - (intOf v).toNat)
          case atStart => exact ⟨0, dL.1, rfl, Nat.zero_le _, by rw [List.drop_zero]; exact Lib.hid rfl, by rw [← HJD.out]; exact HJ5, HT5, HOKL, Lib.hid (fun _ => by rw [HPZ.out]; exact Nat.le_refl _)⟩
          case round =>
            obtain ⟨k, d2, rfl, hk, HE, HG2, HT2, HD2, HP2⟩ := hrel
            by_cases hlt : k < ws.length
            · have hki : (k : Int) < (ws.length : Int) := by omega
              obtain ⟨lb, lo, rfl, hlb, hlF, x1, x2⟩ := HC.out k hlt
              have y1 := HT2.out.cell (cellQ (HQ1.out.trans HQY.out) x1) hlF
              have y2 := HT2.out.cell (cellQ (HQ1.out.trans HQY.out) x2) hlF
              have he := HE.out
              rw [List.drop_eq_getElem_cons hlt, DevL.writes] at he
              obtain ⟨⟨hb1, hb2⟩, hdl⟩ := HO.out k hlt
              have hw1 := HG2.out.write HD2.out (fun hx => by have h1 := HP2.out hx; show d2.p.length ≤ _; omega) (ws[k].1 : Nat) ws[k].2 (by rw [hdl]; omega)
              simp only at hw1
              have hok := DevL.write_ok HD2.out (ws[k].1 : Nat) ws[k].2
              have hpn : (d2.write (ws[k].1 : Nat) ws[k].2).1.dead = false → (d2.write (ws[k].1 : Nat) ws[k].2).1.p.length ≤ k + 1 := fun hx => by
                have h1 := HP2.out (DevL.write_live _ _ _ hx)
                have h2 := DevL.write_p d2 (ws[k].1 : Nat) ws[k].2
                omega
              obtain ⟨c0, _⟩ := HG2.out.box.c8
              have hsy := HSY.out
              have hnG : ¬ grow F wy wr lb := fun hc => hc.elim hlF (fun hc => by omega)
              generalize hdw : d2.write (ws[k].1 : Nat) ws[k].2 = dw at *
              generalize ws[k].1 = bk at *
              generalize ws[k].2 = dk at *
              have HW1 := Lib.hid hw1; have HEE := Lib.hid he; have HOK := Lib.hid hok; have HPN := Lib.hid hpn; have HNG := Lib.hid hnG; have KK := Lib.hid (Q.refl wr)
              clear hw1 he hok hpn hdw x1 x2 hdl hnG hb1 hb2
              go_wp2_with fail
              go_region_held3 (fun w' => w'.cell? ⟨p, 0, none⟩ = some (ptrV b) ∧ w'.cell? ⟨lb, lo + k * 2, none⟩ = some (.int .i64 (bk : Nat)) ∧ w'.cell? ⟨lb, lo + k * 2 + 1, none⟩ = some (strV dk))
                (first | exact g0 | exact ⟨c0, y1, y2⟩ | exact three (by repeat (first | with_reducible exact KK.out | with_reducible exact Q.refl _ | with_reducible apply Qs.dr | with_reducible apply Qs.al)) c0 y1 y2)
                (first
                  | (go_at_call 125; with_reducible refine (HW1.out _ (by repeat (first | with_reducible exact KK.out | with_reducible apply Qs.dr | with_reducible apply Qs.al))).mono ?_; rintro e w3 ⟨rfl, h3, t3⟩; have g := Blk.c8 (RJrnAt.box h3); have g0 := And.intro g.1 (And.intro (Turn.cell t3 y1 HNG.out) (Turn.cell t3 y2 HNG.out)); clear g; have H3 := Lib.hid h3; have T3 := Lib.hid t3; clear h3 t3))
              all_goals
                have hs3 := RJrnAt.next (fun k hk => Nat.lt_of_lt_of_le (HLT.out k hk) HSY.out) HT2.out H3.out T3.out
                have HG3 := Lib.hid hs3.1; have HT3 := Lib.hid hs3.2
                clear hs3 c0 y1 y2
                try clear g0
                by_cases hz : dw.2 = 0
                · have hb : (dw.2 == 0) = true := beq_iff_eq.2 hz
                  have hee := HEE.out
                  rw [if_pos hz] at hee
                  have HE2 := Lib.hid hee
                  clear hee HEE hz
                  go_wp2_with fail
                  go_roundw
                  case rel => exact ⟨k + 1, dw.1, by go_num, by omega, HE2, HG3, HT3, HOK, HPN⟩
                  case measure => simp [intOf]; omega
                · have hb : (dw.2 == 0) = false := beq_eq_false_iff_ne.2 hz
                  have hee := HEE.out
                  rw [if_neg hz] at hee
                  have hfn := HFN.out
                  rw [hee] at hfn
                  have hfin : RJrnAt w3 (grow F w w3) p b { jA with d := dw.1 } := HG3.out.mono (fun k hk => hk.elim .inl (fun hk => .inr ⟨Nat.le_trans HSY.out hk.1, hk.2⟩)) (fun k hk => hk.elim (fun hk => Nat.lt_of_lt_of_le (HLT.out k hk) (Nat.le_trans HSY.out HT3.out.size)) (fun hk => hk.2))
                  have htf : Turn F w w3 := (Turn.of_q (HQ1.out.trans HQY.out)).trans HT3.out
                  have HFN1 := Lib.hid hfn; have HFIN := Lib.hid hfin; have HTF := Lib.hid htf
                  clear hee HEE hz hfn hfin htf
                  go_wp2_with fail
                  go_ret
                  rw [HFN1.out]
                  exact ⟨rfl, HFIN.out, HTF.out⟩
            · have hki : ¬ (k : Int) < (ws.length : Int) := by omega
              obtain rfl : k = ws.length := by omega
              have he := HE.out
              rw [List.drop_length, DevL.writes] at he
              have hfn := HFN.out
              rw [he] at hfn
              have hfin : RJrnAt wr (grow F w wr) p b { jA with d := d2 } := HG2.out.mono (fun k hk => hk.elim .inl (fun hk => .inr ⟨Nat.le_trans HSY.out hk.1, hk.2⟩)) (fun k hk => hk.elim (fun hk => Nat.lt_of_lt_of_le (HLT.out k hk) (Nat.le_trans HSY.out HT2.out.size)) (fun hk => hk.2))
              have htf : Turn F w wr := (Turn.of_q (HQ1.out.trans HQY.out)).trans HT2.out
              have HFN1 := Lib.hid hfn; have HFIN := Lib.hid hfin; have HTF := Lib.hid htf
              clear he hfn hfin htf
              go_wp2_with fail
              go_ret
              rw [HFN1.out]
              exact ⟨rfl, HFIN.out, HTF.out⟩
      · have hgt : ¬ (j.s.log : Int) - (j.used : Int) < (ws.length : Int) + 1 + 1 := by omega
        have hcm : j.commit ws = j.com ws := by unfold JL.commit; rw [if_neg hroom]
        have HCM := Lib.hid hcm
        have hjd := (hjr.keep (Q.drew wr)).mono (G := grow F wr.drew wr.drew) (fun k hk => .inl hk) (fun k hk => hk.elim (fun hk => (hjr.keep (Q.drew wr)).lt k hk) (fun hk => hk.2))
        have HJ1 := Lib.hid hjd
        clear hcm hjd hjr hroom
        go_wp2_with fail
        go_region
        all_goals
          have HQY := Lib.hid (show Q w1 wr.drew from HQ.out.trans (Q.drew _))
          generalize wr.drew = wy at *
          have HSY := Lib.hid (show w.heap.size ≤ wy.heap.size from Nat.le_trans HQ1.out.size HQY.out.size)
          have HN1 := HN
          have HNX := Lib.hid (show j.next = j.next from rfl)
          have T1 := Lib.hid (Turn.refl F wy)
          clear c0 c3 c7
          have hsl1 := SlO.lt (ownsRow_below HFR.out HQY.out) T1.out HLT.out
          rw [← HNX.out] at hsl1
          have hlg := RLog_any wy (grow F wy wy) p b j _ ws HJ1.out HN1.out HW.out hsl1
          have hlo := logR_ok HN1.out ws
          have hbad := logR_bad j ws
          have hgood := fun hz => (logR_good j ws hz).2
          generalize j.logR ws = dL at *
          have HLG := Lib.hid hlg; have HLO := Lib.hid hlo; have HBAD := Lib.hid hbad; have HGOOD := Lib.hid hgood
          clear hlg hlo hbad hgood hsl1
          go_wp2_with fail
          refine HLG.out.mono ?_
          rintro e w4 ⟨rfl, h4, t4⟩
          have hs4 := RJrnAt.next (fun k hk => Nat.lt_of_lt_of_le (HLT.out k hk) HSY.out) T1.out h4 t4
          have H4 := Lib.hid hs4.1; have T4 := Lib.hid hs4.2
          clear hs4 h4 t4
          by_cases hzL : dL.2 = 0
          case neg =>
            have e9 : (dL.2 == 0) = false := beq_eq_false_iff_ne.2 hzL
            have hcm := HCM.out
            rw [HBAD.out hzL] at hcm
            have hfin : RJrnAt w4 (grow F w w4) p b { j with d := dL.1 } := H4.out.mono (fun k hk => hk.elim .inl (fun hk => .inr ⟨Nat.le_trans HSY.out hk.1, hk.2⟩)) (fun k hk => hk.elim (fun hk => Nat.lt_of_lt_of_le (HLT.out k hk) (Nat.le_trans HSY.out T4.out.size)) (fun hk => hk.2))
            have htf : Turn F w w4 := (Turn.of_q (HQ1.out.trans HQY.out)).trans T4.out
            have HCM1 := Lib.hid hcm; have HFIN := Lib.hid hfin; have HTF := Lib.hid htf
            clear hcm hfin htf hzL
            go_wp2_with fail
            go_ret
            rw [HCM1.out]
            exact ⟨rfl, HFIN.out, HTF.out⟩
          rw [hzL]
          have hcm := HCM.out
          rw [HGOOD.out hzL] at hcm
          have hpz := HLO.out.2 hzL
          have hokL := HLO.out.1
          obtain ⟨k0, k1, k2, k3, k4, k5, k6, k7⟩ := H4.out.box.c8
          have g6 := H4.out.box.frozen 6; have g7 := H4.out.box.frozen 7
          simp only at k0 k6 k7
          have hus := HN1.out.used
          have hw7 : IntKind.i64.wrap ((j.used : Int) + ((ws.length : Int) + 1)) = (j.used : Int) + (ws.length : Int) + 1 := by rw [IntWalk.i64_in _ (by omega)]; omega
          have hw7' : (j.used : Int) + (ws.length : Int) + 1 = ((j.used + ws.length + 1 : Nat) : Int) := by omega
          have hnx := HN1.out.next
          have hw6 : IntKind.u64.wrap ((j.next : Int) + 1) = (((j.next + 1) % 18446744073709551616 : Nat) : Int) := by simp [IntKind.wrap, IntKind.bits, IntKind.signed]
          have hbx5 := (H4.out.box.set 7 (.int .i64 ((j.used + ws.length + 1 : Nat) : Int))).set 6 (.int .u64 (((j.next + 1) % 18446744073709551616 : Nat) : Int))
          have ht5 : Turn (fun k => k = p) w4 ((w4.setCell ⟨p, 7, none⟩ (.int .i64 ((j.used + ws.length + 1 : Nat) : Int))).setCell ⟨p, 6, none⟩ (.int .u64 (((j.next + 1) % 18446744073709551616 : Nat) : Int))) := Turn.setCell (a := ⟨p, 6, none⟩) (Turn.setCell (a := ⟨p, 7, none⟩) (Turn.refl (fun k => k = p) w4) (.inl rfl) _) (.inl rfl) _
          have hj5 : RJrnAt ((w4.setCell ⟨p, 7, none⟩ (.int .i64 ((j.used + ws.length + 1 : Nat) : Int))).setCell ⟨p, 6, none⟩ (.int .u64 (((j.next + 1) % 18446744073709551616 : Nat) : Int))) (grow F wy w4) p b (({ j with d := dL.1 } : JL).advance ws.length) := H4.out.turned hbx5 rfl ht5
          have hsz5 : ((w4.setCell ⟨p, 7, none⟩ (.int .i64 ((j.used + ws.length + 1 : Nat) : Int))).setCell ⟨p, 6, none⟩ (.int .u64 (((j.next + 1) % 18446744073709551616 : Nat) : Int))).heap.size = w4.heap.size := by rw [setCell_size, setCell_size]
          have ht5' : Turn F wy ((w4.setCell ⟨p, 7, none⟩ (.int .i64 ((j.used + ws.length + 1 : Nat) : Int))).setCell ⟨p, 6, none⟩ (.int .u64 (((j.next + 1) % 18446744073709551616 : Nat) : Int))) := T4.out.step (ht5.mono (fun k hk => by rw [hk]; exact H4.out.fp))
          have hj5' : RJrnAt ((w4.setCell ⟨p, 7, none⟩ (.int .i64 ((j.used + ws.length + 1 : Nat) : Int))).setCell ⟨p, 6, none⟩ (.int .u64 (((j.next + 1) % 18446744073709551616 : Nat) : Int))) (grow F wy ((w4.setCell ⟨p, 7, none⟩ (.int .i64 ((j.used + ws.length + 1 : Nat) : Int))).setCell ⟨p, 6, none⟩ (.int .u64 (((j.next + 1) % 18446744073709551616 : Nat) : Int)))) p b (({ j with d := dL.1 } : JL).advance ws.length) := hj5.mono (fun k hk => hk.elim .inl (fun hk => .inr ⟨hk.1, by rw [hsz5]; exact hk.2⟩)) (fun k hk => hk.elim (fun hk => by rw [hsz5]; exact Nat.lt_of_lt_of_le (HLT.out k hk) (Nat.le_trans HSY.out T4.out.size)) (fun hk => hk.2))
          have HJ5 := Lib.hid hj5'; have HT5 := Lib.hid ht5'; have HCM1 := Lib.hid hcm; have HPZ := Lib.hid hpz; have HOKL := Lib.hid hokL; have HW6 := Lib.hid hw6; have HW7 := Lib.hid hw7'
          clear hj5 hj5' ht5 ht5' hbx5 hsz5 hcm hpz hokL hzL hw7' k1 k2 k3 k4 k5 hus hnx hw6
          go_upto_region 20 with fail
          rw [HW6.out, HW7.out]
          clear hw7 k0 k6 k7 g6 g7
          generalize (w4.setCell ⟨p, 7, none⟩ (.int .i64 ((j.used + ws.length + 1 : Nat) : Int))).setCell ⟨p, 6, none⟩ (.int .u64 (((j.next + 1) % 18446744073709551616 : Nat) : Int)) = w5 at *
          generalize ((j.used + ws.length + 1 : Nat) : Int) = vv7
          generalize (((j.next + 1) % 18446744073709551616 : Nat) : Int) = vv6
          generalize hjA : ({ j with d := dL.1 } : JL).advance ws.length = jA at *
          have hfn : j.commit ws = ({ jA with d := (dL.1.writes ws).1 }, (dL.1.writes ws).2) := by rw [HCM1.out, ← hjA]; rfl
          have hjd : jA.d = dL.1 := by rw [← hjA]; rfl
          have HFN := Lib.hid hfn; have HJD := Lib.hid hjd
          clear hfn hjd hjA HCM1
          go_wp2_with fail
          go_loopw [9] (fun v wr => ∃ (k : Nat) (d2 : DevL), v = .int .i64 (k : Nat) ∧ k ≤ ws.length ∧ Hid (dL.1.writes ws = d2.writes (ws.drop k)) ∧ Hid (RJrnAt wr (grow F wy wr) p b { jA with d := d2 }) ∧ Hid (Turn F wy wr) ∧ Hid d2.Ok ∧ Hid (d2.dead = false → d2.p.length ≤ k)) (fun v _ => ws.length - (intOf v).toNat)
          case atStart => exact ⟨0, dL.1, rfl, Nat.zero_le _, by rw [List.drop_zero]; exact Lib.hid rfl, by rw [← HJD.out]; exact HJ5, HT5, HOKL, Lib.hid (fun _ => by rw [HPZ.out]; exact Nat.le_refl _)⟩
          case round =>
            obtain ⟨k, d2, rfl, hk, HE, HG2, HT2, HD2, HP2⟩ := hrel
            by_cases hlt : k < ws.length
            · have hki : (k : Int) < (ws.length : Int) := by omega
              obtain ⟨lb, lo, rfl, hlb, hlF, x1, x2⟩ := HC.out k hlt
              have y1 := HT2.out.cell (cellQ (HQ1.out.trans HQY.out) x1) hlF
              have y2 := HT2.out.cell (cellQ (HQ1.out.trans HQY.out) x2) hlF
              have he := HE.out
              rw [List.drop_eq_getElem_cons hlt, DevL.writes] at he
              obtain ⟨⟨hb1, hb2⟩, hdl⟩ := HO.out k hlt
              have hw1 := HG2.out.write HD2.out (fun hx => by have h1 := HP2.out hx; show d2.p.length ≤ _; omega) (ws[k].1 : Nat) ws[k].2 (by rw [hdl]; omega)
              simp only at hw1
              have hok := DevL.write_ok HD2.out (ws[k].1 : Nat) ws[k].2
              have hpn : (d2.write (ws[k].1 : Nat) ws[k].2).1.dead = false → (d2.write (ws[k].1 : Nat) ws[k].2).1.p.length ≤ k + 1 := fun hx => by
                have h1 := HP2.out (DevL.write_live _ _ _ hx)
                have h2 := DevL.write_p d2 (ws[k].1 : Nat) ws[k].2
                omega
              obtain ⟨c0, _⟩ := HG2.out.box.c8
              have hsy := HSY.out
              have hnG : ¬ grow F wy wr lb := fun hc => hc.elim hlF (fun hc => by omega)
              generalize hdw : d2.write (ws[k].1 : Nat) ws[k].2 = dw at *
              generalize ws[k].1 = bk at *
              generalize ws[k].2 = dk at *
              have HW1 := Lib.hid hw1; have HEE := Lib.hid he; have HOK := Lib.hid hok; have HPN := Lib.hid hpn; have HNG := Lib.hid hnG; have KK := Lib.hid (Q.refl wr)
              clear hw1 he hok hpn hdw x1 x2 hdl hnG hb1 hb2
              go_wp2_with fail
              go_region_held3 (fun w' => w'.cell? ⟨p, 0, none⟩ = some (ptrV b) ∧ w'.cell? ⟨lb, lo + k * 2, none⟩ = some (.int .i64 (bk : Nat)) ∧ w'.cell? ⟨lb, lo + k * 2 + 1, none⟩ = some (strV dk))
                (first | exact g0 | exact ⟨c0, y1, y2⟩ | exact three (by repeat (first | with_reducible exact KK.out | with_reducible exact Q.refl _ | with_reducible apply Qs.dr | with_reducible apply Qs.al)) c0 y1 y2)
                (first
                  | (go_at_call 125; with_reducible refine (HW1.out _ (by repeat (first | with_reducible exact KK.out | with_reducible apply Qs.dr | with_reducible apply Qs.al))).mono ?_; rintro e w3 ⟨rfl, h3, t3⟩; have g := Blk.c8 (RJrnAt.box h3); have g0 := And.intro g.1 (And.intro (Turn.cell t3 y1 HNG.out) (Turn.cell t3 y2 HNG.out)); clear g; have H3 := Lib.hid h3; have T3 := Lib.hid t3; clear h3 t3))
              all_goals
                have hs3 := RJrnAt.next (fun k hk => Nat.lt_of_lt_of_le (HLT.out k hk) HSY.out) HT2.out H3.out T3.out
                have HG3 := Lib.hid hs3.1; have HT3 := Lib.hid hs3.2
                clear hs3 c0 y1 y2
                try clear g0
                by_cases hz : dw.2 = 0
                · have hb : (dw.2 == 0) = true := beq_iff_eq.2 hz
                  have hee := HEE.out
                  rw [if_pos hz] at hee
                  have HE2 := Lib.hid hee
                  clear hee HEE hz
                  go_wp2_with fail
                  go_roundw
                  case rel => exact ⟨k + 1, dw.1, by go_num, by omega, HE2, HG3, HT3, HOK, HPN⟩
                  case measure => simp [intOf]; omega
                · have hb : (dw.2 == 0) = false := beq_eq_false_iff_ne.2 hz
                  have hee := HEE.out
                  rw [if_neg hz] at hee
                  have hfn := HFN.out
                  rw [hee] at hfn
                  have hfin : RJrnAt w3 (grow F w w3) p b { jA with d := dw.1 } := HG3.out.mono (fun k hk => hk.elim .inl (fun hk => .inr ⟨Nat.le_trans HSY.out hk.1, hk.2⟩)) (fun k hk => hk.elim (fun hk => Nat.lt_of_lt_of_le (HLT.out k hk) (Nat.le_trans HSY.out HT3.out.size)) (fun hk => hk.2))
                  have htf : Turn F w w3 := (Turn.of_q (HQ1.out.trans HQY.out)).trans HT3.out
                  have HFN1 := Lib.hid hfn; have HFIN := Lib.hid hfin; have HTF := Lib.hid htf
                  clear hee HEE hz hfn hfin htf
                  go_wp2_with fail
                  go_ret
                  rw [HFN1.out]
                  exact ⟨rfl, HFIN.out, HTF.out⟩
            · have hki : ¬ (k : Int) < (ws.length : Int) := by omega
              obtain rfl : k = ws.length := by omega
              have he := HE.out
              rw [List.drop_length, DevL.writes] at he
              have hfn := HFN.out
              rw [he] at hfn
              have hfin : RJrnAt wr (grow F w wr) p b { jA with d := d2 } := HG2.out.mono (fun k hk => hk.elim .inl (fun hk => .inr ⟨Nat.le_trans HSY.out hk.1, hk.2⟩)) (fun k hk => hk.elim (fun hk => Nat.lt_of_lt_of_le (HLT.out k hk) (Nat.le_trans HSY.out HT2.out.size)) (fun hk => hk.2))
              have htf : Turn F w wr := (Turn.of_q (HQ1.out.trans HQY.out)).trans HT2.out
              have HFN1 := Lib.hid hfn; have HFIN := Lib.hid hfin; have HTF := Lib.hid htf
              clear he hfn hfin htf
              go_wp2_with fail
              go_ret
              rw [HFN1.out]
              exact ⟨rfl, HFIN.out, HTF.out⟩
theorem tinfoInt1 : (Tryz.prog.info? 3).map (fun i => (i.zero, i.size, i.bytes)) = some (some (.int .i64 0), 1, 8) := by kernel_rfl
def BlocksEnd (s : Bytes) (w : World) (e : Ending) (w' : World) : Prop :=
  (toHeadL s = none ∧ e = .returned (.tuple #[.int .u64 0, .slice none 0 0, .bool false]) ∧ Q w w') ∨
  ∃ seq at_ v, toHeadL s = some (seq, at_) ∧ at_.length ≤ 48 ∧ e = .returned (.tuple #[.int .u64 (seq : Nat), v, .bool true]) ∧ w'.ownsRow w.heap.size 3 1 v at_.length (intVs at_) ∧ Q w w'
theorem RBlocks_any (s : Bytes) (hl : s.length = 256) (w : World) :
    Calls Tryz.prog 181 #[strV s] w fun e w' => BlocksEnd s w e w' := by
  have x1 : ({ data := s.toArray } : ByteArray).extract 0 4 = ⟨(s.take 4).toArray⟩ := bytes_take s 4
  have x2 : ({ data := s.toArray } : ByteArray).extract 252 s.length = ⟨(s.drop 252).toArray⟩ := bytes_drop s 252
  have i4 : (4 : Int) ≤ (s.length : Int) := by omega
  have i8 : (8 : Int) ≤ (s.length : Int) := by omega
  have i12 : (12 : Int) ≤ (s.length : Int) := by omega
  have i252 : (252 : Int) ≤ (s.length : Int) := by omega
  have n1 : ((s.length : Int) != 256) = false := by rw [bne, beq_iff_eq.2 (by omega)]; rfl
  have n2 : ((s.length : Int) == 256) = true := beq_iff_eq.2 (by omega)
  have hm1 := toHead_marks s
  have x3 : ({ data := s.toArray } : ByteArray).extract 4 s.length = ⟨(s.drop 4).toArray⟩ := bytes_drop s 4
  have x4 : ({ data := s.toArray } : ByteArray).extract 8 s.length = ⟨(s.drop 8).toArray⟩ := bytes_drop s 8
  have x5 : ({ data := s.toArray } : ByteArray).extract 12 s.length = ⟨(s.drop 12).toArray⟩ := bytes_drop s 12
  have c4 := fun (W : World) => RToFixed_any (s.drop 4) W (by rw [List.length_drop]; omega) (by rw [List.length_drop]; omega)
  have c8 := fun (W : World) => RToFixed_any (s.drop 8) W (by rw [List.length_drop]; omega) (by rw [List.length_drop]; omega)
  have c12 := fun (W : World) => RToFixed_any (s.drop 12) W (by rw [List.length_drop]; omega) (by rw [List.length_drop]; omega)
  have ck := fun (k : Nat) (hk : k < 48) (W : World) => RToFixed_any (s.drop (16 + 4 * k)) W (by rw [List.length_drop]; omega) (by rw [List.length_drop]; omega)
  have xk := fun (k : Nat) => bytes_drop s k
  have hbx : ∀ i (hi : i < s.length), ((({ data := s.toArray } : ByteArray)[i]'hi).toNat : Int) = (byteN s i : Nat) := fun i hi => byteF s i hi
  have HL := Lib.hid hl; have HM1 := Lib.hid hm1; have C4 := Lib.hid c4; have C8 := Lib.hid c8; have C12 := Lib.hid c12; have CK := Lib.hid ck; have XK := Lib.hid xk
  obtain ⟨i1, hi1, hy0, hy1, hy2⟩ := info_parts tinfoInt1
  clear hl hm1 c4 c8 c12 ck xk hbx
  by_cases hA : s.take 4 = [67, 68, 88, 84]
  case neg =>
    have eA : (s.take 4 == [67, 68, 88, 84]) = false := beq_eq_false_iff_ne.2 hA
    have hno := HM1.out (fun h => hA h.2.1)
    have HNO := Lib.hid hno
    clear hno hA
    go_enter Tryz.func181, Tryz.ntmps181
    go_wp2_with fail
    go_ret3
    exact .inl ⟨HNO.out, rfl, Q.refl _⟩
  have eA : (s.take 4 == [67, 68, 88, 84]) = true := beq_iff_eq.2 hA
  by_cases hB : s.drop 252 = [67, 68, 88, 69]
  case neg =>
    have eB : (s.drop 252 == [67, 68, 88, 69]) = false := beq_eq_false_iff_ne.2 hB
    have hno := HM1.out (fun h => hB h.2.2)
    have HNO := Lib.hid hno
    clear hno hA hB
    go_enter Tryz.func181, Tryz.ntmps181
    go_wp2_with fail
    go_ret3
    exact .inl ⟨HNO.out, rfl, Q.refl _⟩
  have eB : (s.drop 252 == [67, 68, 88, 69]) = true := beq_iff_eq.2 hB
  have HA := Lib.hid hA; have HB := Lib.hid hB
  have hnum := toHead_num s
  have hbig := toHead_big s
  have hrest := toHead_rest s HL.out
  have hgood := toHead_good s HL.out hA hB
  have u1 := unfix_lt (s.drop 4); have u2 := unfix_lt (s.drop 8); have u3 := unfix_lt (s.drop 12)
  have HNUM := Lib.hid hnum; have HBIG := Lib.hid hbig; have HREST := Lib.hid hrest; have HGOOD := Lib.hid hgood
  clear hA hB hnum hbig hrest hgood
  generalize unfix (s.drop 4) = v4 at *
  generalize unfix (s.drop 8) = v8 at *
  generalize unfix (s.drop 12) = n at *
  go_enter Tryz.func181, Tryz.ntmps181
  go_wp2_with fail
  refine (C4.out _).mono ?_
  rintro e w1 ⟨rfl, q1⟩
  go_wp2_with fail
  refine (C8.out _).mono ?_
  rintro e w2 ⟨rfl, q2⟩
  go_wp2_with fail
  refine (C12.out _).mono ?_
  rintro e w3 ⟨rfl, q3⟩
  have HQ3 := Lib.hid (q1.trans (q2.trans q3))
  clear q1 q2 q3
  by_cases hn : 1 ≤ n ∧ n ≤ 48
  case neg =>
    have hno := HNUM.out hn
    have HNO := Lib.hid hno
    clear hno
    by_cases h1 : n < 1
    · have e1 : (n : Int) < 1 := by omega
      clear hn h1
      go_wp2_with fail
      go_ret3
      exact .inl ⟨HNO.out, rfl, HQ3.out⟩
    · have e1 : ¬ (n : Int) < 1 := by omega
      have e2 : (48 : Int) < (n : Int) := by omega
      clear hn h1
      go_wp2_with fail
      go_ret3
      exact .inl ⟨HNO.out, rfl, HQ3.out⟩
  obtain ⟨hn1, hn2⟩ := hn
  have e1 : ¬ (n : Int) < 1 := by omega
  have e2 : ¬ (48 : Int) < (n : Int) := by omega
  go_wp2_with fail
  go_loopw [14, 15] (fun v i wr => ∃ k : Nat, i = .int .i64 (k : Nat) ∧ k ≤ n ∧ Hid (wr.ownsRow w3.heap.size 3 1 v k (intVs (numsK s k))) ∧ Hid (Q w3 wr) ∧ Hid (∀ x, x < k → numA s x < 4096)) (fun _ i _ => n - (intOf i).toNat)
  case atStart => exact ⟨0, rfl, Nat.zero_le _, World.ownsRow_nil _ _ _ _, Q.refl _, Lib.hid (fun x hx => by omega)⟩
  case round =>
    obtain ⟨k, rfl, hk, HOW, HQ, HBN⟩ := hrel
    by_cases hlt : k < n
    · have hki : (k : Int) < (n : Int) := by omega
      have hc := CK.out k (by omega)
      have hx := XK.out (16 + 4 * k)
      have hto : ((16 : Int) + 4 * (k : Int)).toNat = 16 + 4 * k := by omega
      have hlo : (16 : Int) + 4 * (k : Int) ≤ (s.length : Int) := by have := HL.out; omega
      have hst := numsK_succ s k
      have hnl := numsK_len s k
      have hnv : unfix (s.drop (16 + 4 * k)) = numA s k := rfl
      have hnlt := unfix_lt (s.drop (16 + 4 * k))
      rw [hnv] at hnlt
      rw [hnv] at hc
      have hbk := HBIG.out k hlt hn2
      have HC := Lib.hid hc; have HST := Lib.hid hst; have HBK := Lib.hid hbk
      clear hc hst hbk hnv hnl
      generalize (s.drop (16 + 4 * k)).drop 4 = rk at *
      generalize hna : numA s k = a at *
      go_wp2_with fail
      refine (HC.out _).mono ?_
      rintro e w4 ⟨rfl, q4⟩
      have HQ4 := Lib.hid (HQ.out.trans q4)
      have HO4 := Lib.hid (ownsRow_below HOW.out q4)
      clear q4
      by_cases hb : a < 4096
      · have eb : ¬ (4096 : Int) ≤ (a : Int) := by omega
        have hbn : ∀ x, x < k + 1 → numA s x < 4096 := fun x hx => by
          by_cases he : x = k
          · subst he; rw [hna]; exact hb
          · exact HBN.out x (by omega)
        have HBN2 := Lib.hid hbn
        have hc1 : ∀ u ∈ #[Value.int .i64 (a : Nat)].toList, u.oneCell' = true := by intro u hu; simp at hu; rw [hu]; rfl
        have hc2 : (k + 1) * 8 ≤ 140737488355328 := by omega
        have HC3 := Lib.hid hc1; have HC4 := Lib.hid hc2
        have hb0 : w3.heap.size ≤ w4.heap.size := HQ4.out.size
        clear hc1 hc2 hbn hna hx hto hlo
        go_wp2_with (at_builtin; refine wpList_app w4 (by rfl) _ _ 155 (by rfl) w3.heap.size 3 _ i1 (.int .i64 0) 1 8 Tryz.underlying155 hi1 hy0 hy1 hy2 rfl (by decide) (by decide) _ _ _ (by rfl) HO4.out #[.int .i64 (a : Nat)] (by rfl) rfl HC3.out HC4.out hb0 ?_)
        intro g11 cap11 w11 hr11 hg11 ho11 hlt11 hlt11b
        have hq21 : Q w3 w11 := grown_below HQ4.out HO4.out hg11 (Nat.le_refl _) hb0
        have hr11' : w11.ownsRow w3.heap.size 3 1 (.slice (some ⟨g11, 0, none⟩) (k + 1) cap11) (k + 1) (intVs (numsK s (k + 1))) := by
          rw [HST.out, show intVs (numsK s k ++ [a]) = intVs (numsK s k) ++ [.int .i64 (a : Nat)] by simp [intVs]]; exact hr11
        have HQ11 := Lib.hid hq21; have HR11 := Lib.hid hr11'
        clear hr11 hg11 ho11 hlt11 hlt11b hr11' hq21
        go_wp2_with fail
        go_roundw
        case rel => exact ⟨k + 1, by go_num, by omega, HR11, HQ11, HBN2⟩
        case measure => simp [intOf]; omega
      · have eb : (4096 : Int) ≤ (a : Int) := by omega
        have hno := HBK.out hb
        have HNO := Lib.hid hno
        clear hno hb hna
        go_wp2_with fail
        go_ret3
        exact .inl ⟨HNO.out, rfl, HQ3.out.trans HQ4.out⟩
    · have hki : ¬ (k : Int) < (n : Int) := by omega
      obtain rfl : k = n := by omega
      have hrs : ∀ i, 16 + 4 * k ≤ i → i < 248 → byteN s i ≠ 0 → toHeadL s = none := fun i h1 h2 h3 => HREST.out hn2 i h1 h2 h3
      have HRS := Lib.hid hrs
      clear hrs
      go_wp2_with fail
      go_loopw [19] (fun v wr2 => ∃ i : Nat, v = .int .i64 (i : Nat) ∧ 16 + 4 * k ≤ i ∧ i ≤ 248 ∧ Hid (wr = wr2) ∧ Hid (∀ x, 16 + 4 * k ≤ x → x < i → byteN s x = 0)) (fun v _ => 248 - (intOf v).toNat)
      case atStart => exact ⟨16 + 4 * k, by go_num, Nat.le_refl _, by omega, Lib.hid rfl, Lib.hid (fun x h1 h2 => by omega)⟩
      case round =>
        obtain ⟨i, rfl, hi1', hi2, HW, HZ⟩ := hrel
        obtain rfl := HW.out
        by_cases hlt2 : i < 248
        · have hki2 : (i : Int) < 248 := by omega
          have hil : i < s.length := by have := HL.out; omega
          have hil2 : (i : Int) < (s.length : Int) := by omega
          have hby := byteF s i hil
          by_cases hz : byteN s i = 0
          · have ez : (((byteN s i : Nat) : Int) == 0) = true := beq_iff_eq.2 (by omega)
            have ez2 : (((byteN s i : Nat) : Int) != 0) = false := by rw [bne, ez]; rfl
            have hzn : ∀ x, 16 + 4 * k ≤ x → x < i + 1 → byteN s x = 0 := fun x h1 h2 => by
              by_cases he : x = i
              · rw [he]; exact hz
              · exact HZ.out x h1 (by omega)
            have HZ2 := Lib.hid hzn
            clear hzn hz
            go_wp2_with fail
            go_roundw
            case rel => exact ⟨i + 1, by go_num, by omega, by omega, Lib.hid (by first | rfl | trivial), HZ2⟩
            case measure => simp [intOf]; omega
          · have ez : (((byteN s i : Nat) : Int) == 0) = false := beq_eq_false_iff_ne.2 (by omega)
            have ez2 : (((byteN s i : Nat) : Int) != 0) = true := by rw [bne, ez]; rfl
            have hno := HRS.out i hi1' hlt2 hz
            have HNO := Lib.hid hno
            clear hno hz
            go_wp2_with fail
            go_ret3
            exact .inl ⟨HNO.out, rfl, HQ3.out.trans HQ.out⟩
        · have hki2 : ¬ (i : Int) < 248 := by omega
          obtain rfl : i = 248 := by omega
          have hgd := HGOOD.out hn1 hn2 HBN.out HZ.out
          have HGD := Lib.hid hgd
          have hrow := owns_low (base' := w.heap.size) HOW.out HQ3.out.size
          have HROW := Lib.hid hrow
          have hseq : (v8 : Int) * 4294967296 + (v4 : Int) = ((v8 * 4294967296 + v4 : Nat) : Int) := by omega
          have HSEQ := Lib.hid hseq
          clear hgd hrow hseq
          go_wp2_with fail
          go_ret3
          exact .inr ⟨_, _, _, HGD.out, by rw [numsK_len]; exact hn2, by rw [← HSEQ.out]; rfl, by rw [numsK_len]; exact HROW.out, HQ3.out.trans HQ.out⟩
theorem wr_app (W0 : World) {w : World} {ops : Array Oper} {o : Oper} {a : Act} {K : Act → World → Prop} {Qx : Exit → Act → World → Prop} {E : Prop} (hgd : o.guard = none) (s x : Operand)
    (ho : o.op = .call { callee := .builtin .append, args := #[s, x], argTypes := #[72, 72] })
    (v : Value) (n : Nat) (xs : List WrL) (hs : a.eval s = v) (hown : w.ownsRow W0.heap.size 88 2 v n (wrVs xs)) (hq : Q W0 w)
    (vx : Value) (m : Nat) (ys : List WrL) (hx : a.eval x = vx) (hl : Sl w vx m 2 (wrVs ys)) (hnm : n + m ≤ 1000000000) (hone : ∀ u ∈ wrVs ys, u.oneCell' = true)
    (h : ∀ v' w', w'.ownsRow W0.heap.size 88 2 v' (n + m) (wrVs (xs ++ ys)) → Q W0 w' → K (a.put o.dst v') w') :
    if Region.wanted o (yielded ops a.tmps) = true then Oper.wp Tryz.prog o a w K Qx else E := by
  obtain ⟨i0, hi, hz0, hz1, hz2⟩ := info_parts tinfoWr
  have hw : Region.wanted o (yielded ops a.tmps) = true := by simp [Region.wanted, hgd]
  rw [if_pos hw]
  refine wp_append_sl w s x 72 ho W0.heap.size 88 i0 (.agg #[.int .i64 0, strV []]) 2 24 Tryz.underlying72 hi hz0 hz1 hz2 rfl (by decide) v n (wrVs xs) hs hown vx m (wrVs ys) hx hl hone (by unfold maxLen; omega) (by omega) hq.size ?_
  · intro v' w' h2 h3 _
    exact h v' w' (by rw [wrVs_append]; exact h2) (grown_below hq hown h3 (Nat.le_refl _) hq.size)
theorem wr_lit (w : World) (x : Nat) (y : Bytes) : Sl (w.alloc (.cells #[.int .i64 (x : Nat), strV y] 88)) (.slice (some ⟨w.heap.size, 0, none⟩) 1 1) 1 2 (wrVs [(x, y)]) :=
  Sl.lit w #[.int .i64 (x : Nat), strV y] 88 1 2 rfl
theorem wr_one (x : Nat) (y : Bytes) : ∀ u ∈ wrVs [(x, y)], u.oneCell' = true := by
  intro u hu
  simp [wrVs, encW] at hu
  rcases hu with rfl | rfl <;> rfl
def UnpackEnd (ls : List Bytes) (w : World) (e : Ending) (w' : World) : Prop :=
  (∃ a v x, e = .returned (.tuple #[a, v, .int .i64 x]) ∧ (unpackL ls = none → x ≠ 0) ∧ ∀ seq ws, unpackL ls = some (seq, ws) → x = 0 ∧ a = .int .u64 (seq : Nat) ∧ w'.ownsRow w.heap.size 88 2 v ws.length (wrVs ws)) ∧ Q w w'
theorem RUnpack_any (w : World) (base : Nat) (lv : Value) (ls : List Bytes) (h : w.ownsRow base 9 1 lv ls.length (ls.map strV)) (hn : ls.length ≤ 49) (hl : ∀ s ∈ ls, s.length = 256) :
    Calls Tryz.prog 164 #[lv] w fun e w' => UnpackEnd ls w e w' := by
  obtain ⟨la, lc, rfl, hla⟩ := owns_value h
  have hsl := Sl.of_owns h
  cases ls with
  | nil =>
    go_enter Tryz.func164, Tryz.ntmps164
    go_wp2_with fail
    go_ret3
    exact ⟨⟨_, _, _, rfl, fun _ => by decide, fun _ _ hc => by simp [unpackL] at hc⟩, Q.refl _⟩
  | cons b rest =>
    obtain ⟨lb, rfl⟩ := hla (by simp)
    have hcells : ∀ k (hk : k < (b :: rest).length), w.cell? ⟨lb, k, none⟩ = some (strV ((b :: rest).getD k [])) := fun k hk => owns_cells hsl (by simp) k _ (strs_at _ k hk)
    have x0 := hcells 0 (by simp)
    simp only [List.getD_cons_zero] at x0
    have hb := hl b (List.mem_cons_self ..)
    have cr := RBlocks_any b hb
    rw [List.length_cons] at *
    have hun : unpackL (b :: rest) = match toHeadL b with
      | none => none
      | some (seq, at_) => if rest.length < at_.length ∨ ∃ s ∈ rest.take at_.length, s.length ≠ 256 then none
          else if fixedL (crcL (b.take 248 ++ (rest.take at_.length).flatten)) = (b.drop 248).take 4 then some (seq, at_.zip rest) else none := rfl
    have hccc := fun (s : Bytes) (hs : s.length ≤ 1000000) (W : World) => RCrc_any s W (by omega)
    have hcf := fun (v : Nat) (hv : v < 4294967296) (W : World) => RFixed_any v W hv
    have CR := Lib.hid cr; have HL := Lib.hid hl; have HC := Lib.hid hcells; have HUN := Lib.hid hun; have HB := Lib.hid hb; have CCC := Lib.hid hccc; have CF := Lib.hid hcf
    clear cr hl hcells hun hsl h hb hccc hcf
    have hne : ((rest.length : Int) + 1 == 0) = false := beq_eq_false_iff_ne.2 (by omega)
    have hne2 : (0 : Int) < (rest.length : Int) + 1 := by omega
    have hne3 : ¬ ((rest.length : Int) + 1 = 0) := by omega
    go_enter Tryz.func164, Tryz.ntmps164
    go_wp2_with fail
    refine (CR.out w).mono ?_
    rintro e w1 (⟨hth, rfl, q1⟩ | ⟨seq, at_, v, hth, hal, rfl, hr, q1⟩)
    · have hno : unpackL (b :: rest) = none := by rw [HUN.out, hth]
      have HNO := Lib.hid hno; have HQ1 := Lib.hid q1
      clear hno hth q1
      go_wp2_with fail
      go_ret3
      exact ⟨⟨_, _, _, rfl, fun _ => by decide, fun _ _ hc => by rw [HNO.out] at hc; exact absurd hc (by simp)⟩, HQ1.out⟩
    · obtain ⟨pa, pc, rfl, hpa⟩ := owns_value hr
      have hun := HUN.out
      rw [hth] at hun
      simp only at hun
      have HUN2 := Lib.hid hun; have HR := Lib.hid hr; have HQ1 := Lib.hid q1; have HTH := Lib.hid hth
      clear hun hr q1 hth HUN
      by_cases hlen : rest.length < at_.length
      · have hh : (rest.length : Int) + 1 ≤ (at_.length : Int) := by omega
        have hno : unpackL (b :: rest) = none := by rw [HUN2.out, if_pos (.inl hlen)]
        have HNO := Lib.hid hno
        clear hno hlen
        go_wp2_with fail
        go_ret3
        exact ⟨⟨_, _, _, rfl, fun _ => by decide, fun _ _ hc => by rw [HNO.out] at hc; exact absurd hc (by simp)⟩, HQ1.out⟩
      · have hh : ¬ (rest.length : Int) + 1 ≤ (at_.length : Int) := by omega
        have hcv : ∀ k, k < at_.length → ∃ ga, pa = some ⟨ga, 0, none⟩ ∧ w1.cell? ⟨ga, k, none⟩ = some (.int .i64 (at_.getD k 0 : Nat)) := fun k hk => by
          obtain ⟨ga, rfl⟩ := hpa (by omega)
          exact ⟨_, rfl, owns_cells (Sl.of_owns HR.out) (by omega) k _ (intVs_at at_ k hk)⟩
        have hcd : ∀ k, k < at_.length → w1.cell? ⟨lb, 1 + k, none⟩ = some (strV (rest.getD k [])) ∧ (rest.getD k []).length = 256 := fun k hk => by
          have h1 := HC.out (k + 1) (by omega)
          rw [List.getD_cons_succ, Nat.add_comm] at h1
          refine ⟨cellQ HQ1.out h1, ?_⟩
          rw [List.getD_eq_getElem?_getD, List.getElem?_eq_getElem (by omega : k < rest.length)]
          exact HL.out _ (List.mem_cons_of_mem _ (List.getElem_mem _))
        have hzs : ∀ k, k < at_.length → (at_.zip rest).take (k + 1) = (at_.zip rest).take k ++ [(at_.getD k 0, rest.getD k [])] ∧ (rest.take (k + 1)).flatten = (rest.take k).flatten ++ rest.getD k [] := fun k hk => by
          have h3 : k < (at_.zip rest).length := by rw [List.length_zip]; omega
          have h4 : k < rest.length := by omega
          constructor
          · rw [List.take_succ_eq_append_getElem h3, List.getElem_zip, List.getD_eq_getElem?_getD, List.getD_eq_getElem?_getD, List.getElem?_eq_getElem hk, List.getElem?_eq_getElem h4]
            rfl
          · rw [List.take_succ_eq_append_getElem h4, List.flatten_append, List.getD_eq_getElem?_getD, List.getElem?_eq_getElem h4]
            simp
        have hfl : ∀ k, k ≤ at_.length → (rest.take k).flatten.length = 256 * k := fun k hk => by
          induction k with
          | zero => rfl
          | succ k ih => rw [(hzs k (by omega)).2, List.length_append, ih (by omega), (hcd k (by omega)).2]; omega
        have HCV := Lib.hid hcv; have HCD := Lib.hid hcd; have HZS := Lib.hid hzs; have HFL := Lib.hid hfl
        clear hcv hcd hzs hfl
        go_wp2_with fail
        go_loopw [8, 9, 10] (fun tv ov i wr => ∃ k : Nat, i = .int .i64 (k : Nat) ∧ k ≤ at_.length ∧ tv = strV (rest.take k).flatten ∧ Hid (wr.ownsRow w1.heap.size 88 2 ov k (wrVs ((at_.zip rest).take k))) ∧ Hid (Q w1 wr)) (fun _ _ i _ => at_.length - (intOf i).toNat)
        case atStart => exact ⟨0, rfl, Nat.zero_le _, rfl, World.ownsRow_nil _ _ _ _, Lib.hid (Q.refl _)⟩
        case round =>
          obtain ⟨k, rfl, hk, rfl, HOW, HQ2⟩ := hrel
          have hfk := HFL.out k hk
          by_cases hlt : k < at_.length
          · have hki : (k : Int) < (at_.length : Int) := by omega
            have hki2 : 1 + (k : Int) < (rest.length : Int) + 1 := by omega
            have hki3 : (0 : Int) ≤ 1 + (k : Int) := by omega
            have htn : (1 + (k : Int)).toNat = 1 + k := by omega
            have hwk : IntKind.i64.wrap (1 + (k : Int)) = 1 + (k : Int) := IntWalk.i64_in _ (by omega)
            obtain ⟨ga, rfl, x1⟩ := HCV.out k hlt
            obtain ⟨x2, hd256⟩ := HCD.out k hlt
            have y1 := cellQ HQ2.out x1; have y2 := cellQ HQ2.out x2
            have hzs := HZS.out k hlt
            have HZ := Lib.hid hzs
            clear hzs x1 x2
            generalize at_.getD k 0 = bk at *
            generalize rest.getD k [] = dk at *
            have hd2 : ((dk.length : Int) != 256) = false := by rw [bne, beq_iff_eq.2 (by omega)]; rfl
            have hd3 : ((dk.length : Int) == 256) = true := beq_iff_eq.2 (by omega)
            have hd4 : dk.length ≤ 1000 := by omega
            have hf2 : (rest.take k).flatten.length ≤ 100000 := by omega
            clear hd256 hfk
            generalize (rest.take k).flatten = fk at *
            generalize (at_.zip rest).take k = zk at *
            have HKB := Lib.hid (show k + 1 ≤ 1000000000 by omega)
            go_wp2_with fail
            go_region_law
              (first
                | (refine wr_app w1 (by rfl) _ _ (by rfl) _ k zk (by rfl) (ownsRow_below HOW.out (by first | exact Q.alloc _ _ | exact Qs.dr (Q.alloc _ _) | exact Qs.al (Q.drew _) _)) (HQ2.out.trans (by first | exact Q.alloc _ _ | exact Qs.dr (Q.alloc _ _) | exact Qs.al (Q.drew _) _)) _ 1 [(bk, dk)] (by rfl) (by first | exact wr_lit wr bk dk | exact (wr_lit wr bk dk).stays (Q.drew _)) HKB.out (wr_one bk dk) ?_; intro v7 w7 h7 q7; have H7 := Lib.hid h7; have Q7 := Lib.hid q7; clear h7 q7))
            all_goals
              have h7 : w7.ownsRow w1.heap.size 88 2 v7 (k + 1) (wrVs ((at_.zip rest).take (k + 1))) := by rw [HZ.out.1]; exact H7.out
              have HR7 := Lib.hid h7
              clear h7 hwk htn hki2 hki3 y1 y2
              go_simp
              go_wp2_with fail
              go_roundw
              case rel => exact ⟨k + 1, by go_num, by omega, by rw [HZ.out.2]; simp only [bytes_append], HR7, Q7⟩
              case measure => simp [intOf]; omega
          · have hki : ¬ (k : Int) < (at_.length : Int) := by omega
            obtain rfl : k = at_.length := by omega
            have y0 := cellQ (HQ1.out.trans HQ2.out) x0
            have hun : unpackL (b :: rest) = if fixedL (crcL (b.take 248 ++ (rest.take at_.length).flatten)) = (b.drop 248).take 4 then some (seq, at_.zip rest) else none := by
              rw [HUN2.out, if_neg]
              rintro (hc | ⟨q, hq, hne2⟩)
              · exact hlen hc
              · exact hne2 (HL.out q (List.mem_cons_of_mem _ (List.mem_of_mem_take hq)))
            have hzt : (at_.zip rest).take at_.length = at_.zip rest := List.take_of_length_le (by rw [List.length_zip]; omega)
            have hzl : (at_.zip rest).length = at_.length := by rw [List.length_zip]; omega
            have hrow : wr.ownsRow w.heap.size 88 2 u9 (at_.zip rest).length (wrVs (at_.zip rest)) := by
              have := HOW.out
              rw [hzt] at this
              rw [hzl]
              exact owns_low this HQ1.out.size
            have hf2 : (rest.take at_.length).flatten.length ≤ 100000 := by omega
            have hbl := HB.out
            have hcl : (b.take 248 ++ (rest.take at_.length).flatten).length ≤ 1000000 := by rw [List.length_append, List.length_take]; omega
            have hcc := CCC.out _ hcl
            have hlt' := crcL_lt (b.take 248 ++ (rest.take at_.length).flatten)
            have hcf := CF.out _ hlt'
            have hx1 : ({ data := b.toArray } : ByteArray).extract 248 252 = ⟨((b.drop 248).take 4).toArray⟩ := bytes_extract b 248 252
            have hx2 : ({ data := b.toArray } : ByteArray).extract 0 248 = ⟨(b.take 248).toArray⟩ := bytes_take b 248
            have hb1 : (252 : Int) ≤ (b.length : Int) := by omega
            have hb2 : (248 : Int) ≤ (b.length : Int) := by omega
            have hb3 : (b.take 248).length ≤ 1000 := by rw [List.length_take]; omega
            have HUN3 := Lib.hid hun; have HROW := Lib.hid hrow
            clear hun hzt hzl hrow hfk hcl hlt' hbl HFL HZS HCD HCV HUN2 HOW
            generalize (rest.take at_.length).flatten = fk at *
            generalize b.take 248 = bt at *
            generalize (b.drop 248).take 4 = bm at *
            generalize crcL (bt ++ fk) = cr at *
            generalize fixedL cr = fx at *
            have hsm : ¬ 9223372036854775807 < bt.length + fk.length := by omega
            have hsm2 : ¬ (9223372036854775807 : Int) < (bt.length : Int) + (fk.length : Int) := by omega
            have HCC := Lib.hid hcc; have HCF := Lib.hid hcf
            have KK := Lib.hid (Q.refl wr)
            clear hcc hcf
            go_wp2_with fail
            go_region_held3 (fun w' => w'.cell? ⟨lb, 0, none⟩ = some (strV b))
              (first | exact y0 | exact cellQ (by repeat (first | with_reducible exact KK.out | with_reducible exact Q.refl _ | with_reducible apply Qs.dr | with_reducible apply Qs.al)) y0)
              (first
                | (go_at_call 166; rw [bytes_append]; with_reducible refine (HCC.out _).mono ?_; rintro e w5 ⟨rfl, rfl⟩)
                | (go_at_call 133; with_reducible refine (HCF.out _).mono ?_; rintro e w6 ⟨rfl, q6⟩; have s' : Q wr w6 := Q.trans (by repeat (first | with_reducible exact KK.out | with_reducible apply Qs.dr | with_reducible apply Qs.al)) q6; clear KK; have KK := Lib.hid s'; clear s' q6))
            all_goals
              have hq6 : Q w w6 := HQ1.out.trans (HQ2.out.trans KK.out)
              have hrow6 := ownsRow_below HROW.out KK.out
              have HQ6 := Lib.hid hq6; have HR6 := Lib.hid hrow6
              clear hq6 hrow6
              by_cases hc : fx = bm
              · have hu := HUN3.out
                rw [if_pos hc] at hu
                have HU := Lib.hid hu; have HCC' := Lib.hid hc.symm
                clear hu hc
                go_wp2_with fail
                all_goals first
                  | (exfalso; rename_i hx; rw [beq_iff_eq.2 HCC'.out] at hx; exact absurd hx (by decide))
                  | (go_ret3
                     refine ⟨⟨_, _, _, rfl, fun h => by rw [HU.out] at h; exact absurd h (by simp), fun sq ws h => ?_⟩, HQ6.out⟩
                     rw [HU.out] at h
                     simp only [Option.some.injEq, Prod.mk.injEq] at h
                     obtain ⟨rfl, rfl⟩ := h
                     exact ⟨rfl, rfl, HR6.out⟩)
              · have hu := HUN3.out
                rw [if_neg hc] at hu
                have HU := Lib.hid hu; have HCC' := Lib.hid (Ne.symm hc)
                clear hu hc
                go_wp2_with fail
                all_goals first
                  | (exfalso; rename_i hx; rw [beq_false_of_ne HCC'.out] at hx; exact absurd hx (by decide))
                  | (go_ret3
                     exact ⟨⟨_, _, _, rfl, fun h => by decide, fun sq ws h => by rw [HU.out] at h; exact absurd h (by simp)⟩, HQ6.out⟩)
end
end Go.Proofs.YtnmijegmbomfdaaGreatDoor
