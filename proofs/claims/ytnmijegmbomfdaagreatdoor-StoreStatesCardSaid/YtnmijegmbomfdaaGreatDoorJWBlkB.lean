/- Joined texts of one proof: what is needed of WBlkB, WBlkD, WJrnA, AppSl, WFrmA, WToF. -/
import Derived.Test.YtnmijegmbomfdaaGreatDoorJMapI
import Derived.Deep.RegionHeld3
import Derived.Test.YtnmijegmbomfdaaGreatDoorJMem3
import Derived.Test.YtnmijegmbomfdaaGreatDoorJSto2
import Derived.Maps.AppendAt
import Derived.Deep.AppendLies
import Derived.Lib.AppendZeros
import Derived.Test.YtnmijegmbomfdaaGreatDoorJWCacB
import Derived.Test.YtnmijegmbomfdaaGreatDoorJWire
import Derived.Test.YtnmijegmbomfdaaGreatDoorProg
import Derived.Test.YtnmijegmbomfdaaGreatDoorJBase
import Derived.Deep.QuietTactic
set_option linter.unusedSimpArgs false
set_option linter.unusedVariables false
set_option linter.unnecessarySimpa false
set_option maxRecDepth 100000
set_option maxHeartbeats 16000000
namespace Go.Proofs.YtnmijegmbomfdaaGreatDoor
section
open Go.RowKit
theorem write_err {d : DevL} (i : Int) (s : Bytes) (h : d.chk i ≠ 0) : d.write i s = (d, d.chk i) := by unfold DevL.write; rw [if_pos h]
theorem Write_any (w : World) (F : Nat → Prop) (b : Nat) (d : DevL) (i : Int) (s : Bytes) (h : DevAt w F b d) (hd : d.Ok) (hp : d.dead = false → d.p.length ≤ 1000000) (hs : s.length ≤ 9223372036854775807) :
    Calls Tryz.prog 141 #[ptrV b, .int .i64 i, strV s] w fun e w' => e = .returned (.int .i64 (d.write i s).2) ∧ DevAt w' (grow F w w') b (d.write i s).1 ∧ Turn F w w' := by
  have hc := Chk_any w F b d i h hd.max
  obtain ⟨g, cap, pv, h⟩ := h
  have hg0 := h.mono (fun k hk => grow_left (A := w) (B := w) hk)
  have hfin : ∀ {e : Int}, (d.write i s) = (d, e) → DevAt w (grow F w w) b (d.write i s).1 := fun he => by rw [he]; exact ⟨g, cap, pv, hg0⟩
  by_cases h0 : d.chk i = 0
  · rw [h0] at hc
    by_cases h1 : s.length = 256
    · have e1 : (!((s.length : Int) == 256)) = false := by rw [beq_iff_eq.2 (by omega)]; rfl
      have ht := BTurn_any w F b g cap pv d h hd.fuse hd.fuse2
      by_cases h2 : d.fuse = 0
      · have hw : d.write i s = (d.turn, 4) := by unfold DevL.write; rw [if_neg (by rw [h0]; simp), if_neg (by rw [h1]; simp), if_pos h2]
        rw [if_pos h2] at ht
        rw [hw]
        have HC := Lib.hid hc; have HT := Lib.hid ht
        clear hc ht h hg0 hfin hw h0 hd hp
        go_enter Tryz.func141, Tryz.ntmps141
        go_wp2_with fail
        refine HC.out.mono ?_
        rintro e w1 ⟨rfl, rfl⟩
        go_wp2_with fail
        refine HT.out.mono ?_
        rintro e w1 ⟨rfl, hg1, t1, hz1⟩
        have HG := Lib.hid hg1; have HTT := Lib.hid t1
        clear hg1 t1
        go_wp2_with fail
        go_ret
        exact ⟨rfl, ⟨_, _, _, HG.out.mono (fun k hk => grow_left hk)⟩, HTT.out⟩
      · rw [if_neg h2] at ht
        have hlive : d.dead = false := by
          unfold DevL.chk at h0
          cases hx : d.dead with
          | false => rfl
          | true => rw [hx] at h0; simp at h0
        have hi0 : 0 ≤ i := by
          unfold DevL.chk at h0
          rw [hlive] at h0
          simp only [Bool.false_eq_true, if_false] at h0
          split at h0
          · rename_i hx; exact hx.1
          · exact absurd h0 (by decide)
        have hw : d.write i s = ({ d.turn with p := d.turn.p ++ [(i.toNat, s)] }, 0) := by unfold DevL.write; rw [if_neg (by rw [h0]; simp), if_neg (by rw [h1]; simp), if_neg h2, (DevL.turn_l d).2]
        have hpl : d.turn.p.length ≤ 1000000 := by rw [(DevL.turn_l d).2]; exact hp hlive
        have hx : [Value.int .i64 i, strV s] = encW (i.toNat, s) := by unfold encW; rw [Int.toNat_of_nonneg hi0]
        rw [hw]
        obtain ⟨i0, hi, hz0, hz1, hz2⟩ := info_parts tinfoWr
        generalize d.turn = d2 at *
        have HC := Lib.hid hc; have HT := Lib.hid ht; have HX := Lib.hid hx
        clear hc ht h hg0 hfin hw h0 hd hp hx hi0
        go_enter Tryz.func141, Tryz.ntmps141
        go_wp2_with fail
        refine HC.out.mono ?_
        rintro e w1 ⟨rfl, rfl⟩
        go_wp2_with fail
        refine HT.out.mono ?_
        rintro e w1 ⟨rfl, hg1, t1, hz1'⟩
        obtain ⟨c0, c1, c2, c3, f0, f1, f2, f3⟩ := hg1.box.c4
        have HG := Lib.hid hg1; have HTT := Lib.hid t1; have HZ := Lib.hid hz1'
        clear hg1 t1 hz1'
        have hrow := HG.out.row
        have hc1 : ∀ u ∈ #[Value.int .i64 i, strV s].toList, u.oneCell' = true := by intro u hu; simp at hu; rcases hu with rfl | rfl <;> rfl
        have hc2 : (d2.p.length + 1) * 24 ≤ 140737488355328 := by omega
        have HC1 := Lib.hid hc1; have HC2 := Lib.hid hc2
        clear hc1 hc2
        go_wp2_with (at_builtin; refine wpList_app w1 (by rfl) _ _ 72 (by rfl) 0 88 _ i0 (.agg #[.int .i64 0, strV []]) 2 24 Tryz.underlying72 hi hz0 hz1 hz2 rfl (by decide) (by decide) pv _ _ (by rfl) hrow #[.int .i64 i, strV s] (by rfl) rfl HC1.out HC2.out (Nat.zero_le _) ?_)
        clear hrow
        intro g2 cap2 w2 hr hg ho hlt hlt2
        have hr' : w2.ownsRow 0 88 2 (.slice (some ⟨g2, 0, none⟩) (d2.p.length + 1) cap2) (d2.p.length + 1) (wrVs d2.p ++ encW (i.toNat, s)) := by rw [← HX.out]; exact hr
        obtain ⟨hb2, hend, tend⟩ := HG.out.append (i.toNat, s) g2 cap2 hr' hg ho hlt
        obtain ⟨d0, d1, d2', d3, e0, e1', e2, e3⟩ := hb2.c4
        have HE := Lib.hid hend; have HF := Lib.hid tend
        clear hend tend hr hg ho hr' hb2
        go_wp2_with fail
        go_ret
        refine ⟨rfl, ⟨_, _, _, HE.out.mono (fun k hk => ?_)⟩, HTT.out.trans HF.out⟩
        rcases hk with hk | hk
        · exact .inl hk
        · exact .inr ⟨by rw [← HZ.out]; exact hk.1, hk.2⟩
    · have e1 : (!((s.length : Int) == 256)) = true := by rw [beq_eq_false_iff_ne.2 (by omega)]; rfl
      have hw : d.write i s = (d, 3) := by unfold DevL.write; rw [if_neg (by rw [h0]; simp), if_pos h1]
      have hend := hfin hw
      rw [hw] at hend ⊢
      have HC := Lib.hid hc; have HE := Lib.hid hend
      clear hc hend h hg0 hfin hw h0 hd hp
      go_enter Tryz.func141, Tryz.ntmps141
      go_wp2_with fail
      refine HC.out.mono ?_
      rintro e w1 ⟨rfl, rfl⟩
      go_wp2_with fail
      go_ret
      exact ⟨rfl, HE.out, Turn.refl _ _⟩
  · have e1 : (d.chk i == 0) = false := beq_eq_false_iff_ne.2 h0
    have hw := write_err i s h0
    have hend := hfin hw
    rw [hw] at hend ⊢
    have HC := Lib.hid hc; have HE := Lib.hid hend
    clear hc hend h hg0 hfin hw h0 hd hp
    simp only at HE ⊢
    generalize d.chk i = x at *
    go_enter Tryz.func141, Tryz.ntmps141
    go_wp2_with fail
    refine HC.out.mono ?_
    rintro e w1 ⟨rfl, rfl⟩
    go_wp2_with fail
    go_ret
    exact ⟨rfl, HE.out, Turn.refl _ _⟩
theorem layP_step (l : List Bytes) (p : List WrL) (k : Nat) (h : k < p.length) : layP l (p.take (k + 1)) = (layP l (p.take k)).set p[k].1 p[k].2 := by
  rw [List.take_succ_eq_append_getElem h, layP_append]; rfl
theorem Flush_any (w : World) (F : Nat → Prop) (b : Nat) (d : DevL) (h : DevAt w F b d) (hd : d.Ok) (hp : d.dead = false → d.p.length ≤ 1000000) :
    Calls Tryz.prog 158 #[ptrV b] w fun e w' => e = .returned (.int .i64 d.flush.2) ∧ DevAt w' (grow F w w') b d.flush.1 ∧ Turn F w w' := by
  have hc := Chk_any w F b d 0 h hd.max
  obtain ⟨g, cap, pv, h⟩ := h
  have hg0 := h.mono (fun k hk => grow_left (A := w) (B := w) hk)
  cases hlive : d.dead with
  | true =>
    have hw : d.flush = (d, 4) := by unfold DevL.flush; rw [if_pos hlive]
    have h0 : d.chk 0 = 4 := by unfold DevL.chk; rw [if_pos hlive]
    rw [h0] at hc
    rw [hw]
    have HC := Lib.hid hc; have HG := Lib.hid hg0
    clear hc hg0 h hw h0 hd hp
    go_enter Tryz.func158, Tryz.ntmps158
    go_wp2_with fail
    refine HC.out.mono ?_
    rintro e w1 ⟨rfl, rfl⟩
    go_wp2_with fail
    go_ret
    exact ⟨rfl, ⟨_, _, _, HG.out⟩, Turn.refl _ _⟩
  | false =>
    have h0 : d.chk 0 = 0 := by
      have := hd.pos
      unfold DevL.chk
      rw [hlive, if_neg (by decide), if_pos ⟨by omega, by omega⟩]
    rw [h0] at hc
    have ht := BTurn_any w F b g cap pv d h hd.fuse hd.fuse2
    by_cases h2 : d.fuse = 0
    · have hw : d.flush = (d.turn, 4) := by unfold DevL.flush; rw [if_neg (by rw [hlive]; decide), if_pos h2]
      rw [if_pos h2] at ht
      rw [hw]
      have HC := Lib.hid hc; have HT := Lib.hid ht
      clear hc ht h hg0 hw h0 hd hp
      go_enter Tryz.func158, Tryz.ntmps158
      go_wp2_with fail
      refine HC.out.mono ?_
      rintro e w1 ⟨rfl, rfl⟩
      go_wp2_with fail
      refine HT.out.mono ?_
      rintro e w1 ⟨rfl, hg1, t1, hz1⟩
      have HG := Lib.hid hg1; have HTT := Lib.hid t1
      clear hg1 t1
      go_wp2_with fail
      go_ret
      exact ⟨rfl, ⟨_, _, _, HG.out.mono (fun k hk => grow_left hk)⟩, HTT.out⟩
    · rw [if_neg h2] at ht
      have hw : d.flush = ({ d.turn with l := layP d.turn.l d.turn.p, p := [] }, 0) := by unfold DevL.flush; rw [if_neg (by rw [hlive]; decide), if_neg h2, (DevL.turn_l d).1, (DevL.turn_l d).2]
      have hpl : d.turn.p.length ≤ 1000000 := by rw [(DevL.turn_l d).2]; exact hp hlive
      have hdt := DevL.turn_ok hd
      rw [hw]
      generalize d.turn = d2 at *
      have HC := Lib.hid hc; have HT := Lib.hid ht
      have hpk : ∀ k (hk : k < d2.p.length), d2.p[k].1 < d2.l.length := fun k hk => (hdt.p _ (List.getElem_mem hk)).1
      have hmax := hdt.max
      have HPK := Lib.hid hpk
      clear hc ht h hg0 hw h0 hd hp hdt hpk
      go_enter Tryz.func158, Tryz.ntmps158
      go_wp2_with fail
      refine HC.out.mono ?_
      rintro e w1 ⟨rfl, rfl⟩
      go_wp2_with fail
      refine HT.out.mono ?_
      rintro e w1 ⟨rfl, hg1, t1, hz1⟩
      obtain ⟨c0, c1, c2, c3, f0, f1, f2, f3⟩ := hg1.box.c4
      obtain ⟨pa, pc, rfl, _⟩ := hg1.pcells
      have HG := Lib.hid hg1; have HTT := Lib.hid t1; have HZ := Lib.hid hz1
      clear hg1 t1 hz1
      go_wp2_with fail
      go_loopw [22] (fun v wr => ∃ k : Nat, v = .int .i64 (k : Nat) ∧ k ≤ d2.p.length ∧ Hid (DevG wr F b g cap (.slice pa d2.p.length pc) { d2 with l := layP d2.l (d2.p.take k) }) ∧ Hid (Turn F w1 wr)) (fun v _ => d2.p.length - (intOf v).toNat)
      case atStart => exact ⟨0, rfl, Nat.zero_le _, HG.out, Turn.refl _ _⟩
      case round =>
        obtain ⟨k, rfl, hk2, HG2, HT2⟩ := hrel
        obtain ⟨d0, d1, d2', d3, e0, e1, e2, e3⟩ := HG2.out.box.c4
        by_cases hlt : k < d2.p.length
        · have hki : (k : Int) < (d2.p.length : Int) := by omega
          obtain ⟨pa', pc', hpv, hcc⟩ := HG2.out.pcells
          simp only [Value.slice.injEq] at hpv
          obtain ⟨rfl, _, rfl⟩ := hpv
          obtain ⟨g2, rfl, x1, x2⟩ := hcc k hlt
          have hin := HPK.out k hlt
          have hll : (layP d2.l (d2.p.take k)).length = d2.l.length := layP_length _ _
          have hini : ((d2.p[k].1 : Nat) : Int) < (d2.l.length : Int) := by omega
          have hini0 : (0 : Int) ≤ ((d2.p[k].1 : Nat) : Int) := by omega
          obtain ⟨y1, y2⟩ := HG2.out.dcell d2.p[k].1 (by rw [hll]; exact hin)
          have z0 : wr.cell? ⟨b, 0, none⟩ = some (.slice (some ⟨g, 0, none⟩) d2.l.length cap) := by rw [← hll]; exact d0
          have hqa := Q.alloc wr (.cells #[.int .i64 (d2.p[k].1 : Nat), strV d2.p[k].2] 88)
          obtain ⟨m0, m1, _⟩ := (Blk.new wr 88 #[.int .i64 (d2.p[k].1 : Nat), strV d2.p[k].2]).c2
          have hg3 := HG2.out.keep hqa
          have z1 := cell_stays hqa z0
          obtain ⟨y3, y4⟩ := hg3.dcell d2.p[k].1 (by rw [hll]; exact hin)
          have hstep := layP_step d2.l d2.p k hlt
          have HST := Lib.hid hstep; have HG3 := Lib.hid hg3; have HT3 := Lib.hid (HT2.out.q hqa)
          clear hstep hcc d0 d1 d2' d3 e0 e1 e2 e3 hg3 hqa y1 y2 c0 c1 c2 c3 f0 f1 f2 f3
          generalize hbk : d2.p[k].1 = bk at *
          generalize hdk : d2.p[k].2 = dk at *
          generalize (layP d2.l (d2.p.take k)).getD bk [] = old at *
          go_wp2_with fail
          generalize hwo : wr.alloc (.cells #[.int .i64 (bk : Nat), strV dk] 88) = wo at *
          go_region
          all_goals
            go_wp2_with fail
            go_roundw
            case rel =>
              refine ⟨k + 1, by go_num, by omega, ?_, ?_⟩
              · rw [HST.out]
                exact Lib.hid ((HG3.out.keep (Q.drew _)).lay bk dk).1
              · exact Lib.hid ((HT3.out.q (Q.drew _)).trans (((HG3.out.keep (Q.drew _)).lay bk dk).2))
            case measure => simp [intOf]; omega
        · have hki : ¬ (k : Int) < (d2.p.length : Int) := by omega
          have hkn : k = d2.p.length := by omega
          subst hkn
          have hg3 := HG2.out
          rw [List.take_length] at hg3
          have hend := hg3.empty
          have HE := Lib.hid hend
          clear hend hg3
          go_wp2_with fail
          go_ret
          exact ⟨rfl, ⟨_, _, _, HE.out.1.mono (fun k hk => grow_left hk)⟩, HTT.out.trans (HT2.out.trans HE.out.2)⟩
theorem DevL.write_p (d : DevL) (i : Int) (s : Bytes) : (d.write i s).1.p.length ≤ d.p.length + 1 := by
  unfold DevL.write
  split
  · exact Nat.le_succ _
  · split
    · exact Nat.le_succ _
    · split
      · show d.turn.p.length ≤ _
        rw [(DevL.turn_l d).2]; omega
      · simp
theorem DevL.write_dead (d : DevL) (i : Int) (s : Bytes) (h : d.dead = true) : (d.write i s).1.dead = true := by
  unfold DevL.write
  have : d.chk i = 4 := by unfold DevL.chk; rw [if_pos h]
  rw [if_pos (by rw [this]; decide)]; exact h
theorem DevL.write_live (d : DevL) (i : Int) (s : Bytes) (h : (d.write i s).1.dead = false) : d.dead = false := by
  cases hd : d.dead with
  | false => rfl
  | true => rw [d.write_dead i s hd] at h; exact absurd h (by decide)
theorem Writes_any (w : World) (F : Nat → Prop) (b : Nat) (d : DevL) (lv : Value) (ws : List WrL) (h : DevAt w F b d) (hd : d.Ok) (hp : d.dead = false → d.p.length + ws.length ≤ 1000000) (hl : WrArg w F lv ws) (hn : ws.length ≤ 1000000) :
    Calls Tryz.prog 95 #[ptrV b, lv] w fun e w' => e = .returned (.int .i64 (d.writes ws).2) ∧ DevAt w' (grow F w w') b (d.writes ws).1 ∧ Turn F w w' := by
  obtain ⟨la, lc, rfl, hlc⟩ := hl.sl.value
  have hcell : ∀ k (hk : k < ws.length), ∃ lb lo, la = some ⟨lb, lo, none⟩ ∧ lb < w.heap.size ∧ ¬ F lb ∧ w.cell? ⟨lb, lo + k * 2, none⟩ = some (.int .i64 (ws[k].1 : Nat)) ∧ w.cell? ⟨lb, lo + k * 2 + 1, none⟩ = some (strV ws[k].2) := fun k hk => by
    obtain ⟨lb, lo, h1, h2, h3, h4⟩ := hlc (by omega)
    exact ⟨lb, lo, h1, h2, h3, h4 _ _ (wrVs_at ws k hk).1, by have := h4 _ _ (wrVs_at ws k hk).2; rwa [← Nat.add_assoc] at this⟩
  have hnum : ∀ k (hk : k < ws.length), ws[k].1 ≤ 9223372036854775807 ∧ ws[k].2.length ≤ 9223372036854775807 := fun k hk => hl.num _ (List.getElem_mem hk)
  have HC := Lib.hid hcell; have HN := Lib.hid hnum; have HG := Lib.hid h; have HD := Lib.hid hd; have HP := Lib.hid hp
  clear hcell hnum hl hlc h hd hp
  go_enter Tryz.func95, Tryz.ntmps95
  go_wp2_with fail
  go_loopw [10] (fun v wr => ∃ (k : Nat) (d2 : DevL), v = .int .i64 (k : Nat) ∧ k ≤ ws.length ∧ Hid (d.writes ws = d2.writes (ws.drop k)) ∧ Hid (DevAt wr (grow F w wr) b d2) ∧ Hid (Turn F w wr) ∧ Hid d2.Ok ∧ Hid (d2.dead = false → d2.p.length + (ws.length - k) ≤ 1000000)) (fun v _ => ws.length - (intOf v).toNat)
  case atStart => exact ⟨0, d, rfl, Nat.zero_le _, by rw [List.drop_zero]; exact Lib.hid rfl, HG.out.mono (fun _ h => grow_left h), Turn.refl _ _, HD.out, by rw [Nat.sub_zero]; exact HP⟩
  case round =>
    obtain ⟨k, d2, rfl, hk, HE, HG2, HT2, HD2, HP2⟩ := hrel
    by_cases hlt : k < ws.length
    · have hki : (k : Int) < (ws.length : Int) := by omega
      obtain ⟨lb, lo, rfl, hlb, hlF, x1, x2⟩ := HC.out k hlt
      obtain ⟨n1, n2⟩ := HN.out k hlt
      have y1 := HT2.out.cell (F := F) x1 hlF
      have y2 := HT2.out.cell (F := F) x2 hlF
      have he := HE.out
      rw [List.drop_eq_getElem_cons hlt, DevL.writes] at he
      have hqa := Q.alloc wr (.cells #[.int .i64 (ws[k].1 : Nat), strV ws[k].2] 88)
      have hw := Write_any _ _ b d2 (ws[k].1 : Nat) ws[k].2 (HG2.out.keep hqa) HD2.out (fun hx => by have := HP2.out hx; omega) n2
      have hok := DevL.write_ok HD2.out (ws[k].1 : Nat) ws[k].2
      have hpn : (d2.write (ws[k].1 : Nat) ws[k].2).1.dead = false → (d2.write (ws[k].1 : Nat) ws[k].2).1.p.length + (ws.length - (k + 1)) ≤ 1000000 := fun hx => by
        have h1 := HP2.out (DevL.write_live _ _ _ hx)
        have h2 := DevL.write_p d2 (ws[k].1 : Nat) ws[k].2
        omega
      have HW := Lib.hid hw; have HEE := Lib.hid he; have HOK := Lib.hid hok; have HPN := Lib.hid hpn; have HQA := Lib.hid hqa
      clear x1 x2 he hw hok hpn hqa
      generalize hx1 : ws[k].1 = bk at *
      generalize hx2 : ws[k].2 = dk at *
      generalize hdw : d2.write (bk : Nat) dk = dw at *
      go_wp2_with fail
      refine HW.out.mono ?_
      rintro e w3 ⟨rfl, hg3, ht3⟩
      have ht4 := (HT2.out.q HQA.out)
      have hgr : ∀ i, grow (grow F w wr) (wr.alloc (.cells #[.int .i64 (bk : Nat), strV dk] 88)) w3 i → grow F w w3 i := fun i hi => by
        rcases hi with (hi | hi) | hi
        · exact .inl hi
        · exact .inr ⟨hi.1, by have := ht3.size; simp at this; omega⟩
        · exact .inr ⟨by have := ht4.size; omega, hi.2⟩
      have ht5 : Turn F w w3 := ⟨ht3.os.trans ht4.os, ht3.tape.trans ht4.tape, ht3.output.trans ht4.output, Nat.le_trans ht4.size ht3.size, fun i h1 h2 => (ht3.block i (Nat.lt_of_lt_of_le h1 ht4.size) (fun hg => hg.elim h2 (fun hg => by omega))).trans (ht4.block i h1 h2)⟩
      have HG3 := Lib.hid (hg3.mono hgr); have HT5 := Lib.hid ht5
      clear hg3 ht3 ht4 hgr ht5
      by_cases hz : dw.2 = 0
      · have hb : (dw.2 == 0) = true := beq_iff_eq.2 hz
        have hee := HEE.out
        rw [if_pos hz] at hee
        have HE2 := Lib.hid hee
        clear hee HEE hz
        go_wp2_with fail
        go_roundw
        case rel => exact ⟨k + 1, dw.1, by go_num, by omega, HE2, HG3, HT5, HOK, HPN⟩
        case measure => simp [intOf]; omega
      · have hb : (dw.2 == 0) = false := beq_eq_false_iff_ne.2 hz
        have hee := HEE.out
        rw [if_neg hz] at hee
        have HE2 := Lib.hid hee
        clear hee HEE hz
        go_wp2_with fail
        go_ret
        exact ⟨by rw [HE2.out]; rfl, by rw [HE2.out]; exact HG3.out, HT5.out⟩
    · have hki : ¬ (k : Int) < (ws.length : Int) := by omega
      have hkn : k = ws.length := by omega
      subst hkn
      have he := HE.out
      rw [List.drop_length, DevL.writes] at he
      have HE2 := Lib.hid he
      clear he
      go_wp2_with fail
      go_ret
      exact ⟨by rw [HE2.out]; rfl, by rw [HE2.out]; exact HG2.out, HT2.out⟩
theorem DevL.writes_p (ws : List WrL) : ∀ (d : DevL), (d.writes ws).1.p.length ≤ d.p.length + ws.length := by
  induction ws with
  | nil => intro d; exact Nat.le_refl _
  | cons w ws ih =>
    intro d
    have h1 := DevL.write_p d w.1 w.2
    rw [DevL.writes]
    split
    · have := ih (d.write w.1 w.2).1
      rw [List.length_cons]; omega
    · rw [List.length_cons]; omega
theorem DevL.writes_live (ws : List WrL) : ∀ (d : DevL), (d.writes ws).1.dead = false → d.dead = false := by
  induction ws with
  | nil => intro d h; exact h
  | cons w ws ih =>
    intro d h
    rw [DevL.writes] at h
    split at h
    · exact DevL.write_live d _ _ (ih _ h)
    · exact DevL.write_live d _ _ h
theorem DevAt.minus {w : World} {F : Nat → Prop} {b p : Nat} {d : DevL} {cs : Array Value} (h : DevAt w F b d) (hb : Blk w p 103 cs) : DevAt w (fun k => F k ∧ k ≠ p) b d := by
  obtain ⟨g, cap, pv, h⟩ := h
  exact ⟨g, cap, pv, h.box, ⟨h.fb, blk_ne h.box hb (by decide)⟩, h.disk, ⟨h.fg, blk_ne h.disk hb (by decide)⟩, h.row, fun k e => ⟨h.fp k e, owns_not_blk h.row hb (by decide) k e⟩⟩
theorem Lays_any (w : World) (F : Nat → Prop) (p b : Nat) (j : JL) (lv : Value) (ws : List WrL) (hb : Blk w p 103 (jcells b j)) (h : DevAt w F b j.d) (hd : j.d.Ok) (hp : j.d.dead = false → j.d.p.length + ws.length ≤ 1000000) (hl : WrArg w F lv ws) (hn : ws.length ≤ 1000000) (hpF : ¬ F p) :
    Calls Tryz.prog 115 #[ptrV p, lv] w fun e w' => e = .returned (.int .i64 (j.d.lays ws).2) ∧ DevAt w' (grow F w w') b (j.d.lays ws).1 ∧ Turn F w w' := by
  have hw := Writes_any w F b j.d lv ws h hd hp hl hn
  obtain ⟨c0, _⟩ := hb.c8
  have hplt := hb.lt
  have hok := DevL.writes_ok hd ws
  have hpp : (j.d.writes ws).1.dead = false → (j.d.writes ws).1.p.length ≤ 1000000 := fun hx => by
    have h1 := hp (DevL.writes_live ws _ hx)
    have h2 := DevL.writes_p ws j.d
    omega
  unfold DevL.lays
  generalize j.d.writes ws = r at *
  have HW := Lib.hid hw; have HOK := Lib.hid hok; have HPP := Lib.hid hpp
  clear hw hok hpp h hd hp hl hb
  by_cases hz : r.2 = 0
  · have hb : (r.2 == 0) = true := beq_iff_eq.2 hz
    rw [if_pos hz]
    clear hz
    go_enter Tryz.func115, Tryz.ntmps115
    go_wp2_with fail
    refine HW.out.mono ?_
    rintro e w1 ⟨rfl, h1, t1⟩
    have c1 := t1.cell c0 hpF
    have HF := Lib.hid (Flush_any w1 (grow F w w1) b r.1 h1 HOK.out HPP.out)
    have HT := Lib.hid t1
    clear h1 t1
    go_wp2_with fail
    refine HF.out.mono ?_
    rintro e w2 ⟨rfl, h2, t2⟩
    have HE := Lib.hid (h2.mono (fun k hk => grow_trans HT.out.size t2.size hk)); have HT2 := Lib.hid (HT.out.step t2)
    clear h2 t2
    go_wp2_with fail
    go_ret
    exact ⟨rfl, HE.out, HT2.out⟩
  · have hb : (r.2 == 0) = false := beq_eq_false_iff_ne.2 hz
    rw [if_neg hz]
    clear hz
    go_enter Tryz.func115, Tryz.ntmps115
    go_wp2_with fail
    refine HW.out.mono ?_
    rintro e w1 ⟨rfl, h1, t1⟩
    have HE := Lib.hid h1; have HT := Lib.hid t1
    clear h1 t1
    go_wp2_with fail
    go_ret
    exact ⟨rfl, HE.out, HT.out⟩
end
section
open Go.RowKit
section
variable {P : Program} (w : World)
theorem run_append_no (base : Nat) (t ty e : TypeId) (i : TypeInfo) (size : Nat) (ht : P.underlying t = some (.slice e)) (hi : P.info? e = some i)
    (v : Value) (n : Nat) (xs : List Value) (hown : w.ownsRow base e size v n xs) (c : Nat) : (Builtin.append_ #[t, t] ty #[v, .slice none 0 c]).run P w = .ok v w := by
  rcases hown.2 with ⟨rfl, rfl⟩ | ⟨g, cap, cur, rfl, _, _, hnc, _⟩
  · simp [Builtin.append_, run_underlying ht, sizeOf, typeInfo, hi, Builtin.lenOf, Builtin.firstCells]
  · simp [Builtin.append_, run_underlying ht, sizeOf, typeInfo, hi, Builtin.lenOf, Builtin.firstCells, hnc, storeCells]
theorem run_append_sl (base : Nat) (t ty e : TypeId) (i : TypeInfo) (z : Value) (size bytes : Nat) (ht : P.underlying t = some (.slice e)) (hi : P.info? e = some i) (hz : i.zero = some z)
    (hsize : i.size = size) (hby : i.bytes = bytes) (hzs : z.cells.size = size) (hsz : 0 < size)
    (v : Value) (n : Nat) (xs : List Value) (hown : w.ownsRow base e size v n xs)
    (vx : Value) (m : Nat) (news : List Value) (hr : Sl w vx m size news) (h1 : ∀ u ∈ news, u.oneCell' = true)
    (h63 : n + m ≤ maxLen) (hbytes : (n + m) * bytes ≤ 140737488355328) (hbase : base ≤ w.heap.size) :
    ∃ v' w', (Builtin.append_ #[t, t] ty #[v, vx]).run P w = .ok v' w' ∧ w'.ownsRow base e size v' (n + m) (xs ++ news) ∧ w.grownBy w' v.ownBlock ∧ (v'.ownBlock = v.ownBlock ∨ v'.ownBlock = some w.heap.size) := by
  obtain ⟨hl, A, c, rfl, hc⟩ := hr
  rcases A with _ | ad
  · have hm : m = 0 := by
      rcases Nat.eq_zero_or_pos m with h0 | h0
      · exact h0
      · obtain ⟨b, off, h, _⟩ := hc h0; cases h
    subst hm
    have hn : news = [] := List.eq_nil_of_length_eq_zero (by simpa using hl)
    subst hn
    exact ⟨v, w, run_append_no w base t ty e i size ht hi v n xs hown c, by simpa using hown, World.grownBy.refl w _, .inl rfl⟩
  · have hcells : ∀ j u, news[j]? = some u → w.cell? (ad.add j) = some u := by
      intro j u hu
      rcases Nat.eq_zero_or_pos m with h0 | h0
      · subst h0
        have hn : news = [] := List.eq_nil_of_length_eq_zero (by simpa using hl)
        subst hn
        simp at hu
      · obtain ⟨b, off, h, h2⟩ := hc h0
        cases h
        rw [add_off]
        exact h2 j u hu
    obtain ⟨v', w', hrun, h2, h3, _, h5⟩ := run_append_own_at (P := P) w base t ty e i z size bytes ht hi hz hsize hby hzs hsz v n xs hown ad m c news hl hcells h1 h63 hbytes hbase
    exact ⟨v', w', hrun, h2, h3, h5⟩
theorem wp_append_sl {o : Oper} {a : Act} {K : Act → World → Prop} {Q : Exit → Act → World → Prop} (s x : Operand) (t : TypeId)
    (ho : o.op = .call { callee := .builtin .append, args := #[s, x], argTypes := #[t, t] })
    (base : Nat) (e : TypeId) (i : TypeInfo) (z : Value) (size bytes : Nat) (ht : P.underlying t = some (.slice e)) (hi : P.info? e = some i) (hz : i.zero = some z)
    (hsize : i.size = size) (hby : i.bytes = bytes) (hzs : z.cells.size = size) (hsz : 0 < size)
    (v : Value) (n : Nat) (xs : List Value) (hs : a.eval s = v) (hown : w.ownsRow base e size v n xs)
    (vx : Value) (m : Nat) (news : List Value) (hx : a.eval x = vx) (hr : Sl w vx m size news) (h1 : ∀ u ∈ news, u.oneCell' = true)
    (h63 : n + m ≤ maxLen) (hbytes : (n + m) * bytes ≤ 140737488355328) (hbase : base ≤ w.heap.size)
    (h : ∀ v' w', w'.ownsRow base e size v' (n + m) (xs ++ news) → w.grownBy w' v.ownBlock → (v'.ownBlock = v.ownBlock ∨ v'.ownBlock = some w.heap.size) → K (a.put o.dst v') w') : o.wp P a w K Q := by
  obtain ⟨v', w', hrun, h2, h3, h4⟩ := run_append_sl (P := P) w base t o.type e i z size bytes ht hi hz hsize hby hzs hsz v n xs hown vx m news hr h1 h63 hbytes hbase
  unfold Oper.wp execOp
  simp only [ho, resolve, invoke, builtin, Sem.run_bind, Sem.run_pure, Result.andThen_ok, List.map_toArray, List.map_cons, List.map_nil, hs, hx, hrun]
  exact h v' w' h2 h3 h4
theorem wpList_append_sl {ops : Array Oper} {rest : List Oper} {o : Oper} {a : Act} {Q : Exit → Act → World → Prop} (hgd : o.guard = none) (s x : Operand) (t : TypeId)
    (ho : o.op = .call { callee := .builtin .append, args := #[s, x], argTypes := #[t, t] })
    (base : Nat) (e : TypeId) (i : TypeInfo) (z : Value) (size bytes : Nat) (ht : P.underlying t = some (.slice e)) (hi : P.info? e = some i) (hz : i.zero = some z)
    (hsize : i.size = size) (hby : i.bytes = bytes) (hzs : z.cells.size = size) (hsz : 0 < size)
    (v : Value) (n : Nat) (xs : List Value) (hs : a.eval s = v) (hown : w.ownsRow base e size v n xs)
    (vx : Value) (m : Nat) (news : List Value) (hx : a.eval x = vx) (hr : Sl w vx m size news) (h1 : ∀ u ∈ news, u.oneCell' = true)
    (h63 : n + m ≤ maxLen) (hbytes : (n + m) * bytes ≤ 140737488355328) (hbase : base ≤ w.heap.size)
    (h : ∀ v' w', w'.ownsRow base e size v' (n + m) (xs ++ news) → w.grownBy w' v.ownBlock → (v'.ownBlock = v.ownBlock ∨ v'.ownBlock = some w.heap.size) → wpList P ops Q rest (a.put o.dst v') w') : wpList P ops Q (o :: rest) a w :=
  wpList_plain hgd fun _ hK => wp_append_sl w s x t ho base e i z size bytes ht hi hz hsize hby hzs hsz v n xs hs hown vx m news hx hr h1 h63 hbytes hbase fun v' w' h2 h3 h4 => hK _ _ (h v' w' h2 h3 h4)
end
theorem Sl.cut {w : World} {a : Option Addr} {n cap size : Nat} {xs : List Value} (h : Sl w (.slice a n cap) n size xs) (lo hi : Nat) (h1 : lo ≤ hi) (h2 : hi ≤ n) (h3 : n ≤ cap) :
    Sl w (.slice (if cap = lo then a else a.map (·.add (lo * size))) (hi - lo) (cap - lo)) (hi - lo) size ((xs.take (hi * size)).drop (lo * size)) := by
  obtain ⟨hl, a', c', hv, hc⟩ := h
  cases hv
  refine ⟨?_, _, _, rfl, fun hp => ?_⟩
  · rw [List.length_drop, List.length_take, hl, Nat.min_eq_left (Nat.mul_le_mul_right _ h2), Nat.sub_mul]
  · obtain ⟨b, off, rfl, hcc⟩ := hc (by omega)
    rw [if_neg (by omega)]
    refine ⟨b, off + lo * size, by simp [add_off], fun j u hj => ?_⟩
    rw [Nat.add_assoc]
    rw [List.getElem?_drop, List.getElem?_take] at hj
    split at hj
    · exact hcc _ u hj
    · cases hj
end
section
open Go.RowKit
theorem owns_one (W : World) (base : Nat) (e : TypeId) (v : Value) (hb : base ≤ W.heap.size) : (W.alloc (.cells #[v] e)).ownsRow base e 1 (.slice (some ⟨W.heap.size, 0, none⟩) 1 1) 1 [v] := ⟨rfl, .inr ⟨W.heap.size, 1, #[v], rfl, hb, heap_alloc_new _ _, Nat.le_refl _, by decide, rfl, rfl⟩⟩
theorem tinfoSt : (Tryz.prog.info? 9).map (fun i => (i.zero, i.size, i.bytes)) = some (some (strV []), 1, 16) := by kernel_rfl
theorem Sum_any (w : World) (hd : Bytes) (dv : Value) (ds : List Bytes) (h : Strs w dv ds) (hn : ds.length ≤ 1000000) (hh : hd.length ≤ 1000000) (hs : ∀ p ∈ ds, p.length ≤ 1000000) :
    Calls Tryz.prog 157 #[strV hd, dv] w fun e w' => e = .returned (strV (fixedL (crcL (hd ++ ds.flatten)))) ∧ Q w w' := by
  obtain ⟨i0, hi, hz0, hz1, hz2⟩ := info_parts tinfoSt
  have hq := Q.alloc w (.cells #[strV hd] 9)
  have hsl : Sl (w.alloc (.cells #[strV hd] 9)) dv ds.length 1 (ds.map strV) := Sl.stays h hq
  have how := owns_one w w.heap.size 9 (strV hd) (Nat.le_refl _)
  have hcr := fun (V : World) (v : Value) (hv : Strs V v (hd :: ds)) => Crc_any v (hd :: ds) V hv (by simp; omega) (fun p hp => by
    rcases List.mem_cons.1 hp with rfl | hp
    · omega
    · have := hs p hp; omega)
  have hfx := fun (V : World) => Fixed_any (crcL (hd ++ ds.flatten)) V (crcL_lt _)
  rw [show (hd :: ds).flatten = hd ++ ds.flatten from rfl] at hcr
  have h1 : ∀ u ∈ ds.map strV, u.oneCell' = true := fun u hu => by obtain ⟨d, _, rfl⟩ := List.mem_map.1 hu; rfl
  have h2 : 1 + ds.length ≤ maxLen := by unfold maxLen; omega
  have h3 : (1 + ds.length) * 16 ≤ 140737488355328 := by omega
  have HSL := Lib.hid hsl; have HOW := Lib.hid how; have HCR := Lib.hid hcr; have HFX := Lib.hid hfx; have H1 := Lib.hid h1; have H2 := Lib.hid h2; have H3 := Lib.hid h3; have HQ := Lib.hid hq
  clear hsl how hcr hfx h1 h2 h3 hq h hs
  generalize crcL (hd ++ ds.flatten) = cr at *
  go_enter Tryz.func157, Tryz.ntmps157
  go_wp2_with (at_builtin; refine wpList_append_sl (w.alloc (.cells #[strV hd] 9)) (by rfl) _ _ 70 (by rfl) w.heap.size 9 i0 (strV []) 1 16 Tryz.underlying70 hi hz0 hz1 hz2 rfl (by decide) _ 1 [strV hd] (by rfl) HOW.out _ ds.length (ds.map strV) (by rfl) HSL.out H1.out H2.out H3.out (by simp) ?_)
  intro v' w' hr hg ho
  have hst : Strs w' v' (hd :: ds) := by
    have := Sl.of_owns hr
    unfold Strs
    rw [List.length_cons, Nat.add_comm]
    exact this
  have hqq : Q w w' := grown_below HQ.out HOW.out hg (Nat.le_refl _) HQ.out.size
  have HST := Lib.hid hst; have HQQ := Lib.hid hqq
  clear hst hqq hr hg ho
  go_wp2_with fail
  refine (HCR.out _ _ HST.out).mono ?_
  rintro e w1 ⟨rfl, rfl⟩
  go_wp2_with fail
  refine (HFX.out _).mono ?_
  rintro e w2 ⟨rfl, q2⟩
  have HQ2 := Lib.hid (HQQ.out.trans q2)
  clear q2
  go_wp2_with fail
  go_ret
  exact ⟨rfl, HQ2.out⟩
theorem byteF (s : Bytes) (k : Nat) (h : k < s.length) : ((({ data := s.toArray } : ByteArray)[k]'h).toNat : Int) = (byteN s k : Nat) := by
  unfold byteN
  rw [List.getD_eq_getElem?_getD, List.getElem?_eq_getElem h]
  rfl
theorem or_step (k x z : Nat) (hx : x < 2 ^ k) (hz : z < 256) (hk : k ≤ 24) : bits .or .u32 (x : Int) ((z : Int) % 4294967296 * ((2 ^ k : Nat) : Int) % 4294967296) = ((x + z * 2 ^ k : Nat) : Int) := by
  have hp : (2 : Nat) ^ k ≤ 2 ^ 24 := Nat.pow_le_pow_right (by omega) hk
  have h24 : (2 : Nat) ^ 24 = 16777216 := by decide
  have hb : z * 2 ^ k ≤ 255 * 16777216 := Nat.mul_le_mul (by omega) (by omega)
  have e : ((z : Int) % 4294967296 * ((2 ^ k : Nat) : Int) % 4294967296) = ((z * 2 ^ k : Nat) : Int) := by
    rw [show ((z : Int) % 4294967296) = (z : Int) by omega, ← Int.natCast_mul]
    omega
  rw [e, u32_or_nat _ _ (by omega) (by omega), Nat.or_comm, nat_join k (z * 2 ^ k) x (by rw [Nat.mul_mod_left]) hx]
  congr 1
  omega
theorem unfix_or (a b c d : Nat) (ha : a < 256) (hb : b < 256) (hc : c < 256) (hd : d < 256) :
    bits .or .u32 (bits .or .u32 (bits .or .u32 ((a : Int) % 4294967296) ((b : Int) % 4294967296 * 256 % 4294967296)) ((c : Int) % 4294967296 * 65536 % 4294967296)) ((d : Int) % 4294967296 * 16777216 % 4294967296) = ((a + 256 * b + 65536 * c + 16777216 * d : Nat) : Int) := by
  have h1 := or_step 8 a b (by omega) hb (by omega)
  have h2 := or_step 16 (a + b * 2 ^ 8) c (by omega) hc (by omega)
  have h3 := or_step 24 (a + b * 2 ^ 8 + c * 2 ^ 16) d (by omega) hd (by omega)
  rw [show ((2 ^ 8 : Nat) : Int) = 256 from rfl] at h1
  rw [show ((2 ^ 16 : Nat) : Int) = 65536 from rfl] at h2
  rw [show ((2 ^ 24 : Nat) : Int) = 16777216 from rfl] at h3
  rw [show ((a : Int) % 4294967296) = (a : Int) by omega, h1, h2, h3]
  congr 1
  omega
theorem ToFixed_any (s : Bytes) (w : World) (hs : 4 ≤ s.length) (hs2 : s.length ≤ 9223372036854775807) :
    Calls Tryz.prog 137 #[strV s] w fun e w' => e = .returned (.tuple #[.int .u32 (unfix s : Nat), strV (s.drop 4), .bool true]) ∧ Q w w' := by
  have e0 : ¬ (s.length : Int) < 4 := by omega
  have h0 : (0 : Nat) < s.length := by omega
  have h1 : (1 : Nat) < s.length := by omega
  have h2 : (2 : Nat) < s.length := by omega
  have h3 : (3 : Nat) < s.length := by omega
  have i1 : (1 : Int) < (s.length : Int) := by omega
  have i2 : (2 : Int) < (s.length : Int) := by omega
  have i3 : (3 : Int) < (s.length : Int) := by omega
  have i4 : (4 : Int) ≤ (s.length : Int) := by omega
  go_enter Tryz.func137, Tryz.ntmps137
  go_wp2_with fail
  go_quiet (fail)
  simp only [byteF s 0 h0, byteF s 1 h1, byteF s 2 h2, byteF s 3 h3]
  rw [unfix_or _ _ _ _ (byteN_lt s 0) (byteN_lt s 1) (byteN_lt s 2) (byteN_lt s 3)]
  go_wp2_with fail
  go_ret3
  exact ⟨by rw [bytes_drop]; rfl, Q.drewN _ _⟩
end
end Go.Proofs.YtnmijegmbomfdaaGreatDoor
