/- Joined texts of one proof: what is needed of WJrnI, WJrnK, RJrnM, WRef4b. -/
import Derived.Test.YtnmijegmbomfdaaGreatDoorJWFrmD
import Derived.Test.YtnmijegmbomfdaaGreatDoorJWJrnF
import Derived.Test.YtnmijegmbomfdaaGreatDoorJSto2
import Derived.Test.YtnmijegmbomfdaaGreatDoorJWCacE
import Derived.Test.YtnmijegmbomfdaaGreatDoorJWRDevD
import Derived.Test.YtnmijegmbomfdaaGreatDoorJMem3
import Derived.Deep.QuietTactic
set_option linter.unusedSimpArgs false
set_option linter.unusedVariables false
set_option linter.unnecessarySimpa false
set_option maxRecDepth 100000
set_option maxHeartbeats 16000000
namespace Go.Proofs.YtnmijegmbomfdaaGreatDoor
section
open Go.RowKit
def OpenEnd (w : World) (F : Nat → Prop) (b : Nat) (d : DevL) (e : Ending) (w' : World) : Prop :=
  Turn F w w' ∧ (((openJ d).2 = 0 ∧ ∃ p, e = .returned (.tuple #[ptrV p, .int .i64 0]) ∧ JrnAt w' (grow F w w') p b (openJ d).1) ∨
    ((openJ d).2 ≠ 0 ∧ e = .returned (.tuple #[.pointer none, .int .i64 (openJ d).2]) ∧ DevAt w' (grow F w w') b (openJ d).1.d))
theorem JOpen_live (w : World) (F : Nat → Prop) (b : Nat) (d : DevL) (h : DevAt w F b d) (hF : ∀ k, F k → k < w.heap.size) (hd : d.Ok) (h2 : 2 ≤ d.l.length) (hp : d.p.length ≤ 800000) (hlive : d.dead = false) :
    Calls Tryz.prog 42 #[ptrV b] w fun e w' => OpenEnd w F b d e w' := by
  have hr := fun (W : World) (hq : Q w W) (k : Nat) => Read_any W F b d (k : Nat) (h.keep hq) hd.max (fun _ => by omega)
  have hb := fun (W : World) (hq : Q w W) => Blocks_any W F b d (h.keep hq)
  have he : ∀ k : Nat, k < 2 → d.read (k : Nat) = (d.get k, 0) := fun k hk => by unfold DevL.read; rw [DevL.chk_in hlive k (by omega), if_pos rfl]; rfl
  have hgl : ∀ k : Nat, k < 2 → (d.get k).length = 256 := fun k hk => DevL.get_len hd k (by omega)
  have hts := fun (k : Nat) (hk : k < 2) (W : World) => ToSlot_any (d.get k) d.l.length W (hgl k hk) hd.max
  have hmin : min (2 : Int) (d.l.length : Int) = 2 := by omega
  have hmem := d.l.length
  have HR := Lib.hid hr; have HB := Lib.hid hb; have HM := Lib.hid hmin; have HE := Lib.hid he; have HTS := Lib.hid hts
  have HD := Lib.hid (And.intro h (And.intro hF (And.intro hd (And.intro h2 (And.intro hp hlive)))))
  clear hr hb he hgl hts h hF hd hmin h2 hp hlive
  go_enter Tryz.func42, Tryz.ntmps42
  go_wp2_with fail
  refine (HB.out _ (Q.alloc _ _)).mono ?_
  rintro e w1 ⟨rfl, rfl⟩
  go_wp2_with fail
  rw [HM.out]
  have hbx0 : Blk (w.alloc (.cells (jbox b none) 103)) w.heap.size 103 (jbox b none) := Blk.new w _ _
  have hq0 : Q w (w.alloc (.cells (jbox b none) 103)) := Q.alloc _ _
  simp only [jbox] at hbx0 hq0
  have HBX0 := Lib.hid hbx0; have HQ0 := Lib.hid hq0
  clear hbx0 hq0
  go_loopw [20] (fun v wr => ∃ k : Nat, v = .int .i64 (k : Nat) ∧ k ≤ 2 ∧ Hid (Blk wr w.heap.size 103 (jbox b (pickI d k))) ∧ Hid (Q w wr)) (fun v _ => 2 - (intOf v).toNat)
  case atStart => exact ⟨0, rfl, by omega, HBX0, HQ0⟩
  case round =>
    obtain ⟨k, rfl, hk, HBX, HQ⟩ := hrel
    by_cases hlt : k < 2
    · have hki : (k : Int) < 2 := by omega
      have hrk := HR.out wr HQ.out k
      rw [HE.out k hlt] at hrk
      have htk := HTS.out k hlt
      have HRK := Lib.hid hrk; have HTK := Lib.hid htk
      clear hrk htk
      have hnx : pickI d (k + 1) = match toSlotL (d.get k) d.l.length with
        | none => pickI d k
        | some s => match pickI d k with
          | none => some (s, k)
          | some (r, i) => if r.e < s.e then some (s, k) else some (r, i) := rfl
      have HNX := Lib.hid hnx
      clear hnx
      generalize d.get k = tk at *
      generalize toSlotL tk d.l.length = rk at *
      generalize hpk : pickI d k = pk at *
      generalize hpk1 : pickI d (k + 1) = pk1 at *
      have HPK := Lib.hid hpk1
      clear hpk1
      go_wp2_with fail
      refine HRK.out.mono ?_
      rintro e w3 ⟨rfl, q3⟩
      have HQ3 := Lib.hid (HQ.out.trans q3); have HBX3 := Lib.hid (HBX.out.stays q3)
      clear q3
      go_wp2_with fail
      refine (HB.out _ HQ3.out).mono ?_
      rintro e w4 ⟨rfl, rfl⟩
      go_wp2_with fail
      refine (HTK.out _).mono ?_
      rintro e w4 ⟨⟨s0, rfl, hs0⟩, q4⟩
      have HQ4 := Lib.hid (HQ3.out.trans q4); have HBX4 := Lib.hid (HBX3.out.stays q4); have HS0 := Lib.hid hs0
      clear q4 hs0
      cases rk with
      | none =>
        have hnx := HNX.out
        simp only [] at hnx
        subst hnx
        go_wp2_with fail
        go_region
        all_goals
          go_wp2_with fail
          go_roundw
          case rel => exact ⟨k + 1, by go_num, by omega, Lib.hid (by rw [HPK.out]; exact HBX4.out.stays (Qs.dr (Qs.al (Q.refl _) _))), Lib.hid (Qs.dr (Qs.al HQ4.out _))⟩
          case measure => simp [intOf]; omega
      | some s1 =>
        obtain rfl := HS0.out s1 rfl
        have hnx := HNX.out
        simp only [] at hnx
        have hb4 := HBX4.out
        have hsl := Blk.new w4 101 #[.int .u64 (s1.e : Nat), .int .u64 (s1.s : Nat), .int .i64 (s1.log : Nat), .int .i64 (s1.place : Nat)]
        have hq5 : Q w4 (w4.alloc (.cells #[.int .u64 (s1.e : Nat), .int .u64 (s1.s : Nat), .int .i64 (s1.log : Nat), .int .i64 (s1.place : Nat)] 101)) := Q.alloc _ _
        have hb5 := hb4.stays hq5
        have hnew : ∀ cs : Array Value, cs.size = 8 → cs[0]? = some (ptrV b) → cs[6]? = some (.int .u64 0) → cs[7]? = some (.int .i64 0) → ((((cs.setIfInBounds 1 (.int .u64 (s1.e : Nat))).setIfInBounds 2 (.int .u64 (s1.s : Nat))).setIfInBounds 3 (.int .i64 (s1.log : Nat))).setIfInBounds 4 (.int .i64 (s1.place : Nat))).setIfInBounds 5 (.int .i64 (k : Nat)) = jbox b (some (s1, k)) := fun cs h1 h2 h3 h4 => by
          obtain ⟨l⟩ := cs
          match l, h1, h2, h3, h4 with
          | [a0, a1, a2, a3, a4, a5, a6, a7], _, h2, h3, h4 =>
            simp at h2 h3 h4
            subst h2 h3 h4
            rfl
        cases pk with
        | none =>
          obtain ⟨s0, s1', s2, s3, _⟩ := hsl.c4
          obtain ⟨c0, c1, c2, c3, c4, c5, c6, c7⟩ := Blk.c8 hb5
          have f1 := hb5.frozen 1; have f2 := hb5.frozen 2; have f3 := hb5.frozen 3; have f4 := hb5.frozen 4; have f5 := hb5.frozen 5
          simp only [] at hnx
          go_upto_region 9 with fail
          generalize hw5 : (w4.alloc (.cells #[.int .u64 (s1.e : Nat), .int .u64 (s1.s : Nat), .int .i64 (s1.log : Nat), .int .i64 (s1.place : Nat)] 101)) = w5 at *
          clear hsl
          subst hnx
          have hq7 : Q w4 w5.drew := hq5.trans (Q.drew _)
          have HB5 := Lib.hid (hb5.stays (Q.drew _)); have HQ6 := Lib.hid (HQ4.out.trans hq7); have HN := Lib.hid hnew
          clear hw5 hq7 hb4 hnew hq5 hb5
          go_region
          all_goals
            go_wp2_with fail
            go_roundw
            case rel =>
              refine ⟨k + 1, by go_num, by omega, Lib.hid ?_, Lib.hid (Qs.st (Qs.st (Qs.st (Qs.st (Qs.st HQ6.out _ _ (Nat.le_refl _)) _ _ (Nat.le_refl _)) _ _ (Nat.le_refl _)) _ _ (Nat.le_refl _)) _ _ (Nat.le_refl _))⟩
              rw [HPK.out, ← HN.out (jbox b none) rfl rfl rfl rfl]
              exact ((((HB5.out.set 1 _).set 2 _).set 3 _).set 4 _).set 5 _
            case measure => simp [intOf]; omega
        | some ri =>
          obtain ⟨r, i⟩ := ri
          simp only [] at hnx
          obtain ⟨s0, s1', s2, s3, _⟩ := hsl.c4
          obtain ⟨c0, c1, c2, c3, c4, c5, c6, c7⟩ := Blk.c8 hb5
          have f1 := hb5.frozen 1; have f2 := hb5.frozen 2; have f3 := hb5.frozen 3; have f4 := hb5.frozen 4; have f5 := hb5.frozen 5
          go_upto_region 9 with fail
          generalize hw5 : (w4.alloc (.cells #[.int .u64 (s1.e : Nat), .int .u64 (s1.s : Nat), .int .i64 (s1.log : Nat), .int .i64 (s1.place : Nat)] 101)) = w5 at *
          have hq7 : Q w4 w5.drew := hq5.trans (Q.drew _)
          have HB5 := Lib.hid (hb5.stays (Q.drew _)); have HQ6 := Lib.hid (HQ4.out.trans hq7); have HN := Lib.hid hnew
          have hi0 : ¬ ((i : Nat) : Int) < 0 := by omega
          clear hsl hw5 hq7 hb4 hnew hq5 hb5
          by_cases hlt2 : r.e < s1.e
          · have hl2 : ((r.e : Nat) : Int) < ((s1.e : Nat) : Int) := by omega
            rw [if_pos hlt2] at hnx
            subst hnx
            clear hlt2
            go_region
            all_goals
              go_wp2_with fail
              go_roundw
              case rel =>
                refine ⟨k + 1, by go_num, by omega, Lib.hid ?_, Lib.hid (Qs.st (Qs.st (Qs.st (Qs.st (Qs.st HQ6.out _ _ (Nat.le_refl _)) _ _ (Nat.le_refl _)) _ _ (Nat.le_refl _)) _ _ (Nat.le_refl _)) _ _ (Nat.le_refl _))⟩
                rw [HPK.out, ← HN.out (jbox b (some (r, i))) rfl rfl rfl rfl]
                exact ((((HB5.out.set 1 _).set 2 _).set 3 _).set 4 _).set 5 _
              case measure => simp [intOf]; omega
          · have hl2 : ¬ ((r.e : Nat) : Int) < ((s1.e : Nat) : Int) := by omega
            rw [if_neg hlt2] at hnx
            subst hnx
            clear hlt2
            go_region
            all_goals
              go_wp2_with fail
              go_roundw
              case rel => exact ⟨k + 1, by go_num, by omega, Lib.hid (by rw [HPK.out]; exact HB5.out), HQ6⟩
              case measure => simp [intOf]; omega
    · have hki : ¬ (k : Int) < 2 := by omega
      obtain rfl : k = 2 := by omega
      clear hki hlt hk HB HM HE HTS HR HBX0 HQ0
      obtain ⟨hdev, hF, hdo, h2, hp, hlive⟩ := HD.out
      cases hpk : pickI d 2 with
      | none =>
        have hb := HBX.out
        rw [hpk] at hb
        obtain ⟨c0, c1, c2, c3, c4, c5, c6, c7⟩ := Blk.c8 hb
        have hop := openJ_none hlive hpk
        have HOP := Lib.hid hop; have HDV := Lib.hid (hdev.keep HQ.out)
        clear hb hop hpk hdev hF hdo h2 hp hlive HD HBX
        go_wp2_with fail
        go_ret2
        refine ⟨Turn.of_q HQ.out, .inr ⟨by rw [HOP.out]; simp, by rw [HOP.out]; rfl, ?_⟩⟩
        rw [HOP.out]
        exact HDV.out.mono (fun k hk => .inl hk)
      | some ri =>
        obtain ⟨r, i⟩ := ri
        have hb := HBX.out
        rw [hpk] at hb
        obtain ⟨c0, c1, c2, c3, c4, c5, c6, c7⟩ := Blk.c8 hb
        have f6 := hb.frozen 6
        have hop := openJ_some hlive hpk
        obtain ⟨hi2, hts⟩ := pickI_some hpk
        obtain ⟨hsl, h50, hln, hpl⟩ := toSlot_some hts
        have hso := toSlot_ok hts
        obtain ⟨j0, hj0⟩ : ∃ j0 : JL, j0 = ⟨d, r, i, r.s, 0⟩ := ⟨_, rfl⟩
        rw [← hj0] at hop
        have hb2 : Blk (wr.setCell ⟨w.heap.size, 6, none⟩ (.int .u64 (r.s : Nat))) w.heap.size 103 (jcells b j0) := by rw [hj0]; exact hb.set 6 _
        have hq2 : Q w (wr.setCell ⟨w.heap.size, 6, none⟩ (.int .u64 (r.s : Nat))) := Qs.st HQ.out _ _ (Nat.le_refl _)
        have hj : JrnAt (wr.setCell ⟨w.heap.size, 6, none⟩ (.int .u64 (r.s : Nat))) (grow F w (wr.setCell ⟨w.heap.size, 6, none⟩ (.int .u64 (r.s : Nat)))) w.heap.size b j0 := by
          refine ⟨hb2, .inr ⟨Nat.le_refl _, hb2.lt⟩, by rw [hj0]; exact (hdev.keep hq2).mono (fun k hk => .inl hk), fun k hk => ?_⟩
          rcases hk with hk | hk
          · have := hF k hk; have := hq2.size; omega
          · exact hk.2
        have hok : JOk r d.l.length 800000 j0 := by
          subst hj0
          exact ⟨rfl, hdo, hlive, rfl, Nat.zero_le _, by show r.s < _; exact hso.hs, by show i ≤ 1; omega, by show d.p.length ≤ _; omega⟩
        have hus : usedOf (wr.setCell ⟨w.heap.size, 6, none⟩ (.int .u64 (r.s : Nat))) w.heap.size = j0.used := by
          unfold usedOf
          rw [hb2.cell 7 (.int .i64 (j0.used : Nat)) rfl]; simp
        have hi0 : ¬ ((i : Nat) : Int) < 0 := by omega
        have HOP := Lib.hid hop; have HJ := Lib.hid hj; have HOK := Lib.hid hok; have HT := Lib.hid (Turn.of_q (own := F) hq2)
        have HPAR := Lib.hid (And.intro h50 (And.intro hln (And.intro hpl hso)))
        have HFL := Lib.hid hF
        have HUS := Lib.hid (show usedOf _ _ = j0.used from hus)
        clear hop hpk hdev hF hdo h2 hp hlive hts hsl h50 hln hpl hso hi2 hj hok hus hb HD HBX HQ
        go_upto_region 14 with fail
        go_wp2_with fail
        generalize hwj : wr.setCell ⟨w.heap.size, 6, none⟩ (.int .u64 (r.s : Nat)) = wj at *
        clear hwj hb2 hq2 c0 c1 c2 c3 c4 c5 c6 c7 f6 hj0
        go_loopw [10] (fun _ wr => ∃ (m : Nat) (j2 : JL), Hid (JL.replay (r.log + 1) j0 = JL.replay m j2) ∧ Hid (r.log + 1 ≤ m + j2.used) ∧ Hid (JrnAt wr (grow F w wr) w.heap.size b j2) ∧ Hid (Turn F w wr) ∧ Hid (JOk r d.l.length 800000 j2) ∧ Hid (usedOf wr w.heap.size = j2.used)) (fun _ wr => r.log + 1 - usedOf wr w.heap.size)
        case atStart => exact ⟨r.log + 1, j0, Lib.hid rfl, Lib.hid (by omega), HJ, HT, HOK, HUS⟩
        case round =>
          obtain ⟨m, j2, HRP, HM2, HJ2, HT2, HOK2, HU2⟩ := hrel
          obtain ⟨h50, hln, hpl, hso⟩ := HPAR.out
          have hnum := HOK2.out.num h50 hln hpl hso (Nat.le_refl _)
          have hlv := HOK2.out.live
          have hll : 2 + j2.s.log ≤ j2.d.l.length := by rw [HOK2.out.sl, HOK2.out.len]; omega
          have hus : j2.used ≤ j2.s.log := by rw [HOK2.out.sl]; exact HOK2.out.used
          have hfr := JFrame_any wr (grow F w wr) w.heap.size b j2 HJ2.out hnum hlv hll hus
          obtain ⟨m', rfl⟩ : ∃ m', m = m' + 1 := ⟨m - 1, by have := HM2.out; have := HOK2.out.used; omega⟩
          have HFR := Lib.hid hfr; have HNU := Lib.hid hnum
          clear h50 hln hpl hso hnum hlv hll hus hfr
          cases hf : j2.frame with
          | none =>
            have hrp := HRP.out
            rw [replay_none hf] at hrp
            have hop := HOP.out
            rw [hrp, if_pos rfl] at hop
            have ck := fun (W : World) (q : Q wr W) => Ckpt_any W (grow F w wr) w.heap.size b j2 (HJ2.out.keep q) HNU.out
            have HOP2 := Lib.hid hop; have CK := Lib.hid ck; have HF := Lib.hid hf
            rw [hf] at HFR
            clear hrp hop ck hf
            go_wp2_with fail
            refine HFR.out.mono ?_
            rintro e w3 ⟨⟨v, rfl, -⟩, q3⟩
            have HQ3 := Lib.hid q3
            clear q3
            go_wp2_with fail
            refine (CK.out _ HQ3.out).mono ?_
            rintro e w4 ⟨rfl, h4, t4⟩
            have ht := HT2.out.step ((Turn.of_q HQ3.out).trans t4)
            have h4' : JrnAt w4 (grow F w w4) w.heap.size b j2.ckpt.1 := h4.mono (fun k hk => hk.elim (fun hk => hk.elim .inl (fun hk => .inr ⟨hk.1, Nat.lt_of_lt_of_le hk.2 (Nat.le_trans HQ3.out.size t4.size)⟩)) (fun hk => .inr ⟨Nat.le_trans HT2.out.size (Nat.le_trans HQ3.out.size hk.1), hk.2⟩)) (fun k hk => hk.elim (fun hk => by have := HFL.out k hk; have := ht.size; omega) (fun hk => hk.2))
            have H4 := Lib.hid h4'; have HT4 := Lib.hid ht
            clear h4 t4 ht h4'
            by_cases hz : j2.ckpt.2 = 0
            · have hb : (j2.ckpt.2 == 0) = true := beq_iff_eq.2 hz
              have HZ := Lib.hid hz
              clear hz
              go_wp2_with fail
              go_ret2
              refine ⟨HT4.out, .inl ⟨by rw [HOP2.out]; exact HZ.out, _, rfl, ?_⟩⟩
              rw [HOP2.out]; exact H4.out
            · have hb : (j2.ckpt.2 == 0) = false := beq_eq_false_iff_ne.2 hz
              have HZ := Lib.hid hz
              clear hz
              go_wp2_with fail
              go_ret2
              refine ⟨HT4.out, .inr ⟨by rw [HOP2.out]; exact HZ.out, by rw [HOP2.out]; rfl, ?_⟩⟩
              rw [HOP2.out]; exact H4.out.dev
          | some ws =>
            have hrp := HRP.out
            rw [replay_some hf] at hrp
            obtain ⟨f1, f2, f3⟩ := frame_some hf
            have hadv := fun hz => HOK2.out.adv hf hz
            have hpp : j2.d.p.length + ws.length ≤ 1000000 := by have := HNU.out.plen HOK2.out.live; omega
            rw [hf] at HFR
            have cw := fun (W : World) (q : Q wr W) (v : Value) (hv : W.ownsRow wr.heap.size 88 2 v ws.length (wrVs ws)) => Writes_any W (fun k => grow F w wr k ∧ k ≠ w.heap.size) b j2.d v ws ((HJ2.out.dev.minus HJ2.out.box).keep q) HNU.out.ok (fun _ => hpp) (WrArg.own (w0 := wr) hv (fun k hk => HJ2.out.lt k hk.1) (fun x hx => by have := (f3 x hx).1; have := HNU.out.ok.max; have := (f3 x hx).2; omega)) (by omega)
            have hul : j2.used + ws.length + 1 ≤ r.log := by have h1 := HOK2.out.sl; have := HOK2.out.used; rw [h1] at f1; omega
            have HRP2 := Lib.hid hrp; have HADV := Lib.hid hadv; have CW := Lib.hid cw; have HUL := Lib.hid hul
            clear hf hrp f1 f3 hadv hpp cw hul
            go_wp2_with fail
            refine HFR.out.mono ?_
            rintro e w3 ⟨⟨v, rfl, hv⟩, q3⟩
            have hv := hv ws rfl
            have HQ3 := Lib.hid q3; have cw := CW.out _ q3 v hv
            obtain ⟨va, vc, rfl, _⟩ := owns_value hv
            have CWW := Lib.hid cw
            clear q3 hv cw CW
            go_wp2_with fail
            refine CWW.out.mono ?_
            rintro e w4 ⟨rfl, h4, t4⟩
            have hst := JrnAt.step HJ2.out.box HQ3.out t4 h4 HJ2.out.lt HJ2.out.fp
            have hus4 : usedOf w4 w.heap.size = j2.used := by unfold usedOf; rw [hst.1.box.cell 7 (.int .i64 (j2.used : Nat)) rfl]; simp
            have HST := Lib.hid hst
            clear h4 t4 hst
            generalize hdw : j2.d.writes ws = dw at *
            by_cases hz : dw.2 = 0
            · have hb : (dw.2 == 0) = true := beq_iff_eq.2 hz
              have hrp := HRP2.out
              rw [if_pos hz] at hrp
              have hok3 := HADV.out hz
              have ca := Advance_any w4 w.heap.size b { j2 with d := dw.1 } ws.length HST.out.1.box (by show j2.used ≤ _; exact HNU.out.used) (by omega) (by show j2.next < _; exact HNU.out.next)
              have HRP3 := Lib.hid hrp; have HOK3 := Lib.hid hok3; have CA := Lib.hid ca
              clear hz hrp hok3 ca
              go_wp2_with fail
              refine CA.out.mono ?_
              rintro e w5 ⟨rfl, h5, t5, hz5⟩
              have hj5 := HST.out.1.turned h5 rfl t5
              have ht5 : Turn F w w5 := (HT2.out.step HST.out.2).step (t5.mono (fun k hk => by subst hk; exact .inr ⟨Nat.le_refl _, HST.out.1.box.lt⟩))
              have hj5' : JrnAt w5 (grow F w w5) w.heap.size b ({ j2 with d := dw.1 }.advance ws.length) := hj5.mono (fun k hk => grow_trans HT2.out.size (by rw [hz5]; exact HST.out.2.size) (hk.elim .inl (fun hk => .inr ⟨hk.1, by rw [hz5]; exact hk.2⟩))) (fun k hk => hk.elim (fun hk => by have := HFL.out k hk; have := ht5.size; omega) (fun hk => hk.2))
              have hu5 : usedOf w5 w.heap.size = j2.used + ws.length + 1 := by unfold usedOf; rw [h5.cell 7 (.int .i64 ((j2.used + ws.length + 1 : Nat) : Int)) rfl]; exact Int.toNat_natCast _
              have HJ5 := Lib.hid hj5'; have HT5 := Lib.hid ht5; have HU5 := Lib.hid hu5
              clear h5 t5 hz5 hj5 ht5 hj5' hu5
              go_wp2_with fail
              go_roundw
              case rel => exact ⟨m', _, HRP3, Lib.hid (by show r.log + 1 ≤ m' + (j2.used + ws.length + 1); have := HM2.out; omega), HJ5, HT5, HOK3, HU5⟩
              case measure => rw [HU5.out, HU2.out]; have := HUL.out; omega
            · have hb : (dw.2 == 0) = false := beq_eq_false_iff_ne.2 hz
              have hrp := HRP2.out
              rw [if_neg hz] at hrp
              have hop := HOP.out
              rw [hrp, if_neg hz] at hop
              have HOP2 := Lib.hid hop; have HZ := Lib.hid hz
              clear hz hrp hop
              go_wp2_with fail
              go_ret2
              refine ⟨HT2.out.step HST.out.2, .inr ⟨by rw [HOP2.out]; exact HZ.out, by rw [HOP2.out]; rfl, ?_⟩⟩
              rw [HOP2.out]
              exact HST.out.1.dev.mono (fun k hk => grow_trans HT2.out.size HST.out.2.size hk)
theorem JOpen_any (w : World) (F : Nat → Prop) (b : Nat) (d : DevL) (h : DevAt w F b d) (hF : ∀ k, F k → k < w.heap.size) (hd : d.Ok) (h2 : 2 ≤ d.l.length) (hp : d.dead = false → d.p.length ≤ 800000) :
    Calls Tryz.prog 42 #[ptrV b] w fun e w' => OpenEnd w F b d e w' := by
  cases hl : d.dead with
  | false => exact JOpen_live w F b d h hF hd h2 (hp hl) hl
  | true =>
    refine (JOpen_dead w F b d h hd h2 hl).mono ?_
    rintro e w' ⟨rfl, q⟩
    refine ⟨Turn.of_q q, .inr ⟨by rw [openJ_dead hl]; simp, by rw [openJ_dead hl], ?_⟩⟩
    rw [openJ_dead hl]
    exact (h.keep q).mono (fun k hk => .inl hk)
def fmtW (k : Nat) : List WrL := (List.range k).map fun i => (i + 1, noughtsL)
theorem fmtW_succ (k : Nat) : fmtW (k + 1) = fmtW k ++ [(k + 1, noughtsL)] := by simp [fmtW, List.range_succ]
theorem JFormat_any (w : World) (F : Nat → Prop) (b : Nat) (d : DevL) (log : Nat) (h : DevAt w F b d) (hF : ∀ k, F k → k < w.heap.size) (hd : d.Ok) (hp : d.dead = false → d.p.length ≤ 800000) (h50 : 50 ≤ log) (hln : log + 3 ≤ d.l.length) :
    Calls Tryz.prog 123 #[ptrV b, .int .i64 (log : Nat)] w fun e w' => e = .returned (.int .i64 (formatJ d log).2) ∧ DevAt w' (grow F w w') b (formatJ d log).1 ∧ Turn F w w' := by
  have hm := hd.max
  have hbl := Blocks_any w F b d h
  have hno := fun (W : World) => Noughts_any W
  have hst := fun (W : World) => SlotText_any ⟨1, 1, log, 0⟩ ⟨by show 1 < _; omega, by show 1 < _; omega, by show log < _; omega, by show 0 < _; omega⟩ W
  obtain ⟨i1, hi1, hy0, hy1, hy2⟩ := info_parts tinfoWr
  have hw1 : IntKind.i64.wrap ((d.l.length : Int) - 2) = (d.l.length : Int) - 2 := IntWalk.i64_in _ (by omega)
  have hw2 : IntKind.i64.wrap ((d.l.length : Int) - 2 - 1) = (d.l.length : Int) - 2 - 1 := IntWalk.i64_in _ (by omega)
  have hl1 : ¬ (log : Int) < 50 := by omega
  have hl2 : ¬ (d.l.length : Int) - 2 - 1 < (log : Int) := by omega
  have hwl := fun (W : World) (v : Value) (hq : Q w W) (hv : W.ownsRow w.heap.size 88 2 v (formatW log).length (wrVs (formatW log))) => Writes_any W F b d v (formatW log) (h.keep hq) hd (fun hx => by have := hp hx; simp [formatW]; omega) (WrArg.own hv hF (fun x hx => by
    simp only [formatW, List.mem_append, List.mem_map, List.mem_range, List.mem_singleton] at hx
    rcases hx with ⟨i, hi, rfl⟩ | rfl
    · exact ⟨by simp only; omega, by simp only [noughts_len]; omega⟩
    · exact ⟨by simp only; omega, by simp only [slotT_length]; omega⟩)) (by simp [formatW]; omega)
  have hfl : (formatW log).length = log + 2 := by simp [formatW]
  have hfw : formatW log = fmtW (log + 1) ++ [(0, slotT ⟨1, 1, log, 0⟩)] := rfl
  have hfj : formatJ d log = d.lays (formatW log) := rfl
  have hokw : (d.writes (formatW log)).1.Ok := DevL.writes_ok hd _
  have hpw : (d.writes (formatW log)).1.dead = false → (d.writes (formatW log)).1.p.length ≤ 1000000 := fun hx => by
    have h1 := hp (DevL.writes_live _ _ hx)
    have h2 := DevL.writes_p (formatW log) d
    omega
  have hlays : formatJ d log = if (d.writes (formatW log)).2 = 0 then (d.writes (formatW log)).1.flush else d.writes (formatW log) := rfl
  have HBL := Lib.hid hbl; have HNO := Lib.hid hno; have HST := Lib.hid hst; have HWL := Lib.hid hwl; have HFW := Lib.hid hfw; have HOKW := Lib.hid hokw; have HPW := Lib.hid hpw; have HLY := Lib.hid hlays; have HFL := Lib.hid hfl; have HFF := Lib.hid hF
  have hlm : log ≤ 4096 := by omega
  clear hbl hno hst hwl hfw hfj hokw hpw hlays hfl hF h hp hd hm
  generalize d.writes (formatW log) = dw at *
  go_enter Tryz.func123, Tryz.ntmps123
  go_wp2_with fail
  refine HBL.out.mono ?_
  rintro e w1 ⟨rfl, rfl⟩
  go_wp2_with fail
  clear hw1 hw2 hl1 hl2
  go_loopw [5, 20] (fun v i wr => ∃ k : Nat, i = .int .i64 (k : Nat) ∧ k ≤ log + 1 ∧ Hid (wr.ownsRow w.heap.size 88 2 v k (wrVs (fmtW k))) ∧ Hid (Q w wr)) (fun _ i _ => log + 1 - (intOf i).toNat)
  case atStart => exact ⟨0, rfl, Nat.zero_le _, World.ownsRow_nil _ _ _ _, Lib.hid (Q.refl _)⟩
  case round =>
    obtain ⟨k, rfl, hk, HOW, HQ⟩ := hrel
    by_cases hlt : k < log + 1
    · have hki : (k : Int) < (log : Int) + 1 := by omega
      have hki0 : (0 : Int) ≤ (k : Int) := by omega
      have hfs := fmtW_succ k
      have HFS := Lib.hid hfs
      clear hfs
      go_wp2_with fail
      refine (HNO.out _).mono ?_
      rintro e w10 ⟨rfl, q10⟩
      have HO10 := Lib.hid (ownsRow_below HOW.out q10)
      have HQ10 : Hid (Q w w10) := Lib.hid (HQ.out.trans q10)
      generalize hnn : noughtsL = nn at *
      have hc1 : ∀ u ∈ #[Value.int .i64 ((k : Int) + 1), strV nn].toList, u.oneCell' = true := by intro u hu; simp at hu; rcases hu with rfl | rfl <;> rfl
      have hc2 : (k + 1) * 24 ≤ 140737488355328 := by omega
      have HC3 := Lib.hid hc1; have HC4 := Lib.hid hc2
      clear q10 hc1 hc2 hnn
      go_wp2_with (at_builtin; refine wpList_app w10 (by rfl) _ _ 72 (by rfl) w.heap.size 88 _ i1 (.agg #[.int .i64 0, strV []]) 2 24 Tryz.underlying72 hi1 hy0 hy1 hy2 rfl (by decide) (by decide) _ _ _ (by rfl) HO10.out #[.int .i64 ((k : Int) + 1), strV nn] (by rfl) rfl HC3.out HC4.out HQ10.out.size ?_)
      intro g11 cap11 w11 hr11 hg11 ho11 hlt11 hlt11b
      have hq11 : Q w w11 := grown_below HQ10.out HO10.out hg11 (Nat.le_refl _) HQ10.out.size
      have hr11' : w11.ownsRow w.heap.size 88 2 (.slice (some ⟨g11, 0, none⟩) (k + 1) cap11) (k + 1) (wrVs (fmtW (k + 1))) := by
        rw [HFS.out, wrVs_append, show wrVs [(k + 1, nn)] = encW (k + 1, nn) by simp [wrVs]]; exact hr11
      have HQ11 := Lib.hid hq11; have HR11 := Lib.hid hr11'
      clear hr11 hg11 ho11 hlt11 hlt11b hq11 hr11'
      go_wp2_with fail
      go_roundw
      case rel => exact ⟨k + 1, by go_num, by omega, HR11, HQ11⟩
      case measure => simp [intOf]; omega
    · have hki : ¬ (k : Int) < (log : Int) + 1 := by omega
      obtain rfl : k = log + 1 := by omega
      go_wp2_with fail
      refine (HST.out _).mono ?_
      rintro e w10 ⟨rfl, q10⟩
      have HO10 := Lib.hid (ownsRow_below HOW.out q10)
      have HQ10 : Hid (Q w w10) := Lib.hid (HQ.out.trans q10)
      generalize slotT ⟨1, 1, log, 0⟩ = st at *
      have hc1 : ∀ u ∈ #[Value.int .i64 0, strV st].toList, u.oneCell' = true := by intro u hu; simp at hu; rcases hu with rfl | rfl <;> rfl
      have hc2 : (log + 1 + 1) * 24 ≤ 140737488355328 := by omega
      have HC3 := Lib.hid hc1; have HC4 := Lib.hid hc2
      clear q10 hc1 hc2
      go_wp2_with (at_builtin; refine wpList_app w10 (by rfl) _ _ 72 (by rfl) w.heap.size 88 _ i1 (.agg #[.int .i64 0, strV []]) 2 24 Tryz.underlying72 hi1 hy0 hy1 hy2 rfl (by decide) (by decide) _ _ _ (by rfl) HO10.out #[.int .i64 0, strV st] (by rfl) rfl HC3.out HC4.out HQ10.out.size ?_)
      intro g11 cap11 w11 hr11 hg11 ho11 hlt11 hlt11b
      have hq11 : Q w w11 := grown_below HQ10.out HO10.out hg11 (Nat.le_refl _) HQ10.out.size
      have hr11' : w11.ownsRow w.heap.size 88 2 (.slice (some ⟨g11, 0, none⟩) (log + 1 + 1) cap11) (formatW log).length (wrVs (formatW log)) := by
        rw [HFL.out, HFW.out, wrVs_append, show wrVs [(0, st)] = encW (0, st) by simp [wrVs]]; exact hr11
      have cw := HWL.out w11 _ hq11 hr11'
      have CW := Lib.hid cw; have HQ11 := Lib.hid hq11
      clear hr11 hg11 ho11 hlt11 hlt11b hq11 hr11' cw
      go_wp2_with fail
      refine CW.out.mono ?_
      rintro e w12 ⟨rfl, h12, t12⟩
      have ht : Turn F w w12 := (Turn.of_q HQ11.out).trans t12
      have h12' : DevAt w12 (grow F w w12) b dw.1 := h12.mono (fun k hk => hk.elim .inl (fun hk => .inr ⟨Nat.le_trans HQ11.out.size hk.1, hk.2⟩))
      have H12 := Lib.hid h12'; have T12 := Lib.hid ht
      clear h12 t12 ht h12'
      by_cases hz : dw.2 = 0
      · have hb : (dw.2 == 0) = true := beq_iff_eq.2 hz
        have hly := HLY.out
        rw [if_pos hz] at hly
        have cf := Flush_any w12 (grow F w w12) b dw.1 H12.out HOKW.out HPW.out
        have HLZ := Lib.hid hly; have CF := Lib.hid cf
        clear hz hly cf
        go_wp2_with fail
        refine CF.out.mono ?_
        rintro e w13 ⟨rfl, h13, t13⟩
        have HE := Lib.hid (h13.mono (fun k hk => grow_trans T12.out.size t13.size hk)); have HT2 := Lib.hid (T12.out.step t13)
        clear h13 t13
        go_wp2_with fail
        go_ret
        rw [HLZ.out]
        exact ⟨rfl, HE.out, HT2.out⟩
      · have hb : (dw.2 == 0) = false := beq_eq_false_iff_ne.2 hz
        have hly := HLY.out
        rw [if_neg hz] at hly
        have HLZ := Lib.hid hly
        clear hz hly
        go_wp2_with fail
        go_ret
        rw [HLZ.out]
        exact ⟨rfl, H12.out, T12.out⟩
structure RJrnAt (w : World) (F : Nat → Prop) (p b : Nat) (j : JL) : Prop where
  box : Blk w p 133 (jcells b j)
  fp : F p
  dev : RDevAt w F b j.d
  lt : ∀ k, F k → k < w.heap.size
theorem RJrnAt.mono {w : World} {F G : Nat → Prop} {p b : Nat} {j : JL} (h : RJrnAt w F p b j) (k : ∀ i, F i → G i) (hl : ∀ i, G i → i < w.heap.size) : RJrnAt w G p b j := ⟨h.box, k _ h.fp, h.dev.mono k, hl⟩
theorem RJrnAt.beside {w w' : World} {F G : Nat → Prop} {p b : Nat} {j : JL} (h : RJrnAt w F p b j) (t : Turn G w w') (hd : ∀ k, F k → ¬ G k) : RJrnAt w' F p b j := ⟨t.blk h.box (hd _ h.fp), h.fp, h.dev.beside t hd, fun k hk => Nat.lt_of_lt_of_le (h.lt k hk) t.size⟩
theorem RJrnAt.keep {w w' : World} {F : Nat → Prop} {p b : Nat} {j : JL} (h : RJrnAt w F p b j) (q : Q w w') : RJrnAt w' F p b j := h.beside (Turn.of_q (own := fun _ => False) q) (fun _ _ => id)
theorem RDevAt.minus {w : World} {F : Nat → Prop} {b p : Nat} {d : DevL} {cs : Array Value} (h : RDevAt w F b d) (hb : Blk w p 133 cs) : RDevAt w (fun k => F k ∧ k ≠ p) b d := by
  obtain ⟨lv, pv, h⟩ := h
  exact ⟨lv, pv, h.box, ⟨h.fb, blk_ne h.box hb (by decide)⟩, h.lrow, fun k e => ⟨h.fl k e, owns_not_blk h.lrow hb (by decide) k e⟩, h.prow, fun k e => ⟨h.fp k e, owns_not_blk h.prow hb (by decide) k e⟩⟩
theorem RJrnAt.step {A B C : World} {F : Nat → Prop} {p b : Nat} {j : JL} {d : DevL} (hb : Blk A p 133 (jcells b j)) (q : Q A B) (t : Turn (fun k => F k ∧ k ≠ p) B C) (hd : RDevAt C (grow (fun k => F k ∧ k ≠ p) B C) b d) (hlt : ∀ k, F k → k < A.heap.size) (hp : F p) :
    RJrnAt C (grow F A C) p b { j with d := d } ∧ Turn F A C := by
  have hs := q.size; have hs2 := t.size
  refine ⟨⟨t.blk (hb.stays q) (fun hc => hc.2 rfl), .inl hp, hd.mono (fun k hk => ?_), fun k hk => ?_⟩, (Turn.of_q q).trans (t.mono (fun k hk => hk.1))⟩
  · rcases hk with hk | hk
    · exact .inl hk.1
    · exact .inr ⟨by omega, hk.2⟩
  · rcases hk with hk | hk
    · have := hlt k hk; omega
    · exact hk.2
theorem RJrnAt.turned {w w' : World} {F : Nat → Prop} {p b : Nat} {j j' : JL} (h : RJrnAt w F p b j) (hb : Blk w' p 133 (jcells b j')) (hd : j'.d = j.d) (t : Turn (fun k => k = p) w w') : RJrnAt w' F p b j' :=
  ⟨hb, h.fp, by rw [hd]; exact ((h.dev.minus h.box).beside t (fun k hk e => hk.2 e)).mono (fun k hk => hk.1), fun k hk => Nat.lt_of_lt_of_le (h.lt k hk) t.size⟩
theorem RJrnAt.write {A : World} {F : Nat → Prop} {p b : Nat} {j : JL} (h : RJrnAt A F p b j) (hd : j.d.Ok) (hp : j.d.dead = false → j.d.p.length ≤ 1000000) (i : Int) (s : Bytes) (hs : s.length ≤ 1000000) : ∀ B, Q A B →
    Calls Tryz.prog 125 #[ptrV b, .int .i64 i, strV s] B fun e C => e = .returned (.int .i64 (j.d.write i s).2) ∧ RJrnAt C (grow F A C) p b { j with d := (j.d.write i s).1 } ∧ Turn F A C := fun B q => by
  refine (RWrite_any B (fun k => F k ∧ k ≠ p) b j.d i s ((h.dev.minus h.box).keep q) hd hp (by omega)).mono ?_
  rintro e C ⟨rfl, h2, t2⟩
  exact ⟨rfl, RJrnAt.step h.box q t2 h2 h.lt h.fp⟩
theorem RJrnAt.flush {A : World} {F : Nat → Prop} {p b : Nat} {j : JL} (h : RJrnAt A F p b j) (hd : j.d.Ok) (hp : j.d.dead = false → j.d.p.length ≤ 1000000) : ∀ B, Q A B →
    Calls Tryz.prog 127 #[ptrV b] B fun e C => e = .returned (.int .i64 j.d.flush.2) ∧ RJrnAt C (grow F A C) p b { j with d := j.d.flush.1 } ∧ Turn F A C := fun B q => by
  refine (RFlush_any B (fun k => F k ∧ k ≠ p) b j.d ((h.dev.minus h.box).keep q) hd hp).mono ?_
  rintro e C ⟨rfl, h2, t2⟩
  exact ⟨rfl, RJrnAt.step h.box q t2 (h2.mono (fun k hk => .inl hk)) h.lt h.fp⟩
theorem RPlace_any (w : World) (p b : Nat) (j : JL) (n : Nat) (hb : Blk w p 133 (jcells b j)) (hl : 0 < j.s.log) (hl2 : j.s.log ≤ 1000000) (hp : j.s.place ≤ 1000000) (hn : n ≤ 3000000) :
    Calls Tryz.prog 163 #[ptrV p, .int .i64 (n : Nat)] w fun e w' => e = .returned (.int .i64 (logAt j.s n : Nat)) ∧ Q w w' := by
  obtain ⟨c0, c1, c2, c3, c4, c5, c6, c7⟩ := hb.c8
  have hh : ((logAt j.s n : Nat) : Int) = 2 + (((j.s.place : Int) + (n : Int)) % (j.s.log : Int)) := by unfold logAt; simp only [Int.natCast_add, Int.natCast_emod]; rfl
  rw [hh]
  have hl3 : ¬ (j.s.log : Int) = 0 := by omega
  have hmod : ((j.s.place : Int) + (n : Int)) % (j.s.log : Int) < (j.s.log : Int) := Int.emod_lt_of_pos _ (by omega)
  have hmod0 : 0 ≤ ((j.s.place : Int) + (n : Int)) % (j.s.log : Int) := Int.emod_nonneg _ (by omega)
  clear hb hh
  go_enter Tryz.func163, Tryz.ntmps163
  go_wp2_with fail
  go_quiet (fail)
  go_wp2_with fail
  go_ret
  exact ⟨rfl, Q.drewN _ _⟩
theorem RHome_any (w : World) (p b : Nat) (j : JL) (hb : Blk w p 133 (jcells b j)) (hl : j.s.log ≤ 1000000) :
    Calls Tryz.prog 135 #[ptrV p] w fun e w' => e = .returned (.int .i64 (j.home : Nat)) ∧ w = w' := by
  obtain ⟨c0, c1, c2, c3, _⟩ := hb.c8
  have hh : ((j.home : Nat) : Int) = 2 + (j.s.log : Int) := by unfold JL.home; omega
  rw [hh]
  clear hb hh
  go_enter Tryz.func135, Tryz.ntmps135
  go_wp2_with fail
  go_ret
  exact ⟨rfl, rfl⟩
theorem Qs.le {A B : World} (h : Q A B) : A.heap.size ≤ B.heap.size := Below.size h
theorem RRead4_any (t : Bytes) (n : Nat) (ht : t.length = 256) (hn : n ≤ 4096) (w : World) :
    Calls Tryz.prog 129 #[strV t, .int .i64 (n : Nat)] w fun e w' => (∃ s0 : SlotL, e = .returned (.tuple #[.agg #[.int .u64 (s0.e : Nat), .int .u64 (s0.s : Nat), .int .i64 (s0.log : Nat), .int .i64 (s0.place : Nat)], .bool (toSlotL t n).isSome]) ∧ ∀ s, toSlotL t n = some s → s = s0) ∧ Q w w' := by
  have c1 := fun (W : World) => RToFixed_any (t.drop 20) W (by rw [List.length_drop]; omega) (by rw [List.length_drop]; omega)
  have c2 := fun (W : World) => RToFixed_any (t.drop 24) W (by rw [List.length_drop]; omega) (by rw [List.length_drop]; omega)
  have c3 := fun (W : World) => RLong_any (t.drop 4) W (by rw [List.length_drop]; omega) (by rw [List.length_drop]; omega)
  have c4 := fun (W : World) => RLong_any (t.drop 12) W (by rw [List.length_drop]; omega) (by rw [List.length_drop]; omega)
  have d1 : ({ data := t.toArray } : ByteArray).extract 20 t.length = ⟨(t.drop 20).toArray⟩ := bytes_drop t 20
  have d2 : ({ data := t.toArray } : ByteArray).extract 24 t.length = ⟨(t.drop 24).toArray⟩ := bytes_drop t 24
  have d3 : ({ data := t.toArray } : ByteArray).extract 4 t.length = ⟨(t.drop 4).toArray⟩ := bytes_drop t 4
  have d4 : ({ data := t.toArray } : ByteArray).extract 12 t.length = ⟨(t.drop 12).toArray⟩ := bytes_drop t 12
  have i4 : (4 : Int) ≤ (t.length : Int) := by omega
  have i12 : (12 : Int) ≤ (t.length : Int) := by omega
  have i20 : (20 : Int) ≤ (t.length : Int) := by omega
  have i24 : (24 : Int) ≤ (t.length : Int) := by omega
  have l1 := unfix_lt (t.drop 20); have l2 := unfix_lt (t.drop 24)
  have hsl : slotOf t = ⟨longL (t.drop 4), longL (t.drop 12), unfix (t.drop 20), unfix (t.drop 24)⟩ := by
    unfold slotOf longL; simp only [List.drop_drop]
  have hts : toSlotL t n = if 50 ≤ (slotOf t).log ∧ (slotOf t).log + 3 ≤ n ∧ (slotOf t).place < (slotOf t).log ∧ slotT (slotOf t) = t then some (slotOf t) else none := rfl
  have hso := slotOf_ok t
  rw [hsl] at hts hso
  simp only at hts
  have hw3 : IntKind.i64.wrap ((n : Int) - 3) = (n : Int) - 3 := IntWalk.i64_in _ (by omega)
  generalize longL (t.drop 4) = ee at *
  generalize longL (t.drop 12) = ss at *
  generalize unfix (t.drop 20) = u4 at *
  generalize unfix (t.drop 24) = u5 at *
  generalize (t.drop 20).drop 4 = r4 at *
  generalize (t.drop 24).drop 4 = r5 at *
  have C1 := Lib.hid c1; have C2 := Lib.hid c2; have C3 := Lib.hid c3; have C4 := Lib.hid c4; have HTS := Lib.hid hts; have HSO := Lib.hid hso
  clear c1 c2 c3 c4 hts hso hsl ht
  by_cases h50 : u4 < 50
  · have e1 : (u4 : Int) < 50 := by omega
    have hno : toSlotL t n = none := by rw [HTS.out, if_neg (fun h => by have := h.1; omega)]
    have HNO := Lib.hid hno
    clear hno
    go_enter Tryz.func129, Tryz.ntmps129
    go_upto_region 1 with fail
    have hb0 := Blk.new w 131 #[.int .u64 0, .int .u64 0, .int .i64 0, .int .i64 0]
    have hq0 := Q.alloc w (.cells #[.int .u64 0, .int .u64 0, .int .i64 0, .int .i64 0] 131)
    generalize w.alloc (.cells #[.int .u64 0, .int .u64 0, .int .i64 0, .int .i64 0] 131) = w1 at *
    have HB0 := Lib.hid hb0; have HQ0 := Lib.hid hq0
    clear hb0 hq0
    go_wp2_with fail
    refine (C1.out _).mono ?_
    rintro e w2 ⟨rfl, q2⟩
    go_wp2_with fail
    refine (C2.out _).mono ?_
    rintro e w3 ⟨rfl, q3⟩
    have hb3 := HB0.out.stays (q2.trans q3)
    obtain ⟨c0, c1, c2, c3, f0, f1, f2, f3⟩ := hb3.c4
    have HB3 := Lib.hid hb3; have HQ3 := Lib.hid (HQ0.out.trans (q2.trans q3))
    clear hb3 q2 q3
    go_wp2_with fail
    refine bodyPost_ret (results_ct rfl _ _ w.heap.size 131 _ (0, 0) _ rfl (box4 HB3.out (.int .u64 ((0 : Nat) : Int)) (.int .u64 ((0 : Nat) : Int)) (.int .i64 ((0 : Nat) : Int)) (.int .i64 ((0 : Nat) : Int))) Tryz.underlying131 rfl (by kernel_rfl)) rfl ?_
    refine ⟨⟨⟨0, 0, 0, 0⟩, ?_, fun s hs => ?_⟩, ?_⟩
    · rw [HNO.out]; rfl
    · rw [HNO.out] at hs; exact absurd hs (by simp)
    · exact Qs.st (Qs.st (Qs.st (Qs.st HQ3.out _ _ (Nat.le_refl _)) _ _ (Nat.le_refl _)) _ _ (Nat.le_refl _)) _ _ (Nat.le_refl _)
  have e1 : ¬ (u4 : Int) < 50 := by omega
  by_cases h41 : 4096 < u4
  · have e2 : (4096 : Int) < (u4 : Int) := by omega
    have hno : toSlotL t n = none := by rw [HTS.out, if_neg (fun h => by have := h.2.1; omega)]
    have HNO := Lib.hid hno
    clear hno
    go_enter Tryz.func129, Tryz.ntmps129
    go_upto_region 1 with fail
    have hb0 := Blk.new w 131 #[.int .u64 0, .int .u64 0, .int .i64 0, .int .i64 0]
    have hq0 := Q.alloc w (.cells #[.int .u64 0, .int .u64 0, .int .i64 0, .int .i64 0] 131)
    generalize w.alloc (.cells #[.int .u64 0, .int .u64 0, .int .i64 0, .int .i64 0] 131) = w1 at *
    have HB0 := Lib.hid hb0; have HQ0 := Lib.hid hq0
    clear hb0 hq0
    go_wp2_with fail
    refine (C1.out _).mono ?_
    rintro e w2 ⟨rfl, q2⟩
    go_wp2_with fail
    refine (C2.out _).mono ?_
    rintro e w3 ⟨rfl, q3⟩
    have hb3 := HB0.out.stays (q2.trans q3)
    obtain ⟨c0, c1, c2, c3, f0, f1, f2, f3⟩ := hb3.c4
    have HB3 := Lib.hid hb3; have HQ3 := Lib.hid (HQ0.out.trans (q2.trans q3))
    clear hb3 q2 q3
    go_wp2_with fail
    refine bodyPost_ret (results_ct rfl _ _ w.heap.size 131 _ (0, 0) _ rfl (box4 HB3.out (.int .u64 ((0 : Nat) : Int)) (.int .u64 ((0 : Nat) : Int)) (.int .i64 ((0 : Nat) : Int)) (.int .i64 ((0 : Nat) : Int))) Tryz.underlying131 rfl (by kernel_rfl)) rfl ?_
    refine ⟨⟨⟨0, 0, 0, 0⟩, ?_, fun s hs => ?_⟩, ?_⟩
    · rw [HNO.out]; rfl
    · rw [HNO.out] at hs; exact absurd hs (by simp)
    · exact Qs.st (Qs.st (Qs.st (Qs.st HQ3.out _ _ (Nat.le_refl _)) _ _ (Nat.le_refl _)) _ _ (Nat.le_refl _)) _ _ (Nat.le_refl _)
  have e2 : ¬ (4096 : Int) < (u4 : Int) := by omega
  by_cases hln : u4 + 3 ≤ n
  case neg =>
    have e3 : (n : Int) - 3 < (u4 : Int) := by omega
    have hno : toSlotL t n = none := by rw [HTS.out, if_neg (fun h => hln h.2.1)]
    have HNO := Lib.hid hno
    clear hno
    go_enter Tryz.func129, Tryz.ntmps129
    go_upto_region 1 with fail
    have hb0 := Blk.new w 131 #[.int .u64 0, .int .u64 0, .int .i64 0, .int .i64 0]
    have hq0 := Q.alloc w (.cells #[.int .u64 0, .int .u64 0, .int .i64 0, .int .i64 0] 131)
    generalize w.alloc (.cells #[.int .u64 0, .int .u64 0, .int .i64 0, .int .i64 0] 131) = w1 at *
    have HB0 := Lib.hid hb0; have HQ0 := Lib.hid hq0
    clear hb0 hq0
    go_wp2_with fail
    refine (C1.out _).mono ?_
    rintro e w2 ⟨rfl, q2⟩
    go_wp2_with fail
    refine (C2.out _).mono ?_
    rintro e w3 ⟨rfl, q3⟩
    have hb3 := HB0.out.stays (q2.trans q3)
    obtain ⟨c0, c1, c2, c3, f0, f1, f2, f3⟩ := hb3.c4
    have HB3 := Lib.hid hb3; have HQ3 := Lib.hid (HQ0.out.trans (q2.trans q3))
    clear hb3 q2 q3
    go_wp2_with fail
    refine bodyPost_ret (results_ct rfl _ _ w.heap.size 131 _ (0, 0) _ rfl (box4 HB3.out (.int .u64 ((0 : Nat) : Int)) (.int .u64 ((0 : Nat) : Int)) (.int .i64 ((0 : Nat) : Int)) (.int .i64 ((0 : Nat) : Int))) Tryz.underlying131 rfl (by kernel_rfl)) rfl ?_
    refine ⟨⟨⟨0, 0, 0, 0⟩, ?_, fun s hs => ?_⟩, ?_⟩
    · rw [HNO.out]; rfl
    · rw [HNO.out] at hs; exact absurd hs (by simp)
    · exact Qs.st (Qs.st (Qs.st (Qs.st HQ3.out _ _ (Nat.le_refl _)) _ _ (Nat.le_refl _)) _ _ (Nat.le_refl _)) _ _ (Nat.le_refl _)
  have e3 : ¬ (n : Int) - 3 < (u4 : Int) := by omega
  by_cases hpl : u5 < u4
  case neg =>
    have e4 : (u4 : Int) ≤ (u5 : Int) := by omega
    have hno : toSlotL t n = none := by rw [HTS.out, if_neg (fun h => hpl h.2.2.1)]
    have HNO := Lib.hid hno
    clear hno
    go_enter Tryz.func129, Tryz.ntmps129
    go_upto_region 1 with fail
    have hb0 := Blk.new w 131 #[.int .u64 0, .int .u64 0, .int .i64 0, .int .i64 0]
    have hq0 := Q.alloc w (.cells #[.int .u64 0, .int .u64 0, .int .i64 0, .int .i64 0] 131)
    generalize w.alloc (.cells #[.int .u64 0, .int .u64 0, .int .i64 0, .int .i64 0] 131) = w1 at *
    have HB0 := Lib.hid hb0; have HQ0 := Lib.hid hq0
    clear hb0 hq0
    go_wp2_with fail
    refine (C1.out _).mono ?_
    rintro e w2 ⟨rfl, q2⟩
    go_wp2_with fail
    refine (C2.out _).mono ?_
    rintro e w3 ⟨rfl, q3⟩
    have hb3 := HB0.out.stays (q2.trans q3)
    obtain ⟨c0, c1, c2, c3, f0, f1, f2, f3⟩ := hb3.c4
    have HB3 := Lib.hid hb3; have HQ3 := Lib.hid (HQ0.out.trans (q2.trans q3))
    clear hb3 q2 q3
    go_wp2_with fail
    refine bodyPost_ret (results_ct rfl _ _ w.heap.size 131 _ (0, 0) _ rfl (box4 HB3.out (.int .u64 ((0 : Nat) : Int)) (.int .u64 ((0 : Nat) : Int)) (.int .i64 ((0 : Nat) : Int)) (.int .i64 ((0 : Nat) : Int))) Tryz.underlying131 rfl (by kernel_rfl)) rfl ?_
    refine ⟨⟨⟨0, 0, 0, 0⟩, ?_, fun s hs => ?_⟩, ?_⟩
    · rw [HNO.out]; rfl
    · rw [HNO.out] at hs; exact absurd hs (by simp)
    · exact Qs.st (Qs.st (Qs.st (Qs.st HQ3.out _ _ (Nat.le_refl _)) _ _ (Nat.le_refl _)) _ _ (Nat.le_refl _)) _ _ (Nat.le_refl _)
  have e4 : ¬ (u4 : Int) ≤ (u5 : Int) := by omega
  have cst := fun (W : World) => RText4_any ⟨ee, ss, u4, u5⟩ HSO.out W
  have hres : (toSlotL t n).isSome = (slotT ⟨ee, ss, u4, u5⟩ == t) ∧ ∀ s, toSlotL t n = some s → s = ⟨ee, ss, u4, u5⟩ := by
    rw [HTS.out]
    by_cases heq : slotT ⟨ee, ss, u4, u5⟩ = t
    · rw [if_pos ⟨by omega, hln, hpl, heq⟩, beq_iff_eq.2 heq]
      exact ⟨rfl, fun s hs => (Option.some.inj hs).symm⟩
    · rw [if_neg (fun h => heq h.2.2.2), beq_eq_false_iff_ne.2 heq]
      exact ⟨rfl, fun s hs => absurd hs (by simp)⟩
  have CST := Lib.hid cst; have HRES := Lib.hid hres
  clear cst hres
  generalize slotT ⟨ee, ss, u4, u5⟩ = st at *
  go_enter Tryz.func129, Tryz.ntmps129
  go_upto_region 1 with fail
  have hb0 := Blk.new w 131 #[.int .u64 0, .int .u64 0, .int .i64 0, .int .i64 0]
  have hq0 := Q.alloc w (.cells #[.int .u64 0, .int .u64 0, .int .i64 0, .int .i64 0] 131)
  generalize w.alloc (.cells #[.int .u64 0, .int .u64 0, .int .i64 0, .int .i64 0] 131) = w1 at *
  have HB0 := Lib.hid hb0; have HQ0 := Lib.hid hq0
  clear hb0 hq0
  go_wp2_with fail
  refine (C1.out _).mono ?_
  rintro e w2 ⟨rfl, q2⟩
  go_wp2_with fail
  refine (C2.out _).mono ?_
  rintro e w3 ⟨rfl, q3⟩
  have hb3 := HB0.out.stays (q2.trans q3)
  have HQ13' : Q w1 w3 := q2.trans q3
  have HB3 := Lib.hid hb3; have HQ3 := Lib.hid (HQ0.out.trans (q2.trans q3))
  clear hb3 q2 q3
  go_wp2_with fail
  have HQ13 := Lib.hid (show Q w1 w3 from HQ13')
  have hs1 : w1.heap.size ≤ w3.heap.size := Below.size HQ13'
  clear HQ13'
  have KQ := Lib.hid (Q.refl w3)
  go_region_law
    (first
      | (go_simp; go_at_call 162; with_reducible refine (C3.out _).mono ?_; rintro e w4 ⟨rfl, q4⟩; (first | (have zb := Blk.stays (Blk.new w3 131 #[.int .u64 0, .int .u64 0, .int .i64 0, .int .i64 0]) (Q.trans (Q.drew _) q4); have ZB := Lib.hid zb; clear zb) | skip); have s' : Q w3 w4 := Q.trans (by repeat (first | with_reducible exact KQ.out | with_reducible apply Qs.dr | with_reducible apply Qs.al)) q4; have hs4 := Qs.le s'; clear KQ; have KQ := Lib.hid s'; clear s' q4)
      | (go_simp; go_at_call 162; with_reducible refine (C4.out _).mono ?_; rintro e w5 ⟨rfl, q5⟩; (first | (have zb := Blk.stays (Blk.new w4 131 #[.int .u64 0, .int .u64 0, .int .i64 0, .int .i64 0]) q5; obtain ⟨z0, z1, z2, z3, y0, y1, y2, y3⟩ := zb.c4; have ZC5 := Lib.hid zb; clear zb) | (have zb := Blk.stays ZB.out q5; obtain ⟨z0, z1, z2, z3, y0, y1, y2, y3⟩ := zb.c4; have ZB5 := Lib.hid zb; clear zb) | skip); have s' : Q w3 w5 := Q.trans (by repeat (first | with_reducible exact KQ.out | with_reducible apply Qs.dr | with_reducible apply Qs.al)) q5; have hs5 := Qs.le s'; clear KQ; have KQ := Lib.hid s'; clear s' q5))
  all_goals
    have hwl : IntKind.i64.wrap ((u4 : Nat) : Int) = (u4 : Nat) := IntWalk.i64_in _ (by omega)
    have hwp : IntKind.i64.wrap ((u5 : Nat) : Int) = (u5 : Nat) := IntWalk.i64_in _ (by omega)
    simp only [hwl, hwp]
    clear hwl hwp
    first
      | (have hbz := box4 ZC5.out (.int .u64 (ee : Nat)) (.int .u64 (ss : Nat)) (.int .i64 (u4 : Nat)) (.int .i64 (u5 : Nat))
         have hqz : Q w3 ((((w5.setCell ⟨w4.heap.size, 0, none⟩ (.int .u64 (ee : Nat))).setCell ⟨w4.heap.size, 1, none⟩ (.int .u64 (ss : Nat))).setCell ⟨w4.heap.size, 2, none⟩ (.int .i64 (u4 : Nat))).setCell ⟨w4.heap.size, 3, none⟩ (.int .i64 (u5 : Nat))) := Qs.st (Qs.st (Qs.st (Qs.st KQ.out _ _ hs4) _ _ hs4) _ _ hs4) _ _ hs4
         generalize hWz : (((w5.setCell ⟨w4.heap.size, 0, none⟩ (.int .u64 (ee : Nat))).setCell ⟨w4.heap.size, 1, none⟩ (.int .u64 (ss : Nat))).setCell ⟨w4.heap.size, 2, none⟩ (.int .i64 (u4 : Nat))).setCell ⟨w4.heap.size, 3, none⟩ (.int .i64 (u5 : Nat)) = wz at hbz hqz ⊢
         clear hWz
         have HBZ := Lib.hid hbz; have HQZ := Lib.hid hqz
         clear hbz hqz)
      | (have hbz := box4 ZB5.out (.int .u64 (ee : Nat)) (.int .u64 (ss : Nat)) (.int .i64 (u4 : Nat)) (.int .i64 (u5 : Nat))
         have hqz : Q w3 ((((w5.setCell ⟨w3.heap.size, 0, none⟩ (.int .u64 (ee : Nat))).setCell ⟨w3.heap.size, 1, none⟩ (.int .u64 (ss : Nat))).setCell ⟨w3.heap.size, 2, none⟩ (.int .i64 (u4 : Nat))).setCell ⟨w3.heap.size, 3, none⟩ (.int .i64 (u5 : Nat))) := Qs.st (Qs.st (Qs.st (Qs.st KQ.out _ _ (Nat.le_refl _)) _ _ (Nat.le_refl _)) _ _ (Nat.le_refl _)) _ _ (Nat.le_refl _)
         generalize hWz : (((w5.setCell ⟨w3.heap.size, 0, none⟩ (.int .u64 (ee : Nat))).setCell ⟨w3.heap.size, 1, none⟩ (.int .u64 (ss : Nat))).setCell ⟨w3.heap.size, 2, none⟩ (.int .i64 (u4 : Nat))).setCell ⟨w3.heap.size, 3, none⟩ (.int .i64 (u5 : Nat)) = wz at hbz hqz ⊢
         clear hWz
         have HBZ := Lib.hid hbz; have HQZ := Lib.hid hqz
         clear hbz hqz)
      | (have hbz := Blk.new w5 131 #[.int .u64 (ee : Nat), .int .u64 (ss : Nat), .int .i64 (u4 : Nat), .int .i64 (u5 : Nat)]
         have hqz : Q w3 (w5.alloc (.cells #[.int .u64 (ee : Nat), .int .u64 (ss : Nat), .int .i64 (u4 : Nat), .int .i64 (u5 : Nat)] 131)) := KQ.out.trans (Q.alloc _ _)
         generalize hWz : w5.alloc (.cells #[.int .u64 (ee : Nat), .int .u64 (ss : Nat), .int .i64 (u4 : Nat), .int .i64 (u5 : Nat)] 131) = wz at hbz hqz ⊢
         clear hWz
         have HBZ := Lib.hid hbz; have HQZ := Lib.hid hqz
         clear hbz hqz)
    obtain ⟨s0, s1, s2, s3, _⟩ := HBZ.out.c4
    have hbx := HB3.out.stays HQZ.out
    obtain ⟨b0, b1, b2, b3, f0, f1, f2, f3⟩ := hbx.c4
    have HBX := Lib.hid hbx
    clear hbx
    go_wp2_with fail
    go_region_law
      (first
        | (go_simp; go_at_call 126; with_reducible refine (CST.out _).mono ?_; rintro e w6 ⟨rfl, q6⟩; have s' : Q wz w6 := (by first | exact (Q.drew _).trans q6 | exact q6); have g0 := cellQ s' s0; have g1 := cellQ s' s1; have g2 := cellQ s' s2; have g3 := cellQ s' s3; have hb6 := Blk.stays HBX.out s'; obtain ⟨a0, a1, a2, a3, d0, d1, d2, d3⟩ := hb6.c4; have S' := Lib.hid s'; have HB6 := Lib.hid hb6; clear s' q6 hb6))
    all_goals
      go_wp2_with fail
      (try simp only [Exit.inBlock, Exit.then])
      first
        | refine bodyPost_ret (results_ct rfl _ _ w.heap.size 131 _ (0, 0) _ rfl (box4 HB6.out (.int .u64 (ee : Nat)) (.int .u64 (ss : Nat)) (.int .i64 (u4 : Nat)) (.int .i64 (u5 : Nat))) Tryz.underlying131 rfl (by kernel_rfl)) rfl ?_
        | refine bodyPost_ret (results_ct rfl _ _ w.heap.size 131 _ (0, 0) _ rfl (box4 (HB6.out.stays (Q.drew _)) (.int .u64 (ee : Nat)) (.int .u64 (ss : Nat)) (.int .i64 (u4 : Nat)) (.int .i64 (u5 : Nat))) Tryz.underlying131 rfl (by kernel_rfl)) rfl ?_
      refine ⟨⟨⟨ee, ss, u4, u5⟩, ?_, fun s hs => ?_⟩, ?_⟩
      · rw [HRES.out.1]; rfl
      · exact HRES.out.2 s hs
      · first
          | exact Qs.st (Qs.st (Qs.st (Qs.st (HQ3.out.trans (HQZ.out.trans S'.out)) _ _ (Nat.le_refl _)) _ _ (Nat.le_refl _)) _ _ (Nat.le_refl _)) _ _ (Nat.le_refl _)
          | exact Qs.st (Qs.st (Qs.st (Qs.st (HQ3.out.trans (HQZ.out.trans (S'.out.trans (Q.drew _)))) _ _ (Nat.le_refl _)) _ _ (Nat.le_refl _)) _ _ (Nat.le_refl _)) _ _ (Nat.le_refl _)
end
end Go.Proofs.YtnmijegmbomfdaaGreatDoor
