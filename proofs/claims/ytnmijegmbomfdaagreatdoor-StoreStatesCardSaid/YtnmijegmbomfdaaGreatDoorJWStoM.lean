/- Joined texts of one proof: what is needed of WStoM, WStoN, Wld7. -/
import Derived.Test.YtnmijegmbomfdaaGreatDoorJWStoI
import Derived.Test.YtnmijegmbomfdaaGreatDoorJWJrnI
import Derived.Test.YtnmijegmbomfdaaGreatDoorJBitA
import Derived.Test.YtnmijegmbomfdaaGreatDoorJMem3
import Derived.Test.YtnmijegmbomfdaaGreatDoorJWBlkE
set_option linter.unusedSimpArgs false
set_option linter.unusedVariables false
set_option linter.unnecessarySimpa false
set_option maxRecDepth 100000
set_option maxHeartbeats 16000000
namespace Go.Proofs.YtnmijegmbomfdaaGreatDoor
section
open Go.RowKit
theorem ssum_of (a b : Bytes) (h : a.length + b.length ≤ 9223372036854775807) (W : World) : (Op.stringOp .add ⟨a.toArray⟩ ⟨b.toArray⟩).run Tryz.prog W = .ok (strV (a ++ b)) W := by
  rw [run_string_add_sum W _ _ (by simpa [ByteArray.size] using h), bytes_append]
theorem cnt_mono' (l : Bytes) (n k : Nat) : cnt l n ≤ cnt l (n + k) := by
  induction k with
  | zero => exact Nat.le_refl _
  | succ k ih =>
    refine Nat.le_trans ih ?_
    show cnt l (n + k) ≤ cnt l (n + k + 1)
    rw [cnt]; omega
def mapK (d : DevL) (k : Nat) : Bytes := ((List.range k).map fun i => d.get (63 + i)).flatten
theorem mapK_succ (d : DevL) (k : Nat) : mapK d (k + 1) = mapK d k ++ d.get (63 + k) := by
  unfold mapK; rw [List.range_succ, List.map_append, List.flatten_append]; simp
theorem mapK_len (d : DevL) (k : Nat) (h : ∀ i, i < k → (d.get (63 + i)).length = 256) : (mapK d k).length = 256 * k := by
  induction k with
  | zero => rfl
  | succ k ih => rw [mapK_succ, List.length_append, ih (fun i hi => h i (by omega)), h k (by omega)]; omega
structure OpenOk (d : DevL) : Prop where
  j0 : (openJ d).2 = 0
  num : JNum (openJ d).1
  live : (openJ d).1.d.dead = false
  home : (openJ d).1.home = 62
  big : 128 ≤ d.l.length
  ok : (openJ d).1.d.Ok
  title : (openJ d).1.d.get 62 = titleL d.l.length
  low : cnt (mapD (openJ d).1.d) (firstD d.l.length) = 0
  high : cnt (mapD (openJ d).1.d) (2048 * partsN d.l.length) - cnt (mapD (openJ d).1.d) d.l.length = 2048 * partsN d.l.length - d.l.length
theorem SOpen_bad (w : World) (F : Nat → Prop) (b : Nat) (d : DevL) (most : Nat) (h : DevAt w F b d) (hF : ∀ k, F k → k < w.heap.size) (hd : d.Ok) (hn : 128 ≤ d.l.length) (hp : d.dead = false → d.p.length ≤ 800000) (hm : 64 ≤ most ∧ most ≤ 1024) (hbad : (openJ d).2 ≠ 0) :
    Calls Tryz.prog 17 #[ptrV b, .int .i64 (most : Nat)] w fun e w' => e = .returned (.tuple #[.pointer none, .int .i64 (openJ d).2]) ∧ DevAt w' (grow F w w') b (openJ d).1.d ∧ Turn F w w' := by
  have hjo := JOpen_any w F b d h hF hd (by omega) hp
  have e1 : ¬ (most : Int) < 64 := by omega
  have e2 : ¬ (1024 : Int) < (most : Int) := by omega
  have e3 : ((openJ d).2 == 0) = false := beq_eq_false_iff_ne.2 hbad
  unfold OpenEnd at hjo
  generalize openJ d = oj at *
  have HJ := Lib.hid hjo; have HB := Lib.hid hbad
  clear hjo h hF hd hn hp hbad hm
  go_enter Tryz.func17, Tryz.ntmps17
  go_wp2_with fail
  refine HJ.out.mono ?_
  rintro e w1 ⟨t1, hh⟩
  rcases hh with ⟨h0, _⟩ | ⟨h0, rfl, h2⟩
  · exact absurd h0 HB.out
  · have H2 := Lib.hid h2; have T1 := Lib.hid t1
    clear h2 t1 h0
    go_wp2_with fail
    go_ret2
    exact ⟨rfl, H2.out, T1.out⟩
theorem SOpen_ok (w : World) (F : Nat → Prop) (b : Nat) (d : DevL) (most : Nat) (h : DevAt w F b d) (hF : ∀ k, F k → k < w.heap.size) (hd : d.Ok) (hp : d.dead = false → d.p.length ≤ 800000) (hm : 64 ≤ most ∧ most ≤ 1024) (ho : OpenOk d) :
    Calls Tryz.prog 17 #[ptrV b, .int .i64 (most : Nat)] w fun e w' => ∃ sb, e = .returned (.tuple #[ptrV sb, .int .i64 0]) ∧ StAt w' (grow F w w') sb b ⟨(openJ d).1, mapD (openJ d).1.d, [], false, []⟩ 0 ∧ Turn F w w' := by
  have hjo := JOpen_any w F b d h hF hd (by have := ho.big; omega) hp
  have e1 : ¬ (most : Int) < 64 := by omega
  have e2 : ¬ (1024 : Int) < (most : Int) := by omega
  have hln := openJ_len d
  have hmx := hd.max
  obtain ⟨o1, o2, o3, o4, o5, o6, o7, o8, o9⟩ := ho
  have hmapk : mapD (openJ d).1.d = mapK (openJ d).1.d (partsN d.l.length) := by unfold mapD mapK; rw [hln]
  have hgl : ∀ i, i < d.l.length → ((openJ d).1.d.get i).length = 256 := fun i hi => DevL.get_len o6 i (by rw [hln]; exact hi)
  have hcn := fun (W : World) (p : Nat) => CNew_any W p most (by omega) hm.2
  have hmm := @run_makeMap Tryz.prog
  unfold OpenEnd at hjo
  generalize openJ d = oj at *
  obtain ⟨j, jc⟩ := oj
  simp only at *
  subst o1
  have HJ := Lib.hid hjo; have HCN := Lib.hid hcn; have HM := Lib.hid hm; have HF := Lib.hid hF; have HMK := Lib.hid hmapk; have HGL := Lib.hid hgl
  clear hjo h hd hp hm hcn hF hmapk hgl
  go_enter Tryz.func17, Tryz.ntmps17
  go_wp2_with fail
  refine HJ.out.mono ?_
  rintro e w1 ⟨t1, hh⟩
  rcases hh with ⟨h0, p, rfl, hj1⟩ | ⟨h0, _⟩
  · have hc1 := HCN.out w1 p
    have HC1 := Lib.hid hc1; have HJ1 := Lib.hid hj1; have T1 := Lib.hid t1
    clear hc1 hj1 t1 h0
    go_wp2_with fail
    refine HC1.out.mono ?_
    rintro e w2 ⟨cb, rfl, hca, q2⟩
    have HCA := Lib.hid hca; have Q2 := Lib.hid q2
    clear hca q2
    go_upto_region 8 with fail
    clear hmm
    generalize hw3 : (w2.alloc (Obj.map #[] 0)).alloc (Obj.cells #[ptrV p, ptrV cb, .string ⟨#[]⟩, .string ⟨#[]⟩, .bool false, .map (some w2.heap.size)] 97) = w3
    have hb3 : Blk w3 (w2.heap.size + 1) 97 (scells p cb w2.heap.size ⟨j, [], [], false, []⟩) := by
      rw [← hw3]
      have := Blk.new (w2.alloc (Obj.map #[] 0)) 97 (scells p cb w2.heap.size ⟨j, [], [], false, []⟩)
      rwa [World.size_alloc] at this
    have hm3 : MapI w3 w2.heap.size [] := by
      rw [← hw3]
      exact (MapI.made w2).same ((Q.alloc (w2.alloc (Obj.map #[] 0)) _).block _ (by simp))
    have q23 : Q w2 w3 := by rw [← hw3]; exact (Q.alloc _ _).trans (Q.alloc _ _)
    have hz3 : w3.heap.size = w2.heap.size + 2 := by rw [← hw3]; simp
    clear hw3
    have hjw := fun (W : World) (t : Turn (fun k => k = w2.heap.size + 1) w3 W) => (HJ1.out.keep (Q2.out.trans q23)).beside t (fun k hk e => by have h1 := HJ1.out.lt k hk; have h2 := Q2.out.size; omega)
    obtain ⟨c0, c1, c2, c3, c4, c5⟩ := Blk.c6 hb3
    have f2 := hb3.frozen 2
    have hj3 := hjw w3 (Turn.refl _ _)
    have k0 := hj3.box.c8.1
    have hpar : partsN d.l.length ≤ 2 ∧ 1 ≤ partsN d.l.length ∧ d.l.length ≤ 2048 * partsN d.l.length ∧ 63 + partsN d.l.length < d.l.length := by unfold partsN; omega
    have hbk := Blocks_any w3 _ b j.d hj3.dev
    rw [hln] at hbk
    have hho := JHome_any w3 p b j hj3.box o2.log2
    rw [o4] at hho
    have hfi := fun (W : World) => First_n d.l.length W (by omega)
    have hpa := fun (W : World) => Parts_any d.l.length W (by omega)
    have hti := fun (W : World) => Title_any d.l.length W (by omega)
    have hrd := fun (W : World) (t : Turn (fun k => k = w2.heap.size + 1) w3 W) (i : Nat) (hi : i < d.l.length) => (show Calls Tryz.prog 47 #[ptrV b, .int .i64 (i : Nat)] W fun e w' => e = .returned (.tuple #[strV (j.d.get i), .int .i64 0]) ∧ Q W w' from by
      have hr := Read_any W _ b j.d (i : Nat) (hjw W t).dev (by rw [hln]; exact hmx) (fun _ => by have := o2.plen o3; omega)
      have e : j.d.read (i : Nat) = (j.d.get i, 0) := by unfold DevL.read; rw [DevL.chk_in o3 i (by rw [hln]; exact hi), if_pos rfl]; rfl
      rw [e] at hr
      exact hr)
    have hr62 := hrd w3 (Turn.refl _ _) 62 (by omega)
    rw [o7] at hr62
    have HR62 := Lib.hid hr62
    clear hr62
    have hml : (mapK j.d (partsN d.l.length)).length = 256 * partsN d.l.length := mapK_len _ _ (fun i hi => HGL.out _ (by omega))
    have hfr := fun (W : World) (i : Nat) (hi : i ≤ 2048 * partsN d.l.length) => BFree_any (mapD j.d) (i : Nat) W (by rw [HMK.out, hml]; omega) (by omega) (by omega)
    have hfn : ∀ i, i ≤ 2048 * partsN d.l.length → firstN (mapD j.d) (i : Nat) = i := fun i hi => by unfold firstN; rw [HMK.out, hml]; omega
    have hfr1 := fun (W : World) => hfr W (2048 * partsN d.l.length) (Nat.le_refl _)
    have hfr2 := fun (W : World) => hfr W d.l.length hpar.2.2.1
    have hfr3 := fun (W : World) => hfr W (firstD d.l.length) (by unfold firstD; omega)
    rw [hfn _ (Nat.le_refl _)] at hfr1
    rw [hfn _ hpar.2.2.1] at hfr2
    rw [hfn _ (by unfold firstD; omega), o8] at hfr3
    have hfd : firstD d.l.length < d.l.length := by unfold firstD; omega
    have hcast : ((2048 * partsN d.l.length : Nat) : Int) = 2048 * (partsN d.l.length : Int) := by push_cast; rfl
    rw [hcast] at hfr1
    have hmono := cnt_mono' (mapD j.d) d.l.length (2048 * partsN d.l.length - d.l.length)
    rw [show d.l.length + (2048 * partsN d.l.length - d.l.length) = 2048 * partsN d.l.length by omega] at hmono
    have h9 : (cnt (mapD j.d) (2048 * partsN d.l.length) : Int) - (cnt (mapD j.d) d.l.length : Int) = 2048 * (partsN d.l.length : Int) - (d.l.length : Int) := by omega
    have hcle : cnt (mapD j.d) d.l.length ≤ 4096 := Nat.le_trans (cnt_le _ _) hmx
    have hcle2 : cnt (mapD j.d) (2048 * partsN d.l.length) ≤ 4096 := Nat.le_trans (cnt_le _ _) (by omega)
    have HB3 := Lib.hid hb3; have HM3 := Lib.hid hm3; have Q23 := Lib.hid q23; have HZ3 := Lib.hid hz3; have HJW := Lib.hid hjw; have HBK := Lib.hid hbk; have HHO := Lib.hid hho; have HFI := Lib.hid hfi; have HPA := Lib.hid hpa; have HTI := Lib.hid hti; have HRD := Lib.hid hrd; have HML := Lib.hid hml; have HFR1 := Lib.hid hfr1; have HFR2 := Lib.hid hfr2; have HFR3 := Lib.hid hfr3; have O7 := Lib.hid o7; have O9 := Lib.hid h9; have HFD := Lib.hid hfd
    have hnb : ¬ (d.l.length : Int) < (firstD d.l.length : Int) := by omega
    clear hb3 hm3 q23 hjw hbk hho hfi hpa hti hrd hml hfr hfn hfr1 hfr2 hfr3 o8 o7 o9 hj3 hcast hmono h9
    go_wp2_with fail
    refine HBK.out.mono ?_
    rintro e w4 ⟨rfl, rfl⟩
    go_wp2_with fail
    refine HHO.out.mono ?_
    rintro e w4 ⟨rfl, rfl⟩
    go_wp2_with fail
    refine (HFI.out _).mono ?_
    rintro e w4 ⟨rfl, rfl⟩
    go_wp2_with fail
    refine HR62.out.mono ?_
    rintro e w4 ⟨rfl, q4⟩
    have Q4 := Lib.hid q4
    clear q4 c0 c1 c2 c3 c4 c5 f2 k0
    go_wp2_with fail
    refine (HPA.out _).mono ?_
    rintro e w5 ⟨rfl, rfl⟩
    have hpn2 := hpar.1
    have hgl2 : ∀ k, k < partsN d.l.length → (j.d.get (63 + k)).length = 256 ∧ 63 + k < d.l.length := fun k hk => ⟨HGL.out _ (by have := hpar.2.2.2; omega), by have := hpar.2.2.2; omega⟩
    have HGL2 := Lib.hid hgl2
    have hall : 2048 * partsN d.l.length ≤ 4096 := by omega
    have hdl : d.l.length ≤ 2048 * partsN d.l.length := hpar.2.2.1
    clear hgl2 hpar
    generalize hpnE : partsN d.l.length = pn at *
    have HPN := Lib.hid hpnE
    clear hpnE
    generalize hnE : d.l.length = n at *
    have HNE := Lib.hid hnE
    clear hnE
    go_wp2_with fail
    go_loopw [66] (fun v wr => ∃ k : Nat, v = .int .i64 (k : Nat) ∧ k ≤ pn ∧ Hid (Turn (fun x => x = w2.heap.size + 1) w3 wr) ∧ Hid (Blk wr (w2.heap.size + 1) 97 (scells p cb w2.heap.size ⟨j, mapK j.d k, [], false, []⟩))) (fun v _ => pn - (intOf v).toNat)
    case atStart => exact ⟨0, rfl, Nat.zero_le _, Turn.of_q Q4.out, HB3.out.stays Q4.out⟩
    case round =>
      obtain ⟨k, rfl, hk, HT, HB⟩ := hrel
      obtain ⟨c0, c1, c2, c3, c4, c5⟩ := Blk.c6 HB.out
      have f2 := HB.out.frozen 2
      have hjb := (HJW.out wr HT.out).box
      have k0 := hjb.c8.1
      by_cases hlt : k < pn
      · have hki : (k : Int) < (pn : Int) := by omega
        have hr := HRD.out wr HT.out (63 + k) (HGL2.out k hlt).2
        have hcast : (((63 + k : Nat) : Nat) : Int) = 63 + (k : Int) := by push_cast; rfl
        rw [hcast] at hr
        have hml2 : (mapK j.d k).length = 256 * k := mapK_len _ _ (fun i hi => (HGL2.out i (by omega)).1)
        have hsum := ssum_of (mapK j.d k) (j.d.get (63 + k)) (by rw [hml2, (HGL2.out k hlt).1]; omega)
        rw [← mapK_succ] at hsum
        have HR := Lib.hid hr
        clear hr hcast hml2 hjb
        go_wp2_with fail
        refine HR.out.mono ?_
        rintro e w6 ⟨rfl, q6⟩
        have hb6 := HB.out.stays q6
        have d2 := hb6.cell 2 (strV (mapK j.d k)) rfl
        have g2 := hb6.frozen 2
        have t6 : Turn (fun x => x = w2.heap.size + 1) w3 (w6.setCell ⟨w2.heap.size + 1, 2, none⟩ (strV (mapK j.d (k + 1)))) := Turn.setCell (a := ⟨w2.heap.size + 1, 2, none⟩) (HT.out.trans (Turn.of_q q6)) (.inl rfl) _
        have hb7 : Blk (w6.setCell ⟨w2.heap.size + 1, 2, none⟩ (strV (mapK j.d (k + 1)))) (w2.heap.size + 1) 97 (scells p cb w2.heap.size ⟨j, mapK j.d (k + 1), [], false, []⟩) := hb6.set 2 _
        have HT6 := Lib.hid t6; have HB7 := Lib.hid hb7
        clear q6 hb6 t6 hb7
        go_wp2_with fail
        go_roundw
        case rel => exact ⟨k + 1, by go_num, by omega, HT6, HB7⟩
        case measure => simp [intOf]; omega
      · have hki : ¬ (k : Int) < (pn : Int) := by omega
        obtain rfl : k = pn := by omega
        rw [← HMK.out] at c2 HB
        have KK := Lib.hid (Q.refl wr)
        clear f2 k0 hjb
        go_wp2_with fail
        refine (HPA.out _).mono ?_
        rintro e w5 ⟨rfl, rfl⟩
        go_wp2_with fail
        generalize hx1 : cnt (mapD j.d) (2048 * k) = x1 at *
        generalize hx2 : cnt (mapD j.d) n = x2 at *
        have HX := Lib.hid (And.intro hx1 hx2)
        clear hx1 hx2
        go_region_held3 (fun w' => w'.cell? ⟨w2.heap.size + 1, 2, none⟩ = some (strV (mapD j.d)))
          (first | exact c2 | exact cellQ (by repeat (first | with_reducible exact KK.out | with_reducible exact Q.refl _ | with_reducible apply Qs.dr | with_reducible apply Qs.al)) c2)
          (first
            | (go_at_call 49; with_reducible refine (HFR1.out _).mono ?_; rintro e w6 ⟨rfl, q6⟩; have s' : Q wr w6 := Q.trans (by repeat (first | with_reducible exact KK.out | with_reducible apply Qs.dr | with_reducible apply Qs.al)) (Q.of q6); clear KK; have KK := Lib.hid s'; clear s' q6)
            | (go_at_call 49; with_reducible refine (HFR2.out _).mono ?_; rintro e w7 ⟨rfl, q7⟩; have s' : Q wr w7 := Q.trans (by repeat (first | with_reducible exact KK.out | with_reducible apply Qs.dr | with_reducible apply Qs.al)) (Q.of q7); clear KK; have KK := Lib.hid s'; clear s' q7))
        all_goals
          have hqw : Q wr w7 := by repeat (first | with_reducible exact KK.out | with_reducible apply Qs.dr | with_reducible apply Qs.al)
          have HQW := Lib.hid hqw
          have c2' := cellQ hqw c2
          clear KK hqw c2 c0 c1 c3 c4 c5
          have KK := Lib.hid (Q.refl w7)
          have hw1 : IntKind.i64.wrap ((x1 : Int) - (x2 : Int)) = 2048 * (k : Int) - (n : Int) := by rw [IntWalk.i64_in _ (by omega)]; exact O9.out
          have hw2 : IntKind.i64.wrap (2048 * (k : Int) - (n : Int)) = 2048 * (k : Int) - (n : Int) := IntWalk.i64_in _ (by omega)
          go_wp2_with fail
          rw [hw1]
          clear hw1
          go_region_held3 (fun w' => w'.cell? ⟨w2.heap.size + 1, 2, none⟩ = some (strV (mapD j.d)))
            (first | exact c2' | exact cellQ (by repeat (first | with_reducible exact KK.out | with_reducible exact Q.refl _ | with_reducible apply Qs.dr | with_reducible apply Qs.al)) c2')
            (first
              | (go_at_call 50; with_reducible refine (HTI.out _).mono ?_; rintro e w8 ⟨rfl, q8⟩; have s' : Q w7 w8 := Q.trans (by repeat (first | with_reducible exact KK.out | with_reducible apply Qs.dr | with_reducible apply Qs.al)) q8; clear KK; have KK := Lib.hid s'; clear s' q8)
              | (go_at_call 46; with_reducible refine (HFI.out _).mono ?_; rintro e w9 ⟨rfl, rfl⟩)
              | (go_at_call 49; with_reducible refine (HFR3.out _).mono ?_; rintro e w10 ⟨rfl, q10⟩; have s' : Q w7 w10 := Q.trans (by repeat (first | with_reducible exact KK.out | with_reducible apply Qs.dr | with_reducible apply Qs.al)) (Q.of q10); clear KK; have KK := Lib.hid s'; clear s' q10))
          all_goals
            have hq10 : Q w7 w10 := by repeat (first | with_reducible exact KK.out | with_reducible apply Qs.dr | with_reducible apply Qs.al)
            have ht10 : Turn (fun x => x = w2.heap.size + 1) w3 w10 := HT.out.trans (Turn.of_q (HQW.out.trans hq10))
            have hqe := HQW.out.trans hq10
            have hz1 := T1.out.size
            have hz2 := Q2.out.size
            have hst : StAt w10 (grow F w w10) (w2.heap.size + 1) b ⟨j, mapD j.d, [], false, []⟩ 0 := by
              refine ⟨grow F w w1, fun x => w1.heap.size ≤ x ∧ x < w2.heap.size, p, cb, w2.heap.size, most, 0, 0, w1.heap.size, [], [], ⟨HB.out.stays hqe, HM3.out.same (ht10.block _ (by rw [hz3]; omega) (by omega)), HJW.out w10 ht10, (HCA.out.keep Q23.out).beside ht10 (fun x hx e => by omega), fun x hx hc => ?_, ⟨fun hx => by have := HJ1.out.lt _ hx; omega, fun hx => by omega⟩, ⟨fun hx => by have := HJ1.out.lt _ hx; omega, fun hx => by omega⟩, fun _ => CacOk.empty _ _ _ HM.out, fun x => Iff.rfl, fun x hx => by simp at hx⟩, fun x hx => ?_, fun x hx => ?_, Nat.le_refl _⟩
              · have := HJ1.out.lt x hx; omega
              · have hz := ht10.size
                rcases hx with hx | hx | hx | hx
                · exact hx.elim .inl (fun hx => .inr ⟨hx.1, by omega⟩)
                · exact .inr ⟨by omega, by omega⟩
                · exact .inr ⟨by omega, by omega⟩
                · exact .inr ⟨by omega, by omega⟩
              · have hz := ht10.size
                exact hx.elim (fun hx => by have := HF.out x hx; omega) (fun hx => hx.2)
            have htt : Turn F w w10 := (T1.out.q (Q2.out.trans Q23.out)).step (ht10.mono (fun x hx => .inr ⟨by omega, by omega⟩))
            have HST := Lib.hid hst; have HTT := Lib.hid htt
            clear hst htt ht10 hq10 hqe KK
            go_wp2_with fail
            go_ret2
            exact ⟨_, rfl, HST.out, HTT.out⟩
  · exact absurd rfl h0
theorem makeL_parts (n : Nat) (hm : n ≤ 4096) : makeL (2048 * (partsN n : Int)) = if 1 ≤ partsN n then zerosL (256 * partsN n) else [] := by
  have hp : partsN n ≤ 2 := by unfold partsN; omega
  unfold makeL zerosL
  by_cases h : 1 ≤ partsN n
  · rw [if_pos (by omega), if_pos h]
    congr 1
    omega
  · rw [if_neg (by omega), if_neg h]
theorem own_lit (w : World) (e : TypeId) (size : Nat) (cs : Array Value) (h : cs.size = size) (hs : size ≤ 1000) : (w.alloc (.cells cs e)).ownsRow w.heap.size e size (.slice (some ⟨w.heap.size, 0, none⟩) 1 1) 1 cs.toList :=
  ⟨by simp [h], .inr ⟨w.heap.size, 1, cs, rfl, Nat.le_refl _, heap_alloc_new _ _, by simp [h], by unfold maxLen; omega, by simpa using h, by simpa using List.take_of_length_le (l := cs.toList) (i := size) (by simp [h])⟩⟩
def formatK (n k : Nat) : List WrL := (62, titleL n) :: (List.range k).map fun i => (63 + i, partL (bits0 n) i)
theorem formatK_succ (n k : Nat) : formatK n (k + 1) = formatK n k ++ [(63 + k, partL (bits0 n) k)] := by
  unfold formatK; rw [List.range_succ, List.map_append, List.cons_append]; rfl
theorem formatK_len (n k : Nat) : (formatK n k).length = k + 1 := by simp [formatK]
theorem SFormat_new (w : World) (F : Nat → Prop) (b n : Nat) (h : DevAt w F b (DevL.new n)) (hF : ∀ k, F k → k < w.heap.size) (h1 : 128 ≤ n) (h2 : n ≤ 4096) :
    Calls Tryz.prog 83 #[ptrV b] w fun e w' => e = .returned (.int .i64 0) ∧ DevAt w' (grow F w w') b (formatS (DevL.new n)).1 ∧ Turn F w w' := by
  obtain ⟨a, hlj, hp1, hok1, o1, o2, hol, hof⟩ := format_mid n h1 h2
  have hl : (DevL.new n).l.length = n := List.length_replicate
  have hok := DevL.new_ok n (by omega) h2
  have hcode := (format_run n h1 h2).1
  have hfs : formatS (DevL.new n) = (((openJ (formatJ (DevL.new n) 60).1).1.commit (formatT n)).1.d, ((openJ (formatJ (DevL.new n) 60).1).1.commit (formatT n)).2) := by
    unfold formatS
    rw [if_neg (by rw [hl]; omega), if_neg (by rw [a]; simp), if_neg (by rw [o1]; simp), hl]
  rw [hfs] at hcode
  rw [hfs]
  have hbl := Blocks_any w F b (DevL.new n) h
  rw [hl] at hbl
  have hjf := JFormat_any w F b (DevL.new n) 60 h hF hok (fun _ => by simp [DevL.new]) (by decide) (by rw [hl]; omega)
  rw [a] at hjf
  generalize formatJ (DevL.new n) 60 = fj at *
  obtain ⟨d1, c1⟩ := fj
  simp only at hlj hp1 hok1 o1 o2 hol hof hjf hcode ⊢
  have hjo := fun (W : World) (G : Nat → Prop) (hW : DevAt W G b d1) (hG : ∀ k, G k → k < W.heap.size) => JOpen_any W G b d1 hW hG hok1 (by omega) (fun _ => by rw [hp1]; simp)
  unfold OpenEnd at hjo
  have jn := o2.num (by decide) (by decide)
  have ju : (openJ d1).1.used ≤ (openJ d1).1.s.log := by have := o2.hrec.hchain.used; rw [o2.hused]; omega
  have jh : (openJ d1).1.home = 62 := by unfold JL.home; rw [o2.hlog]
  generalize openJ d1 = oj at *
  obtain ⟨j, c2⟩ := oj
  simp only at o1 o2 hol hof jn ju jh hjo hcode ⊢
  subst o1
  obtain ⟨t1, t2, t3, t4⟩ := formatT_map n h1 h2 (fun _ => noughtsL)
  have hpar : partsN n ≤ 2 ∧ 1 ≤ partsN n ∧ 63 + partsN n < n := by unfold partsN; omega
  have hmk := fun (W : World) => make_any (2048 * (partsN n : Int)) W
  rw [makeL_parts n h2, if_pos hpar.2.1] at hmk
  have hfi := fun (W : World) => First_n n W (by omega)
  have hfd : firstD n = 63 + partsN n := rfl
  have hset := fun (W : World) => set_ok (zerosL (256 * partsN n)) 0 (firstD n) true W (by simp [zerosL]; omega) (by simp [zerosL]; omega)
  have hb0 : setTo (zerosL (256 * partsN n)) 0 true (firstD n) = bits0 n := rfl
  rw [hb0] at hset
  have hbl2 : (bits0 n).length = 256 * partsN n := (bits0_good n h1 h2).len
  have hpa := fun (W : World) => Parts_any n W (by omega)
  have hti := fun (W : World) => Title_any n W (by omega)
  have hprt := fun (W : World) (i : Nat) (hi : i < partsN n) => Part_any (bits0 n) i W (by rw [hbl2]; omega) (by omega)
  have hft : formatT n = formatK n (partsN n) := rfl
  have hjc := fun (W : World) (G : Nat → Prop) (p : Nat) (lv : Value) (hj : JrnAt W G p b j) (hl : SlO W G lv (formatT n).length 2 (wrVs (formatT n))) => JCommit_any W G p b j lv (formatT n) hj jn ⟨by simp [formatT], by omega, fun w hw => by have := t3 w hw; exact ⟨by omega, this.2.2⟩⟩ (fun w hw => by have := t3 w hw; rw [jh, hol]; exact ⟨this.1, this.2.1⟩) ⟨hl, fun w hw => by have := t3 w hw; exact ⟨by omega, by omega⟩⟩ ju
  generalize hcmE : j.commit (formatT n) = cm at *
  obtain ⟨j2, c3⟩ := cm
  simp only at hcode hjc ⊢
  subst hcode
  rw [hft] at hjc
  obtain ⟨i1, hi1, hy0, hy1, hy2⟩ := info_parts tinfoWr
  have HBL := Lib.hid hbl; have HJF := Lib.hid hjf; have HJO := Lib.hid hjo; have HMK := Lib.hid hmk; have HFI := Lib.hid hfi; have HSET := Lib.hid hset; have HPA := Lib.hid hpa; have HTI := Lib.hid hti; have HPR := Lib.hid hprt; have HJC := Lib.hid hjc; have HF := Lib.hid hF
  have hpn2 := hpar.1
  have hnb : ¬ (n : Int) < 128 := by omega
  clear hbl hjf hjo hmk hfi hset hpa hti hprt hjc hF h hft hcmE t1 t2 t3 t4 hpar jn ju jh o2 hof hol hok1 hp1 hlj hfs hok hl hfd hb0 hbl2 a
  go_enter Tryz.func83, Tryz.ntmps83
  go_wp2_with fail
  refine HBL.out.mono ?_
  rintro e w1 ⟨rfl, rfl⟩
  go_wp2_with fail
  refine HJF.out.mono ?_
  rintro e w1 ⟨rfl, hd1, t1⟩
  have hjo := HJO.out w1 _ hd1 (fun k hk => hk.elim (fun hk => Nat.lt_of_lt_of_le (HF.out k hk) t1.size) (fun hk => hk.2))
  have HO := Lib.hid hjo; have T1 := Lib.hid t1
  clear hjo hd1 t1
  go_wp2_with fail
  refine HO.out.mono ?_
  rintro e w2 ⟨t2, ⟨_, p, rfl, hj2⟩ | ⟨h0, _⟩⟩
  · have T2 := Lib.hid t2; have HJ2 := Lib.hid hj2
    clear t2 hj2
    go_wp2_with fail
    refine (HPA.out _).mono ?_
    rintro e w3 ⟨rfl, rfl⟩
    go_wp2_with fail
    refine (HMK.out _).mono ?_
    rintro e w3 ⟨rfl, q3⟩
    have Q3 := Lib.hid (show Q w2 w3 from q3)
    clear q3
    go_wp2_with fail
    refine (HFI.out _).mono ?_
    rintro e w4 ⟨rfl, rfl⟩
    go_wp2_with fail
    refine (HSET.out _).mono ?_
    rintro e w4 ⟨rfl, q4⟩
    have Q4 := Lib.hid (Q3.out.trans (Q.of q4))
    clear q4
    go_wp2_with fail
    refine (HTI.out _).mono ?_
    rintro e w5 ⟨rfl, q5⟩
    have Q5 := Lib.hid (Q4.out.trans q5)
    clear q5
    go_upto_region 12 with fail
    have hr0 := own_lit w5 88 2 #[.int .i64 62, strV (titleL n)] rfl (by decide)
    have q6 : Q w5 (w5.alloc (.cells #[.int .i64 62, strV (titleL n)] 88)) := Q.alloc _ _
    have HR0 := Lib.hid hr0; have Q6 := Lib.hid q6
    clear hr0 q6
    generalize w5.alloc (.cells #[.int .i64 62, strV (titleL n)] 88) = w6 at *
    go_wp2_with fail
    refine (HPA.out _).mono ?_
    rintro e w7 ⟨rfl, rfl⟩
    generalize partsN n = pn at *
    go_wp2_with fail
    go_loopw [9, 44] (fun v i wr => ∃ k : Nat, i = .int .i64 (k : Nat) ∧ k ≤ pn ∧ Hid (wr.ownsRow w5.heap.size 88 2 v (formatK n k).length (wrVs (formatK n k))) ∧ Hid (Q w5 wr)) (fun _ i _ => pn - (intOf i).toNat)
    case atStart => exact ⟨0, rfl, Nat.zero_le _, HR0, Q6⟩
    case round =>
      obtain ⟨k, rfl, hk, HOW, HQ⟩ := hrel
      by_cases hlt : k < pn
      · have hki : (k : Int) < (pn : Int) := by omega
        have hst := formatK_succ n k
        have hfl := formatK_len n k
        have HST := Lib.hid hst
        clear hst
        generalize formatK n k = acc at *
        have hc1 : ∀ u ∈ #[Value.int .i64 (63 + (k : Int)), strV (partL (bits0 n) k)].toList, u.oneCell' = true := by intro u hu; simp at hu; rcases hu with rfl | rfl <;> rfl
        have hc2 : (acc.length + 1) * 24 ≤ 140737488355328 := by omega
        have HC3 := Lib.hid hc1; have HC4 := Lib.hid hc2
        have hb0 : w5.heap.size ≤ wr.heap.size := HQ.out.size
        clear hc1 hc2 hfl
        go_wp2_with fail
        refine (HPR.out _ k hlt).mono ?_
        rintro e w8 ⟨rfl, rfl⟩
        go_wp2_with (at_builtin; refine wpList_app wr (by rfl) _ _ 72 (by rfl) w5.heap.size 88 _ i1 (.agg #[.int .i64 0, strV []]) 2 24 Tryz.underlying72 hi1 hy0 hy1 hy2 rfl (by decide) (by decide) _ _ _ (by rfl) HOW.out #[.int .i64 (63 + (k : Int)), strV (partL (bits0 n) k)] (by rfl) rfl HC3.out HC4.out hb0 ?_)
        intro g11 cap11 w11 hr11 hg11 ho11 hlt11 hlt11b
        have hq21 : Q w5 w11 := grown_below HQ.out HOW.out hg11 (Nat.le_refl _) hb0
        have hr11' : w11.ownsRow w5.heap.size 88 2 (.slice (some ⟨g11, 0, none⟩) (acc.length + 1) cap11) (formatK n (k + 1)).length (wrVs (formatK n (k + 1))) := by
          rw [HST.out, List.length_append, wrVs_append, show wrVs [(63 + k, partL (bits0 n) k)] = [.int .i64 (63 + (k : Int)), strV (partL (bits0 n) k)] by simp [wrVs, encW]]; exact hr11
        have HQ11 := Lib.hid hq21; have HR11 := Lib.hid hr11'
        clear hr11 hg11 ho11 hlt11 hlt11b hr11' hq21
        go_wp2_with fail
        go_roundw
        case rel => exact ⟨k + 1, by go_num, by omega, HR11, HQ11⟩
        case measure => simp [intOf]; omega
      · have hki : ¬ (k : Int) < (pn : Int) := by omega
        obtain rfl : k = pn := by omega
        have hq : Q w2 wr := Q5.out.trans HQ.out
        have hjc := HJC.out wr _ p _ (HJ2.out.keep hq) (SlO.owned HOW.out (fun g hg e => by have := HJ2.out.lt g e; have := Q5.out.size; omega))
        have HJ := Lib.hid hjc; have HQW := Lib.hid hq
        clear hjc hq
        go_wp2_with fail
        refine HJ.out.mono ?_
        rintro e w9 ⟨rfl, h9, t9⟩
        have hz1 := T1.out.size; have hz2 := T2.out.size; have hzq := HQW.out.size
        have hz9 := t9.size
        have tt : Turn F w w9 := (T1.out.step T2.out).step (((Turn.of_q HQW.out).trans (t9.mono (own' := grow (grow F w w1) w1 w2) (fun k hk => hk))).mono (fun k hk => grow_trans hz1 hz2 hk))
        have hd9 : DevAt w9 (grow F w w9) b j2.d := h9.dev.mono (fun k hk => by
          rcases hk with (hk | hk) | hk
          · exact hk.elim .inl (fun hk => .inr ⟨hk.1, by omega⟩)
          · exact .inr ⟨by omega, by omega⟩
          · exact .inr ⟨by omega, hk.2⟩)
        have HT := Lib.hid tt; have HD := Lib.hid hd9
        clear tt hd9 h9 t9
        go_wp2_with fail
        go_ret
        exact ⟨rfl, HD.out, HT.out⟩
  · exact absurd rfl h0
end
section
open Go.RowKit
theorem comPre {K : Nat} {σ : StL} {fr : List (List WrL)} {C : Nat → Bytes} (h : StInv K σ fr C) (hK : K + 4 < 18446744073709551616) (ht : σ.tx ≠ []) : ComPre σ := by
  have hw : WrOk σ.tx := ⟨by have := List.length_pos_iff.2 ht; omega, h.short, fun w hw => by have := h.txok w hw; exact ⟨by have := h.max; omega, this.2.2⟩⟩
  have hh : ∀ w ∈ σ.tx, 2 + 60 ≤ w.1 ∧ w.1 < σ.j.d.l.length := fun w hw => by have := h.txok w hw; exact ⟨by omega, this.2.1⟩
  have hn : (σ.j.commit σ.tx).1.d.l.length = σ.n := JL.commit_len _ _
  rcases commit_run h.inv σ.tx hw hh hK with ⟨a, fr', b⟩ | ⟨a, b, _⟩
  · refine ⟨fun _ i hi => ?_, fun e => absurd a e⟩
    rw [b.get i (by omega) (by rw [hn]; exact hi.2), h.inv.get i (by omega) hi.2]; rfl
  · exact ⟨fun e => by rw [a] at e; exact absurd e (by decide), fun _ => b⟩
theorem commit_pre {K : Nat} {σ : StL} {fr : List (List WrL)} {C : Nat → Bytes} (h : StInv K σ fr C) (hK : K + 4 < 18446744073709551616) : σ.state true = 0 → σ.tx ≠ [] → ComPre σ := fun _ ht => comPre h hK ht
theorem open_good {K : Nat} {d : DevL} {s : SlotL} {k : Nat} {fr : List (List WrL)} {C : Nat → Bytes} (h : OpenPre 60 K d s k fr C) (hg : GoodC d.l.length C) (hn : 128 ≤ d.l.length) (hK : K + 3 < 18446744073709551616) (he : (openJ d).2 = 0) :
    OpenOk d ∧ StInv (K + 1) ⟨(openJ d).1, mapD (openJ d).1.d, [], false, []⟩ [] C ∧ (⟨(openJ d).1, mapD (openJ d).1.d, [], false, []⟩ : StL).n = d.l.length := by
  have hlen := openJ_len d
  have hm := h.ok.max
  rcases open_run h hK with ⟨a, b, c, e⟩ | ⟨a, _⟩
  · have hf := firstD_lt d.l.length hn hm
    have hp := partsN_pos d.l.length (by omega)
    have hmap : mapD (openJ d).1.d = mapC d.l.length C := by
      unfold mapD mapC
      rw [hlen]
      congr 1
      exact List.map_congr_left (fun i hi => b.get _ (by omega) (by rw [hlen]; have := List.mem_range.1 hi; unfold firstD at hf; omega))
    have hnn : (⟨(openJ d).1, mapD (openJ d).1.d, [], false, []⟩ : StL).n = d.l.length := hlen
    refine ⟨⟨a, b.num (by decide) (by omega), b.live, by unfold JL.home; rw [b.hlog], hn, b.ok, ?_, ?_, ?_⟩, ?_, hnn⟩
    · rw [b.get 62 (by omega) (by rw [hlen]; omega), hg.title]
    · rw [hmap, cnt_zero _ _ hg.map.low]
    · rw [hmap]
      have := cnt_high (mapC d.l.length C) d.l.length (2048 * partsN d.l.length - d.l.length) hg.map.high
      rw [show d.l.length + (2048 * partsN d.l.length - d.l.length) = 2048 * partsN d.l.length by omega] at this
      omega
    · exact ⟨b, by rw [hnn]; exact hn, by rw [hnn]; exact hg, by rw [hnn]; show GoodMap _ (mapD _); rw [hmap]; exact hg.map, by rw [hnn]; exact hmap, List.Pairwise.nil, fun w hw => by simp at hw, by simp, fun hc => by simp at hc, fun _ => rfl⟩
  · rw [a] at he; exact absurd he (by decide)
theorem open_code {K : Nat} {d : DevL} {s : SlotL} {k : Nat} {fr : List (List WrL)} {C : Nat → Bytes} (h : OpenPre 60 K d s k fr C) (hK : K + 3 < 18446744073709551616) :
    (openJ d).2 = 0 ∨ ((openJ d).2 = 4 ∧ (openJ d).1.d.dead = true ∧ (openJ d).1.d.Ok ∧ Safe 60 (K + 1) (openJ d).1.d (· = C) ∧ d.fuse ≠ -1) := by
  rcases open_run h hK with ⟨a, _⟩ | ⟨a, b⟩
  · exact .inl a
  · exact .inr ⟨a, b⟩
def WAt (w0 w : World) (wb sb b : Nat) (σ : StL) (K : Nat) : Prop :=
  ∃ F : Nat → Prop, (∀ k, F k → w0.heap.size ≤ k) ∧ ¬ F wb ∧ StAt w F sb b σ K ∧ Blk w wb 35 #[ptrV b, ptrV sb] ∧ Q w0 w
theorem grow_low {F : Nat → Prop} {w0 w w' : World} (h : ∀ k, F k → w0.heap.size ≤ k) (q : w0.heap.size ≤ w.heap.size) : ∀ k, grow F w w' k → w0.heap.size ≤ k := fun k hk => hk.elim (h k) (fun hk => Nat.le_trans q hk.1)
theorem Turn.low {F : Nat → Prop} {w0 w w' : World} (t : Turn F w w') (h : ∀ k, F k → w0.heap.size ≤ k) (q : Q w0 w) : Q w0 w' := t.below q q.size h
theorem WAt.turn {w0 w : World} {wb sb b : Nat} {σ : StL} {K : Nat} (h : WAt w0 w wb sb b σ K) :
    ∃ F : Nat → Prop, (∀ k, F k → w0.heap.size ≤ k) ∧ StAt w F sb b σ K ∧ ∀ w' σ' K', (StAt w' (grow F w w') sb b σ' K' ∧ Turn F w w') → WAt w0 w' wb sb b σ' K' := by
  obtain ⟨F, hF, hwb, hs, hb, q⟩ := h
  refine ⟨F, hF, hs, fun w' σ' K' ⟨h1, t⟩ => ⟨grow F w w', grow_low hF q.size, fun hg => hg.elim hwb (fun hg => by have := hb.lt; omega), h1, t.blk hb hwb, t.low hF q⟩⟩
theorem WAt.keep {w0 w w' : World} {wb sb b : Nat} {σ : StL} {K : Nat} (h : WAt w0 w wb sb b σ K) (q : Q w w') : WAt w0 w' wb sb b σ K := by
  obtain ⟨F, hF, hwb, hs, hb, q0⟩ := h
  exact ⟨F, hF, hwb, hs.keep q, hb.stays q, q0.trans q⟩
theorem WAt.q {w0 w : World} {wb sb b : Nat} {σ : StL} {K : Nat} (h : WAt w0 w wb sb b σ K) : Q w0 w := by
  obtain ⟨F, hF, hwb, hs, hb, q0⟩ := h
  exact q0
theorem WAt.mono {w0 w : World} {wb sb b : Nat} {σ : StL} {K K' : Nat} (h : WAt w0 w wb sb b σ K) (hk : K ≤ K') : WAt w0 w wb sb b σ K' := by
  obtain ⟨F, hF, hwb, hs, hb, q0⟩ := h
  exact ⟨F, hF, hwb, hs.mono (fun _ h => h) hs.lt hk, hb, q0⟩
theorem WAt.cells {w0 w : World} {wb sb b : Nat} {σ : StL} {K : Nat} (h : WAt w0 w wb sb b σ K) : w.cell? ⟨wb, 0, none⟩ = some (ptrV b) ∧ w.cell? ⟨wb, 1, none⟩ = some (ptrV sb) := by
  obtain ⟨F, hF, hwb, hs, hb, q0⟩ := h
  exact ⟨hb.cell 0 _ rfl, hb.cell 1 _ rfl⟩
section
variable {w0 w : World} {wb sb b : Nat} {σ : StL} {K : Nat}
theorem WAt.write (h : WAt w0 w wb sb b σ K) (i : Int) (s : Bytes) (hn : StNum σ) (hK : K + 1 ≤ 1000000000000000000) (hs : s.length ≤ 1000000000000) :
    Calls Tryz.prog 26 #[ptrV sb, .int .i64 i, strV s] w fun e w' => e = .returned (.int .i64 (σ.write i s).2) ∧ WAt w0 w' wb sb b (σ.write i s).1 (K + 1) := by
  obtain ⟨F, _, hs', ht⟩ := h.turn
  exact (SWrite_any w F sb b σ K i s hs' hn hK hs).mono fun e w' ⟨h1, h2⟩ => ⟨h1, ht _ _ _ h2⟩
theorem WAt.alloc (h : WAt w0 w wb sb b σ K) (c : Int) (hn : StNum σ) (hK : K + 2 ≤ 1000000000000000000) :
    Calls Tryz.prog 23 #[ptrV sb, .int .i64 c] w fun e w' => e = .returned (.tuple #[.int .i64 (σ.alloc c).2.1, .int .i64 (σ.alloc c).2.2]) ∧ WAt w0 w' wb sb b (σ.alloc c).1 (K + 2) := by
  obtain ⟨F, _, hs', ht⟩ := h.turn
  exact (SAlloc_any w F sb b σ K c hs' hn hK).mono fun e w' ⟨h1, h2⟩ => ⟨h1, ht _ _ _ h2⟩
theorem WAt.release (h : WAt w0 w wb sb b σ K) (a c : Int) (hn : StNum σ) (hK : K + 2 ≤ 1000000000000000000) :
    Calls Tryz.prog 24 #[ptrV sb, .int .i64 a, .int .i64 c] w fun e w' => e = .returned (.int .i64 (σ.release a c).2) ∧ WAt w0 w' wb sb b (σ.release a c).1 (K + 2) := by
  obtain ⟨F, _, hs', ht⟩ := h.turn
  exact (SRelease_any w F sb b σ K a c hs' hn hK).mono fun e w' ⟨h1, h2⟩ => ⟨h1, ht _ _ _ h2⟩
theorem WAt.begin_ (h : WAt w0 w wb sb b σ K) :
    Calls Tryz.prog 22 #[ptrV sb] w fun e w' => e = .returned (.int .i64 σ.begin.2) ∧ WAt w0 w' wb sb b σ.begin.1 K := by
  obtain ⟨F, _, hs', ht⟩ := h.turn
  exact (SBegin_any w F sb b σ K hs').mono fun e w' ⟨h1, h2⟩ => ⟨h1, ht _ _ _ h2⟩
theorem WAt.abort (h : WAt w0 w wb sb b σ K) :
    Calls Tryz.prog 18 #[ptrV sb] w fun e w' => e = .returned (.tuple #[]) ∧ WAt w0 w' wb sb b σ.abort K := by
  obtain ⟨F, _, hs', ht⟩ := h.turn
  exact (SAbort_any w F sb b σ K hs').mono fun e w' ⟨h1, h2, h3⟩ => ⟨h1, ht _ _ _ ⟨h2.mono (fun k hk => .inl hk) (fun k hk => hk.elim (h2.lt k) (fun hk => hk.2)) (Nat.le_refl _), h3⟩⟩
theorem WAt.commit (h : WAt w0 w wb sb b σ K) (hn : StNum σ) (hp : σ.state true = 0 → σ.tx ≠ [] → ComPre σ) :
    Calls Tryz.prog 28 #[ptrV sb] w fun e w' => e = .returned (.int .i64 σ.commit.2) ∧ WAt w0 w' wb sb b σ.commit.1 K := by
  obtain ⟨F, _, hs', ht⟩ := h.turn
  exact (SCommit_any w F sb b σ K hs' hn hp).mono fun e w' ⟨h1, h2⟩ => ⟨h1, ht _ _ _ h2⟩
theorem WAt.read (h : WAt w0 w wb sb b σ K) (i : Int) (hn : StNum σ) (hK : K ≤ 1000000000000000000) :
    Calls Tryz.prog 25 #[ptrV sb, .int .i64 i] w fun e w' => e = .returned (.tuple #[strV (σ.read i).1, .int .i64 (σ.read i).2]) ∧ WAt w0 w' wb sb b σ (K + 1) := by
  obtain ⟨F, _, hs', ht⟩ := h.turn
  exact (SRead_any w F sb b σ K i hs' hn hK).mono fun e w' ⟨h1, h2⟩ => ⟨h1, ht _ _ _ h2⟩
theorem WAt.free (h : WAt w0 w wb sb b σ K) (hn : StNum σ) :
    Calls Tryz.prog 20 #[ptrV sb] w fun e w' => e = .returned (.int .i64 (σ.free : Nat)) ∧ WAt w0 w' wb sb b σ K := by
  have h0 := h
  obtain ⟨F, _, _, ⟨FJ, FC, p, cb, tb, most, clock, ms, mb, m, ti, hg, _⟩, _⟩ := h
  exact (SFree_any hg hn).mono fun e w' ⟨h1, h2⟩ => ⟨h1, h0.keep h2⟩
theorem WAt.first (h : WAt w0 w wb sb b σ K) (hn : StNum σ) :
    Calls Tryz.prog 21 #[ptrV sb] w fun e w' => e = .returned (.int .i64 (firstD σ.n : Nat)) ∧ w = w' := by
  obtain ⟨F, _, _, ⟨FJ, FC, p, cb, tb, most, clock, ms, mb, m, ti, hg, _⟩, _⟩ := h
  exact SFirst_any hg hn.max
theorem WAt.used (h : WAt w0 w wb sb b σ K) (hn : StNum σ) :
    Calls Tryz.prog 19 #[ptrV sb] w fun e w' => ∃ v, e = .returned v ∧ w'.ownsRow w.heap.size 49 2 v (usedR σ.map1 (firstD σ.n) σ.n).length (ext (usedR σ.map1 (firstD σ.n) σ.n)) ∧ Q w w' ∧ WAt w0 w' wb sb b σ K := by
  have h0 := h
  obtain ⟨F, _, _, hs, _⟩ := h
  exact (SUsed_any w F sb b σ K hs hn).mono fun e w' ⟨v, h1, h2, h3⟩ => ⟨v, h1, h2, h3, h0.keep h3⟩
end
theorem JrnAt.fuse {w : World} {F : Nat → Prop} {p b : Nat} {j : JL} (h : JrnAt w F p b j) (f : Int) : JrnAt (w.setCell ⟨b, 2, none⟩ (.int .i64 f)) F p b { j with d := { j.d with fuse := f } } ∧ Turn (fun k => k = b) w (w.setCell ⟨b, 2, none⟩ (.int .i64 f)) := by
  obtain ⟨g, cap, pv, hd⟩ := h.dev
  have t : Turn (fun k => k = b) w (w.setCell ⟨b, 2, none⟩ (.int .i64 f)) := Turn.setCell (a := ⟨b, 2, none⟩) (Turn.refl (fun k => k = b) w) (.inl rfl) _
  refine ⟨⟨t.blk h.box (blk_ne h.box hd.box (by decide)), h.fp, ⟨g, cap, pv, (hd.fuse f).1⟩, fun k hk => Nat.lt_of_lt_of_le (h.lt k hk) t.size⟩, t⟩
theorem StAt.fuse {w : World} {F : Nat → Prop} {sb b : Nat} {σ : StL} {K : Nat} (h : StAt w F sb b σ K) (f : Int) : StAt (w.setCell ⟨b, 2, none⟩ (.int .i64 f)) F sb b { σ with j := { σ.j with d := { σ.j.d with fuse := f } } } K ∧ Turn (fun k => k = b) w (w.setCell ⟨b, 2, none⟩ (.int .i64 f)) ∧ F b := by
  obtain ⟨FJ, FC, p, cb, tb, most, clock, ms, mb, m, ti, hg, hF, hlt, hcl⟩ := h
  obtain ⟨hj, t⟩ := hg.jr.fuse f
  have hb : FJ b := by obtain ⟨g, cap, pv, hd⟩ := hg.jr.dev; exact hd.fb
  refine ⟨⟨FJ, FC, p, cb, tb, most, clock, ms, mb, m, ti, ⟨t.blk hg.box (fun e => hg.sF.1 (by rw [e]; exact hb)), hg.tm.same (t.block _ hg.tm.lt (fun e => hg.tF.1 (by rw [e]; exact hb))), hj, hg.ca.beside t (fun k hk e => hg.apart b hb (by rw [← e]; exact hk)), hg.apart, hg.sF, hg.tF, hg.ok, hg.keys, hg.ints⟩, hF, fun k hk => Nat.lt_of_lt_of_le (hlt k hk) t.size, hcl⟩, t, hF b (.inl hb)⟩
theorem Fuse_set (w : World) (F : Nat → Prop) (b : Nat) (d : DevL) (n : Int) (h : DevAt w F b d) :
    Calls Tryz.prog 12 #[ptrV b, .int .i64 n] w fun e w' => e = .returned (.tuple #[]) ∧ w' = w.setCell ⟨b, 2, none⟩ (.int .i64 (max n (-1))) := by
  obtain ⟨g, cap, pv, h⟩ := h
  obtain ⟨c0, c1, c2, c3, f0, f1, f2, f3⟩ := h.box.c4
  clear h
  rcases Int.lt_or_le n (-1) with hm | hm
  · have hm2 : max n (-1) = -1 := by omega
    rw [hm2]
    go_enter Tryz.func12, Tryz.ntmps12
    go_wp2
    go_end0
    exact ⟨rfl, by first | rfl | rw [hm2]⟩
  · have hm2 : max n (-1) = n := by omega
    rw [hm2]
    go_enter Tryz.func12, Tryz.ntmps12
    go_wp2
    go_end0
    exact ⟨rfl, by first | rfl | rw [hm2]⟩
theorem StAt.dev {w : World} {F : Nat → Prop} {sb b : Nat} {σ : StL} {K : Nat} (h : StAt w F sb b σ K) : ∃ G : Nat → Prop, DevAt w G b σ.j.d ∧ (∀ k, G k → F k) := by
  obtain ⟨FJ, FC, p, cb, tb, most, clock, ms, mb, m, ti, hg, hF, hlt, hcl⟩ := h
  exact ⟨FJ, hg.jr.dev, fun k hk => hF k (.inl hk)⟩
theorem WAt.fuse {w0 w : World} {wb sb b : Nat} {σ : StL} {K : Nat} (h : WAt w0 w wb sb b σ K) (n : Int) :
    Calls Tryz.prog 12 #[ptrV b, .int .i64 n] w fun e w' => e = .returned (.tuple #[]) ∧ WAt w0 w' wb sb b (σ.fuse n) K := by
  obtain ⟨F, hF, hwb, hs, hb, q0⟩ := h
  obtain ⟨G, hG, _⟩ := hs.dev
  refine (Fuse_set w G b _ n hG).mono ?_
  rintro e w' ⟨rfl, rfl⟩
  obtain ⟨h1, t, hfb⟩ := hs.fuse (max n (-1))
  have t' : Turn F w (w.setCell ⟨b, 2, none⟩ (.int .i64 (max n (-1)))) := t.mono (fun k e => by rw [e]; exact hfb)
  exact ⟨rfl, F, hF, hwb, h1, t'.blk hb hwb, t'.low hF q0⟩
theorem WAt.dead {w0 w : World} {wb sb b : Nat} {σ : StL} {K : Nat} (h : WAt w0 w wb sb b σ K) :
    Calls Tryz.prog 32 #[ptrV b] w fun e w' => e = .returned (.bool σ.dead) ∧ w = w' := by
  obtain ⟨F, hF, hwb, hs, hb, q0⟩ := h
  obtain ⟨G, hG, _⟩ := hs.dev
  exact Dead_any w G b _ hG
end
end Go.Proofs.YtnmijegmbomfdaaGreatDoor
