/- Joined texts of one proof: WSrR, WSrc, W18a, Shown18. -/
import Derived.Test.YtcflpcpkmhljkaaGreatDoorMWWk3ToWWk4
import Derived.Test.YtcflpcpkmhljkaaGreatDoorMWLiveQToWSort
import Derived.Deep.RegionHeld3
import Derived.Test.YtcflpcpkmhljkaaGreatDoorMQry3ToMarks
import Derived.Test.YtcflpcpkmhljkaaGreatDoorMWLastToWSc
import Derived.Laws.StructEq
import Derived.Test.YtcflpcpkmhljkaaGreatDoorMLive2ToWScW
set_option linter.unusedSimpArgs false
set_option linter.unusedVariables false
set_option linter.unnecessarySimpa false
/- (WSrR) score.Search: the region that lays the searcher. -/
section
namespace Go.Proofs.YtcflpcpkmhljkaaGreatDoor
open Go.RowKit
set_option linter.unusedVariables false

theorem Qt.dr {A B : World} (h : Q A B) : Q A B.drew := h.trans (Q.drew _)
theorem Qt.al {A B : World} (h : Q A B) (o : Obj) : Q A (B.alloc o) := h.trans (Q.alloc _ _)
theorem cellQ {A B : World} (h : Q A B) {a : Addr} {u : Value} (hc : A.cell? a = some u) : B.cell? a = some u := cell_stays h hc
theorem mapQ {x W : World} {mb : Nat} (h : MapS (x.alloc (.map #[] 0)) mb []) (q : Q (x.alloc (.map #[] 0)) W) : MapS W mb [] := h.stays q
noncomputable def searchRow : Code := ((Tryz.f20.body.bind (findRegion 1)).getD .skip)
theorem SrS.fresh {w₀ W : World} {pv : Value} {n : Nat} (wt : Bytes → Nat) {sb mb : Nat} (h : Q w₀ W) (hb : Blk W sb 86 #[pv, .int .i64 (n : Nat), .map (some mb)]) (hm : MapS W mb []) (h1 : w₀.heap.size ≤ sb) (h2 : w₀.heap.size ≤ mb) : SrS w₀ pv n wt sb mb W :=
  ⟨h, hb, ⟨[], hm, fun t v h => by cases h⟩, h1, h2⟩
set_option maxRecDepth 100000 in
set_option maxHeartbeats 16000000 in
theorem search_row (w₀ wb : World) (pa : Option Addr) (np pc : Nat) (n B : Nat) (wt : Bytes → Nat) (hq : Q w₀ wb) (cm : ∀ W, Q w₀ W → Calls Tryz.prog 27 #[liveV (.slice pa np pc)] W fun e w' => e = .returned (.int .i64 (n : Nat)) ∧ Q W w') (k0 : wb.cell? ⟨B, 0, none⟩ = some (.slice pa np pc))
    (Qx : Exit → Act → World → Prop) (x0 x1 x3 x4 x5 x6 x7 x8 x9 x10 x11 x12 x13 x14 x15 x16 x17 x18 x19 x20 x21 x22 x23 x24 x25 x26 x27 x28 x29 x30 x31 x32 x33 x34 x35 x36 x37 x38 x39 x40 x41 x42 x43 x44 x45 x46 x47 x48 x49 x50 x51 x52 x53 x54 x55 x56 x57 x58 x59 x60 x61 x62 x63 x64 x65 x66 x67 x68 : Value)
    (hQ : ∀ (W : World) (sb mb : Nat) (z15 z16 z17 z18 z19 z20 : Value), SrS w₀ (.slice pa np pc) n wt sb mb W → Q wb W → Qx .normal ⟨#[x0, x1, .pointer (some ⟨B, 0, none⟩), x3, x4, .pointer (some ⟨sb, 0, none⟩), x6, x7, x8, x9, x10, x11, x12, x13, x14, z15, z16, z17, z18, z19, z20, x21, x22, x23, x24, x25, x26, x27, x28, x29, x30, x31, x32, x33, x34, x35, x36, x37, x38, x39, x40, x41, x42, x43, x44, x45, x46, x47, x48, x49, x50, x51, x52, x53, x54, x55, x56, x57, x58, x59, x60, x61, x62, x63, x64, x65, x66, x67, x68], []⟩ W) :
    searchRow.wp Tryz.prog Qx ⟨#[x0, x1, .pointer (some ⟨B, 0, none⟩), x3, x4, x5, x6, x7, x8, x9, x10, x11, x12, x13, x14, x15, x16, x17, x18, x19, x20, x21, x22, x23, x24, x25, x26, x27, x28, x29, x30, x31, x32, x33, x34, x35, x36, x37, x38, x39, x40, x41, x42, x43, x44, x45, x46, x47, x48, x49, x50, x51, x52, x53, x54, x55, x56, x57, x58, x59, x60, x61, x62, x63, x64, x65, x66, x67, x68], []⟩ wb := by
  conv => arg 2; whnf
  have hmx : Tryz.prog.follows .mixedOrders = true := by kernel_rfl
  have hmm := @run_makeMap Tryz.prog
  have CM := Lib.hid cm; have HQX := Lib.hid hQ; have KK := Lib.hid (Q.refl wb); have HQ := Lib.hid hq
  clear cm hQ hq
  go_region_held3 (fun w' => w'.cell? ⟨B, 0, none⟩ = some (.slice pa np pc))
    (first | exact k0 | exact cellQ (by repeat (first | with_reducible exact KK.out | with_reducible apply Qt.al | with_reducible apply Qt.dr)) k0)
    (first
      | (go_at_call 27; ((with_reducible refine (CM.out _ (HQ.out.trans (by repeat (first | with_reducible exact KK.out | with_reducible apply Qt.al | with_reducible apply Qt.dr)))).mono ?_); rintro e w1 ⟨rfl, q1⟩); have s' : Q wb w1 := Q.trans (by repeat (first | with_reducible exact KK.out | with_reducible apply Qt.al | with_reducible apply Qt.dr)) q1; have HQ1 := Lib.hid q1; clear KK; have KK := Lib.hid s'; clear s' q1))
  all_goals (have dz : ∀ w : World, w.drew.heap.size = w.heap.size := fun _ => rfl)
  all_goals (have y1 := KK.out.size)
  all_goals (have y0 := HQ.out.size)
  all_goals (first
    | exact HQX.out _ _ (w1.heap.size) _ _ _ _ _ _ (SrS.fresh wt (HQ.out.trans (by repeat (first | with_reducible exact KK.out | with_reducible apply Qt.al | with_reducible apply Qt.dr))) (by first | exact Blk.new _ _ _ | (have h := Blk.new (w1.alloc (.map #[] 0)) 86 #[.slice pa np pc, .int .i64 (n : Nat), .map (some w1.heap.size)]; rw [World.size_alloc] at h; exact h) | (have h := Blk.new (w1.drew.alloc (.map #[] 0)) 86 #[.slice pa np pc, .int .i64 (n : Nat), .map (some w1.heap.size)]; rw [World.size_alloc] at h; exact h)) (mapQ (show MapS ((w1).alloc (.map #[] 0)) (w1.heap.size) [] from MapS.made (w1)) (by repeat (first | with_reducible exact Q.refl _ | with_reducible exact HQ1.out | with_reducible exact (Q.drew _).trans HQ1.out | with_reducible apply Qt.al | with_reducible apply Qt.dr))) (by first | omega | (simp only [World.size_alloc, dz]; omega)) (by first | omega | (simp only [World.size_alloc, dz]; omega))) (by repeat (first | with_reducible exact KK.out | with_reducible apply Qt.al | with_reducible apply Qt.dr))
    | exact HQX.out _ _ (w1.heap.size) _ _ _ _ _ _ (SrS.fresh wt (HQ.out.trans (by repeat (first | with_reducible exact KK.out | with_reducible apply Qt.al | with_reducible apply Qt.dr))) (by first | exact Blk.new _ _ _ | (have h := Blk.new (w1.alloc (.map #[] 0)) 86 #[.slice pa np pc, .int .i64 (n : Nat), .map (some w1.heap.size)]; rw [World.size_alloc] at h; exact h) | (have h := Blk.new (w1.drew.alloc (.map #[] 0)) 86 #[.slice pa np pc, .int .i64 (n : Nat), .map (some w1.heap.size)]; rw [World.size_alloc] at h; exact h)) (mapQ (show MapS ((w1.drew).alloc (.map #[] 0)) (w1.heap.size) [] from MapS.made (w1.drew)) (by repeat (first | with_reducible exact Q.refl _ | with_reducible exact HQ1.out | with_reducible exact (Q.drew _).trans HQ1.out | with_reducible apply Qt.al | with_reducible apply Qt.dr))) (by first | omega | (simp only [World.size_alloc, dz]; omega)) (by first | omega | (simp only [World.size_alloc, dz]; omega))) (by repeat (first | with_reducible exact KK.out | with_reducible apply Qt.al | with_reducible apply Qt.dr))
    | exact HQX.out _ _ (wb.heap.size) _ _ _ _ _ _ (SrS.fresh wt (HQ.out.trans (by repeat (first | with_reducible exact KK.out | with_reducible apply Qt.al | with_reducible apply Qt.dr))) (by first | exact Blk.new _ _ _ | (have h := Blk.new (w1.alloc (.map #[] 0)) 86 #[.slice pa np pc, .int .i64 (n : Nat), .map (some w1.heap.size)]; rw [World.size_alloc] at h; exact h) | (have h := Blk.new (w1.drew.alloc (.map #[] 0)) 86 #[.slice pa np pc, .int .i64 (n : Nat), .map (some w1.heap.size)]; rw [World.size_alloc] at h; exact h)) (mapQ (show MapS ((wb).alloc (.map #[] 0)) (wb.heap.size) [] from MapS.made (wb)) (by repeat (first | with_reducible exact Q.refl _ | with_reducible exact HQ1.out | with_reducible exact (Q.drew _).trans HQ1.out | with_reducible apply Qt.al | with_reducible apply Qt.dr))) (by first | omega | (simp only [World.size_alloc, dz]; omega)) (by first | omega | (simp only [World.size_alloc, dz]; omega))) (by repeat (first | with_reducible exact KK.out | with_reducible apply Qt.al | with_reducible apply Qt.dr))
    | exact HQX.out _ _ (wb.heap.size) _ _ _ _ _ _ (SrS.fresh wt (HQ.out.trans (by repeat (first | with_reducible exact KK.out | with_reducible apply Qt.al | with_reducible apply Qt.dr))) (by first | exact Blk.new _ _ _ | (have h := Blk.new (w1.alloc (.map #[] 0)) 86 #[.slice pa np pc, .int .i64 (n : Nat), .map (some w1.heap.size)]; rw [World.size_alloc] at h; exact h) | (have h := Blk.new (w1.drew.alloc (.map #[] 0)) 86 #[.slice pa np pc, .int .i64 (n : Nat), .map (some w1.heap.size)]; rw [World.size_alloc] at h; exact h)) (mapQ (show MapS ((wb.drew).alloc (.map #[] 0)) (wb.heap.size) [] from MapS.made (wb.drew)) (by repeat (first | with_reducible exact Q.refl _ | with_reducible exact HQ1.out | with_reducible exact (Q.drew _).trans HQ1.out | with_reducible apply Qt.al | with_reducible apply Qt.dr))) (by first | omega | (simp only [World.size_alloc, dz]; omega)) (by first | omega | (simp only [World.size_alloc, dz]; omega))) (by repeat (first | with_reducible exact KK.out | with_reducible apply Qt.al | with_reducible apply Qt.dr)))
end Go.Proofs.YtcflpcpkmhljkaaGreatDoor
end

/- (WSrc) score.Search: walked. -/
section
namespace Go.Proofs.YtcflpcpkmhljkaaGreatDoor
open Go.RowKit
set_option linter.unusedVariables false

theorem tinfoHit : (Tryz.prog.info? 49).map (fun i => (i.zero, i.size, i.bytes)) = some (some (.agg #[strV [], .int .i64 0]), 2, 24) := by kernel_rfl
theorem docVs_cell {w : World} {base g n cap : Nat} {l : List DocL} (h : w.ownsRow base 63 2 (.slice (some ⟨g, 0, none⟩) n cap) n (docVs l)) (hn : n = l.length) (i : Nat) (hi : i < l.length) : w.cell? ⟨g, i * 2, none⟩ = some (strV l[i].1) :=
  owns_cell h (by omega) (i * 2) _ (docVs_at l i hi).1
set_option maxRecDepth 100000 in
set_option maxHeartbeats 16000000 in
theorem ScSearch_any (w₀ : World) (pv : Value) (ps : List PartL) (q : QL) (qv : Value) (hp : PartsAt w₀ pv ps) (hok : PartsOk ps) (hn : ps.length ≤ 1000) (hq : QryAt w₀ q qv) (hnd : nodesQ q = true) (hsz : sizeQ q ≤ 100) (hT : Tabs w₀) (hSp : Spans w₀) :
    Calls Tryz.prog 20 #[liveV pv, qv] w₀ fun e w' => ∃ v, e = .returned v ∧ Hits w' v (searchL (liveL ps) q) ∧ Q w₀ w' := by
  obtain ⟨i0, hi, hz0, hz1, hz2⟩ := info_parts tinfoHit
  obtain ⟨wt, hwt⟩ : ∃ wt, wt = wtL (liveL ps) := ⟨_, rfl⟩
  have H : SrH w₀ pv ps wt := ⟨hp, hok.1, hn, fun t => by rw [hwt], hT, hSp⟩
  have hqk := hq
  obtain ⟨qk, qs, a1, n1, p1, a2, n2, p2, a3, n3, p3, hform⟩ : ∃ k s a1 n1 p1 a2 n2 p2 a3 n3 p3, qv = .agg #[.int .i64 k, strV s, .slice a1 n1 p1, .slice a2 n2 p2, .slice a3 n3 p3] := by
    cases q with
    | mk k s m sh n =>
      obtain ⟨vm, vs, vn, he, ⟨a1, p1, e1, _⟩, ⟨a2, p2, e2, _⟩, ⟨a3, p3, e3, _⟩⟩ := hq.open
      exact ⟨k, s, a1, _, p1, a2, _, p2, a3, _, p3, by rw [he, e1, e2, e3]⟩
  subst hform
  have cwk := fun sb mb g (k : Nat) (hk : k < ps.length) (hg : SegAt w₀ g ps[k].1 (idxS ps[k].1)) => Walker_all w₀ pv ps wt sb mb g ps[k].1 H hg (hok.1 _ (List.getElem_mem hk)).2.2.1 (hok.1 _ (List.getElem_mem hk)).1 q hnd hsz
  have cmany := fun W (hq : Q w₀ W) => Many_any pv ps W (hp.stays hq) (by omega) hok.1
  rw [show (liveM ps).length = (liveL ps).length by rw [liveM_eq ps hok.2]] at cmany
  have hstep := fun k (hk : k < ps.length) => hits_step ps wt q k hk (nodes_kinds q hnd)
  have hfit := fun k (hk : k < ps.length) => walkF_le ps[k].1 wt H.wt_le (docs_small (hok.1 _ (List.getElem_mem hk)).1) q hnd (by omega)
  have hll := live_len ps (fun p hp => (hok.1 p hp).2.2.1)
  have hlk : ∀ k, ((liveL (ps.take k)).filterMap (hitOf wt q)).length ≤ 500000 := fun k => by
    have h1 := live_len (ps.take k) (fun p hp => (hok.1 p (List.mem_of_mem_take hp)).2.2.1)
    have h2 : (ps.take k).length ≤ 1000 := by rw [List.length_take]; omega
    exact Nat.le_trans (List.length_filterMap_le _ _) (by omega)
  have hokp := hok.1
  have hhits : (liveL ps).filterMap (hitOf wt q) = hitsL (liveL ps) q := by rw [hwt]; rfl
  obtain ⟨pa, pc, rfl, hpc⟩ := hp.value
  obtain ⟨nd, hnd2⟩ : ∃ nd, nd = (liveL ps).length := ⟨_, rfl⟩
  rw [← hnd2] at cmany cwk hll
  have HPC := Lib.hid hpc; have CWK := Lib.hid cwk; have CM := Lib.hid cmany; have HST := Lib.hid hstep; have HFIT := Lib.hid hfit; have HLK := Lib.hid hlk; have HOK := Lib.hid hokp; have HH := Lib.hid hhits; have HQV := Lib.hid hqk
  obtain ⟨np, hnp⟩ : ∃ np, np = ps.length := ⟨_, rfl⟩
  have HNP := Lib.hid hnp
  clear hpc cwk cmany hstep hfit hlk hokp hhits hqk hq hp hok H hT hSp hnd hsz hwt hnd2
  rw [← hnp] at hn CM ⊢
  clear hnp
  have hq1 : Q w₀ ((w₀.alloc (.cells #[.slice pa np pc] 37)).alloc (.cells #[.int .i64 qk, strV qs, .slice a1 n1 p1, .slice a2 n2 p2, .slice a3 n3 p3] 32)) := (Q.alloc _ _).trans (Q.alloc _ _)
  have hb0 := (Blk.new w₀ 37 #[.slice pa np pc]).alloc (.cells #[.int .i64 qk, strV qs, .slice a1 n1 p1, .slice a2 n2 p2, .slice a3 n3 p3] 32)
  have hb1 := Blk.new (w₀.alloc (.cells #[.slice pa np pc] 37)) 32 #[.int .i64 qk, strV qs, .slice a1 n1 p1, .slice a2 n2 p2, .slice a3 n3 p3]
  rw [World.size_alloc] at hb1
  have HQ1 := Lib.hid hq1; have HB0 := Lib.hid hb0; have HB1 := Lib.hid hb1
  clear hq1 hb0 hb1
  go_enter Tryz.func20, Tryz.ntmps20
  go_wp2_with fail
  refine search_row w₀ _ pa np pc nd w₀.heap.size wt HQ1.out CM.out (HB0.out.cell 0 _ rfl) _ _ _ _ _ _ _ _ _ _ _ _ _ _ _ _ _ _ _ _ _ _ _ _ _ _ _ _ _ _ _ _ _ _ _ _ _ _ _ _ _ _ _ _ _ _ _ _ _ _ _ _ _ _ _ _ _ _ _ _ _ _ _ _ _ _ _ _ _ ?_
  rintro W1 sb mb z15 z16 z17 z18 z19 z20 hss hqq
  have hb0 := HB0.out.stays hqq
  have hb1 := HB1.out.stays hqq
  have c0 := hb0.cell 0 _ rfl
  have HSS := Lib.hid hss; have HBQ := Lib.hid hb1
  have hsz1 : w₀.heap.size ≤ W1.heap.size := hss.q.size
  clear hss hqq hb0 hb1 HB0 HB1 HQ1 CM
  go_wp2_with fail
  go_loopw [6, 24] (fun hv i wr => ∃ (k : Nat), k ≤ np ∧ i = .int .i64 (k : Nat) ∧ Hid (wr.ownsRow W1.heap.size 49 2 hv ((liveL (ps.take k)).filterMap (hitOf wt q)).length (hitVs ((liveL (ps.take k)).filterMap (hitOf wt q)))) ∧ Hid (Cs w₀.heap.size W1 wr) ∧ Hid (SrS w₀ (.slice pa np pc) nd wt sb mb wr)) (fun _ i _ => np - (intOf i).toNat)
  case atStart => exact ⟨0, by omega, rfl, World.ownsRow_nil _ _ _ _, Cs.refl _ _, HSS.out⟩
  case round =>
    obtain ⟨k, hk, rfl, HR, HC, HS⟩ := hrel
    obtain ⟨wo, rfl⟩ : ∃ wo : World, wo = wr := ⟨_, rfl⟩
    clear c0
    by_cases hlt : k < np
    · have hlt' : k < ps.length := by have := HNP.out; omega
      obtain ⟨b, off, rfl, hcc⟩ := HPC.out (by omega)
      obtain ⟨p, e0, e1, hseg⟩ := hcc k hlt'
      have u0 := cell_stays HS.out.q e0
      have u1 := cell_stays HS.out.q e1
      have hpok := HOK.out ps[k] (List.getElem_mem hlt')
      have cwk := CWK.out sb mb p k hlt' hseg
      have hst := HST.out k hlt'
      have hfit := HFIT.out k hlt'
      have hlkk := HLK.out k
      have hbit := fun d W => get_any ps[k].2 (d : Nat) W (by have := hpok.2.2.2; have := hpok.2.2.1; omega)
      have hq2 : Q wo (wo.alloc (.cells #[.pointer (some ⟨p, 0, none⟩), strV ps[k].2] 89)) := Q.alloc _ _
      have cd := SegDocs_any p ps[k].1 _ _ (hseg.stays (HS.out.q.trans hq2)) (by have := hpok.2.2.1; omega)
      have hl5 := hpok.2.2.1
      generalize hpk : ps[k] = part at *
      obtain ⟨l, gone⟩ := part
      simp only at *
      generalize (liveL (ps.take k)).filterMap (hitOf wt q) = hs at *
      have hpb := Blk.new wo 89 #[.pointer (some ⟨p, 0, none⟩), strV gone]
      obtain ⟨y0, y1, _⟩ := hpb.c2
      have hi1 : (k : Int) < (np : Int) := by omega
      have hi2 : (0 : Int) ≤ (k : Int) := by omega
      have CD := Lib.hid cd; have CW := Lib.hid cwk; have HSTK := Lib.hid hst; have HFT := Lib.hid hfit; have HBIT := Lib.hid hbit; have HPB := Lib.hid hpb
      clear cd cwk hst hfit hbit hpok e0 e1 hseg hcc hpb hpk hq2
      go_wp2_with fail
      refine CD.out.mono ?_
      rintro e w2 ⟨dv, rfl, hdo, q2⟩
      obtain ⟨da, dcap, rfl, hdsm⟩ := owns_value hdo
      have hq2 : Q wo w2 := (Q.alloc _ _).trans q2
      have hc2 := HC.out.trans (Cs.of_q hq2)
      have hpb2 := HPB.out.stays q2
      obtain ⟨y0, y1, _⟩ := hpb2.c2
      obtain ⟨g0, g1, g2, g3, g4⟩ := (hc2.blk HBQ.out).c5
      have hr2 := ownsRow_below HR.out hq2
      have hs2 := HS.out.stays hq2
      have hs2' : SrS w₀ (.slice (some ⟨b, off, none⟩) ps.length pc) nd wt sb mb w2 := by rw [← HNP.out]; exact hs2
      have c := CW.out w2 _ hs2' HQV.out
      have C := Lib.hid c; have HC2 := Lib.hid hc2; have HPB2 := Lib.hid hpb2; have HR2 := Lib.hid hr2; have HDO := Lib.hid hdo; have HDS := Lib.hid hdsm
      have hw1 : W1.heap.size ≤ wo.heap.size := HC.out.size
      have hw2 : wo.heap.size ≤ w2.heap.size := hq2.size
      clear hdo q2 hq2 hc2 hpb2 hr2 hs2 hs2' c CD CW HPB HR HC HS hdsm u0 u1
      go_wp2_with fail
      refine C.out.mono ?_
      rintro e w3 ⟨u, rfl, hwk, c3, s3⟩
      have hw3 : w2.heap.size ≤ w3.heap.size := c3.size
      have s3' : SrS w₀ (.slice (some ⟨b, off, none⟩) np pc) nd wt sb mb w3 := by rw [HNP.out]; exact s3
      have hap : ∀ g, Value.ownBlock u6 = some g → g < w2.heap.size ∨ w3.heap.size ≤ g := fun g hg => .inl (HR2.out.lt g hg).2
      have hdo3 := owns_low (c3.owns HDO.out) (Nat.le_trans hw1 (show wo.heap.size ≤ (wo.alloc (.cells #[.pointer (some ⟨p, 0, none⟩), strV gone] 89)).heap.size by simp))
      have hrow : hs ++ partHits l gone (walkF l wt q) 0 = hs := by rw [partHits_zero, List.append_nil]
      have HWK := Lib.hid hwk; have HC3 := Lib.hid (HC2.out.trans c3); have HS3 := Lib.hid s3'; have HPB3 := Lib.hid (c3.blk HPB2.out); have HR3 := Lib.hid (c3.owns HR2.out); have HD3 := Lib.hid hdo3; have HAP := Lib.hid hap; have HROW := Lib.hid hrow
      clear hwk c3 s3 s3' HC2 HPB2 HR2 HDO C hap hdo3 hrow y0 y1 g0 g1 g2 g3 g4
      go_wp2_with fail
      go_loopw [6, 11] (fun hv i wr => ∃ (doc : Nat), doc ≤ l.length ∧ i = .int .i64 (doc : Nat) ∧ Hid (wr.ownsRow W1.heap.size 49 2 hv (hs ++ partHits l gone (walkF l wt q) doc).length (hitVs (hs ++ partHits l gone (walkF l wt q) doc))) ∧ Hid (∀ g, Value.ownBlock hv = some g → g < w2.heap.size ∨ w3.heap.size ≤ g) ∧ w3.heap.size ≤ wr.heap.size ∧ Hid (IsWk ⟨w₀.heap.size, w2.heap.size, w3.heap.size⟩ l.length topB wr u (walkF l wt q)) ∧ Hid (Cs w₀.heap.size W1 wr) ∧ Hid (SrS w₀ (.slice (some ⟨b, off, none⟩) np pc) nd wt sb mb wr) ∧ Hid (Blk wr wo.heap.size 89 #[.pointer (some ⟨p, 0, none⟩), strV gone]) ∧ Hid (wr.ownsRow W1.heap.size 63 2 (.slice da l.length dcap) l.length (docVs l))) (fun _ i _ => 501 - (intOf i).toNat)
      case atStart => exact ⟨0, Nat.zero_le _, rfl, by show World.ownsRow _ _ _ _ _ _ _; rw [HROW.out]; exact HR3.out, HAP.out, Nat.le_refl _, HWK.out, HC3.out, HS3.out, HPB3.out, HD3.out⟩
      case round =>
        obtain ⟨doc, hdoc, rfl, HR, HA, hwz, HW, HC, HS, HP, HD⟩ := hrel
        obtain ⟨wi, rfl⟩ : ∃ wi : World, wi = wr := ⟨_, rfl⟩
        clear HR3 HWK HC3 HS3 HPB3 HD3 HAP HROW
        obtain ⟨ut, ux, ug, hue, hmm, hca, hsk⟩ := HW.out.is
        subst hue
        have c := hsk wi doc (Ws.refl _ _) (by omega)
        have C := Lib.hid c
        clear hsk c
        go_wp2_with fail
        refine C.out.mono ?_
        rintro e w4 ⟨(⟨d, s, rfl, hx⟩ | ⟨d, s, rfl, hx⟩), q4⟩
        · obtain ⟨hd1, hs4⟩ := (HFT.out d s hx.2.1)
          have hnx := partHits_next l gone (walkF l wt q) doc d s hx l[d] (List.getElem?_eq_getElem hd1)
          unfold topB at hs4
          have hpl := partHits_len l gone (walkF l wt q) doc
          have hdd : doc ≤ d := hx.1
          have hbt := HBIT.out d w4 (by omega)
          rw [bitI_nat] at hbt
          have HR4 := Lib.hid (ownsRow_below HR.out q4); have HW4 := Lib.hid (HW.out.stays (Ws.of_q q4)); have HC4 := Lib.hid (HC.out.trans (Cs.of_q q4)); have HS4 := Lib.hid (HS.out.stays q4); have HP4 := Lib.hid (HP.out.stays q4); have HD4 := Lib.hid (ownsRow_below HD.out q4); have HNX := Lib.hid hnx
          have hw4 : w3.heap.size ≤ w4.heap.size := Nat.le_trans hwz q4.size
          obtain ⟨g, rfl⟩ := HDS.out (by omega)
          have hdcell := docVs_cell HD4.out rfl d hd1
          obtain ⟨y0, y1, _⟩ := HP4.out.c2
          have hi3 : (d : Int) < (l.length : Int) := by omega
          have hi4 : (0 : Int) ≤ (d : Int) := by omega
          have HBT := Lib.hid hbt
          generalize hph : hs ++ partHits l gone (walkF l wt q) doc = h1 at *
          have hh1 : h1.length ≤ 600000 := by rw [← hph, List.length_append]; omega
          have HPH := Lib.hid hph
          clear hx hnx q4 HR HW HC HS HP HD hbt hph C hmm hca
          cases hbg : bit gone d with
          | true =>
            have HN2 : Hid (hs ++ partHits l gone (walkF l wt q) (d + 1) = h1) := by
              have h := HNX.out
              rw [hbg, if_pos rfl, List.append_nil] at h
              show _ = _
              rw [h]; exact HPH.out
            rw [hbg] at HBT
            clear hbg HNX
            go_wp2_with fail
            refine HBT.out.mono ?_
            rintro e w' ⟨rfl, rfl⟩
            go_wp2_with fail
            go_roundw
            case rel => exact ⟨d + 1, by omega, by go_num, by show World.ownsRow _ _ _ _ _ _ _; rw [HN2.out]; exact HR4.out, HA.out, hw4, HW4.out, HC4.out, HS4.out, HP4.out, HD4.out⟩
            case measure => simp [intOf]; omega
          | false =>
            have HN2 : Hid (hs ++ partHits l gone (walkF l wt q) (d + 1) = h1 ++ [(l[d].1, s)]) := by
              have h := HNX.out
              rw [hbg, if_neg (by simp)] at h
              show _ = _
              rw [h, ← List.append_assoc, HPH.out]
            rw [hbg] at HBT
            have hr4 := HR4.out
            obtain ⟨va, vcap, hv6, _⟩ := owns_value hr4
            subst hv6
            have hb1 : W1.heap.size ≤ w4.heap.size := HC4.out.size
            generalize l[d].1 = did at *
            clear hbg HNX HR4
            go_wp2_with fail
            refine HBT.out.mono ?_
            rintro e w' ⟨rfl, rfl⟩
            go_wp2_with (at_builtin; go_must (refine wpList_app w4 (by rfl) _ _ 25 (by rfl) W1.heap.size 49 _ i0 (.agg #[strV [], .int .i64 0]) 2 24 Tryz.underlying25 hi hz0 hz1 hz2 rfl (by decide) (by decide) _ _ _ (by rfl) hr4 #[strV did, .int .i64 (s : Nat)] (by simp [Act.eval]) rfl ?c1 ?c2 hb1 ?_))
            case c1 => simp [Value.oneCell']
            case c2 => omega
            intro g6 cap6 w6 hown6 hg6 hat6 hlt6 hsz6
            have hz6 : Ws ⟨w₀.heap.size, w2.heap.size, w3.heap.size⟩ w4 w6 := Ws.grown hg6 (fun g hg => ⟨by have := (hr4.lt g hg).1; show w₀.heap.size ≤ g; omega, HA.out g hg⟩)
            have ha6 : ∀ g, Value.ownBlock (.slice (some ⟨g6, 0, none⟩) (h1.length + 1) cap6) = some g → g < w2.heap.size ∨ w3.heap.size ≤ g := fun g hg => by
              have e : g = g6 := by simpa [Value.ownBlock] using hg.symm
              subst e
              rcases hat6 with h | h
              · exact HA.out _ h
              · exact .inr (by omega)
            have hown6' : w6.ownsRow W1.heap.size 49 2 (.slice (some ⟨g6, 0, none⟩) (h1.length + 1) cap6) (h1 ++ [(did, s)]).length (hitVs (h1 ++ [(did, s)])) := by
              rw [hitVs_append, List.length_append]; exact hown6
            have HR6 := Lib.hid hown6'; have HA6 := Lib.hid ha6; have HW6 := Lib.hid (HW4.out.stays hz6); have HC6 := Lib.hid (HC4.out.grown hr4 hg6 (Nat.le_refl _) hsz1); have HS6 := Lib.hid (HS4.out.grown hr4 hg6 hsz1 (by decide)); have HP6 := Lib.hid (blk_beside HP4.out hr4 hg6 (by decide)); have HD6 := Lib.hid (row_beside HD4.out hr4 hg6 (by decide))
            have hw6 : w3.heap.size ≤ w6.heap.size := by omega
            clear hown6 hown6' hg6 hat6 hz6 ha6 hr4 HA HW4 HC4 HS4 HP4 HD4 y0 y1 hdcell HBT
            go_wp2_with fail
            go_roundw
            case rel => exact ⟨d + 1, by omega, by go_num, by show World.ownsRow _ _ _ _ _ _ _; rw [HN2.out]; exact HR6.out, HA6.out, hw6, HW6.out, HC6.out, HS6.out, HP6.out, HD6.out⟩
            case measure => simp [intOf]; omega
        · have hnn := partHits_none l gone (walkF l wt q) doc l.length hdoc hx
          have hnew : (liveL (ps.take (k + 1))).filterMap (hitOf wt q) = hs ++ partHits l gone (walkF l wt q) doc := by rw [HSTK.out, hnn]
          have HNW := Lib.hid hnew
          have HR4 := Lib.hid (ownsRow_below HR.out q4); have HC4 := Lib.hid (HC.out.trans (Cs.of_q q4)); have HS4 := Lib.hid (HS.out.stays q4)
          clear hx hnn hnew q4 HR HW HC HS HP HD C hmm hca
          go_wp2_with fail
          go_roundw
          case rel => exact ⟨k + 1, by omega, by go_num, by show World.ownsRow _ _ _ _ _ _ _; rw [HNW.out]; exact HR4.out, HC4.out, HS4.out⟩
          case measure => simp [intOf]; omega
    · have hke : k = np := by omega
      subst hke
      have hr := HR.out
      have htk : ps.take k = ps := by rw [HNP.out, List.take_length]
      have hlkk := HLK.out k
      rw [htk, HH.out] at hr hlkk
      have c := SortHits_any W1.heap.size _ _ wo hr (by omega) (liveL ps) q rfl
      have C := Lib.hid c; have HQ9 := Lib.hid HS.out.q
      clear c hr HR hlkk htk
      go_wp2_with fail
      refine C.out.mono ?_
      rintro e w9 ⟨rfl, hh, hbl⟩
      have HH9 := Lib.hid hh; have HQ8 := Lib.hid (Below.trans HQ9.out (hbl w₀.heap.size hsz1 HQ9.out.size))
      clear hh hbl C
      go_wp2_with fail
      go_ret
      exact ⟨_, rfl, HH9.out, HQ8.out⟩
end Go.Proofs.YtcflpcpkmhljkaaGreatDoor
end

/- (W18a) codexlaw18: same, one, doc, pick: walked. -/
section
namespace Go.Proofs.YtcflpcpkmhljkaaGreatDoor
open Go.RowKit
set_option linter.unusedVariables false

abbrev HitI := Bytes × Int
def hitIVs (hs : List HitI) : List Value := hs.flatMap fun h => [strV h.1, .int .i64 h.2]
def HitsI (w : World) (v : Value) (hs : List HitI) : Prop := Sl w v hs.length 2 (hitIVs hs)
theorem HitsI.stays {w w' : World} {v : Value} {hs : List HitI} (h : HitsI w v hs) (q : Q w w') : HitsI w' v hs := Sl.stays h q
theorem hitIVs_cons (h : HitI) (hs : List HitI) : hitIVs (h :: hs) = strV h.1 :: .int .i64 h.2 :: hitIVs hs := rfl
theorem hitIVs_append (a b : List HitI) : hitIVs (a ++ b) = hitIVs a ++ hitIVs b := by unfold hitIVs; rw [List.flatMap_append]
theorem hitIVs_len (hs : List HitI) : (hitIVs hs).length = hs.length * 2 := by
  induction hs with
  | nil => rfl
  | cons h hs ih => rw [hitIVs_cons, List.length_cons, List.length_cons, ih, List.length_cons]; omega
theorem hitIVs_at (hs : List HitI) (i : Nat) (h : i < hs.length) : (hitIVs hs)[i * 2]? = some (strV hs[i].1) ∧ (hitIVs hs)[i * 2 + 1]? = some (.int .i64 hs[i].2) := by
  induction hs generalizing i with
  | nil => simp at h
  | cons x hs ih =>
    rw [hitIVs_cons]
    cases i with
    | zero => exact ⟨rfl, rfl⟩
    | succ i =>
      rw [show (i + 1) * 2 = i * 2 + 1 + 1 by omega]
      exact ih i (by simpa using h)
theorem HitsI.value {w : World} {v : Value} {hs : List HitI} (h : HitsI w v hs) : ∃ a cap, v = .slice a hs.length cap ∧ (0 < hs.length → ∃ b off, a = some ⟨b, off, none⟩ ∧ ∀ i (hi : i < hs.length), w.cell? ⟨b, off + i * 2, none⟩ = some (strV hs[i].1) ∧ w.cell? ⟨b, off + i * 2 + 1, none⟩ = some (.int .i64 hs[i].2)) := by
  obtain ⟨_, a, cap, h1, h2⟩ := h
  refine ⟨a, cap, h1, fun hn => ?_⟩
  obtain ⟨b, off, h3, h4⟩ := h2 hn
  exact ⟨b, off, h3, fun i hi => ⟨h4 _ _ (hitIVs_at hs i hi).1, by rw [Nat.add_assoc]; exact h4 _ _ (hitIVs_at hs i hi).2⟩⟩
def toI (h : HitL) : HitI := (h.1, (h.2 : Int))
theorem toI_inj {a b : List HitL} (h : a.map toI = b.map toI) : a = b := by
  induction a generalizing b with
  | nil => cases b with | nil => rfl | cons x b => simp at h
  | cons x a ih =>
    cases b with
    | nil => simp at h
    | cons y b =>
      rw [List.map_cons, List.map_cons] at h
      injection h with h1 h2
      unfold toI at h1
      injection h1 with h3 h4
      rw [ih h2, Prod.ext h3 (Int.ofNat.inj h4)]
theorem Hits.toI {w : World} {v : Value} {hs : List HitL} (h : Hits w v hs) : HitsI w v (hs.map toI) := by
  have e : hitIVs (hs.map Go.Proofs.YtcflpcpkmhljkaaGreatDoor.toI) = hitVs hs := by
    induction hs with
    | nil => rfl
    | cons x hs ih =>
      have h' : Hits w v hs → True := fun _ => trivial
      rw [List.map_cons, hitIVs_cons, hitVs_cons]
      congr 2
      clear h h' ih
      induction hs with
      | nil => rfl
      | cons y hs ih => rw [List.map_cons, hitIVs_cons, hitVs_cons, ih]; rfl
  unfold HitsI
  rw [List.length_map, e]
  exact h
theorem bytes_eqb18 (a b : Bytes) : (({ data := a.toArray } : ByteArray).toList == ({ data := b.toArray } : ByteArray).toList) = decide (a = b) := by
  rw [ByteArray.toList_eq, ByteArray.toList_eq]
  by_cases h : a = b <;> simp [h]
theorem eqHit (i1 : Bytes) (t1 : Int) (i2 : Bytes) (t2 : Int) (w : World) : (Op.equalIn 10000 49 (.agg #[strV i1, .int .i64 t1]) (.agg #[strV i2, .int .i64 t2])).run Tryz.prog w = .ok (decide (((i1, t1) : HitI) = (i2, t2))) w := by
  have u9 := Tryz.underlying9
  have u3 := Tryz.underlying3
  have hS : Tryz.prog.underlying 49 = some (.struct (Tryz.prog.fieldsOf 49)) := by kernel_rfl
  have hp : Tryz.prog.stoodInHeld 49 = false := by kernel_rfl
  rw [show (10000 : Nat) = 9999 + 1 from rfl, run_equalIn_agg w 9999 49 _ _ hS hp]
  simp only [Program.fieldsOf, Tryz.underlying49]
  go_simp
  by_cases h1 : i1 = i2 <;> by_cases h2 : t1 = t2 <;> simp [h1, h2, bytes_eqb18]
set_option maxRecDepth 100000 in
set_option maxHeartbeats 2000000 in
theorem Same18_any (va vb : Value) (la lb : List HitI) (w : World) (ha : HitsI w va la) (hb : HitsI w vb lb) (hna : la.length ≤ 1000000000) (hnb : lb.length ≤ 1000000000) :
    Calls Tryz.prog 13 #[va, vb] w fun e w' => e = .returned (.bool (decide (la = lb))) ∧ Q w w' := by
  obtain ⟨aa, ca, rfl, hca⟩ := ha.value
  obtain ⟨ab, cb, rfl, hcb⟩ := hb.value
  have HA := Lib.hid hca; have HB := Lib.hid hcb
  clear ha hb hca hcb
  by_cases hl : la.length = lb.length
  · have HLL := Lib.hid hl
    rw [← hl]
    clear hl
    go_enter Tryz.func13, Tryz.ntmps13
    go_wp2_with fail
    go_loopw [5] (fun x wr => ∃ k : Nat, x = .int .i64 (k : Nat) ∧ k ≤ la.length ∧ Hid (la.take k = lb.take k) ∧ Hid (Q w wr)) (fun x _ => la.length - (intOf x).toNat)
    case atStart => exact ⟨0, rfl, by omega, rfl, Q.refl w⟩
    case round =>
      obtain ⟨k, rfl, hk, HT, HQ⟩ := hrel
      obtain ⟨wo, rfl⟩ : ∃ wo : World, wo = wr := ⟨_, rfl⟩
      by_cases hlt : k < la.length
      · obtain ⟨b1, o1, rfl, hc1⟩ := HA.out (by omega)
        have hltb : k < lb.length := by have := HLL.out; omega
        obtain ⟨b2, o2, rfl, hc2⟩ := HB.out (by omega)
        obtain ⟨x1, x2⟩ := hc1 k hlt
        obtain ⟨y1, y2⟩ := hc2 k hltb
        have k1 := cell_stays HQ.out x1
        have k2 := cell_stays HQ.out x2
        have k3 := cell_stays HQ.out y1
        have k4 := cell_stays HQ.out y2
        have hta := List.take_succ_eq_append_getElem hlt
        have htb := List.take_succ_eq_append_getElem hltb
        have hi0 : (0 : Int) ≤ (k : Int) := by omega
        have hi1 : (k : Int) < (la.length : Int) := by omega
        generalize hda : la[k] = da at *
        generalize hdb : lb[k] = db at *
        have HTA := Lib.hid hta; have HTB := Lib.hid htb; have HDA := Lib.hid hda; have HDB := Lib.hid hdb
        clear hc1 hc2 x1 x2 y1 y2 hta htb hda hdb
        obtain ⟨i1, t1⟩ := da
        obtain ⟨i2, t2⟩ := db
        simp only at k1 k2 k3 k4
        have hm : Tryz.prog.eqGuardType Tryz.prog.depth 49 = false := by kernel_rfl
        have heq := fun w => eqHit i1 t1 i2 t2 w
        by_cases hd : ((i1, t1) : HitI) = (i2, t2)
        · rw [decide_eq_true hd] at heq
          have HD := Lib.hid hd; clear hd
          go_wp2_with fail
          go_quiet (fail)
          go_wp2_with fail
          go_roundw
          case rel => exact ⟨k + 1, by go_num, by omega, by show _ = _; rw [HTA.out, HTB.out, HT.out, HD.out], HQ.out.trans (Q.drewN _ _)⟩
          case measure => simp [intOf]; omega
        · rw [decide_eq_false hd] at heq
          have HD := Lib.hid hd; clear hd
          go_wp2_with fail
          go_quiet (fail)
          go_wp2_with fail
          go_ret
          have hdf : decide (la = lb) = false := by
            rw [decide_eq_false]; intro e
            have h1 := HTA.out; have h2 := HTB.out
            rw [← e, h1] at h2
            exact HD.out (by simpa using h2)
          exact ⟨by rw [hdf]; rfl, HQ.out.trans (Q.drewN _ _)⟩
      · have hke : k = la.length := by omega
        subst hke
        go_wp2_with fail
        go_ret
        have hdt : decide (la = lb) = true := by
          rw [decide_eq_true]
          have := HT.out
          rw [List.take_length, HLL.out, List.take_length] at this
          exact this
        exact ⟨by rw [hdt]; rfl, HQ.out⟩
  · have hne : ((la.length : Int) != (lb.length : Int)) = true := by simp; omega
    have HL := Lib.hid hl
    clear hl
    go_enter Tryz.func13, Tryz.ntmps13
    go_wp2_with fail
    go_ret
    have hdf : decide (la = lb) = false := decide_eq_false (fun e => HL.out (by rw [e]))
    exact ⟨by rw [hdf]; rfl, Q.refl _⟩
/-- same, at hits that a search tells -/
theorem SameL_any (va vb : Value) (la lb : List HitL) (w : World) (ha : Hits w va la) (hb : Hits w vb lb) (hna : la.length ≤ 1000000000) (hnb : lb.length ≤ 1000000000) :
    Calls Tryz.prog 13 #[va, vb] w fun e w' => e = .returned (.bool (decide (la = lb))) ∧ Q w w' := by
  have h := Same18_any va vb (la.map toI) (lb.map toI) w ha.toI hb.toI (by rw [List.length_map]; exact hna) (by rw [List.length_map]; exact hnb)
  rwa [show decide (la.map toI = lb.map toI) = decide (la = lb) from by rw [decide_eq_decide]; exact ⟨toI_inj, fun h => by rw [h]⟩] at h
theorem doc18_any (id tx : Bytes) (w : World) :
    Calls Tryz.prog 33 #[.string ⟨id.toArray⟩, .string ⟨tx.toArray⟩] w fun e w' => e = .returned (opV (false, (id, tx))) ∧ Q w w' := by
  go_enter Tryz.func33, Tryz.ntmps33
  go_wp2_with fail
  exact bodyPost_ret (v := opV (false, (id, tx))) (by simp [results, Tryz.results33, go_sem]) rfl ⟨rfl, Q.alloc _ _⟩
abbrev oneV (k : Int) (s : Bytes) : Value := .agg #[.int .i64 k, strV s, .slice none 0 0, .slice none 0 0, .slice none 0 0]
theorem one18_any (k : Int) (s : Bytes) (w : World) :
    Calls Tryz.prog 26 #[.int .i64 k, .string ⟨s.toArray⟩] w fun e w' => e = .returned (oneV k s) ∧ Q w w' := by
  go_enter Tryz.func26, Tryz.ntmps26
  go_wp2_with fail
  exact bodyPost_ret (v := oneV k s) (by simp [results, Tryz.results26, go_sem]) rfl ⟨rfl, Q.alloc _ _⟩
theorem one_at (w : World) (k : Int) (s : Bytes) : QryAt w (.mk k s [] [] []) (oneV k s) := QryAt.mk' (QrysAt.nil w) (QrysAt.nil w) (QrysAt.nil w)
end Go.Proofs.YtcflpcpkmhljkaaGreatDoor
end

/- (Shown18) Plain: chapter 18's examples. No program in sight. -/
section
namespace Go.Proofs.YtcflpcpkmhljkaaGreatDoor
open Go.Sort
set_option linter.unusedVariables false

abbrev sxD : List DocL := [([120], [102, 111, 120, 32, 102, 111, 120, 32, 100, 111, 103]), ([121], [102, 111, 120]), ([122], [99, 97, 116])]
abbrev sxO : List OpL := sxD.map fun d => (false, d)
abbrev sxP : List PartL := [(sxD, [0])]
theorem sx_fresh : freshL sxD = ([(sxD, [0])], segE sxD (idxL sxD)) := by
  unfold freshL; rw [if_neg (by simp)]; rfl
theorem sx_more : moreL sxO = sxD := by decide
theorem sx_right : sxO.all opRight = true := by decide +kernel
theorem sx_apply : applyL [] sxO = (sxP, segE sxD (idxL sxD), 0) := by
  unfold applyL
  rw [if_neg (by decide), if_pos sx_right, sx_more, sx_fresh]; rfl
theorem sx_ok : PartsOk sxP := by
  have := apply_ok [] sxO ⟨by simp, by simp [liveL]⟩
  rwa [sx_apply] at this
theorem sx_live : liveL sxP = sxD := by decide +kernel
def sq (k : Int) (s : Bytes) : QL := .mk k s [] [] []
def sxQ : QL := .mk 5 [] [] [sq 2 [102, 111, 120], sq 2 [99, 97, 116]] [sq 2 [100, 111, 103]]
theorem sx_1 : searchL (liveL sxP) (sq 2 [102, 111, 120]) = [([120], 2), ([121], 1)] := by rw [sx_live, ← putH_search]; decide +kernel
theorem sx_2 : searchL (liveL sxP) (sq 3 [102, 111, 120, 32, 100, 111, 103]) = [([120], 3)] := by rw [sx_live, ← putH_search]; decide +kernel
theorem sx_3 : searchL (liveL sxP) (sq 4 [99]) = [([122], 1)] := by rw [sx_live, ← putH_search]; decide +kernel
theorem sx_4 : searchL (liveL sxP) (sq 1 []) = [([120], 1), ([121], 1), ([122], 1)] := by rw [sx_live, ← putH_search]; decide +kernel
theorem sx_5 : searchL (liveL sxP) sxQ = [([122], 2), ([121], 1)] := by rw [sx_live, ← putH_search]; decide +kernel
end Go.Proofs.YtcflpcpkmhljkaaGreatDoor
end
