/- Joined texts of one proof: WLiveQ, WLiveM, WOrd, WSort. -/
import Derived.Test.YtcflpcpkmhljkaaGreatDoorMWLastToWSc
import Derived.Deep.RegionLaw
import Derived.Test.YtcflpcpkmhljkaaGreatDoorMWSk2ToWBin
import Derived.Test.YtcflpcpkmhljkaaGreatDoorMWWk3ToWWk4
import Derived.Test.YtcflpcpkmhljkaaGreatDoorMTokToWDictR
import Derived.Test.YtcflpcpkmhljkaaGreatDoorMWDictNToWDictE
import Derived.Test.YtcflpcpkmhljkaaGreatDoorMWire2ToMem3
import Derived.Deep.RegionHeld3
import Derived.Sort.Grow
import Derived.Test.YtcflpcpkmhljkaaGreatDoorMLive2ToWScW
import Derived.Shelf.SlSortCmp.WholeK
import Derived.Shelf.Lay
import Derived.Ground.SlsfProg
import Derived.Test.YtcflpcpkmhljkaaGreatDoorProg
set_option linter.unusedSimpArgs false
set_option linter.unusedVariables false
set_option linter.unnecessarySimpa false
/- (WLiveQ) live.docs: the region that puts a document behind the others; live.docs, Docs, Many, Get: walked. -/
section
namespace Go.Proofs.YtcflpcpkmhljkaaGreatDoor
open Go.RowKit
set_option linter.unusedVariables false

noncomputable def docsRow : Code := ((Tryz.f49.body.bind (findRegion 7)).getD .skip)
set_option maxRecDepth 100000 in
set_option maxHeartbeats 1000000 in
theorem docs_row (base b off n pc X p a1 a2 m : Nat) (ds os : List DocL) (v : Value) (w : World) (cX0 : w.cell? ⟨X, 0, none⟩ = some (.int .i64 (a1 : Nat))) (cX1 : w.cell? ⟨X, 1, none⟩ = some (.int .i64 (a2 : Nat)))
    (cP : w.cell? ⟨b, off + a1 * 2, none⟩ = some (.pointer (some ⟨p, 0, none⟩))) (hS : SegAt w p ds (idxS ds)) (ha1 : a1 < n) (ha2 : a2 < ds.length) (hdl : ds.length ≤ 1000000)
    (hown : w.ownsRow base 63 2 v m (docVs os)) (hb : base ≤ w.heap.size) (hlen : m ≤ 1000000000) (hXr : some X ≠ v.ownBlock) (hbr : some b ≠ v.ownBlock)
    (Qx : Exit → Act → World → Prop) (x1 x2 x3 x5 x6 x8 x9 x10 x11 x12 x13 x14 x15 x16 x17 x18 x19 x20 x21 x22 x23 x24 x25 x26 x27 x28 x29 x30 x31 x32 x33 x34 x35 x36 x37 x38 : Value)
    (hQ : ∀ wa g2 cap z21 z22 z23 z24 z25 z26 z27 z28 z29 z30 z31 z32 z33 z34 z35 z36, wa.ownsRow base 63 2 (.slice (some ⟨g2, 0, none⟩) (m + 1) cap) (m + 1) (docVs (os ++ [ds[a2]])) → w.grownBy wa v.ownBlock →
      Qx .normal ⟨#[.slice (some ⟨b, off, none⟩) n pc, x1, x2, x3, .slice (some ⟨g2, 0, none⟩) (m + 1) cap, x5, x6, .pointer (some ⟨X, 0, none⟩), x8, x9, x10, x11, x12, x13, x14, x15, x16, x17, x18, x19, x20, z21, z22, z23, z24, z25, z26, z27, z28, z29, z30, z31, z32, z33, z34, z35, z36, x37, x38], []⟩ wa) :
    docsRow.wp Tryz.prog Qx ⟨#[.slice (some ⟨b, off, none⟩) n pc, x1, x2, x3, v, x5, x6, .pointer (some ⟨X, 0, none⟩), x8, x9, x10, x11, x12, x13, x14, x15, x16, x17, x18, x19, x20, x21, x22, x23, x24, x25, x26, x27, x28, x29, x30, x31, x32, x33, x34, x35, x36, x37, x38], []⟩ w := by
  obtain ⟨i0, hi, hz0, hz1, hz2⟩ := info_parts tinfo63
  conv => arg 2; whnf
  have hmx : Tryz.prog.follows .mixedOrders = true := by kernel_rfl
  have HQX := Lib.hid hQ; have HO := Lib.hid hown; have HS := Lib.hid hS
  clear hQ hown hS
  have hXl : X < w.heap.size := cell_lt cX0
  have hbl : b < w.heap.size := cell_lt cP
  have hB1 : (m + 1) * 32 ≤ 140737488355328 := by omega
  have hB2 : m + 1 ≤ maxLen := by unfold maxLen; omega
  have hi1 : (0 : Int) ≤ (a1 : Int) := by omega
  have hi2 : (a1 : Int) < (n : Int) := by omega
  have hi3 : (0 : Int) ≤ (a2 : Int) := by omega
  have hi4 : (a2 : Int) < (ds.length : Int) := by omega
  refine wp_region_noPanic ?_
  have hone : ∀ u ∈ [strV ds[a2].1, strV ds[a2].2], u.oneCell' = true := by simp [Value.oneCell']
  have hvs := docVs_append os ds[a2]
  go_region_law
    (first
      | (go_simp; go_at_call 40; refine (SegDocs_any p ds (idxS ds) _ (by first | exact HS.out | exact HS.out.stays (Q.drew _)) hdl).mono ?_; rintro e w' ⟨v', rfl, ho, q⟩; obtain ⟨da, dcap, rfl, hdc⟩ := ownsRow_lies ho; obtain ⟨g, rfl, hgc⟩ := hdc (by omega); have cd0 := hgc _ _ (docVs_at ds a2 ha2).1; have cd1 := hgc _ _ (docVs_at ds a2 ha2).2; have o2 := ownsRow_below (rowDr HO.out) q; have O2 := Lib.hid o2; have hb2 : base ≤ (w'.alloc (.cells #[strV ds[a2].1, strV ds[a2].2] 63)).heap.size := (by have := q.size; simp at this ⊢; omega); have hsz : (w'.alloc (.cells #[strV ds[a2].1, strV ds[a2].2] 63)).heap.size = w'.heap.size + 1 := (by simp); have dX0 := cell_stays q cX0; have dX1 := cell_stays q cX1; have dP := cell_stays q cP; clear o2 ho hdc hgc)
      | (refine step_append_lies _ (by rfl) _ _ 43 (by rfl) base 63 i0 (.agg #[strV [], strV []]) 2 32 Tryz.underlying43 hi hz0 hz1 hz2 rfl (by decide) v m (docVs os) (by rfl) (rowAl _ O2.out) ⟨w'.heap.size, 0, none⟩ 1 1 [strV ds[a2].1, strV ds[a2].2] (by rfl) rfl (World.news_of_block (heap_alloc_new w' _)) hone (by decide) hB2 hB1 hb2 (w'.heap.size + 1) hsz ?_; intro g2 cap wa hown1 hgrow hat hlt; have hgr := grown_of (q.trans (Q.alloc _ _)) hgrow; have HW := Lib.hid hown1; clear hown1 hgrow))
  all_goals exact HQX.out wa g2 cap _ _ _ _ _ _ _ _ _ _ _ _ _ _ _ _ (by rw [hvs]; exact HW.out) (by first | exact hgr | exact grown_of (Q.drew _) hgr)
/-! ### bounds -/
theorem plTo_length (ps : List PartL) (h : ∀ p ∈ ps, PartOk p) (n : Nat) (hn : n ≤ ps.length) : (plTo ps n).length ≤ 500 * n := by
  induction n with
  | zero => simp [plTo]
  | succ n ih =>
    have hlt : n < ps.length := by omega
    have e : ps.getD n ([], []) = ps[n] := by rw [List.getD_eq_getElem?_getD, List.getElem?_eq_getElem hlt]; rfl
    have := (h _ (List.getElem_mem hlt)).2.2.1
    have := plIn_length (ps.getD n ([], [])) n (plTo ps n) (ps.getD n ([], [])).1.length
    rw [plTo]
    rw [e] at *
    have := ih (by omega)
    omega
theorem PartOk.lens {p : PartL} (h : PartOk p) : p.1.length ≤ 1000000 ∧ p.2.length ≤ 1000000 := by
  obtain ⟨_, _, h2, h3⟩ := h
  omega
theorem docAt_in (ps : List PartL) (a : Nat × Nat) (h1 : a.1 < ps.length) (h2 : a.2 < (ps.getD a.1 ([], [])).1.length) : ∃ h : a.2 < ps[a.1].1.length, docAt ps a = ps[a.1].1[a.2] := by
  have e : ps.getD a.1 ([], []) = ps[a.1] := by rw [List.getD_eq_getElem?_getD, List.getElem?_eq_getElem h1]; rfl
  rw [e] at h2
  refine ⟨h2, ?_⟩
  unfold docAt
  rw [e, List.getD_eq_getElem?_getD, List.getElem?_eq_getElem h2]; rfl
theorem plAll_key (ps : List PartL) (h : ∀ p ∈ ps, PartOk p) (x : Bytes × (Nat × Nat)) (hx : x ∈ plAll ps) : x.1.length ≤ 40 := by
  obtain ⟨a, b, c⟩ := plTo_ok ps ps.length x hx
  have h1 : x.2.1 < ps.length := by omega
  obtain ⟨h2, e⟩ := docAt_in ps x.2 h1 b
  rw [← c, e]
  have hp := h _ (List.getElem_mem h1)
  exact (rightB_len (hp.1.1 _ (List.getElem_mem h2))).1
theorem zeroPlace (w : World) : (zeroValue 155).run Tryz.prog w = .ok (plVal (0, 0)) w := by
  simp [zeroValue, go_sem]
  rw [show Tryz.t155.zero = some (plVal (0, 0)) from by kernel_rfl]
  rfl
set_option maxRecDepth 100000 in
set_option maxHeartbeats 4000000 in
theorem LDocs_any (v : Value) (ps : List PartL) (w : World) (hv : PartsAt w v ps) (hn : ps.length ≤ 1000000) (hok : ∀ p ∈ ps, PartOk p) :
    Calls Tryz.prog 49 #[v] w fun e w' => ∃ v', e = .returned v' ∧ w'.ownsRow w.heap.size 63 2 v' (docsL ps).length (docVs (docsL ps)) ∧ Q w w' := by
  have cpl := Places_any v ps w hv hn (fun p hp => (hok p hp).lens)
  obtain ⟨a, cap, rfl, hcell⟩ := hv.value
  have hkl0 := plAll_key ps hok
  have hpl0 := plTo_length ps hok ps.length (Nat.le_refl _)
  rw [show plTo ps ps.length = plAll ps from rfl] at hpl0
  have HV := Lib.hid hv; have HC := Lib.hid hcell; have CPL := Lib.hid cpl; have HOK := Lib.hid hok; have HKL0 := Lib.hid hkl0
  clear hv hcell cpl hok hkl0
  go_enter Tryz.func49, Tryz.ntmps49
  go_wp2_with fail
  refine CPL.out.mono ?_
  rintro e wo ⟨mb, rfl, hm, q1⟩
  have hvl : (plV (plAll ps)).length = (plAll ps).length := by simp [plV]
  have hkeys : ∀ x ∈ plV (plAll ps), x.1.length ≤ maxLen := by
    intro x hx
    obtain ⟨y, hy, rfl⟩ := List.mem_map.1 hx
    have := HKL0.out y hy
    show y.1.length ≤ maxLen
    unfold maxLen; omega
  obtain ⟨D, hD, hDs, hDp⟩ := hm.owns (P := Tryz.prog) 9 Tryz.underlying9 (by rw [hvl]; unfold maxLen; omega) hkeys
  have c1 := callsIn_wide.1 (Tryz.maps_Keys_86 (some mb) wo)
  have c2 := callsIn_wide.1 (Tryz.slices_Sorted_keys_85_86 mb (plV (plAll ps)).length D noR wo hD (by rw [hDs, hvl]; unfold maxLen; omega) (by rw [hDs, hvl]; omega))
  have C1 := Lib.hid c1; have C2 := Lib.hid c2; have HM := Lib.hid hm; have HDP := Lib.hid hDp; have HQ1 := Lib.hid q1
  clear c1 c2 hm hD hDs hDp hkeys q1 CPL
  go_wp2_with fail
  refine C1.out.mono ?_
  rintro e w2 ⟨rfl, rfl⟩
  go_wp2_with fail
  refine C2.out.mono ?_
  rintro e w3 ⟨sv, ss, rfl, hp, ho, _, hb3⟩
  have hks : ss.mergeSort (fun x y => decide (x ≤ y)) = sortL ((plAll ps).map (·.1)) := by
    have hpp : ss.Perm ((plAll ps).map (·.1)) := by
      refine hp.trans (HDP.out.trans (List.Perm.of_eq ?_))
      simp [plV, List.map_map]
    exact sortL_perm hpp
  rw [hks] at ho
  have hsl : ss.length = (sortL ((plAll ps).map (·.1))).length := by rw [← hks]; simp
  rw [hsl] at ho
  have hsl2 : (sortL ((plAll ps).map (·.1))).length = (plAll ps).length := by simp [sortL]
  have hkl : ∀ x ∈ sortL ((plAll ps).map (·.1)), x ∈ (plAll ps).map (·.1) := by
    intro x hx
    simpa [sortL] using hx
  obtain ⟨sa, scap, rfl, hsc⟩ := ownsRow_lies ho
  have hqa : Q wo w3 := (Q.alloc wo _).trans hb3
  have hq3 := HQ1.out.trans hqa
  have hm3 := HM.out.stays hqa
  have hdl : docsL ps = (sortL ((plAll ps).map (·.1))).map fun id => docAt ps ((getM id (plAll ps)).getD (0, 0)) := docsL_places ps
  have HSC := Lib.hid hsc; have HM3 := Lib.hid hm3; have HQ3 := Lib.hid hq3; have HKL := Lib.hid hkl; have HDL := Lib.hid hdl
  clear hp ho hb3 hks hqa hq3 hm3 hsc hkl hdl HDP HM HQ1 C1 C2
  generalize sortL ((plAll ps).map (·.1)) = ks at *
  have hk5 : ks.length ≤ 500000000 := by omega
  clear hsl hsl2
  go_wp2_with fail
  go_loopw [4, 14] (fun ov x wr => ∃ j : Nat, x = .int .i64 (j : Nat) ∧ j ≤ ks.length ∧ Hid (wr.ownsRow w3.heap.size 63 2 ov j (docVs ((ks.take j).map fun id => docAt ps ((getM id (plAll ps)).getD (0, 0))))) ∧ Hid (Below w3.heap.size w3 wr)) (fun ov x _ => ks.length - (intOf x).toNat)
  case atStart => exact ⟨0, rfl, by omega, World.ownsRow_nil _ _ _ _, Below.refl _ _⟩
  case round =>
    obtain ⟨j, rfl, hj, HO, HQ⟩ := hrel
    obtain ⟨wi, rfl⟩ : ∃ wi : World, wi = wr := ⟨_, rfl⟩
    have hszi := HQ.out.size
    by_cases hjl : j < ks.length
    · obtain ⟨gs, rfl, hsc⟩ := HSC.out (by omega)
      have hw1 := cell_stays HQ.out (hsc j (strV ks[j]) (by simp [encStr]))
      obtain ⟨at2, hg, ha1, ha2⟩ := plAll_get ps ks[j] (HKL.out _ (List.getElem_mem hjl))
      obtain ⟨ha3, hda⟩ := docAt_in ps at2 ha1 ha2
      have htk : (ks.take (j + 1)).map (fun id => docAt ps ((getM id (plAll ps)).getD (0, 0))) = (ks.take j).map (fun id => docAt ps ((getM id (plAll ps)).getD (0, 0))) ++ [ps[at2.1].1[at2.2]] := by
        rw [List.take_succ_eq_append_getElem hjl, List.map_append, List.map_singleton, hg, Option.getD_some, hda]
      have hmi := HM3.out.stays HQ.out
      have hcu : (getM ks[j] (plV (plAll ps))).getD (plVal (0, 0)) = plVal at2 := by rw [plV_get, hg]; rfl
      obtain ⟨b, off, rfl, hc⟩ := HC.out (by omega)
      obtain ⟨p, hc1, _, hsg⟩ := hc at2.1 ha1
      have hql := HQ3.out.trans HQ.out
      have hcp := cell_stays hql hc1
      have hsi := hsg.stays hql
      have hdl2 := (HOK.out _ (List.getElem_mem ha1)).lens.1
      have hbl := cell_lt hc1
      simp only at hbl
      have hbw := HQ3.out.size
      have hou := HO.out
      have hlow := fun g hg => (hou.lt g hg)
      generalize ((ks.take j).map fun id => docAt ps ((getM id (plAll ps)).getD (0, 0))) = os at *
      generalize ps[at2.1].1 = ds at *
      have HTK := Lib.hid htk; have HSI := Lib.hid hsi; have HOU := Lib.hid hou; have HLOW := Lib.hid hlow; have HHQ := Lib.hid HQ.out
      clear hsc hg ha2 hda htk hc hc1 hsg hql hsi hou hlow HO HQ
      generalize ks[j] = t at *
      obtain ⟨a1, a2⟩ := at2
      simp only at ha1 ha3 hcp HTK
      go_wp2_with (at_lookup; go_must (refine wpList_lookup_val wi (by rfl) _ _ 111 (by rfl) 9 155 Tryz.underlying111 Tryz.underlying9 (plVal (0, 0)) (zeroPlace _) mb (plV (plAll ps)) hmi t (by rfl) (by rfl) _ hcu ?_))
      have qx := Q.alloc wi (.cells #[.int .i64 (a1 : Nat), .int .i64 (a2 : Nat)] 155)
      have cc := cells2 (heap_alloc_new wi (.cells #[.int .i64 (a1 : Nat), .int .i64 (a2 : Nat)] 155))
      refine docs_row w3.heap.size b off ps.length cap wi.heap.size p a1 a2 j ds os _ _ cc.1 cc.2 (cell_stays qx hcp) (HSI.out.stays qx) ha1 ha3 hdl2 (rowAl _ HOU.out) (by simp; omega) (by omega) (fun e => by have := (HLOW.out _ e.symm).2; omega) (fun e => by have := (HLOW.out _ e.symm).1; omega) _ _ _ _ _ _ _ _ _ _ _ _ _ _ _ _ _ _ _ _ _ _ _ _ _ _ _ _ _ _ _ _ _ _ _ _ _ ?_
      intro wa g2 cap2 z21 z22 z23 z24 z25 z26 z27 z28 z29 z30 z31 z32 z33 z34 z35 z36 hoa hga
      have hba := (HHQ.out.alloc hszi (.cells #[.int .i64 (a1 : Nat), .int .i64 (a2 : Nat)] 155)).grown hga (by simp; omega) (fun x hx => (HLOW.out x hx).1)
      have HOA := Lib.hid hoa; have HBA := Lib.hid hba
      clear hoa hga hba hmi hcp
      go_wp2_with fail
      go_roundw
      case rel => exact ⟨j + 1, by go_num, by omega, by show World.ownsRow _ _ _ _ _ _ _; rw [HTK.out]; exact HOA.out, HBA⟩
      case measure => simp [intOf]; omega
    · have hje : j = ks.length := by omega
      subst hje
      have ho6 := HO.out
      rw [List.take_length, ← HDL.out] at ho6
      have hl6 : ks.length = (docsL ps).length := by rw [HDL.out, List.length_map]
      rw [hl6] at ho6
      have ho7 := owns_low ho6 (show w.heap.size ≤ w3.heap.size from HQ3.out.size)
      have hq7 := HQ3.out.trans HQ.out
      have HO7 := Lib.hid ho7; have HQ7 := Lib.hid hq7
      clear ho6 hl6 ho7 hq7 HO HQ
      go_wp2_with fail
      go_ret
      exact ⟨_, rfl, HO7.out, HQ7.out⟩
end Go.Proofs.YtcflpcpkmhljkaaGreatDoor
end

/- (WLiveM) live.Docs, Many, Get: walked. -/
section
namespace Go.Proofs.YtcflpcpkmhljkaaGreatDoor
open Go.RowKit
set_option linter.unusedVariables false

abbrev liveV (v : Value) : Value := .agg #[v]
set_option maxRecDepth 100000 in
set_option maxHeartbeats 1000000 in
theorem LiveDocs_any (v : Value) (ps : List PartL) (w : World) (hv : PartsAt w v ps) (hn : ps.length ≤ 1000000) (hok : ∀ p ∈ ps, PartOk p) :
    Calls Tryz.prog 29 #[liveV v] w fun e w' => ∃ v', e = .returned v' ∧ w'.ownsRow w.heap.size 63 2 v' (docsL ps).length (docVs (docsL ps)) ∧ Q w w' := by
  have c := LDocs_any v ps (w.alloc (.cells #[v] 37)) (hv.stays (Q.alloc _ _)) hn hok
  obtain ⟨a, cap, rfl, _⟩ := hv.value
  have C := Lib.hid c
  clear c hv hok
  go_enter Tryz.func29, Tryz.ntmps29
  go_wp2_with fail
  refine C.out.mono ?_
  rintro e w1 ⟨v', rfl, ho, q⟩
  have ho2 := owns_low ho (show w.heap.size ≤ (w.alloc (.cells #[.slice a ps.length cap] 37)).heap.size by simp)
  have q2 := (Q.alloc w (.cells #[.slice a ps.length cap] 37)).trans q
  have HO := Lib.hid ho2; have HQ := Lib.hid q2
  clear ho ho2 q q2
  go_wp2_with fail
  go_ret
  exact ⟨_, rfl, HO.out, HQ.out⟩
set_option maxRecDepth 100000 in
set_option maxHeartbeats 1000000 in
theorem Many_any (v : Value) (ps : List PartL) (w : World) (hv : PartsAt w v ps) (hn : ps.length ≤ 1000000) (hok : ∀ p ∈ ps, PartOk p) :
    Calls Tryz.prog 27 #[liveV v] w fun e w' => e = .returned (.int .i64 ((liveM ps).length : Nat)) ∧ Q w w' := by
  have c := Places_any v ps (w.alloc (.cells #[v] 37)) (hv.stays (Q.alloc _ _)) hn (fun p hp => (hok p hp).lens)
  obtain ⟨a, cap, rfl, _⟩ := hv.value
  have hl : (plV (plAll ps)).length = (liveM ps).length := by rw [← plAll_length]; simp [plV]
  have C := Lib.hid c; have HL := Lib.hid hl
  clear c hv hok hl
  go_enter Tryz.func27, Tryz.ntmps27
  go_wp2_with fail
  refine C.out.mono ?_
  rintro e w1 ⟨mb, rfl, hm, q⟩
  have q2 := (Q.alloc w (.cells #[.slice a ps.length cap] 37)).trans q
  have HQ := Lib.hid q2
  clear q q2
  go_wp2_with (at_len; refine wpList_len_map w1 (by rfl) _ 111 (by rfl) 9 155 Tryz.underlying111 mb (plV (plAll ps)) hm (by rfl) ?_)
  rw [HL.out]
  go_wp2_with fail
  go_ret
  exact ⟨rfl, HQ.out⟩
end Go.Proofs.YtcflpcpkmhljkaaGreatDoor
end

/- (WOrd) cmp.Compare at ints and texts, cmp.Or, score.order: walked. -/
section
namespace Go.Proofs.YtcflpcpkmhljkaaGreatDoor
open Go.RowKit
set_option linter.unusedVariables false

/-- a later world: draws, and new blocks -/
def GR (w w' : World) : Prop := ∃ (q : Nat) (os : Array Obj), w' = Go.Sort.grow (w.drewN q) os
theorem GR.refl (w : World) : GR w w := ⟨0, #[], by rw [Go.Sort.grow_empty]; rfl⟩
theorem GR.dr {w w' : World} (h : GR w w') : GR w w'.drew := by
  obtain ⟨q, os, rfl⟩ := h
  exact ⟨q + 1, os, rfl⟩
theorem GR.al {w w' : World} (h : GR w w') (o : Obj) : GR w (w'.alloc o) := by
  obtain ⟨q, os, rfl⟩ := h
  exact ⟨q, os ++ #[o], by rw [Go.Sort.alloc_eq_grow, Go.Sort.grow_grow]⟩
theorem GR.q {w w' : World} (h : GR w w') : Q w w' := by
  obtain ⟨q, os, rfl⟩ := h
  refine ⟨rfl, rfl, rfl, by rw [Go.Sort.size_grow]; exact Nat.le_add_right _ _, fun k hk => ?_⟩
  show (w.heap ++ os)[k]? = w.heap[k]?
  rw [Array.getElem?_append_left hk]
theorem isNaNS_any (x : Bytes) (w : World) : Calls Tryz.prog 128 #[strV x] w fun e w' => e = .returned (.bool false) ∧ w = w' := by
  go_enter Tryz.func128, Tryz.ntmps128
  go_wp2
  go_ret
  exact ⟨by simp, rfl⟩
theorem cmpI_any (x y : Int) (w : World) : Calls Tryz.prog 80 #[.int .i64 x, .int .i64 y] w fun e w' => e = .returned (.int .i64 (Lib.compareInt x y)) ∧ w = w' := by
  go_enter Tryz.func80, Tryz.ntmps80
  go_wp2_with (go_at_call 127; refine (isNaN1_any _ _).mono ?_; rintro e w' ⟨rfl, rfl⟩)
  all_goals (go_ret; refine ⟨?_, rfl⟩; unfold Lib.compareInt; (repeat' split) <;> first | rfl | (exfalso; omega))
theorem less_no {a b : Bytes} (h : ¬ a < b) : Op.bytesLess a b = false := by
  rw [lessL_eq, Bool.eq_false_iff]; exact fun hl => h ((lessL_iff a b).1 hl)
theorem less_yes {a b : Bytes} (h : a < b) : Op.bytesLess a b = true := by
  rw [lessL_eq]; exact (lessL_iff a b).2 h
theorem greater_eq' (x t : Bytes) : (!Op.bytesLess x t && !x == t) = lessL t x := by
  rw [lessL_eq]
  by_cases h : x < t
  · rw [(lessL_iff x t).2 h]
    have : ¬ t < x := List.not_lt.2 (List.le_of_lt h)
    rw [Bool.eq_false_iff.2 (fun hl => this ((lessL_iff t x).1 hl))]; rfl
  · rw [Bool.eq_false_iff.2 (fun hl => h ((lessL_iff x t).1 hl))]
    by_cases e : x = t
    · subst e
      rw [Bool.eq_false_iff.2 (fun hl => h ((lessL_iff x x).1 hl))]; simp
    · rw [(lessL_iff t x).2 (less_total h e)]; simp [e]
set_option maxHeartbeats 1000000 in
theorem cmpS_any (x y : Bytes) (w : World) : Calls Tryz.prog 81 #[strV x, strV y] w fun e w' => e = .returned (.int .i64 (cmpB x y)) ∧ w = w' := by
  unfold cmpB
  by_cases h1 : x < y
  · have hb := less_yes h1
    rw [if_pos h1]
    clear h1
    go_enter Tryz.func81, Tryz.ntmps81
    go_wp2_with (go_at_call 128; refine (isNaNS_any _ _).mono ?_; rintro e w' ⟨rfl, rfl⟩)
    go_ret
    exact ⟨rfl, rfl⟩
  · have hb := less_no h1
    have hg := greater_eq' x y
    rw [if_neg h1]
    by_cases h2 : y < x
    · rw [(lessL_iff y x).2 h2] at hg
      rw [if_pos h2]
      have hb2 : (!x == y) = true := by rw [hb] at hg; simpa using hg
      clear h1 h2
      go_enter Tryz.func81, Tryz.ntmps81
      go_wp2_with (go_at_call 128; refine (isNaNS_any _ _).mono ?_; rintro e w' ⟨rfl, rfl⟩)
      go_ret
      exact ⟨rfl, rfl⟩
    · rw [Bool.eq_false_iff.2 (fun hl => h2 ((lessL_iff y x).1 hl))] at hg
      rw [if_neg h2]
      have hb2 : (!x == y) = false := by rw [hb] at hg; simpa using hg
      clear h1 h2
      go_enter Tryz.func81, Tryz.ntmps81
      go_wp2_with (go_at_call 128; refine (isNaNS_any _ _).mono ?_; rintro e w' ⟨rfl, rfl⟩)
      go_ret
      exact ⟨rfl, rfl⟩
set_option maxHeartbeats 1000000 in
theorem Or_any (b c : Nat) (x y : Int) (w : World) (h0 : w.cell? ⟨b, 0, none⟩ = some (.int .i64 x)) (h1 : w.cell? ⟨b, 1, none⟩ = some (.int .i64 y)) :
    Calls Tryz.prog 79 #[.slice (some ⟨b, 0, none⟩) 2 c] w fun e w' => e = .returned (.int .i64 (if x = 0 then y else x)) ∧ w = w' := by
  go_enter Tryz.func79, Tryz.ntmps79
  go_wp2_with fail
  go_loopw [8] (fun i wr => ∃ k : Nat, k ≤ 2 ∧ i = .int .i64 (k : Nat) ∧ w = wr ∧ (0 < k → x = 0) ∧ (1 < k → y = 0)) (fun i _ => 2 - (intOf i).toNat)
  case atStart => exact ⟨0, by omega, rfl, rfl, fun h => by omega, fun h => by omega⟩
  case round =>
    obtain ⟨k, hk, rfl, rfl, hx, hy⟩ := hrel
    by_cases k0 : k = 0
    · subst k0
      by_cases ex : x = 0
      · subst ex
        go_wp2_with fail
        go_roundw
        case rel => exact ⟨1, by omega, by first | rfl | trivial, by first | rfl | trivial, by simp, by simp⟩
        case measure => simp [intOf]
      · have hb : (x != 0) = true := bne_iff_ne.2 ex
        have HX := Lib.hid ex
        clear hx hy ex
        go_wp2_with fail
        go_ret
        exact ⟨rfl, rfl⟩
    · have ex := hx (by omega)
      subst ex
      by_cases k1 : k = 1
      · subst k1
        by_cases ey : y = 0
        · subst ey
          clear hx hy
          go_wp2_with fail
          go_roundw
          case rel => exact ⟨2, by omega, by first | rfl | trivial, by first | rfl | trivial, by simp, by simp⟩
          case measure => simp [intOf]
        · have hb : (y != 0) = true := bne_iff_ne.2 ey
          clear hx hy
          go_wp2_with fail
          go_ret
          exact ⟨rfl, rfl⟩
      · have hk2 : k = 2 := by omega
        subst hk2
        have ey := hy (by omega)
        subst ey
        clear hx hy
        go_wp2_with fail
        go_ret
        exact ⟨rfl, rfl⟩
theorem Or_lit (W : World) (t : TypeId) (x y : Int) : Calls Tryz.prog 79 #[.slice (some ⟨W.heap.size, 0, none⟩) 2 2] (W.alloc (.cells #[.int .i64 x, .int .i64 y] t)) fun e w' => e = .returned (.int .i64 (if x = 0 then y else x)) ∧ W.alloc (.cells #[.int .i64 x, .int .i64 y] t) = w' := by
  obtain ⟨h0, h1, _⟩ := (Blk.new W t #[.int .i64 x, .int .i64 y]).c2
  exact Or_any _ _ x y _ h0 h1
theorem Or_litd (W : World) (t : TypeId) (x y : Int) : Calls Tryz.prog 79 #[.slice (some ⟨W.heap.size, 0, none⟩) 2 2] (W.alloc (.cells #[.int .i64 x, .int .i64 y] t)).drew fun e w' => e = .returned (.int .i64 (if x = 0 then y else x)) ∧ (W.alloc (.cells #[.int .i64 x, .int .i64 y] t)).drew = w' := by
  obtain ⟨h0, h1, _⟩ := (Blk.new W t #[.int .i64 x, .int .i64 y]).c2
  exact Or_any _ _ x y _ (cell_stays (Q.drew _) h0) (cell_stays (Q.drew _) h1)
abbrev hitV (h : HitL) : Value := .agg #[strV h.1, .int .i64 (h.2 : Nat)]
set_option maxHeartbeats 4000000 in
set_option maxRecDepth 100000 in
theorem Order_any (a b : HitL) (w : World) : Calls Tryz.prog 44 #[hitV a, hitV b] w fun e w' => e = .returned (.int .i64 (ordH a b)) ∧ GR w w' := by
  obtain ⟨ia, za⟩ := a
  obtain ⟨ib, zb⟩ := b
  have hgr0 : GR w ((w.alloc (.cells #[strV ia, .int .i64 (za : Nat)] 49)).alloc (.cells #[strV ib, .int .i64 (zb : Nat)] 49)) := ((GR.refl w).al _).al _
  have k1 := (Blk.new w 49 #[strV ia, .int .i64 (za : Nat)]).alloc (.cells #[strV ib, .int .i64 (zb : Nat)] 49)
  have k2 := Blk.new (w.alloc (.cells #[strV ia, .int .i64 (za : Nat)] 49)) 49 #[strV ib, .int .i64 (zb : Nat)]
  rw [World.size_alloc] at k2
  have HG := Lib.hid hgr0; have HK1 := Lib.hid k1; have HK2 := Lib.hid k2
  clear hgr0 k1 k2
  have hmx : Tryz.prog.follows .mixedOrders = true := by kernel_rfl
  have hor : ordH (ia, za) (ib, zb) = if Lib.compareInt (zb : Int) (za : Int) = 0 then cmpB ia ib else Lib.compareInt (zb : Int) (za : Int) := rfl
  rw [hor]
  clear hor
  generalize hc1 : Lib.compareInt (zb : Int) (za : Int) = c1
  generalize hc2 : cmpB ia ib = c2
  have C1 : Hid (∀ W, Calls Tryz.prog 80 #[.int .i64 (zb : Int), .int .i64 (za : Int)] W fun e w' => e = .returned (.int .i64 c1) ∧ W = w') := by rw [← hc1]; exact fun W => cmpI_any _ _ W
  have C2 : Hid (∀ W, Calls Tryz.prog 81 #[strV ia, strV ib] W fun e w' => e = .returned (.int .i64 c2) ∧ W = w') := by rw [← hc2]; exact fun W => cmpS_any _ _ W
  clear hc1 hc2
  obtain ⟨r, hr⟩ : ∃ r, r = if c1 = 0 then c2 else c1 := ⟨_, rfl⟩
  have C3 : Hid (∀ (W : World) (t : TypeId), Calls Tryz.prog 79 #[.slice (some ⟨W.heap.size, 0, none⟩) 2 2] (W.alloc (.cells #[.int .i64 c1, .int .i64 c2] t)) fun e w' => e = .returned (.int .i64 r) ∧ W.alloc (.cells #[.int .i64 c1, .int .i64 c2] t) = w') := by rw [hr]; exact fun W t => Or_lit W t c1 c2
  have C4 : Hid (∀ (W : World) (t : TypeId), Calls Tryz.prog 79 #[.slice (some ⟨W.heap.size, 0, none⟩) 2 2] (W.alloc (.cells #[.int .i64 c1, .int .i64 c2] t)).drew fun e w' => e = .returned (.int .i64 r) ∧ (W.alloc (.cells #[.int .i64 c1, .int .i64 c2] t)).drew = w') := by rw [hr]; exact fun W t => Or_litd W t c1 c2
  rw [← hr]
  clear hr
  go_enter Tryz.func44, Tryz.ntmps44
  go_wp2_with fail
  generalize hwb : ((w.alloc (.cells #[strV ia, .int .i64 (za : Nat)] 49)).alloc (.cells #[strV ib, .int .i64 (zb : Nat)] 49)) = wb at *
  have kk : GR w wb := by rw [← hwb]; exact ((GR.refl w).al _).al _
  generalize hB : w.heap.size = B at *
  obtain ⟨a0, a1, _⟩ := HK1.out.c2
  obtain ⟨b0, b1, _⟩ := HK2.out.c2
  have KK := Lib.hid kk
  clear kk hwb hB HK1 HK2
  go_region_held3 (fun w' => w'.cell? ⟨B, 0, none⟩ = some (strV ia) ∧ w'.cell? ⟨B, 1, none⟩ = some (.int .i64 (za : Nat)) ∧ w'.cell? ⟨B + 1, 0, none⟩ = some (strV ib) ∧ w'.cell? ⟨B + 1, 1, none⟩ = some (.int .i64 (zb : Nat))) (first | exact ⟨a0, a1, b0, b1⟩ | exact ⟨cell_stays (Q.drew _) a0, cell_stays (Q.drew _) a1, cell_stays (Q.drew _) b0, cell_stays (Q.drew _) b1⟩ | exact ⟨cell_stays (Q.alloc _ _) a0, cell_stays (Q.alloc _ _) a1, cell_stays (Q.alloc _ _) b0, cell_stays (Q.alloc _ _) b1⟩ | exact ⟨cell_stays ((Q.alloc _ _).trans (Q.drew _)) a0, cell_stays ((Q.alloc _ _).trans (Q.drew _)) a1, cell_stays ((Q.alloc _ _).trans (Q.drew _)) b0, cell_stays ((Q.alloc _ _).trans (Q.drew _)) b1⟩ | exact ⟨cell_stays ((Q.drew _).trans (Q.alloc _ _)) a0, cell_stays ((Q.drew _).trans (Q.alloc _ _)) a1, cell_stays ((Q.drew _).trans (Q.alloc _ _)) b0, cell_stays ((Q.drew _).trans (Q.alloc _ _)) b1⟩)
    (first
      | (go_at_call 80; ((with_reducible refine (C1.out _).mono ?_); rintro e w' ⟨rfl, rfl⟩))
      | (go_at_call 81; ((with_reducible refine (C2.out _).mono ?_); rintro e w' ⟨rfl, rfl⟩))
      | (go_at_call 79; (refine (C3.out _ _).mono ?_; rintro e w' ⟨rfl, rfl⟩))
      | (go_at_call 79; (refine (C4.out _ _).mono ?_; rintro e w' ⟨rfl, rfl⟩)))
  go_wp2_with fail
  go_ret
  refine ⟨rfl, ?_⟩
  (repeat (first | with_reducible exact KK.out | with_reducible apply GR.al | with_reducible apply GR.dr))
end Go.Proofs.YtcflpcpkmhljkaaGreatDoor
end

/- (WSort) slices.SortFunc at hits: laid; what it leads to. -/
section
namespace Go.Proofs
open Go.Shelf Go.RowKit Go.Lib Go.Sort
shelf_lay_g SlLaysF0.n6 Slsf 6 at Tryz 43 as Tryz.sortHit
end Go.Proofs
namespace Go.Proofs.YtcflpcpkmhljkaaGreatDoor
open Go.RowKit
set_option linter.unusedVariables false

def encH (h : HitL) : List Value := [strV h.1, .int .i64 (h.2 : Nat)]
def hitVs (hs : List HitL) : List Value := hs.flatMap encH
theorem hitVs_cons (h : HitL) (hs : List HitL) : hitVs (h :: hs) = strV h.1 :: .int .i64 (h.2 : Nat) :: hitVs hs := rfl
theorem hitVs_append (a b : List HitL) : hitVs (a ++ b) = hitVs a ++ hitVs b := by unfold hitVs; rw [List.flatMap_append]
theorem hitVs_len (hs : List HitL) : (hitVs hs).length = hs.length * 2 := by
  induction hs with
  | nil => rfl
  | cons h hs ih => rw [hitVs_cons, List.length_cons, List.length_cons, ih, List.length_cons]; omega
theorem hitVs_at (hs : List HitL) (i : Nat) (h : i < hs.length) : (hitVs hs)[i * 2]? = some (strV hs[i].1) ∧ (hitVs hs)[i * 2 + 1]? = some (.int .i64 (hs[i].2 : Nat)) := by
  induction hs generalizing i with
  | nil => simp at h
  | cons x hs ih =>
    rw [hitVs_cons]
    cases i with
    | zero => exact ⟨rfl, rfl⟩
    | succ i =>
      rw [show (i + 1) * 2 = i * 2 + 1 + 1 by omega]
      exact ih i (by simpa using h)
/-- hits in memory -/
def Hits (w : World) (v : Value) (hs : List HitL) : Prop := Sl w v hs.length 2 (hitVs hs)
theorem Hits.stays {w w' : World} {v : Value} {hs : List HitL} (h : Hits w v hs) (q : Q w w') : Hits w' v hs := Sl.stays h q
theorem Hits.nil (w : World) : Hits w (.slice none 0 0) [] := Sl.nil w 2
theorem Hits.value {w : World} {v : Value} {hs : List HitL} (h : Hits w v hs) : ∃ a cap, v = .slice a hs.length cap ∧ (0 < hs.length → ∃ b off, a = some ⟨b, off, none⟩ ∧ ∀ i (hi : i < hs.length), w.cell? ⟨b, off + i * 2, none⟩ = some (strV hs[i].1) ∧ w.cell? ⟨b, off + i * 2 + 1, none⟩ = some (.int .i64 (hs[i].2 : Nat))) := by
  obtain ⟨_, a, cap, h1, h2⟩ := h
  refine ⟨a, cap, h1, fun hn => ?_⟩
  obtain ⟨b, off, h3, h4⟩ := h2 hn
  exact ⟨b, off, h3, fun i hi => ⟨h4 _ _ (hitVs_at hs i hi).1, by rw [Nat.add_assoc]; exact h4 _ _ (hitVs_at hs i hi).2⟩⟩
theorem flat_at (hs : List HitL) (j : Nat) (hj : j < hs.length * 2) : (hitVs hs)[j]? = some ((encH hs.toArray[j / 2]!)[j % 2]!) := by
  have hi : j / 2 < hs.length := by omega
  have e : hs.toArray[j / 2]! = hs[j / 2] := by rw [getElem!_pos hs.toArray (j / 2) (by simpa using hi)]; simp
  obtain ⟨h0, h1⟩ := hitVs_at hs (j / 2) hi
  rw [e]
  have hd := Nat.div_add_mod j 2
  rcases Nat.mod_two_eq_zero_or_one j with h | h
  · have hj2 : j = j / 2 * 2 := by omega
    rw [h]
    conv => lhs; rw [hj2]
    exact h0
  · have hj2 : j = j / 2 * 2 + 1 := by omega
    rw [h]
    conv => lhs; rw [hj2]
    exact h1
theorem holds_hits {w : World} {base g cap : Nat} {hs : List HitL} (ho : w.ownsRow base 49 2 (.slice (some ⟨g, 0, none⟩) hs.length cap) hs.length (hitVs hs)) : Go.Sort.HoldsK encH 2 w g 0 hs.toArray := by
  intro j hj
  rw [Go.Sort.size_flatK] at hj
  have hj' : j < hs.length * 2 := by simpa using hj
  obtain ⟨_, a, c, hv, hc⟩ := Sl.of_owns ho
  obtain ⟨b, off, hb, hcc⟩ := hc (by omega)
  have hb' : some ⟨g, 0, none⟩ = a := by cases hv; rfl
  rw [hb] at hb'
  cases hb'
  rw [Go.Sort.get_flatK _ _ _ _ hj]
  refine ⟨hcc j _ (flat_at hs j hj'), ?_⟩
  obtain ⟨cs, hcs⟩ := owns_kind ho g rfl
  simp [World.frozen?, hcs]
theorem sort_grown (w : World) (blk off n : Nat) (d : Array HitL) (os : Array Obj) : w.grownBy (sortWorldK encH 2 w blk off n d os) (some blk) := by
  refine ⟨rfl, rfl, rfl, ?_, fun k hk hne => ?_⟩
  · unfold sortWorldK
    rw [Go.Sort.size_grow]
    have : (Go.Sort.putRowK encH 2 (Go.Sort.ahead w n) blk off d).heap.size = w.heap.size := by rw [Go.Sort.size_putRowK]; rfl
    omega
  · have hb : blk ≠ k := fun e => hne (by rw [e])
    have hs : (Go.Sort.putRowK encH 2 (Go.Sort.ahead w n) blk off d).heap.size = w.heap.size := by rw [Go.Sort.size_putRowK]; rfl
    show ((Go.Sort.putRowK encH 2 (Go.Sort.ahead w n) blk off d).heap ++ os)[k]? = w.heap[k]?
    rw [Array.getElem?_append_left (by omega)]
    show (w.heap.modify blk _)[k]? = w.heap[k]?
    rw [Array.getElem?_modify, if_neg hb]
set_option maxHeartbeats 1000000 in
theorem Ins_nil (cap : Nat) (w : World) (x : Value) : Calls Tryz.prog 119 #[.slice none 0 cap, .int .i64 0, .int .i64 0, x] w fun e w' => e = .returned (.tuple #[]) ∧ w = w' := by
  go_enter Tryz.func119, Tryz.ntmps119
  go_wp2_with fail
  go_loopw [8] (fun i wr => i = .int .i64 1 ∧ w = wr) (fun _ _ => 0)
  case atStart => exact ⟨rfl, rfl⟩
  case round =>
    obtain ⟨rfl, rfl⟩ := hrel
    go_wp2_with fail
    go_end0
    exact ⟨rfl, rfl⟩
set_option maxRecDepth 100000 in
set_option maxHeartbeats 1000000 in
theorem Pdq_nil (cap : Nat) (w : World) (x : Value) (n : Nat) : Calls Tryz.prog 78 #[.slice none 0 cap, .int .i64 0, .int .i64 0, .int .i64 (n : Nat), x] w fun e w' => e = .returned (.tuple #[]) ∧ w = w' := by
  go_enter Tryz.func78, Tryz.ntmps78
  go_wp2_with fail
  go_loopw [1, 2] (fun x y wr => x = .int .i64 0 ∧ y = .int .i64 0 ∧ w = wr) (fun _ _ _ => 0)
  case atStart => exact ⟨rfl, rfl, rfl⟩
  case round =>
    obtain ⟨rfl, rfl, rfl⟩ := hrel
    go_wp2_with (go_at_call 119; refine (Ins_nil _ _ _).mono ?_; rintro e w' ⟨rfl, rfl⟩)
    refine bodyPost_ret (results_none rfl _ _ _) rfl ?_
    exact ⟨rfl, rfl⟩
set_option maxHeartbeats 1000000 in
theorem Sort_nil (cap : Nat) (w : World) (x : Value) : Calls Tryz.prog 43 #[.slice none 0 cap, x] w fun e w' => e = .returned (.tuple #[]) ∧ w = w' := by
  go_enter Tryz.func43, Tryz.ntmps43
  go_wp2_with (first | (go_at_call 34; refine (BitsLen_any 0 _ (by omega)).mono ?_; rintro e w' ⟨rfl, rfl⟩) | (go_at_call 78; refine (Pdq_nil _ _ _ _).mono ?_; rintro e w' ⟨rfl, rfl⟩))
  go_end0
  exact ⟨rfl, rfl⟩
theorem cmpLaysH (blk off size : Nat) (w : World) : CmpLays Tryz.prog 44 #[] encH 2 ordH blk off size w := fun _ _ _ _ x y => Order_any x y _
theorem ltOrd : ltOf ordH = hitLt := funext fun x => funext fun y => ordH_lt x y
/-- slices.SortFunc at a row of hits that a call owns -/
theorem SortHits_any (base : Nat) (v : Value) (hs : List HitL) (W : World) (ho : W.ownsRow base 49 2 v hs.length (hitVs hs)) (hlen : hs.length ≤ 1000000000) (ds : List DocL) (q : QL) (hd : hs = hitsL ds q) :
    Calls Tryz.prog 43 #[v, .func (.func 44) #[] #[]] W fun e w' => e = .returned (.tuple #[]) ∧ Hits w' v (searchL ds q) ∧ ∀ n₀, n₀ ≤ base → n₀ ≤ W.heap.size → Below n₀ W w' := by
  have hl : (searchL ds q).length = hs.length := by rw [(search_perm ds q).length_eq, hd]
  obtain ⟨a, cap, rfl, hsm⟩ := owns_value ho
  rcases ho.2 with ⟨hv, hz⟩ | ⟨g, cap', cur, hv, hb, hg, _⟩
  · injection hv with e1 e2 e3
    subst e1; subst e3
    rw [hz]
    refine (Sort_nil _ W _).mono ?_
    rintro e w' ⟨rfl, rfl⟩
    have : searchL ds q = [] := List.eq_nil_of_length_eq_zero (by omega)
    rw [this]
    exact ⟨rfl, Hits.nil _, fun n₀ _ _ => Below.refl _ _⟩
  · injection hv with e1 e2 e3
    subst e1; subst e3
    have hH := holds_hits ho
    have hlt := (ho.lt g rfl).2
    have eg : ∀ args w, (callFunc 44 args).run Tryz.prog w = .ok (.enter 44 args) w := enters_of Tryz.func44 (by kernel_rfl) rfl
    have hcon := AnyQ.slices_SortFunc Tryz.sortHit 2 Tryz.isAgg49 Tryz.sizeOf49 encH (fun _ => rfl) (fun x v hv => by simp [encH] at hv; rcases hv with rfl | rfl <;> rfl) ordH (by rw [ltOrd]; exact hit_swo) 44 #[] g 0 cap hs.toArray W eg (cmpLaysH g 0 _ W) hH hlt (by simp; omega)
    have e : hs.toArray.size = hs.length := by simp
    rw [e] at hcon
    change Calls Tryz.prog 43 _ _ _ at hcon
    refine hcon.mono ?_
    rintro e w' ⟨rfl, d', n, os, hp, hs', rfl⟩
    rw [ltOrd] at hs'
    have hss := sorted_search (ds := ds) (q := q) (d := hs.toArray) (d' := d') (by simpa using hd) (by simpa using hp) (by simpa using hs')
    have hsz : d'.size = hs.toArray.size := hp.1
    have hK : Go.Sort.HoldsK encH 2 (sortWorldK encH 2 W g 0 n d' os) g 0 d' := holdsK_sortWorldK_c encH 2 W g 0 hs.toArray d' n os hH hlt hsz
    refine ⟨rfl, ?_, fun n₀ h1 h2 => (Below.refl _ _).grown (sort_grown W g 0 n d' os) h2 (fun k hk => by cases hk; omega)⟩
    refine ⟨by rw [hitVs_len], some ⟨g, 0, none⟩, cap, by rw [hl], fun hn => ⟨g, 0, rfl, fun j u hj => ?_⟩⟩
    have hjl : j < (searchL ds q).length * 2 := by
      have := (List.getElem?_eq_some_iff.1 hj).1
      rwa [hitVs_len] at this
    have hfa := flat_at (searchL ds q) j hjl
    rw [hj] at hfa
    have hda : (searchL ds q).toArray = d' := by rw [← hss]
    rw [hda] at hfa
    have hc := (hK.cell (i := j / 2) (c := j % 2) (by rw [hsz]; simp; omega) (by omega)).1
    rw [Option.some.inj hfa, ← hc]
    congr 2
    omega
end Go.Proofs.YtcflpcpkmhljkaaGreatDoor
end
