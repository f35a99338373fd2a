/- Joined texts of one proof: WLiveQ, WLiveG, WLiveC, BitC. -/
import Derived.Test.YtoabhcfmdkhmgaaGreatDoorPWRef15eToWPlaces
import Derived.Deep.RegionLaw
import Derived.Test.YtoabhcfmdkhmgaaGreatDoorPPostRdToAppSl
import Derived.Test.YtoabhcfmdkhmgaaGreatDoorProg
import Derived.Test.YtoabhcfmdkhmgaaGreatDoorPWRef11aToBase
import Derived.WalkKit
import Derived.WalkSpells
import Derived.WalkLawsBesides
import Derived.Outline
set_option linter.unusedSimpArgs false
set_option linter.unusedVariables false
set_option linter.unnecessarySimpa false
/- (WLiveQ) live.docs: the region that puts a document behind the others; live.docs, Docs, Many, Get: walked. -/
section
namespace Go.Proofs.YtoabhcfmdkhmgaaGreatDoor
open Go.RowKit
set_option linter.unusedVariables false

noncomputable def docsRow : Code := ((Tryz.f26.body.bind (findRegion 7)).getD .skip)
set_option maxRecDepth 100000 in
set_option maxHeartbeats 1000000 in
theorem docs_row (base b off n pc X p a1 a2 m : Nat) (ds os : List DocL) (v : Value) (w : World) (cX0 : w.cell? ⟨X, 0, none⟩ = some (.int .i64 (a1 : Nat))) (cX1 : w.cell? ⟨X, 1, none⟩ = some (.int .i64 (a2 : Nat)))
    (cP : w.cell? ⟨b, off + a1 * 2, none⟩ = some (.pointer (some ⟨p, 0, none⟩))) (hS : SegAt w p ds (idxS ds)) (ha1 : a1 < n) (ha2 : a2 < ds.length) (hdl : ds.length ≤ 1000000)
    (hown : w.ownsRow base 49 2 v m (docVs os)) (hb : base ≤ w.heap.size) (hlen : m ≤ 1000000000) (hXr : some X ≠ v.ownBlock) (hbr : some b ≠ v.ownBlock)
    (Qx : Exit → Act → World → Prop) (x1 x2 x3 x5 x6 x8 x9 x10 x11 x12 x13 x14 x15 x16 x17 x18 x19 x20 x21 x22 x23 x24 x25 x26 x27 x28 x29 x30 x31 x32 x33 x34 x35 x36 x37 x38 : Value)
    (hQ : ∀ wa g2 cap z21 z22 z23 z24 z25 z26 z27 z28 z29 z30 z31 z32 z33 z34 z35 z36, wa.ownsRow base 49 2 (.slice (some ⟨g2, 0, none⟩) (m + 1) cap) (m + 1) (docVs (os ++ [ds[a2]])) → w.grownBy wa v.ownBlock →
      Qx .normal ⟨#[.slice (some ⟨b, off, none⟩) n pc, x1, x2, x3, .slice (some ⟨g2, 0, none⟩) (m + 1) cap, x5, x6, .pointer (some ⟨X, 0, none⟩), x8, x9, x10, x11, x12, x13, x14, x15, x16, x17, x18, x19, x20, z21, z22, z23, z24, z25, z26, z27, z28, z29, z30, z31, z32, z33, z34, z35, z36, x37, x38], []⟩ wa) :
    docsRow.wp Tryz.prog Qx ⟨#[.slice (some ⟨b, off, none⟩) n pc, x1, x2, x3, v, x5, x6, .pointer (some ⟨X, 0, none⟩), x8, x9, x10, x11, x12, x13, x14, x15, x16, x17, x18, x19, x20, x21, x22, x23, x24, x25, x26, x27, x28, x29, x30, x31, x32, x33, x34, x35, x36, x37, x38], []⟩ w := by
  obtain ⟨i0, hi, hz0, hz1, hz2⟩ := info_parts tinfo49
  conv => arg 2; whnf
  have hmx : Tryz.prog.follows .mixedOrders = true := by kernel_rfl
  have HQX := Lib.hid hQ; have HO := Lib.hid hown; have HS := Lib.hid hS
  clear hQ hown hS
  have hXl : X < w.heap.size := cell_lt cX0
  have hbl : b < w.heap.size := cell_lt cP
  have hB1 : (m + 1) * 32 ≤ 140737488355328 := by omega
  have hB2 : m + 1 ≤ maxLen := by unfold maxLen; omega
  have hi1 : (0 : Int) ≤ (a1 : Int) := by omega
  have hi2 : (a1 : Int) < (n : Int) := by omega
  have hi3 : (0 : Int) ≤ (a2 : Int) := by omega
  have hi4 : (a2 : Int) < (ds.length : Int) := by omega
  refine wp_region_noPanic ?_
  have hone : ∀ u ∈ [strV ds[a2].1, strV ds[a2].2], u.oneCell' = true := by simp [Value.oneCell']
  have hvs := docVs_append os ds[a2]
  go_region_law
    (first
      | (go_simp; go_at_call 17; refine (SegDocs_any p ds (idxS ds) _ (by first | exact HS.out | exact HS.out.stays (Q.drew _)) hdl).mono ?_; rintro e w' ⟨v', rfl, ho, q⟩; obtain ⟨da, dcap, rfl, hdc⟩ := ownsRow_lies ho; obtain ⟨g, rfl, hgc⟩ := hdc (by omega); have cd0 := hgc _ _ (docVs_at ds a2 ha2).1; have cd1 := hgc _ _ (docVs_at ds a2 ha2).2; have o2 := ownsRow_below (rowDr HO.out) q; have O2 := Lib.hid o2; have hb2 : base ≤ (w'.alloc (.cells #[strV ds[a2].1, strV ds[a2].2] 49)).heap.size := (by have := q.size; simp at this ⊢; omega); have hsz : (w'.alloc (.cells #[strV ds[a2].1, strV ds[a2].2] 49)).heap.size = w'.heap.size + 1 := (by simp); have dX0 := cell_stays q cX0; have dX1 := cell_stays q cX1; have dP := cell_stays q cP; clear o2 ho hdc hgc)
      | (refine step_append_lies _ (by rfl) _ _ 37 (by rfl) base 49 i0 (.agg #[strV [], strV []]) 2 32 Tryz.underlying37 hi hz0 hz1 hz2 rfl (by decide) v m (docVs os) (by rfl) (rowAl _ O2.out) ⟨w'.heap.size, 0, none⟩ 1 1 [strV ds[a2].1, strV ds[a2].2] (by rfl) rfl (World.news_of_block (heap_alloc_new w' _)) hone (by decide) hB2 hB1 hb2 (w'.heap.size + 1) hsz ?_; intro g2 cap wa hown1 hgrow hat hlt; have hgr := grown_of (q.trans (Q.alloc _ _)) hgrow; have HW := Lib.hid hown1; clear hown1 hgrow))
  all_goals exact HQX.out wa g2 cap _ _ _ _ _ _ _ _ _ _ _ _ _ _ _ _ (by rw [hvs]; exact HW.out) (by first | exact hgr | exact grown_of (Q.drew _) hgr)
/-! ### bounds -/
theorem plTo_length (ps : List PartL) (h : ∀ p ∈ ps, PartOk p) (n : Nat) (hn : n ≤ ps.length) : (plTo ps n).length ≤ 500 * n := by
  induction n with
  | zero => simp [plTo]
  | succ n ih =>
    have hlt : n < ps.length := by omega
    have e : ps.getD n ([], []) = ps[n] := by rw [List.getD_eq_getElem?_getD, List.getElem?_eq_getElem hlt]; rfl
    have := (h _ (List.getElem_mem hlt)).2.2.1
    have := plIn_length (ps.getD n ([], [])) n (plTo ps n) (ps.getD n ([], [])).1.length
    rw [plTo]
    rw [e] at *
    have := ih (by omega)
    omega
theorem PartOk.lens {p : PartL} (h : PartOk p) : p.1.length ≤ 1000000 ∧ p.2.length ≤ 1000000 := by
  obtain ⟨_, _, h2, h3⟩ := h
  omega
theorem docAt_in (ps : List PartL) (a : Nat × Nat) (h1 : a.1 < ps.length) (h2 : a.2 < (ps.getD a.1 ([], [])).1.length) : ∃ h : a.2 < ps[a.1].1.length, docAt ps a = ps[a.1].1[a.2] := by
  have e : ps.getD a.1 ([], []) = ps[a.1] := by rw [List.getD_eq_getElem?_getD, List.getElem?_eq_getElem h1]; rfl
  rw [e] at h2
  refine ⟨h2, ?_⟩
  unfold docAt
  rw [e, List.getD_eq_getElem?_getD, List.getElem?_eq_getElem h2]; rfl
theorem plAll_key (ps : List PartL) (h : ∀ p ∈ ps, PartOk p) (x : Bytes × (Nat × Nat)) (hx : x ∈ plAll ps) : x.1.length ≤ 40 := by
  obtain ⟨a, b, c⟩ := plTo_ok ps ps.length x hx
  have h1 : x.2.1 < ps.length := by omega
  obtain ⟨h2, e⟩ := docAt_in ps x.2 h1 b
  rw [← c, e]
  have hp := h _ (List.getElem_mem h1)
  exact (rightB_len (hp.1.1 _ (List.getElem_mem h2))).1
theorem zeroPlace (w : World) : (zeroValue 96).run Tryz.prog w = .ok (plVal (0, 0)) w := by
  simp [zeroValue, go_sem]
  rw [show Tryz.t96.zero = some (plVal (0, 0)) from by kernel_rfl]
  rfl
set_option maxRecDepth 100000 in
set_option maxHeartbeats 4000000 in
theorem LDocs_any (v : Value) (ps : List PartL) (w : World) (hv : PartsAt w v ps) (hn : ps.length ≤ 1000000) (hok : ∀ p ∈ ps, PartOk p) :
    Calls Tryz.prog 26 #[v] w fun e w' => ∃ v', e = .returned v' ∧ w'.ownsRow w.heap.size 49 2 v' (docsL ps).length (docVs (docsL ps)) ∧ Q w w' := by
  have cpl := Places_any v ps w hv hn (fun p hp => (hok p hp).lens)
  obtain ⟨a, cap, rfl, hcell⟩ := hv.value
  have hkl0 := plAll_key ps hok
  have hpl0 := plTo_length ps hok ps.length (Nat.le_refl _)
  rw [show plTo ps ps.length = plAll ps from rfl] at hpl0
  have HV := Lib.hid hv; have HC := Lib.hid hcell; have CPL := Lib.hid cpl; have HOK := Lib.hid hok; have HKL0 := Lib.hid hkl0
  clear hv hcell cpl hok hkl0
  go_enter Tryz.func26, Tryz.ntmps26
  go_wp2_with fail
  refine CPL.out.mono ?_
  rintro e wo ⟨mb, rfl, hm, q1⟩
  have hvl : (plV (plAll ps)).length = (plAll ps).length := by simp [plV]
  have hkeys : ∀ x ∈ plV (plAll ps), x.1.length ≤ maxLen := by
    intro x hx
    obtain ⟨y, hy, rfl⟩ := List.mem_map.1 hx
    have := HKL0.out y hy
    show y.1.length ≤ maxLen
    unfold maxLen; omega
  obtain ⟨D, hD, hDs, hDp⟩ := hm.owns (P := Tryz.prog) 9 Tryz.underlying9 (by rw [hvl]; unfold maxLen; omega) hkeys
  have c1 := callsIn_wide.1 (Tryz.maps_Keys_43 (some mb) wo)
  have c2 := callsIn_wide.1 (Tryz.slices_Sorted_keys_42_43 mb (plV (plAll ps)).length D noR wo hD (by rw [hDs, hvl]; unfold maxLen; omega) (by rw [hDs, hvl]; omega))
  have C1 := Lib.hid c1; have C2 := Lib.hid c2; have HM := Lib.hid hm; have HDP := Lib.hid hDp; have HQ1 := Lib.hid q1
  clear c1 c2 hm hD hDs hDp hkeys q1 CPL
  go_wp2_with fail
  refine C1.out.mono ?_
  rintro e w2 ⟨rfl, rfl⟩
  go_wp2_with fail
  refine C2.out.mono ?_
  rintro e w3 ⟨sv, ss, rfl, hp, ho, _, hb3⟩
  have hks : ss.mergeSort (fun x y => decide (x ≤ y)) = sortL ((plAll ps).map (·.1)) := by
    have hpp : ss.Perm ((plAll ps).map (·.1)) := by
      refine hp.trans (HDP.out.trans (List.Perm.of_eq ?_))
      simp [plV, List.map_map]
    exact sortL_perm hpp
  rw [hks] at ho
  have hsl : ss.length = (sortL ((plAll ps).map (·.1))).length := by rw [← hks]; simp
  rw [hsl] at ho
  have hsl2 : (sortL ((plAll ps).map (·.1))).length = (plAll ps).length := by simp [sortL]
  have hkl : ∀ x ∈ sortL ((plAll ps).map (·.1)), x ∈ (plAll ps).map (·.1) := by
    intro x hx
    simpa [sortL] using hx
  obtain ⟨sa, scap, rfl, hsc⟩ := ownsRow_lies ho
  have hqa : Q wo w3 := (Q.alloc wo _).trans hb3
  have hq3 := HQ1.out.trans hqa
  have hm3 := HM.out.stays hqa
  have hdl : docsL ps = (sortL ((plAll ps).map (·.1))).map fun id => docAt ps ((getM id (plAll ps)).getD (0, 0)) := docsL_places ps
  have HSC := Lib.hid hsc; have HM3 := Lib.hid hm3; have HQ3 := Lib.hid hq3; have HKL := Lib.hid hkl; have HDL := Lib.hid hdl
  clear hp ho hb3 hks hqa hq3 hm3 hsc hkl hdl HDP HM HQ1 C1 C2
  generalize sortL ((plAll ps).map (·.1)) = ks at *
  have hk5 : ks.length ≤ 500000000 := by omega
  clear hsl hsl2
  go_wp2_with fail
  go_loopw [4, 14] (fun ov x wr => ∃ j : Nat, x = .int .i64 (j : Nat) ∧ j ≤ ks.length ∧ Hid (wr.ownsRow w3.heap.size 49 2 ov j (docVs ((ks.take j).map fun id => docAt ps ((getM id (plAll ps)).getD (0, 0))))) ∧ Hid (Below w3.heap.size w3 wr)) (fun ov x _ => ks.length - (intOf x).toNat)
  case atStart => exact ⟨0, rfl, by omega, World.ownsRow_nil _ _ _ _, Below.refl _ _⟩
  case round =>
    obtain ⟨j, rfl, hj, HO, HQ⟩ := hrel
    obtain ⟨wi, rfl⟩ : ∃ wi : World, wi = wr := ⟨_, rfl⟩
    have hszi := HQ.out.size
    by_cases hjl : j < ks.length
    · obtain ⟨gs, rfl, hsc⟩ := HSC.out (by omega)
      have hw1 := cell_stays HQ.out (hsc j (strV ks[j]) (by simp [encStr]))
      obtain ⟨at2, hg, ha1, ha2⟩ := plAll_get ps ks[j] (HKL.out _ (List.getElem_mem hjl))
      obtain ⟨ha3, hda⟩ := docAt_in ps at2 ha1 ha2
      have htk : (ks.take (j + 1)).map (fun id => docAt ps ((getM id (plAll ps)).getD (0, 0))) = (ks.take j).map (fun id => docAt ps ((getM id (plAll ps)).getD (0, 0))) ++ [ps[at2.1].1[at2.2]] := by
        rw [List.take_succ_eq_append_getElem hjl, List.map_append, List.map_singleton, hg, Option.getD_some, hda]
      have hmi := HM3.out.stays HQ.out
      have hcu : (getM ks[j] (plV (plAll ps))).getD (plVal (0, 0)) = plVal at2 := by rw [plV_get, hg]; rfl
      obtain ⟨b, off, rfl, hc⟩ := HC.out (by omega)
      obtain ⟨p, hc1, _, hsg⟩ := hc at2.1 ha1
      have hql := HQ3.out.trans HQ.out
      have hcp := cell_stays hql hc1
      have hsi := hsg.stays hql
      have hdl2 := (HOK.out _ (List.getElem_mem ha1)).lens.1
      have hbl := cell_lt hc1
      simp only at hbl
      have hbw := HQ3.out.size
      have hou := HO.out
      have hlow := fun g hg => (hou.lt g hg)
      generalize ((ks.take j).map fun id => docAt ps ((getM id (plAll ps)).getD (0, 0))) = os at *
      generalize ps[at2.1].1 = ds at *
      have HTK := Lib.hid htk; have HSI := Lib.hid hsi; have HOU := Lib.hid hou; have HLOW := Lib.hid hlow; have HHQ := Lib.hid HQ.out
      clear hsc hg ha2 hda htk hc hc1 hsg hql hsi hou hlow HO HQ
      generalize ks[j] = t at *
      obtain ⟨a1, a2⟩ := at2
      simp only at ha1 ha3 hcp HTK
      go_wp2_with (at_lookup; go_must (refine wpList_lookup_val wi (by rfl) _ _ 74 (by rfl) 9 96 Tryz.underlying74 Tryz.underlying9 (plVal (0, 0)) (zeroPlace _) mb (plV (plAll ps)) hmi t (by rfl) (by rfl) _ hcu ?_))
      have qx := Q.alloc wi (.cells #[.int .i64 (a1 : Nat), .int .i64 (a2 : Nat)] 96)
      have cc := cells2 (heap_alloc_new wi (.cells #[.int .i64 (a1 : Nat), .int .i64 (a2 : Nat)] 96))
      refine docs_row w3.heap.size b off ps.length cap wi.heap.size p a1 a2 j ds os _ _ cc.1 cc.2 (cell_stays qx hcp) (HSI.out.stays qx) ha1 ha3 hdl2 (rowAl _ HOU.out) (by simp; omega) (by omega) (fun e => by have := (HLOW.out _ e.symm).2; omega) (fun e => by have := (HLOW.out _ e.symm).1; omega) _ _ _ _ _ _ _ _ _ _ _ _ _ _ _ _ _ _ _ _ _ _ _ _ _ _ _ _ _ _ _ _ _ _ _ _ _ ?_
      intro wa g2 cap2 z21 z22 z23 z24 z25 z26 z27 z28 z29 z30 z31 z32 z33 z34 z35 z36 hoa hga
      have hba := (HHQ.out.alloc hszi (.cells #[.int .i64 (a1 : Nat), .int .i64 (a2 : Nat)] 96)).grown hga (by simp; omega) (fun x hx => (HLOW.out x hx).1)
      have HOA := Lib.hid hoa; have HBA := Lib.hid hba
      clear hoa hga hba hmi hcp
      go_wp2_with fail
      go_roundw
      case rel => exact ⟨j + 1, by go_num, by omega, by show World.ownsRow _ _ _ _ _ _ _; rw [HTK.out]; exact HOA.out, HBA⟩
      case measure => simp [intOf]; omega
    · have hje : j = ks.length := by omega
      subst hje
      have ho6 := HO.out
      rw [List.take_length, ← HDL.out] at ho6
      have hl6 : ks.length = (docsL ps).length := by rw [HDL.out, List.length_map]
      rw [hl6] at ho6
      have ho7 := owns_low ho6 (show w.heap.size ≤ w3.heap.size from HQ3.out.size)
      have hq7 := HQ3.out.trans HQ.out
      have HO7 := Lib.hid ho7; have HQ7 := Lib.hid hq7
      clear ho6 hl6 ho7 hq7 HO HQ
      go_wp2_with fail
      go_ret
      exact ⟨_, rfl, HO7.out, HQ7.out⟩
end Go.Proofs.YtoabhcfmdkhmgaaGreatDoor
end

/- (WLiveG) live.Docs, Many, Get: walked. -/
section
namespace Go.Proofs.YtoabhcfmdkhmgaaGreatDoor
open Go.RowKit
set_option linter.unusedVariables false

abbrev liveV (v : Value) : Value := .agg #[v]
set_option maxRecDepth 100000 in
set_option maxHeartbeats 1000000 in
theorem LiveDocs_any (v : Value) (ps : List PartL) (w : World) (hv : PartsAt w v ps) (hn : ps.length ≤ 1000000) (hok : ∀ p ∈ ps, PartOk p) :
    Calls Tryz.prog 13 #[liveV v] w fun e w' => ∃ v', e = .returned v' ∧ w'.ownsRow w.heap.size 49 2 v' (docsL ps).length (docVs (docsL ps)) ∧ Q w w' := by
  have c := LDocs_any v ps (w.alloc (.cells #[v] 27)) (hv.stays (Q.alloc _ _)) hn hok
  obtain ⟨a, cap, rfl, _⟩ := hv.value
  have C := Lib.hid c
  clear c hv hok
  go_enter Tryz.func13, Tryz.ntmps13
  go_wp2_with fail
  refine C.out.mono ?_
  rintro e w1 ⟨v', rfl, ho, q⟩
  have ho2 := owns_low ho (show w.heap.size ≤ (w.alloc (.cells #[.slice a ps.length cap] 27)).heap.size by simp)
  have q2 := (Q.alloc w (.cells #[.slice a ps.length cap] 27)).trans q
  have HO := Lib.hid ho2; have HQ := Lib.hid q2
  clear ho ho2 q q2
  go_wp2_with fail
  go_ret
  exact ⟨_, rfl, HO.out, HQ.out⟩
set_option maxRecDepth 100000 in
set_option maxHeartbeats 1000000 in
theorem Many_any (v : Value) (ps : List PartL) (w : World) (hv : PartsAt w v ps) (hn : ps.length ≤ 1000000) (hok : ∀ p ∈ ps, PartOk p) :
    Calls Tryz.prog 14 #[liveV v] w fun e w' => e = .returned (.int .i64 ((liveM ps).length : Nat)) ∧ Q w w' := by
  have c := Places_any v ps (w.alloc (.cells #[v] 27)) (hv.stays (Q.alloc _ _)) hn (fun p hp => (hok p hp).lens)
  obtain ⟨a, cap, rfl, _⟩ := hv.value
  have hl : (plV (plAll ps)).length = (liveM ps).length := by rw [← plAll_length]; simp [plV]
  have C := Lib.hid c; have HL := Lib.hid hl
  clear c hv hok hl
  go_enter Tryz.func14, Tryz.ntmps14
  go_wp2_with fail
  refine C.out.mono ?_
  rintro e w1 ⟨mb, rfl, hm, q⟩
  have q2 := (Q.alloc w (.cells #[.slice a ps.length cap] 27)).trans q
  have HQ := Lib.hid q2
  clear q q2
  go_wp2_with (at_len; refine wpList_len_map w1 (by rfl) _ 74 (by rfl) 9 96 Tryz.underlying74 mb (plV (plAll ps)) hm (by rfl) ?_)
  rw [HL.out]
  go_wp2_with fail
  go_ret
  exact ⟨rfl, HQ.out⟩
theorem getL_at (ps : List PartL) (i : Nat) (h : i < ps.length) (id : Bytes) : getL (ps.drop i) id = match findL ps[i].1 id with
    | some k => if bit ps[i].2 k then getL (ps.drop (i + 1)) id else some (ps[i].1.getD k ([], [])).2
    | none => getL (ps.drop (i + 1)) id := by
  rw [List.drop_eq_getElem_cons h, getL]
  cases findL ps[i].1 id <;> rfl
set_option maxRecDepth 100000 in
set_option maxHeartbeats 4000000 in
theorem LGet_any (v : Value) (ps : List PartL) (id : Bytes) (w : World) (hv : PartsAt w v ps) (hn : ps.length ≤ 1000000) (hok : ∀ p ∈ ps, PartOk p) :
    Calls Tryz.prog 9 #[liveV v, .string ⟨id.toArray⟩] w fun e w' => e = .returned (.tuple #[strV ((getL ps id).getD []), .bool (getL ps id).isSome]) ∧ Q w w' := by
  obtain ⟨a, cap, rfl, hcell⟩ := hv.value
  have HC := Lib.hid hcell; have HOK := Lib.hid hok
  clear hv hcell hok
  go_enter Tryz.func9, Tryz.ntmps9
  go_wp2_with fail
  have hq0 := Q.alloc w (.cells #[.slice a ps.length cap] 27)
  have HQ0 := Lib.hid hq0; clear hq0
  go_loopw [13] (fun x wr => ∃ i : Nat, x = .int .i64 (i : Nat) ∧ i ≤ ps.length ∧ Hid (getL ps id = getL (ps.drop i) id) ∧ Hid (Q w wr)) (fun x _ => ps.length - (intOf x).toNat)
  case atStart => exact ⟨0, rfl, by omega, by show _ = _; rw [List.drop_zero], HQ0⟩
  case round =>
    obtain ⟨i, rfl, hi, HG, HQ⟩ := hrel
    obtain ⟨wo, rfl⟩ : ∃ wo : World, wo = wr := ⟨_, rfl⟩
    by_cases hlt : i < ps.length
    · obtain ⟨b, off, rfl, hc⟩ := HC.out (by omega)
      obtain ⟨p, hc1, hc2, hsg⟩ := hc i hlt
      have hw1 := cell_stays HQ.out hc1
      have hw2 := cell_stays HQ.out hc2
      have hqx := Q.alloc wo (.cells #[.pointer (some ⟨p, 0, none⟩), strV ps[i].2] 55)
      have hsw := (hsg.stays HQ.out).stays hqx
      have hpk := HOK.out _ (List.getElem_mem hlt)
      have hnd := hpk.1.2
      have hln := hpk.lens
      have hga := getL_at ps i hlt id
      have hcc := cells2 (heap_alloc_new wo (.cells #[.pointer (some ⟨p, 0, none⟩), strV ps[i].2] 55))
      obtain ⟨hb0, hb1⟩ := hcc
      have hq2 := HQ.out.trans hqx
      rw [← HG.out] at hga
      clear hc hc1 hc2 hsg hpk HQ hqx
      generalize ps[i] = pp at *
      obtain ⟨ds, gn⟩ := pp
      simp only at hw1 hw2 hsw hnd hln hga hb0 hb1 hq2
      have cf := SegFind_any p ds (idxS ds) id (wo.alloc (.cells #[.pointer (some ⟨p, 0, none⟩), strV gn] 55)) hsw hnd
      have cd := SegDocs_any p ds (idxS ds) (wo.alloc (.cells #[.pointer (some ⟨p, 0, none⟩), strV gn] 55)) hsw hln.1
      have hfs := findL_some ds id
      have HFS := Lib.hid hfs
      have HGA := Lib.hid hga; have HQ2 := Lib.hid hq2; have CD := Lib.hid cd
      clear hga hq2 hnd hsw hfs cd
      cases hf : findL ds id with
      | none =>
        have hgb : getL ps id = getL (ps.drop (i + 1)) id := by rw [HGA.out, hf]
        rw [hf] at cf
        have CF := Lib.hid cf; have HF := Lib.hid hf; have HGB := Lib.hid hgb
        clear cf hf hgb
        go_wp2_with fail
        refine CF.out.mono ?_
        rintro e w2 ⟨rfl, rfl⟩
        go_wp2_with fail
        go_roundw
        case rel => exact ⟨i + 1, by go_num, by omega, HGB, HQ2⟩
        case measure => simp [intOf]; omega
      | some k =>
        have hgf : getL ps id = if bit gn k then getL (ps.drop (i + 1)) id else some (ds.getD k ([], [])).2 := by rw [HGA.out, hf]
        rw [hf] at cf
        obtain ⟨d, hd, _⟩ := HFS.out k hf
        have hkl : k < ds.length := (List.getElem?_eq_some_iff.1 hd).1
        have cg := fun W => get_any gn (k : Nat) W (by omega) (by omega)
        rw [bitI_nat] at cg
        have CF := Lib.hid cf; have HF := Lib.hid hf
        clear cf hf hd
        cases hb : bit gn k with
        | true =>
          rw [hb] at cg hgf
          have CG := Lib.hid cg; have HB := Lib.hid hb; have HGF := Lib.hid hgf
          clear cg hb hgf
          go_wp2_with fail
          refine CF.out.mono ?_
          rintro e w2 ⟨rfl, rfl⟩
          go_wp2_with fail
          refine (CG.out _).mono ?_
          rintro e w2 ⟨rfl, rfl⟩
          go_wp2_with fail
          go_roundw
          case rel => exact ⟨i + 1, by go_num, by omega, by show _ = _; rw [HGF.out]; simp, HQ2⟩
          case measure => simp [intOf]; omega
        | false =>
          rw [hb] at cg hgf
          have CG := Lib.hid cg; have HB := Lib.hid hb; have HGF := Lib.hid hgf
          clear cg hb hgf
          go_wp2_with fail
          refine CF.out.mono ?_
          rintro e w2 ⟨rfl, rfl⟩
          go_wp2_with fail
          refine (CG.out _).mono ?_
          rintro e w2 ⟨rfl, rfl⟩
          go_wp2_with fail
          refine CD.out.mono ?_
          rintro e w4 ⟨v', rfl, ho, q⟩
          obtain ⟨da, dcap, rfl, hdc⟩ := ownsRow_lies ho
          obtain ⟨g, rfl, hgc⟩ := hdc (by omega)
          have cd1 := hgc _ _ (docVs_at ds k hkl).2
          have hq5 := HQ2.out.trans q
          have hgd : ds.getD k ([], []) = ds[k] := by rw [List.getD_eq_getElem?_getD, List.getElem?_eq_getElem hkl]; rfl
          have hge : getL ps id = some ds[k].2 := by rw [HGF.out, ← hgd]; simp
          have HQ5 := Lib.hid hq5; have HGE := Lib.hid hge
          clear ho hdc hgc q hq5 hgd hge
          go_wp2_with fail
          go_ret2
          exact ⟨by rw [HGE.out]; rfl, HQ5.out⟩
    · have hie : i = ps.length := by omega
      subst hie
      have hge : getL ps id = none := by rw [HG.out, List.drop_length]; rfl
      have HGE := Lib.hid hge; clear hge
      go_wp2_with fail
      go_ret2
      exact ⟨by rw [HGE.out]; rfl, HQ.out⟩
end Go.Proofs.YtoabhcfmdkhmgaaGreatDoor
end

/- (WLiveC) slices.Grow at nil, slices.Concat of three, slices.IndexFunc, ContainsFunc at live's test, Apply's closure: walked. -/
section
namespace Go.Proofs.YtoabhcfmdkhmgaaGreatDoor
open Go.RowKit
set_option linter.unusedVariables false

theorem size_zeroCells (z : Array Value) (n : Nat) : (Builtin.zeroCells z n).size = n * z.size := by simp [Builtin.zeroCells]
set_option maxRecDepth 100000 in
set_option maxHeartbeats 1000000 in
theorem Grow_nil (n : Nat) (w : World) (hn : n ≤ 1000000000) :
    Calls Tryz.prog 50 #[.slice none 0 0, .int .i64 (n : Nat)] w fun e w' => ∃ v', e = .returned v' ∧ w'.ownsRow w.heap.size 55 2 v' 0 [] ∧ Q w w' := by
  obtain ⟨i0, hi, hz0, hz1, hz2⟩ := info_parts tinfo55
  by_cases h0 : n = 0
  · subst h0
    go_enter Tryz.func50, Tryz.ntmps50
    go_wp2_with fail
    go_ret
    exact ⟨_, rfl, World.ownsRow_nil _ _ _ _, Q.refl _⟩
  · have hp : 0 < n := by omega
    have hr := fun ty => Lib.run_append_nil_zeros (P := Tryz.prog) w 25 3 ty 55 i0 (.agg #[.pointer none, strV []]) .i64 .i64 Tryz.underlying25 Tryz.underlying3 hi hz0 n hp (by omega) (by omega) (by rw [hz2]; omega)
    have hge := grownCap_ge w n 0 55
    have hle := grownCap_le_maxLen w n 0 55 (by unfold maxLen; omega)
    have hsz : (Builtin.zeroCells (Value.agg #[.pointer none, strV []]).cells n ++ Builtin.zeroCells (Value.agg #[.pointer none, strV []]).cells (grownCap w n 0 55 - n)).size = grownCap w n 0 55 * 2 := by
      rw [Array.size_append, size_zeroCells, size_zeroCells]
      show n * 2 + (grownCap w n 0 55 - n) * 2 = _
      omega
    have ho := World.ownsRow_made w.drew (Builtin.zeroCells (Value.agg #[.pointer none, strV []]).cells n ++ Builtin.zeroCells (Value.agg #[.pointer none, strV []]).cells (grownCap w n 0 55 - n)) (grownCap w n 0 55) (base := w.heap.size) (e := 55) (size := 2) (Nat.le_refl _) hle hsz
    have hq : Q w (w.drew.alloc (.cells (Builtin.zeroCells (Value.agg #[.pointer none, strV []]).cells n ++ Builtin.zeroCells (Value.agg #[.pointer none, strV []]).cells (grownCap w n 0 55 - n)) 55)) := (Q.drew w).trans (Q.alloc _ _)
    generalize grownCap w n 0 55 = gc at *
    generalize Builtin.zeroCells (Value.agg #[.pointer none, strV []]).cells n ++ Builtin.zeroCells (Value.agg #[.pointer none, strV []]).cells (gc - n) = zz at *
    have HO := Lib.hid ho; have HQ := Lib.hid hq; have HH := Lib.hid hr
    clear ho hq hsz hr
    have hgn : (n : Int) > 0 := by omega
    go_enter Tryz.func50, Tryz.ntmps50
    go_wp2_with (at_builtin; go_must (refine Lib.wpList_append_run w (by rfl) _ _ 25 3 (by rfl) (.slice none 0 0) (.int .i64 (n : Nat)) (by rfl) (by rfl) _ _ (HH.out _) ?_))
    go_ret
    exact ⟨_, rfl, HO.out, HQ.out⟩
set_option maxRecDepth 100000 in
set_option maxHeartbeats 1000000 in
theorem notRight_any (o : OpL) (w : World) (h1 : o.2.1.length ≤ 9223372036854775807) (h2 : o.2.2.length ≤ 9223372036854775807) (hT : Tabs w) :
    Calls Tryz.prog 29 #[opV o] w fun e w' => e = .returned (.bool (!opRight o)) ∧ Q w w' := by
  obtain ⟨b, id, tx⟩ := o
  simp only at h1 h2
  have c := LRight_any (b, (id, tx)) (w.alloc (.cells #[.bool b, strV id, strV tx] 51)) h1 h2 (hT.stays (Q.alloc _ _))
  have C := Lib.hid c
  clear c hT
  generalize opRight (b, (id, tx)) = rt at *
  have hb : rt = rt := rfl
  cases rt
  all_goals
    go_enter Tryz.func29, Tryz.ntmps29
    go_wp2_with fail
    refine C.out.mono ?_
    rintro e w1 ⟨rfl, q⟩
    have q2 := (Q.alloc w (.cells #[.bool b, strV id, strV tx] 51)).trans q
    have HQ := Lib.hid q2
    clear q q2
    go_wp2_with fail
    go_ret
    exact ⟨rfl, HQ.out⟩
def IdxP (l : List OpL) (w : World) (e : Ending) (w' : World) : Prop := (∃ r : Int, e = .returned (.int .i64 r) ∧ decide (0 ≤ r) = !l.all opRight) ∧ Q w w'
set_option maxRecDepth 100000 in
set_option maxHeartbeats 2000000 in
theorem IndexFunc_ops (v : Value) (l : List OpL) (w : World) (hv : Ops w v l) (hn : l.length ≤ 1000000) (hl : ∀ o ∈ l, o.2.1.length ≤ 9223372036854775807 ∧ o.2.2.length ≤ 9223372036854775807) (hT : Tabs w) :
    Calls Tryz.prog 44 #[v, .func (.func 29) #[] #[]] w (IdxP l w) := by
  obtain ⟨a, cap, rfl, hcell⟩ := hv.value
  have HC := Lib.hid hcell; have HL := Lib.hid hl; have HT := Lib.hid hT
  clear hv hcell hl hT
  have eg : ∀ args w, (callFunc 29 args).run Tryz.prog w = .ok (.enter 29 args) w := enters_of Tryz.func29 (by kernel_rfl) rfl
  go_enter Tryz.func44, Tryz.ntmps44
  go_wp2_with fail
  go_loopw [8] (fun x wr => ∃ k : Nat, x = .int .i64 (k : Nat) ∧ k ≤ l.length ∧ Hid (l.all opRight = (l.drop k).all opRight) ∧ Hid (Q w wr)) (fun x _ => l.length - (intOf x).toNat)
  case atStart => exact ⟨0, rfl, by omega, by show _ = _; rw [List.drop_zero], Q.refl w⟩
  case round =>
    obtain ⟨k, rfl, hk, HA, HQ⟩ := hrel
    obtain ⟨wo, rfl⟩ : ∃ wo : World, wo = wr := ⟨_, rfl⟩
    by_cases hlt : k < l.length
    · obtain ⟨b, off, rfl, hc⟩ := HC.out (by omega)
      obtain ⟨hc1, hc2, hc3⟩ := hc k hlt
      have hw1 := cell_stays HQ.out hc1
      have hw2 := cell_stays HQ.out hc2
      have hw3 := cell_stays HQ.out hc3
      obtain ⟨hl1, hl2⟩ := HL.out _ (List.getElem_mem hlt)
      have c := notRight_any l[k] wo hl1 hl2 (HT.out.stays HQ.out)
      have hal : l.all opRight = (opRight l[k] && (l.drop (k + 1)).all opRight) := by rw [HA.out, List.drop_eq_getElem_cons hlt, List.all_cons]
      clear hc hc1 hc2 hc3 HA
      generalize l[k] = o at *
      obtain ⟨ob, oid, otx⟩ := o
      simp only at hw1 hw2 hw3 hl1 hl2
      cases hr : opRight (ob, (oid, otx)) with
      | true =>
        rw [hr] at c hal
        rw [Bool.true_and] at hal
        have C := Lib.hid c; have HAL := Lib.hid hal; have HR := Lib.hid hr
        clear c hal hr
        go_wp2_with fail
        refine C.out.mono ?_
        rintro e w1 ⟨rfl, q⟩
        have hq1 := HQ.out.trans q
        have HQ1 := Lib.hid hq1
        clear q hq1
        go_wp2_with fail
        go_roundw
        case rel => exact ⟨k + 1, by go_num, by omega, HAL, HQ1⟩
        case measure => simp [intOf]; omega
      | false =>
        rw [hr] at c hal
        rw [Bool.false_and] at hal
        have C := Lib.hid c; have HAL := Lib.hid hal; have HR := Lib.hid hr
        clear c hal hr
        go_wp2_with fail
        refine C.out.mono ?_
        rintro e w1 ⟨rfl, q⟩
        have hq1 := HQ.out.trans q
        have HQ1 := Lib.hid hq1
        clear q hq1
        go_wp2_with fail
        go_ret
        exact ⟨⟨(k : Nat), rfl, by rw [HAL.out]; simp⟩, HQ1.out⟩
    · have hke : k = l.length := by omega
      subst hke
      have hal : l.all opRight = true := by rw [HA.out, List.drop_length]; rfl
      have HAL := Lib.hid hal; clear hal
      go_wp2_with fail
      go_ret
      exact ⟨⟨-1, rfl, by rw [HAL.out]; rfl⟩, HQ.out⟩
set_option maxRecDepth 100000 in
set_option maxHeartbeats 2000000 in
theorem ContainsFunc_ops (v : Value) (l : List OpL) (w : World) (hv : Ops w v l) (hn : l.length ≤ 1000000) (hl : ∀ o ∈ l, o.2.1.length ≤ 9223372036854775807 ∧ o.2.2.length ≤ 9223372036854775807) (hT : Tabs w) :
    Calls Tryz.prog 28 #[v, .func (.func 29) #[] #[]] w fun e w' => e = .returned (.bool (!l.all opRight)) ∧ Q w w' := by
  have c := IndexFunc_ops v l w hv hn hl hT
  obtain ⟨a, cap, rfl, _⟩ := hv.value
  have C := Lib.hid c
  clear c hv hl hT
  go_enter Tryz.func28, Tryz.ntmps28
  go_wp2_with fail
  refine C.out.mono ?_
  rintro e w1 ⟨⟨r, rfl, hr⟩, q⟩
  have HR := Lib.hid hr; have HQ := Lib.hid q
  clear hr q
  go_wp2_with fail
  go_ret
  exact ⟨by rw [← HR.out]; rfl, HQ.out⟩
end Go.Proofs.YtoabhcfmdkhmgaaGreatDoor
end

/- (BitC) trial -/
section
namespace Go.Proofs.YtoabhcfmdkhmgaaGreatDoor
open Go.RowKit
set_option linter.unusedVariables false

/-- what a round of 'Set' does to the row -/
theorem set_rel_on {w0 wr : World} {B : Nat} {l m : List UInt8} (s k x : Nat) (hr : ByteRow wr B m) (hm : setTo l s true k = m) (hx : x < 256) (hv : (m.getD ((s + k) / 8) 0).toNat = x) :
    ByteRow ((wr.setCell ⟨B, (s + k) / 8, none⟩ (.int .u8 (bits BinOp.andNot .u8 x (2 ^ ((s + k) % 8) % 256)))).setCell ⟨B, (s + k) / 8, none⟩
      (.int .u8 (bits BinOp.or .u8 (bits BinOp.andNot .u8 x (2 ^ ((s + k) % 8) % 256)) (2 ^ ((s + k) % 8) % 256)))) B (setTo l s true (k + 1)) := by
  have hk : (s + k) % 8 < 8 := Nat.mod_lt _ (by omega)
  rw [walk_turn x _ hx hk, walk_clear x _ hx hk]
  have h1 := hr.set ((s + k) / 8) _ (UInt8.ofNat (byteSet x ((s + k) % 8) false)) (ofNat_toNat _ (byteSet_lt _ _ _ hx hk)).symm
  have h2 := h1.set ((s + k) / 8) _ (UInt8.ofNat (byteSet x ((s + k) % 8) true)) (ofNat_toNat _ (byteSet_lt _ _ _ hx hk)).symm
  rw [set_set] at h2
  rw [setTo, hm, setBit, hv]
  exact h2
theorem set_rel_off {w0 wr : World} {B : Nat} {l m : List UInt8} (s k x : Nat) (hr : ByteRow wr B m) (hm : setTo l s false k = m) (hx : x < 256) (hv : (m.getD ((s + k) / 8) 0).toNat = x) :
    ByteRow (wr.setCell ⟨B, (s + k) / 8, none⟩ (.int .u8 (bits BinOp.andNot .u8 x (2 ^ ((s + k) % 8) % 256)))) B (setTo l s false (k + 1)) := by
  have hk : (s + k) % 8 < 8 := Nat.mod_lt _ (by omega)
  rw [walk_clear x _ hx hk]
  have h1 := hr.set ((s + k) / 8) _ (UInt8.ofNat (byteSet x ((s + k) % 8) false)) (ofNat_toNat _ (byteSet_lt _ _ _ hx hk)).symm
  rw [setTo, hm, setBit, hv]
  exact h1

set_option maxHeartbeats 400000 in
theorem set_ok (l : List UInt8) (s c : Nat) (on : Bool) (w : World) (hs : l.length ≤ 9223372036854775807 / 8) (h2 : c + s ≤ 8 * l.length) :
    Calls Tryz.prog 33 #[.string ⟨l.toArray⟩, .int .i64 s, .int .i64 c, .bool on] w fun e w' => e = .returned (.tuple #[.string ⟨(setTo l s on c).toArray⟩, .bool true]) ∧ Below w.heap.size w w' := by
  have kc := fun (w : World) (s : ByteArray) => run_bytes_of_string (P := Tryz.prog) w 9 100 5 s Tryz.underlying9 Tryz.underlying100 Tryz.underlying5
  have H1 : ¬ (8 * (l.length : Int)) < s := by omega
  have H2 : ¬ (8 * (l.length : Int) - s) < c := by omega
  go_enter Tryz.func33, Tryz.ntmps33
  go_wp2
  go_loopw [38] (fun i wr => ∃ k : Nat, k ≤ c ∧ i = .int .i64 k ∧ Below w.heap.size w wr ∧ ByteRow wr w.heap.size (setTo l s on k)) (fun i _ => c - (intOf i).toNat)
  case atStart => exact ⟨0, by omega, rfl, (Below.refl _ _).alloc (Nat.le_refl _) _ |>.drew, ByteRow.made _ _ _ _⟩
  case round =>
    obtain ⟨k, hk, rfl, hb, hr⟩ := hrel
    have hl := length_setTo l s on k
    generalize hm : setTo l s on k = m at *
    have HL := Lib.hid hl; clear hl
    have HM := Lib.hid hm; clear hm
    by_cases hlt : k < c
    · have hi2 : (s + k) / 8 < l.length := by omega
      obtain ⟨x, hx, HV, hc, hf⟩ := hr.at ((s + k) / 8) (by rw [HL.out]; omega)
      have HR := Lib.hid hr; clear hr
      have HB := Lib.hid hb; clear hb
      cases on
      · go_wp2
        go_region
        go_wp2
        refine ⟨⟨k + 1, by omega, by go_num, ((HB.out.setCell (Nat.le_refl _) _).drew), ?_⟩, by simp [intOf]; omega⟩
        exact set_rel_off (w0 := w) s k x HR.out HM.out hx HV.out
      · go_wp2
        go_region
        go_wp2
        go_region
        go_wp2
        refine ⟨⟨k + 1, by omega, by go_num, (((HB.out.setCell (Nat.le_refl _) _).setCell (Nat.le_refl _) _).drew).drew, ?_⟩, by simp [intOf]; omega⟩
        exact set_rel_on (w0 := w) s k x HR.out HM.out hx HV.out
    · have hk2 : k = c := by omega
      have hkc := hr.back (P := Tryz.prog) 100 9 5 (grownCap w l.length 0 5) Tryz.underlying100 Tryz.underlying5 Tryz.underlying9
      rw [HL.out] at hkc
      have HR := Lib.hid hr; clear hr
      have HB := Lib.hid hb; clear hb
      have HK := Lib.hid hk2; clear hk2
      go_wp2
      go_ret2
      exact ⟨by rw [← HK.out, HM.out]; rfl, HB.out⟩
end Go.Proofs.YtoabhcfmdkhmgaaGreatDoor
end
