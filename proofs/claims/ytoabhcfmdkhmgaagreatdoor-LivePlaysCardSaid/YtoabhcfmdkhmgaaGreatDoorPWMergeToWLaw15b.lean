/- Joined texts of one proof: WMerge, WLaw15a, WLaw15b. -/
import Derived.Test.YtoabhcfmdkhmgaaGreatDoorPWApply0ToWConcat
import Derived.Test.YtoabhcfmdkhmgaaGreatDoorPWLastToLive2
import Derived.Outline
import Derived.Laws.StructEq
import Derived.Deep.RegionHeld3
import Derived.Deep.RegionLaw
set_option linter.unusedSimpArgs false
set_option linter.unusedVariables false
set_option linter.unnecessarySimpa false
/- (WMerge) live.Merge: walked. -/
section
namespace Go.Proofs.YtoabhcfmdkhmgaaGreatDoor
open Go.RowKit
set_option linter.unusedVariables false

theorem partVs_take (l : List PartR) (k : Nat) : (partVs l).take (k * 2) = partVs (l.take k) := by
  induction l generalizing k with
  | nil => simp [partVs]
  | cons d l ih =>
    have e : ∀ (d : PartR) l, partVs (d :: l) = .pointer (some ⟨d.1, 0, none⟩) :: strV d.2 :: partVs l := by intros; simp [partVs]
    cases k with
    | zero => simp [partVs]
    | succ k =>
      have h2 : (k + 1) * 2 = k * 2 + 1 + 1 := by omega
      rw [h2, e, List.take_succ_cons, List.take_succ_cons, List.take_succ_cons, e, ih]
theorem partVs_drop (l : List PartR) (k : Nat) : (partVs l).drop (k * 2) = partVs (l.drop k) := by
  induction l generalizing k with
  | nil => simp [partVs]
  | cons d l ih =>
    have e : ∀ (d : PartR) l, partVs (d :: l) = .pointer (some ⟨d.1, 0, none⟩) :: strV d.2 :: partVs l := by intros; simp [partVs]
    cases k with
    | zero => simp
    | succ k =>
      have h2 : (k + 1) * 2 = k * 2 + 1 + 1 := by omega
      rw [h2, e, List.drop_succ_cons, List.drop_succ_cons, List.drop_succ_cons, ih]
theorem rowPs_cut (segs : List Nat) (gs : List Bytes) (lo hi : Nat) : ((rowPs segs gs).take (hi * 2)).drop (lo * 2) = rowPs ((segs.take hi).drop lo) ((gs.take hi).drop lo) := by
  unfold rowPs
  rw [partVs_take, partVs_drop, List.zip_eq_zipWith, List.take_zipWith, List.drop_zipWith]; rfl
theorem SegsAt.cut {w : World} {segs : List Nat} {ps : List PartL} (h : SegsAt w segs ps) (lo hi : Nat) : SegsAt w ((segs.take hi).drop lo) ((ps.take hi).drop lo) := by
  intro i p q hp hq
  rw [List.getElem?_drop, List.getElem?_take] at hp hq
  split at hp
  · rename_i hlt
    rw [if_pos hlt] at hq
    exact h _ p q hp hq
  · cases hp
theorem cut_length {α : Type} (l : List α) (lo hi : Nat) (h2 : hi ≤ l.length) : ((l.take hi).drop lo).length = hi - lo := by
  rw [List.length_drop, List.length_take, Nat.min_eq_left h2]
theorem PartsAt.cut {w : World} {a : Option Addr} {cap : Nat} {ps : List PartL} (h : PartsAt w (.slice a ps.length cap) ps) (lo hi : Nat) (h1 : lo ≤ hi) (h2 : hi ≤ ps.length) :
    PartsAt w (.slice (if cap = lo then a else a.map (·.add (lo * 2))) (hi - lo) (cap - lo)) ((ps.take hi).drop lo) := by
  obtain ⟨segs, hl, hs, hr, hc⟩ := h.segs
  have hcap := hc _ _ _ rfl
  refine PartsAt.of ((segs.take hi).drop lo) ?_ (hs.cut lo hi) ?_ (fun x n c e => by cases e; omega)
  · rw [cut_length _ _ _ (by omega), cut_length _ _ _ h2]
  · have := Sl.cut hr lo hi h1 h2 hcap
    rw [rowPs_cut, ← List.map_take, ← List.map_drop] at this
    rw [cut_length _ _ _ h2]; exact this
set_option maxRecDepth 100000 in
set_option maxHeartbeats 1000000 in
theorem Merge_arg (a : Option Addr) (n cap : Nat) (i j : Int) (w : World) (h : i < 0 ∨ j ≤ i ∨ (n : Int) ≤ j) :
    Calls Tryz.prog 19 #[liveV (.slice a n cap), .int .i64 i, .int .i64 j] w fun e w' => e = .returned (.tuple #[liveV (.slice a n cap), strV [], .int .i64 1]) ∧ Q w w' := by
  by_cases h1 : i < 0
  · go_enter Tryz.func19, Tryz.ntmps19
    go_wp2_with fail
    refine bodyPost_ret (v := .tuple #[liveV (.slice a n cap), strV [], .int .i64 1]) (by simp [results, Tryz.results19, go_sem]) rfl ⟨rfl, (Q.alloc _ _).trans (Q.alloc _ _)⟩
  · by_cases h2 : j ≤ i
    · clear h
      go_enter Tryz.func19, Tryz.ntmps19
      go_wp2_with fail
      refine bodyPost_ret (v := .tuple #[liveV (.slice a n cap), strV [], .int .i64 1]) (by simp [results, Tryz.results19, go_sem]) rfl ⟨rfl, (Q.alloc _ _).trans (Q.alloc _ _)⟩
    · have h3 : (n : Int) ≤ j := by omega
      clear h
      go_enter Tryz.func19, Tryz.ntmps19
      go_wp2_with fail
      refine bodyPost_ret (v := .tuple #[liveV (.slice a n cap), strV [], .int .i64 1]) (by simp [results, Tryz.results19, go_sem]) rfl ⟨rfl, (Q.alloc _ _).trans (Q.alloc _ _)⟩
theorem Sl.take {w : World} {a : Option Addr} {n cap size : Nat} {xs : List Value} (h : Sl w (.slice a n cap) n size xs) (i : Nat) (h1 : i ≤ n) : Sl w (.slice a i cap) i size (xs.take (i * size)) := by
  obtain ⟨hl, a', c', hv, hc⟩ := h
  cases hv
  refine ⟨by rw [List.length_take, hl, Nat.min_eq_left (Nat.mul_le_mul_right _ h1)], _, _, rfl, fun hp => ?_⟩
  obtain ⟨b, off, rfl, hcc⟩ := hc (by omega)
  refine ⟨b, off, rfl, fun j u hj => ?_⟩
  rw [List.getElem?_take] at hj
  split at hj
  · exact hcc _ u hj
  · cases hj
theorem PartsAt.take {w : World} {a : Option Addr} {cap : Nat} {ps : List PartL} (h : PartsAt w (.slice a ps.length cap) ps) (i : Nat) (h2 : i ≤ ps.length) : PartsAt w (.slice a i cap) (ps.take i) := by
  obtain ⟨segs, hl, hs, hr, hc⟩ := h.segs
  have hcap := hc _ _ _ rfl
  have h0 := hs.cut 0 i
  rw [List.drop_zero, List.drop_zero] at h0
  refine PartsAt.of (segs.take i) (by simp [hl]) h0 ?_ (fun x n c e => by cases e; omega)
  have := Sl.take hr i h2
  have e := rowPs_cut segs (ps.map (·.2)) 0 i
  simp only [Nat.zero_mul, List.drop_zero] at e
  rw [e, ← List.map_take] at this
  rw [List.length_take, Nat.min_eq_left h2]; exact this
theorem PartsAt.drop {w : World} {a : Option Addr} {cap : Nat} {ps : List PartL} (h : PartsAt w (.slice a ps.length cap) ps) (lo : Nat) (h1 : lo ≤ ps.length) :
    PartsAt w (.slice (if cap = lo then a else a.map (·.add (lo * 2))) (ps.length - lo) (cap - lo)) (ps.drop lo) := by
  have := h.cut lo ps.length h1 (Nat.le_refl _)
  rwa [List.take_length] at this
theorem SegsAt.append {w : World} {s1 s2 : List Nat} {p1 p2 : List PartL} (h1 : SegsAt w s1 p1) (h2 : SegsAt w s2 p2) (hl : s1.length = p1.length) : SegsAt w (s1 ++ s2) (p1 ++ p2) := by
  intro i x q hx hq
  by_cases hi : i < s1.length
  · rw [List.getElem?_append_left hi] at hx
    rw [List.getElem?_append_left (by omega)] at hq
    exact h1 i x q hx hq
  · rw [List.getElem?_append_right (by omega)] at hx
    rw [List.getElem?_append_right (by omega), ← hl] at hq
    exact h2 _ x q hx hq
theorem Fresh_any (v : Value) (l : List DocL) (w : World) (hv : Docs w v l) (h : l.length ≤ 500) (hok : docsOk l) (hT : Tabs w) (hSp : Spans w) :
    Calls Tryz.prog 34 #[v] w fun e w' => (∃ pa pc, e = .returned (.tuple #[.slice pa (freshL l).1.length pc, .string ⟨(freshL l).2.toArray⟩]) ∧ PartsAt w' (.slice pa (freshL l).1.length pc) (freshL l).1) ∧ Q w w' := by
  by_cases hem : l = []
  · subst hem
    obtain ⟨a, cap, rfl, _⟩ := hv.value
    refine (Fresh_none a cap w).mono ?_
    rintro e w' ⟨rfl, rfl⟩
    exact ⟨⟨none, 0, rfl, PartsAt.of [] rfl (fun i p q hp => by simp at hp) (Sl.nil _ _) (fun a n c e => by cases e; exact Nat.le_refl _)⟩, Q.refl _⟩
  · have hl1 : ¬ (l.length < 1 ∨ 500 < l.length) := by have := List.length_pos_iff.2 hem; omega
    have hfl : freshL l = ([(l, makeL l.length)], segE l (idxS l)) := by unfold freshL; rw [if_neg hem, idx_eq]
    refine (Fresh_some v l w hv hl1 hok hT hSp).mono ?_
    rintro e w' ⟨⟨g, p, rfl, hp, hs⟩, q⟩
    rw [hfl]
    refine ⟨⟨some ⟨g, 0, none⟩, 1, rfl, PartsAt.of [p] rfl (fun i x y hx hy => ?_) hp (fun a n c e => by cases e; exact Nat.le_refl _)⟩, q⟩
    cases i with
    | zero => simp at hx hy; subst hx; subst hy; exact hs
    | succ i => simp at hx
set_option maxRecDepth 100000 in
set_option maxHeartbeats 4000000 in
theorem Merge_runB (a : Option Addr) (cap : Nat) (ps : List PartL) (i j : Nat) (w : World) (hv : PartsAt w (.slice a ps.length cap) ps) (hcj : ¬ cap = j + 1) (hij : i < j) (hj : j < ps.length) (hn : ps.length ≤ 1000000) (hpo : PartsOk ps) (hT : Tabs w) (hSp : Spans w) :
    Calls Tryz.prog 19 #[liveV (.slice a ps.length cap), .int .i64 (i : Nat), .int .i64 (j : Nat)] w fun e w' => (∃ v', e = .returned (.tuple #[liveV v', strV (mergeL ps i j).2.1, .int .i64 (mergeL ps i j).2.2]) ∧ PartsAt w' v' (mergeL ps i j).1) ∧ Q w w' := by
  have h1 : ¬ ((i : Int) < 0) := by omega
  have h2 : ¬ ((j : Int) ≤ (i : Int)) := by omega
  have h3 : ¬ ((ps.length : Int) ≤ (j : Int)) := by omega
  obtain ⟨segs, hsl, hsg, hrow, hcp⟩ := hv.segs
  have hcap := hcp _ _ _ rfl
  have hq0 : Q w ((w.alloc (.cells #[.slice a ps.length cap] 27)).alloc (.cells #[.slice none 0 0] 27)) := (Q.alloc _ _).trans (Q.alloc _ _)
  have hbx : Boxed ((w.alloc (.cells #[.slice a ps.length cap] 27)).alloc (.cells #[.slice none 0 0] 27)) (w.heap.size + 1) 27 (.slice none 0 0) := by
    have := Boxed.new (w.alloc (.cells #[.slice a ps.length cap] 27)) 27 (.slice none 0 0)
    simpa using this
  have hb0 : Boxed ((w.alloc (.cells #[.slice a ps.length cap] 27)).alloc (.cells #[.slice none 0 0] 27)) w.heap.size 27 (.slice a ps.length cap) := (Boxed.new w _ _).alloc _
  have hs0 : w.heap.size + 1 < ((w.alloc (.cells #[.slice a ps.length cap] 27)).alloc (.cells #[.slice none 0 0] 27)).heap.size := by simp
  have hcut := (hv.cut i (j + 1) (by omega) (by omega)).stays hq0
  have hsok := slice_ok ps i (j + 1) hpo
  have cd := LDocs_any _ ((ps.take (j + 1)).drop i) _ hcut (by rw [cut_length _ _ _ (by omega)]; omega) hsok.1
  have hne : ¬ cap = i := by omega
  have hmg : mergeL ps (i : Nat) (j : Nat) = if 500 < (docsL ((ps.take (j + 1)).drop i)).length then (ps, [], 6) else (ps.take i ++ ((freshL (docsL ((ps.take (j + 1)).drop i))).1 ++ ps.drop (j + 1)), (freshL (docsL ((ps.take (j + 1)).drop i))).2, 0) := by
    unfold mergeL
    rw [if_neg (by omega)]
    simp only [Int.toNat_natCast]
  have hdok := docs_ok _ hsok
  rw [if_neg hne] at cd
  have CD := Lib.hid cd; have HBX := Lib.hid hbx; have HB0 := Lib.hid hb0; have HV := Lib.hid hv; have HSG := Lib.hid hsg; have HROW := Lib.hid hrow; have HT := Lib.hid hT; have HSP := Lib.hid hSp; have HQ0 := Lib.hid hq0; have HMG := Lib.hid hmg; have HDOK := Lib.hid hdok; have HPO := Lib.hid hpo
  clear cd hbx hb0 hv hsg hrow hcp hT hSp hcut hsok hmg hdok hq0 hpo
  go_enter Tryz.func19, Tryz.ntmps19
  go_wp2_with fail
  refine CD.out.mono ?_
  rintro e w1 ⟨dv, rfl, hd, q1⟩
  have hdl : Docs w1 dv (docsL ((ps.take (j + 1)).drop i)) := Sl.of_owns hd
  have hq1 := HQ0.out.trans q1
  have b1 : Boxed w1 (w.heap.size + 1) 27 (.slice none 0 0) := block_stays' q1 HBX.out
  have b0 : Boxed w1 w.heap.size 27 (.slice a ps.length cap) := block_stays' q1 HB0.out
  have hs1 : w.heap.size + 1 < w1.heap.size := Nat.lt_of_lt_of_le hs0 q1.size
  obtain ⟨da, dcap, rfl, _⟩ := hdl.value
  obtain ⟨all, hall⟩ : ∃ all, all = docsL ((ps.take (j + 1)).drop i) := ⟨_, rfl⟩
  have hidx := idx_eq all
  have hfl : freshL all = if all = [] then ([], []) else ([(all, makeL all.length)], segE all (idxS all)) := by unfold freshL; rw [hidx]
  clear hidx
  rw [← hall] at hdl HMG HDOK ⊢
  have HALL := Lib.hid hall; have HDL := Lib.hid hdl; have HQ1 := Lib.hid hq1; have B1 := Lib.hid b1; have B0 := Lib.hid b0; have HFL := Lib.hid hfl
  clear hd q1 hq1 b1 b0 hall hdl hfl CD HBX HB0 HQ0 hs0
  have c0 := B0.out.cell; have c1 := B1.out.cell; have f1 := B1.out.frozen
  by_cases h5 : 500 < all.length
  · have hmg := HMG.out
    rw [if_pos h5] at hmg
    have HMG2 := Lib.hid hmg
    have r1 := (B1.out.set (.slice a ps.length cap)).cell
    have R1 := Lib.hid r1
    clear hmg r1
    have h5i : (500 : Int) < (all.length : Int) := by omega
    go_wp2_with fail
    have hpa := PartsAt.setBox B1.out (.slice a ps.length cap) (HV.out.stays HQ1.out) (by decide)
    refine bodyPost_ret (v := .tuple #[liveV (.slice a ps.length cap), strV [], .int .i64 6]) (by simp [results, Tryz.results19, go_sem, R1.out]) rfl ⟨⟨_, by rw [HMG2.out], by rw [HMG2.out]; exact hpa⟩, HQ1.out.setCell (by simp) _⟩
  · have hmg := HMG.out
    rw [if_neg h5] at hmg
    have HMG2 := Lib.hid hmg
    clear hmg
    have h5i : ¬ (500 : Int) < (all.length : Int) := by omega
    have cf := Fresh_any _ all w1 HDL.out (by omega) HDOK.out (HT.out.stays HQ1.out) (HSP.out.stays HQ1.out)
    have CF := Lib.hid cf; clear cf
    go_wp2_with fail
    refine CF.out.mono ?_
    rintro e w2 ⟨⟨pa, pc, rfl, hpp⟩, q2⟩
    have b2 : Boxed w2 (w.heap.size + 1) 27 (.slice none 0 0) := block_stays' q2 B1.out
    have b20 : Boxed w2 w.heap.size 27 (.slice a ps.length cap) := block_stays' q2 B0.out
    have hq2 := HQ1.out.trans q2
    have hv2 := HV.out.stays hq2
    have hs2 : w.heap.size + 1 < w2.heap.size := Nat.lt_of_lt_of_le hs1 q2.size
    have HPP := Lib.hid hpp; have HQ2 := Lib.hid hq2; have HV2 := Lib.hid hv2; have B2 := Lib.hid b2; have B20 := Lib.hid b20
    clear hpp q2 hq2 hv2 b2 b20 CF B0 B1 c0 c1 f1
    have c0 := B20.out.cell; have c1 := B2.out.cell; have f1 := B2.out.frozen
    have hmx : Tryz.prog.follows .mixedOrders = true := by kernel_rfl
    have hne2 : ¬ cap = 0 := by omega
    have hw1 : IntKind.i64.wrap ((j : Int) + 1) = (j : Int) + 1 := IntWalk.i64_in _ (by omega)
    have hi0 : (0 : Int) ≤ (i : Int) := by omega
    have hi1 : (i : Int) ≤ (cap : Int) := by omega
    have hi2 : (0 : Int) ≤ (j : Int) + 1 := by omega
    have hi3 : (j : Int) + 1 ≤ (ps.length : Int) := by omega
    go_wp2_with fail
    have hv1 := HV2.out.take i (by omega)
    have hv3 := HV2.out.drop (j + 1) (by omega)
    rw [if_neg hcj] at hv3
    obtain ⟨s1, hl1, hg1, hr1, _⟩ := hv1.segs
    obtain ⟨s2, hl2, hg2, hr2, _⟩ := HPP.out.segs
    obtain ⟨s3, hl3, hg3, hr3, _⟩ := hv3.segs
    have hk1 : (ps.take i).length = i := by rw [List.length_take, Nat.min_eq_left (by omega)]
    have hk3 : (ps.drop (j + 1)).length = ps.length - (j + 1) := by rw [List.length_drop]
    have hfr := fresh_length all
    rw [hk1] at hr1 hl1
    rw [hk3] at hr3 hl3
    obtain ⟨XS, hXS⟩ : ∃ XS : List CatX, XS = [(.slice a i cap, i, rowPs s1 ((ps.take i).map (·.2))), (.slice pa (freshL all).1.length pc, (freshL all).1.length, rowPs s2 ((freshL all).1.map (·.2))), (.slice (Option.map (fun x => x.add ((j + 1) * 2)) a) (ps.length - (j + 1)) (cap - (j + 1)), ps.length - (j + 1), rowPs s3 ((ps.drop (j + 1)).map (·.2)))] := ⟨_, rfl⟩
    have hcat : ∀ W, Q (w2.alloc (.cells #[.slice a i cap, .slice pa (freshL all).1.length pc, .slice (Option.map (fun x => x.add ((j + 1) * 2)) a) (ps.length - (j + 1)) (cap - (j + 1))] 25)) W → ∀ k (h : k < XS.length), W.cell? ⟨w2.heap.size, 0 + k, none⟩ = some XS[k].1 ∧ Sl W XS[k].1 XS[k].2.1 2 XS[k].2.2 ∧ ∀ u ∈ XS[k].2.2, u.oneCell' = true := by
      intro W hq k hk
      subst hXS
      have hq2 := (Q.alloc w2 (.cells #[.slice a i cap, .slice pa (freshL all).1.length pc, .slice (Option.map (fun x => x.add ((j + 1) * 2)) a) (ps.length - (j + 1)) (cap - (j + 1))] 25)).trans hq
      obtain ⟨d0, d1, d2⟩ := cells3 (block_stays' hq (heap_alloc_new w2 (.cells #[.slice a i cap, .slice pa (freshL all).1.length pc, .slice (Option.map (fun x => x.add ((j + 1) * 2)) a) (ps.length - (j + 1)) (cap - (j + 1))] 25)))
      match k, hk with
      | 0, _ => exact ⟨d0, hr1.stays hq2, partVs_one _⟩
      | 1, _ => exact ⟨d1, hr2.stays hq2, partVs_one _⟩
      | 2, _ => exact ⟨d2, hr3.stays hq2, partVs_one _⟩
    have hxl : XS.length = 3 := by rw [hXS]; rfl
    have hcl : catLen XS XS.length = i + ((freshL all).1.length + (ps.length - (j + 1))) := by rw [hXS]; simp [catLen]
    have hcc : catCells XS XS.length = rowPs (s1 ++ (s2 ++ s3)) ((ps.take i ++ ((freshL all).1 ++ ps.drop (j + 1))).map (·.2)) := by
      rw [hXS, List.map_append, List.map_append, rowPs_append _ _ _ _ (by rw [hl1, List.length_map, hk1]), rowPs_append _ _ _ _ (by rw [hl2, List.length_map])]
      simp [catCells]
    have hsegs := hg1.append (hg2.append hg3 hl2) (by omega)
    have hsum : catLen XS XS.length ≤ 1000000000 := by omega
    have hx1000 : XS.length ≤ 1000 := by omega
    have ccat := fun W hq => Concat_any w2.heap.size 0 3 XS W (hcat W hq) hx1000 hsum
    rw [hxl] at ccat
    have CCAT := Lib.hid ccat; have HCL := Lib.hid hcl; have HCC := Lib.hid hcc; have HSEGS := Lib.hid hsegs; have HXL := Lib.hid hxl
    have hsl9 : (s1 ++ (s2 ++ s3)).length = (ps.take i ++ ((freshL all).1 ++ ps.drop (j + 1))).length := by simp only [List.length_append]; omega
    have hln9 : catLen XS 3 = (ps.take i ++ ((freshL all).1 ++ ps.drop (j + 1))).length := by simp only [List.length_append]; rw [← hxl, hcl]; omega
    rw [hxl] at hcc
    have HCC3 := Lib.hid hcc; have HSL9 := Lib.hid hsl9; have HLN9 := Lib.hid hln9
    clear hcat ccat hcl hcc hsegs hsum hx1000 hv1 hv3 hg1 hg2 hg3 hr1 hr2 hr3 hl1 hl2 hl3 hk1 hk3 hXS hsl9 hln9 hxl
    have hs20 : w.heap.size < w2.heap.size := by omega
    go_region_held3 (fun w' => w'.cell? ⟨w.heap.size, 0, none⟩ = some (.slice a ps.length cap)) (first | exact c0 | exact cell_stays ((Q.alloc _ _).trans (Q.drew _)) c0 | exact cell_stays qz c0 | exact (World.cell?_setCell_other _ _ _ _ (by simp)).trans (cell_stays qz c0))
      (first
        | (go_at_call 36; refine (CCAT.out _ (by first | exact Q.refl _ | exact Q.drew _)).mono ?_; rintro e w' ⟨v', rfl, ho, q⟩; obtain ⟨xa, xcap, rfl, _⟩ := owns_value ho; have qz := ((Q.alloc w2 (.cells #[.slice a i cap, .slice pa (freshL all).1.length pc, .slice (Option.map (fun x => x.add ((j + 1) * 2)) a) (ps.length - (j + 1)) (cap - (j + 1))] 25)).trans (Q.drew _)).trans q; have HOO := Lib.hid ho; have c9 := cell_stays qz c1; have f9 := (frozen_stays qz hs2).trans f1; clear ho q))
    all_goals
      have b9 : Boxed w' (w.heap.size + 1) 27 (.slice none 0 0) := block_stays' qz B2.out
      have hsg9 : SegsAt w' (s1 ++ (s2 ++ s3)) (ps.take i ++ ((freshL all).1 ++ ps.drop (j + 1))) := HSEGS.out.stays qz
      have hoo := HOO.out
      rw [HCC3.out, HLN9.out] at hoo
      have hpa : PartsAt w' (.slice xa (ps.take i ++ ((freshL all).1 ++ ps.drop (j + 1))).length xcap) (ps.take i ++ ((freshL all).1 ++ ps.drop (j + 1))) := PartsAt.owns _ HSL9.out hsg9 hoo
      rw [← HLN9.out] at hpa
      have hpb := PartsAt.setBox b9 (.slice xa (catLen XS 3) xcap) hpa (by decide)
      have r9 := (b9.set (.slice xa (catLen XS 3) xcap)).cell
      have hq9 := HQ2.out.trans qz
      have HPB := Lib.hid hpb; have R9 := Lib.hid r9; have HQ9 := Lib.hid hq9
      clear b9 hsg9 hoo hpa hpb r9 hq9
      go_wp2_with fail
      refine bodyPost_ret (v := .tuple #[liveV (.slice xa (catLen XS 3) xcap), strV (freshL all).2, .int .i64 0]) (by simp [results, Tryz.results19, go_sem, R9.out]) rfl ⟨⟨_, by rw [HMG2.out], by rw [HMG2.out]; exact HPB.out⟩, HQ9.out.setCell (by simp) _⟩
set_option maxRecDepth 100000 in
set_option maxHeartbeats 4000000 in
theorem Merge_runA (a : Option Addr) (ps : List PartL) (i j : Nat) (w : World) (hv : PartsAt w (.slice a ps.length (j + 1)) ps) (hij : i < j) (hj : j < ps.length) (hn : ps.length ≤ 1000000) (hpo : PartsOk ps) (hT : Tabs w) (hSp : Spans w) :
    Calls Tryz.prog 19 #[liveV (.slice a ps.length (j + 1)), .int .i64 (i : Nat), .int .i64 (j : Nat)] w fun e w' => (∃ v', e = .returned (.tuple #[liveV v', strV (mergeL ps i j).2.1, .int .i64 (mergeL ps i j).2.2]) ∧ PartsAt w' v' (mergeL ps i j).1) ∧ Q w w' := by
  have h1 : ¬ ((i : Int) < 0) := by omega
  have h2 : ¬ ((j : Int) ≤ (i : Int)) := by omega
  have h3 : ¬ ((ps.length : Int) ≤ (j : Int)) := by omega
  obtain ⟨segs, hsl, hsg, hrow, hcp⟩ := hv.segs
  have hcap := hcp _ _ _ rfl
  have hq0 : Q w ((w.alloc (.cells #[.slice a ps.length (j + 1)] 27)).alloc (.cells #[.slice none 0 0] 27)) := (Q.alloc _ _).trans (Q.alloc _ _)
  have hbx : Boxed ((w.alloc (.cells #[.slice a ps.length (j + 1)] 27)).alloc (.cells #[.slice none 0 0] 27)) (w.heap.size + 1) 27 (.slice none 0 0) := by
    have := Boxed.new (w.alloc (.cells #[.slice a ps.length (j + 1)] 27)) 27 (.slice none 0 0)
    simpa using this
  have hb0 : Boxed ((w.alloc (.cells #[.slice a ps.length (j + 1)] 27)).alloc (.cells #[.slice none 0 0] 27)) w.heap.size 27 (.slice a ps.length (j + 1)) := (Boxed.new w _ _).alloc _
  have hs0 : w.heap.size + 1 < ((w.alloc (.cells #[.slice a ps.length (j + 1)] 27)).alloc (.cells #[.slice none 0 0] 27)).heap.size := by simp
  have hcut := (hv.cut i (j + 1) (by omega) (by omega)).stays hq0
  have hsok := slice_ok ps i (j + 1) hpo
  have cd := LDocs_any _ ((ps.take (j + 1)).drop i) _ hcut (by rw [cut_length _ _ _ (by omega)]; omega) hsok.1
  have hne : ¬ (j + 1) = i := by omega
  have hmg : mergeL ps (i : Nat) (j : Nat) = if 500 < (docsL ((ps.take (j + 1)).drop i)).length then (ps, [], 6) else (ps.take i ++ ((freshL (docsL ((ps.take (j + 1)).drop i))).1 ++ ps.drop (j + 1)), (freshL (docsL ((ps.take (j + 1)).drop i))).2, 0) := by
    unfold mergeL
    rw [if_neg (by omega)]
    simp only [Int.toNat_natCast]
  have hdok := docs_ok _ hsok
  rw [if_neg hne] at cd
  have CD := Lib.hid cd; have HBX := Lib.hid hbx; have HB0 := Lib.hid hb0; have HV := Lib.hid hv; have HSG := Lib.hid hsg; have HROW := Lib.hid hrow; have HT := Lib.hid hT; have HSP := Lib.hid hSp; have HQ0 := Lib.hid hq0; have HMG := Lib.hid hmg; have HDOK := Lib.hid hdok; have HPO := Lib.hid hpo
  clear cd hbx hb0 hv hsg hrow hcp hT hSp hcut hsok hmg hdok hq0 hpo
  go_enter Tryz.func19, Tryz.ntmps19
  go_wp2_with fail
  refine CD.out.mono ?_
  rintro e w1 ⟨dv, rfl, hd, q1⟩
  have hdl : Docs w1 dv (docsL ((ps.take (j + 1)).drop i)) := Sl.of_owns hd
  have hq1 := HQ0.out.trans q1
  have b1 : Boxed w1 (w.heap.size + 1) 27 (.slice none 0 0) := block_stays' q1 HBX.out
  have b0 : Boxed w1 w.heap.size 27 (.slice a ps.length (j + 1)) := block_stays' q1 HB0.out
  have hs1 : w.heap.size + 1 < w1.heap.size := Nat.lt_of_lt_of_le hs0 q1.size
  obtain ⟨da, dcap, rfl, _⟩ := hdl.value
  obtain ⟨all, hall⟩ : ∃ all, all = docsL ((ps.take (j + 1)).drop i) := ⟨_, rfl⟩
  have hidx := idx_eq all
  have hfl : freshL all = if all = [] then ([], []) else ([(all, makeL all.length)], segE all (idxS all)) := by unfold freshL; rw [hidx]
  clear hidx
  rw [← hall] at hdl HMG HDOK ⊢
  have HALL := Lib.hid hall; have HDL := Lib.hid hdl; have HQ1 := Lib.hid hq1; have B1 := Lib.hid b1; have B0 := Lib.hid b0; have HFL := Lib.hid hfl
  clear hd q1 hq1 b1 b0 hall hdl hfl CD HBX HB0 HQ0 hs0
  have c0 := B0.out.cell; have c1 := B1.out.cell; have f1 := B1.out.frozen
  by_cases h5 : 500 < all.length
  · have hmg := HMG.out
    rw [if_pos h5] at hmg
    have HMG2 := Lib.hid hmg
    have r1 := (B1.out.set (.slice a ps.length (j + 1))).cell
    have R1 := Lib.hid r1
    clear hmg r1
    have h5i : (500 : Int) < (all.length : Int) := by omega
    go_wp2_with fail
    have hpa := PartsAt.setBox B1.out (.slice a ps.length (j + 1)) (HV.out.stays HQ1.out) (by decide)
    refine bodyPost_ret (v := .tuple #[liveV (.slice a ps.length (j + 1)), strV [], .int .i64 6]) (by simp [results, Tryz.results19, go_sem, R1.out]) rfl ⟨⟨_, by rw [HMG2.out], by rw [HMG2.out]; exact hpa⟩, HQ1.out.setCell (by simp) _⟩
  · have hmg := HMG.out
    rw [if_neg h5] at hmg
    have HMG2 := Lib.hid hmg
    clear hmg
    have h5i : ¬ (500 : Int) < (all.length : Int) := by omega
    have cf := Fresh_any _ all w1 HDL.out (by omega) HDOK.out (HT.out.stays HQ1.out) (HSP.out.stays HQ1.out)
    have CF := Lib.hid cf; clear cf
    go_wp2_with fail
    refine CF.out.mono ?_
    rintro e w2 ⟨⟨pa, pc, rfl, hpp⟩, q2⟩
    have b2 : Boxed w2 (w.heap.size + 1) 27 (.slice none 0 0) := block_stays' q2 B1.out
    have b20 : Boxed w2 w.heap.size 27 (.slice a ps.length (j + 1)) := block_stays' q2 B0.out
    have hq2 := HQ1.out.trans q2
    have hv2 := HV.out.stays hq2
    have hs2 : w.heap.size + 1 < w2.heap.size := Nat.lt_of_lt_of_le hs1 q2.size
    have HPP := Lib.hid hpp; have HQ2 := Lib.hid hq2; have HV2 := Lib.hid hv2; have B2 := Lib.hid b2; have B20 := Lib.hid b20
    clear hpp q2 hq2 hv2 b2 b20 CF B0 B1 c0 c1 f1
    have c0 := B20.out.cell; have c1 := B2.out.cell; have f1 := B2.out.frozen
    have hmx : Tryz.prog.follows .mixedOrders = true := by kernel_rfl
    have hne2 : ¬ (j + 1) = 0 := by omega
    have hw1 : IntKind.i64.wrap ((j : Int) + 1) = (j : Int) + 1 := IntWalk.i64_in _ (by omega)
    have hi0 : (0 : Int) ≤ (i : Int) := by omega
    have hi1 : (i : Int) ≤ ((j + 1) : Int) := by omega
    have hi2 : (0 : Int) ≤ (j : Int) + 1 := by omega
    have hi3 : (j : Int) + 1 ≤ (ps.length : Int) := by omega
    go_wp2_with fail
    have hv1 := HV2.out.take i (by omega)
    have hv3 := HV2.out.drop (j + 1) (by omega)
    rw [if_pos rfl, Nat.sub_self, show ps.length - (j + 1) = 0 by omega] at hv3
    obtain ⟨s1, hl1, hg1, hr1, _⟩ := hv1.segs
    obtain ⟨s2, hl2, hg2, hr2, _⟩ := HPP.out.segs
    obtain ⟨s3, hl3, hg3, hr3, _⟩ := hv3.segs
    have hk1 : (ps.take i).length = i := by rw [List.length_take, Nat.min_eq_left (by omega)]
    have hk3 : (ps.drop (j + 1)).length = 0 := by rw [List.length_drop]; omega
    have hfr := fresh_length all
    rw [hk1] at hr1 hl1
    rw [hk3] at hr3 hl3
    obtain ⟨XS, hXS⟩ : ∃ XS : List CatX, XS = [(.slice a i (j + 1), i, rowPs s1 ((ps.take i).map (·.2))), (.slice pa (freshL all).1.length pc, (freshL all).1.length, rowPs s2 ((freshL all).1.map (·.2))), (.slice a 0 0, 0, rowPs s3 ((ps.drop (j + 1)).map (·.2)))] := ⟨_, rfl⟩
    have hcat : ∀ W, Q (w2.alloc (.cells #[.slice a i (j + 1), .slice pa (freshL all).1.length pc, .slice a 0 0] 25)) W → ∀ k (h : k < XS.length), W.cell? ⟨w2.heap.size, 0 + k, none⟩ = some XS[k].1 ∧ Sl W XS[k].1 XS[k].2.1 2 XS[k].2.2 ∧ ∀ u ∈ XS[k].2.2, u.oneCell' = true := by
      intro W hq k hk
      subst hXS
      have hq2 := (Q.alloc w2 (.cells #[.slice a i (j + 1), .slice pa (freshL all).1.length pc, .slice a 0 0] 25)).trans hq
      obtain ⟨d0, d1, d2⟩ := cells3 (block_stays' hq (heap_alloc_new w2 (.cells #[.slice a i (j + 1), .slice pa (freshL all).1.length pc, .slice a 0 0] 25)))
      match k, hk with
      | 0, _ => exact ⟨d0, hr1.stays hq2, partVs_one _⟩
      | 1, _ => exact ⟨d1, hr2.stays hq2, partVs_one _⟩
      | 2, _ => exact ⟨d2, hr3.stays hq2, partVs_one _⟩
    have hxl : XS.length = 3 := by rw [hXS]; rfl
    have hcl : catLen XS XS.length = i + ((freshL all).1.length + 0) := by rw [hXS]; simp [catLen]
    have hcc : catCells XS XS.length = rowPs (s1 ++ (s2 ++ s3)) ((ps.take i ++ ((freshL all).1 ++ ps.drop (j + 1))).map (·.2)) := by
      rw [hXS, List.map_append, List.map_append, rowPs_append _ _ _ _ (by rw [hl1, List.length_map, hk1]), rowPs_append _ _ _ _ (by rw [hl2, List.length_map])]
      simp [catCells]
    have hsegs := hg1.append (hg2.append hg3 hl2) (by omega)
    have hsum : catLen XS XS.length ≤ 1000000000 := by omega
    have hx1000 : XS.length ≤ 1000 := by omega
    have ccat := fun W hq => Concat_any w2.heap.size 0 3 XS W (hcat W hq) hx1000 hsum
    rw [hxl] at ccat
    have CCAT := Lib.hid ccat; have HCL := Lib.hid hcl; have HCC := Lib.hid hcc; have HSEGS := Lib.hid hsegs; have HXL := Lib.hid hxl
    have hsl9 : (s1 ++ (s2 ++ s3)).length = (ps.take i ++ ((freshL all).1 ++ ps.drop (j + 1))).length := by simp only [List.length_append]; omega
    have hln9 : catLen XS 3 = (ps.take i ++ ((freshL all).1 ++ ps.drop (j + 1))).length := by simp only [List.length_append]; rw [← hxl, hcl]; omega
    rw [hxl] at hcc
    have HCC3 := Lib.hid hcc; have HSL9 := Lib.hid hsl9; have HLN9 := Lib.hid hln9
    clear hcat ccat hcl hcc hsegs hsum hx1000 hv1 hv3 hg1 hg2 hg3 hr1 hr2 hr3 hl1 hl2 hl3 hk1 hk3 hXS hsl9 hln9 hxl
    have hs20 : w.heap.size < w2.heap.size := by omega
    go_region_held3 (fun w' => w'.cell? ⟨w.heap.size, 0, none⟩ = some (.slice a ps.length (j + 1))) (first | exact c0 | exact cell_stays ((Q.alloc _ _).trans (Q.drew _)) c0 | exact cell_stays qz c0 | exact (World.cell?_setCell_other _ _ _ _ (by simp)).trans (cell_stays qz c0))
      (first
        | (go_at_call 36; refine (CCAT.out _ (by first | exact Q.refl _ | exact Q.drew _)).mono ?_; rintro e w' ⟨v', rfl, ho, q⟩; obtain ⟨xa, xcap, rfl, _⟩ := owns_value ho; have qz := ((Q.alloc w2 (.cells #[.slice a i (j + 1), .slice pa (freshL all).1.length pc, .slice a 0 0] 25)).trans (Q.drew _)).trans q; have HOO := Lib.hid ho; have c9 := cell_stays qz c1; have f9 := (frozen_stays qz hs2).trans f1; clear ho q))
    all_goals
      have b9 : Boxed w' (w.heap.size + 1) 27 (.slice none 0 0) := block_stays' qz B2.out
      have hsg9 : SegsAt w' (s1 ++ (s2 ++ s3)) (ps.take i ++ ((freshL all).1 ++ ps.drop (j + 1))) := HSEGS.out.stays qz
      have hoo := HOO.out
      rw [HCC3.out, HLN9.out] at hoo
      have hpa : PartsAt w' (.slice xa (ps.take i ++ ((freshL all).1 ++ ps.drop (j + 1))).length xcap) (ps.take i ++ ((freshL all).1 ++ ps.drop (j + 1))) := PartsAt.owns _ HSL9.out hsg9 hoo
      rw [← HLN9.out] at hpa
      have hpb := PartsAt.setBox b9 (.slice xa (catLen XS 3) xcap) hpa (by decide)
      have r9 := (b9.set (.slice xa (catLen XS 3) xcap)).cell
      have hq9 := HQ2.out.trans qz
      have HPB := Lib.hid hpb; have R9 := Lib.hid r9; have HQ9 := Lib.hid hq9
      clear b9 hsg9 hoo hpa hpb r9 hq9
      go_wp2_with fail
      refine bodyPost_ret (v := .tuple #[liveV (.slice xa (catLen XS 3) xcap), strV (freshL all).2, .int .i64 0]) (by simp [results, Tryz.results19, go_sem, R9.out]) rfl ⟨⟨_, by rw [HMG2.out], by rw [HMG2.out]; exact HPB.out⟩, HQ9.out.setCell (by simp) _⟩
theorem Merge_any (v : Value) (ps : List PartL) (i j : Int) (w : World) (hv : PartsAt w v ps) (hn : ps.length ≤ 1000000) (hpo : PartsOk ps) (hT : Tabs w) (hSp : Spans w) :
    Calls Tryz.prog 19 #[liveV v, .int .i64 i, .int .i64 j] w fun e w' => (∃ v', e = .returned (.tuple #[liveV v', strV (mergeL ps i j).2.1, .int .i64 (mergeL ps i j).2.2]) ∧ PartsAt w' v' (mergeL ps i j).1) ∧ Q w w' := by
  obtain ⟨a, cap, rfl, _⟩ := hv.value
  by_cases h : i < 0 ∨ j ≤ i ∨ (ps.length : Int) ≤ j
  · have e : mergeL ps i j = (ps, [], 1) := by unfold mergeL; rw [if_pos h]
    rw [e]
    refine (Merge_arg a ps.length cap i j w h).mono ?_
    rintro e w' ⟨rfl, q⟩
    exact ⟨⟨_, rfl, hv.stays q⟩, q⟩
  · obtain ⟨i', rfl⟩ := Int.eq_ofNat_of_zero_le (show 0 ≤ i by omega)
    obtain ⟨j', rfl⟩ := Int.eq_ofNat_of_zero_le (show 0 ≤ j by omega)
    by_cases hcj : cap = j' + 1
    · subst hcj
      exact Merge_runA a ps i' j' w hv (by omega) (by omega) hn hpo hT hSp
    · exact Merge_runB a cap ps i' j' w hv hcj (by omega) (by omega) hn hpo hT hSp
end Go.Proofs.YtoabhcfmdkhmgaaGreatDoor
end

/- (WLaw15a) codexlaw15: sameDocs, small, does, made, doc, gone: walked. -/
section
namespace Go.Proofs.YtoabhcfmdkhmgaaGreatDoor
open Go.RowKit
set_option linter.unusedVariables false

theorem bytes_eqb (a b : Bytes) : (({ data := a.toArray } : ByteArray).toList == ({ data := b.toArray } : ByteArray).toList) = decide (a = b) := by
  rw [ByteArray.toList_eq, ByteArray.toList_eq]
  by_cases h : a = b <;> simp [h]
theorem eqDoc (i1 t1 i2 t2 : Bytes) (w : World) : (Op.equalIn 10000 49 (.agg #[strV i1, strV t1]) (.agg #[strV i2, strV t2])).run Tryz.prog w = .ok (decide (((i1, t1) : DocL) = (i2, t2))) w := by
  have u9 := Tryz.underlying9
  have hS : Tryz.prog.underlying 49 = some (.struct (Tryz.prog.fieldsOf 49)) := by kernel_rfl
  have hp : Tryz.prog.stoodInHeld 49 = false := by kernel_rfl
  rw [show (10000 : Nat) = 9999 + 1 from rfl, run_equalIn_agg w 9999 49 _ _ hS hp]
  simp only [Program.fieldsOf, Tryz.underlying49]
  go_simp
  by_cases h1 : i1 = i2 <;> by_cases h2 : t1 = t2 <;> simp [h1, h2, bytes_eqb]
set_option maxRecDepth 100000 in
set_option maxHeartbeats 2000000 in
theorem sameDocs_any (va vb : Value) (la lb : List DocL) (w : World) (ha : Docs w va la) (hb : Docs w vb lb) (hna : la.length ≤ 1000000000) (hnb : lb.length ≤ 1000000000) :
    Calls Tryz.prog 12 #[va, vb] w fun e w' => e = .returned (.bool (decide (la = lb))) ∧ Q w w' := by
  obtain ⟨aa, ca, rfl, hca⟩ := ha.value
  obtain ⟨ab, cb, rfl, hcb⟩ := hb.value
  have HA := Lib.hid hca; have HB := Lib.hid hcb
  clear ha hb hca hcb
  by_cases hl : la.length = lb.length
  · have HLL := Lib.hid hl
    rw [← hl]
    clear hl
    go_enter Tryz.func12, Tryz.ntmps12
    go_wp2_with fail
    go_loopw [5] (fun x wr => ∃ k : Nat, x = .int .i64 (k : Nat) ∧ k ≤ la.length ∧ Hid (la.take k = lb.take k) ∧ Hid (Q w wr)) (fun x _ => la.length - (intOf x).toNat)
    case atStart => exact ⟨0, rfl, by omega, rfl, Q.refl w⟩
    case round =>
      obtain ⟨k, rfl, hk, HT, HQ⟩ := hrel
      obtain ⟨wo, rfl⟩ : ∃ wo : World, wo = wr := ⟨_, rfl⟩
      by_cases hlt : k < la.length
      · obtain ⟨b1, o1, rfl, hc1⟩ := HA.out (by omega)
        have hltb : k < lb.length := by have := HLL.out; omega
        obtain ⟨b2, o2, rfl, hc2⟩ := HB.out (by omega)
        obtain ⟨x1, x2⟩ := hc1 k hlt
        obtain ⟨y1, y2⟩ := hc2 k hltb
        have k1 := cell_stays HQ.out x1
        have k2 := cell_stays HQ.out x2
        have k3 := cell_stays HQ.out y1
        have k4 := cell_stays HQ.out y2
        have hta := List.take_succ_eq_append_getElem hlt
        have htb := List.take_succ_eq_append_getElem hltb
        have hi0 : (0 : Int) ≤ (k : Int) := by omega
        have hi1 : (k : Int) < (la.length : Int) := by omega
        generalize hda : la[k] = da at *
        generalize hdb : lb[k] = db at *
        have HTA := Lib.hid hta; have HTB := Lib.hid htb; have HDA := Lib.hid hda; have HDB := Lib.hid hdb
        clear hc1 hc2 x1 x2 y1 y2 hta htb hda hdb
        obtain ⟨i1, t1⟩ := da
        obtain ⟨i2, t2⟩ := db
        simp only at k1 k2 k3 k4
        have hm : Tryz.prog.eqGuardType Tryz.prog.depth 49 = false := by kernel_rfl
        have heq := fun w => eqDoc i1 t1 i2 t2 w
        by_cases hd : ((i1, t1) : DocL) = (i2, t2)
        · rw [decide_eq_true hd] at heq
          have HD := Lib.hid hd; clear hd
          go_wp2_with fail
          go_quiet (fail)
          go_wp2_with fail
          go_roundw
          case rel => exact ⟨k + 1, by go_num, by omega, by show _ = _; rw [HTA.out, HTB.out, HT.out, HD.out], HQ.out.trans (Q.drewN _ _)⟩
          case measure => simp [intOf]; omega
        · rw [decide_eq_false hd] at heq
          have HD := Lib.hid hd; clear hd
          go_wp2_with fail
          go_quiet (fail)
          go_wp2_with fail
          go_ret
          have hdf : decide (la = lb) = false := by
            rw [decide_eq_false]; intro e
            have h1 := HTA.out; have h2 := HTB.out
            rw [← e, h1] at h2
            exact HD.out (by simpa using h2)
          exact ⟨by rw [hdf]; rfl, HQ.out.trans (Q.drewN _ _)⟩
      · have hke : k = la.length := by omega
        subst hke
        go_wp2_with fail
        go_ret
        have hdt : decide (la = lb) = true := by
          rw [decide_eq_true]
          have := HT.out
          rw [List.take_length, HLL.out, List.take_length] at this
          exact this
        exact ⟨by rw [hdt]; rfl, HQ.out⟩
  · have hne : ((la.length : Int) != (lb.length : Int)) = true := by simp; omega
    have HL := Lib.hid hl
    clear hl
    go_enter Tryz.func12, Tryz.ntmps12
    go_wp2_with fail
    go_ret
    have hdf : decide (la = lb) = false := decide_eq_false (fun e => HL.out (by rw [e]))
    exact ⟨by rw [hdf]; rfl, Q.refl _⟩

/-! ### acts -/
abbrev ActL := List OpL × Bool × Int × Int
abbrev actVs (vs : List Value) (l : List ActL) : List Value := (vs.zip l).flatMap fun x => [x.1, .bool x.2.2.1, .int .i64 x.2.2.2.1, .int .i64 x.2.2.2.2]
def Acts (w : World) (v : Value) (l : List ActL) : Prop := ∃ vs : List Value, vs.length = l.length ∧ Sl w v l.length 4 (actVs vs l) ∧ ∀ (i : Nat) (a : Value) (b : ActL), vs[i]? = some a → l[i]? = some b → Ops w a b.1
theorem Acts.stays {w w' : World} {v : Value} {l : List ActL} (h : Acts w v l) (q : Q w w') : Acts w' v l := by
  obtain ⟨vs, h1, h2, h3⟩ := h
  exact ⟨vs, h1, h2.stays q, fun i a b ha hb => (h3 i a b ha hb).stays q⟩
theorem actVs_at (vs : List Value) (l : List ActL) (hl : vs.length = l.length) (k : Nat) (h : k < l.length) : (actVs vs l)[k * 4]? = some (vs[k]'(by omega)) ∧ (actVs vs l)[k * 4 + 1]? = some (.bool l[k].2.1) ∧ (actVs vs l)[k * 4 + 2]? = some (.int .i64 l[k].2.2.1) ∧ (actVs vs l)[k * 4 + 3]? = some (.int .i64 l[k].2.2.2) := by
  induction l generalizing vs k with
  | nil => simp at h
  | cons d l ih =>
    cases vs with
    | nil => simp at hl
    | cons v vs =>
      have e : actVs (v :: vs) (d :: l) = v :: .bool d.2.1 :: .int .i64 d.2.2.1 :: .int .i64 d.2.2.2 :: actVs vs l := by simp [actVs]
      cases k with
      | zero => rw [e]; exact ⟨rfl, rfl, rfl, rfl⟩
      | succ k =>
        have := ih vs (by simpa using hl) k (by simpa using h)
        rw [e, show (k + 1) * 4 = k * 4 + 1 + 1 + 1 + 1 by omega]
        exact this
theorem Acts.value {w : World} {v : Value} {l : List ActL} (h : Acts w v l) : ∃ a cap, v = .slice a l.length cap ∧ (0 < l.length → ∃ b off, a = some ⟨b, off, none⟩ ∧
    ∀ k (hk : k < l.length), ∃ ov, w.cell? ⟨b, off + k * 4, none⟩ = some ov ∧ w.cell? ⟨b, off + k * 4 + 1, none⟩ = some (.bool l[k].2.1) ∧ w.cell? ⟨b, off + k * 4 + 2, none⟩ = some (.int .i64 l[k].2.2.1) ∧ w.cell? ⟨b, off + k * 4 + 3, none⟩ = some (.int .i64 l[k].2.2.2) ∧ Ops w ov l[k].1) := by
  obtain ⟨vs, hl, ⟨_, a, cap, h2, h3⟩, h4⟩ := h
  refine ⟨a, cap, h2, fun hn => ?_⟩
  obtain ⟨b, off, h5, h6⟩ := h3 hn
  refine ⟨b, off, h5, fun k hk => ?_⟩
  obtain ⟨e0, e1, e2, e3⟩ := actVs_at vs l hl k hk
  exact ⟨_, h6 _ _ e0, h6 _ _ e1, h6 _ _ e2, h6 _ _ e3, h4 k _ _ (List.getElem?_eq_getElem (by omega)) (List.getElem?_eq_getElem hk)⟩
def smallO (o : OpL) : Bool := decide (o.2.1.length ≤ 100) && decide (o.2.2.length ≤ 2100)
def smallA (a : ActL) : Bool := decide (a.1.length ≤ 60) && a.1.all smallO
def smallB (l : List ActL) : Bool := decide (l.length ≤ 20) && l.all smallA
set_option maxRecDepth 100000 in
set_option maxHeartbeats 4000000 in
theorem Small_any (v : Value) (l : List ActL) (w : World) (hv : Acts w v l) (hn : l.length ≤ 9223372036854775807) (hl : ∀ a ∈ l, a.1.length ≤ 9223372036854775807 ∧ ∀ o ∈ a.1, o.2.1.length ≤ 9223372036854775807 ∧ o.2.2.length ≤ 9223372036854775807) :
    Calls Tryz.prog 5 #[v] w fun e w' => e = .returned (.bool (smallB l)) ∧ w = w' := by
  obtain ⟨a, cap, rfl, hcell⟩ := hv.value
  have HC := Lib.hid hcell; have HL := Lib.hid hl
  clear hv hcell hl
  by_cases h20 : l.length ≤ 20
  · have hsb : smallB l = l.all smallA := by unfold smallB; rw [decide_eq_true h20]; rfl
    have HSB := Lib.hid hsb; clear hsb
    have h20i : ¬ ((20 : Int) < (l.length : Int)) := by omega
    go_enter Tryz.func5, Tryz.ntmps5
    go_wp2_with fail
    go_loop [3] (fun x => ∃ k : Nat, x = .int .i64 (k : Nat) ∧ k ≤ l.length ∧ Hid (l.all smallA = (l.drop k).all smallA)) (fun x => l.length - (intOf x).toNat)
    case atStart => exact ⟨0, rfl, by omega, rfl⟩
    case round =>
      obtain ⟨k, rfl, hk, HK⟩ := hrel
      by_cases hlt : k < l.length
      · obtain ⟨b, off, rfl, hc⟩ := HC.out (by omega)
        obtain ⟨ov, c0, _, _, _, hops⟩ := hc k hlt
        obtain ⟨hl1, hl2⟩ := HL.out _ (List.getElem_mem hlt)
        have hall : l.all smallA = (smallA l[k] && (l.drop (k + 1)).all smallA) := by rw [HK.out, List.drop_eq_getElem_cons hlt, List.all_cons]
        have hi0 : (0 : Int) ≤ (k : Int) := by omega
        have hi1 : (k : Int) < (l.length : Int) := by omega
        generalize l[k] = act at *
        obtain ⟨ops, am⟩ := act
        obtain ⟨oa, oc, rfl, hoc⟩ := hops.value
        simp only at hl1 hl2 hoc c0
        have HALL := Lib.hid hall; have HOC := Lib.hid hoc; have HL2 := Lib.hid hl2
        clear hall hc hops hoc hl2
        by_cases h60 : ops.length ≤ 60
        · have h60i : ¬ ((60 : Int) < (ops.length : Int)) := by omega
          have hsa : smallA (ops, am) = ops.all smallO := by unfold smallA; rw [decide_eq_true h60]; rfl
          have HSA := Lib.hid hsa; clear hsa
          go_wp2_with fail
          go_loop [4] (fun x => ∃ j : Nat, x = .int .i64 (j : Nat) ∧ j ≤ ops.length ∧ Hid (ops.all smallO = (ops.drop j).all smallO)) (fun x => ops.length - (intOf x).toNat)
          case atStart => exact ⟨0, rfl, by omega, rfl⟩
          case round =>
            obtain ⟨j, rfl, hj, HJ⟩ := hrel
            by_cases hjl : j < ops.length
            · obtain ⟨b2, off2, rfl, hc2⟩ := HOC.out (by omega)
              obtain ⟨_, d1, d2⟩ := hc2 j hjl
              obtain ⟨hs1, hs2⟩ := HL2.out _ (List.getElem_mem hjl)
              have hal : ops.all smallO = (smallO ops[j] && (ops.drop (j + 1)).all smallO) := by rw [HJ.out, List.drop_eq_getElem_cons hjl, List.all_cons]
              have hj0 : (0 : Int) ≤ (j : Int) := by omega
              have hj1 : (j : Int) < (ops.length : Int) := by omega
              generalize ops[j] = o at *
              obtain ⟨ob, oid, otx⟩ := o
              simp only at d1 d2 hs1 hs2
              clear hc2
              by_cases h1 : oid.length ≤ 100
              · by_cases h2 : otx.length ≤ 2100
                · have hso : ops.all smallO = (ops.drop (j + 1)).all smallO := by rw [hal]; simp [smallO, h1, h2]
                  have HSO := Lib.hid hso
                  clear hso hal
                  have h1i : ¬ ((100 : Int) < (oid.length : Int)) := by omega
                  have h2i : ¬ ((2100 : Int) < (otx.length : Int)) := by omega
                  go_wp2_with fail
                  go_round
                  case rel => exact ⟨j + 1, by go_num, by omega, HSO⟩
                  case measure => simp [intOf]; omega
                · have hso : ops.all smallO = false := by rw [hal]; simp [smallO]; omega
                  have HSO := Lib.hid hso
                  clear hso hal
                  have h1i : ¬ ((100 : Int) < (oid.length : Int)) := by omega
                  have h2i : (2100 : Int) < (otx.length : Int) := by omega
                  go_wp2_with fail
                  go_ret
                  exact ⟨by rw [HSB.out, HALL.out, HSA.out, HSO.out]; rfl, rfl⟩
              · have hso : ops.all smallO = false := by rw [hal]; simp [smallO]; omega
                have HSO := Lib.hid hso
                clear hso hal
                have h1i : (100 : Int) < (oid.length : Int) := by omega
                go_wp2_with fail
                go_ret
                exact ⟨by rw [HSB.out, HALL.out, HSA.out, HSO.out]; rfl, rfl⟩
            · have hje : j = ops.length := by omega
              subst hje
              have hso : l.all smallA = (l.drop (k + 1)).all smallA := by rw [HALL.out, HSA.out, HJ.out, List.drop_length]; rfl
              have HSO := Lib.hid hso; clear hso
              go_wp2_with fail
              go_round
              case rel => exact ⟨k + 1, by go_num, by omega, HSO⟩
              case measure => simp [intOf]; omega
        · have h60i : (60 : Int) < (ops.length : Int) := by omega
          have hsa : smallA (ops, am) = false := by unfold smallA; rw [decide_eq_false h60]; rfl
          have HSA := Lib.hid hsa; clear hsa
          go_wp2_with fail
          go_ret
          exact ⟨by rw [HSB.out, HALL.out, HSA.out]; rfl, rfl⟩
      · have hke : k = l.length := by omega
        subst hke
        go_wp2_with fail
        go_ret
        exact ⟨by rw [HSB.out, HK.out, List.drop_length]; rfl, rfl⟩
  · have hsb : smallB l = false := by unfold smallB; rw [decide_eq_false h20]; rfl
    have HSB := Lib.hid hsb; clear hsb
    have h20i : (20 : Int) < (l.length : Int) := by omega
    go_enter Tryz.func5, Tryz.ntmps5
    go_wp2_with fail
    go_ret
    exact ⟨by rw [HSB.out]; rfl, rfl⟩
end Go.Proofs.YtoabhcfmdkhmgaaGreatDoor
end

/- (WLaw15b) codexlaw15: doc, gone, does, made: walked. -/
section
namespace Go.Proofs.YtoabhcfmdkhmgaaGreatDoor
open Go.RowKit
set_option linter.unusedVariables false

set_option maxRecDepth 100000 in
theorem doc_any (id tx : Bytes) (w : World) :
    Calls Tryz.prog 16 #[.string ⟨id.toArray⟩, .string ⟨tx.toArray⟩] w fun e w' => e = .returned (opV (false, (id, tx))) ∧ Q w w' := by
  go_enter Tryz.func16, Tryz.ntmps16
  go_wp2_with fail
  exact bodyPost_ret (v := opV (false, (id, tx))) (by simp [results, Tryz.results16, go_sem]) rfl ⟨rfl, Q.alloc _ _⟩
set_option maxRecDepth 100000 in
theorem gone_any (id : Bytes) (w : World) :
    Calls Tryz.prog 18 #[.string ⟨id.toArray⟩] w fun e w' => e = .returned (opV (true, (id, []))) ∧ Q w w' := by
  go_enter Tryz.func18, Tryz.ntmps18
  go_wp2_with fail
  exact bodyPost_ret (v := opV (true, (id, []))) (by simp [results, Tryz.results18, go_sem]) rfl ⟨rfl, Q.alloc _ _⟩
def doesL (ps : List PartL) (a : ActL) : List PartL × Bytes × Int := if a.2.1 then mergeL ps a.2.2.1 a.2.2.2 else applyL ps a.1
theorem does_ok (ps : List PartL) (a : ActL) (h : PartsOk ps) : PartsOk (doesL ps a).1 := by
  unfold doesL; split
  · exact merge_ok ps _ _ h
  · exact apply_ok ps _ h
theorem does_length (ps : List PartL) (a : ActL) : (doesL ps a).1.length ≤ ps.length + 1 := by
  unfold doesL; split
  · have := merge_length ps a.2.2.1 a.2.2.2; omega
  · exact apply_length ps _
set_option maxRecDepth 100000 in
set_option maxHeartbeats 2000000 in
theorem Does_any (v : Value) (ps : List PartL) (ov : Value) (a : ActL) (w : World) (hv : PartsAt w v ps) (hvo : Ops w ov a.1) (hon : a.1.length ≤ 1000000) (hl : ∀ o ∈ a.1, o.2.1.length ≤ 9223372036854775807 ∧ o.2.2.length ≤ 9223372036854775807)
    (hn : ps.length ≤ 1000000) (hpo : PartsOk ps) (hT : Tabs w) (hSp : Spans w) :
    Calls Tryz.prog 6 #[liveV v, .agg #[ov, .bool a.2.1, .int .i64 a.2.2.1, .int .i64 a.2.2.2]] w fun e w' => (∃ v', e = .returned (.tuple #[liveV v', strV (doesL ps a).2.1, .int .i64 (doesL ps a).2.2]) ∧ PartsAt w' v' (doesL ps a).1) ∧ Q w w' := by
  obtain ⟨ops, m, i, j⟩ := a
  simp only at hvo hon hl ⊢
  have hq0 : Q w (((w.alloc (.cells #[v] 27)).alloc (.cells #[ov, .bool m, .int .i64 i, .int .i64 j] 34)).alloc (.cells #[.slice none 0 0] 27)) := ((Q.alloc _ _).trans (Q.alloc _ _)).trans (Q.alloc _ _)
  have hbx : Boxed (((w.alloc (.cells #[v] 27)).alloc (.cells #[ov, .bool m, .int .i64 i, .int .i64 j] 34)).alloc (.cells #[.slice none 0 0] 27)) (w.heap.size + 2) 27 (.slice none 0 0) := by
    have := Boxed.new ((w.alloc (.cells #[v] 27)).alloc (.cells #[ov, .bool m, .int .i64 i, .int .i64 j] 34)) 27 (.slice none 0 0)
    simpa using this
  obtain ⟨a0, cap0, hva, _⟩ := hv.value
  obtain ⟨oa, oc, hoa, _⟩ := hvo.value
  have fin : ∀ (x : List PartL × Bytes × Int) (w1 : World) (v' : Value), Q (((w.alloc (.cells #[v] 27)).alloc (.cells #[ov, .bool m, .int .i64 i, .int .i64 j] 34)).alloc (.cells #[.slice none 0 0] 27)) w1 → PartsAt w1 v' x.1 →
      Boxed w1 (w.heap.size + 2) 27 (.slice none 0 0) ∧ PartsAt (w1.setCell ⟨w.heap.size + 2, 0, none⟩ v') v' x.1 ∧ (w1.setCell ⟨w.heap.size + 2, 0, none⟩ v').cell? ⟨w.heap.size + 2, 0, none⟩ = some v' ∧ Q w (w1.setCell ⟨w.heap.size + 2, 0, none⟩ v') := by
    intro x w1 v' q hp
    have b := block_stays' q hbx
    exact ⟨b, PartsAt.setBox b v' hp (by decide), (Boxed.set v' b).cell, (hq0.trans q).setCell (by simp) _⟩
  have FIN := Lib.hid fin
  cases m with
  | true =>
    have e : doesL ps (ops, true, i, j) = mergeL ps i j := rfl
    rw [e]
    have c := Merge_any v ps i j _ (hv.stays hq0) hn hpo (hT.stays hq0) (hSp.stays hq0)
    subst hva hoa
    have C := Lib.hid c
    clear c hv hvo hq0 hbx hT hSp hl fin e
    go_enter Tryz.func6, Tryz.ntmps6
    go_wp2_with fail
    refine C.out.mono ?_
    rintro e w1 ⟨⟨v', rfl, hp⟩, q⟩
    obtain ⟨xa, xcap, rfl, _⟩ := hp.value
    obtain ⟨b1, p1, r1, q1⟩ := FIN.out _ w1 _ q hp
    have c1 := b1.cell; have f1 := b1.frozen
    have P1 := Lib.hid p1; have R1 := Lib.hid r1; have Q1 := Lib.hid q1
    clear b1 p1 r1 q1 q hp
    go_wp2_with fail
    refine bodyPost_ret (v := .tuple #[liveV (.slice xa (mergeL ps i j).1.length xcap), strV (mergeL ps i j).2.1, .int .i64 (mergeL ps i j).2.2]) (by simp [results, Tryz.results6, go_sem, R1.out]) rfl ⟨⟨_, rfl, P1.out⟩, Q1.out⟩
  | false =>
    have e : doesL ps (ops, false, i, j) = applyL ps ops := rfl
    rw [e]
    have c := Apply_any v ps ov ops _ (hv.stays hq0) (hvo.stays hq0) hon hl hn hpo.1 (hT.stays hq0) (hSp.stays hq0)
    subst hva hoa
    have C := Lib.hid c
    clear c hv hvo hq0 hbx hT hSp hl fin e
    go_enter Tryz.func6, Tryz.ntmps6
    go_wp2_with fail
    refine C.out.mono ?_
    rintro e w1 ⟨⟨v', rfl, hp⟩, q⟩
    obtain ⟨xa, xcap, rfl, _⟩ := hp.value
    obtain ⟨b1, p1, r1, q1⟩ := FIN.out _ w1 _ q hp
    have c1 := b1.cell; have f1 := b1.frozen
    have P1 := Lib.hid p1; have R1 := Lib.hid r1; have Q1 := Lib.hid q1
    clear b1 p1 r1 q1 q hp
    go_wp2_with fail
    refine bodyPost_ret (v := .tuple #[liveV (.slice xa (applyL ps ops).1.length xcap), strV (applyL ps ops).2.1, .int .i64 (applyL ps ops).2.2]) (by simp [results, Tryz.results6, go_sem, R1.out]) rfl ⟨⟨_, rfl, P1.out⟩, Q1.out⟩
def madeL (l : List ActL) (k : Nat) : List PartL := (l.take k).foldl (fun ps a => (doesL ps a).1) []
theorem madeL_succ (l : List ActL) (k : Nat) (h : k < l.length) : madeL l (k + 1) = (doesL (madeL l k) l[k]).1 := by
  unfold madeL
  rw [List.take_succ_eq_append_getElem h, List.foldl_append]; rfl
theorem madeL_ok (l : List ActL) (k : Nat) (hk : k ≤ l.length) : PartsOk (madeL l k) ∧ (madeL l k).length ≤ k := by
  induction k with
  | zero => exact ⟨⟨by simp [madeL], by simp [madeL, liveL]⟩, by simp [madeL]⟩
  | succ k ih =>
    obtain ⟨h1, h2⟩ := ih (by omega)
    rw [madeL_succ l k (by omega)]
    exact ⟨does_ok _ _ h1, by have := does_length (madeL l k) l[k]; omega⟩
theorem PartsAt.nil (w : World) : PartsAt w (.slice none 0 0) [] := PartsAt.of [] rfl (fun i p q hp => by simp at hp) (Sl.nil _ _) (fun a n c e => by cases e; exact Nat.le_refl _)
theorem smallB_facts {l : List ActL} (h : smallB l = true) : l.length ≤ 20 ∧ ∀ a ∈ l, a.1.length ≤ 60 ∧ ∀ o ∈ a.1, o.2.1.length ≤ 100 ∧ o.2.2.length ≤ 2100 := by
  unfold smallB at h
  simp only [Bool.and_eq_true, decide_eq_true_eq] at h
  refine ⟨h.1, fun a ha => ?_⟩
  have h2 := List.all_eq_true.1 h.2 a ha
  unfold smallA at h2
  simp only [Bool.and_eq_true, decide_eq_true_eq] at h2
  refine ⟨h2.1, fun o ho => ?_⟩
  have h3 := List.all_eq_true.1 h2.2 o ho
  unfold smallO at h3
  simpa only [Bool.and_eq_true, decide_eq_true_eq] using h3
/-- lengths as each argument has them -/
def ActsWf (l : List ActL) : Prop := l.length ≤ 9223372036854775807 ∧ ∀ a ∈ l, a.1.length ≤ 9223372036854775807 ∧ ∀ o ∈ a.1, o.2.1.length ≤ 9223372036854775807 ∧ o.2.2.length ≤ 9223372036854775807
def OpsWf (l : List OpL) : Prop := l.length ≤ 9223372036854775807 ∧ ∀ o ∈ l, o.2.1.length ≤ 9223372036854775807 ∧ o.2.2.length ≤ 9223372036854775807
end Go.Proofs.YtoabhcfmdkhmgaaGreatDoor
end
