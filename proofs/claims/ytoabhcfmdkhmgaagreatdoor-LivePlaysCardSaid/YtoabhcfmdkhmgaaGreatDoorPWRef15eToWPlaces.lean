/- Joined texts of one proof: WRef15e, Plc, BitA, WPlaces. -/
import Derived.Test.YtoabhcfmdkhmgaaGreatDoorPWRef15cToWRef15d
import Derived.Test.YtoabhcfmdkhmgaaGreatDoorPMapsToLive
import Derived.Test.YtoabhcfmdkhmgaaGreatDoorProg
import Derived.Test.YtoabhcfmdkhmgaaGreatDoorPWRef11aToBase
import Derived.WalkKit
import Derived.WalkSpells
import Derived.WalkLawsBesides
import Derived.Test.YtoabhcfmdkhmgaaGreatDoorPWLastToLive2
set_option linter.unusedSimpArgs false
set_option linter.unusedVariables false
set_option linter.unnecessarySimpa false
/- (WRef15e) codexref15: Merge: walked. -/
section
namespace Go.Proofs.YtoabhcfmdkhmgaaGreatDoor
open Go.RowKit
set_option linter.unusedVariables false

theorem partMVs_take (l : List PartM) (k : Nat) : (partMVs l).take (k * 2) = partMVs (l.take k) := by
  induction l generalizing k with
  | nil => simp [partMVs]
  | cons x l ih =>
    cases k with
    | zero => simp [partMVs]
    | succ k =>
      have := ih k
      simp only [partMVs, List.flatMap_cons, List.take_succ_cons] at this ⊢
      rw [show (k + 1) * 2 = k * 2 + 1 + 1 by omega]
      simp [this]
theorem partMVs_drop (l : List PartM) (k : Nat) : (partMVs l).drop (k * 2) = partMVs (l.drop k) := by
  induction l generalizing k with
  | nil => simp [partMVs]
  | cons x l ih =>
    cases k with
    | zero => simp [partMVs]
    | succ k =>
      have := ih k
      simp only [partMVs, List.flatMap_cons, List.drop_succ_cons] at this ⊢
      rw [show (k + 1) * 2 = k * 2 + 1 + 1 by omega]
      simp [this]
theorem Sl.one {w : World} {v : Value} {n size : Nat} {xs : List Value} (h : Sl w v n size xs) : v.oneCell' = true := by
  obtain ⟨_, a, c, rfl, _⟩ := h; rfl
theorem partMVs_one {w : World} {l : List PartM} (h : ∀ p ∈ l, Docs w p.1 p.2.2.1 ∧ Bools w p.2.1 p.2.2.2) : ∀ u ∈ partMVs l, u.oneCell' = true := by
  intro u hu
  obtain ⟨p, hp, hu⟩ := List.mem_flatMap.1 hu
  have := h p hp
  simp only [List.mem_cons, List.not_mem_nil, or_false] at hu
  rcases hu with rfl | rfl
  · exact Sl.one this.1
  · exact Sl.one this.2
theorem own_lit0P (W : World) (base : Nat) (hb : base ≤ W.heap.size) : (W.alloc (.cells #[] 67)).ownsRow base 67 2 (.slice (some ⟨W.heap.size, 0, none⟩) 0 0) 0 (partMVs []) := ⟨rfl, .inr ⟨W.heap.size, 0, #[], rfl, hb, heap_alloc_new _ _, Nat.le_refl _, by decide, rfl, rfl⟩⟩
theorem map_take_rOf (l : List PartM) (k : Nat) : (l.take k).map rOf = (l.map rOf).take k := List.map_take
set_option maxRecDepth 100000 in
set_option maxHeartbeats 4000000 in
theorem RMerge_good (v : Value) (l : List PartM) (i j : Nat) (w : World) (hv : PartsM w v l) (hn : l.length ≤ 1000) (hl : ∀ p ∈ l, RPartOk p.2.2) (hij : i < j) (hjl : j < l.length)
    (hok : docsOk (docsR (((l.map rOf).take (j + 1)).drop i))) (hok5 : (docsR (((l.map rOf).take (j + 1)).drop i)).length ≤ 1000000) :
    Calls Tryz.prog 20 #[v, .int .i64 i, .int .i64 j] w fun e w' => RPost w (mergeR (l.map rOf) i j) e w' := by
  obtain ⟨a, cap, rfl, hcell⟩ := hv.value
  have hcap := hv.2.2 _ _ _ rfl
  obtain ⟨b, off, rfl, hcc⟩ := hcell (by omega)
  have hR : mergeR (l.map rOf) i j = if 500 < (docsR (((l.map rOf).take (j + 1)).drop i)).length then (l.map rOf, [], 6) else ((l.map rOf).take i ++ (freshR (docsR (((l.map rOf).take (j + 1)).drop i)) ++ (l.map rOf).drop (j + 1)), (if docsR (((l.map rOf).take (j + 1)).drop i) = [] then [] else segE (docsR (((l.map rOf).take (j + 1)).drop i)) (idxL (docsR (((l.map rOf).take (j + 1)).drop i)))), 0) := by
    unfold mergeR; rw [if_neg (by rw [List.length_map]; omega)]; simp only [Int.toNat_natCast]
  have i1 : ¬ (i : Int) < 0 := by omega
  have i2 : ¬ (j : Int) ≤ (i : Int) := by omega
  have i3 : ¬ (l.length : Int) ≤ (j : Int) := by omega
  have i4 : ¬ cap = i := by omega
  have i5 : (i : Int) ≤ (j : Int) + 1 := by omega
  have i6 : (j : Int) + 1 ≤ (cap : Int) := by omega
  have i7 : (i : Int) ≤ (cap : Int) := by omega
  have hsub : PartsM w (.slice (some ⟨b, off + i * 2, none⟩) (j + 1 - i) (cap - i)) ((l.take (j + 1)).drop i) := by
    refine ⟨?_, fun p hp => hv.2.1 p (List.mem_of_mem_take (List.mem_of_mem_drop hp)), fun _ _ _ e => by cases e; omega⟩
    have h := sl_drop (sl_take hv.1 (j + 1) (by omega)) i (by omega) (off + i * 2) (cap - i) rfl
    rw [partMVs_take, partMVs_drop] at h
    have e : ((l.take (j + 1)).drop i).length = j + 1 - i := by rw [List.length_drop, List.length_take]; omega
    rw [e]; exact h
  have cd := fun W (q : Q w W) => RDocs15_any _ _ W (hsub.stays q) (by rw [List.length_drop, List.length_take]; omega) (fun p hp => ⟨(hl p (List.mem_of_mem_take (List.mem_of_mem_drop hp))).1, (hl p (List.mem_of_mem_take (List.mem_of_mem_drop hp))).len.1⟩)
  rw [List.map_drop, List.map_take] at cd
  generalize docsR (((l.map rOf).take (j + 1)).drop i) = dl at *
  have CD := Lib.hid cd; have HR := Lib.hid hR; have HV := Lib.hid hv
  clear cd hR hv hcell hcc hl hsub
  generalize mergeR (l.map rOf) i j = R at *
  go_enter Tryz.func20, Tryz.ntmps20
  go_wp2_with fail
  refine (CD.out w (Q.refl _)).mono ?_
  rintro e w1 ⟨dv, rfl, hdo, q1⟩
  obtain ⟨da, dc, hdv, _⟩ := owns_value hdo
  subst hdv
  have HDO := Lib.hid hdo; have HQ1 := Lib.hid q1
  clear hdo q1 CD
  by_cases h5 : 500 < dl.length
  · have hRR := HR.out
    rw [if_pos h5] at hRR
    have HRR := Lib.hid hRR
    clear hRR HR
    go_wp2_with fail
    go_ret3
    exact ⟨⟨_, l, by rw [HRR.out]; rfl, HV.out.stays HQ1.out, by rw [HRR.out]⟩, HQ1.out⟩
  · have hRR := HR.out
    rw [if_neg h5] at hRR
    have HRR := Lib.hid hRR
    clear hRR HR
    have h5' : dl.length ≤ 500 := by omega
    clear h5
    have hq2 := Q.alloc w1 (.cells #[] 67)
    have hv2 := (HV.out.stays HQ1.out).stays hq2
    have hs2 := sl_take hv2.1 i (by omega)
    rw [partMVs_take] at hs2
    have hone2 := partMVs_one (fun p hp => hv2.2.1 p (List.mem_of_mem_take (i := i) hp))
    have ho2 := own_lit0P w1 w1.heap.size (Nat.le_refl _)
    have h63 : 0 + i ≤ maxLen := by unfold maxLen; omega
    have hby : (0 + i) * 48 ≤ 140737488355328 := by omega
    have hbase : w1.heap.size ≤ (w1.alloc (.cells #[] 67)).heap.size := by simp
    have HS2 := Lib.hid hs2; have HONE2 := Lib.hid hone2; have HO2 := Lib.hid ho2; have HQ2 := Lib.hid (HQ1.out.trans hq2); have HQ12 := Lib.hid hq2
    clear hs2 hone2 ho2 hq2 hv2
    obtain ⟨ip, hip, hpz0, hpz1, hpz2⟩ := info_parts tinfoP67
    obtain ⟨ib, hib, hbz0, hbz1, hbz2⟩ := info_parts tinfoB4
    go_wp2_with (at_builtin; go_must (refine wpList_append_sl (w1.alloc (.cells #[] 67)) (by rfl) _ _ 28 (by rfl) w1.heap.size 67 ip (.agg #[.slice none 0 0, .slice none 0 0]) 2 48 Tryz.underlying28 hip hpz0 hpz1 hpz2 rfl (by decide) _ _ _ (by rfl) HO2.out _ _ _ (by rfl) HS2.out HONE2.out h63 hby hbase ?_))
    intro v3 w3 ho3 hg3 hat3
    have ho3 : w3.ownsRow w1.heap.size 67 2 v3 i (partMVs (l.take i)) := by simpa using ho3
    have q13 : Q w1 w3 := HQ12.out.grown hg3 hbase (fun k hk => by simp [Value.ownBlock] at hk; omega)
    obtain ⟨a3, c3, hv3, _⟩ := owns_value ho3
    subst hv3
    have HO3 := Lib.hid ho3; have HQ13 := Lib.hid q13; have HQ3 := Lib.hid (HQ1.out.trans q13)
    clear ho3 hg3 hat3 q13 HS2 HONE2 HO2 HQ2 HQ12 h63 hby hbase
    by_cases hz : dl.length = 0
    · have hnil : dl = [] := List.eq_nil_of_length_eq_zero hz
      clear hok
      subst hnil
      have HOT := HO3; have HQT := HQ3
      have HBT := Lib.hid HQ13.out.size
      have hlt : (l.take i).length = i := by rw [List.length_take]; omega
      have HLT := Lib.hid hlt
      have hnew : ∀ W8, w3.grownBy W8 (Value.slice a3 i c3).ownBlock → Q w W8 → ∀ p ∈ l.take i, Docs W8 p.1 p.2.2.1 ∧ Bools W8 p.2.1 p.2.2.2 := fun W8 _ q p hp => (HV.out.stays q).2.1 p (List.mem_of_mem_take hp)
      have hfine : (l.take i ++ l.drop (j + 1)).map rOf = (l.map rOf).take i ++ ([] ++ (l.map rOf).drop (j + 1)) := by rw [List.map_append, List.map_take, List.map_drop]; rfl
      have HNEW := Lib.hid hnew; have HFINE := Lib.hid hfine
      clear hlt hnew hfine
      have honet := partMVs_one (fun p hp => (HV.out.stays HQT.out).2.1 p (List.mem_of_mem_drop (i := j + 1) hp))
      have HONET := Lib.hid honet
      have hbase : w1.heap.size ≤ w3.heap.size := HBT.out
      clear honet
      by_cases hjn : l.length = j + 1
      · have hslt : ∀ (A : Option Addr) (c : Nat), Sl w3 (.slice A 0 c) 0 2 (partMVs (l.drop (j + 1))) := fun A c => by
          rw [List.drop_eq_nil_of_le (by omega)]; exact sl_none w3 _ _ _
        have hlen : (l.take i ++ l.drop (j + 1)).length = i + 0 := by rw [List.length_append, HLT.out, List.length_drop]; omega
        have h63 : i + 0 ≤ maxLen := by unfold maxLen; omega
        have hby : (i + 0) * 48 ≤ 140737488355328 := by omega
        have HSLT := Lib.hid hslt; have HLEN := Lib.hid hlen; have HJN := Lib.hid hjn
        have hz0 : l.length - (j + 1) = 0 := by omega
        have i8 : (j : Int) + 1 ≤ (l.length : Int) := by omega
        clear hslt hlen
        by_cases hcj : cap = j + 1
        · have hcj2 := hcj
          subst hcj2
          go_wp2_with (at_builtin; go_must (refine wpList_append_sl w3 (by rfl) _ _ 28 (by rfl) w1.heap.size 67 ip (.agg #[.slice none 0 0, .slice none 0 0]) 2 48 Tryz.underlying28 hip hpz0 hpz1 hpz2 rfl (by decide) _ _ _ (by rfl) HOT.out _ 0 _ (by rfl) (HSLT.out _ _) HONET.out h63 hby hbase ?_))
          intro v8 w8 ho8 hg8 hat8
          have q8 : Q w w8 := (grown_below HQT.out HOT.out hg8 HQ1.out.size HQT.out.size : Below w.heap.size w w8)
          have hrow8 : w8.ownsRow w1.heap.size 67 2 v8 (l.take i ++ l.drop (j + 1)).length (partMVs (l.take i ++ l.drop (j + 1))) := by
            have e : partMVs (l.take i ++ l.drop (j + 1)) = partMVs (l.take i) ++ partMVs (l.drop (j + 1)) := by simp [partMVs]
            rw [e, HLEN.out]; first | exact ho8 | simpa [partMVs] using ho8
          have hall8 : ∀ p ∈ l.take i ++ l.drop (j + 1), Docs w8 p.1 p.2.2.1 ∧ Bools w8 p.2.1 p.2.2.2 := by
            intro p hp
            rcases List.mem_append.1 hp with hp | hp
            · exact HNEW.out w8 hg8 q8 p hp
            · exact (HV.out.stays q8).2.1 p (List.mem_of_mem_drop hp)
          have HALL8 := Lib.hid hall8; have HROW8 := Lib.hid hrow8; have HQ8 := Lib.hid q8
          clear hall8 hrow8 q8 ho8 hg8 hat8
          go_wp2_with fail
          go_ret3
          refine ⟨⟨_, l.take i ++ l.drop (j + 1), by rw [HRR.out]; rfl, ⟨Sl.of_owns HROW8.out, HALL8.out, fun a n c e => ?_⟩, ?_⟩, HQ8.out⟩
          · obtain ⟨a', c', hv'⟩ : ∃ a' c', v8 = .slice a' (l.take i ++ l.drop (j + 1)).length c' := by obtain ⟨a', c', h, _⟩ := owns_value HROW8.out; exact ⟨a', c', h⟩
            have hr8 := HROW8.out
            subst hv'
            have e' : Value.slice a' (l.take i ++ l.drop (j + 1)).length c' = .slice a n c := e
            cases e'
            exact (owns_cap2 hr8).1
          · first | (rw [HRR.out, HFINE.out]; done) | (rw [HRR.out, HFINE.out]; rfl)
        · clear hjn
          go_wp2_with (at_builtin; go_must (refine wpList_append_sl w3 (by rfl) _ _ 28 (by rfl) w1.heap.size 67 ip (.agg #[.slice none 0 0, .slice none 0 0]) 2 48 Tryz.underlying28 hip hpz0 hpz1 hpz2 rfl (by decide) _ _ _ (by rfl) HOT.out _ 0 _ (by rfl) (HSLT.out _ _) HONET.out h63 hby hbase ?_))
          intro v8 w8 ho8 hg8 hat8
          have q8 : Q w w8 := (grown_below HQT.out HOT.out hg8 HQ1.out.size HQT.out.size : Below w.heap.size w w8)
          have hrow8 : w8.ownsRow w1.heap.size 67 2 v8 (l.take i ++ l.drop (j + 1)).length (partMVs (l.take i ++ l.drop (j + 1))) := by
            have e : partMVs (l.take i ++ l.drop (j + 1)) = partMVs (l.take i) ++ partMVs (l.drop (j + 1)) := by simp [partMVs]
            rw [e, HLEN.out]; first | exact ho8 | simpa [partMVs] using ho8
          have hall8 : ∀ p ∈ l.take i ++ l.drop (j + 1), Docs w8 p.1 p.2.2.1 ∧ Bools w8 p.2.1 p.2.2.2 := by
            intro p hp
            rcases List.mem_append.1 hp with hp | hp
            · exact HNEW.out w8 hg8 q8 p hp
            · exact (HV.out.stays q8).2.1 p (List.mem_of_mem_drop hp)
          have HALL8 := Lib.hid hall8; have HROW8 := Lib.hid hrow8; have HQ8 := Lib.hid q8
          clear hall8 hrow8 q8 ho8 hg8 hat8
          go_wp2_with fail
          go_ret3
          refine ⟨⟨_, l.take i ++ l.drop (j + 1), by rw [HRR.out]; rfl, ⟨Sl.of_owns HROW8.out, HALL8.out, fun a n c e => ?_⟩, ?_⟩, HQ8.out⟩
          · obtain ⟨a', c', hv'⟩ : ∃ a' c', v8 = .slice a' (l.take i ++ l.drop (j + 1)).length c' := by obtain ⟨a', c', h, _⟩ := owns_value HROW8.out; exact ⟨a', c', h⟩
            have hr8 := HROW8.out
            subst hv'
            have e' : Value.slice a' (l.take i ++ l.drop (j + 1)).length c' = .slice a n c := e
            cases e'
            exact (owns_cap2 hr8).1
          · first | (rw [HRR.out, HFINE.out]; done) | (rw [HRR.out, HFINE.out]; rfl)
      · have hcj : ¬ cap = j + 1 := by omega
        have hslt := sl_drop (HV.out.stays HQT.out).1 (j + 1) (by omega) (off + (j + 1) * 2) (cap - (j + 1)) rfl
        rw [partMVs_drop] at hslt
        have hlen : (l.take i ++ l.drop (j + 1)).length = i + (l.length - (j + 1)) := by rw [List.length_append, HLT.out, List.length_drop]
        have h63 : i + (l.length - (j + 1)) ≤ maxLen := by unfold maxLen; omega
        have hby : (i + (l.length - (j + 1))) * 48 ≤ 140737488355328 := by omega
        have HSLT := Lib.hid hslt; have HLEN := Lib.hid hlen
        have i8 : (j : Int) + 1 ≤ (l.length : Int) := by omega
        clear hslt hlen hjn
        go_wp2_with (at_builtin; go_must (refine wpList_append_sl w3 (by rfl) _ _ 28 (by rfl) w1.heap.size 67 ip (.agg #[.slice none 0 0, .slice none 0 0]) 2 48 Tryz.underlying28 hip hpz0 hpz1 hpz2 rfl (by decide) _ _ _ (by rfl) HOT.out _ (l.length - (j + 1)) _ (by rfl) (HSLT.out) HONET.out h63 hby hbase ?_))
        intro v8 w8 ho8 hg8 hat8
        have q8 : Q w w8 := (grown_below HQT.out HOT.out hg8 HQ1.out.size HQT.out.size : Below w.heap.size w w8)
        have hrow8 : w8.ownsRow w1.heap.size 67 2 v8 (l.take i ++ l.drop (j + 1)).length (partMVs (l.take i ++ l.drop (j + 1))) := by
          have e : partMVs (l.take i ++ l.drop (j + 1)) = partMVs (l.take i) ++ partMVs (l.drop (j + 1)) := by simp [partMVs]
          rw [e, HLEN.out]; first | exact ho8 | simpa [partMVs] using ho8
        have hall8 : ∀ p ∈ l.take i ++ l.drop (j + 1), Docs w8 p.1 p.2.2.1 ∧ Bools w8 p.2.1 p.2.2.2 := by
          intro p hp
          rcases List.mem_append.1 hp with hp | hp
          · exact HNEW.out w8 hg8 q8 p hp
          · exact (HV.out.stays q8).2.1 p (List.mem_of_mem_drop hp)
        have HALL8 := Lib.hid hall8; have HROW8 := Lib.hid hrow8; have HQ8 := Lib.hid q8
        clear hall8 hrow8 q8 ho8 hg8 hat8
        go_wp2_with fail
        go_ret3
        refine ⟨⟨_, l.take i ++ l.drop (j + 1), by rw [HRR.out]; rfl, ⟨Sl.of_owns HROW8.out, HALL8.out, fun a n c e => ?_⟩, ?_⟩, HQ8.out⟩
        · obtain ⟨a', c', hv'⟩ : ∃ a' c', v8 = .slice a' (l.take i ++ l.drop (j + 1)).length c' := by obtain ⟨a', c', h, _⟩ := owns_value HROW8.out; exact ⟨a', c', h⟩
          have hr8 := HROW8.out
          subst hv'
          have e' : Value.slice a' (l.take i ++ l.drop (j + 1)).length c' = .slice a n c := e
          cases e'
          exact (owns_cap2 hr8).1
        · first | (rw [HRR.out, HFINE.out]; done) | (rw [HRR.out, HFINE.out]; rfl)
    · have hne : dl ≠ [] := fun e => hz (by rw [e]; rfl)
      have hds := (Sl.of_owns HDO.out).stays HQ13.out
      have hbig : ∀ d ∈ dl, d.1.length ≤ 9223372036854775807 ∧ d.2.length ≤ 9223372036854775807 := fun d hd => by
        have := rightB_len (hok.1 d hd); omega
      have hb : (buildS dl).1 = segE dl (idxL dl) := by unfold buildS; rw [if_neg (by omega), if_pos hok, idx_eq]
      have cb := RBuild_any _ dl w3 hds (by omega) hbig
      rw [hb] at cb
      have CB := Lib.hid cb; have HNE := Lib.hid hne
      clear cb hb hds hbig hne hok
      generalize segE dl (idxL dl) = sg at *
      go_wp2_with fail
      refine CB.out.mono ?_
      rintro e w5 ⟨rfl, q5⟩
      obtain ⟨w6, hmk, hrow, hgm⟩ := run_make_full (P := Tryz.prog) w5 w1.heap.size 65 4 ib (.bool false) 1 Tryz.underlying65 hib hbz0 hbz1 .i64 .i64 dl.length (by rw [hbz2]; omega) (by unfold maxLen; omega) (by have := (HQ13.out.trans q5).size; omega)
      rw [made_bools] at hrow
      have q6 : Q w5 w6 := Below.grown (Below.refl _ _) hgm (Nat.le_refl _) (fun k hk => by simp at hk)
      have ho6 := ownsRow_below HO3.out (q5.trans q6)
      have hdo6 := ownsRow_below HDO.out (HQ13.out.trans (q5.trans q6))
      have hsz : w1.heap.size ≤ w6.heap.size := (HQ13.out.trans (q5.trans q6)).size
      have HROW := Lib.hid hrow; have HQ6 := Lib.hid (HQ3.out.trans (q5.trans q6)); have HDO6 := Lib.hid hdo6
      clear hrow hdo6 q5 q6 hgm
      go_wp2_with (at_builtin; go_must (refine wpList_app w6 (by rfl) _ _ 28 (by rfl) w1.heap.size 67 _ ip (.agg #[.slice none 0 0, .slice none 0 0]) 2 48 Tryz.underlying28 hip hpz0 hpz1 hpz2 rfl (by decide) (by decide) _ _ _ (by rfl) ho6 #[.slice da dl.length dc, .slice (some ⟨w5.heap.size, 0, none⟩) dl.length dl.length] (by simp [Act.eval]) rfl ?c1 ?c2 hsz ?_))
      case c1 => simp [Value.oneCell']
      case c2 => omega
      intro g7 cap7 w7 hown7 hg7 hat7 hlt7 hsz7
      have q7 : Q w w7 := (grown_below HQ6.out ho6 hg7 HQ1.out.size HQ6.out.size : Below w.heap.size w w7)
      have hdo7 := row_beside HDO6.out ho6 hg7 (by decide)
      have hrw7 := row_beside HROW.out ho6 hg7 (by decide)
      have HQT := Lib.hid q7
      have HBT := Lib.hid (show w1.heap.size ≤ w7.heap.size by omega)
      generalize hnp : ((Value.slice da dl.length dc, Value.slice (some ⟨w5.heap.size, 0, none⟩) dl.length dl.length, dl, List.replicate dl.length false) : PartM) = np at *
      have hot : w7.ownsRow w1.heap.size 67 2 (.slice (some ⟨g7, 0, none⟩) (i + 1) cap7) (i + 1) (partMVs (l.take i ++ [np])) := by
        rw [partMVs_append, ← hnp]; simpa using hown7
      have HOT := Lib.hid hot
      have hlt : (l.take i ++ [np]).length = i + 1 := by rw [List.length_append, List.length_take]; simp; omega
      have HLT := Lib.hid hlt
      have hnew : ∀ W8, w7.grownBy W8 (Value.slice (some ⟨g7, 0, none⟩) (i + 1) cap7).ownBlock → Q w W8 → ∀ p ∈ l.take i ++ [np], Docs W8 p.1 p.2.2.1 ∧ Bools W8 p.2.1 p.2.2.2 := fun W8 hg q p hp => by
        rcases List.mem_append.1 hp with hp | hp
        · exact (HV.out.stays q).2.1 p (List.mem_of_mem_take hp)
        · rw [List.mem_singleton] at hp
          subst hp
          subst hnp
          refine ⟨Sl.of_owns (row_beside hdo7 hot hg (by decide)), ?_⟩
          have := Sl.of_owns (row_beside hrw7 hot hg (by decide))
          show Sl W8 _ (List.replicate dl.length false).length 1 _
          rw [List.length_replicate]; exact this
      have hfine : ((l.take i ++ [np]) ++ l.drop (j + 1)).map rOf = (l.map rOf).take i ++ (freshR dl ++ (l.map rOf).drop (j + 1)) := by
        rw [List.map_append, List.map_append, List.map_take, List.map_drop, List.append_assoc, ← hnp]
        unfold freshR; rw [if_neg HNE.out]; rfl
      have HNEW := Lib.hid hnew; have HFINE := Lib.hid hfine; have HNP := Lib.hid hnp
      clear hlt hnew hfine hot hnp hdo7 hrw7 hown7 hg7 hat7 ho6 q7 hsz hmk hlt7 hsz7
      have honet := partMVs_one (fun p hp => (HV.out.stays HQT.out).2.1 p (List.mem_of_mem_drop (i := j + 1) hp))
      have HONET := Lib.hid honet
      have hbase : w1.heap.size ≤ w7.heap.size := HBT.out
      clear honet
      by_cases hjn : l.length = j + 1
      · have hslt : ∀ (A : Option Addr) (c : Nat), Sl w7 (.slice A 0 c) 0 2 (partMVs (l.drop (j + 1))) := fun A c => by
          rw [List.drop_eq_nil_of_le (by omega)]; exact sl_none w7 _ _ _
        have hlen : (l.take i ++ [np] ++ l.drop (j + 1)).length = (i + 1) + 0 := by rw [List.length_append, HLT.out, List.length_drop]; omega
        have h63 : (i + 1) + 0 ≤ maxLen := by unfold maxLen; omega
        have hby : ((i + 1) + 0) * 48 ≤ 140737488355328 := by omega
        have HSLT := Lib.hid hslt; have HLEN := Lib.hid hlen; have HJN := Lib.hid hjn
        have hz0 : l.length - (j + 1) = 0 := by omega
        have i8 : (j : Int) + 1 ≤ (l.length : Int) := by omega
        clear hslt hlen
        by_cases hcj : cap = j + 1
        · have hcj2 := hcj
          subst hcj2
          go_wp2_with (at_builtin; go_must (refine wpList_append_sl w7 (by rfl) _ _ 28 (by rfl) w1.heap.size 67 ip (.agg #[.slice none 0 0, .slice none 0 0]) 2 48 Tryz.underlying28 hip hpz0 hpz1 hpz2 rfl (by decide) _ _ _ (by rfl) HOT.out _ 0 _ (by rfl) (HSLT.out _ _) HONET.out h63 hby hbase ?_))
          intro v8 w8 ho8 hg8 hat8
          have q8 : Q w w8 := (grown_below HQT.out HOT.out hg8 HQ1.out.size HQT.out.size : Below w.heap.size w w8)
          have hrow8 : w8.ownsRow w1.heap.size 67 2 v8 (l.take i ++ [np] ++ l.drop (j + 1)).length (partMVs (l.take i ++ [np] ++ l.drop (j + 1))) := by
            have e : partMVs (l.take i ++ [np] ++ l.drop (j + 1)) = partMVs (l.take i ++ [np]) ++ partMVs (l.drop (j + 1)) := by simp [partMVs]
            rw [e, HLEN.out]; first | exact ho8 | simpa [partMVs] using ho8
          have hall8 : ∀ p ∈ l.take i ++ [np] ++ l.drop (j + 1), Docs w8 p.1 p.2.2.1 ∧ Bools w8 p.2.1 p.2.2.2 := by
            intro p hp
            rcases List.mem_append.1 hp with hp | hp
            · exact HNEW.out w8 hg8 q8 p hp
            · exact (HV.out.stays q8).2.1 p (List.mem_of_mem_drop hp)
          have HALL8 := Lib.hid hall8; have HROW8 := Lib.hid hrow8; have HQ8 := Lib.hid q8
          clear hall8 hrow8 q8 ho8 hg8 hat8
          go_wp2_with fail
          go_ret3
          refine ⟨⟨_, l.take i ++ [np] ++ l.drop (j + 1), by rw [HRR.out]; simp only [if_neg HNE.out]; rfl, ⟨Sl.of_owns HROW8.out, HALL8.out, fun a n c e => ?_⟩, ?_⟩, HQ8.out⟩
          · obtain ⟨a', c', hv'⟩ : ∃ a' c', v8 = .slice a' (l.take i ++ [np] ++ l.drop (j + 1)).length c' := by obtain ⟨a', c', h, _⟩ := owns_value HROW8.out; exact ⟨a', c', h⟩
            have hr8 := HROW8.out
            subst hv'
            have e' : Value.slice a' (l.take i ++ [np] ++ l.drop (j + 1)).length c' = .slice a n c := e
            cases e'
            exact (owns_cap2 hr8).1
          · first | (rw [HRR.out, HFINE.out]; done) | (rw [HRR.out, HFINE.out]; rfl)
        · clear hjn
          go_wp2_with (at_builtin; go_must (refine wpList_append_sl w7 (by rfl) _ _ 28 (by rfl) w1.heap.size 67 ip (.agg #[.slice none 0 0, .slice none 0 0]) 2 48 Tryz.underlying28 hip hpz0 hpz1 hpz2 rfl (by decide) _ _ _ (by rfl) HOT.out _ 0 _ (by rfl) (HSLT.out _ _) HONET.out h63 hby hbase ?_))
          intro v8 w8 ho8 hg8 hat8
          have q8 : Q w w8 := (grown_below HQT.out HOT.out hg8 HQ1.out.size HQT.out.size : Below w.heap.size w w8)
          have hrow8 : w8.ownsRow w1.heap.size 67 2 v8 (l.take i ++ [np] ++ l.drop (j + 1)).length (partMVs (l.take i ++ [np] ++ l.drop (j + 1))) := by
            have e : partMVs (l.take i ++ [np] ++ l.drop (j + 1)) = partMVs (l.take i ++ [np]) ++ partMVs (l.drop (j + 1)) := by simp [partMVs]
            rw [e, HLEN.out]; first | exact ho8 | simpa [partMVs] using ho8
          have hall8 : ∀ p ∈ l.take i ++ [np] ++ l.drop (j + 1), Docs w8 p.1 p.2.2.1 ∧ Bools w8 p.2.1 p.2.2.2 := by
            intro p hp
            rcases List.mem_append.1 hp with hp | hp
            · exact HNEW.out w8 hg8 q8 p hp
            · exact (HV.out.stays q8).2.1 p (List.mem_of_mem_drop hp)
          have HALL8 := Lib.hid hall8; have HROW8 := Lib.hid hrow8; have HQ8 := Lib.hid q8
          clear hall8 hrow8 q8 ho8 hg8 hat8
          go_wp2_with fail
          go_ret3
          refine ⟨⟨_, l.take i ++ [np] ++ l.drop (j + 1), by rw [HRR.out]; simp only [if_neg HNE.out]; rfl, ⟨Sl.of_owns HROW8.out, HALL8.out, fun a n c e => ?_⟩, ?_⟩, HQ8.out⟩
          · obtain ⟨a', c', hv'⟩ : ∃ a' c', v8 = .slice a' (l.take i ++ [np] ++ l.drop (j + 1)).length c' := by obtain ⟨a', c', h, _⟩ := owns_value HROW8.out; exact ⟨a', c', h⟩
            have hr8 := HROW8.out
            subst hv'
            have e' : Value.slice a' (l.take i ++ [np] ++ l.drop (j + 1)).length c' = .slice a n c := e
            cases e'
            exact (owns_cap2 hr8).1
          · first | (rw [HRR.out, HFINE.out]; done) | (rw [HRR.out, HFINE.out]; rfl)
      · have hcj : ¬ cap = j + 1 := by omega
        have hslt := sl_drop (HV.out.stays HQT.out).1 (j + 1) (by omega) (off + (j + 1) * 2) (cap - (j + 1)) rfl
        rw [partMVs_drop] at hslt
        have hlen : (l.take i ++ [np] ++ l.drop (j + 1)).length = (i + 1) + (l.length - (j + 1)) := by rw [List.length_append, HLT.out, List.length_drop]
        have h63 : (i + 1) + (l.length - (j + 1)) ≤ maxLen := by unfold maxLen; omega
        have hby : ((i + 1) + (l.length - (j + 1))) * 48 ≤ 140737488355328 := by omega
        have HSLT := Lib.hid hslt; have HLEN := Lib.hid hlen
        have i8 : (j : Int) + 1 ≤ (l.length : Int) := by omega
        clear hslt hlen hjn
        go_wp2_with (at_builtin; go_must (refine wpList_append_sl w7 (by rfl) _ _ 28 (by rfl) w1.heap.size 67 ip (.agg #[.slice none 0 0, .slice none 0 0]) 2 48 Tryz.underlying28 hip hpz0 hpz1 hpz2 rfl (by decide) _ _ _ (by rfl) HOT.out _ (l.length - (j + 1)) _ (by rfl) (HSLT.out) HONET.out h63 hby hbase ?_))
        intro v8 w8 ho8 hg8 hat8
        have q8 : Q w w8 := (grown_below HQT.out HOT.out hg8 HQ1.out.size HQT.out.size : Below w.heap.size w w8)
        have hrow8 : w8.ownsRow w1.heap.size 67 2 v8 (l.take i ++ [np] ++ l.drop (j + 1)).length (partMVs (l.take i ++ [np] ++ l.drop (j + 1))) := by
          have e : partMVs (l.take i ++ [np] ++ l.drop (j + 1)) = partMVs (l.take i ++ [np]) ++ partMVs (l.drop (j + 1)) := by simp [partMVs]
          rw [e, HLEN.out]; first | exact ho8 | simpa [partMVs] using ho8
        have hall8 : ∀ p ∈ l.take i ++ [np] ++ l.drop (j + 1), Docs w8 p.1 p.2.2.1 ∧ Bools w8 p.2.1 p.2.2.2 := by
          intro p hp
          rcases List.mem_append.1 hp with hp | hp
          · exact HNEW.out w8 hg8 q8 p hp
          · exact (HV.out.stays q8).2.1 p (List.mem_of_mem_drop hp)
        have HALL8 := Lib.hid hall8; have HROW8 := Lib.hid hrow8; have HQ8 := Lib.hid q8
        clear hall8 hrow8 q8 ho8 hg8 hat8
        go_wp2_with fail
        go_ret3
        refine ⟨⟨_, l.take i ++ [np] ++ l.drop (j + 1), by rw [HRR.out]; simp only [if_neg HNE.out]; rfl, ⟨Sl.of_owns HROW8.out, HALL8.out, fun a n c e => ?_⟩, ?_⟩, HQ8.out⟩
        · obtain ⟨a', c', hv'⟩ : ∃ a' c', v8 = .slice a' (l.take i ++ [np] ++ l.drop (j + 1)).length c' := by obtain ⟨a', c', h, _⟩ := owns_value HROW8.out; exact ⟨a', c', h⟩
          have hr8 := HROW8.out
          subst hv'
          have e' : Value.slice a' (l.take i ++ [np] ++ l.drop (j + 1)).length c' = .slice a n c := e
          cases e'
          exact (owns_cap2 hr8).1
        · first | (rw [HRR.out, HFINE.out]; done) | (rw [HRR.out, HFINE.out]; rfl)
set_option maxRecDepth 100000 in
set_option maxHeartbeats 4000000 in
theorem RMerge15_any (v : Value) (l : List PartM) (i j : Int) (w : World) (hv : PartsM w v l) (hn : l.length ≤ 1000) (hl : ∀ p ∈ l, RPartOk p.2.2) (hok : PartsOk ((l.map rOf).map toP)) :
    Calls Tryz.prog 20 #[v, .int .i64 i, .int .i64 j] w fun e w' => RPost w (mergeR (l.map rOf) i j) e w' := by
  by_cases h : i < 0 ∨ j ≤ i ∨ (l.length : Int) ≤ j
  · have hR : mergeR (l.map rOf) i j = (l.map rOf, [], 1) := by unfold mergeR; rw [if_pos (by rw [List.length_map]; exact h)]
    rw [hR]
    obtain ⟨a, cap, rfl, _⟩ := hv.value
    have HV := Lib.hid hv
    clear hv hR hl hok
    by_cases h1 : i < 0
    · clear h
      go_enter Tryz.func20, Tryz.ntmps20
      go_wp2_with fail
      go_ret3
      exact ⟨⟨_, l, rfl, HV.out, rfl⟩, Q.refl _⟩
    · by_cases h2 : j ≤ i
      · clear h
        go_enter Tryz.func20, Tryz.ntmps20
        go_wp2_with fail
        go_ret3
        exact ⟨⟨_, l, rfl, HV.out, rfl⟩, Q.refl _⟩
      · have h3 : (l.length : Int) ≤ j := by omega
        clear h
        go_enter Tryz.func20, Tryz.ntmps20
        go_wp2_with fail
        go_ret3
        exact ⟨⟨_, l, rfl, HV.out, rfl⟩, Q.refl _⟩
  · obtain ⟨n, rfl⟩ : ∃ n : Nat, i = n := ⟨i.toNat, by omega⟩
    obtain ⟨m, rfl⟩ : ∃ m : Nat, j = m := ⟨j.toNat, by omega⟩
    have hrs : ∀ r ∈ ((l.map rOf).take (m + 1)).drop n, RPartOk r := fun r hr => by
      obtain ⟨p, hp, rfl⟩ := List.mem_map.1 (List.mem_of_mem_take (List.mem_of_mem_drop hr))
      exact hl p hp
    have hso := slice_ok _ n (m + 1) hok
    rw [← List.map_take, ← List.map_drop] at hso
    have hd := docs_ok _ hso
    rw [← docsR_eq _ hrs hso.2] at hd
    have hlen : (docsR (((l.map rOf).take (m + 1)).drop n)).length ≤ 1000000 := by
      rw [docsR_eq _ hrs hso.2, ← many_eq _ hso.2, liveM_eq _ hso.2, liveL_toP _ hrs]
      have hb : ∀ rs : List RPart, (∀ r ∈ rs, RPartOk r) → (rs.flatMap liveR).length ≤ rs.length * 500 := by
        intro rs
        induction rs with
        | nil => intro _; simp
        | cons r rs ih =>
          intro hr
          have h1 := ih (fun x hx => hr x (List.mem_cons_of_mem _ hx))
          have h2 : (liveR r).length ≤ 500 := by
            have := (hr r (by simp)).len.1
            unfold liveR
            rw [List.length_map]
            have := List.length_filter_le (fun x : DocL × Bool => !x.2) (r.1.zip r.2)
            rw [List.length_zip] at this
            omega
          rw [List.flatMap_cons, List.length_append, List.length_cons]; omega
      have := hb _ hrs
      have h3 : (((l.map rOf).take (m + 1)).drop n).length ≤ l.length := by simp; omega
      omega
    exact RMerge_good v l n m w hv hn hl (by omega) (by omega) hd hlen
end Go.Proofs.YtoabhcfmdkhmgaaGreatDoor
end

/- (Plc) Plain: where the live documents of parts stand (live.places, live.docs). No program in sight. -/
section
namespace Go.Proofs.YtoabhcfmdkhmgaaGreatDoor
set_option linter.unusedVariables false

abbrev PlL := List (Bytes × (Nat × Nat))
def plIn (p : PartL) (i : Nat) (m : PlL) : Nat → PlL
  | 0 => m
  | k + 1 => if bit p.2 k then plIn p i m k else putM (p.1.getD k ([], [])).1 (i, k) (plIn p i m k)
def plTo (ps : List PartL) : Nat → PlL
  | 0 => []
  | i + 1 => plIn (ps.getD i ([], [])) i (plTo ps i) (ps.getD i ([], [])).1.length
def plAll (ps : List PartL) : PlL := plTo ps ps.length
def docAt (ps : List PartL) (a : Nat × Nat) : DocL := (ps.getD a.1 ([], [])).1.getD a.2 ([], [])
theorem putM_mapP {α β : Type} (f : α → β) (k : Bytes) (v : α) (m : List (Bytes × α)) : (putM k v m).map (fun x => (x.1, f x.2)) = putM k (f v) (m.map (fun x => (x.1, f x.2))) := by
  induction m with
  | nil => rfl
  | cons x m ih =>
    by_cases h : x.1 = k
    · simp [putM, h]
    · simp only [putM, h, if_false, List.map_cons, ih]
theorem mem_put {α : Type} (k : Bytes) (v : α) (m : List (Bytes × α)) (x : Bytes × α) (h : x ∈ putM k v m) : x = (k, v) ∨ x ∈ m := by
  induction m with
  | nil => simpa [putM] using h
  | cons y m ih =>
    by_cases hy : y.1 = k
    · simp only [putM, hy, if_true, List.mem_cons] at h
      rcases h with h | h
      · exact .inl h
      · exact .inr (List.mem_cons_of_mem _ h)
    · simp only [putM, hy, if_false, List.mem_cons] at h
      rcases h with h | h
      · exact .inr (by rw [h]; exact List.mem_cons_self)
      · exact (ih h).imp id (List.mem_cons_of_mem _)
theorem liveF_snoc (g : Bytes) (l : List DocL) (d : DocL) (k : Nat) : liveF g (l ++ [d]) k = liveF g l k ++ (if bit g (k + l.length) then [] else [d]) := by
  induction l generalizing k with
  | nil => simp only [List.nil_append, liveF, List.length_nil, Nat.add_zero]
  | cons x l ih =>
    rw [List.cons_append, liveF, liveF, ih, List.length_cons, show k + 1 + l.length = k + (l.length + 1) by omega]
    by_cases hb : bit g k = true
    · simp only [hb, if_true]
    · simp only [hb, if_false, List.cons_append]; rfl
/-- each entry stands where it says -/
def PlOk (ps : List PartL) (n k : Nat) (m : PlL) : Prop := ∀ x ∈ m, (x.2.1 < n ∨ x.2.1 = n ∧ x.2.2 < k) ∧ x.2.2 < (ps.getD x.2.1 ([], [])).1.length ∧ (docAt ps x.2).1 = x.1
theorem plIn_ok (ps : List PartL) (i : Nat) (m : PlL) (h : PlOk ps i 0 m) (k : Nat) (hk : k ≤ (ps.getD i ([], [])).1.length) : PlOk ps i k (plIn (ps.getD i ([], [])) i m k) := by
  induction k with
  | zero => exact h
  | succ k ih =>
    have ih := ih (by omega)
    unfold plIn
    split
    · intro x hx
      obtain ⟨a, b, c⟩ := ih x hx
      exact ⟨by omega, b, c⟩
    · intro x hx
      rcases mem_put _ _ _ _ hx with rfl | hx
      · exact ⟨.inr ⟨rfl, by simp⟩, by simp only; omega, rfl⟩
      · obtain ⟨a, b, c⟩ := ih x hx
        exact ⟨by omega, b, c⟩
theorem plTo_ok (ps : List PartL) (n : Nat) : PlOk ps n 0 (plTo ps n) := by
  induction n with
  | zero => intro x hx; cases hx
  | succ n ih =>
    intro x hx
    obtain ⟨a, b, c⟩ := plIn_ok ps n _ ih _ (Nat.le_refl _) x hx
    exact ⟨by omega, b, c⟩
abbrev textsM (ps : List PartL) (m : PlL) : List DocL := m.map fun x => (x.1, (docAt ps x.2).2)
theorem plIn_texts (ps : List PartL) (i : Nat) (m : PlL) (k : Nat) (hk : k ≤ (ps.getD i ([], [])).1.length) :
    textsM ps (plIn (ps.getD i ([], [])) i m k) = (liveF (ps.getD i ([], [])).2 ((ps.getD i ([], [])).1.take k) 0).foldl (fun m d => putM d.1 d.2 m) (textsM ps m) := by
  induction k with
  | zero => simp [plIn, liveF]
  | succ k ih =>
    have hlt : k < (ps.getD i ([], [])).1.length := by omega
    rw [List.take_succ_eq_append_getElem hlt, liveF_snoc, List.foldl_append, ← ih (by omega), List.length_take, Nat.min_eq_left (by omega), Nat.zero_add, plIn]
    by_cases hb : bit (ps.getD i ([], [])).2 k = true
    · rw [if_pos hb, if_pos hb]; rfl
    · rw [if_neg hb, if_neg hb]
      unfold textsM
      rw [putM_mapP (fun a : Nat × Nat => (docAt ps a).2)]
      have e : (ps.getD i ([], [])).1.getD k ([], []) = (ps.getD i ([], [])).1[k] := by rw [List.getD_eq_getElem?_getD, List.getElem?_eq_getElem hlt]; rfl
      simp only [docAt, e, List.foldl_cons, List.foldl_nil]
theorem plTo_texts (ps : List PartL) (n : Nat) (hn : n ≤ ps.length) : textsM ps (plTo ps n) = liveM (ps.take n) := by
  induction n with
  | zero => rfl
  | succ n ih =>
    have hlt : n < ps.length := by omega
    have e : ps.getD n ([], []) = ps[n] := by rw [List.getD_eq_getElem?_getD, List.getElem?_eq_getElem hlt]; rfl
    rw [plTo, plIn_texts _ _ _ _ (Nat.le_refl _), ih (by omega), List.take_length, List.take_succ_eq_append_getElem hlt]
    unfold liveM
    rw [liveL_append, List.foldl_append, e]
    simp [liveL, liveOf]
theorem plAll_texts (ps : List PartL) : textsM ps (plAll ps) = liveM ps := by
  have := plTo_texts ps ps.length (Nat.le_refl _)
  rwa [List.take_length] at this
theorem plAll_length (ps : List PartL) : (plAll ps).length = (liveM ps).length := by rw [← plAll_texts]; simp
theorem plAll_keys (ps : List PartL) : (plAll ps).map (·.1) = (liveM ps).map (·.1) := by
  rw [← plAll_texts, List.map_map]; rfl
theorem getM_mapP {α β : Type} (f : α → β) (k : Bytes) (m : List (Bytes × α)) : getM k (m.map (fun x => (x.1, f x.2))) = (getM k m).map f := by
  induction m with
  | nil => rfl
  | cons x m ih =>
    by_cases h : x.1 = k
    · simp [getM, h]
    · simp [getM, h, ih]
theorem getM_in {α : Type} (k : Bytes) (v : α) (m : List (Bytes × α)) (h : getM k m = some v) : (k, v) ∈ m := by
  induction m with
  | nil => cases h
  | cons x m ih =>
    by_cases hx : x.1 = k
    · simp only [getM, hx, if_true, Option.some.injEq] at h
      rw [← hx, ← h]; exact List.mem_cons_self
    · simp only [getM, hx, if_false] at h
      exact List.mem_cons_of_mem _ (ih h)
/-- the documents by their IDs: where they stand -/
theorem docsL_places (ps : List PartL) : docsL ps = (((plAll ps).map (·.1)).mergeSort leB).map fun id => docAt ps ((getM id (plAll ps)).getD (0, 0)) := by
  unfold docsL
  rw [plAll_keys]
  refine List.map_congr_left fun id hid => ?_
  have hin : id ∈ (liveM ps).map (·.1) := by simpa using hid
  rw [← plAll_keys] at hin
  have hs := getM_some id (plAll ps)
  rw [decide_eq_true hin] at hs
  obtain ⟨a, ha⟩ := Option.isSome_iff_exists.1 hs
  have hok := (plTo_ok ps ps.length (id, a) (getM_in _ _ _ ha)).2.2
  rw [← plAll_texts, getM_mapP (fun a : Nat × Nat => (docAt ps a).2), ha]
  simp only [Option.map_some, Option.getD_some]
  exact Prod.ext hok.symm rfl
theorem plAll_get (ps : List PartL) (id : Bytes) (hin : id ∈ (plAll ps).map (·.1)) : ∃ a, getM id (plAll ps) = some a ∧ a.1 < ps.length ∧ a.2 < (ps.getD a.1 ([], [])).1.length := by
  have hs := getM_some id (plAll ps)
  rw [decide_eq_true hin] at hs
  obtain ⟨a, ha⟩ := Option.isSome_iff_exists.1 hs
  obtain ⟨h1, h2, _⟩ := plTo_ok ps ps.length (id, a) (getM_in _ _ _ ha)
  exact ⟨a, ha, by simp only at h1; omega, h2⟩
theorem plIn_length (p : PartL) (i : Nat) (m : PlL) (k : Nat) : (plIn p i m k).length ≤ m.length + k := by
  induction k with
  | zero => exact Nat.le_refl _
  | succ k ih =>
    unfold plIn
    split
    · omega
    · have : ∀ (a : Bytes) (v : Nat × Nat) (m : PlL), (putM a v m).length ≤ m.length + 1 := by
        intro a v m
        induction m with
        | nil => simp [putM]
        | cons x m ih => by_cases h : x.1 = a <;> simp [putM, h]; omega
      have := this (p.1.getD k ([], [])).1 (i, k) (plIn p i m k)
      omega
end Go.Proofs.YtoabhcfmdkhmgaaGreatDoor
end

/- (BitA) trial -/
section
namespace Go.Proofs.YtoabhcfmdkhmgaaGreatDoor
open Go.RowKit

set_option maxHeartbeats 400000 in
theorem get_pos (l : List UInt8) (i : Int) (w : World) (hs : l.length ≤ 9223372036854775807) (hi : 0 ≤ i) (hi3 : i ≤ 9223372036854775807) (hi2 : i / 8 < l.length) :
    Calls Tryz.prog 24 #[.string ⟨l.toArray⟩, .int .i64 i] w fun e w' => e = .returned (.bool (bitI l i)) ∧ w = w' := by
  go_enter Tryz.func24, Tryz.ntmps24
  go_wp2
  go_ret
  refine ⟨?_, rfl⟩
  rw [bitI_in l i hi (by omega), ← walk_bit _ _ (UInt8.toNat_lt _)]
  rfl

set_option maxHeartbeats 400000 in
theorem get_neg (l : List UInt8) (i : Int) (w : World) (hs : l.length ≤ 9223372036854775807) (hi : i < 0) :
    Calls Tryz.prog 24 #[.string ⟨l.toArray⟩, .int .i64 i] w fun e w' => e = .returned (.bool (bitI l i)) ∧ w = w' := by
  have h := bitI_neg l i hi
  have H := Lib.hid h; clear h
  go_enter Tryz.func24, Tryz.ntmps24
  go_wp2
  go_ret
  exact ⟨by rw [H.out]; rfl, rfl⟩

set_option maxHeartbeats 400000 in
theorem get_ge (l : List UInt8) (i : Int) (w : World) (hs : l.length ≤ 9223372036854775807) (hi : 0 ≤ i) (hi3 : i ≤ 9223372036854775807) (hi2 : l.length ≤ i / 8) :
    Calls Tryz.prog 24 #[.string ⟨l.toArray⟩, .int .i64 i] w fun e w' => e = .returned (.bool (bitI l i)) ∧ w = w' := by
  have h := bitI_ge l i (by omega)
  have H := Lib.hid h; clear h
  go_enter Tryz.func24, Tryz.ntmps24
  go_wp2
  go_ret
  exact ⟨by rw [H.out]; rfl, rfl⟩

theorem get_any (l : List UInt8) (i : Int) (w : World) (hs : l.length ≤ 9223372036854775807) (hi3 : i ≤ 9223372036854775807) :
    Calls Tryz.prog 24 #[.string ⟨l.toArray⟩, .int .i64 i] w fun e w' => e = .returned (.bool (bitI l i)) ∧ w = w' := by
  by_cases h : i < 0
  · exact get_neg l i w hs h
  · by_cases h2 : i / 8 < l.length
    · exact get_pos l i w hs (by omega) hi3 h2
    · exact get_ge l i w hs (by omega) hi3 (by omega)
end Go.Proofs.YtoabhcfmdkhmgaaGreatDoor
end

/- (WPlaces) live.places: walked. -/
section
namespace Go.Proofs.YtoabhcfmdkhmgaaGreatDoor
open Go.RowKit
set_option linter.unusedVariables false

abbrev plVal (a : Nat × Nat) : Value := .agg #[.int .i64 (a.1 : Nat), .int .i64 (a.2 : Nat)]
def plV (m : PlL) : List (Bytes × Value) := m.map fun x => (x.1, plVal x.2)
theorem plV_put (k : Bytes) (a : Nat × Nat) (m : PlL) : plV (putM k a m) = putM k (plVal a) (plV m) := putM_mapP plVal k a m
theorem plV_get (k : Bytes) (m : PlL) : getM k (plV m) = (getM k m).map plVal := getM_mapP plVal k m
/-- parts in memory -/
def PartsAt (w : World) (v : Value) (ps : List PartL) : Prop :=
  (∃ rs : List PartR, Parts0 w v rs ∧ rs.map (·.2) = ps.map (·.2) ∧ ∀ (i : Nat) (r : PartR) (p : PartL), rs[i]? = some r → ps[i]? = some p → SegAt w r.1 p.1 (idxS p.1)) ∧ ∀ a n cap, v = .slice a n cap → n ≤ cap
theorem PartsAt.stays {w w' : World} {v : Value} {ps : List PartL} (h : PartsAt w v ps) (q : Q w w') : PartsAt w' v ps := by
  obtain ⟨⟨rs, h1, h2, h3⟩, h4⟩ := h
  exact ⟨⟨rs, Sl.stays h1 q, h2, fun i r p hr hp => (h3 i r p hr hp).stays q⟩, h4⟩
theorem partVs_at (l : List PartR) (k : Nat) (h : k < l.length) : (partVs l)[k * 2]? = some (.pointer (some ⟨l[k].1, 0, none⟩)) ∧ (partVs l)[k * 2 + 1]? = some (strV l[k].2) := by
  induction l generalizing k with
  | nil => simp at h
  | cons d l ih =>
    have e : partVs (d :: l) = .pointer (some ⟨d.1, 0, none⟩) :: strV d.2 :: partVs l := by simp [partVs]
    cases k with
    | zero => rw [e]; exact ⟨rfl, rfl⟩
    | succ k =>
      have := ih k (by simpa using h)
      rw [e, show (k + 1) * 2 = k * 2 + 1 + 1 by omega]
      exact this
theorem PartsAt.value {w : World} {v : Value} {ps : List PartL} (h : PartsAt w v ps) : ∃ a cap, v = .slice a ps.length cap ∧ (0 < ps.length → ∃ b off, a = some ⟨b, off, none⟩ ∧
    ∀ i (hi : i < ps.length), ∃ p, w.cell? ⟨b, off + i * 2, none⟩ = some (.pointer (some ⟨p, 0, none⟩)) ∧ w.cell? ⟨b, off + i * 2 + 1, none⟩ = some (strV ps[i].2) ∧ SegAt w p ps[i].1 (idxS ps[i].1)) := by
  obtain ⟨⟨rs, ⟨_, a, cap, h1, h2⟩, h3, h4⟩, _⟩ := h
  have hl : rs.length = ps.length := by have := congrArg List.length h3; simpa using this
  rw [hl] at h1 h2
  refine ⟨a, cap, h1, fun hn => ?_⟩
  obtain ⟨b, off, h5, h6⟩ := h2 hn
  refine ⟨b, off, h5, fun i hi => ?_⟩
  have hir : i < rs.length := by omega
  obtain ⟨e0, e1⟩ := partVs_at rs i hir
  have hg : rs[i].2 = ps[i].2 := by
    have := congrArg (fun l => l[i]?) h3
    simp only [List.getElem?_map, List.getElem?_eq_getElem hir, List.getElem?_eq_getElem hi, Option.map_some, Option.some.injEq] at this
    exact this
  refine ⟨rs[i].1, h6 _ _ e0, ?_, h4 i _ _ (List.getElem?_eq_getElem hir) (List.getElem?_eq_getElem hi)⟩
  rw [← hg]; exact h6 _ _ e1
theorem gb_trans {a b c : World} {r : Option Nat} (h : a.grownBy b r) (k : b.grownBy c r) : a.grownBy c r :=
  ⟨k.os.trans h.os, k.tape.trans h.tape, k.output.trans h.output, Nat.le_trans h.size k.size, fun i h1 h2 => (k.block i (Nat.lt_of_lt_of_le h1 h.size) h2).trans (h.block i h1 h2)⟩
theorem gb_q {a b : World} (r : Option Nat) (h : Q a b) : a.grownBy b r := ⟨h.os, h.tape, h.output, h.size, fun i h1 _ => h.block i h1⟩
theorem gb_refl (a : World) (r : Option Nat) : a.grownBy a r := gb_q r (Q.refl a)
theorem gb_cell {a b : World} {r : Option Nat} (h : a.grownBy b r) {p : Addr} {u : Value} (hc : a.cell? p = some u) (hne : some p.block ≠ r) : b.cell? p = some u := h.cell hc hne
theorem gb_below {w a b : World} {m : Nat} (hw : Below w.heap.size w a) (h : a.grownBy b (some m)) (hm : w.heap.size ≤ m) : Below w.heap.size w b :=
  hw.grown h hw.size (fun k hk => by cases hk; exact hm)
set_option maxRecDepth 100000 in
set_option maxHeartbeats 4000000 in
theorem Places_any (v : Value) (ps : List PartL) (w : World) (hv : PartsAt w v ps) (hn : ps.length ≤ 1000000) (hl : ∀ p ∈ ps, p.1.length ≤ 1000000 ∧ p.2.length ≤ 1000000) :
    Calls Tryz.prog 27 #[v] w fun e w' => ∃ mb, e = .returned (.map (some mb)) ∧ MapS w' mb (plV (plAll ps)) ∧ Q w w' := by
  obtain ⟨a, cap, rfl, hcell⟩ := hv.value
  have HC := Lib.hid hcell; have HL := Lib.hid hl
  clear hv hcell hl
  have hmm := @run_makeMap Tryz.prog
  go_enter Tryz.func27, Tryz.ntmps27
  go_wp2_with fail
  have h0 : MapS (w.alloc (.map #[] 0)) w.heap.size (plV (plTo ps 0)) := MapS.made w
  have hb0 : Below w.heap.size w (w.alloc (.map #[] 0)) := (Below.refl _ w).alloc (Nat.le_refl _) _
  have H0 := Lib.hid h0; have HB0 := Lib.hid hb0; clear h0 hb0
  go_loopw [11] (fun i wr => ∃ k : Nat, i = .int .i64 (k : Nat) ∧ k ≤ ps.length ∧ Hid (MapS wr w.heap.size (plV (plTo ps k))) ∧ Hid (Below w.heap.size w wr)) (fun i _ => ps.length - (intOf i).toNat)
  case atStart => exact ⟨0, rfl, by omega, H0, HB0⟩
  case round =>
    obtain ⟨i, rfl, hi, HI, HB⟩ := hrel
    obtain ⟨wo, rfl⟩ : ∃ wo : World, wo = wr := ⟨_, rfl⟩
    have hszo := HB.out.size
    by_cases hlt : i < ps.length
    · obtain ⟨b, off, rfl, hc⟩ := HC.out (by omega)
      obtain ⟨p, hc1, hc2, hsg⟩ := hc i hlt
      have hw1 := cell_stays HB.out hc1
      have hw2 := cell_stays HB.out hc2
      have hsw := hsg.stays HB.out
      obtain ⟨hl1, hl2⟩ := HL.out _ (List.getElem_mem hlt)
      have hnx : plTo ps (i + 1) = plIn ps[i] i (plTo ps i) ps[i].1.length := by
        rw [plTo, List.getD_eq_getElem?_getD, List.getElem?_eq_getElem hlt]; rfl
      have HNX := Lib.hid hnx
      clear hc hc1 hc2 hsg hnx
      generalize ps[i] = pp at *
      obtain ⟨ds, gn⟩ := pp
      simp only at hw1 hw2 hsw hl1 hl2 HNX
      have hbx := HB.out.alloc hszo (.cells #[.pointer (some ⟨p, 0, none⟩), strV gn] 55)
      have hm := HI.out.stays (Q.alloc wo (.cells #[.pointer (some ⟨p, 0, none⟩), strV gn] 55))
      have csd := SegDocs_any p ds (idxS ds) (wo.alloc (.cells #[.pointer (some ⟨p, 0, none⟩), strV gn] 55)) (hsw.stays (Q.alloc _ _)) hl1
      have hmlt := HI.out.lt
      have hbox : (wo.alloc (.cells #[.pointer (some ⟨p, 0, none⟩), strV gn] 55)).cell? ⟨wo.heap.size, 1, none⟩ = some (strV gn) := by simp only [World.cell?, heap_alloc_new]; rfl
      have HBX := Lib.hid hbx; have HM := Lib.hid hm; have CSD := Lib.hid csd; have HBOX := Lib.hid hbox
      clear hbx hm csd hbox HI HB hsw
      go_wp2_with fail
      refine CSD.out.mono ?_
      rintro e w2 ⟨v', rfl, ho, q2⟩
      have hdv : Docs w2 v' ds := Sl.of_owns ho
      obtain ⟨da, dcap, rfl, hdc⟩ := hdv.value
      have hb2 := HBX.out.trans (Below.mono q2 HBX.out.size)
      have hm2 := HM.out.stays q2
      have hbox2 := cell_stays q2 HBOX.out
      have hlo := fun k (hk : (Value.slice da ds.length dcap).ownBlock = some k) => (ho.lt k hk).1
      have hbs : wo.heap.size < w2.heap.size := by have := q2.size; simp at this; omega
      have hin0 : MapS w2 w.heap.size (plV (plIn (ds, gn) i (plTo ps i) 0)) := hm2
      have HIN0 := Lib.hid hin0; have HDC := Lib.hid hdc; have HB2 := Lib.hid hb2; have HBOX2 := Lib.hid hbox2; have HLO := Lib.hid hlo
      clear ho hdv hdc hb2 hm2 hbox2 hlo q2 CSD HBX HM HBOX hw1 hw2 hin0
      go_wp2_with fail
      go_loopw [22] (fun x wr => ∃ k : Nat, x = .int .i64 (k : Nat) ∧ k ≤ ds.length ∧ Hid (MapS wr w.heap.size (plV (plIn (ds, gn) i (plTo ps i) k))) ∧ Hid (w2.grownBy wr (some w.heap.size))) (fun x _ => ds.length - (intOf x).toNat)
      case atStart => exact ⟨0, rfl, by omega, HIN0, gb_refl _ _⟩
      case round =>
        obtain ⟨k, rfl, hk, HM, HG⟩ := hrel
        obtain ⟨wi, rfl⟩ : ∃ wi : World, wi = wr := ⟨_, rfl⟩
        have hszi := HG.out.size
        by_cases hkl : k < ds.length
        · obtain ⟨g, go, rfl, hc⟩ := HDC.out (by omega)
          obtain ⟨hc1, hc2⟩ := hc k hkl
          have hge := HLO.out g rfl
          simp only [World.size_alloc] at hge
          have hw1 := gb_cell HG.out hc1 (by simp; omega)
          have hw2 := gb_cell HG.out hc2 (by simp; omega)
          have hwb0 := gb_cell HG.out HBOX2.out (by simp; omega)
          have hid : ds.getD k ([], []) = ds[k] := by rw [List.getD_eq_getElem?_getD, List.getElem?_eq_getElem hkl]; rfl
          have hnx : plIn (ds, gn) i (plTo ps i) (k + 1) = if bit gn k then plIn (ds, gn) i (plTo ps i) k else putM ds[k].1 (i, k) (plIn (ds, gn) i (plTo ps i) k) := by
            rw [plIn, hid]
          clear hc hc1 hc2 hid
          generalize ds[k] = dk at *
          obtain ⟨id, tx⟩ := dk
          simp only at hw1 hw2 hnx
          have hwb := cell_stays (Q.alloc wi (.cells #[strV id, strV tx] 49)) hwb0
          clear hwb0
          have hm3 := HM.out.stays (Q.alloc wi (.cells #[strV id, strV tx] 49))
          have hg3 := gb_trans HG.out (gb_q (some w.heap.size) (Q.alloc wi (.cells #[strV id, strV tx] 49)))
          have cg := fun W => get_any gn (k : Nat) W (by omega) (by omega)
          rw [bitI_nat] at cg
          have HG3 := Lib.hid hg3
          clear hg3 HG HM
          cases hb : bit gn k with
          | true =>
            rw [hb] at cg hnx
            rw [if_pos rfl] at hnx
            rw [← hnx] at hm3
            have CG := Lib.hid cg; have HM3 := Lib.hid hm3; have HB := Lib.hid hb
            clear cg hm3 hnx hb
            go_wp2_with fail
            refine (CG.out _).mono ?_
            rintro e w3 ⟨rfl, rfl⟩
            go_wp2_with fail
            go_roundw
            case rel => exact ⟨k + 1, by go_num, by omega, HM3, HG3⟩
            case measure => simp [intOf]; omega
          | false =>
            rw [hb] at cg hnx
            rw [if_neg (by simp)] at hnx
            have hnv : plV (plIn (ds, gn) i (plTo ps i) (k + 1)) = putM id (plVal (i, k)) (plV (plIn (ds, gn) i (plTo ps i) k)) := by rw [hnx, plV_put]
            have CG := Lib.hid cg; have HNV := Lib.hid hnv; have HB := Lib.hid hb
            clear cg hnx hnv hb
            go_wp2_with fail
            refine (CG.out _).mono ?_
            rintro e w3 ⟨rfl, rfl⟩
            go_wp2_with (at_mapUpdate; go_must (refine wpList_update_map _ (by rfl) _ _ _ 74 (by rfl) 9 96 Tryz.underlying74 Tryz.underlying9 w.heap.size (plV (plIn (ds, gn) i (plTo ps i) k)) hm3 id (plVal (i, k)) (by rfl) (by rfl) (by rfl) ?_))
            intro w5 hm5 hg5
            have hg6 := gb_trans HG3.out hg5
            rw [← HNV.out] at hm5
            have HM5 := Lib.hid hm5; have HG5 := Lib.hid hg6
            clear hm5 hg5 hg6 hm3
            go_wp2_with fail
            go_roundw
            case rel => exact ⟨k + 1, by go_num, by omega, HM5, HG5⟩
            case measure => simp [intOf]; omega
        · have hke : k = ds.length := by omega
          subst hke
          have hm4 := HM.out
          rw [← HNX.out] at hm4
          have hb4 := gb_below HB2.out HG.out (Nat.le_refl _)
          have HM4 := Lib.hid hm4; have HB4 := Lib.hid hb4
          clear hm4 hb4 HM HG
          go_wp2_with fail
          go_roundw
          case rel => exact ⟨i + 1, by go_num, by omega, HM4, HB4⟩
          case measure => simp [intOf]; omega
    · have hke : i = ps.length := by omega
      subst hke
      go_wp2_with fail
      go_ret
      exact ⟨_, rfl, HI.out, HB.out⟩
end Go.Proofs.YtoabhcfmdkhmgaaGreatDoor
end
