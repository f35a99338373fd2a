/- Joined texts of one proof: WLast, BitA, WPlaces, WSc. -/
import Derived.Test.YtcflpcpkmhljkaaGreatDoorMWLiveRToWFresh
import Derived.Test.YtcflpcpkmhljkaaGreatDoorMOwnToWDictI
import Derived.Test.YtcflpcpkmhljkaaGreatDoorMWIndexToWTexts2
import Derived.Test.YtcflpcpkmhljkaaGreatDoorProg
import Derived.Test.YtcflpcpkmhljkaaGreatDoorMPostRdToBase
import Derived.WalkKit
import Derived.WalkSpells
import Derived.WalkLawsBesides
import Derived.Test.YtcflpcpkmhljkaaGreatDoorMWSegPToPlc
import Derived.Test.YtcflpcpkmhljkaaGreatDoorMLive2ToWScW
import Derived.Test.YtcflpcpkmhljkaaGreatDoorMQry3ToMarks
import Derived.StillTailTactics
set_option linter.unusedSimpArgs false
set_option linter.unusedVariables false
set_option linter.unnecessarySimpa false
/- (WLast) live.Last: walked. -/
section
namespace Go.Proofs.YtcflpcpkmhljkaaGreatDoor
open Go.RowKit
set_option linter.unusedVariables false

/-! ### plain -/
def atTo (l : List OpL) : Nat → List (Bytes × Value)
  | 0 => []
  | k + 1 => putM (l.getD k (false, ([], []))).2.1 (.int .i64 (k : Nat)) (atTo l k)
def keepTo (l : List OpL) : Nat → List OpL
  | 0 => []
  | k + 1 => keepTo l k ++ (if (l.getD k (false, ([], []))).2.1 ∈ (l.drop (k + 1)).map (fun p => p.2.1) then [] else [l.getD k (false, ([], []))])
theorem keepTo_last (l : List OpL) (k : Nat) (h : k ≤ l.length) : lastL l = keepTo l k ++ lastL (l.drop k) := by
  induction k with
  | zero => simp [keepTo]
  | succ k ih =>
    have hlt : k < l.length := by omega
    rw [ih (by omega), keepTo, List.drop_eq_getElem_cons hlt, lastL, List.getD_eq_getElem?_getD, List.getElem?_eq_getElem hlt]
    simp only [Option.getD_some]
    split <;> simp
theorem keepTo_all (l : List OpL) : keepTo l l.length = lastL l := by
  have := keepTo_last l l.length (Nat.le_refl _)
  simpa [lastL] using this.symm
/-- the last place of an ID among the first n ops -/
theorem atTo_get (l : List OpL) (n : Nat) (hn : n ≤ l.length) (k : Nat) (hk : k < n) :
    ∃ j, getM (l.getD k (false, ([], []))).2.1 (atTo l n) = some (.int .i64 (j : Nat)) ∧ k ≤ j ∧ j < n ∧ (j = k ↔ (l.getD k (false, ([], []))).2.1 ∉ ((l.take n).drop (k + 1)).map (fun p => p.2.1)) := by
  induction n with
  | zero => omega
  | succ n ih =>
    have hlt : n < l.length := by omega
    rw [atTo, get_put]
    have ht : (l.take (n + 1)) = l.take n ++ [l[n]] := List.take_succ_eq_append_getElem hlt
    have hgn : l.getD n (false, ([], [])) = l[n] := by rw [List.getD_eq_getElem?_getD, List.getElem?_eq_getElem hlt]; rfl
    by_cases hkn : k = n
    · subst hkn
      rw [if_pos rfl]
      refine ⟨k, rfl, Nat.le_refl _, by omega, ?_⟩
      have : (l.take (k + 1)).drop (k + 1) = [] := by rw [List.drop_eq_nil_iff]; simp; omega
      rw [this]; simp
    · obtain ⟨j, h1, h2, h3, h4⟩ := ih (by omega) (by omega)
      have hd : (l.take (n + 1)).drop (k + 1) = (l.take n).drop (k + 1) ++ [l[n]] := by
        rw [ht, List.drop_append_of_le_length (by rw [List.length_take]; omega)]
      by_cases he : (l.getD n (false, ([], []))).2.1 = (l.getD k (false, ([], []))).2.1
      · rw [if_pos he]
        refine ⟨n, rfl, by omega, by omega, ?_⟩
        rw [hd, List.map_append, List.mem_append, ← he, hgn]
        simp; omega
      · rw [if_neg he]
        refine ⟨j, h1, h2, by omega, ?_⟩
        rw [hd, List.map_append, List.mem_append, h4]
        rw [hgn] at he
        rw [List.map_singleton, List.mem_singleton, not_or]
        exact ⟨fun h => ⟨h, fun e => he e.symm⟩, fun h => h.1⟩
theorem atTo_len (l : List OpL) (k : Nat) : (atTo l k).length ≤ k := by
  induction k with
  | zero => simp [atTo]
  | succ k ih => rw [atTo]; have := putM_length (l.getD k (false, ([], []))).2.1 (Value.int .i64 (k : Nat)) (atTo l k); omega
theorem keepTo_len (l : List OpL) (k : Nat) : (keepTo l k).length ≤ k := by
  induction k with
  | zero => simp [keepTo]
  | succ k ih => rw [keepTo, List.length_append]; split <;> simp <;> omega
abbrev opVs (l : List OpL) : List Value := l.flatMap fun o => [.bool o.1, strV o.2.1, strV o.2.2]
theorem opVs_append (l : List OpL) (d : OpL) : opVs (l ++ [d]) = opVs l ++ [.bool d.1, strV d.2.1, strV d.2.2] := by simp [opVs]
theorem opVs_at (l : List OpL) (k : Nat) (h : k < l.length) : (opVs l)[k * 3]? = some (.bool l[k].1) ∧ (opVs l)[k * 3 + 1]? = some (strV l[k].2.1) ∧ (opVs l)[k * 3 + 2]? = some (strV l[k].2.2) := by
  induction l generalizing k with
  | nil => simp at h
  | cons d l ih =>
    have e : opVs (d :: l) = .bool d.1 :: strV d.2.1 :: strV d.2.2 :: opVs l := by simp [opVs]
    cases k with
    | zero => rw [e]; exact ⟨rfl, rfl, rfl⟩
    | succ k =>
      have := ih k (by simpa using h)
      rw [e, show (k + 1) * 3 = k * 3 + 1 + 1 + 1 by omega]
      exact this
def Ops (w : World) (v : Value) (l : List OpL) : Prop := Sl w v l.length 3 (opVs l)
theorem Ops.stays {w w' : World} {v : Value} {l : List OpL} (h : Ops w v l) (hb : Q w w') : Ops w' v l := Sl.stays h hb
theorem Ops.value {w : World} {v : Value} {l : List OpL} (h : Ops w v l) : ∃ a cap, v = .slice a l.length cap ∧ (0 < l.length → ∃ b off, a = some ⟨b, off, none⟩ ∧
    ∀ k (hk : k < l.length), w.cell? ⟨b, off + k * 3, none⟩ = some (.bool l[k].1) ∧ w.cell? ⟨b, off + k * 3 + 1, none⟩ = some (strV l[k].2.1) ∧ w.cell? ⟨b, off + k * 3 + 2, none⟩ = some (strV l[k].2.2)) := by
  obtain ⟨_, a, cap, h2, h3⟩ := h
  refine ⟨a, cap, h2, fun hn => ?_⟩
  obtain ⟨b, off, h4, h5⟩ := h3 hn
  refine ⟨b, off, h4, fun k hk => ?_⟩
  obtain ⟨e0, e1, e2⟩ := opVs_at l k hk
  exact ⟨h5 _ _ e0, h5 _ _ e1, h5 _ _ e2⟩
theorem tinfo65 : (Tryz.prog.info? 65).map (fun i => (i.zero, i.size, i.bytes)) = some (some (.agg #[.bool false, strV [], strV []]), 3, 40) := by kernel_rfl
theorem keepTo_get (l : List OpL) (k : Nat) (h : k < l.length) : keepTo l (k + 1) = keepTo l k ++ (if l[k].2.1 ∈ (l.drop (k + 1)).map (fun p => p.2.1) then [] else [l[k]]) := by
  rw [keepTo, List.getD_eq_getElem?_getD, List.getElem?_eq_getElem h]; rfl
theorem atTo_all (l : List OpL) (k : Nat) (h : k < l.length) :
    ∃ j : Nat, getM l[k].2.1 (atTo l l.length) = some (.int .i64 (j : Nat)) ∧ (j = k ↔ l[k].2.1 ∉ (l.drop (k + 1)).map (fun p => p.2.1)) := by
  obtain ⟨j, h1, _, _, h4⟩ := atTo_get l l.length (Nat.le_refl _) k h
  rw [List.getD_eq_getElem?_getD, List.getElem?_eq_getElem h, List.take_length] at *
  exact ⟨j, h1, h4⟩
set_option maxRecDepth 100000 in
set_option maxHeartbeats 4000000 in
theorem Last_any (v : Value) (l : List OpL) (w : World) (hv : Ops w v l) (hn : l.length ≤ 1000000) :
    Calls Tryz.prog 54 #[v] w fun e w' => ∃ v', e = .returned v' ∧ w'.ownsRow w.heap.size 65 3 v' (lastL l).length (opVs (lastL l)) ∧ Q w w' := by
  obtain ⟨io, hio, hz0, hz1, hz2⟩ := info_parts tinfo65
  obtain ⟨a, cap, rfl, hcell⟩ := hv.value
  have HC := Lib.hid hcell
  clear hv hcell
  have hmm := @run_makeMap Tryz.prog
  go_enter Tryz.func54, Tryz.ntmps54
  go_wp2_with fail
  have h0 : MapS (w.alloc (.map #[] 0)) w.heap.size (atTo l 0) := MapS.made w
  have hb0 : Below w.heap.size w (w.alloc (.map #[] 0)) := (Below.refl _ w).alloc (Nat.le_refl _) _
  have H0 := Lib.hid h0; have HB0 := Lib.hid hb0; clear h0 hb0
  go_loopw [12] (fun i wr => ∃ k : Nat, i = .int .i64 (k : Nat) ∧ k ≤ l.length ∧ Hid (MapS wr w.heap.size (atTo l k)) ∧ Hid (Below w.heap.size w wr)) (fun i _ => l.length - (intOf i).toNat)
  case atStart => exact ⟨0, rfl, by omega, H0, HB0⟩
  case round =>
    obtain ⟨k, rfl, hk, HI, HB⟩ := hrel
    obtain ⟨wo, rfl⟩ : ∃ wo : World, wo = wr := ⟨_, rfl⟩
    have hszo := HB.out.size
    by_cases hlt : k < l.length
    · obtain ⟨b, off, rfl, hc⟩ := HC.out (by omega)
      obtain ⟨hc1, hc2, hc3⟩ := hc k hlt
      have hw1 := cell_stays HB.out hc1
      have hw2 := cell_stays HB.out hc2
      have hw3 := cell_stays HB.out hc3
      have hnx : atTo l (k + 1) = putM l[k].2.1 (.int .i64 (k : Nat)) (atTo l k) := by
        rw [atTo, List.getD_eq_getElem?_getD, List.getElem?_eq_getElem hlt]; rfl
      have HNX := Lib.hid hnx
      clear hc hc1 hc2 hc3 hnx
      generalize l[k] = o at *
      obtain ⟨ob, oid, otx⟩ := o
      simp only at hw1 hw2 hw3 HNX
      have hbx := HB.out.alloc hszo (.cells #[.bool ob, strV oid, strV otx] 65)
      have hm := HI.out.stays (Q.alloc wo (.cells #[.bool ob, strV oid, strV otx] 65))
      have HBX := Lib.hid hbx
      clear hbx HI HB
      go_wp2_with (at_mapUpdate; go_must (refine wpList_update_map _ (by rfl) _ _ _ 84 (by rfl) 9 3 Tryz.underlying84 Tryz.underlying9 w.heap.size (atTo l k) hm oid (.int .i64 (k : Nat)) (by rfl) (by rfl) (by rfl) ?_))
      intro w5 hm5 hg5
      have hb5 := HBX.out.grown hg5 HBX.out.size (fun x hx => by cases hx; exact Nat.le_refl _)
      rw [← HNX.out] at hm5
      have HM5 := Lib.hid hm5; have HB5 := Lib.hid hb5
      clear hm5 hg5 hb5 hm
      go_wp2_with fail
      go_roundw
      case rel => exact ⟨k + 1, by go_num, by omega, HM5, HB5⟩
      case measure => simp [intOf]; omega
    · have hke : k = l.length := by omega
      subst hke
      have hq : Q w wo := HB.out
      have HQ := Lib.hid hq
      clear hq HB
      go_wp2_with fail
      go_loopw [6, 25] (fun ov x wr => ∃ j : Nat, x = .int .i64 (j : Nat) ∧ j ≤ l.length ∧ Hid (wr.ownsRow wo.heap.size 65 3 ov (keepTo l j).length (opVs (keepTo l j))) ∧ Hid (Below wo.heap.size wo wr)) (fun _ x _ => l.length - (intOf x).toNat)
      case atStart => exact ⟨0, rfl, by omega, World.ownsRow_nil _ _ _ _, Below.refl _ _⟩
      case round =>
        obtain ⟨j, rfl, hj, HO, HB⟩ := hrel
        obtain ⟨wi, rfl⟩ : ∃ wi : World, wi = wr := ⟨_, rfl⟩
        have hszi := HB.out.size
        by_cases hjl : j < l.length
        · obtain ⟨b, off, rfl, hc⟩ := HC.out (by omega)
          obtain ⟨hc1, hc2, hc3⟩ := hc j hjl
          have hq1 := HQ.out.trans HB.out
          have hw1 := cell_stays hq1 hc1
          have hw2 := cell_stays hq1 hc2
          have hw3 := cell_stays hq1 hc3
          have hkt := keepTo_get l j hjl
          have hkl := keepTo_len l j
          obtain ⟨jj, hg1, hg2⟩ := atTo_all l j hjl
          generalize l[j] = o at *
          obtain ⟨ob, oid, otx⟩ := o
          simp only at hw1 hw2 hw3 hkt hg1 hg2
          have hm := (HI.out.stays HB.out).stays (Q.alloc wi (.cells #[.bool ob, strV oid, strV otx] 65))
          have hcu : (getM oid (atTo l l.length)).getD (.int .i64 0) = .int .i64 (jj : Nat) := by rw [hg1]; rfl
          have ho1 := HO.out.alloc (.cells #[.bool ob, strV oid, strV otx] 65)
          have hb1 := HB.out.alloc hszi (.cells #[.bool ob, strV oid, strV otx] 65)
          have hsz1 : wo.heap.size ≤ (wi.alloc (.cells #[.bool ob, strV oid, strV otx] 65)).heap.size := hb1.size
          have HB1 := Lib.hid hb1
          clear hc hc1 hc2 hc3 hq1 hb1 hg1 HO HB
          by_cases he : jj = j
          · subst he
            have hnin := hg2.1 rfl
            rw [if_neg hnin] at hkt
            have HKT := Lib.hid hkt
            clear hg2 hnin hkt
            have hone : ∀ u ∈ (#[.bool ob, strV oid, strV otx] : Array Value).toList, u.oneCell' = true := by simp [Value.oneCell']
            have hbytes : ((keepTo l jj).length + 1) * 40 ≤ 140737488355328 := by omega
            go_wp2_with (first | (at_lookup; go_must (refine wpList_lookup_val (wi.alloc (.cells #[.bool ob, strV oid, strV otx] 65)) (by rfl) _ _ 84 (by rfl) 9 3 Tryz.underlying84 Tryz.underlying9 (.int .i64 0) (zeroInt _) w.heap.size (atTo l l.length) hm oid (by rfl) (by rfl) _ hcu ?_)) | (at_builtin; go_must (refine wpList_app (wi.alloc (.cells #[.bool ob, strV oid, strV otx] 65)) (by rfl) _ _ 61 (by rfl) wo.heap.size 65 _ io (.agg #[.bool false, strV [], strV []]) 3 40 Tryz.underlying61 hio hz0 hz1 hz2 rfl (by decide) (by decide) _ _ _ (by rfl) ho1 #[.bool ob, strV oid, strV otx] (by rw [World.size_alloc]; rfl) rfl hone hbytes hsz1 ?_)))
            intro g capg W1 ho4 hg4 hat4 _ _
            have hbt := HB1.out.grown hg4 hsz1 (fun x hx => (ho1.lt x hx).1)
            have hoo : W1.ownsRow wo.heap.size 65 3 (.slice (some ⟨g, 0, none⟩) ((keepTo l jj).length + 1) capg) (keepTo l (jj + 1)).length (opVs (keepTo l (jj + 1))) := by
              rw [HKT.out, opVs_append, List.length_append]; exact ho4
            have HOO := Lib.hid hoo; have HBT := Lib.hid hbt
            clear hoo hbt ho4 hg4 hat4 ho1 hm
            go_wp2_with fail
            go_roundw
            case rel => exact ⟨jj + 1, by go_num, by omega, HOO, HBT⟩
            case measure => simp [intOf]; omega
          · have hin : oid ∈ (l.drop (j + 1)).map (fun p => p.2.1) := Classical.byContradiction fun hh => he (hg2.2 hh)
            rw [if_pos hin, List.append_nil] at hkt
            have hne : ((jj : Int) == (j : Int)) = false := by simp; omega
            have HKT := Lib.hid hkt
            have HO1 := Lib.hid ho1
            clear hg2 hin hkt ho1 he
            go_wp2_with (at_lookup; go_must (refine wpList_lookup_val (wi.alloc (.cells #[.bool ob, strV oid, strV otx] 65)) (by rfl) _ _ 84 (by rfl) 9 3 Tryz.underlying84 Tryz.underlying9 (.int .i64 0) (zeroInt _) w.heap.size (atTo l l.length) hm oid (by rfl) (by rfl) _ hcu ?_))
            go_roundw
            case rel => exact ⟨j + 1, by go_num, by omega, by show World.ownsRow _ _ _ _ _ _ _; rw [HKT.out]; exact HO1.out, HB1⟩
            case measure => simp [intOf]; omega
        · have hje : j = l.length := by omega
          subst hje
          rw [keepTo_all] at HO
          have hbe := HQ.out.trans HB.out
          have hoe := owns_low HO.out (show w.heap.size ≤ wo.heap.size from HQ.out.size)
          have HOE := Lib.hid hoe; have HBE := Lib.hid hbe
          clear hoe hbe HO HB
          go_wp2_with fail
          go_ret
          exact ⟨_, rfl, HOE.out, HBE.out⟩
end Go.Proofs.YtcflpcpkmhljkaaGreatDoor
end

/- (BitA) trial -/
section
namespace Go.Proofs.YtcflpcpkmhljkaaGreatDoor
open Go.RowKit

set_option maxHeartbeats 400000 in
theorem get_pos (l : List UInt8) (i : Int) (w : World) (hs : l.length ≤ 9223372036854775807) (hi : 0 ≤ i) (hi3 : i ≤ 9223372036854775807) (hi2 : i / 8 < l.length) :
    Calls Tryz.prog 42 #[.string ⟨l.toArray⟩, .int .i64 i] w fun e w' => e = .returned (.bool (bitI l i)) ∧ w = w' := by
  go_enter Tryz.func42, Tryz.ntmps42
  go_wp2
  go_ret
  refine ⟨?_, rfl⟩
  rw [bitI_in l i hi (by omega), ← walk_bit _ _ (UInt8.toNat_lt _)]
  rfl

set_option maxHeartbeats 400000 in
theorem get_neg (l : List UInt8) (i : Int) (w : World) (hs : l.length ≤ 9223372036854775807) (hi : i < 0) :
    Calls Tryz.prog 42 #[.string ⟨l.toArray⟩, .int .i64 i] w fun e w' => e = .returned (.bool (bitI l i)) ∧ w = w' := by
  have h := bitI_neg l i hi
  have H := Lib.hid h; clear h
  go_enter Tryz.func42, Tryz.ntmps42
  go_wp2
  go_ret
  exact ⟨by rw [H.out]; rfl, rfl⟩

set_option maxHeartbeats 400000 in
theorem get_ge (l : List UInt8) (i : Int) (w : World) (hs : l.length ≤ 9223372036854775807) (hi : 0 ≤ i) (hi3 : i ≤ 9223372036854775807) (hi2 : l.length ≤ i / 8) :
    Calls Tryz.prog 42 #[.string ⟨l.toArray⟩, .int .i64 i] w fun e w' => e = .returned (.bool (bitI l i)) ∧ w = w' := by
  have h := bitI_ge l i (by omega)
  have H := Lib.hid h; clear h
  go_enter Tryz.func42, Tryz.ntmps42
  go_wp2
  go_ret
  exact ⟨by rw [H.out]; rfl, rfl⟩

theorem get_any (l : List UInt8) (i : Int) (w : World) (hs : l.length ≤ 9223372036854775807) (hi3 : i ≤ 9223372036854775807) :
    Calls Tryz.prog 42 #[.string ⟨l.toArray⟩, .int .i64 i] w fun e w' => e = .returned (.bool (bitI l i)) ∧ w = w' := by
  by_cases h : i < 0
  · exact get_neg l i w hs h
  · by_cases h2 : i / 8 < l.length
    · exact get_pos l i w hs (by omega) hi3 h2
    · exact get_ge l i w hs (by omega) hi3 (by omega)
end Go.Proofs.YtcflpcpkmhljkaaGreatDoor
end

/- (WPlaces) live.places: walked. -/
section
namespace Go.Proofs.YtcflpcpkmhljkaaGreatDoor
open Go.RowKit
set_option linter.unusedVariables false

abbrev plVal (a : Nat × Nat) : Value := .agg #[.int .i64 (a.1 : Nat), .int .i64 (a.2 : Nat)]
def plV (m : PlL) : List (Bytes × Value) := m.map fun x => (x.1, plVal x.2)
theorem plV_put (k : Bytes) (a : Nat × Nat) (m : PlL) : plV (putM k a m) = putM k (plVal a) (plV m) := putM_mapP plVal k a m
theorem plV_get (k : Bytes) (m : PlL) : getM k (plV m) = (getM k m).map plVal := getM_mapP plVal k m
/-- parts in memory -/
def PartsAt (w : World) (v : Value) (ps : List PartL) : Prop :=
  (∃ rs : List PartR, Parts0 w v rs ∧ rs.map (·.2) = ps.map (·.2) ∧ ∀ (i : Nat) (r : PartR) (p : PartL), rs[i]? = some r → ps[i]? = some p → SegAt w r.1 p.1 (idxS p.1)) ∧ ∀ a n cap, v = .slice a n cap → n ≤ cap
theorem PartsAt.stays {w w' : World} {v : Value} {ps : List PartL} (h : PartsAt w v ps) (q : Q w w') : PartsAt w' v ps := by
  obtain ⟨⟨rs, h1, h2, h3⟩, h4⟩ := h
  exact ⟨⟨rs, Sl.stays h1 q, h2, fun i r p hr hp => (h3 i r p hr hp).stays q⟩, h4⟩
theorem partVs_at (l : List PartR) (k : Nat) (h : k < l.length) : (partVs l)[k * 2]? = some (.pointer (some ⟨l[k].1, 0, none⟩)) ∧ (partVs l)[k * 2 + 1]? = some (strV l[k].2) := by
  induction l generalizing k with
  | nil => simp at h
  | cons d l ih =>
    have e : partVs (d :: l) = .pointer (some ⟨d.1, 0, none⟩) :: strV d.2 :: partVs l := by simp [partVs]
    cases k with
    | zero => rw [e]; exact ⟨rfl, rfl⟩
    | succ k =>
      have := ih k (by simpa using h)
      rw [e, show (k + 1) * 2 = k * 2 + 1 + 1 by omega]
      exact this
theorem PartsAt.value {w : World} {v : Value} {ps : List PartL} (h : PartsAt w v ps) : ∃ a cap, v = .slice a ps.length cap ∧ (0 < ps.length → ∃ b off, a = some ⟨b, off, none⟩ ∧
    ∀ i (hi : i < ps.length), ∃ p, w.cell? ⟨b, off + i * 2, none⟩ = some (.pointer (some ⟨p, 0, none⟩)) ∧ w.cell? ⟨b, off + i * 2 + 1, none⟩ = some (strV ps[i].2) ∧ SegAt w p ps[i].1 (idxS ps[i].1)) := by
  obtain ⟨⟨rs, ⟨_, a, cap, h1, h2⟩, h3, h4⟩, _⟩ := h
  have hl : rs.length = ps.length := by have := congrArg List.length h3; simpa using this
  rw [hl] at h1 h2
  refine ⟨a, cap, h1, fun hn => ?_⟩
  obtain ⟨b, off, h5, h6⟩ := h2 hn
  refine ⟨b, off, h5, fun i hi => ?_⟩
  have hir : i < rs.length := by omega
  obtain ⟨e0, e1⟩ := partVs_at rs i hir
  have hg : rs[i].2 = ps[i].2 := by
    have := congrArg (fun l => l[i]?) h3
    simp only [List.getElem?_map, List.getElem?_eq_getElem hir, List.getElem?_eq_getElem hi, Option.map_some, Option.some.injEq] at this
    exact this
  refine ⟨rs[i].1, h6 _ _ e0, ?_, h4 i _ _ (List.getElem?_eq_getElem hir) (List.getElem?_eq_getElem hi)⟩
  rw [← hg]; exact h6 _ _ e1
theorem gb_trans {a b c : World} {r : Option Nat} (h : a.grownBy b r) (k : b.grownBy c r) : a.grownBy c r :=
  ⟨k.os.trans h.os, k.tape.trans h.tape, k.output.trans h.output, Nat.le_trans h.size k.size, fun i h1 h2 => (k.block i (Nat.lt_of_lt_of_le h1 h.size) h2).trans (h.block i h1 h2)⟩
theorem gb_q {a b : World} (r : Option Nat) (h : Q a b) : a.grownBy b r := ⟨h.os, h.tape, h.output, h.size, fun i h1 _ => h.block i h1⟩
theorem gb_refl (a : World) (r : Option Nat) : a.grownBy a r := gb_q r (Q.refl a)
theorem gb_cell {a b : World} {r : Option Nat} (h : a.grownBy b r) {p : Addr} {u : Value} (hc : a.cell? p = some u) (hne : some p.block ≠ r) : b.cell? p = some u := h.cell hc hne
theorem gb_below {w a b : World} {m : Nat} (hw : Below w.heap.size w a) (h : a.grownBy b (some m)) (hm : w.heap.size ≤ m) : Below w.heap.size w b :=
  hw.grown h hw.size (fun k hk => by cases hk; exact hm)
set_option maxRecDepth 100000 in
set_option maxHeartbeats 4000000 in
theorem Places_any (v : Value) (ps : List PartL) (w : World) (hv : PartsAt w v ps) (hn : ps.length ≤ 1000000) (hl : ∀ p ∈ ps, p.1.length ≤ 1000000 ∧ p.2.length ≤ 1000000) :
    Calls Tryz.prog 48 #[v] w fun e w' => ∃ mb, e = .returned (.map (some mb)) ∧ MapS w' mb (plV (plAll ps)) ∧ Q w w' := by
  obtain ⟨a, cap, rfl, hcell⟩ := hv.value
  have HC := Lib.hid hcell; have HL := Lib.hid hl
  clear hv hcell hl
  have hmm := @run_makeMap Tryz.prog
  go_enter Tryz.func48, Tryz.ntmps48
  go_wp2_with fail
  have h0 : MapS (w.alloc (.map #[] 0)) w.heap.size (plV (plTo ps 0)) := MapS.made w
  have hb0 : Below w.heap.size w (w.alloc (.map #[] 0)) := (Below.refl _ w).alloc (Nat.le_refl _) _
  have H0 := Lib.hid h0; have HB0 := Lib.hid hb0; clear h0 hb0
  go_loopw [11] (fun i wr => ∃ k : Nat, i = .int .i64 (k : Nat) ∧ k ≤ ps.length ∧ Hid (MapS wr w.heap.size (plV (plTo ps k))) ∧ Hid (Below w.heap.size w wr)) (fun i _ => ps.length - (intOf i).toNat)
  case atStart => exact ⟨0, rfl, by omega, H0, HB0⟩
  case round =>
    obtain ⟨i, rfl, hi, HI, HB⟩ := hrel
    obtain ⟨wo, rfl⟩ : ∃ wo : World, wo = wr := ⟨_, rfl⟩
    have hszo := HB.out.size
    by_cases hlt : i < ps.length
    · obtain ⟨b, off, rfl, hc⟩ := HC.out (by omega)
      obtain ⟨p, hc1, hc2, hsg⟩ := hc i hlt
      have hw1 := cell_stays HB.out hc1
      have hw2 := cell_stays HB.out hc2
      have hsw := hsg.stays HB.out
      obtain ⟨hl1, hl2⟩ := HL.out _ (List.getElem_mem hlt)
      have hnx : plTo ps (i + 1) = plIn ps[i] i (plTo ps i) ps[i].1.length := by
        rw [plTo, List.getD_eq_getElem?_getD, List.getElem?_eq_getElem hlt]; rfl
      have HNX := Lib.hid hnx
      clear hc hc1 hc2 hsg hnx
      generalize ps[i] = pp at *
      obtain ⟨ds, gn⟩ := pp
      simp only at hw1 hw2 hsw hl1 hl2 HNX
      have hbx := HB.out.alloc hszo (.cells #[.pointer (some ⟨p, 0, none⟩), strV gn] 89)
      have hm := HI.out.stays (Q.alloc wo (.cells #[.pointer (some ⟨p, 0, none⟩), strV gn] 89))
      have csd := SegDocs_any p ds (idxS ds) (wo.alloc (.cells #[.pointer (some ⟨p, 0, none⟩), strV gn] 89)) (hsw.stays (Q.alloc _ _)) hl1
      have hmlt := HI.out.lt
      have hbox : (wo.alloc (.cells #[.pointer (some ⟨p, 0, none⟩), strV gn] 89)).cell? ⟨wo.heap.size, 1, none⟩ = some (strV gn) := by simp only [World.cell?, heap_alloc_new]; rfl
      have HBX := Lib.hid hbx; have HM := Lib.hid hm; have CSD := Lib.hid csd; have HBOX := Lib.hid hbox
      clear hbx hm csd hbox HI HB hsw
      go_wp2_with fail
      refine CSD.out.mono ?_
      rintro e w2 ⟨v', rfl, ho, q2⟩
      have hdv : Docs w2 v' ds := Sl.of_owns ho
      obtain ⟨da, dcap, rfl, hdc⟩ := hdv.value
      have hb2 := HBX.out.trans (Below.mono q2 HBX.out.size)
      have hm2 := HM.out.stays q2
      have hbox2 := cell_stays q2 HBOX.out
      have hlo := fun k (hk : (Value.slice da ds.length dcap).ownBlock = some k) => (ho.lt k hk).1
      have hbs : wo.heap.size < w2.heap.size := by have := q2.size; simp at this; omega
      have hin0 : MapS w2 w.heap.size (plV (plIn (ds, gn) i (plTo ps i) 0)) := hm2
      have HIN0 := Lib.hid hin0; have HDC := Lib.hid hdc; have HB2 := Lib.hid hb2; have HBOX2 := Lib.hid hbox2; have HLO := Lib.hid hlo
      clear ho hdv hdc hb2 hm2 hbox2 hlo q2 CSD HBX HM HBOX hw1 hw2 hin0
      go_wp2_with fail
      go_loopw [22] (fun x wr => ∃ k : Nat, x = .int .i64 (k : Nat) ∧ k ≤ ds.length ∧ Hid (MapS wr w.heap.size (plV (plIn (ds, gn) i (plTo ps i) k))) ∧ Hid (w2.grownBy wr (some w.heap.size))) (fun x _ => ds.length - (intOf x).toNat)
      case atStart => exact ⟨0, rfl, by omega, HIN0, gb_refl _ _⟩
      case round =>
        obtain ⟨k, rfl, hk, HM, HG⟩ := hrel
        obtain ⟨wi, rfl⟩ : ∃ wi : World, wi = wr := ⟨_, rfl⟩
        have hszi := HG.out.size
        by_cases hkl : k < ds.length
        · obtain ⟨g, go, rfl, hc⟩ := HDC.out (by omega)
          obtain ⟨hc1, hc2⟩ := hc k hkl
          have hge := HLO.out g rfl
          simp only [World.size_alloc] at hge
          have hw1 := gb_cell HG.out hc1 (by simp; omega)
          have hw2 := gb_cell HG.out hc2 (by simp; omega)
          have hwb0 := gb_cell HG.out HBOX2.out (by simp; omega)
          have hid : ds.getD k ([], []) = ds[k] := by rw [List.getD_eq_getElem?_getD, List.getElem?_eq_getElem hkl]; rfl
          have hnx : plIn (ds, gn) i (plTo ps i) (k + 1) = if bit gn k then plIn (ds, gn) i (plTo ps i) k else putM ds[k].1 (i, k) (plIn (ds, gn) i (plTo ps i) k) := by
            rw [plIn, hid]
          clear hc hc1 hc2 hid
          generalize ds[k] = dk at *
          obtain ⟨id, tx⟩ := dk
          simp only at hw1 hw2 hnx
          have hwb := cell_stays (Q.alloc wi (.cells #[strV id, strV tx] 63)) hwb0
          clear hwb0
          have hm3 := HM.out.stays (Q.alloc wi (.cells #[strV id, strV tx] 63))
          have hg3 := gb_trans HG.out (gb_q (some w.heap.size) (Q.alloc wi (.cells #[strV id, strV tx] 63)))
          have cg := fun W => get_any gn (k : Nat) W (by omega) (by omega)
          rw [bitI_nat] at cg
          have HG3 := Lib.hid hg3
          clear hg3 HG HM
          cases hb : bit gn k with
          | true =>
            rw [hb] at cg hnx
            rw [if_pos rfl] at hnx
            rw [← hnx] at hm3
            have CG := Lib.hid cg; have HM3 := Lib.hid hm3; have HB := Lib.hid hb
            clear cg hm3 hnx hb
            go_wp2_with fail
            refine (CG.out _).mono ?_
            rintro e w3 ⟨rfl, rfl⟩
            go_wp2_with fail
            go_roundw
            case rel => exact ⟨k + 1, by go_num, by omega, HM3, HG3⟩
            case measure => simp [intOf]; omega
          | false =>
            rw [hb] at cg hnx
            rw [if_neg (by simp)] at hnx
            have hnv : plV (plIn (ds, gn) i (plTo ps i) (k + 1)) = putM id (plVal (i, k)) (plV (plIn (ds, gn) i (plTo ps i) k)) := by rw [hnx, plV_put]
            have CG := Lib.hid cg; have HNV := Lib.hid hnv; have HB := Lib.hid hb
            clear cg hnx hnv hb
            go_wp2_with fail
            refine (CG.out _).mono ?_
            rintro e w3 ⟨rfl, rfl⟩
            go_wp2_with (at_mapUpdate; go_must (refine wpList_update_map _ (by rfl) _ _ _ 111 (by rfl) 9 155 Tryz.underlying111 Tryz.underlying9 w.heap.size (plV (plIn (ds, gn) i (plTo ps i) k)) hm3 id (plVal (i, k)) (by rfl) (by rfl) (by rfl) ?_))
            intro w5 hm5 hg5
            have hg6 := gb_trans HG3.out hg5
            rw [← HNV.out] at hm5
            have HM5 := Lib.hid hm5; have HG5 := Lib.hid hg6
            clear hm5 hg5 hg6 hm3
            go_wp2_with fail
            go_roundw
            case rel => exact ⟨k + 1, by go_num, by omega, HM5, HG5⟩
            case measure => simp [intOf]; omega
        · have hke : k = ds.length := by omega
          subst hke
          have hm4 := HM.out
          rw [← HNX.out] at hm4
          have hb4 := gb_below HB2.out HG.out (Nat.le_refl _)
          have HM4 := Lib.hid hm4; have HB4 := Lib.hid hb4
          clear hm4 hb4 HM HG
          go_wp2_with fail
          go_roundw
          case rel => exact ⟨i + 1, by go_num, by omega, HM4, HB4⟩
          case measure => simp [intOf]; omega
    · have hke : i = ps.length := by omega
      subst hke
      go_wp2_with fail
      go_ret
      exact ⟨_, rfl, HI.out, HB.out⟩
end Go.Proofs.YtcflpcpkmhljkaaGreatDoor
end

/- (WSc) score: a searcher's state; searcher.weight: walked. -/
section
namespace Go.Proofs.YtcflpcpkmhljkaaGreatDoor
open Go.RowKit
set_option linter.unusedVariables false
attribute [local go_sem] Oper.semAt_some

/-- a searcher at sb, its map of weights at mb, in a world later than w₀; each weight that the map holds is right -/
structure SrS (w₀ : World) (pv : Value) (n : Nat) (wt : Bytes → Nat) (sb mb : Nat) (W : World) : Prop where
  q : Q w₀ W
  blk : Blk W sb 86 #[pv, .int .i64 (n : Nat), .map (some mb)]
  map : ∃ m, MapS W mb m ∧ ∀ t v, getM t m = some v → v = .int .i64 (wt t : Nat)
  sb_ge : w₀.heap.size ≤ sb
  mb_ge : w₀.heap.size ≤ mb
theorem SrS.stays {w₀ : World} {pv : Value} {n : Nat} {wt : Bytes → Nat} {sb mb : Nat} {W W' : World} (h : SrS w₀ pv n wt sb mb W) (q : Q W W') : SrS w₀ pv n wt sb mb W' := by
  obtain ⟨m, h1, h2⟩ := h.map
  exact ⟨h.q.trans q, h.blk.stays q, ⟨m, h1.stays q, h2⟩, h.sb_ge, h.mb_ge⟩
/-- a row of cells that grows leaves the searcher as it is -/
theorem SrS.grown {w₀ : World} {pv : Value} {n : Nat} {wt : Bytes → Nat} {sb mb : Nat} {W W' : World} (h : SrS w₀ pv n wt sb mb W) {base : Nat} {e : TypeId} {size : Nat} {v : Value} {k : Nat} {xs : List Value} (ho : W.ownsRow base e size v k xs) (hg : W.grownBy W' v.ownBlock) (hb : w₀.heap.size ≤ base) (he : 86 ≠ e) : SrS w₀ pv n wt sb mb W' := by
  obtain ⟨m, h1, h2⟩ := h.map
  refine ⟨h.q.grown hg h.q.size (fun j hj => by have := (ho.lt j hj).1; omega), blk_beside h.blk ho hg he, ⟨m, h1.same (hg.block mb h1.lt (fun e' => ?_)), h2⟩, h.sb_ge, h.mb_ge⟩
  obtain ⟨cs, hc⟩ := owns_kind ho mb e'.symm
  obtain ⟨es, clock, hm, _⟩ := h1
  rw [hm] at hc; cases hc
theorem Cs.map {n₀ : Nat} {W W' : World} {b : Nat} {m : List (List UInt8 × Value)} (h : MapS W b m) (hg : W.grownBy W' (some b)) (hb : n₀ ≤ b) : Cs n₀ W W' := by
  obtain ⟨es, clock, hm, _⟩ := h
  exact ⟨hg.os, hg.tape, hg.output, hg.size, fun k h1 h2 _ => hg.block k h2 (fun e => by injection e with e; omega),
    fun k o h1 h2 _ => (hg.block k (lt_of_get h1) (fun e => by injection e with e; subst e; rw [hm] at h1; cases h1; cases h2)).trans h1⟩
theorem SrS.put {w₀ : World} {pv : Value} {n : Nat} {wt : Bytes → Nat} {sb mb : Nat} {W W' : World} (h : SrS w₀ pv n wt sb mb W) {m : List (List UInt8 × Value)} (hm : MapS W mb m) (hme : ∀ t v, getM t m = some v → v = .int .i64 (wt t : Nat)) (t : Bytes)
    (hm' : MapS W' mb (putM t (.int .i64 (wt t : Nat)) m)) (hg : W.grownBy W' (some mb)) : SrS w₀ pv n wt sb mb W' := by
  have c := Cs.map hm hg h.mb_ge
  refine ⟨Below.trans h.q (Cs.low c h.q.size), c.blk h.blk, ⟨_, hm', fun t' v hv => ?_⟩, h.sb_ge, h.mb_ge⟩
  rw [get_put] at hv
  split at hv
  · rename_i e; subst e; cases hv; rfl
  · exact hme t' v hv
theorem SrS.itk {w₀ : World} {pv : Value} {n : Nat} {wt : Bytes → Nat} {sb mb : Nat} {W W' : World} (h : SrS w₀ pv n wt sb mb W) {lo : Nat} (hi : Itk (fun _ => False) lo W W') (hm : mb < lo) (hl : w₀.heap.size ≤ lo) : SrS w₀ pv n wt sb mb W' := by
  obtain ⟨m, h1, h2⟩ := h.map
  have c : Cs w₀.heap.size W W' := hi.mono (fun _ h => h) hl
  exact ⟨Below.trans h.q (Cs.low c h.q.size), c.blk h.blk, ⟨m, h1.same (hi.low mb hm h1.lt (fun h => h)), h2⟩, h.sb_ge, h.mb_ge⟩
set_option maxRecDepth 100000 in
set_option maxHeartbeats 8000000 in
theorem SWeight_any (w₀ : World) (pv : Value) (ps : List PartL) (wt : Bytes → Nat) (sb mb : Nat) (t : Bytes) (W : World) (h : SrS w₀ pv (liveL ps).length wt sb mb W) (hp : PartsAt w₀ pv ps) (hok : ∀ p ∈ ps, PartOk p) (hn : ps.length ≤ 1000) (hwt : wt t = wtL (liveL ps) t) :
    Calls Tryz.prog 77 #[.pointer (some ⟨sb, 0, none⟩), strV t] W fun e W' => e = .returned (.int .i64 (wt t : Nat)) ∧ Cs w₀.heap.size W W' ∧ SrS w₀ pv (liveL ps).length wt sb mb W' := by
  obtain ⟨pa, pc, rfl, hpc⟩ := (hp.stays h.q).value
  obtain ⟨m, hm, hme⟩ := h.map
  have hgood := h.blk
  have hmb := hm.lt
  have hsz0 : w₀.heap.size ≤ W.heap.size := h.q.size
  obtain ⟨s0, s1, s2, _⟩ := hgood.c3
  have hlen : (liveL ps).length ≤ 500000 := by have := live_len ps (fun p hp => (hok p hp).2.2.1); omega
  obtain ⟨n, hnn⟩ : ∃ n, n = (liveL ps).length := ⟨_, rfl⟩
  have hwz : weightZ (n : Int) ((haveN (liveL ps) t : Nat) : Int) = wt t := by rw [weightZ_nat, hwt, hnn]; rfl
  have hhl := haveN_le (liveL ps) t
  rw [← hnn] at h s1 hlen hgood hhl ⊢
  have HPC := Lib.hid hpc; have HM := Lib.hid hm; have HME := Lib.hid hme; have HS := Lib.hid h; have HOK := Lib.hid hok; have HB := Lib.hid hgood; have HWZ := Lib.hid hwz
  clear hpc hm hme h hok hgood hnn hwt hp hwz
  refine (callsIn_wide (n := 0)).1 ?_
  refine callsIn_of_wp_marks Tryz.func77 rfl trivial ?_ rfl
  simp only [Tryz.ntmps77, List.size_toArray, List.length_cons, List.length_nil, Nat.reduceAdd, Nat.reduceSub, Array.replicate_succ, Array.replicate_zero, List.push_toArray, List.append_toArray, List.nil_append, List.cons_append]
  refine wpIn_wide.2 ?_
  cases hg : getM t m with
  | some v =>
    have hv := HME.out t v hg
    subst hv
    have HG := Lib.hid hg
    clear hg HPC HME HWZ hhl
    go_wp2_with (at_lookup; go_must (refine wpList_lookup_map W (by rfl) _ _ 84 true (by rfl) 9 3 Tryz.underlying84 Tryz.underlying9 (.int .i64 0) (zeroInt _) mb m HM.out t (by rfl) (by rfl) ?_; rw [HG.out]))
    refine ⟨_, results_tmp rfl _ _ _, rfl, Cs.refl _ _, HS.out⟩
  | none =>
    have HG := Lib.hid hg
    clear hg
    have t0 := cell_stays (Q.alloc W (.cells #[.int .i64 0] 3)) s0
    go_wp2_with (at_lookup; go_must (refine wpList_lookup_map W (by rfl) _ _ 84 true (by rfl) 9 3 Tryz.underlying84 Tryz.underlying9 (.int .i64 0) (zeroInt _) mb m HM.out t (by rfl) (by rfl) ?_; rw [HG.out]))
    clear HG s0 s1 s2 t0
    have hq0 := Q.alloc W (.cells #[.int .i64 0] 3)
    have hbx := Boxed.new W 3 (.int .i64 0)
    generalize hhb : W.heap.size = hb at *
    refine wp_loop (fun a' w' => ∃ (x2 x3 x4 x5 x6 x8 x9 x10 x11 x12 x13 x14 x15 x16 x17 x18 x19 x20 x21 x22 x23 x24 x25 x28 x29 x30 x31 x32 x33 x34 x35 x36 x37 x38 x39 x40 x41 x42 x43 x44 x45 x46 x47 x48 x49 x50 x51 x52 x53 x54 x55 x56 x57 x58 x59 x60 x61 x62 : Value) (dfs : List Deferred), (∃ (k : Nat) (ds : List Nat), dfs = ds.map markD ∧ k ≤ ps.length ∧ x28 = .int .i64 (k : Nat) ∧ Hid (Q W w') ∧ Hid (Marks hb w' ds) ∧ Hid (Boxed w' hb 3 (.int .i64 ((haveN (liveL (ps.take k)) t : Nat) : Int)))) ∧ a' = { tmps := #[.pointer (some ⟨sb, 0, none⟩), strV t, x2, x3, x4, x5, x6, .pointer (some ⟨hb, 0, none⟩), x8, x9, x10, x11, x12, x13, x14, x15, x16, x17, x18, x19, x20, x21, x22, x23, x24, x25, .slice pa ps.length pc, .int .i64 ps.length, x28, x29, x30, x31, x32, x33, x34, x35, x36, x37, x38, x39, x40, x41, x42, x43, x44, x45, x46, x47, x48, x49, x50, x51, x52, x53, x54, x55, x56, x57, x58, x59, x60, x61, x62], defers := dfs })
      (fun a' _ => ps.length - (intOf (a'.tmps.getD 28 undef)).toNat) ?_ ?_
    · (repeat apply Exists.intro)
      refine ⟨⟨0, [], rfl, Nat.zero_le _, rfl, hq0, Marks.nil _ _, hbx⟩, rfl⟩
    · intro a' wr hinv
      obtain ⟨x2, x3, x4, x5, x6, x8, x9, x10, x11, x12, x13, x14, x15, x16, x17, x18, x19, x20, x21, x22, x23, x24, x25, x28, x29, x30, x31, x32, x33, x34, x35, x36, x37, x38, x39, x40, x41, x42, x43, x44, x45, x46, x47, x48, x49, x50, x51, x52, x53, x54, x55, x56, x57, x58, x59, x60, x61, x62, dfs, ⟨k, ds, rfl, hk, rfl, HQ, HMK, HBX⟩, rfl⟩ := hinv
      obtain ⟨wo, rfl⟩ : ∃ wo : World, wo = wr := ⟨_, rfl⟩
      by_cases hlt : k < ps.length
      · obtain ⟨b, off, rfl, hcc⟩ := HPC.out (by omega)
        obtain ⟨p, e0, e1, hseg⟩ := hcc k hlt
        have u0 := cell_stays HQ.out e0
        have u1 := cell_stays HQ.out e1
        have hok := HOK.out ps[k] (List.getElem_mem hlt)
        have hq1 : Q W (wo.alloc (.cells #[.pointer (some ⟨p, 0, none⟩), strV ps[k].2] 89)) := HQ.out.trans (Q.alloc _ _)
        have c := SegPostings_any p ps[k].1 t 0 _ (hseg.stays hq1) hok.2.2.1 hok.1
        have hst := have_step ps t k hlt
        have hle := haveN_le (liveL (ps.take (k + 1))) t
        have hle2 := live_len (ps.take (k + 1)) (fun p hp => (HOK.out p (List.mem_of_mem_take hp)).2.2.1)
        have hle3 : (ps.take (k + 1)).length ≤ 1000 := by rw [List.length_take]; omega
        rw [show fromP (postsF t ps[k].1 0) 0 = postsF t ps[k].1 0 from fromP_all t ps[k].1] at c
        have hpr := (posts_small _ (docs_posts hok.2.2.1 hok.1 t))
        have hgl : ps[k].2.length ≤ 1000000 := by have h5 := hok.2.2.2; have h6 := hok.2.2.1; omega
        generalize postsF t ps[k].1 0 = xs at *
        generalize ps[k].2 = gone at *
        generalize haveN (liveL (ps.take k)) t = h0 at *
        have hh0 : h0 + haveP gone xs ≤ 500000 := by omega
        obtain ⟨y0, y1, _⟩ := (Blk.new wo 89 #[.pointer (some ⟨p, 0, none⟩), strV gone]).c2
        have hpb := Blk.new wo 89 #[.pointer (some ⟨p, 0, none⟩), strV gone]
        have hi1 : (k : Int) < (ps.length : Int) := by omega
        have hi2 : (0 : Int) ≤ (k : Int) := by omega
        have C := Lib.hid c; have HST := Lib.hid hst; have HPR := Lib.hid hpr.2.1; have hxl := hpr.1; have HQ1 := Lib.hid hq1; have HPB := Lib.hid hpb
        clear c hst hpr hq1 hpb e0 e1 hseg hok hcc hle hle2 hle3
        go_wp2_with fail
        refine C.out.mono ?_
        rintro e w1 ⟨⟨gf, lb, rfl, hen, kp, hkp, hseq⟩, q1⟩
        have qq : Q wo w1 := (Q.alloc _ _).trans q1
        have hs1 := q1.size
        simp only [World.size_alloc] at hs1 hkp
        have hBs : hb < wo.heap.size := HBX.out.lt
        have HPB2 := Lib.hid (HPB.out.stays q1); have HBX2 := Lib.hid (show Boxed w1 hb 3 (.int .i64 (h0 : Nat)) from block_stays' qq HBX.out)
        have HMK2 : Hid (Marks hb w1 ds) := HMK.out.keeps (fun D hD => qq.block D (HMK.out.lt D hD))
        have HDL : Hid (∀ D ∈ ds, D < wo.heap.size) := HMK.out.lt
        have HQ2 := Lib.hid (HQ1.out.trans q1); have HSEQ := Lib.hid hseq; have HKP := Lib.hid hkp; have HEN := Lib.hid hen
        clear C q1 qq hseq hkp hen HPB HBX HMK HQ1 y0 y1 u0 u1
        go_wp2_with fail
        refine (wpIn_wide (n := 0)).1 ?_
        refine wpIn_act (fun A0 hA0 => ?_)
        refine wp_rangeP (gf := gf) (lb := lb) (by rw [hA0]; rfl) HEN.out (encs := encP (w1.heap.size + 2 + 7)) (own := fun k => k = w1.heap.size + 2 + 1 ∨ k = w1.heap.size + 2 + 4) (keep := fun k => kp k ∨ (w1.heap.size + 2 ≤ k ∧ k < w1.heap.size + 2 + 7)) (n₀ := hb) (xs := xs)
          (fun W1 hq hz => by
            have h := HSEQ.out W1 hb hq (by omega)
            rw [hz] at h
            exact h)
          (fun k h => by omega) (fun k h => by rcases h with h | h; · have := HKP.out k h; omega
                                               · omega) (by omega) (fun x W1 args h => by obtain ⟨v, rfl, _⟩ := h; rfl)
          (fun j Wj => Boxed Wj hb 3 (.int .i64 ((h0 + haveP gone (xs.take j) : Nat) : Int)) ∧ Blk Wj wo.heap.size 89 #[.pointer (some ⟨p, 0, none⟩), strV gone] ∧ Marks hb Wj ds ∧ Below hb W Wj)
          (fun _ _ _ => False)
          (fun k a' Wj => ∃ (x : PostL) (pv : Value) (B : Nat), xs[k]? = some x ∧ a' = { tmps := (A0.tmps.setIfInBounds 36 (.agg #[.int .i64 x.1, pv])).setIfInBounds 10 (.pointer (some ⟨B, 0, none⟩)), defers := [] } ∧ Blk Wj B 211 #[.int .i64 x.1, pv] ∧ w1.heap.size + 9 ≤ B)
          ?hI (fun _ _ _ _ h _ => h) ?hAx ?h0 ?assign ?body ?done (fun _ _ _ _ _ _ h _ => h.elim)
        case hI =>
          rintro j A B ⟨h1, h2, h3, h4⟩ hi
          refine ⟨hi.boxed h1 (by omega), hi.get h2 (by omega), h3.keeps (fun D hD => hi.low D (by have := HDL.out D hD; omega) (h3.lt D hD) (by have := HDL.out D hD; omega)), hi.below h4 (by omega) (by have := (h1 : Blk A hb _ _).lt; omega) (fun k h => by omega)⟩
        case hAx =>
          rintro j a' A C ⟨x, v, B, h1, h2, h3, h5⟩ hi
          exact ⟨x, v, B, h1, h2, hi.get h3 (by omega), h5⟩
        case h0 => exact ⟨HBX2.out, HPB2.out, HMK2.out, by have := HQ2.out; unfold Q at this; rw [hhb] at this; exact this⟩
        case assign =>
          intro l' j hj W' args K hi henc hz hK
          obtain ⟨v, rfl, ho⟩ := henc
          obtain ⟨a, cap, rfl, hsm⟩ := owns_value ho
          have hB9 : w1.heap.size + 9 ≤ W'.heap.size := by
            obtain ⟨g, rfl⟩ := hsm (List.length_pos_iff.2 (HPR.out _ (List.getElem_mem hj)).2.1)
            have := ho.lt g rfl
            omega
          obtain ⟨h1, h2, h3, h4⟩ := hi
          have hq := Q.alloc W' (.cells #[.int .i64 xs[j].1, .slice a xs[j].2.length cap] 211)
          have hm := Blk.new W' 211 #[.int .i64 xs[j].1, .slice a xs[j].2.length cap]
          have g1 : Boxed _ hb 3 _ := block_stays' hq h1
          have g3 := h3.keeps (fun D hD => hq.block D (h3.lt D hD))
          have g4 := h4.trans (Below.mono hq (by have := (h1 : Blk W' hb _ _).lt; omega))
          have GI := Lib.hid (And.intro g1 (And.intro (h2.stays hq) (And.intro g3 g4))); have GM := Lib.hid hm; have GQ := Lib.hid hq; have HK := Lib.hid hK
          subst hA0
          clear hq hm ho h1 h2 h3 h4 hK g1 g3 g4
          gi_wp2
          refine HK.out _ _ GQ.out GI.out ⟨xs[j], .slice a xs[j].2.length cap, W'.heap.size, List.getElem?_eq_getElem hj, ?_, GM.out, by omega⟩
          rfl
        case body =>
          rintro l' j hj a' W' ⟨⟨rc, hrc⟩, hdf⟩ hl ⟨h1, h2, h3, h4⟩ ⟨x, pv, B, hx, rfl, hm, hB⟩ hkb hz
          have hxe : x = xs[j] := by rw [List.getElem?_eq_getElem hj] at hx; exact (Option.some.inj hx).symm
          subst hxe
          have hxr := HPR.out xs[j] (List.getElem_mem hj)
          have hht := haveP_take gone xs j hj
          have hhl : haveP gone (xs.take j) ≤ 500 := Nat.le_trans (haveP_le _ _) (by rw [List.length_take]; omega)
          have hget := fun W => get_any gone xs[j].1 W (by omega) (by omega)
          have hbit : bitI gone xs[j].1 = bit gone xs[j].1.toNat := by unfold bitI; rw [decide_eq_true (by omega)]; rfl
          rw [hbit] at hget
          subst hA0
          obtain ⟨m0, m1, _⟩ := hm.c2
          obtain ⟨r0, r1, _⟩ := h2.c2
          have cv := h1.cell; have fv := h1.frozen
          have hBl := (h1 : Blk W' hb _ _).lt
          generalize haveP gone (xs.take j) = hp at *
          generalize xs[j].1 = xd at *
          have H1 := Lib.hid h1; have H2 := Lib.hid h2; have H3 := Lib.hid h3; have H4 := Lib.hid h4; have G := Lib.hid hget; have HT := Lib.hid hht
          clear h1 h2 h3 h4 hm hx hxr hht hget hbit hrc hdf
          simp only [List.setIfInBounds_toArray, List.set_cons_succ, List.set_cons_zero]
          cases hbt : bit gone xd.toNat with
          | true =>
            rw [hbt] at G HT
            gi_wp2_with fail
            refine ⟨trivial, rfl, (calls_round _ (G.out _)).mono ?_⟩
            rintro e w' ⟨rfl, rfl⟩
            gi_wp2_with fail
            exact ⟨Bk.refl _ _ _, by rw [HT.out]; exact H1.out, H2.out, H3.out, H4.out⟩
          | false =>
            rw [hbt] at G HT
            gi_wp2_with fail
            refine ⟨trivial, rfl, (calls_round _ (G.out _)).mono ?_⟩
            rintro e w' ⟨rfl, rfl⟩
            gi_wp2_with fail
            have e1 : Blk W' hb 3 #[.int .i64 ((h0 + hp : Nat) : Int)] := H1.out
            refine ⟨Bk.setCell _ (by simp) ?_ _, ?_, ?_, ?_, ?_⟩
            · rintro ((h | h) | h)
              · have h := HKP.out _ h; simp at h; omega
              · simp at h; omega
              · simp at h; omega
            · rw [HT.out]
              have hn : ((h0 + (hp + if false = true then 0 else 1) : Nat) : Int) = (h0 : Int) + (hp : Int) + 1 := by simp; omega
              rw [hn]
              exact e1.set 0 _
            · exact H2.out.other ⟨hb, 0, none⟩ _ (by simp; omega)
            · exact H3.out.keeps (fun D hD => Below.heap_setCell _ _ _ _ (fun e => by
                have := (H3.out.2 D hD).2
                rw [e] at this
                rw [show _ = _ from e1] at this
                cases this))
            · exact H4.out.setCell (by simp) _
        case done =>
          rintro D W' hD hz ⟨h1, h2, h3, h4⟩ hK
          rw [List.take_length, ← HST.out] at h1
          have hq9 : Q W W' := by unfold Q; rw [hhb]; exact h4
          have hmk := h3.cons hK (by omega) (fun h => by have := HDL.out D h; omega)
          have H1 := Lib.hid h1; have HQ9 := Lib.hid hq9; have HM9 := Lib.hid hmk
          subst hA0
          clear h1 h2 h3 h4 hK hmk hq9 HST HSEQ HKP HEN HPR HPB2 HBX2 HMK2 HQ2 hh0
          go_wp2_with fail
          refine ⟨?_, ?measure⟩
          · (repeat apply Exists.intro)
            refine ⟨⟨k + 1, D :: ds, rfl, by omega, by go_num, HQ9, HM9, H1⟩, rfl⟩
          case measure => simp [intOf]; omega
      · have hke : k = ps.length := by omega
        subst hke
        have hq9 := HQ.out
        have hs9 := HS.out.stays hq9
        obtain ⟨s0, s1, s2, _⟩ := hs9.blk.c3
        have hm9 := HM.out.stays hq9
        have hbx9 := HBX.out
        rw [List.take_length] at hbx9
        have cv := hbx9.cell
        have cw := fun W => Weight_any (n : Int) ((haveN (liveL ps) t : Nat) : Int) W (by omega) (by omega) (by omega) (by omega)
        rw [HWZ.out] at cw
        generalize haveN (liveL ps) t = hv at *
        have CW := Lib.hid cw; have HS9 := Lib.hid hs9; have HM9 := Lib.hid hm9; have HQ9 := Lib.hid hq9
        clear cw hs9 hm9 hq9 hbx9 HQ HBX HS HM HPC HOK HB HWZ
        go_wp2_with fail
        refine wp_region_still_tail 11 (by kernel_rfl) (by kernel_rfl) ?_
        simp only [List.take_succ_cons, List.take_zero, List.drop_succ_cons, List.drop_zero]
        repeat still_step
        still_call ((CW.out _).mono (fun e w' h => ⟨h.1, h.2.symm⟩))
        refine wpStill_nil ?_
        change wpList _ _ _ _ _ wo.drew
        have hq8 : Q wo wo.drew := Q.drew _
        have HS8 := Lib.hid (HS9.out.stays hq8); have HM8 := Lib.hid (HM9.out.stays hq8); have HQ8 := Lib.hid (HQ9.out.trans hq8)
        have HMK8 := Lib.hid (HMK.out.keeps (fun D hD => hq8.block D (HMK.out.lt D hD)))
        clear hq8 HS9 HM9 HQ9 HMK CW s0 s1 s2 cv
        generalize wo.drew = wd at *
        go_wp2_with (at_mapUpdate; go_must (refine wpList_update_map wd (by rfl) _ _ _ 84 (by rfl) 9 3 Tryz.underlying84 Tryz.underlying9 mb m HM8.out t (.int .i64 (wt t : Nat)) (by rfl) (by rfl) (by rfl) ?_))
        intro w6 hm6 hg6
        have hs6 := HS8.out.put HM8.out HME.out t hm6 hg6
        have hc6 : Cs w₀.heap.size W w6 := (Cs.of_q HQ8.out).trans (Cs.map HM8.out hg6 hs6.mb_ge)
        have mk6 : Marks hb w6 ds := HMK8.out.keeps (fun D hD => hg6.block D (HMK8.out.lt D hD) (fun e => by
          have h1 := (HMK8.out.2 D hD).2
          injection e with e
          obtain ⟨es, clock, h2, _⟩ := HM8.out
          rw [e, h2] at h1
          cases h1))
        have hgp : getM t (putM t (.int .i64 (wt t : Nat)) m) = some (.int .i64 (wt t : Nat)) := by rw [get_put, if_pos rfl]
        obtain ⟨s0, s1, s2, _⟩ := hs6.blk.c3
        have HS6 := Lib.hid hs6; have HC6 := Lib.hid hc6; have HK6 := Lib.hid mk6; have HM6 := Lib.hid hm6; have HGP := Lib.hid hgp
        clear hs6 hc6 mk6 hgp hg6 hm6 HS8 HM8 HQ8 HMK8 HME
        go_wp2_with (at_lookup; go_must (refine wpList_lookup_map w6 (by rfl) _ _ 84 false (by rfl) 9 3 Tryz.underlying84 Tryz.underlying9 (.int .i64 0) (zeroInt _) mb (putM t (.int .i64 (wt t : Nat)) m) HM6.out t (by rfl) (by rfl) ?_; rw [HGP.out]))
        refine leaves_marks hb (by simp) ds w6 HK6.out (fun W' hi => ⟨_, results_tmp rfl _ _ _, rfl, HC6.out.trans (hi.mono (fun _ h => h) hsz0), HS6.out.itk hi hmb hsz0⟩)
end Go.Proofs.YtcflpcpkmhljkaaGreatDoor
end
