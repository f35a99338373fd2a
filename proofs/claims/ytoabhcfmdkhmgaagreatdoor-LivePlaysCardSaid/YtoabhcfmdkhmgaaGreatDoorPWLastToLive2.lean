/- Joined texts of one proof: WLast, WRef15a, Live2. -/
import Derived.Test.YtoabhcfmdkhmgaaGreatDoorPWLiveRToWFresh
import Derived.Test.YtoabhcfmdkhmgaaGreatDoorPMem3ToBld
import Derived.Test.YtoabhcfmdkhmgaaGreatDoorPWIndexToWCrc
import Derived.Test.YtoabhcfmdkhmgaaGreatDoorPWRef2bToWSegDocs
import Derived.Test.YtoabhcfmdkhmgaaGreatDoorPMapsToLive
set_option linter.unusedSimpArgs false
set_option linter.unusedVariables false
set_option linter.unnecessarySimpa false
/- (WLast) live.Last: walked. -/
section
namespace Go.Proofs.YtoabhcfmdkhmgaaGreatDoor
open Go.RowKit
set_option linter.unusedVariables false

/-! ### plain -/
def atTo (l : List OpL) : Nat → List (Bytes × Value)
  | 0 => []
  | k + 1 => putM (l.getD k (false, ([], []))).2.1 (.int .i64 (k : Nat)) (atTo l k)
def keepTo (l : List OpL) : Nat → List OpL
  | 0 => []
  | k + 1 => keepTo l k ++ (if (l.getD k (false, ([], []))).2.1 ∈ (l.drop (k + 1)).map (fun p => p.2.1) then [] else [l.getD k (false, ([], []))])
theorem keepTo_last (l : List OpL) (k : Nat) (h : k ≤ l.length) : lastL l = keepTo l k ++ lastL (l.drop k) := by
  induction k with
  | zero => simp [keepTo]
  | succ k ih =>
    have hlt : k < l.length := by omega
    rw [ih (by omega), keepTo, List.drop_eq_getElem_cons hlt, lastL, List.getD_eq_getElem?_getD, List.getElem?_eq_getElem hlt]
    simp only [Option.getD_some]
    split <;> simp
theorem keepTo_all (l : List OpL) : keepTo l l.length = lastL l := by
  have := keepTo_last l l.length (Nat.le_refl _)
  simpa [lastL] using this.symm
/-- the last place of an ID among the first n ops -/
theorem atTo_get (l : List OpL) (n : Nat) (hn : n ≤ l.length) (k : Nat) (hk : k < n) :
    ∃ j, getM (l.getD k (false, ([], []))).2.1 (atTo l n) = some (.int .i64 (j : Nat)) ∧ k ≤ j ∧ j < n ∧ (j = k ↔ (l.getD k (false, ([], []))).2.1 ∉ ((l.take n).drop (k + 1)).map (fun p => p.2.1)) := by
  induction n with
  | zero => omega
  | succ n ih =>
    have hlt : n < l.length := by omega
    rw [atTo, get_put]
    have ht : (l.take (n + 1)) = l.take n ++ [l[n]] := List.take_succ_eq_append_getElem hlt
    have hgn : l.getD n (false, ([], [])) = l[n] := by rw [List.getD_eq_getElem?_getD, List.getElem?_eq_getElem hlt]; rfl
    by_cases hkn : k = n
    · subst hkn
      rw [if_pos rfl]
      refine ⟨k, rfl, Nat.le_refl _, by omega, ?_⟩
      have : (l.take (k + 1)).drop (k + 1) = [] := by rw [List.drop_eq_nil_iff]; simp; omega
      rw [this]; simp
    · obtain ⟨j, h1, h2, h3, h4⟩ := ih (by omega) (by omega)
      have hd : (l.take (n + 1)).drop (k + 1) = (l.take n).drop (k + 1) ++ [l[n]] := by
        rw [ht, List.drop_append_of_le_length (by rw [List.length_take]; omega)]
      by_cases he : (l.getD n (false, ([], []))).2.1 = (l.getD k (false, ([], []))).2.1
      · rw [if_pos he]
        refine ⟨n, rfl, by omega, by omega, ?_⟩
        rw [hd, List.map_append, List.mem_append, ← he, hgn]
        simp; omega
      · rw [if_neg he]
        refine ⟨j, h1, h2, by omega, ?_⟩
        rw [hd, List.map_append, List.mem_append, h4]
        rw [hgn] at he
        rw [List.map_singleton, List.mem_singleton, not_or]
        exact ⟨fun h => ⟨h, fun e => he e.symm⟩, fun h => h.1⟩
theorem atTo_len (l : List OpL) (k : Nat) : (atTo l k).length ≤ k := by
  induction k with
  | zero => simp [atTo]
  | succ k ih => rw [atTo]; have := putM_length (l.getD k (false, ([], []))).2.1 (Value.int .i64 (k : Nat)) (atTo l k); omega
theorem keepTo_len (l : List OpL) (k : Nat) : (keepTo l k).length ≤ k := by
  induction k with
  | zero => simp [keepTo]
  | succ k ih => rw [keepTo, List.length_append]; split <;> simp <;> omega
abbrev opVs (l : List OpL) : List Value := l.flatMap fun o => [.bool o.1, strV o.2.1, strV o.2.2]
theorem opVs_append (l : List OpL) (d : OpL) : opVs (l ++ [d]) = opVs l ++ [.bool d.1, strV d.2.1, strV d.2.2] := by simp [opVs]
theorem opVs_at (l : List OpL) (k : Nat) (h : k < l.length) : (opVs l)[k * 3]? = some (.bool l[k].1) ∧ (opVs l)[k * 3 + 1]? = some (strV l[k].2.1) ∧ (opVs l)[k * 3 + 2]? = some (strV l[k].2.2) := by
  induction l generalizing k with
  | nil => simp at h
  | cons d l ih =>
    have e : opVs (d :: l) = .bool d.1 :: strV d.2.1 :: strV d.2.2 :: opVs l := by simp [opVs]
    cases k with
    | zero => rw [e]; exact ⟨rfl, rfl, rfl⟩
    | succ k =>
      have := ih k (by simpa using h)
      rw [e, show (k + 1) * 3 = k * 3 + 1 + 1 + 1 by omega]
      exact this
def Ops (w : World) (v : Value) (l : List OpL) : Prop := Sl w v l.length 3 (opVs l)
theorem Ops.stays {w w' : World} {v : Value} {l : List OpL} (h : Ops w v l) (hb : Q w w') : Ops w' v l := Sl.stays h hb
theorem Ops.value {w : World} {v : Value} {l : List OpL} (h : Ops w v l) : ∃ a cap, v = .slice a l.length cap ∧ (0 < l.length → ∃ b off, a = some ⟨b, off, none⟩ ∧
    ∀ k (hk : k < l.length), w.cell? ⟨b, off + k * 3, none⟩ = some (.bool l[k].1) ∧ w.cell? ⟨b, off + k * 3 + 1, none⟩ = some (strV l[k].2.1) ∧ w.cell? ⟨b, off + k * 3 + 2, none⟩ = some (strV l[k].2.2)) := by
  obtain ⟨_, a, cap, h2, h3⟩ := h
  refine ⟨a, cap, h2, fun hn => ?_⟩
  obtain ⟨b, off, h4, h5⟩ := h3 hn
  refine ⟨b, off, h4, fun k hk => ?_⟩
  obtain ⟨e0, e1, e2⟩ := opVs_at l k hk
  exact ⟨h5 _ _ e0, h5 _ _ e1, h5 _ _ e2⟩
theorem tinfo51 : (Tryz.prog.info? 51).map (fun i => (i.zero, i.size, i.bytes)) = some (some (.agg #[.bool false, strV [], strV []]), 3, 40) := by kernel_rfl
theorem keepTo_get (l : List OpL) (k : Nat) (h : k < l.length) : keepTo l (k + 1) = keepTo l k ++ (if l[k].2.1 ∈ (l.drop (k + 1)).map (fun p => p.2.1) then [] else [l[k]]) := by
  rw [keepTo, List.getD_eq_getElem?_getD, List.getElem?_eq_getElem h]; rfl
theorem atTo_all (l : List OpL) (k : Nat) (h : k < l.length) :
    ∃ j : Nat, getM l[k].2.1 (atTo l l.length) = some (.int .i64 (j : Nat)) ∧ (j = k ↔ l[k].2.1 ∉ (l.drop (k + 1)).map (fun p => p.2.1)) := by
  obtain ⟨j, h1, _, _, h4⟩ := atTo_get l l.length (Nat.le_refl _) k h
  rw [List.getD_eq_getElem?_getD, List.getElem?_eq_getElem h, List.take_length] at *
  exact ⟨j, h1, h4⟩
set_option maxRecDepth 100000 in
set_option maxHeartbeats 4000000 in
theorem Last_any (v : Value) (l : List OpL) (w : World) (hv : Ops w v l) (hn : l.length ≤ 1000000) :
    Calls Tryz.prog 32 #[v] w fun e w' => ∃ v', e = .returned v' ∧ w'.ownsRow w.heap.size 51 3 v' (lastL l).length (opVs (lastL l)) ∧ Q w w' := by
  obtain ⟨io, hio, hz0, hz1, hz2⟩ := info_parts tinfo51
  obtain ⟨a, cap, rfl, hcell⟩ := hv.value
  have HC := Lib.hid hcell
  clear hv hcell
  have hmm := @run_makeMap Tryz.prog
  go_enter Tryz.func32, Tryz.ntmps32
  go_wp2_with fail
  have h0 : MapS (w.alloc (.map #[] 0)) w.heap.size (atTo l 0) := MapS.made w
  have hb0 : Below w.heap.size w (w.alloc (.map #[] 0)) := (Below.refl _ w).alloc (Nat.le_refl _) _
  have H0 := Lib.hid h0; have HB0 := Lib.hid hb0; clear h0 hb0
  go_loopw [12] (fun i wr => ∃ k : Nat, i = .int .i64 (k : Nat) ∧ k ≤ l.length ∧ Hid (MapS wr w.heap.size (atTo l k)) ∧ Hid (Below w.heap.size w wr)) (fun i _ => l.length - (intOf i).toNat)
  case atStart => exact ⟨0, rfl, by omega, H0, HB0⟩
  case round =>
    obtain ⟨k, rfl, hk, HI, HB⟩ := hrel
    obtain ⟨wo, rfl⟩ : ∃ wo : World, wo = wr := ⟨_, rfl⟩
    have hszo := HB.out.size
    by_cases hlt : k < l.length
    · obtain ⟨b, off, rfl, hc⟩ := HC.out (by omega)
      obtain ⟨hc1, hc2, hc3⟩ := hc k hlt
      have hw1 := cell_stays HB.out hc1
      have hw2 := cell_stays HB.out hc2
      have hw3 := cell_stays HB.out hc3
      have hnx : atTo l (k + 1) = putM l[k].2.1 (.int .i64 (k : Nat)) (atTo l k) := by
        rw [atTo, List.getD_eq_getElem?_getD, List.getElem?_eq_getElem hlt]; rfl
      have HNX := Lib.hid hnx
      clear hc hc1 hc2 hc3 hnx
      generalize l[k] = o at *
      obtain ⟨ob, oid, otx⟩ := o
      simp only at hw1 hw2 hw3 HNX
      have hbx := HB.out.alloc hszo (.cells #[.bool ob, strV oid, strV otx] 51)
      have hm := HI.out.stays (Q.alloc wo (.cells #[.bool ob, strV oid, strV otx] 51))
      have HBX := Lib.hid hbx
      clear hbx HI HB
      go_wp2_with (at_mapUpdate; go_must (refine wpList_update_map _ (by rfl) _ _ _ 56 (by rfl) 9 3 Tryz.underlying56 Tryz.underlying9 w.heap.size (atTo l k) hm oid (.int .i64 (k : Nat)) (by rfl) (by rfl) (by rfl) ?_))
      intro w5 hm5 hg5
      have hb5 := HBX.out.grown hg5 HBX.out.size (fun x hx => by cases hx; exact Nat.le_refl _)
      rw [← HNX.out] at hm5
      have HM5 := Lib.hid hm5; have HB5 := Lib.hid hb5
      clear hm5 hg5 hb5 hm
      go_wp2_with fail
      go_roundw
      case rel => exact ⟨k + 1, by go_num, by omega, HM5, HB5⟩
      case measure => simp [intOf]; omega
    · have hke : k = l.length := by omega
      subst hke
      have hq : Q w wo := HB.out
      have HQ := Lib.hid hq
      clear hq HB
      go_wp2_with fail
      go_loopw [6, 25] (fun ov x wr => ∃ j : Nat, x = .int .i64 (j : Nat) ∧ j ≤ l.length ∧ Hid (wr.ownsRow wo.heap.size 51 3 ov (keepTo l j).length (opVs (keepTo l j))) ∧ Hid (Below wo.heap.size wo wr)) (fun _ x _ => l.length - (intOf x).toNat)
      case atStart => exact ⟨0, rfl, by omega, World.ownsRow_nil _ _ _ _, Below.refl _ _⟩
      case round =>
        obtain ⟨j, rfl, hj, HO, HB⟩ := hrel
        obtain ⟨wi, rfl⟩ : ∃ wi : World, wi = wr := ⟨_, rfl⟩
        have hszi := HB.out.size
        by_cases hjl : j < l.length
        · obtain ⟨b, off, rfl, hc⟩ := HC.out (by omega)
          obtain ⟨hc1, hc2, hc3⟩ := hc j hjl
          have hq1 := HQ.out.trans HB.out
          have hw1 := cell_stays hq1 hc1
          have hw2 := cell_stays hq1 hc2
          have hw3 := cell_stays hq1 hc3
          have hkt := keepTo_get l j hjl
          have hkl := keepTo_len l j
          obtain ⟨jj, hg1, hg2⟩ := atTo_all l j hjl
          generalize l[j] = o at *
          obtain ⟨ob, oid, otx⟩ := o
          simp only at hw1 hw2 hw3 hkt hg1 hg2
          have hm := (HI.out.stays HB.out).stays (Q.alloc wi (.cells #[.bool ob, strV oid, strV otx] 51))
          have hcu : (getM oid (atTo l l.length)).getD (.int .i64 0) = .int .i64 (jj : Nat) := by rw [hg1]; rfl
          have ho1 := HO.out.alloc (.cells #[.bool ob, strV oid, strV otx] 51)
          have hb1 := HB.out.alloc hszi (.cells #[.bool ob, strV oid, strV otx] 51)
          have hsz1 : wo.heap.size ≤ (wi.alloc (.cells #[.bool ob, strV oid, strV otx] 51)).heap.size := hb1.size
          have HB1 := Lib.hid hb1
          clear hc hc1 hc2 hc3 hq1 hb1 hg1 HO HB
          by_cases he : jj = j
          · subst he
            have hnin := hg2.1 rfl
            rw [if_neg hnin] at hkt
            have HKT := Lib.hid hkt
            clear hg2 hnin hkt
            have hone : ∀ u ∈ (#[.bool ob, strV oid, strV otx] : Array Value).toList, u.oneCell' = true := by simp [Value.oneCell']
            have hbytes : ((keepTo l jj).length + 1) * 40 ≤ 140737488355328 := by omega
            go_wp2_with (first | (at_lookup; go_must (refine wpList_lookup_val (wi.alloc (.cells #[.bool ob, strV oid, strV otx] 51)) (by rfl) _ _ 56 (by rfl) 9 3 Tryz.underlying56 Tryz.underlying9 (.int .i64 0) (zeroInt _) w.heap.size (atTo l l.length) hm oid (by rfl) (by rfl) _ hcu ?_)) | (at_builtin; go_must (refine wpList_app (wi.alloc (.cells #[.bool ob, strV oid, strV otx] 51)) (by rfl) _ _ 32 (by rfl) wo.heap.size 51 _ io (.agg #[.bool false, strV [], strV []]) 3 40 Tryz.underlying32 hio hz0 hz1 hz2 rfl (by decide) (by decide) _ _ _ (by rfl) ho1 #[.bool ob, strV oid, strV otx] (by rw [World.size_alloc]; rfl) rfl hone hbytes hsz1 ?_)))
            intro g capg W1 ho4 hg4 hat4 _ _
            have hbt := HB1.out.grown hg4 hsz1 (fun x hx => (ho1.lt x hx).1)
            have hoo : W1.ownsRow wo.heap.size 51 3 (.slice (some ⟨g, 0, none⟩) ((keepTo l jj).length + 1) capg) (keepTo l (jj + 1)).length (opVs (keepTo l (jj + 1))) := by
              rw [HKT.out, opVs_append, List.length_append]; exact ho4
            have HOO := Lib.hid hoo; have HBT := Lib.hid hbt
            clear hoo hbt ho4 hg4 hat4 ho1 hm
            go_wp2_with fail
            go_roundw
            case rel => exact ⟨jj + 1, by go_num, by omega, HOO, HBT⟩
            case measure => simp [intOf]; omega
          · have hin : oid ∈ (l.drop (j + 1)).map (fun p => p.2.1) := Classical.byContradiction fun hh => he (hg2.2 hh)
            rw [if_pos hin, List.append_nil] at hkt
            have hne : ((jj : Int) == (j : Int)) = false := by simp; omega
            have HKT := Lib.hid hkt
            have HO1 := Lib.hid ho1
            clear hg2 hin hkt ho1 he
            go_wp2_with (at_lookup; go_must (refine wpList_lookup_val (wi.alloc (.cells #[.bool ob, strV oid, strV otx] 51)) (by rfl) _ _ 56 (by rfl) 9 3 Tryz.underlying56 Tryz.underlying9 (.int .i64 0) (zeroInt _) w.heap.size (atTo l l.length) hm oid (by rfl) (by rfl) _ hcu ?_))
            go_roundw
            case rel => exact ⟨j + 1, by go_num, by omega, by show World.ownsRow _ _ _ _ _ _ _; rw [HKT.out]; exact HO1.out, HB1⟩
            case measure => simp [intOf]; omega
        · have hje : j = l.length := by omega
          subst hje
          rw [keepTo_all] at HO
          have hbe := HQ.out.trans HB.out
          have hoe := owns_low HO.out (show w.heap.size ≤ wo.heap.size from HQ.out.size)
          have HOE := Lib.hid hoe; have HBE := Lib.hid hbe
          clear hoe hbe HO HB
          go_wp2_with fail
          go_ret
          exact ⟨_, rfl, HOE.out, HBE.out⟩
end Go.Proofs.YtoabhcfmdkhmgaaGreatDoor
end

/- (WRef15a) codexref15: Op, Check, Last: walked. -/
section
namespace Go.Proofs.YtoabhcfmdkhmgaaGreatDoor
open Go.RowKit
set_option linter.unusedVariables false

set_option maxRecDepth 100000 in
set_option maxHeartbeats 4000000 in
theorem ROp_any (o : OpL) (w : World) (h1 : o.2.1.length ≤ 9223372036854775807) (h2 : o.2.2.length ≤ 9223372036854775807) :
    Calls Tryz.prog 60 #[.agg #[.bool o.1, strV o.2.1, strV o.2.2]] w fun e w' => e = .returned (.bool (opRight o)) ∧ Q w w' := by
  obtain ⟨del, id, tx⟩ := o
  simp only at h1 h2 ⊢
  have cr := fun W => RRight14_any id tx W h1 h2
  have cv := fun W => RValid_any id W h1
  have hrb : opRight (del, id, tx) = if del then (validL id && decide (1 ≤ id.length) && decide (id.length ≤ 40) && decide (tx = [])) else rightB id tx := by
    unfold opRight
    rw [← validL_D _ id (Nat.le_refl _)]
    have e1 : (!id.isEmpty) = decide (1 ≤ id.length) := by cases id <;> simp
    have e2 : tx.isEmpty = decide (tx = []) := by cases tx <;> simp
    simp only [e1, e2]
    cases del
    · rfl
    · simp only [if_true]
      cases validL id <;> simp
  have hx := heap_alloc_new w (.cells #[.bool del, strV id, strV tx] 51)
  obtain ⟨x0, x1, x2, _⟩ := Blk.c3 (show Blk _ _ _ _ from hx)
  have hq0 := Q.alloc w (.cells #[.bool del, strV id, strV tx] 51)
  have CR := Lib.hid cr; have CV := Lib.hid cv; have HRB := Lib.hid hrb; have HX1 := Lib.hid x1; have HX2 := Lib.hid x2; have HQ0 := Lib.hid hq0
  clear cr cv hrb hx hq0
  cases del with
  | false =>
    go_enter Tryz.func60, Tryz.ntmps60
    go_wp2_with fail
    refine (CR.out _).mono ?_
    rintro e w1 ⟨rfl, q1⟩
    have HQ1 := Lib.hid (HQ0.out.trans q1)
    clear q1
    go_wp2_with fail
    go_ret
    exact ⟨by rw [HRB.out]; rfl, HQ1.out⟩
  | true =>
    generalize hvl : validL id = b1 at *
    go_enter Tryz.func60, Tryz.ntmps60
    go_wp2_with fail
    refine (CV.out _).mono ?_
    rintro e w1 ⟨rfl, q1⟩
    have d1 := cell_stays q1 HX1.out
    have d2 := cell_stays q1 HX2.out
    have HQ1 := Lib.hid (HQ0.out.trans q1)
    clear q1 x0 x1 x2 hvl
    cases b1
    all_goals
      by_cases g1 : 1 ≤ id.length
      all_goals by_cases g2 : id.length ≤ 40
      all_goals by_cases g3 : tx = []
      all_goals first
        | (exfalso; omega)
        | (subst g3
           go_wp2_with fail
           go_ret
           exact ⟨ret_boolR (by rw [HRB.out]; first | (simp [*]; done) | (simp [*]; omega)), HQ1.out⟩)
        | (have heb1 : (tx == []) = false := by simpa using g3
           have heb2 : @BEq.beq (List UInt8) instBEqOfDecidableEq tx [] = false := by simpa using g3
           have heb3 : @BEq.beq (List UInt8) List.instBEq tx [] = false := by simpa using g3
           go_wp2_with fail
           go_ret
           exact ⟨ret_boolR (by rw [HRB.out]; first | (simp [*]; done) | (simp [*]; omega)), HQ1.out⟩)
def checkL (ops : List OpL) : Int := if ops.length < 1 ∨ 50 < ops.length then 6 else if ops.all opRight then 0 else 1
set_option maxRecDepth 100000 in
set_option maxHeartbeats 4000000 in
theorem RCheck_any (v : Value) (ops : List OpL) (w : World) (hv : Ops w v ops) (hn : ops.length ≤ 9223372036854775807) (hl : ∀ o ∈ ops, o.2.1.length ≤ 9223372036854775807 ∧ o.2.2.length ≤ 9223372036854775807) :
    Calls Tryz.prog 38 #[v] w fun e w' => e = .returned (.int .i64 (checkL ops)) ∧ Q w w' := by
  obtain ⟨a, cap, rfl, hcell⟩ := hv.value
  have HC := Lib.hid hcell; have HL := Lib.hid hl
  clear hcell hv hl
  by_cases h : ops.length < 1 ∨ 50 < ops.length
  · have hc : checkL ops = 6 := by unfold checkL; rw [if_pos h]
    rw [hc]
    clear hc
    by_cases h1 : ops.length < 1
    · clear h
      go_enter Tryz.func38, Tryz.ntmps38
      go_wp2_with fail
      go_ret
      exact ⟨rfl, Q.refl _⟩
    · have h5 : 50 < ops.length := by omega
      clear h
      go_enter Tryz.func38, Tryz.ntmps38
      go_wp2_with fail
      go_ret
      exact ⟨rfl, Q.refl _⟩
  · have hc : checkL ops = if ops.all opRight then 0 else 1 := by unfold checkL; rw [if_neg h]
    have HCK := Lib.hid hc
    have hl1 : 1 ≤ ops.length := by omega
    have hl5 : ops.length ≤ 50 := by omega
    clear hc h
    go_enter Tryz.func38, Tryz.ntmps38
    go_wp2_with fail
    go_loopw [3, 4] (fun i _ wr => ∃ k : Nat, k ≤ ops.length ∧ i = .int .i64 (k : Nat) ∧ Hid (∀ o ∈ ops.take k, opRight o = true) ∧ Hid (Q w wr)) (fun i _ _ => ops.length - (intOf i).toNat)
    case atStart => exact ⟨0, by omega, rfl, fun o ho => by simp at ho, Q.refl _⟩
    case round =>
      obtain ⟨k, hk, rfl, HOK, HQ⟩ := hrel
      obtain ⟨wo, rfl⟩ : ∃ wo : World, wo = wr := ⟨_, rfl⟩
      by_cases hlt : k < ops.length
      · obtain ⟨b, of, rfl, hcc⟩ := HC.out (by omega)
        obtain ⟨z0, z1, z2⟩ := hcc k hlt
        have c0 := cell_stays HQ.out z0
        have c1 := cell_stays HQ.out z1
        have c2 := cell_stays HQ.out z2
        have hki : (k : Int) < (ops.length : Int) := by omega
        have hk0 : (0 : Int) ≤ (k : Int) := by omega
        have hlen := HL.out _ (List.getElem_mem hlt)
        have cr := fun W => ROp_any ops[k] W hlen.1 hlen.2
        have hst : opRight ops[k] = true → ∀ o ∈ ops.take (k + 1), opRight o = true := fun h o ho => by
          rw [List.take_succ_eq_append_getElem hlt] at ho
          rcases List.mem_append.1 ho with ho | ho
          · exact HOK.out o ho
          · rw [List.mem_singleton] at ho; subst ho; exact h
        have hbad : opRight ops[k] = false → ops.all opRight = false := fun h => by
          rw [List.all_eq_false]
          exact ⟨_, List.getElem_mem hlt, by rw [h]; simp⟩
        clear z0 z1 z2 hcc hlen
        generalize ops[k] = x at *
        obtain ⟨del, id, tx⟩ := x
        simp only at c0 c1 c2 cr
        have CR := Lib.hid cr; have HST := Lib.hid hst; have HBAD := Lib.hid hbad
        clear cr hst hbad
        generalize opRight (del, id, tx) = ok at *
        go_wp2_with fail
        refine (CR.out _).mono ?_
        rintro e w2 ⟨rfl, q2⟩
        have HQ2 := Lib.hid (HQ.out.trans q2)
        clear q2 HQ CR c0 c1 c2
        cases ok with
        | false =>
          have hb := HBAD.out rfl
          have HB := Lib.hid hb
          clear hb
          go_wp2_with fail
          go_ret
          exact ⟨by rw [HCK.out, HB.out]; rfl, HQ2.out⟩
        | true =>
          have hs := HST.out rfl
          have HS := Lib.hid hs
          clear hs
          go_wp2_with fail
          go_roundw
          case rel => exact ⟨k + 1, by omega, by go_num, HS, HQ2⟩
          case measure => simp [intOf]; omega
      · have hke : k = ops.length := by omega
        subst hke
        have hall : ops.all opRight = true := by
          rw [List.all_eq_true]
          have := HOK.out
          rw [List.take_length] at this
          exact this
        have HALL := Lib.hid hall
        clear hall
        go_wp2_with fail
        go_ret
        exact ⟨by rw [HCK.out, HALL.out]; rfl, HQ.out⟩
theorem lastL_drop (l : List OpL) (k : Nat) (h : k < l.length) : lastL (l.drop k) = if l[k].2.1 ∈ (l.drop (k + 1)).map (fun p => p.2.1) then lastL (l.drop (k + 1)) else l[k] :: lastL (l.drop (k + 1)) := by
  rw [List.drop_eq_getElem_cons h, lastL]
set_option maxRecDepth 100000 in
set_option maxHeartbeats 4000000 in
theorem RLast_any (v : Value) (l : List OpL) (w : World) (hv : Ops w v l) (hn : l.length ≤ 1000000) :
    Calls Tryz.prog 39 #[v] w fun e w' => ∃ v', e = .returned v' ∧ w'.ownsRow w.heap.size 51 3 v' (lastL l).length (opVs (lastL l)) ∧ Q w w' := by
  obtain ⟨io, hio, hz0, hz1, hz2⟩ := info_parts tinfo51
  obtain ⟨a, cap, rfl, hcell⟩ := hv.value
  have HC := Lib.hid hcell
  clear hcell hv
  go_enter Tryz.func39, Tryz.ntmps39
  go_wp2_with fail
  go_loopw [3, 4, 5, 6] (fun ov i _ _ wr => ∃ (k : Nat) (o : List OpL), k ≤ l.length ∧ i = .int .i64 (k : Nat) ∧ o.length ≤ k ∧ Hid (lastL l = o ++ lastL (l.drop k)) ∧ Hid (wr.ownsRow w.heap.size 51 3 ov o.length (opVs o)) ∧ Hid (Q w wr)) (fun _ i _ _ _ => l.length - (intOf i).toNat)
  case atStart => exact ⟨0, [], by omega, rfl, by simp, rfl, World.ownsRow_nil _ _ _ _, Q.refl _⟩
  case round =>
    obtain ⟨k, o, hk, rfl, hol, HL, HO, HQ⟩ := hrel
    obtain ⟨wo, rfl⟩ : ∃ wo : World, wo = wr := ⟨_, rfl⟩
    by_cases hlt : k < l.length
    · obtain ⟨b, of, rfl, hcc⟩ := HC.out (by omega)
      obtain ⟨z0, z1, z2⟩ := hcc k hlt
      have hki : (k : Int) < (l.length : Int) := by omega
      have hk0 : (0 : Int) ≤ (k : Int) := by omega
      have hld := lastL_drop l k hlt
      have hin : (∀ x ∈ (l.take l.length).drop (k + 1), x.2.1 ≠ l[k].2.1) ↔ ¬ l[k].2.1 ∈ (l.drop (k + 1)).map (fun p => p.2.1) := by
        rw [List.take_length]
        constructor
        · intro h hm
          obtain ⟨x, hx, he⟩ := List.mem_map.1 hm
          exact h x hx he
        · intro h x hx he
          exact h (List.mem_map.2 ⟨x, hx, he⟩)
      have hids : ∀ j (hj : j < l.length), w.cell? ⟨b, of + j * 3 + 1, none⟩ = some (strV l[j].2.1) := fun j hj => (hcc j hj).2.1
      clear hcc
      generalize l[k] = x at *
      obtain ⟨del, id, tx⟩ := x
      simp only at z0 z1 z2 hld hin
      have Z0 := Lib.hid z0; have Z1 := Lib.hid z1; have Z2 := Lib.hid z2; have HLD := Lib.hid hld; have HIN := Lib.hid hin; have HID := Lib.hid hids
      clear z0 z1 z2 hld hin hids
      go_wp2_with fail
      go_loopw [5, 6] (fun bv j wr => ∃ (m : Nat) (bb : Bool), k + 1 ≤ m ∧ m ≤ l.length ∧ j = .int .i64 (m : Nat) ∧ bv = .bool bb ∧ Hid (bb = true ↔ ∀ x ∈ (l.take m).drop (k + 1), x.2.1 ≠ id) ∧ Hid (Q wo wr)) (fun _ j _ => l.length - (intOf j).toNat)
      case atStart => exact ⟨k + 1, true, by omega, by omega, by go_num, rfl, by show _ ↔ _; simp [List.drop_eq_nil_of_le], Q.refl _⟩
      case round =>
        obtain ⟨m, bb, hkm, hml, rfl, rfl, HBB, HQm⟩ := hrel
        obtain ⟨wm, rfl⟩ : ∃ wm : World, wm = wr := ⟨_, rfl⟩
        by_cases hlm : m < l.length
        · have e0 := cell_stays (HQ.out.trans HQm.out) (HID.out m hlm)
          have e1 := cell_stays (HQ.out.trans HQm.out) Z1.out
          have hmi : (m : Int) < (l.length : Int) := by omega
          have hmi0 : (0 : Int) ≤ (m : Int) := by omega
          have htk : (l.take (m + 1)).drop (k + 1) = (l.take m).drop (k + 1) ++ [l[m]] := by
            rw [List.take_succ_eq_append_getElem hlm, List.drop_append_of_le_length (by rw [List.length_take]; omega)]
          have hstep : (∀ x ∈ (l.take (m + 1)).drop (k + 1), x.2.1 ≠ id) ↔ (bb = true ∧ l[m].2.1 ≠ id) := by
            rw [htk, HBB.out]
            constructor
            · intro h; exact ⟨fun x hx => h x (List.mem_append_left _ hx), h _ (List.mem_append_right _ (List.mem_singleton.2 rfl))⟩
            · rintro ⟨h1, h2⟩ x hx
              rcases List.mem_append.1 hx with hx | hx
              · exact h1 x hx
              · rw [List.mem_singleton] at hx; subst hx; exact h2
          clear htk
          generalize l[m].2.1 = u at *
          have HST := Lib.hid hstep
          clear hstep
          cases bb with
          | false =>
            go_wp2_with fail
            go_quiet (fail)
            go_wp2_with fail
            go_roundw
            case rel => exact ⟨m + 1, false, by omega, by omega, by go_num, rfl, by show _ ↔ _; rw [HST.out]; simp, HQm.out.trans (Q.drewN _ _)⟩
            case measure => simp [intOf]; omega
          | true =>
            by_cases he : u = id
            · subst he
              go_wp2_with fail
              go_quiet (fail)
              go_wp2_with fail
              go_roundw
              case rel => exact ⟨m + 1, false, by omega, by omega, by go_num, rfl, by show _ ↔ _; rw [HST.out]; simp, HQm.out.trans (Q.drewN _ _)⟩
              case measure => simp [intOf]; omega
            · have heb1 : (u == id) = false := by simpa using he
              have heb2 : @BEq.beq (List UInt8) instBEqOfDecidableEq u id = false := by simpa using he
              have heb3 : @BEq.beq (List UInt8) List.instBEq u id = false := by simpa using he
              have HE := Lib.hid he
              clear he
              go_wp2_with fail
              go_quiet (fail)
              go_wp2_with fail
              go_roundw
              case rel => exact ⟨m + 1, true, by omega, by omega, by go_num, rfl, by show _ ↔ _; rw [HST.out]; simp [HE.out], HQm.out.trans (Q.drewN _ _)⟩
              case measure => simp [intOf]; omega
        · have hme : m = l.length := by omega
          subst hme
          have hbb := HBB.out.trans HIN.out
          have c0 := cell_stays (HQ.out.trans HQm.out) Z0.out
          have c1 := cell_stays (HQ.out.trans HQm.out) Z1.out
          have c2 := cell_stays (HQ.out.trans HQm.out) Z2.out
          have HQ2 := Lib.hid (HQ.out.trans HQm.out)
          have hsz : w.heap.size ≤ wm.heap.size := HQ2.out.size
          have ho := ownsRow_below HO.out HQm.out
          cases bb with
          | false =>
            have hmem : id ∈ (l.drop (k + 1)).map (fun p => p.2.1) := by
              by_cases hm : id ∈ (l.drop (k + 1)).map (fun p => p.2.1)
              · exact hm
              · exact absurd (hbb.2 hm) (by simp)
            have hl2 : lastL l = o ++ lastL (l.drop (k + 1)) := by rw [HL.out, HLD.out, if_pos hmem]
            have HL2 := Lib.hid hl2; have HO2 := Lib.hid ho
            clear hmem hl2 hbb ho
            go_wp2_with fail
            go_roundw
            case rel => exact ⟨k + 1, o, by omega, by go_num, by omega, HL2, HO2, HQ2⟩
            case measure => simp [intOf]; omega
          | true =>
            have hl2 : lastL l = (o ++ [(del, id, tx)]) ++ lastL (l.drop (k + 1)) := by rw [HL.out, HLD.out, if_neg (hbb.1 rfl)]; simp
            have HL2 := Lib.hid hl2
            clear hl2 hbb
            go_wp2_with (at_builtin; go_must (refine wpList_app wm (by rfl) _ _ 32 (by rfl) w.heap.size 51 _ io (.agg #[.bool false, strV [], strV []]) 3 40 Tryz.underlying32 hio hz0 hz1 hz2 rfl (by decide) (by decide) _ _ _ (by rfl) ho #[.bool del, strV id, strV tx] (by simp [Act.eval]) rfl ?c1 ?c2 hsz ?_))
            case c1 => simp [Value.oneCell']
            case c2 => omega
            intro g6 cap6 w6 hown6 hg6 hat6 hlt6 hsz6
            have q6 : Q w w6 := grown_below HQ2.out ho hg6 (Nat.le_refl _) (by omega)
            have hown6 : w6.ownsRow w.heap.size 51 3 (.slice (some ⟨g6, 0, none⟩) (o.length + 1) cap6) (o.length + 1) (opVs (o ++ [(del, id, tx)])) := by
              rw [opVs_append]; simpa using hown6
            have HO6 := Lib.hid hown6; have HQ6 := Lib.hid q6
            clear hown6 q6 hg6 hat6 ho c0 c1 c2
            go_wp2_with fail
            go_roundw
            case rel => exact ⟨k + 1, o ++ [(del, id, tx)], by omega, by go_num, by simp; omega, HL2, by show World.ownsRow _ _ _ _ _ _ _; rw [List.length_append]; exact HO6.out, HQ6⟩
            case measure => simp [intOf]; omega
    · have hke : k = l.length := by omega
      subst hke
      have hfin : lastL l = o := by
        have := HL.out
        rw [List.drop_length] at this
        simpa [lastL] using this
      have HF := Lib.hid hfin
      clear hfin
      go_wp2_with fail
      go_ret
      exact ⟨_, rfl, by rw [HF.out]; exact HO.out, HQ.out⟩
end Go.Proofs.YtoabhcfmdkhmgaaGreatDoor
end

/- (Live2) Plain laws of chapter 15, second part: merges, what is told of an ID, how many there are; the laws of the statements. No program in sight. -/
section
namespace Go.Proofs.YtoabhcfmdkhmgaaGreatDoor
open Go.Sort
set_option linter.unusedVariables false

theorem live_perm (ps : List PartL) (h : ((liveL ps).map (·.1)).Nodup) : (docsL ps).Perm (liveL ps) :=
  (List.perm_ext_iff_of_nodup (nodup_of_map (nodup_docsL ps h)) (nodup_of_map h)).2 (fun d => mem_docsL ps h d)
theorem many_eq (ps : List PartL) (h : ((liveL ps).map (·.1)).Nodup) : (liveM ps).length = (docsL ps).length := by
  rw [liveM_eq ps h]; exact (live_perm ps h).length_eq.symm
theorem right_of_live (ps : List PartL) (h : ∀ p ∈ ps, PartOk p) (d : DocL) (hd : d ∈ liveL ps) : rightB d.1 d.2 = true := by
  obtain ⟨p, hp, hd⟩ := List.mem_flatMap.1 hd
  exact (h p hp).1.1 d ((liveF_sub _ _ _).subset hd)
theorem docs_ok (ps : List PartL) (h : PartsOk ps) : docsOk (docsL ps) :=
  ⟨fun d hd => right_of_live ps h.1 d ((mem_docsL ps h.2 d).1 hd), nodup_docsL ps h.2⟩
theorem slice_split (ps : List PartL) (i n : Nat) (h : i ≤ n) : ps = ps.take i ++ ((ps.take n).drop i ++ ps.drop n) := by
  have h1 : (ps.take n).drop i ++ ps.drop n = ps.drop i := by
    by_cases hn : n ≤ ps.length
    · have h2 : ps.drop i = ((ps.take n) ++ ps.drop n).drop i := by rw [List.take_append_drop]
      rw [h2, List.drop_append_of_le_length (by rw [List.length_take]; omega)]
    · rw [List.drop_eq_nil_of_le (by omega : ps.length ≤ n), List.take_of_length_le (by omega : ps.length ≤ n), List.append_nil]
  rw [h1, List.take_append_drop]
theorem slice_ok (ps : List PartL) (i n : Nat) (h : PartsOk ps) : PartsOk ((ps.take n).drop i) := by
  have hs : ((ps.take n).drop i).Sublist ps := (List.drop_sublist _ _).trans (List.take_sublist _ _)
  refine ⟨fun p hp => h.1 p (hs.subset hp), (List.Sublist.map _ ?_).nodup h.2⟩
  unfold liveL
  exact sub_flatMap hs _
/-- the parts behind a merge -/
def mergedL (ps : List PartL) (i n : Nat) : List PartL := ps.take i ++ ((freshL (docsL ((ps.take n).drop i))).1 ++ ps.drop n)
theorem merged_perm (ps : List PartL) (i n : Nat) (hin : i ≤ n) (h : PartsOk ps) : (liveL (mergedL ps i n)).Perm (liveL ps) := by
  have e := slice_split ps i n hin
  unfold mergedL
  conv => rhs; rw [e]
  rw [liveL_append, liveL_append, liveL_append, liveL_append, live_fresh]
  exact List.Perm.append_left _ (List.Perm.append_right _ (live_perm _ (slice_ok ps i n h).2))
theorem merged_ok (ps : List PartL) (i n : Nat) (hin : i ≤ n) (h : PartsOk ps) (hl : (docsL ((ps.take n).drop i)).length ≤ 500) : PartsOk (mergedL ps i n) := by
  refine ⟨fun p hp => ?_, ((merged_perm ps i n hin h).map _).nodup_iff.2 h.2⟩
  unfold mergedL at hp
  rcases List.mem_append.1 hp with hp | hp
  · exact h.1 p (List.mem_of_mem_take hp)
  · rcases List.mem_append.1 hp with hp | hp
    · exact fresh_ok _ (docs_ok _ (slice_ok ps i n h)) hl p hp
    · exact h.1 p (List.mem_of_mem_drop hp)
theorem merge_ok (ps : List PartL) (a b : Int) (h : PartsOk ps) : PartsOk (mergeL ps a b).1 := by
  unfold mergeL
  split
  · exact h
  · rename_i hc
    simp only
    split
    · exact h
    · rename_i hl
      exact merged_ok ps a.toNat (b.toNat + 1) (by omega) h (by omega)
theorem merge_length (ps : List PartL) (a b : Int) : (mergeL ps a b).1.length ≤ ps.length := by
  unfold mergeL
  split
  · simp
  · rename_i hc
    simp only
    split
    · simp
    · have := fresh_length (docsL ((ps.take (b.toNat + 1)).drop a.toNat))
      simp only [List.length_append, List.length_take, List.length_drop]
      omega
theorem perm_docs (ps qs : List PartL) (h : PartsOk ps) (k : PartsOk qs) (hp : (liveL qs).Perm (liveL ps)) : docsL qs = docsL ps := docsL_ext qs ps k.2 h.2 (fun d => hp.mem_iff)
theorem merge_docs (ps : List PartL) (a b : Int) (h : PartsOk ps) : docsL (mergeL ps a b).1 = docsL ps := by
  unfold mergeL
  split
  · rfl
  · rename_i hc
    simp only
    split
    · rfl
    · rename_i hl
      exact perm_docs ps _ h (merged_ok ps a.toNat (b.toNat + 1) (by omega) h (by omega)) (merged_perm ps a.toNat (b.toNat + 1) (by omega) h)

theorem getL_iff (ps : List PartL) (h : PartsOk ps) (id t : Bytes) : getL ps id = some t ↔ (id, t) ∈ liveL ps := by
  induction ps with
  | nil => simp [getL, liveL]
  | cons p ps ih =>
    have hok := h.1 p (by simp)
    have hs : PartsOk ps := by
      refine ⟨fun q hq => h.1 q (by simp [hq]), ?_⟩
      have := h.2
      rw [liveL, List.flatMap_cons, List.map_append, List.nodup_append] at this
      exact this.2.1
    have hdis : ∀ t1 t2, (id, t1) ∈ liveOf p → (id, t2) ∈ liveL ps → False := by
      intro t1 t2 h1 h2
      have := h.2
      rw [liveL, List.flatMap_cons, List.map_append, List.nodup_append] at this
      exact this.2.2 _ (List.mem_map.2 ⟨_, h1, rfl⟩) _ (List.mem_map.2 ⟨_, h2, rfl⟩) rfl
    have hcons : (id, t) ∈ liveL (p :: ps) ↔ (id, t) ∈ liveOf p ∨ (id, t) ∈ liveL ps := by
      rw [liveL, List.flatMap_cons, List.mem_append]; rfl
    have hlive : ∀ t, (id, t) ∈ liveOf p ↔ ∃ i, p.1[i]? = some (id, t) ∧ bit p.2 (0 + i) = false := fun t => mem_liveF _ _ _ _
    rw [hcons, getL]
    cases hf : findL p.1 id with
    | none =>
      simp only
      rw [ih hs]
      constructor
      · exact Or.inr
      · rintro (h1 | h1)
        · obtain ⟨i, h2, _⟩ := (hlive t).1 h1
          exact absurd (List.mem_map.2 ⟨_, List.mem_of_getElem? h2, rfl⟩) (findL_none _ _ hf)
        · exact h1
    | some k =>
      obtain ⟨d, hd, hid⟩ := findL_some _ _ _ hf
      have hone : ∀ i t, p.1[i]? = some (id, t) → i = k ∧ t = d.2 := by
        intro i t hi
        have e : i = k := at_one hok.1.2 hi hd hid.symm
        subst e
        rw [hd] at hi
        cases hi
        exact ⟨rfl, rfl⟩
      have hdd : d = (id, d.2) := by rw [← hid]
      simp only
      cases hb : bit p.2 k with
      | true =>
        rw [if_pos rfl, ih hs]
        constructor
        · exact Or.inr
        · rintro (h1 | h1)
          · obtain ⟨i, h2, h3⟩ := (hlive t).1 h1
            obtain ⟨e, _⟩ := hone i t h2
            rw [Nat.zero_add, e, hb] at h3; cases h3
          · exact h1
      | false =>
        have hin : (id, d.2) ∈ liveOf p := (hlive _).2 ⟨k, by rw [hd, ← hdd], by rw [Nat.zero_add]; exact hb⟩
        have hg : p.1.getD k ([], []) = d := by rw [List.getD_eq_getElem?_getD, hd]; rfl
        rw [if_neg (by simp), hg]
        constructor
        · intro e; cases e; exact .inl hin
        · rintro (h1 | h1)
          · obtain ⟨i, h2, h3⟩ := (hlive t).1 h1
            rw [(hone i t h2).2]
          · exact (hdis _ _ hin h1).elim
theorem getL_ext (ps qs : List PartL) (h : PartsOk ps) (k : PartsOk qs) (id id' : Bytes) (hm : ∀ t, (id, t) ∈ liveL ps ↔ (id', t) ∈ liveL qs) : getL ps id = getL qs id' := by
  cases h1 : getL ps id with
  | some t => exact ((getL_iff qs k id' t).2 ((hm t).1 ((getL_iff ps h id t).1 h1))).symm
  | none =>
    cases h2 : getL qs id' with
    | none => rfl
    | some t =>
      have := (getL_iff ps h id t).2 ((hm t).2 ((getL_iff qs k id' t).1 h2))
      rw [h1] at this; cases this
theorem getL_docs (ps qs : List PartL) (h : PartsOk ps) (k : PartsOk qs) (e : docsL ps = docsL qs) (id : Bytes) : getL ps id = getL qs id :=
  getL_ext ps qs h k id id (fun t => by rw [← mem_docsL ps h.2, ← mem_docsL qs k.2, e])
theorem many_docs (ps qs : List PartL) (h : PartsOk ps) (k : PartsOk qs) (e : docsL ps = docsL qs) : (liveM ps).length = (liveM qs).length := by
  rw [many_eq ps h.2, many_eq qs k.2, e]

/-! ### the laws -/
theorem apply_err (ps qs : List PartL) (ops : List OpL) : (applyL ps ops).2 = (applyL qs ops).2 := by
  unfold applyL
  split
  · rfl
  · split <;> rfl
theorem twice_docs (ps : List PartL) (ops : List OpL) (h : PartsOk ps) : docsL (applyL (applyL ps ops).1 ops).1 = docsL (applyL ps ops).1 := by
  have h1 := apply_ok ps ops h
  have h2 := apply_ok _ ops h1
  by_cases hl : ops.length < 1 ∨ 50 < ops.length
  · have : ∀ qs, (applyL qs ops).1 = qs := fun qs => by unfold applyL; rw [if_pos hl]
    rw [this]
  · by_cases hr : ops.all opRight = true
    · have e : ∀ qs, (applyL qs ops).1 = goneAll (idsL ops) qs ++ (freshL (moreL ops)).1 := fun qs => by unfold applyL; rw [if_neg hl, if_pos hr]
      refine docsL_ext _ _ h2.2 h1.2 (fun d => ?_)
      rw [e (applyL ps ops).1, mem_apply _ _ h1.1, e ps, mem_apply _ _ h.1]
      constructor
      · rintro (⟨a, b⟩ | a)
        · exact a
        · exact .inr a
      · rintro (⟨a, b⟩ | a)
        · exact .inl ⟨.inl ⟨a, b⟩, b⟩
        · exact .inr a
    · have : ∀ qs, (applyL qs ops).1 = qs := fun qs => by unfold applyL; rw [if_neg hl, if_neg hr]
      rw [this]
theorem lastL_append (a b : List OpL) (h : ∀ x ∈ a, ∀ y ∈ b, x.2.1 ≠ y.2.1) : lastL (a ++ b) = lastL a ++ lastL b := by
  induction a with
  | nil => rfl
  | cons o a ih =>
    have ih' := ih (fun x hx y hy => h x (by simp [hx]) y hy)
    rw [List.cons_append, lastL, lastL, ih']
    have hb : o.2.1 ∉ b.map (fun p => p.2.1) := by
      intro hm
      obtain ⟨y, hy, e⟩ := List.mem_map.1 hm
      exact h o (by simp) y hy e.symm
    by_cases ha : o.2.1 ∈ a.map (fun p => p.2.1)
    · rw [if_pos ha, if_pos (by rw [List.map_append]; exact List.mem_append_left _ ha)]
    · rw [if_neg ha, if_neg (by rw [List.map_append, List.mem_append]; exact fun e => e.elim ha hb)]; rfl
theorem mem_apply' (ps : List PartL) (ops : List OpL) (h : ∀ p ∈ ps, PartOk p) (he : (applyL ps ops).2.2 = 0) (d : DocL) :
    d ∈ liveL (applyL ps ops).1 ↔ (d ∈ liveL ps ∧ d.1 ∉ ops.map (fun o => o.2.1)) ∨ d ∈ moreL ops := by
  unfold applyL at he ⊢
  split at he
  · cases he
  · rename_i hl
    rw [if_neg hl]
    split at he
    · rename_i hr
      rw [if_pos hr, mem_apply _ _ h, lastL_ids]
    · cases he
theorem more_in (l : List OpL) (d : DocL) (h : d ∈ moreL l) : d.1 ∈ l.map (fun o => o.2.1) :=
  (lastL_ids l d.1).1 ((more_ids l).subset (List.mem_map.2 ⟨d, h, rfl⟩))
theorem apply_ok_of (ps : List PartL) (ops : List OpL) : (applyL ps ops).2.2 = 0 ↔ ¬ (ops.length < 1 ∨ 50 < ops.length) ∧ ops.all opRight = true := by
  unfold applyL
  split
  · simp_all
  · split
    · simp_all
    · simp_all
theorem swaps_docs (ps : List PartL) (a b : List OpL) (h : PartsOk ps) (ea : (applyL ps a).2.2 = 0) (eb : (applyL ps b).2.2 = 0) (hd : ∀ x ∈ a, ∀ y ∈ b, x.2.1 ≠ y.2.1) :
    docsL (applyL (applyL ps a).1 b).1 = docsL (applyL (applyL ps b).1 a).1 ∧
      (50 < a.length + b.length → (applyL ps (a ++ b)).2.2 = 6) ∧ (¬ 50 < a.length + b.length → (applyL ps (a ++ b)).2.2 = 0 ∧ docsL (applyL ps (a ++ b)).1 = docsL (applyL (applyL ps a).1 b).1) := by
  have oa := apply_ok ps a h
  have ob := apply_ok ps b h
  have oab := apply_ok _ b oa
  have oba := apply_ok _ a ob
  have eab : (applyL (applyL ps a).1 b).2.2 = 0 := by rw [apply_err _ ps]; exact eb
  have eba : (applyL (applyL ps b).1 a).2.2 = 0 := by rw [apply_err _ ps]; exact ea
  have na : ∀ d, d ∈ moreL a → d.1 ∉ b.map (fun o => o.2.1) := by
    intro d h1 h2
    obtain ⟨x, hx, e1⟩ := List.mem_map.1 (more_in a d h1)
    obtain ⟨y, hy, e2⟩ := List.mem_map.1 h2
    exact hd x hx y hy (e1.trans e2.symm)
  have nb : ∀ d, d ∈ moreL b → d.1 ∉ a.map (fun o => o.2.1) := by
    intro d h1 h2
    obtain ⟨x, hx, e1⟩ := List.mem_map.1 (more_in b d h1)
    obtain ⟨y, hy, e2⟩ := List.mem_map.1 h2
    exact hd y hy x hx (e2.trans e1.symm)
  have m1 : ∀ d, d ∈ liveL (applyL (applyL ps a).1 b).1 ↔ (d ∈ liveL ps ∧ d.1 ∉ a.map (fun o => o.2.1) ∧ d.1 ∉ b.map (fun o => o.2.1)) ∨ d ∈ moreL a ∨ d ∈ moreL b := by
    intro d
    rw [mem_apply' _ _ oa.1 eab, mem_apply' _ _ h.1 ea]
    constructor
    · rintro (⟨⟨x, y⟩ | x, z⟩ | x)
      · exact .inl ⟨x, y, z⟩
      · exact .inr (.inl x)
      · exact .inr (.inr x)
    · rintro (⟨x, y, z⟩ | x | x)
      · exact .inl ⟨.inl ⟨x, y⟩, z⟩
      · exact .inl ⟨.inr x, na d x⟩
      · exact .inr x
  have m2 : ∀ d, d ∈ liveL (applyL (applyL ps b).1 a).1 ↔ (d ∈ liveL ps ∧ d.1 ∉ a.map (fun o => o.2.1) ∧ d.1 ∉ b.map (fun o => o.2.1)) ∨ d ∈ moreL a ∨ d ∈ moreL b := by
    intro d
    rw [mem_apply' _ _ ob.1 eba, mem_apply' _ _ h.1 eb]
    constructor
    · rintro (⟨⟨x, y⟩ | x, z⟩ | x)
      · exact .inl ⟨x, z, y⟩
      · exact .inr (.inr x)
      · exact .inr (.inl x)
    · rintro (⟨x, y, z⟩ | x | x)
      · exact .inl ⟨.inl ⟨x, z⟩, y⟩
      · exact .inr x
      · exact .inl ⟨.inr x, nb d x⟩
  refine ⟨docsL_ext _ _ oab.2 oba.2 (fun d => by rw [m1, m2]), fun hl => ?_, fun hl => ?_⟩
  · unfold applyL; rw [if_pos (by right; simpa using hl)]
  · have ha := (apply_ok_of ps a).1 ea
    have hb := (apply_ok_of ps b).1 eb
    have eab' : (applyL ps (a ++ b)).2.2 = 0 := (apply_ok_of ps (a ++ b)).2 ⟨by rw [List.length_append]; omega, by rw [List.all_append, ha.2, hb.2]; rfl⟩
    refine ⟨eab', docsL_ext _ _ (apply_ok ps (a ++ b) h).2 oab.2 (fun d => ?_)⟩
    rw [m1, mem_apply' _ _ h.1 eab']
    have hm : moreL (a ++ b) = moreL a ++ moreL b := by unfold moreL; rw [lastL_append a b hd, List.filter_append, List.map_append]
    rw [hm, List.map_append, List.mem_append, List.mem_append, not_or]
/-- behind a bulk: what is told of an ID -/
theorem says_other (ps : List PartL) (ops : List OpL) (h : PartsOk ps) (he : (applyL ps ops).2.2 = 0) (id : Bytes) (hid : id ∉ ops.map (fun o => o.2.1)) : getL (applyL ps ops).1 id = getL ps id :=
  getL_ext _ _ (apply_ok ps ops h) h id id (fun t => by
    rw [mem_apply' _ _ h.1 he]
    constructor
    · rintro (⟨a, _⟩ | a)
      · exact a
      · exact absurd (more_in ops _ a) hid
    · exact fun a => .inl ⟨a, hid⟩)
theorem lastL_snoc (a : List OpL) (o : OpL) (b : List OpL) (hb : o.2.1 ∉ b.map (fun p => p.2.1)) : o ∈ lastL (a ++ o :: b) := by
  induction a with
  | nil => rw [List.nil_append, lastL, if_neg hb]; simp
  | cons x a ih =>
    rw [List.cons_append, lastL]
    split
    · exact ih
    · exact List.mem_cons_of_mem _ ih
theorem says_last (ps : List PartL) (a : List OpL) (o : OpL) (b : List OpL) (h : PartsOk ps) (he : (applyL ps (a ++ o :: b)).2.2 = 0) (hb : o.2.1 ∉ b.map (fun p => p.2.1)) :
    getL (applyL ps (a ++ o :: b)).1 o.2.1 = if o.1 then none else some o.2.2 := by
  have hin := lastL_snoc a o b hb
  have hone : ∀ d, d ∈ moreL (a ++ o :: b) → d.1 = o.2.1 → o.1 = false ∧ d = o.2 := by
    intro d hd e
    unfold moreL at hd
    obtain ⟨x, hx, rfl⟩ := List.mem_map.1 hd
    rw [List.mem_filter] at hx
    obtain ⟨i, hi⟩ := List.getElem?_of_mem hx.1
    obtain ⟨j, hj⟩ := List.getElem?_of_mem hin
    have hn := lastL_nodup (a ++ o :: b)
    unfold idsL at hn
    have h1 : ((lastL (a ++ o :: b)).map (fun o => o.2.1))[i]? = some o.2.1 := by simp [hi, e]
    have h2 : ((lastL (a ++ o :: b)).map (fun o => o.2.1))[j]? = some o.2.1 := by simp [hj]
    obtain ⟨a1, b1⟩ := List.getElem?_eq_some_iff.1 h1
    obtain ⟨a2, b2⟩ := List.getElem?_eq_some_iff.1 h2
    have : i = j := (List.getElem_inj hn).1 (b1.trans b2.symm)
    subst this
    rw [hi] at hj
    cases hj
    exact ⟨by simpa using hx.2, rfl⟩
  have hmem : o.2.1 ∈ (a ++ o :: b).map (fun o => o.2.1) := by simp
  cases hg : getL (applyL ps (a ++ o :: b)).1 o.2.1 with
  | none =>
    cases hd : o.1 with
    | true => rfl
    | false =>
      have : (o.2.1, o.2.2) ∈ liveL (applyL ps (a ++ o :: b)).1 := (mem_apply' _ _ h.1 he _).2 (.inr (by
        unfold moreL
        exact List.mem_map.2 ⟨o, List.mem_filter.2 ⟨hin, by simp [hd]⟩, rfl⟩))
      rw [← getL_iff _ (apply_ok ps _ h), hg] at this
      cases this
  | some t =>
    have := (mem_apply' _ _ h.1 he _).1 ((getL_iff _ (apply_ok ps _ h) _ _).1 hg)
    rcases this with ⟨_, h2⟩ | h2
    · exact absurd hmem h2
    · obtain ⟨h3, h4⟩ := hone _ h2 rfl
      rw [h3, ← h4]; simp
/-- one document deleted -/
theorem delete_one (ps : List PartL) (d : DocL) (h : PartsOk ps) (hd : d ∈ liveL ps) : (applyL ps [(true, (d.1, []))]).2 = ([], 0) ∧ (applyL ps [(true, (d.1, []))]).1.length = ps.length ∧
    ∀ x, x ∈ liveL (applyL ps [(true, (d.1, []))]).1 ↔ x ∈ liveL ps ∧ x.1 ≠ d.1 := by
  have hr := right_of_live ps h.1 d hd
  have ho : opRight (true, (d.1, [])) = true := by
    unfold rightB at hr
    simp only [Bool.and_eq_true] at hr
    simp [opRight, hr.1.1.1.1, hr.1.1.1.2, hr.1.2]
  have hm : moreL [(true, (d.1, []))] = [] := rfl
  have hi : idsL [(true, (d.1, []))] = [d.1] := rfl
  have e : applyL ps [(true, (d.1, []))] = (goneAll [d.1] ps ++ [], [], 0) := by
    unfold applyL
    rw [if_neg (by simp), if_pos (by simp [ho]), hm, hi]; rfl
  rw [e]
  refine ⟨rfl, by simp [goneAll_length], fun x => ?_⟩
  simp only [List.append_nil]
  rw [mem_goneAll _ _ h.1]
  simp
theorem delete_many (ps : List PartL) (d : DocL) (h : PartsOk ps) (hd : d ∈ liveL ps) : (liveM (applyL ps [(true, (d.1, []))]).1).length + 1 = (liveM ps).length := by
  have ho := apply_ok ps [(true, (d.1, []))] h
  obtain ⟨_, _, hm⟩ := delete_one ps d h hd
  rw [liveM_eq _ ho.2, liveM_eq _ h.2]
  have hp : (d :: liveL (applyL ps [(true, (d.1, []))]).1).Perm (liveL ps) := by
    have hn : (d :: liveL (applyL ps [(true, (d.1, []))]).1).Nodup := List.nodup_cons.2 ⟨fun hx => ((hm d).1 hx).2 rfl, nodup_of_map ho.2⟩
    refine (List.perm_ext_iff_of_nodup hn (nodup_of_map h.2)).2 (fun x => ?_)
    rw [List.mem_cons, hm]
    constructor
    · rintro (e | ⟨a, _⟩)
      · rw [e]; exact hd
      · exact a
    · intro hx
      by_cases e : x.1 = d.1
      · left
        have g1 := (getM_mem x.1 x.2 _ h.2).2 hx
        have g2 := (getM_mem d.1 d.2 _ h.2).2 hd
        rw [e, g2] at g1
        exact Prod.ext e (Option.some.inj g1).symm
      · exact .inr ⟨hx, e⟩
  exact hp.length_eq
theorem docs_nil (ps : List PartL) (h : PartsOk ps) (e : (liveM ps).length = 0) : docsL ps = [] := List.eq_nil_of_length_eq_zero (by rw [← many_eq ps h.2]; exact e)
/-- all parts together -/
theorem merge_all (ps : List PartL) (h : PartsOk ps) (hn : 2 ≤ ps.length) : mergeL ps 0 ((ps.length : Int) - 1) = if 500 < (docsL ps).length then (ps, [], 6) else ((freshL (docsL ps)).1, (freshL (docsL ps)).2, 0) := by
  have e : ((ps.length : Int) - 1).toNat + 1 = ps.length := by omega
  unfold mergeL
  rw [if_neg (by omega), e]
  simp
end Go.Proofs.YtoabhcfmdkhmgaaGreatDoor
end
