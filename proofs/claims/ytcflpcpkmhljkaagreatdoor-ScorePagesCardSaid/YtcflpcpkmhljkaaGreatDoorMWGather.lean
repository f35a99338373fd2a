/- Joined texts of one proof: WGather. -/
import Derived.Test.YtcflpcpkmhljkaaGreatDoorMWDictPToWRead
import Derived.Test.YtcflpcpkmhljkaaGreatDoorMWUtfToWRune
import Derived.Test.YtcflpcpkmhljkaaGreatDoorMMapsToLive
set_option linter.unusedSimpArgs false
set_option linter.unusedVariables false
set_option linter.unnecessarySimpa false
/- (WGather) segment.gather: walked. -/
section
namespace Go.Proofs.YtcflpcpkmhljkaaGreatDoor
open Go.RowKit
set_option linter.unusedVariables false

/-- the entries of a map of IDs, behind k documents -/
def entK (l : List DocL) : Nat → List (Bytes × Value)
  | 0 => []
  | k + 1 => putM (l.getD k ([], [])).1 (.int .i64 k) (entK l k)
theorem entK_keys (l : List DocL) (k : Nat) (hk : k ≤ l.length) : (∀ id, id ∈ (entK l k).map (·.1) ↔ id ∈ (l.take k).map (·.1)) ∧ (entK l k).length ≤ k ∧ ((entK l k).length = k ↔ ((l.take k).map (·.1)).Nodup) := by
  induction k with
  | zero => simp [entK]
  | succ k ih =>
    obtain ⟨h1, h2, h3⟩ := ih (by omega)
    have hlt : k < l.length := by omega
    have hg : l.getD k ([], []) = l[k] := by rw [List.getD_eq_getElem?_getD, List.getElem?_eq_getElem hlt]; rfl
    have ht : l.take (k + 1) = l.take k ++ [l[k]] := by rw [List.take_succ_eq_append_getElem hlt]
    have hkeys := keys_put l[k].1 (Value.int .i64 k) (entK l k)
    have hlen : (entK l (k + 1)).length = ((entK l (k + 1)).map (·.1)).length := by simp
    have hlen0 : ((entK l k).map (·.1)).length = (entK l k).length := by simp
    rw [entK, hg] at *
    by_cases hm : l[k].1 ∈ (entK l k).map (·.1)
    · rw [if_pos hm] at hkeys
      rw [hkeys, hlen0] at hlen
      refine ⟨fun id => ?_, by omega, ?_⟩
      · rw [hkeys, h1, ht, List.map_append, List.mem_append]
        constructor
        · exact Or.inl
        · rintro (e | e)
          · exact e
          · simp at e; rw [e]; exact (h1 _).1 hm
      · constructor
        · intro e; omega
        · intro hn
          rw [ht, List.map_append, List.nodup_append] at hn
          exact absurd rfl (hn.2.2 _ ((h1 _).1 hm) _ (by simp))
    · rw [if_neg hm] at hkeys
      rw [hkeys, List.length_append, hlen0] at hlen
      simp only [List.length_cons, List.length_nil] at hlen
      refine ⟨fun id => ?_, by omega, ?_⟩
      · rw [hkeys, List.mem_append, h1, ht, List.map_append, List.mem_append]; simp
      · rw [hlen, ht, List.map_append, List.nodup_append]
        constructor
        · intro e
          refine ⟨h3.1 (by omega), by simp, ?_⟩
          intro a ha b hb e
          simp at hb
          subst hb; subst e
          exact hm ((h1 _).2 ha)
        · intro hn
          have := h3.2 hn.1
          omega
theorem entK_get (l : List DocL) (hn : (l.map (·.1)).Nodup) (k : Nat) (hk : k ≤ l.length) (id : Bytes) : getM id (entK l k) = ((findL (l.take k) id).map fun i => Value.int .i64 (i : Nat)) := by
  induction k with
  | zero => simp [entK, getM, findL]
  | succ k ih =>
    have hlt : k < l.length := by omega
    have hg : l.getD k ([], []) = l[k] := by rw [List.getD_eq_getElem?_getD, List.getElem?_eq_getElem hlt]; rfl
    have ht : l.take (k + 1) = l.take k ++ [l[k]] := by rw [List.take_succ_eq_append_getElem hlt]
    rw [entK, hg, get_put, ih (by omega)]
    by_cases h : l[k].1 = id
    · rw [if_pos h]
      have hn1 : ((l.take (k + 1)).map (·.1)).Nodup := by rw [List.map_take]; exact hn.sublist (List.take_sublist _ _)
      have := findL_of (l.take (k + 1)) hn1 k l[k] (by rw [List.getElem?_take]; simp [hlt])
      rw [h] at this
      rw [this]; rfl
    · rw [if_neg h, ht]
      unfold findL
      rw [List.findIdx?_append]
      have : List.findIdx? (fun d : DocL => d.1 == id) [l[k]] = none := by simp [List.findIdx?_cons, h]
      rw [this]; simp

def GatherP (l : List DocL) (lv : Value) (w : World) (e : Ending) (w' : World) : Prop :=
  Q w w' ∧ (((∀ d ∈ l, rightB d.1 d.2 = true) ∧ ∃ b, e = .returned (.tuple #[.agg #[lv, .map (some b)], .bool (decide ((l.map (·.1)).Nodup))]) ∧ MapS w' b (entK l l.length)) ∨
    ((¬ ∀ d ∈ l, rightB d.1 d.2 = true) ∧ ∃ b, e = .returned (.tuple #[.agg #[lv, .map (some b)], .bool false])))

theorem docVs_at (l : List DocL) (k : Nat) (h : k < l.length) : (docVs l)[k * 2]? = some (strV l[k].1) ∧ (docVs l)[k * 2 + 1]? = some (strV l[k].2) := by
  induction l generalizing k with
  | nil => simp at h
  | cons d l ih =>
    have e : docVs (d :: l) = strV d.1 :: strV d.2 :: docVs l := by simp [docVs]
    cases k with
    | zero => rw [e]; exact ⟨rfl, rfl⟩
    | succ k =>
      have := ih k (by simpa using h)
      rw [e, show (k + 1) * 2 = k * 2 + 1 + 1 by omega]
      exact this
theorem Docs.value {w : World} {v : Value} {l : List DocL} (h : Docs w v l) : ∃ a cap, v = .slice a l.length cap ∧ (0 < l.length → ∃ b off, a = some ⟨b, off, none⟩ ∧ ∀ j (hj : j < l.length), w.cell? ⟨b, off + j * 2, none⟩ = some (strV l[j].1) ∧ w.cell? ⟨b, off + j * 2 + 1, none⟩ = some (strV l[j].2)) := by
  obtain ⟨_, a, cap, h2, h3⟩ := h
  refine ⟨a, cap, h2, fun hn => ?_⟩
  obtain ⟨b, off, h4, h5⟩ := h3 hn
  exact ⟨b, off, h4, fun j hj => ⟨h5 _ _ (docVs_at l j hj).1, by rw [Nat.add_assoc]; exact h5 _ _ (docVs_at l j hj).2⟩⟩
theorem block_stays {w w' : World} (hb : Q w w') {k : Nat} {o : Obj} (h : w.heap[k]? = some o) : w'.heap[k]? = some o := (hb.block k (Array.getElem?_eq_some_iff.1 h).1).trans h

theorem res2 {W : World} {B : Nat} {x y : Value} {T : TypeId} (h : W.heap[B]? = some (.cells #[x, y] T (0, 0))) (u v : Value) :
    (W.setCell ⟨B, 0, none⟩ u).cell? ⟨B, 0, none⟩ = some u ∧ ((W.setCell ⟨B, 0, none⟩ u).setCell ⟨B, 1, none⟩ v).cell? ⟨B, 1, none⟩ = some v ∧ ((W.setCell ⟨B, 0, none⟩ u).setCell ⟨B, 1, none⟩ v).cell? ⟨B, 0, none⟩ = some u := by
  simp [World.cell?, World.setCell, Array.getElem?_modify, h]

set_option maxRecDepth 100000 in
set_option maxHeartbeats 1000000 in
theorem gather_any (lv : Value) (l : List DocL) (w : World) (hv : Docs w lv l) (hn : l.length ≤ 1000000) (hl : ∀ d ∈ l, d.1.length ≤ 9223372036854775807 ∧ d.2.length ≤ 9223372036854775807) (hT : Tabs w) :
    Calls Tryz.prog 134 #[lv] w (GatherP l lv w) := by
  obtain ⟨a, cap, rfl, hcell⟩ := hv.value
  have HC := Lib.hid hcell; have HL := Lib.hid hl; have HT := Lib.hid hT; clear hcell hv hl hT
  have hmm := @run_makeMap Tryz.prog
  go_enter Tryz.func134, Tryz.ntmps134
  go_wp2_with fail
  go_loopw [12] (fun i wr => ∃ k : Nat, k ≤ l.length ∧ i = .int .i64 k ∧ Hid (∀ j (h : j < l.length), j < k → rightB l[j].1 l[j].2 = true) ∧ Hid (MapS wr (w.heap.size + 1) (entK l k)) ∧ Hid (Below w.heap.size w wr) ∧
      Hid (wr.heap[w.heap.size]? = some (.cells #[.slice none 0 0, .map none] 91 (0, 0))) ∧ Hid (wr.heap[w.heap.size + 2]? = some (.cells #[.slice a l.length cap, .map (some (w.heap.size + 1))] 91 (0, 0)))) (fun i _ => l.length - (intOf i).toNat)
  case atStart =>
    refine ⟨0, by omega, rfl, fun j h hj => by omega, ?_, (((Below.refl _ _).alloc (Nat.le_refl _) _).alloc (by simp) _).alloc (by simp; omega) _, ?_, ?_⟩
    · have := MapS.made (w.alloc (.cells #[.slice none 0 0, .map none] 91))
      simp only [World.size_alloc] at this
      exact this.same (Below.heap_alloc _ _ _ (by simp))
    · show _ = _
      rw [Below.heap_alloc _ _ _ (by simp; omega), Below.heap_alloc _ _ _ (by simp), heap_alloc_new]
    · show _ = _
      have := heap_alloc_new ((w.alloc (.cells #[.slice none 0 0, .map none] 91)).alloc (.map #[] 0)) (.cells #[.slice a l.length cap, .map (some (w.heap.size + 1))] 91)
      simpa using this
  case round =>
    obtain ⟨k, hk, rfl, HG, HM, HB, H0, H2⟩ := hrel
    obtain ⟨wo, rfl⟩ : ∃ wo : World, wo = wr := ⟨_, rfl⟩
    have hlt2 := (Array.getElem?_eq_some_iff.1 H2.out).1
    have c2a : wo.cell? ⟨w.heap.size + 2, 0, none⟩ = some (.slice a l.length cap) := by simp [World.cell?, H2.out]
    have c2b : wo.cell? ⟨w.heap.size + 2, 1, none⟩ = some (.map (some (w.heap.size + 1))) := by simp [World.cell?, H2.out]
    have c0a : wo.cell? ⟨w.heap.size, 0, none⟩ = some (.slice none 0 0) := by simp [World.cell?, H0.out]
    have c0b : wo.cell? ⟨w.heap.size, 1, none⟩ = some (.map none) := by simp [World.cell?, H0.out]
    have f0a : wo.frozen? ⟨w.heap.size, 0, none⟩ = false := by simp [World.frozen?, H0.out]
    have f0b : wo.frozen? ⟨w.heap.size, 1, none⟩ = false := by simp [World.frozen?, H0.out]
    by_cases hlt : k < l.length
    · obtain ⟨b, off, rfl, hc⟩ := HC.out (by omega)
      obtain ⟨hc1, hc2⟩ := hc k hlt
      have hw1 := cell_stays HB.out hc1
      have hw2 := cell_stays HB.out hc2
      have hlen := HL.out _ (List.getElem_mem hlt)
      have hgd : (l.getD k ([], [])).1 = l[k].1 := by rw [List.getD_eq_getElem?_getD, List.getElem?_eq_getElem hlt]; rfl
      have HGD := Lib.hid hgd
      clear hc hc1 hc2 hgd
      have hx := fun (h : ∀ d ∈ l, rightB d.1 d.2 = true) => h _ (List.getElem_mem hlt)
      have hg2 : rightB l[k].1 l[k].2 = true → ∀ j (h : j < l.length), j < k + 1 → rightB l[j].1 l[j].2 = true := fun h1 j h hj => by
        rcases Nat.lt_or_ge j k with h2 | h2
        · exact HG.out j h h2
        · have : j = k := by omega
          subst this; exact h1
      generalize l[k] = d at *
      obtain ⟨id, tx⟩ := d
      simp only at hw1 hw2 hlen hx hg2 HGD
      have HX := Lib.hid hx; have HG2 := Lib.hid hg2; clear hx hg2
      have hT1 : Tabs (wo.alloc (.cells #[.string ⟨id.toArray⟩, .string ⟨tx.toArray⟩] 63)) := (HT.out.stays HB.out).stays (Q.alloc _ _)
      have c := Right_any id tx _ hlen.1 hlen.2 hT1
      have C := Lib.hid c; clear c hT1
      have HLT := Lib.hid hlt2; clear hlt2
      go_wp2_with fail
      refine C.out.mono ?_
      rintro e w1 ⟨rfl, q1⟩
      have hq : Q wo w1 := (Q.alloc _ _).trans q1
      have d1 : w1.cell? ⟨wo.heap.size, 0, none⟩ = some (.string ⟨id.toArray⟩) := cell_stays q1 (by simp only [World.cell?, heap_alloc_new]; rfl)
      have d2a := cell_stays hq c2a
      have d2b := cell_stays hq c2b
      have d0a := cell_stays hq c0a
      have d0b := cell_stays hq c0b
      have g0a : w1.frozen? ⟨w.heap.size, 0, none⟩ = false := by have := block_stays hq H0.out; simp [World.frozen?, this]
      have g0b : w1.frozen? ⟨w.heap.size, 1, none⟩ = false := by have := block_stays hq H0.out; simp [World.frozen?, this]
      have HQ := Lib.hid hq
      clear q1 hq c2a c2b c0a c0b f0a f0b
      cases hr : rightB id tx with
      | false =>
        have HR := Lib.hid hr; clear hr
        go_wp2_with fail
        obtain ⟨r1, r2, r3⟩ := res2 (block_stays HQ.out H0.out) (.slice (some ⟨b, off, none⟩) l.length cap) (.map (some (w.heap.size + 1)))
        refine bodyPost_ret (v := .tuple #[.agg #[.slice (some ⟨b, off, none⟩) l.length cap, .map (some (w.heap.size + 1))], .bool false]) ?_ rfl ?_
        · simp [results, Tryz.results134, go_sem, r1, r2]
        · exact ⟨(HB.out.trans (Below.mono HQ.out HB.out.size)).setCell (by simp) _ |>.setCell (by simp) _, .inr ⟨fun h => (by have := HX.out h; rw [HR.out] at this; cases this), _, rfl⟩⟩
      | true =>
        have HR := Lib.hid hr; clear hr
        have hm1 : MapS w1 (w.heap.size + 1) (entK l k) := HM.out.stays HQ.out
        have HM1 := Lib.hid hm1
        clear HM
        go_wp2_with (at_mapUpdate; go_must (refine wpList_update_map w1 (by rfl) _ _ _ 84 (by rfl) 9 3 Tryz.underlying84 Tryz.underlying9 (w.heap.size + 1) (entK l k) hm1 id (.int .i64 k) (by rfl) (by rfl) (by rfl) ?_))
        intro w2 hm2 hg2
        have hB2 : Below w.heap.size w w2 := (HB.out.trans (Below.mono HQ.out HB.out.size)).grown hg2 (by have := HB.out.size; have := HQ.out.size; omega) (fun j hj => by cases hj; omega)
        have e0 := (hg2.block w.heap.size (by have := HQ.out.size; have := HLT.out; omega) (by simp)).trans (block_stays HQ.out H0.out)
        have e2 := (hg2.block (w.heap.size + 2) (by have := HQ.out.size; have := HLT.out; omega) (by simp)).trans (block_stays HQ.out H2.out)
        have hme : MapS w2 (w.heap.size + 1) (entK l (k + 1)) := by rw [entK, HGD.out]; exact hm2
        have HE0 := Lib.hid e0; have HE2 := Lib.hid e2; have HME := Lib.hid hme; have HB2 := Lib.hid hB2
        clear e0 e2 hme hB2 hm2 hg2 hm1
        go_wp2_with fail
        go_roundw
        case rel => exact ⟨k + 1, by omega, by go_num, HG2.out HR.out, HME, HB2, HE0, HE2⟩
        case measure => simp [intOf]; omega
    · have hkk : k = l.length := by omega
      subst hkk
      obtain ⟨h1, h2, h3⟩ := entK_keys l l.length (Nat.le_refl _)
      rw [List.take_length] at h3
      have H3 := Lib.hid h3; clear h1 h2 h3
      have hm1 := HM.out
      go_wp2_with (at_len; refine wpList_len_map wo (by rfl) _ 84 (by rfl) 9 3 Tryz.underlying84 (w.heap.size + 1) (entK l l.length) hm1 (by rfl) ?_)
      obtain ⟨r1, r2, r3⟩ := res2 H0.out (.slice a l.length cap) (.map (some (w.heap.size + 1)))
      refine bodyPost_ret (v := .tuple #[.agg #[.slice a l.length cap, .map (some (w.heap.size + 1))], .bool (decide ((l.map (·.1)).Nodup))]) ?_ rfl ?_
      · have hb : (((entK l l.length).length : Int) == (l.length : Int)) = decide ((l.map (·.1)).Nodup) := by
          rw [Bool.eq_iff_iff, decide_eq_true_eq, ← H3.out]; simp; omega
        simp [results, Tryz.results134, go_sem, r1, r2, hb]
      · exact ⟨HB.out.setCell (by simp) _ |>.setCell (by simp) _, .inl ⟨fun d hd => by
          obtain ⟨j, hj, e⟩ := List.getElem_of_mem hd
          rw [← e]; exact HG.out j hj hj, _, rfl, (HM.out.same (by rw [Below.heap_setCell _ _ _ _ (by simp), Below.heap_setCell _ _ _ _ (by simp)]))⟩⟩
end Go.Proofs.YtcflpcpkmhljkaaGreatDoor
end
