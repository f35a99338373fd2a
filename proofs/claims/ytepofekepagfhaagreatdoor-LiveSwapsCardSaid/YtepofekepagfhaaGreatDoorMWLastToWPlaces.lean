/- Joined texts of one proof: WLast, Plc, BitA, WPlaces. -/
import Derived.Test.YtepofekepagfhaaGreatDoorMWLiveRToWFresh
import Derived.Test.YtepofekepagfhaaGreatDoorMWIndexToWTexts2
import Derived.Test.YtepofekepagfhaaGreatDoorMLive
import Derived.Test.YtepofekepagfhaaGreatDoorProg
import Derived.Test.YtepofekepagfhaaGreatDoorMMapsToBase3
import Derived.WalkKit
import Derived.WalkSpells
import Derived.WalkLawsBesides
set_option linter.unusedSimpArgs false
set_option linter.unusedVariables false
set_option linter.unnecessarySimpa false
/- (WLast) live.Last: walked. -/
section
namespace Go.Proofs.YtepofekepagfhaaGreatDoor
open Go.RowKit
set_option linter.unusedVariables false

/-! ### plain -/
def atTo (l : List OpL) : Nat → List (Bytes × Value)
  | 0 => []
  | k + 1 => putM (l.getD k (false, ([], []))).2.1 (.int .i64 (k : Nat)) (atTo l k)
def keepTo (l : List OpL) : Nat → List OpL
  | 0 => []
  | k + 1 => keepTo l k ++ (if (l.getD k (false, ([], []))).2.1 ∈ (l.drop (k + 1)).map (fun p => p.2.1) then [] else [l.getD k (false, ([], []))])
theorem keepTo_last (l : List OpL) (k : Nat) (h : k ≤ l.length) : lastL l = keepTo l k ++ lastL (l.drop k) := by
  induction k with
  | zero => simp [keepTo]
  | succ k ih =>
    have hlt : k < l.length := by omega
    rw [ih (by omega), keepTo, List.drop_eq_getElem_cons hlt, lastL, List.getD_eq_getElem?_getD, List.getElem?_eq_getElem hlt]
    simp only [Option.getD_some]
    split <;> simp
theorem keepTo_all (l : List OpL) : keepTo l l.length = lastL l := by
  have := keepTo_last l l.length (Nat.le_refl _)
  simpa [lastL] using this.symm
/-- the last place of an ID among the first n ops -/
theorem atTo_get (l : List OpL) (n : Nat) (hn : n ≤ l.length) (k : Nat) (hk : k < n) :
    ∃ j, getM (l.getD k (false, ([], []))).2.1 (atTo l n) = some (.int .i64 (j : Nat)) ∧ k ≤ j ∧ j < n ∧ (j = k ↔ (l.getD k (false, ([], []))).2.1 ∉ ((l.take n).drop (k + 1)).map (fun p => p.2.1)) := by
  induction n with
  | zero => omega
  | succ n ih =>
    have hlt : n < l.length := by omega
    rw [atTo, get_put]
    have ht : (l.take (n + 1)) = l.take n ++ [l[n]] := List.take_succ_eq_append_getElem hlt
    have hgn : l.getD n (false, ([], [])) = l[n] := by rw [List.getD_eq_getElem?_getD, List.getElem?_eq_getElem hlt]; rfl
    by_cases hkn : k = n
    · subst hkn
      rw [if_pos rfl]
      refine ⟨k, rfl, Nat.le_refl _, by omega, ?_⟩
      have : (l.take (k + 1)).drop (k + 1) = [] := by rw [List.drop_eq_nil_iff]; simp; omega
      rw [this]; simp
    · obtain ⟨j, h1, h2, h3, h4⟩ := ih (by omega) (by omega)
      have hd : (l.take (n + 1)).drop (k + 1) = (l.take n).drop (k + 1) ++ [l[n]] := by
        rw [ht, List.drop_append_of_le_length (by rw [List.length_take]; omega)]
      by_cases he : (l.getD n (false, ([], []))).2.1 = (l.getD k (false, ([], []))).2.1
      · rw [if_pos he]
        refine ⟨n, rfl, by omega, by omega, ?_⟩
        rw [hd, List.map_append, List.mem_append, ← he, hgn]
        simp; omega
      · rw [if_neg he]
        refine ⟨j, h1, h2, by omega, ?_⟩
        rw [hd, List.map_append, List.mem_append, h4]
        rw [hgn] at he
        rw [List.map_singleton, List.mem_singleton, not_or]
        exact ⟨fun h => ⟨h, fun e => he e.symm⟩, fun h => h.1⟩
theorem atTo_len (l : List OpL) (k : Nat) : (atTo l k).length ≤ k := by
  induction k with
  | zero => simp [atTo]
  | succ k ih => rw [atTo]; have := putM_length (l.getD k (false, ([], []))).2.1 (Value.int .i64 (k : Nat)) (atTo l k); omega
theorem keepTo_len (l : List OpL) (k : Nat) : (keepTo l k).length ≤ k := by
  induction k with
  | zero => simp [keepTo]
  | succ k ih => rw [keepTo, List.length_append]; split <;> simp <;> omega
abbrev opVs (l : List OpL) : List Value := l.flatMap fun o => [.bool o.1, strV o.2.1, strV o.2.2]
theorem opVs_append (l : List OpL) (d : OpL) : opVs (l ++ [d]) = opVs l ++ [.bool d.1, strV d.2.1, strV d.2.2] := by simp [opVs]
theorem opVs_at (l : List OpL) (k : Nat) (h : k < l.length) : (opVs l)[k * 3]? = some (.bool l[k].1) ∧ (opVs l)[k * 3 + 1]? = some (strV l[k].2.1) ∧ (opVs l)[k * 3 + 2]? = some (strV l[k].2.2) := by
  induction l generalizing k with
  | nil => simp at h
  | cons d l ih =>
    have e : opVs (d :: l) = .bool d.1 :: strV d.2.1 :: strV d.2.2 :: opVs l := by simp [opVs]
    cases k with
    | zero => rw [e]; exact ⟨rfl, rfl, rfl⟩
    | succ k =>
      have := ih k (by simpa using h)
      rw [e, show (k + 1) * 3 = k * 3 + 1 + 1 + 1 by omega]
      exact this
def Ops (w : World) (v : Value) (l : List OpL) : Prop := Sl w v l.length 3 (opVs l)
theorem Ops.stays {w w' : World} {v : Value} {l : List OpL} (h : Ops w v l) (hb : Q w w') : Ops w' v l := Sl.stays h hb
theorem Ops.value {w : World} {v : Value} {l : List OpL} (h : Ops w v l) : ∃ a cap, v = .slice a l.length cap ∧ (0 < l.length → ∃ b off, a = some ⟨b, off, none⟩ ∧
    ∀ k (hk : k < l.length), w.cell? ⟨b, off + k * 3, none⟩ = some (.bool l[k].1) ∧ w.cell? ⟨b, off + k * 3 + 1, none⟩ = some (strV l[k].2.1) ∧ w.cell? ⟨b, off + k * 3 + 2, none⟩ = some (strV l[k].2.2)) := by
  obtain ⟨_, a, cap, h2, h3⟩ := h
  refine ⟨a, cap, h2, fun hn => ?_⟩
  obtain ⟨b, off, h4, h5⟩ := h3 hn
  refine ⟨b, off, h4, fun k hk => ?_⟩
  obtain ⟨e0, e1, e2⟩ := opVs_at l k hk
  exact ⟨h5 _ _ e0, h5 _ _ e1, h5 _ _ e2⟩
theorem tinfo42 : (Tryz.prog.info? 42).map (fun i => (i.zero, i.size, i.bytes)) = some (some (.agg #[.bool false, strV [], strV []]), 3, 40) := by kernel_rfl
theorem keepTo_get (l : List OpL) (k : Nat) (h : k < l.length) : keepTo l (k + 1) = keepTo l k ++ (if l[k].2.1 ∈ (l.drop (k + 1)).map (fun p => p.2.1) then [] else [l[k]]) := by
  rw [keepTo, List.getD_eq_getElem?_getD, List.getElem?_eq_getElem h]; rfl
theorem atTo_all (l : List OpL) (k : Nat) (h : k < l.length) :
    ∃ j : Nat, getM l[k].2.1 (atTo l l.length) = some (.int .i64 (j : Nat)) ∧ (j = k ↔ l[k].2.1 ∉ (l.drop (k + 1)).map (fun p => p.2.1)) := by
  obtain ⟨j, h1, _, _, h4⟩ := atTo_get l l.length (Nat.le_refl _) k h
  rw [List.getD_eq_getElem?_getD, List.getElem?_eq_getElem h, List.take_length] at *
  exact ⟨j, h1, h4⟩
theorem owns_low {w : World} {base base' : Nat} {e : TypeId} {size : Nat} {v : Value} {n : Nat} {xs : List Value} (h : w.ownsRow base e size v n xs) (hb : base' ≤ base) : w.ownsRow base' e size v n xs := by
  obtain ⟨h1, h2⟩ := h
  refine ⟨h1, ?_⟩
  rcases h2 with h2 | ⟨g, cap, cur, rfl, hb2, hg, rest⟩
  · exact .inl h2
  · exact .inr ⟨g, cap, cur, rfl, Nat.le_trans hb hb2, hg, rest⟩
set_option maxRecDepth 100000 in
set_option maxHeartbeats 4000000 in
theorem Last_any (v : Value) (l : List OpL) (w : World) (hv : Ops w v l) (hn : l.length ≤ 1000000) :
    Calls Tryz.prog 60 #[v] w fun e w' => ∃ v', e = .returned v' ∧ w'.ownsRow w.heap.size 42 3 v' (lastL l).length (opVs (lastL l)) ∧ Q w w' := by
  obtain ⟨io, hio, hz0, hz1, hz2⟩ := info_parts tinfo42
  obtain ⟨a, cap, rfl, hcell⟩ := hv.value
  have HC := Lib.hid hcell
  clear hv hcell
  have hmm := @run_makeMap Tryz.prog
  go_enter Tryz.func60, Tryz.ntmps60
  go_wp2_with fail
  have h0 : MapS (w.alloc (.map #[] 0)) w.heap.size (atTo l 0) := MapS.made w
  have hb0 : Below w.heap.size w (w.alloc (.map #[] 0)) := (Below.refl _ w).alloc (Nat.le_refl _) _
  have H0 := Lib.hid h0; have HB0 := Lib.hid hb0; clear h0 hb0
  go_loopw [12] (fun i wr => ∃ k : Nat, i = .int .i64 (k : Nat) ∧ k ≤ l.length ∧ Hid (MapS wr w.heap.size (atTo l k)) ∧ Hid (Below w.heap.size w wr)) (fun i _ => l.length - (intOf i).toNat)
  case atStart => exact ⟨0, rfl, by omega, H0, HB0⟩
  case round =>
    obtain ⟨k, rfl, hk, HI, HB⟩ := hrel
    obtain ⟨wo, rfl⟩ : ∃ wo : World, wo = wr := ⟨_, rfl⟩
    have hszo := HB.out.size
    by_cases hlt : k < l.length
    · obtain ⟨b, off, rfl, hc⟩ := HC.out (by omega)
      obtain ⟨hc1, hc2, hc3⟩ := hc k hlt
      have hw1 := cell_stays HB.out hc1
      have hw2 := cell_stays HB.out hc2
      have hw3 := cell_stays HB.out hc3
      have hnx : atTo l (k + 1) = putM l[k].2.1 (.int .i64 (k : Nat)) (atTo l k) := by
        rw [atTo, List.getD_eq_getElem?_getD, List.getElem?_eq_getElem hlt]; rfl
      have HNX := Lib.hid hnx
      clear hc hc1 hc2 hc3 hnx
      generalize l[k] = o at *
      obtain ⟨ob, oid, otx⟩ := o
      simp only at hw1 hw2 hw3 HNX
      have hbx := HB.out.alloc hszo (.cells #[.bool ob, strV oid, strV otx] 42)
      have hm := HI.out.stays (Q.alloc wo (.cells #[.bool ob, strV oid, strV otx] 42))
      have HBX := Lib.hid hbx
      clear hbx HI HB
      go_wp2_with (at_mapUpdate; go_must (refine wpList_update_map _ (by rfl) _ _ _ 76 (by rfl) 9 3 Tryz.underlying76 Tryz.underlying9 w.heap.size (atTo l k) hm oid (.int .i64 (k : Nat)) (by rfl) (by rfl) (by rfl) ?_))
      intro w5 hm5 hg5
      have hb5 := HBX.out.grown hg5 HBX.out.size (fun x hx => by cases hx; exact Nat.le_refl _)
      rw [← HNX.out] at hm5
      have HM5 := Lib.hid hm5; have HB5 := Lib.hid hb5
      clear hm5 hg5 hb5 hm
      go_wp2_with fail
      go_roundw
      case rel => exact ⟨k + 1, by go_num, by omega, HM5, HB5⟩
      case measure => simp [intOf]; omega
    · have hke : k = l.length := by omega
      subst hke
      have hq : Q w wo := HB.out
      have HQ := Lib.hid hq
      clear hq HB
      go_wp2_with fail
      go_loopw [6, 25] (fun ov x wr => ∃ j : Nat, x = .int .i64 (j : Nat) ∧ j ≤ l.length ∧ Hid (wr.ownsRow wo.heap.size 42 3 ov (keepTo l j).length (opVs (keepTo l j))) ∧ Hid (Below wo.heap.size wo wr)) (fun _ x _ => l.length - (intOf x).toNat)
      case atStart => exact ⟨0, rfl, by omega, World.ownsRow_nil _ _ _ _, Below.refl _ _⟩
      case round =>
        obtain ⟨j, rfl, hj, HO, HB⟩ := hrel
        obtain ⟨wi, rfl⟩ : ∃ wi : World, wi = wr := ⟨_, rfl⟩
        have hszi := HB.out.size
        by_cases hjl : j < l.length
        · obtain ⟨b, off, rfl, hc⟩ := HC.out (by omega)
          obtain ⟨hc1, hc2, hc3⟩ := hc j hjl
          have hq1 := HQ.out.trans HB.out
          have hw1 := cell_stays hq1 hc1
          have hw2 := cell_stays hq1 hc2
          have hw3 := cell_stays hq1 hc3
          have hkt := keepTo_get l j hjl
          have hkl := keepTo_len l j
          obtain ⟨jj, hg1, hg2⟩ := atTo_all l j hjl
          generalize l[j] = o at *
          obtain ⟨ob, oid, otx⟩ := o
          simp only at hw1 hw2 hw3 hkt hg1 hg2
          have hm := (HI.out.stays HB.out).stays (Q.alloc wi (.cells #[.bool ob, strV oid, strV otx] 42))
          have hcu : (getM oid (atTo l l.length)).getD (.int .i64 0) = .int .i64 (jj : Nat) := by rw [hg1]; rfl
          have ho1 := HO.out.alloc (.cells #[.bool ob, strV oid, strV otx] 42)
          have hb1 := HB.out.alloc hszi (.cells #[.bool ob, strV oid, strV otx] 42)
          have hsz1 : wo.heap.size ≤ (wi.alloc (.cells #[.bool ob, strV oid, strV otx] 42)).heap.size := hb1.size
          have HB1 := Lib.hid hb1
          clear hc hc1 hc2 hc3 hq1 hb1 hg1 HO HB
          by_cases he : jj = j
          · subst he
            have hnin := hg2.1 rfl
            rw [if_neg hnin] at hkt
            have HKT := Lib.hid hkt
            clear hg2 hnin hkt
            have hone : ∀ u ∈ (#[.bool ob, strV oid, strV otx] : Array Value).toList, u.oneCell' = true := by simp [Value.oneCell']
            have hbytes : ((keepTo l jj).length + 1) * 40 ≤ 140737488355328 := by omega
            go_wp2_with (first | (at_lookup; go_must (refine wpList_lookup_val (wi.alloc (.cells #[.bool ob, strV oid, strV otx] 42)) (by rfl) _ _ 76 (by rfl) 9 3 Tryz.underlying76 Tryz.underlying9 (.int .i64 0) (zeroInt _) w.heap.size (atTo l l.length) hm oid (by rfl) (by rfl) _ hcu ?_)) | (at_builtin; go_must (refine wpList_app (wi.alloc (.cells #[.bool ob, strV oid, strV otx] 42)) (by rfl) _ _ 23 (by rfl) wo.heap.size 42 _ io (.agg #[.bool false, strV [], strV []]) 3 40 Tryz.underlying23 hio hz0 hz1 hz2 rfl (by decide) (by decide) _ _ _ (by rfl) ho1 #[.bool ob, strV oid, strV otx] (by rw [World.size_alloc]; rfl) rfl hone hbytes hsz1 ?_)))
            intro g capg W1 ho4 hg4 hat4 _ _
            have hbt := HB1.out.grown hg4 hsz1 (fun x hx => (ho1.lt x hx).1)
            have hoo : W1.ownsRow wo.heap.size 42 3 (.slice (some ⟨g, 0, none⟩) ((keepTo l jj).length + 1) capg) (keepTo l (jj + 1)).length (opVs (keepTo l (jj + 1))) := by
              rw [HKT.out, opVs_append, List.length_append]; exact ho4
            have HOO := Lib.hid hoo; have HBT := Lib.hid hbt
            clear hoo hbt ho4 hg4 hat4 ho1 hm
            go_wp2_with fail
            go_roundw
            case rel => exact ⟨jj + 1, by go_num, by omega, HOO, HBT⟩
            case measure => simp [intOf]; omega
          · have hin : oid ∈ (l.drop (j + 1)).map (fun p => p.2.1) := Classical.byContradiction fun hh => he (hg2.2 hh)
            rw [if_pos hin, List.append_nil] at hkt
            have hne : ((jj : Int) == (j : Int)) = false := by simp; omega
            have HKT := Lib.hid hkt
            have HO1 := Lib.hid ho1
            clear hg2 hin hkt ho1 he
            go_wp2_with (at_lookup; go_must (refine wpList_lookup_val (wi.alloc (.cells #[.bool ob, strV oid, strV otx] 42)) (by rfl) _ _ 76 (by rfl) 9 3 Tryz.underlying76 Tryz.underlying9 (.int .i64 0) (zeroInt _) w.heap.size (atTo l l.length) hm oid (by rfl) (by rfl) _ hcu ?_))
            go_roundw
            case rel => exact ⟨j + 1, by go_num, by omega, by show World.ownsRow _ _ _ _ _ _ _; rw [HKT.out]; exact HO1.out, HB1⟩
            case measure => simp [intOf]; omega
        · have hje : j = l.length := by omega
          subst hje
          rw [keepTo_all] at HO
          have hbe := HQ.out.trans HB.out
          have hoe := owns_low HO.out (show w.heap.size ≤ wo.heap.size from HQ.out.size)
          have HOE := Lib.hid hoe; have HBE := Lib.hid hbe
          clear hoe hbe HO HB
          go_wp2_with fail
          go_ret
          exact ⟨_, rfl, HOE.out, HBE.out⟩
end Go.Proofs.YtepofekepagfhaaGreatDoor
end

/- (Plc) Plain: where the live documents of parts stand (live.places, live.docs). No program in sight. -/
section
namespace Go.Proofs.YtepofekepagfhaaGreatDoor
set_option linter.unusedVariables false

abbrev PlL := List (Bytes × (Nat × Nat))
def plIn (p : PartL) (i : Nat) (m : PlL) : Nat → PlL
  | 0 => m
  | k + 1 => if bit p.2 k then plIn p i m k else putM (p.1.getD k ([], [])).1 (i, k) (plIn p i m k)
def plTo (ps : List PartL) : Nat → PlL
  | 0 => []
  | i + 1 => plIn (ps.getD i ([], [])) i (plTo ps i) (ps.getD i ([], [])).1.length
def plAll (ps : List PartL) : PlL := plTo ps ps.length
def docAt (ps : List PartL) (a : Nat × Nat) : DocL := (ps.getD a.1 ([], [])).1.getD a.2 ([], [])
theorem putM_mapP {α β : Type} (f : α → β) (k : Bytes) (v : α) (m : List (Bytes × α)) : (putM k v m).map (fun x => (x.1, f x.2)) = putM k (f v) (m.map (fun x => (x.1, f x.2))) := by
  induction m with
  | nil => rfl
  | cons x m ih =>
    by_cases h : x.1 = k
    · simp [putM, h]
    · simp only [putM, h, if_false, List.map_cons, ih]
theorem mem_put {α : Type} (k : Bytes) (v : α) (m : List (Bytes × α)) (x : Bytes × α) (h : x ∈ putM k v m) : x = (k, v) ∨ x ∈ m := by
  induction m with
  | nil => simpa [putM] using h
  | cons y m ih =>
    by_cases hy : y.1 = k
    · simp only [putM, hy, if_true, List.mem_cons] at h
      rcases h with h | h
      · exact .inl h
      · exact .inr (List.mem_cons_of_mem _ h)
    · simp only [putM, hy, if_false, List.mem_cons] at h
      rcases h with h | h
      · exact .inr (by rw [h]; exact List.mem_cons_self)
      · exact (ih h).imp id (List.mem_cons_of_mem _)
theorem liveF_snoc (g : Bytes) (l : List DocL) (d : DocL) (k : Nat) : liveF g (l ++ [d]) k = liveF g l k ++ (if bit g (k + l.length) then [] else [d]) := by
  induction l generalizing k with
  | nil => simp only [List.nil_append, liveF, List.length_nil, Nat.add_zero]
  | cons x l ih =>
    rw [List.cons_append, liveF, liveF, ih, List.length_cons, show k + 1 + l.length = k + (l.length + 1) by omega]
    by_cases hb : bit g k = true
    · simp only [hb, if_true]
    · simp only [hb, if_false, List.cons_append]; rfl
/-- each entry stands where it says -/
def PlOk (ps : List PartL) (n k : Nat) (m : PlL) : Prop := ∀ x ∈ m, (x.2.1 < n ∨ x.2.1 = n ∧ x.2.2 < k) ∧ x.2.2 < (ps.getD x.2.1 ([], [])).1.length ∧ (docAt ps x.2).1 = x.1
theorem plIn_ok (ps : List PartL) (i : Nat) (m : PlL) (h : PlOk ps i 0 m) (k : Nat) (hk : k ≤ (ps.getD i ([], [])).1.length) : PlOk ps i k (plIn (ps.getD i ([], [])) i m k) := by
  induction k with
  | zero => exact h
  | succ k ih =>
    have ih := ih (by omega)
    unfold plIn
    split
    · intro x hx
      obtain ⟨a, b, c⟩ := ih x hx
      exact ⟨by omega, b, c⟩
    · intro x hx
      rcases mem_put _ _ _ _ hx with rfl | hx
      · exact ⟨.inr ⟨rfl, by simp⟩, by simp only; omega, rfl⟩
      · obtain ⟨a, b, c⟩ := ih x hx
        exact ⟨by omega, b, c⟩
theorem plTo_ok (ps : List PartL) (n : Nat) : PlOk ps n 0 (plTo ps n) := by
  induction n with
  | zero => intro x hx; cases hx
  | succ n ih =>
    intro x hx
    obtain ⟨a, b, c⟩ := plIn_ok ps n _ ih _ (Nat.le_refl _) x hx
    exact ⟨by omega, b, c⟩
abbrev textsM (ps : List PartL) (m : PlL) : List DocL := m.map fun x => (x.1, (docAt ps x.2).2)
theorem plIn_texts (ps : List PartL) (i : Nat) (m : PlL) (k : Nat) (hk : k ≤ (ps.getD i ([], [])).1.length) :
    textsM ps (plIn (ps.getD i ([], [])) i m k) = (liveF (ps.getD i ([], [])).2 ((ps.getD i ([], [])).1.take k) 0).foldl (fun m d => putM d.1 d.2 m) (textsM ps m) := by
  induction k with
  | zero => simp [plIn, liveF]
  | succ k ih =>
    have hlt : k < (ps.getD i ([], [])).1.length := by omega
    rw [List.take_succ_eq_append_getElem hlt, liveF_snoc, List.foldl_append, ← ih (by omega), List.length_take, Nat.min_eq_left (by omega), Nat.zero_add, plIn]
    by_cases hb : bit (ps.getD i ([], [])).2 k = true
    · rw [if_pos hb, if_pos hb]; rfl
    · rw [if_neg hb, if_neg hb]
      unfold textsM
      rw [putM_mapP (fun a : Nat × Nat => (docAt ps a).2)]
      have e : (ps.getD i ([], [])).1.getD k ([], []) = (ps.getD i ([], [])).1[k] := by rw [List.getD_eq_getElem?_getD, List.getElem?_eq_getElem hlt]; rfl
      simp only [docAt, e, List.foldl_cons, List.foldl_nil]
theorem plTo_texts (ps : List PartL) (n : Nat) (hn : n ≤ ps.length) : textsM ps (plTo ps n) = liveM (ps.take n) := by
  induction n with
  | zero => rfl
  | succ n ih =>
    have hlt : n < ps.length := by omega
    have e : ps.getD n ([], []) = ps[n] := by rw [List.getD_eq_getElem?_getD, List.getElem?_eq_getElem hlt]; rfl
    rw [plTo, plIn_texts _ _ _ _ (Nat.le_refl _), ih (by omega), List.take_length, List.take_succ_eq_append_getElem hlt]
    unfold liveM
    rw [liveL_append, List.foldl_append, e]
    simp [liveL, liveOf]
theorem plAll_texts (ps : List PartL) : textsM ps (plAll ps) = liveM ps := by
  have := plTo_texts ps ps.length (Nat.le_refl _)
  rwa [List.take_length] at this
theorem plAll_length (ps : List PartL) : (plAll ps).length = (liveM ps).length := by rw [← plAll_texts]; simp
theorem plAll_keys (ps : List PartL) : (plAll ps).map (·.1) = (liveM ps).map (·.1) := by
  rw [← plAll_texts, List.map_map]; rfl
theorem getM_mapP {α β : Type} (f : α → β) (k : Bytes) (m : List (Bytes × α)) : getM k (m.map (fun x => (x.1, f x.2))) = (getM k m).map f := by
  induction m with
  | nil => rfl
  | cons x m ih =>
    by_cases h : x.1 = k
    · simp [getM, h]
    · simp [getM, h, ih]
theorem getM_in {α : Type} (k : Bytes) (v : α) (m : List (Bytes × α)) (h : getM k m = some v) : (k, v) ∈ m := by
  induction m with
  | nil => cases h
  | cons x m ih =>
    by_cases hx : x.1 = k
    · simp only [getM, hx, if_true, Option.some.injEq] at h
      rw [← hx, ← h]; exact List.mem_cons_self
    · simp only [getM, hx, if_false] at h
      exact List.mem_cons_of_mem _ (ih h)
/-- the documents by their IDs: where they stand -/
theorem docsL_places (ps : List PartL) : docsL ps = (((plAll ps).map (·.1)).mergeSort leB).map fun id => docAt ps ((getM id (plAll ps)).getD (0, 0)) := by
  unfold docsL
  rw [plAll_keys]
  refine List.map_congr_left fun id hid => ?_
  have hin : id ∈ (liveM ps).map (·.1) := by simpa using hid
  rw [← plAll_keys] at hin
  have hs := getM_some id (plAll ps)
  rw [decide_eq_true hin] at hs
  obtain ⟨a, ha⟩ := Option.isSome_iff_exists.1 hs
  have hok := (plTo_ok ps ps.length (id, a) (getM_in _ _ _ ha)).2.2
  rw [← plAll_texts, getM_mapP (fun a : Nat × Nat => (docAt ps a).2), ha]
  simp only [Option.map_some, Option.getD_some]
  exact Prod.ext hok.symm rfl
theorem plAll_get (ps : List PartL) (id : Bytes) (hin : id ∈ (plAll ps).map (·.1)) : ∃ a, getM id (plAll ps) = some a ∧ a.1 < ps.length ∧ a.2 < (ps.getD a.1 ([], [])).1.length := by
  have hs := getM_some id (plAll ps)
  rw [decide_eq_true hin] at hs
  obtain ⟨a, ha⟩ := Option.isSome_iff_exists.1 hs
  obtain ⟨h1, h2, _⟩ := plTo_ok ps ps.length (id, a) (getM_in _ _ _ ha)
  exact ⟨a, ha, by simp only at h1; omega, h2⟩
theorem plIn_length (p : PartL) (i : Nat) (m : PlL) (k : Nat) : (plIn p i m k).length ≤ m.length + k := by
  induction k with
  | zero => exact Nat.le_refl _
  | succ k ih =>
    unfold plIn
    split
    · omega
    · have : ∀ (a : Bytes) (v : Nat × Nat) (m : PlL), (putM a v m).length ≤ m.length + 1 := by
        intro a v m
        induction m with
        | nil => simp [putM]
        | cons x m ih => by_cases h : x.1 = a <;> simp [putM, h]; omega
      have := this (p.1.getD k ([], [])).1 (i, k) (plIn p i m k)
      omega
end Go.Proofs.YtepofekepagfhaaGreatDoor
end

/- (BitA) trial -/
section
namespace Go.Proofs.YtepofekepagfhaaGreatDoor
open Go.RowKit

set_option maxHeartbeats 400000 in
theorem get_pos (l : List UInt8) (i : Int) (w : World) (hs : l.length ≤ 9223372036854775807) (hi : 0 ≤ i) (hi3 : i ≤ 9223372036854775807) (hi2 : i / 8 < l.length) :
    Calls Tryz.prog 69 #[.string ⟨l.toArray⟩, .int .i64 i] w fun e w' => e = .returned (.bool (bitI l i)) ∧ w = w' := by
  go_enter Tryz.func69, Tryz.ntmps69
  go_wp2
  go_ret
  refine ⟨?_, rfl⟩
  rw [bitI_in l i hi (by omega), ← walk_bit _ _ (UInt8.toNat_lt _)]
  rfl

set_option maxHeartbeats 400000 in
theorem get_neg (l : List UInt8) (i : Int) (w : World) (hs : l.length ≤ 9223372036854775807) (hi : i < 0) :
    Calls Tryz.prog 69 #[.string ⟨l.toArray⟩, .int .i64 i] w fun e w' => e = .returned (.bool (bitI l i)) ∧ w = w' := by
  have h := bitI_neg l i hi
  have H := Lib.hid h; clear h
  go_enter Tryz.func69, Tryz.ntmps69
  go_wp2
  go_ret
  exact ⟨by rw [H.out]; rfl, rfl⟩

set_option maxHeartbeats 400000 in
theorem get_ge (l : List UInt8) (i : Int) (w : World) (hs : l.length ≤ 9223372036854775807) (hi : 0 ≤ i) (hi3 : i ≤ 9223372036854775807) (hi2 : l.length ≤ i / 8) :
    Calls Tryz.prog 69 #[.string ⟨l.toArray⟩, .int .i64 i] w fun e w' => e = .returned (.bool (bitI l i)) ∧ w = w' := by
  have h := bitI_ge l i (by omega)
  have H := Lib.hid h; clear h
  go_enter Tryz.func69, Tryz.ntmps69
  go_wp2
  go_ret
  exact ⟨by rw [H.out]; rfl, rfl⟩

theorem get_any (l : List UInt8) (i : Int) (w : World) (hs : l.length ≤ 9223372036854775807) (hi3 : i ≤ 9223372036854775807) :
    Calls Tryz.prog 69 #[.string ⟨l.toArray⟩, .int .i64 i] w fun e w' => e = .returned (.bool (bitI l i)) ∧ w = w' := by
  by_cases h : i < 0
  · exact get_neg l i w hs h
  · by_cases h2 : i / 8 < l.length
    · exact get_pos l i w hs (by omega) hi3 h2
    · exact get_ge l i w hs (by omega) hi3 (by omega)
end Go.Proofs.YtepofekepagfhaaGreatDoor
end

/- (WPlaces) live.places: walked. -/
section
namespace Go.Proofs.YtepofekepagfhaaGreatDoor
open Go.RowKit
set_option linter.unusedVariables false

abbrev plVal (a : Nat × Nat) : Value := .agg #[.int .i64 (a.1 : Nat), .int .i64 (a.2 : Nat)]
def plV (m : PlL) : List (Bytes × Value) := m.map fun x => (x.1, plVal x.2)
theorem plV_put (k : Bytes) (a : Nat × Nat) (m : PlL) : plV (putM k a m) = putM k (plVal a) (plV m) := putM_mapP plVal k a m
theorem plV_get (k : Bytes) (m : PlL) : getM k (plV m) = (getM k m).map plVal := getM_mapP plVal k m
/-- parts in memory -/
def PartsAt (w : World) (v : Value) (ps : List PartL) : Prop :=
  (∃ rs : List PartR, Parts0 w v rs ∧ rs.map (·.2) = ps.map (·.2) ∧ ∀ (i : Nat) (r : PartR) (p : PartL), rs[i]? = some r → ps[i]? = some p → SegAt w r.1 p.1 (idxS p.1)) ∧ ∀ a n cap, v = .slice a n cap → n ≤ cap
theorem PartsAt.stays {w w' : World} {v : Value} {ps : List PartL} (h : PartsAt w v ps) (q : Q w w') : PartsAt w' v ps := by
  obtain ⟨⟨rs, h1, h2, h3⟩, h4⟩ := h
  exact ⟨⟨rs, Sl.stays h1 q, h2, fun i r p hr hp => (h3 i r p hr hp).stays q⟩, h4⟩
theorem partVs_at (l : List PartR) (k : Nat) (h : k < l.length) : (partVs l)[k * 2]? = some (.pointer (some ⟨l[k].1, 0, none⟩)) ∧ (partVs l)[k * 2 + 1]? = some (strV l[k].2) := by
  induction l generalizing k with
  | nil => simp at h
  | cons d l ih =>
    have e : partVs (d :: l) = .pointer (some ⟨d.1, 0, none⟩) :: strV d.2 :: partVs l := by simp [partVs]
    cases k with
    | zero => rw [e]; exact ⟨rfl, rfl⟩
    | succ k =>
      have := ih k (by simpa using h)
      rw [e, show (k + 1) * 2 = k * 2 + 1 + 1 by omega]
      exact this
theorem PartsAt.value {w : World} {v : Value} {ps : List PartL} (h : PartsAt w v ps) : ∃ a cap, v = .slice a ps.length cap ∧ (0 < ps.length → ∃ b off, a = some ⟨b, off, none⟩ ∧
    ∀ i (hi : i < ps.length), ∃ p, w.cell? ⟨b, off + i * 2, none⟩ = some (.pointer (some ⟨p, 0, none⟩)) ∧ w.cell? ⟨b, off + i * 2 + 1, none⟩ = some (strV ps[i].2) ∧ SegAt w p ps[i].1 (idxS ps[i].1)) := by
  obtain ⟨⟨rs, ⟨_, a, cap, h1, h2⟩, h3, h4⟩, _⟩ := h
  have hl : rs.length = ps.length := by have := congrArg List.length h3; simpa using this
  rw [hl] at h1 h2
  refine ⟨a, cap, h1, fun hn => ?_⟩
  obtain ⟨b, off, h5, h6⟩ := h2 hn
  refine ⟨b, off, h5, fun i hi => ?_⟩
  have hir : i < rs.length := by omega
  obtain ⟨e0, e1⟩ := partVs_at rs i hir
  have hg : rs[i].2 = ps[i].2 := by
    have := congrArg (fun l => l[i]?) h3
    simp only [List.getElem?_map, List.getElem?_eq_getElem hir, List.getElem?_eq_getElem hi, Option.map_some, Option.some.injEq] at this
    exact this
  refine ⟨rs[i].1, h6 _ _ e0, ?_, h4 i _ _ (List.getElem?_eq_getElem hir) (List.getElem?_eq_getElem hi)⟩
  rw [← hg]; exact h6 _ _ e1
theorem gb_trans {a b c : World} {r : Option Nat} (h : a.grownBy b r) (k : b.grownBy c r) : a.grownBy c r :=
  ⟨k.os.trans h.os, k.tape.trans h.tape, k.output.trans h.output, Nat.le_trans h.size k.size, fun i h1 h2 => (k.block i (Nat.lt_of_lt_of_le h1 h.size) h2).trans (h.block i h1 h2)⟩
theorem gb_q {a b : World} (r : Option Nat) (h : Q a b) : a.grownBy b r := ⟨h.os, h.tape, h.output, h.size, fun i h1 _ => h.block i h1⟩
theorem gb_refl (a : World) (r : Option Nat) : a.grownBy a r := gb_q r (Q.refl a)
theorem gb_cell {a b : World} {r : Option Nat} (h : a.grownBy b r) {p : Addr} {u : Value} (hc : a.cell? p = some u) (hne : some p.block ≠ r) : b.cell? p = some u := h.cell hc hne
theorem gb_below {w a b : World} {m : Nat} (hw : Below w.heap.size w a) (h : a.grownBy b (some m)) (hm : w.heap.size ≤ m) : Below w.heap.size w b :=
  hw.grown h hw.size (fun k hk => by cases hk; exact hm)
set_option maxRecDepth 100000 in
set_option maxHeartbeats 4000000 in
theorem Places_any (v : Value) (ps : List PartL) (w : World) (hv : PartsAt w v ps) (hn : ps.length ≤ 1000000) (hl : ∀ p ∈ ps, p.1.length ≤ 1000000 ∧ p.2.length ≤ 1000000) :
    Calls Tryz.prog 64 #[v] w fun e w' => ∃ mb, e = .returned (.map (some mb)) ∧ MapS w' mb (plV (plAll ps)) ∧ Q w w' := by
  obtain ⟨a, cap, rfl, hcell⟩ := hv.value
  have HC := Lib.hid hcell; have HL := Lib.hid hl
  clear hv hcell hl
  have hmm := @run_makeMap Tryz.prog
  go_enter Tryz.func64, Tryz.ntmps64
  go_wp2_with fail
  have h0 : MapS (w.alloc (.map #[] 0)) w.heap.size (plV (plTo ps 0)) := MapS.made w
  have hb0 : Below w.heap.size w (w.alloc (.map #[] 0)) := (Below.refl _ w).alloc (Nat.le_refl _) _
  have H0 := Lib.hid h0; have HB0 := Lib.hid hb0; clear h0 hb0
  go_loopw [11] (fun i wr => ∃ k : Nat, i = .int .i64 (k : Nat) ∧ k ≤ ps.length ∧ Hid (MapS wr w.heap.size (plV (plTo ps k))) ∧ Hid (Below w.heap.size w wr)) (fun i _ => ps.length - (intOf i).toNat)
  case atStart => exact ⟨0, rfl, by omega, H0, HB0⟩
  case round =>
    obtain ⟨i, rfl, hi, HI, HB⟩ := hrel
    obtain ⟨wo, rfl⟩ : ∃ wo : World, wo = wr := ⟨_, rfl⟩
    have hszo := HB.out.size
    by_cases hlt : i < ps.length
    · obtain ⟨b, off, rfl, hc⟩ := HC.out (by omega)
      obtain ⟨p, hc1, hc2, hsg⟩ := hc i hlt
      have hw1 := cell_stays HB.out hc1
      have hw2 := cell_stays HB.out hc2
      have hsw := hsg.stays HB.out
      obtain ⟨hl1, hl2⟩ := HL.out _ (List.getElem_mem hlt)
      have hnx : plTo ps (i + 1) = plIn ps[i] i (plTo ps i) ps[i].1.length := by
        rw [plTo, List.getD_eq_getElem?_getD, List.getElem?_eq_getElem hlt]; rfl
      have HNX := Lib.hid hnx
      clear hc hc1 hc2 hsg hnx
      generalize ps[i] = pp at *
      obtain ⟨ds, gn⟩ := pp
      simp only at hw1 hw2 hsw hl1 hl2 HNX
      have hbx := HB.out.alloc hszo (.cells #[.pointer (some ⟨p, 0, none⟩), strV gn] 60)
      have hm := HI.out.stays (Q.alloc wo (.cells #[.pointer (some ⟨p, 0, none⟩), strV gn] 60))
      have csd := SegDocs_any p ds (idxS ds) (wo.alloc (.cells #[.pointer (some ⟨p, 0, none⟩), strV gn] 60)) (hsw.stays (Q.alloc _ _)) hl1
      have hmlt := HI.out.lt
      have hbox : (wo.alloc (.cells #[.pointer (some ⟨p, 0, none⟩), strV gn] 60)).cell? ⟨wo.heap.size, 1, none⟩ = some (strV gn) := by simp only [World.cell?, heap_alloc_new]; rfl
      have HBX := Lib.hid hbx; have HM := Lib.hid hm; have CSD := Lib.hid csd; have HBOX := Lib.hid hbox
      clear hbx hm csd hbox HI HB hsw
      go_wp2_with fail
      refine CSD.out.mono ?_
      rintro e w2 ⟨v', rfl, ho, q2⟩
      have hdv : Docs w2 v' ds := Sl.of_owns ho
      obtain ⟨da, dcap, rfl, hdc⟩ := hdv.value
      have hb2 := HBX.out.trans (Below.mono q2 HBX.out.size)
      have hm2 := HM.out.stays q2
      have hbox2 := cell_stays q2 HBOX.out
      have hlo := fun k (hk : (Value.slice da ds.length dcap).ownBlock = some k) => (ho.lt k hk).1
      have hbs : wo.heap.size < w2.heap.size := by have := q2.size; simp at this; omega
      have hin0 : MapS w2 w.heap.size (plV (plIn (ds, gn) i (plTo ps i) 0)) := hm2
      have HIN0 := Lib.hid hin0; have HDC := Lib.hid hdc; have HB2 := Lib.hid hb2; have HBOX2 := Lib.hid hbox2; have HLO := Lib.hid hlo
      clear ho hdv hdc hb2 hm2 hbox2 hlo q2 CSD HBX HM HBOX hw1 hw2 hin0
      go_wp2_with fail
      go_loopw [22] (fun x wr => ∃ k : Nat, x = .int .i64 (k : Nat) ∧ k ≤ ds.length ∧ Hid (MapS wr w.heap.size (plV (plIn (ds, gn) i (plTo ps i) k))) ∧ Hid (w2.grownBy wr (some w.heap.size))) (fun x _ => ds.length - (intOf x).toNat)
      case atStart => exact ⟨0, rfl, by omega, HIN0, gb_refl _ _⟩
      case round =>
        obtain ⟨k, rfl, hk, HM, HG⟩ := hrel
        obtain ⟨wi, rfl⟩ : ∃ wi : World, wi = wr := ⟨_, rfl⟩
        have hszi := HG.out.size
        by_cases hkl : k < ds.length
        · obtain ⟨g, go, rfl, hc⟩ := HDC.out (by omega)
          obtain ⟨hc1, hc2⟩ := hc k hkl
          have hge := HLO.out g rfl
          simp only [World.size_alloc] at hge
          have hw1 := gb_cell HG.out hc1 (by simp; omega)
          have hw2 := gb_cell HG.out hc2 (by simp; omega)
          have hwb0 := gb_cell HG.out HBOX2.out (by simp; omega)
          have hid : ds.getD k ([], []) = ds[k] := by rw [List.getD_eq_getElem?_getD, List.getElem?_eq_getElem hkl]; rfl
          have hnx : plIn (ds, gn) i (plTo ps i) (k + 1) = if bit gn k then plIn (ds, gn) i (plTo ps i) k else putM ds[k].1 (i, k) (plIn (ds, gn) i (plTo ps i) k) := by
            rw [plIn, hid]
          clear hc hc1 hc2 hid
          generalize ds[k] = dk at *
          obtain ⟨id, tx⟩ := dk
          simp only at hw1 hw2 hnx
          have hwb := cell_stays (Q.alloc wi (.cells #[strV id, strV tx] 40)) hwb0
          clear hwb0
          have hm3 := HM.out.stays (Q.alloc wi (.cells #[strV id, strV tx] 40))
          have hg3 := gb_trans HG.out (gb_q (some w.heap.size) (Q.alloc wi (.cells #[strV id, strV tx] 40)))
          have cg := fun W => get_any gn (k : Nat) W (by omega) (by omega)
          rw [bitI_nat] at cg
          have HG3 := Lib.hid hg3
          clear hg3 HG HM
          cases hb : bit gn k with
          | true =>
            rw [hb] at cg hnx
            rw [if_pos rfl] at hnx
            rw [← hnx] at hm3
            have CG := Lib.hid cg; have HM3 := Lib.hid hm3; have HB := Lib.hid hb
            clear cg hm3 hnx hb
            go_wp2_with fail
            refine (CG.out _).mono ?_
            rintro e w3 ⟨rfl, rfl⟩
            go_wp2_with fail
            go_roundw
            case rel => exact ⟨k + 1, by go_num, by omega, HM3, HG3⟩
            case measure => simp [intOf]; omega
          | false =>
            rw [hb] at cg hnx
            rw [if_neg (by simp)] at hnx
            have hnv : plV (plIn (ds, gn) i (plTo ps i) (k + 1)) = putM id (plVal (i, k)) (plV (plIn (ds, gn) i (plTo ps i) k)) := by rw [hnx, plV_put]
            have CG := Lib.hid cg; have HNV := Lib.hid hnv; have HB := Lib.hid hb
            clear cg hnx hnv hb
            go_wp2_with fail
            refine (CG.out _).mono ?_
            rintro e w3 ⟨rfl, rfl⟩
            go_wp2_with (at_mapUpdate; go_must (refine wpList_update_map _ (by rfl) _ _ _ 109 (by rfl) 9 164 Tryz.underlying109 Tryz.underlying9 w.heap.size (plV (plIn (ds, gn) i (plTo ps i) k)) hm3 id (plVal (i, k)) (by rfl) (by rfl) (by rfl) ?_))
            intro w5 hm5 hg5
            have hg6 := gb_trans HG3.out hg5
            rw [← HNV.out] at hm5
            have HM5 := Lib.hid hm5; have HG5 := Lib.hid hg6
            clear hm5 hg5 hg6 hm3
            go_wp2_with fail
            go_roundw
            case rel => exact ⟨k + 1, by go_num, by omega, HM5, HG5⟩
            case measure => simp [intOf]; omega
        · have hke : k = ds.length := by omega
          subst hke
          have hm4 := HM.out
          rw [← HNX.out] at hm4
          have hb4 := gb_below HB2.out HG.out (Nat.le_refl _)
          have HM4 := Lib.hid hm4; have HB4 := Lib.hid hb4
          clear hm4 hb4 HM HG
          go_wp2_with fail
          go_roundw
          case rel => exact ⟨i + 1, by go_num, by omega, HM4, HB4⟩
          case measure => simp [intOf]; omega
    · have hke : i = ps.length := by omega
      subst hke
      go_wp2_with fail
      go_ret
      exact ⟨_, rfl, HI.out, HB.out⟩
end Go.Proofs.YtepofekepagfhaaGreatDoor
end
