/- Joined texts of one proof: WRead, WGather. -/
import Derived.Test.YtoabhcfmdkhmgaaGreatDoorPWDictPRToRead
import Derived.Test.YtoabhcfmdkhmgaaGreatDoorPKitToSegSpec
import Derived.Deep.DeepMust
import Derived.Test.YtoabhcfmdkhmgaaGreatDoorPWUtfToWRunes
import Derived.Test.YtoabhcfmdkhmgaaGreatDoorPMapsToLive
set_option linter.unusedSimpArgs false
set_option linter.unusedVariables false
set_option linter.unnecessarySimpa false
/- (WRead) segment.read: what it tells is what the bytes read as. -/
section
namespace Go.Proofs.YtoabhcfmdkhmgaaGreatDoor
open Go.RowKit
set_option linter.unusedVariables false
abbrev docVs (l : List DocL) : List Value := l.flatMap fun d => [strV d.1, strV d.2]
/-- a slice of documents -/
def Docs (w : World) (v : Value) (l : List DocL) : Prop := Sl w v l.length 2 (docVs l)
theorem Docs.stays {w w' : World} {v : Value} {l : List DocL} (h : Docs w v l) (hb : Below w.heap.size w w') : Docs w' v l := Sl.stays h hb
theorem docVs_append (l : List DocL) (d : DocL) : docVs (l ++ [d]) = docVs l ++ [strV d.1, strV d.2] := by simp [docVs]
theorem tinfo49 : (Tryz.prog.info? 49).map (fun i => (i.zero, i.size, i.bytes)) = some (some (.agg #[strV [], strV []]), 2, 32) := by kernel_rfl
theorem IsRead.var {s d : Bytes} {l : List DocL} (h : IsRead s l d) : IsVar s l.length (docsE l ++ textE d) := ⟨by have := h.1; omega, h.2.2.2⟩
set_option maxRecDepth 100000 in
set_option maxHeartbeats 1000000 in
theorem read_any (s : Bytes) (w : World) (hs : s.length ≤ 9223372036854775807) :
    Calls Tryz.prog 75 #[.string ⟨s.toArray⟩] w fun e w' => Q w w' ∧ ((∃ v l d, IsRead s l d ∧ w'.ownsRow w.heap.size 49 2 v l.length (docVs l) ∧ e = .returned (.tuple #[v, strV d, .bool true])) ∨ ((∀ l d, ¬ IsRead s l d) ∧ ∃ u v, e = .returned (.tuple #[u, v, .bool false]))) := by
  by_cases hv : ∃ v r, IsVar s v r
  · obtain ⟨n, r, hv⟩ := hv
    have c := ToVar_some s n r w hs hv
    have hn := hv.1
    have HV := Lib.hid hv
    clear hv
    obtain ⟨i0, hi, hz0, hz1, hz2⟩ := info_parts tinfo49
    have C := Lib.hid c
    clear c
    by_cases h5 : n ≤ 500
    · go_enter Tryz.func75, Tryz.ntmps75
      go_wp2_with fail
      refine C.out.mono ?_
      rintro e w1 ⟨rfl, q1⟩
      have HQ1 := Lib.hid q1; clear q1
      go_wp2_with fail
      have hmid0 : Mid s n [] r := ⟨h5, by simp, by simp, by rw [HV.out.2]; rfl⟩
      have HM0 := Lib.hid hmid0; clear hmid0
      go_loopw [0, 7, 27] (fun sv lv x wr => ∃ (k : Nat) (l : List DocL) (r' : Bytes), x = .int .u64 k ∧ k ≤ n ∧ sv = .string ⟨r'.toArray⟩ ∧ Hid (Mid s n l r') ∧ l.length = k ∧ Hid (wr.ownsRow w.heap.size 49 2 lv l.length (docVs l)) ∧ Hid (Below w.heap.size w wr)) (fun _ _ x _ => n - (intOf x).toNat)
      case atStart => exact ⟨0, [], r, rfl, by omega, rfl, HM0, rfl, World.ownsRow_nil _ _ _ _, HQ1⟩
      case round =>
        obtain ⟨k, l, r', rfl, hk, rfl, HM, hlk, HO, HB⟩ := hrel
        obtain ⟨wo, rfl⟩ : ∃ wo : World, wo = wr := ⟨_, rfl⟩
        have hrs : r'.length ≤ 9223372036854775807 := by have := HM.out.len; omega
        by_cases hkn : k < n
        · by_cases hx : ∃ i r1, IsText r' i r1
          · obtain ⟨i, r1, hx⟩ := hx
            have hx1 : r1.length ≤ 9223372036854775807 := by have := congrArg List.length hx.2; rw [List.length_append] at this; omega
            have c := fun w => ToText_some r' i r1 w hrs hx
            have HX := Lib.hid hx
            by_cases hy : ∃ t r2, IsText r1 t r2
            · obtain ⟨t, r2, hy⟩ := hy
              have c2 := fun w => ToText_some r1 t r2 w hx1 hy
              have HY := Lib.hid hy
              have C := Lib.hid c; have C2 := Lib.hid c2
              clear c c2 hx hy
              go_wp2_with fail
              refine (C.out _).mono ?_
              rintro e w2 ⟨rfl, q2⟩
              have HQ2 := Lib.hid q2; clear q2
              go_wp2_with fail
              refine (C2.out _).mono ?_
              rintro e w3 ⟨rfl, q3⟩
              have HO3 := Lib.hid (ownsRow_below (ownsRow_below HO.out HQ2.out) q3)
              have HB3 := Lib.hid ((HB.out.trans (HQ2.out.mono (by have := HB.out.size; omega))).trans (q3.mono (by have := HB.out.size; have := HQ2.out.size; omega)))
              have hsz3 : w.heap.size ≤ w3.heap.size := HB3.out.size
              have hown := HO3.out
              clear q3 HQ2 HO HB
              have hll : (l.length + 1) * 32 ≤ 140737488355328 := by omega
              go_wp2_with (at_builtin; go_must (refine wpList_app w3 (by rfl) _ _ 37 (by rfl) w.heap.size 49 _ i0 (.agg #[strV [], strV []]) 2 32 Tryz.underlying37 hi hz0 hz1 hz2 rfl (by decide) (by decide) _ _ _ (by rfl) hown #[strV i, strV t] (by rfl) rfl ?c1 ?c2 hsz3 ?_))
              case c1 => simp [Value.oneCell']
              case c2 => exact hll
              intro g cap w4 hown1 hg1 hat hlt1 hsz1
              have hb1 := HB3.out.grown hg1 HB3.out.size (fun k hk => by have := (hown.lt k hk).1; omega)
              have e : docVs l ++ (#[strV i, strV t] : Array Value).toList = docVs (l ++ [(i, t)]) := by rw [docVs_append]
              rw [e] at hown1
              clear hown hat hg1 HB3 e HO3
              have HB := Lib.hid hb1; have HO1 := Lib.hid hown1; clear hb1 hown1
              go_wp2_with fail
              go_roundw
              case rel => exact ⟨k + 1, l ++ [(i, t)], r2, by go_num, by omega, rfl, HM.out.step (by omega) HX.out HY.out, by simp; omega, by rw [List.length_append, hlk]; exact HO1, HB⟩
              case measure => simp [intOf]; omega
            · have c2 := fun w => ToText_none r1 w hx1 (fun t r2 h => hy ⟨t, r2, h⟩)
              have hno : ∀ m d, ¬ IsRead s m d := fun m d h => by
                obtain ⟨i', t', r1', r2', e1, e2⟩ := HM.out.next h (by omega)
                have := (HX.out.one e1).2
                subst this
                exact hy ⟨_, _, e2⟩
              have HNO := Lib.hid hno
              have C := Lib.hid c; have C2 := Lib.hid c2
              clear c c2 hx hy hno
              go_wp2_with fail
              refine (C.out _).mono ?_
              rintro e w2 ⟨rfl, q2⟩
              have HQ2 := Lib.hid q2; clear q2
              go_wp2_with fail
              refine (C2.out _).mono ?_
              rintro e w3 ⟨rfl, q3⟩
              have HQ3 := Lib.hid q3; clear q3
              go_wp2_with fail
              go_ret3
              exact ⟨(HB.out.trans (HQ2.out.mono (by have := HB.out.size; omega))).trans (HQ3.out.mono (by have := HB.out.size; have := HQ2.out.size; omega)), Or.inr ⟨HNO.out, _, _, rfl⟩⟩
          · have c := fun w => ToText_none r' w hrs (fun i r1 h => hx ⟨i, r1, h⟩)
            have c2 := fun w => ToText_none [] w (by simp) (fun i r1 h => by have e := congrArg List.length h.2; have := varF_pos 10 i.length (by omega); simp only [textE, varE, List.length_append, List.length_nil] at e; omega)
            have hno : ∀ m d, ¬ IsRead s m d := fun m d h => by
              obtain ⟨i', t', r1', r2', e1, e2⟩ := HM.out.next h (by omega)
              exact hx ⟨_, _, e1⟩
            have HNO := Lib.hid hno
            have C := Lib.hid c; have C2 := Lib.hid c2
            clear c c2 hx hno
            go_wp2_with fail
            refine (C.out _).mono ?_
            rintro e w2 ⟨rfl, q2⟩
            have HQ2 := Lib.hid q2; clear q2
            go_wp2_with fail
            refine (C2.out _).mono ?_
            rintro e w3 ⟨rfl, q3⟩
            have HQ3 := Lib.hid q3; clear q3
            go_wp2_with fail
            go_ret3
            exact ⟨(HB.out.trans (HQ2.out.mono (by have := HB.out.size; omega))).trans (HQ3.out.mono (by have := HB.out.size; have := HQ2.out.size; omega)), Or.inr ⟨HNO.out, _, _, rfl⟩⟩
        · have hkn : l.length = n := by omega
          by_cases hx : ∃ d r1, IsText r' d r1
          · obtain ⟨d, r1, hx⟩ := hx
            have c := fun w => ToText_some r' d r1 w hrs hx
            have HX := Lib.hid hx; have C := Lib.hid c; clear c hx
            cases r1 with
            | nil =>
              go_wp2_with fail
              refine (C.out _).mono ?_
              rintro e w2 ⟨rfl, q2⟩
              have HQ2 := Lib.hid q2; clear q2
              go_wp2_with fail
              go_ret3
              exact ⟨HB.out.trans (HQ2.out.mono (by have := HB.out.size; omega)), Or.inl ⟨_, l, d, HM.out.done hkn HX.out, ownsRow_below HO.out HQ2.out, rfl⟩⟩
            | cons b r1 =>
              have hno : ∀ m d, ¬ IsRead s m d := fun m d h => by
                have := (HX.out.one (HM.out.last h hkn)).2
                simp at this
              have HNO := Lib.hid hno; clear hno
              go_wp2_with fail
              refine (C.out _).mono ?_
              rintro e w2 ⟨rfl, q2⟩
              have HQ2 := Lib.hid q2; clear q2
              go_wp2_with fail
              go_ret3
              exact ⟨HB.out.trans (HQ2.out.mono (by have := HB.out.size; omega)), Or.inr ⟨HNO.out, _, _, rfl⟩⟩
          · have c := fun w => ToText_none r' w hrs (fun i r1 h => hx ⟨i, r1, h⟩)
            have hno : ∀ m d, ¬ IsRead s m d := fun m d h => hx ⟨_, _, HM.out.last h hkn⟩
            have HNO := Lib.hid hno; have C := Lib.hid c; clear c hx hno
            go_wp2_with fail
            refine (C.out _).mono ?_
            rintro e w2 ⟨rfl, q2⟩
            have HQ2 := Lib.hid q2; clear q2
            go_wp2_with fail
            go_ret3
            exact ⟨HB.out.trans (HQ2.out.mono (by have := HB.out.size; omega)), Or.inr ⟨HNO.out, _, _, rfl⟩⟩
    · go_enter Tryz.func75, Tryz.ntmps75
      go_wp2_with fail
      refine C.out.mono ?_
      rintro e w1 ⟨rfl, q1⟩
      have HQ1 := Lib.hid q1; clear q1
      go_wp2_with fail
      go_ret3
      exact ⟨HQ1.out, Or.inr ⟨fun l d h => h5 (by have := (HV.out.one h.var).1; have := h.1; omega), _, _, rfl⟩⟩
  · have c := ToVar_none s w hs (fun v r h => hv ⟨v, r, h⟩)
    have HV := Lib.hid hv
    have C := Lib.hid c
    clear c hv
    go_enter Tryz.func75, Tryz.ntmps75
    go_wp2_with fail
    refine C.out.mono ?_
    rintro e w1 ⟨rfl, q1⟩
    have HQ1 := Lib.hid q1; clear q1
    go_wp2_with fail
    go_ret3
    exact ⟨HQ1.out, Or.inr ⟨fun l d h => HV.out ⟨_, _, h.var⟩, _, _, rfl⟩⟩
end Go.Proofs.YtoabhcfmdkhmgaaGreatDoor
end

/- (WGather) segment.gather: walked. -/
section
namespace Go.Proofs.YtoabhcfmdkhmgaaGreatDoor
open Go.RowKit
set_option linter.unusedVariables false

/-- the entries of a map of IDs, behind k documents -/
def entK (l : List DocL) : Nat → List (Bytes × Value)
  | 0 => []
  | k + 1 => putM (l.getD k ([], [])).1 (.int .i64 k) (entK l k)
theorem entK_keys (l : List DocL) (k : Nat) (hk : k ≤ l.length) : (∀ id, id ∈ (entK l k).map (·.1) ↔ id ∈ (l.take k).map (·.1)) ∧ (entK l k).length ≤ k ∧ ((entK l k).length = k ↔ ((l.take k).map (·.1)).Nodup) := by
  induction k with
  | zero => simp [entK]
  | succ k ih =>
    obtain ⟨h1, h2, h3⟩ := ih (by omega)
    have hlt : k < l.length := by omega
    have hg : l.getD k ([], []) = l[k] := by rw [List.getD_eq_getElem?_getD, List.getElem?_eq_getElem hlt]; rfl
    have ht : l.take (k + 1) = l.take k ++ [l[k]] := by rw [List.take_succ_eq_append_getElem hlt]
    have hkeys := keys_put l[k].1 (Value.int .i64 k) (entK l k)
    have hlen : (entK l (k + 1)).length = ((entK l (k + 1)).map (·.1)).length := by simp
    have hlen0 : ((entK l k).map (·.1)).length = (entK l k).length := by simp
    rw [entK, hg] at *
    by_cases hm : l[k].1 ∈ (entK l k).map (·.1)
    · rw [if_pos hm] at hkeys
      rw [hkeys, hlen0] at hlen
      refine ⟨fun id => ?_, by omega, ?_⟩
      · rw [hkeys, h1, ht, List.map_append, List.mem_append]
        constructor
        · exact Or.inl
        · rintro (e | e)
          · exact e
          · simp at e; rw [e]; exact (h1 _).1 hm
      · constructor
        · intro e; omega
        · intro hn
          rw [ht, List.map_append, List.nodup_append] at hn
          exact absurd rfl (hn.2.2 _ ((h1 _).1 hm) _ (by simp))
    · rw [if_neg hm] at hkeys
      rw [hkeys, List.length_append, hlen0] at hlen
      simp only [List.length_cons, List.length_nil] at hlen
      refine ⟨fun id => ?_, by omega, ?_⟩
      · rw [hkeys, List.mem_append, h1, ht, List.map_append, List.mem_append]; simp
      · rw [hlen, ht, List.map_append, List.nodup_append]
        constructor
        · intro e
          refine ⟨h3.1 (by omega), by simp, ?_⟩
          intro a ha b hb e
          simp at hb
          subst hb; subst e
          exact hm ((h1 _).2 ha)
        · intro hn
          have := h3.2 hn.1
          omega
theorem entK_get (l : List DocL) (hn : (l.map (·.1)).Nodup) (k : Nat) (hk : k ≤ l.length) (id : Bytes) : getM id (entK l k) = ((findL (l.take k) id).map fun i => Value.int .i64 (i : Nat)) := by
  induction k with
  | zero => simp [entK, getM, findL]
  | succ k ih =>
    have hlt : k < l.length := by omega
    have hg : l.getD k ([], []) = l[k] := by rw [List.getD_eq_getElem?_getD, List.getElem?_eq_getElem hlt]; rfl
    have ht : l.take (k + 1) = l.take k ++ [l[k]] := by rw [List.take_succ_eq_append_getElem hlt]
    rw [entK, hg, get_put, ih (by omega)]
    by_cases h : l[k].1 = id
    · rw [if_pos h]
      have hn1 : ((l.take (k + 1)).map (·.1)).Nodup := by rw [List.map_take]; exact hn.sublist (List.take_sublist _ _)
      have := findL_of (l.take (k + 1)) hn1 k l[k] (by rw [List.getElem?_take]; simp [hlt])
      rw [h] at this
      rw [this]; rfl
    · rw [if_neg h, ht]
      unfold findL
      rw [List.findIdx?_append]
      have : List.findIdx? (fun d : DocL => d.1 == id) [l[k]] = none := by simp [List.findIdx?_cons, h]
      rw [this]; simp

def GatherP (l : List DocL) (lv : Value) (w : World) (e : Ending) (w' : World) : Prop :=
  Q w w' ∧ (((∀ d ∈ l, rightB d.1 d.2 = true) ∧ ∃ b, e = .returned (.tuple #[.agg #[lv, .map (some b)], .bool (decide ((l.map (·.1)).Nodup))]) ∧ MapS w' b (entK l l.length)) ∨
    ((¬ ∀ d ∈ l, rightB d.1 d.2 = true) ∧ ∃ b, e = .returned (.tuple #[.agg #[lv, .map (some b)], .bool false])))

theorem docVs_at (l : List DocL) (k : Nat) (h : k < l.length) : (docVs l)[k * 2]? = some (strV l[k].1) ∧ (docVs l)[k * 2 + 1]? = some (strV l[k].2) := by
  induction l generalizing k with
  | nil => simp at h
  | cons d l ih =>
    have e : docVs (d :: l) = strV d.1 :: strV d.2 :: docVs l := by simp [docVs]
    cases k with
    | zero => rw [e]; exact ⟨rfl, rfl⟩
    | succ k =>
      have := ih k (by simpa using h)
      rw [e, show (k + 1) * 2 = k * 2 + 1 + 1 by omega]
      exact this
theorem Docs.value {w : World} {v : Value} {l : List DocL} (h : Docs w v l) : ∃ a cap, v = .slice a l.length cap ∧ (0 < l.length → ∃ b off, a = some ⟨b, off, none⟩ ∧ ∀ j (hj : j < l.length), w.cell? ⟨b, off + j * 2, none⟩ = some (strV l[j].1) ∧ w.cell? ⟨b, off + j * 2 + 1, none⟩ = some (strV l[j].2)) := by
  obtain ⟨_, a, cap, h2, h3⟩ := h
  refine ⟨a, cap, h2, fun hn => ?_⟩
  obtain ⟨b, off, h4, h5⟩ := h3 hn
  exact ⟨b, off, h4, fun j hj => ⟨h5 _ _ (docVs_at l j hj).1, by rw [Nat.add_assoc]; exact h5 _ _ (docVs_at l j hj).2⟩⟩
theorem block_stays {w w' : World} (hb : Q w w') {k : Nat} {o : Obj} (h : w.heap[k]? = some o) : w'.heap[k]? = some o := (hb.block k (Array.getElem?_eq_some_iff.1 h).1).trans h

theorem res2 {W : World} {B : Nat} {x y : Value} {T : TypeId} (h : W.heap[B]? = some (.cells #[x, y] T (0, 0))) (u v : Value) :
    (W.setCell ⟨B, 0, none⟩ u).cell? ⟨B, 0, none⟩ = some u ∧ ((W.setCell ⟨B, 0, none⟩ u).setCell ⟨B, 1, none⟩ v).cell? ⟨B, 1, none⟩ = some v ∧ ((W.setCell ⟨B, 0, none⟩ u).setCell ⟨B, 1, none⟩ v).cell? ⟨B, 0, none⟩ = some u := by
  simp [World.cell?, World.setCell, Array.getElem?_modify, h]

set_option maxRecDepth 100000 in
set_option maxHeartbeats 1000000 in
theorem gather_any (lv : Value) (l : List DocL) (w : World) (hv : Docs w lv l) (hn : l.length ≤ 1000000) (hl : ∀ d ∈ l, d.1.length ≤ 9223372036854775807 ∧ d.2.length ≤ 9223372036854775807) (hT : Tabs w) :
    Calls Tryz.prog 66 #[lv] w (GatherP l lv w) := by
  obtain ⟨a, cap, rfl, hcell⟩ := hv.value
  have HC := Lib.hid hcell; have HL := Lib.hid hl; have HT := Lib.hid hT; clear hcell hv hl hT
  have hmm := @run_makeMap Tryz.prog
  go_enter Tryz.func66, Tryz.ntmps66
  go_wp2_with fail
  go_loopw [12] (fun i wr => ∃ k : Nat, k ≤ l.length ∧ i = .int .i64 k ∧ Hid (∀ j (h : j < l.length), j < k → rightB l[j].1 l[j].2 = true) ∧ Hid (MapS wr (w.heap.size + 1) (entK l k)) ∧ Hid (Below w.heap.size w wr) ∧
      Hid (wr.heap[w.heap.size]? = some (.cells #[.slice none 0 0, .map none] 58 (0, 0))) ∧ Hid (wr.heap[w.heap.size + 2]? = some (.cells #[.slice a l.length cap, .map (some (w.heap.size + 1))] 58 (0, 0)))) (fun i _ => l.length - (intOf i).toNat)
  case atStart =>
    refine ⟨0, by omega, rfl, fun j h hj => by omega, ?_, (((Below.refl _ _).alloc (Nat.le_refl _) _).alloc (by simp) _).alloc (by simp; omega) _, ?_, ?_⟩
    · have := MapS.made (w.alloc (.cells #[.slice none 0 0, .map none] 58))
      simp only [World.size_alloc] at this
      exact this.same (Below.heap_alloc _ _ _ (by simp))
    · show _ = _
      rw [Below.heap_alloc _ _ _ (by simp; omega), Below.heap_alloc _ _ _ (by simp), heap_alloc_new]
    · show _ = _
      have := heap_alloc_new ((w.alloc (.cells #[.slice none 0 0, .map none] 58)).alloc (.map #[] 0)) (.cells #[.slice a l.length cap, .map (some (w.heap.size + 1))] 58)
      simpa using this
  case round =>
    obtain ⟨k, hk, rfl, HG, HM, HB, H0, H2⟩ := hrel
    obtain ⟨wo, rfl⟩ : ∃ wo : World, wo = wr := ⟨_, rfl⟩
    have hlt2 := (Array.getElem?_eq_some_iff.1 H2.out).1
    have c2a : wo.cell? ⟨w.heap.size + 2, 0, none⟩ = some (.slice a l.length cap) := by simp [World.cell?, H2.out]
    have c2b : wo.cell? ⟨w.heap.size + 2, 1, none⟩ = some (.map (some (w.heap.size + 1))) := by simp [World.cell?, H2.out]
    have c0a : wo.cell? ⟨w.heap.size, 0, none⟩ = some (.slice none 0 0) := by simp [World.cell?, H0.out]
    have c0b : wo.cell? ⟨w.heap.size, 1, none⟩ = some (.map none) := by simp [World.cell?, H0.out]
    have f0a : wo.frozen? ⟨w.heap.size, 0, none⟩ = false := by simp [World.frozen?, H0.out]
    have f0b : wo.frozen? ⟨w.heap.size, 1, none⟩ = false := by simp [World.frozen?, H0.out]
    by_cases hlt : k < l.length
    · obtain ⟨b, off, rfl, hc⟩ := HC.out (by omega)
      obtain ⟨hc1, hc2⟩ := hc k hlt
      have hw1 := cell_stays HB.out hc1
      have hw2 := cell_stays HB.out hc2
      have hlen := HL.out _ (List.getElem_mem hlt)
      have hgd : (l.getD k ([], [])).1 = l[k].1 := by rw [List.getD_eq_getElem?_getD, List.getElem?_eq_getElem hlt]; rfl
      have HGD := Lib.hid hgd
      clear hc hc1 hc2 hgd
      have hx := fun (h : ∀ d ∈ l, rightB d.1 d.2 = true) => h _ (List.getElem_mem hlt)
      have hg2 : rightB l[k].1 l[k].2 = true → ∀ j (h : j < l.length), j < k + 1 → rightB l[j].1 l[j].2 = true := fun h1 j h hj => by
        rcases Nat.lt_or_ge j k with h2 | h2
        · exact HG.out j h h2
        · have : j = k := by omega
          subst this; exact h1
      generalize l[k] = d at *
      obtain ⟨id, tx⟩ := d
      simp only at hw1 hw2 hlen hx hg2 HGD
      have HX := Lib.hid hx; have HG2 := Lib.hid hg2; clear hx hg2
      have hT1 : Tabs (wo.alloc (.cells #[.string ⟨id.toArray⟩, .string ⟨tx.toArray⟩] 49)) := (HT.out.stays HB.out).stays (Q.alloc _ _)
      have c := Right_any id tx _ hlen.1 hlen.2 hT1
      have C := Lib.hid c; clear c hT1
      have HLT := Lib.hid hlt2; clear hlt2
      go_wp2_with fail
      refine C.out.mono ?_
      rintro e w1 ⟨rfl, q1⟩
      have hq : Q wo w1 := (Q.alloc _ _).trans q1
      have d1 : w1.cell? ⟨wo.heap.size, 0, none⟩ = some (.string ⟨id.toArray⟩) := cell_stays q1 (by simp only [World.cell?, heap_alloc_new]; rfl)
      have d2a := cell_stays hq c2a
      have d2b := cell_stays hq c2b
      have d0a := cell_stays hq c0a
      have d0b := cell_stays hq c0b
      have g0a : w1.frozen? ⟨w.heap.size, 0, none⟩ = false := by have := block_stays hq H0.out; simp [World.frozen?, this]
      have g0b : w1.frozen? ⟨w.heap.size, 1, none⟩ = false := by have := block_stays hq H0.out; simp [World.frozen?, this]
      have HQ := Lib.hid hq
      clear q1 hq c2a c2b c0a c0b f0a f0b
      cases hr : rightB id tx with
      | false =>
        have HR := Lib.hid hr; clear hr
        go_wp2_with fail
        obtain ⟨r1, r2, r3⟩ := res2 (block_stays HQ.out H0.out) (.slice (some ⟨b, off, none⟩) l.length cap) (.map (some (w.heap.size + 1)))
        refine bodyPost_ret (v := .tuple #[.agg #[.slice (some ⟨b, off, none⟩) l.length cap, .map (some (w.heap.size + 1))], .bool false]) ?_ rfl ?_
        · simp [results, Tryz.results66, go_sem, r1, r2]
        · exact ⟨(HB.out.trans (Below.mono HQ.out HB.out.size)).setCell (by simp) _ |>.setCell (by simp) _, .inr ⟨fun h => (by have := HX.out h; rw [HR.out] at this; cases this), _, rfl⟩⟩
      | true =>
        have HR := Lib.hid hr; clear hr
        have hm1 : MapS w1 (w.heap.size + 1) (entK l k) := HM.out.stays HQ.out
        have HM1 := Lib.hid hm1
        clear HM
        go_wp2_with (at_mapUpdate; go_must (refine wpList_update_map w1 (by rfl) _ _ _ 56 (by rfl) 9 3 Tryz.underlying56 Tryz.underlying9 (w.heap.size + 1) (entK l k) hm1 id (.int .i64 k) (by rfl) (by rfl) (by rfl) ?_))
        intro w2 hm2 hg2
        have hB2 : Below w.heap.size w w2 := (HB.out.trans (Below.mono HQ.out HB.out.size)).grown hg2 (by have := HB.out.size; have := HQ.out.size; omega) (fun j hj => by cases hj; omega)
        have e0 := (hg2.block w.heap.size (by have := HQ.out.size; have := HLT.out; omega) (by simp)).trans (block_stays HQ.out H0.out)
        have e2 := (hg2.block (w.heap.size + 2) (by have := HQ.out.size; have := HLT.out; omega) (by simp)).trans (block_stays HQ.out H2.out)
        have hme : MapS w2 (w.heap.size + 1) (entK l (k + 1)) := by rw [entK, HGD.out]; exact hm2
        have HE0 := Lib.hid e0; have HE2 := Lib.hid e2; have HME := Lib.hid hme; have HB2 := Lib.hid hB2
        clear e0 e2 hme hB2 hm2 hg2 hm1
        go_wp2_with fail
        go_roundw
        case rel => exact ⟨k + 1, by omega, by go_num, HG2.out HR.out, HME, HB2, HE0, HE2⟩
        case measure => simp [intOf]; omega
    · have hkk : k = l.length := by omega
      subst hkk
      obtain ⟨h1, h2, h3⟩ := entK_keys l l.length (Nat.le_refl _)
      rw [List.take_length] at h3
      have H3 := Lib.hid h3; clear h1 h2 h3
      have hm1 := HM.out
      go_wp2_with (at_len; refine wpList_len_map wo (by rfl) _ 56 (by rfl) 9 3 Tryz.underlying56 (w.heap.size + 1) (entK l l.length) hm1 (by rfl) ?_)
      obtain ⟨r1, r2, r3⟩ := res2 H0.out (.slice a l.length cap) (.map (some (w.heap.size + 1)))
      refine bodyPost_ret (v := .tuple #[.agg #[.slice a l.length cap, .map (some (w.heap.size + 1))], .bool (decide ((l.map (·.1)).Nodup))]) ?_ rfl ?_
      · have hb : (((entK l l.length).length : Int) == (l.length : Int)) = decide ((l.map (·.1)).Nodup) := by
          rw [Bool.eq_iff_iff, decide_eq_true_eq, ← H3.out]; simp; omega
        simp [results, Tryz.results66, go_sem, r1, r2, hb]
      · exact ⟨HB.out.setCell (by simp) _ |>.setCell (by simp) _, .inl ⟨fun d hd => by
          obtain ⟨j, hj, e⟩ := List.getElem_of_mem hd
          rw [← e]; exact HG.out j hj hj, _, rfl, (HM.out.same (by rw [Below.heap_setCell _ _ _ _ (by simp), Below.heap_setCell _ _ _ _ (by simp)]))⟩⟩
end Go.Proofs.YtoabhcfmdkhmgaaGreatDoor
end
