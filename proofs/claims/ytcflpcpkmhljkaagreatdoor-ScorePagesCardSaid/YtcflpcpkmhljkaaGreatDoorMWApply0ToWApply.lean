/- Joined texts of one proof: WApply0, WApply. -/
import Derived.Test.YtcflpcpkmhljkaaGreatDoorMWSh18ToBitC
import Derived.Test.YtcflpcpkmhljkaaGreatDoorMIxWToIdxEq
set_option linter.unusedSimpArgs false
set_option linter.unusedVariables false
set_option linter.unnecessarySimpa false
/- (WApply0) live.Apply: what its loops keep. -/
section
namespace Go.Proofs.YtcflpcpkmhljkaaGreatDoor
open Go.RowKit
set_option linter.unusedVariables false

/-- the blocks of parts' segments -/
def SegsAt (w : World) (segs : List Nat) (ps : List PartL) : Prop := ∀ (i : Nat) (p : Nat) (q : PartL), segs[i]? = some p → ps[i]? = some q → SegAt w p q.1 (idxS q.1)
abbrev rowPs (segs : List Nat) (gs : List Bytes) : List Value := partVs (segs.zip gs)
theorem SegsAt.stays {w w' : World} {segs : List Nat} {ps : List PartL} (h : SegsAt w segs ps) (q : Q w w') : SegsAt w' segs ps := fun i p x hp hx => (h i p x hp hx).stays q
theorem zip_parts (rs : List PartR) (ps : List PartL) (h : rs.map (·.2) = ps.map (·.2)) : rs = (rs.map (·.1)).zip (ps.map (·.2)) := by
  rw [← h, List.zip_map']
  simp
theorem PartsAt.segs {w : World} {v : Value} {ps : List PartL} (h : PartsAt w v ps) :
    ∃ segs : List Nat, segs.length = ps.length ∧ SegsAt w segs ps ∧ Sl w v ps.length 2 (rowPs segs (ps.map (·.2))) ∧ ∀ a n cap, v = .slice a n cap → n ≤ cap := by
  obtain ⟨⟨rs, h1, h2, h3⟩, h4⟩ := h
  have hl : rs.length = ps.length := by have := congrArg List.length h2; simpa using this
  refine ⟨rs.map (·.1), by simpa using hl, fun i p q hp hq => ?_, ?_, h4⟩
  · rw [List.getElem?_map] at hp
    cases hr : rs[i]? with
    | none => rw [hr] at hp; cases hp
    | some r => rw [hr] at hp; cases hp; exact h3 i r q hr hq
  · unfold rowPs
    rw [← zip_parts rs ps h2, ← hl]; exact h1
theorem PartsAt.of {w : World} {v : Value} {ps : List PartL} (segs : List Nat) (hl : segs.length = ps.length) (hs : SegsAt w segs ps) (h1 : Sl w v ps.length 2 (rowPs segs (ps.map (·.2)))) (h4 : ∀ a n cap, v = .slice a n cap → n ≤ cap) : PartsAt w v ps := by
  have hz : (segs.zip (ps.map (·.2))).length = ps.length := by simp [hl]
  refine ⟨⟨segs.zip (ps.map (·.2)), ?_, ?_, fun i r q hr hq => ?_⟩, h4⟩
  · unfold Parts0; rw [hz]; exact h1
  · rw [List.map_snd_zip]; simp [hl]
  · rw [List.getElem?_zip_eq_some] at hr
    exact hs i r.1 q hr.1 hq
theorem owns_cap {w : World} {base : Nat} {e : TypeId} {size n : Nat} {v : Value} {xs : List Value} (h : w.ownsRow base e size v n xs) : ∀ a m cap, v = .slice a m cap → m ≤ cap := by
  intro a m cap hv
  rcases h.2 with ⟨rfl, h0⟩ | ⟨g, c, cur, rfl, _, _, hnc, _⟩
  · cases hv; exact Nat.le_refl _
  · cases hv; exact hnc
theorem PartsAt.owns {w : World} {base : Nat} {v : Value} {ps : List PartL} (segs : List Nat) (hl : segs.length = ps.length) (hs : SegsAt w segs ps) (h1 : w.ownsRow base 89 2 v ps.length (rowPs segs (ps.map (·.2)))) : PartsAt w v ps :=
  PartsAt.of segs hl hs (Sl.of_owns h1) (owns_cap h1)
theorem rowPs_set (segs : List Nat) (gs : List Bytes) (hl : segs.length = gs.length) (i : Nat) (hi : i < gs.length) (x : Bytes) : (rowPs segs gs).set (i * 2 + 1) (strV x) = rowPs segs (gs.set i x) := by
  induction segs generalizing gs i with
  | nil => simp at hl; omega
  | cons s segs ih =>
    cases gs with
    | nil => simp at hl
    | cons g gs =>
      have e : ∀ s (g : Bytes) (segs : List Nat) (gs : List Bytes), rowPs (s :: segs) (g :: gs) = .pointer (some ⟨s, 0, none⟩) :: strV g :: rowPs segs gs := by intros; simp [rowPs, partVs]
      rw [e]
      cases i with
      | zero => rw [List.set_cons_zero, e]; rfl
      | succ i =>
        have h2 : (i + 1) * 2 + 1 = (i * 2 + 1) + 1 + 1 := by omega
        rw [h2]
        simp only [List.set_cons_succ]
        rw [ih gs (by simpa using hl) i (by simpa using hi), e]
theorem rowPs_at (segs : List Nat) (gs : List Bytes) (hl : segs.length = gs.length) (i : Nat) (hi : i < gs.length) : (rowPs segs gs)[i * 2]? = some (.pointer (some ⟨segs[i]'(by omega), 0, none⟩)) ∧ (rowPs segs gs)[i * 2 + 1]? = some (strV gs[i]) := by
  have := partVs_at (segs.zip gs) i (by simp [hl]; exact hi)
  simpa using this
theorem rowPs_length (segs : List Nat) (gs : List Bytes) (hl : segs.length = gs.length) : (rowPs segs gs).length = gs.length * 2 := by
  induction segs generalizing gs with
  | nil => cases gs <;> simp_all [rowPs, partVs]
  | cons s segs ih =>
    cases gs with
    | nil => simp at hl
    | cons g gs =>
      have := ih gs (by simpa using hl)
      simp only [rowPs, List.zip_cons_cons, partVs, List.flatMap_cons, List.length_append, List.length_cons, List.length_nil] at this ⊢
      omega
theorem rowPs_append (segs segs' : List Nat) (gs gs' : List Bytes) (hl : segs.length = gs.length) : rowPs (segs ++ segs') (gs ++ gs') = rowPs segs gs ++ rowPs segs' gs' := by
  unfold rowPs
  rw [List.zip_append hl]; simp [partVs]
/-- which documents are gone, i parts having been gone over -/
def gsIn (id : Bytes) (ps : List PartL) (i : Nat) : List Bytes := ((ps.take i).map (goneOne id) ++ ps.drop i).map (·.2)
theorem gsIn_zero (id : Bytes) (ps : List PartL) : gsIn id ps 0 = ps.map (·.2) := by simp [gsIn]
theorem gsIn_all (id : Bytes) (ps : List PartL) : gsIn id ps ps.length = (ps.map (goneOne id)).map (·.2) := by simp [gsIn]
theorem gsIn_length (id : Bytes) (ps : List PartL) (i : Nat) (hi : i ≤ ps.length) : (gsIn id ps i).length = ps.length := by simp [gsIn]; omega
theorem gsIn_at (id : Bytes) (ps : List PartL) (i : Nat) (hi : i < ps.length) : (gsIn id ps i)[i]? = some ps[i].2 := by
  unfold gsIn
  rw [List.getElem?_map, List.getElem?_append_right (by simp; omega)]
  simp only [List.length_map, List.length_take, Nat.min_eq_left (Nat.le_of_lt hi), Nat.sub_self, List.getElem?_drop, Nat.add_zero, List.getElem?_eq_getElem hi, Option.map_some]
theorem gsIn_succ (id : Bytes) (ps : List PartL) (i : Nat) (hi : i < ps.length) : gsIn id ps (i + 1) = (gsIn id ps i).set i (goneOne id ps[i]).2 := by
  unfold gsIn
  rw [List.take_succ_eq_append_getElem hi, List.drop_eq_getElem_cons hi]
  simp only [List.map_append, List.map_cons, List.map_nil, List.append_assoc, List.singleton_append]
  rw [List.set_append_right _ _ (by simp; omega)]
  simp [Nat.min_eq_left (Nat.le_of_lt hi)]
theorem set_same {α : Type} (l : List α) (i : Nat) (x : α) (h : l[i]? = some x) : l.set i x = l := by
  obtain ⟨hi, rfl⟩ := List.getElem?_eq_some_iff.1 h
  exact List.set_getElem_self hi
theorem gsIn_none (id : Bytes) (ps : List PartL) (i : Nat) (hi : i < ps.length) (hf : findL ps[i].1 id = none) : gsIn id ps (i + 1) = gsIn id ps i := by
  rw [gsIn_succ id ps i hi]
  have : goneOne id ps[i] = ps[i] := by unfold goneOne; rw [hf]
  rw [this]
  exact set_same _ _ _ (gsIn_at id ps i hi)
theorem gsIn_some (id : Bytes) (ps : List PartL) (i : Nat) (hi : i < ps.length) (k : Nat) (hf : findL ps[i].1 id = some k) : gsIn id ps (i + 1) = (gsIn id ps i).set i (setTo ps[i].2 k true 1) := by
  rw [gsIn_succ id ps i hi]
  have : goneOne id ps[i] = (ps[i].1, setTo ps[i].2 k true 1) := by unfold goneOne; rw [hf]
  rw [this]
theorem goneAll_docs (ids : List Bytes) (ps : List PartL) : (goneAll ids ps).map (·.1) = ps.map (·.1) := by
  induction ids generalizing ps with
  | nil => rfl
  | cons id ids ih =>
    rw [goneAll_cons, ih, List.map_map]
    exact List.map_congr_left fun p _ => goneOne_docs id p
theorem goneAll_at (ids : List Bytes) (ps : List PartL) (i : Nat) (q : PartL) (h : (goneAll ids ps)[i]? = some q) : ∃ p : PartL, ps[i]? = some p ∧ q.1 = p.1 := by
  have := congrArg (fun l => l[i]?) (goneAll_docs ids ps)
  simp only [List.getElem?_map, h, Option.map_some] at this
  cases hp : ps[i]? with
  | none => rw [hp] at this; cases this
  | some p => rw [hp] at this; exact ⟨p, rfl, by simpa using this⟩
theorem SegsAt.gone {w : World} {segs : List Nat} {ps : List PartL} (h : SegsAt w segs ps) (ids : List Bytes) : SegsAt w segs (goneAll ids ps) := by
  intro i p q hp hq
  obtain ⟨p0, h1, h2⟩ := goneAll_at ids ps i q hq
  rw [h2]
  exact h i p p0 hp h1
theorem goneAll_snoc (ids : List Bytes) (id : Bytes) (ps : List PartL) : goneAll (ids ++ [id]) ps = (goneAll ids ps).map (goneOne id) := by
  unfold goneAll
  rw [List.foldl_append]; rfl
/-- behind j ops -/
def gAt (ops : List OpL) (ps : List PartL) (j : Nat) : List PartL := goneAll ((ops.take j).map (fun o => o.2.1)) ps
def mAt (ops : List OpL) (j : Nat) : List DocL := ((ops.take j).filter (fun o => !o.1)).map (·.2)
theorem gAt_succ (ops : List OpL) (ps : List PartL) (j : Nat) (hj : j < ops.length) : gAt ops ps (j + 1) = (gAt ops ps j).map (goneOne ops[j].2.1) := by
  unfold gAt
  rw [List.take_succ_eq_append_getElem hj, List.map_append, List.map_singleton, goneAll_snoc]
theorem gAt_length (ops : List OpL) (ps : List PartL) (j : Nat) : (gAt ops ps j).length = ps.length := goneAll_length _ _
theorem mAt_succ (ops : List OpL) (j : Nat) (hj : j < ops.length) : mAt ops (j + 1) = mAt ops j ++ (if ops[j].1 then [] else [ops[j].2]) := by
  unfold mAt
  rw [List.take_succ_eq_append_getElem hj, List.filter_append, List.map_append]
  cases h : ops[j].1 <;> simp [h]
theorem mAt_len (ops : List OpL) (j : Nat) : (mAt ops j).length ≤ j := by
  have h1 := List.length_filter_le (fun o : OpL => !o.1) (ops.take j)
  rw [List.length_take] at h1
  unfold mAt
  rw [List.length_map]; omega
/-! ### a box that turns beside parts -/
theorem box_ne {W : World} {X : Nat} {T : TypeId} {u0 : Value} (hb : Boxed W X T u0) {b off : Nat} {u : Value} (hc : W.cell? ⟨b, off, none⟩ = some u) (hne : u ≠ u0) : b ≠ X := by
  intro e
  subst e
  have h : W.heap[b]? = some (.cells #[u0] T (0, 0)) := hb
  simp only [World.cell?, h] at hc
  cases off with
  | zero => simp at hc; exact hne hc.symm
  | succ n => simp at hc
theorem set_far (W : World) {X k : Nat} (u : Value) (h : k ≠ X) : (W.setCell ⟨X, 0, none⟩ u).heap[k]? = W.heap[k]? := Below.heap_setCell _ _ _ _ h
theorem Sl.setBox {W : World} {X : Nat} {T : TypeId} {u0 : Value} (hb : Boxed W X T u0) (u : Value) {v : Value} {n size : Nat} {xs : List Value} (h : Sl W v n size xs) (hs : 0 < size) (hx : ∀ x ∈ xs, x ≠ u0) : Sl (W.setCell ⟨X, 0, none⟩ u) v n size xs := by
  obtain ⟨h1, a, cap, h2, h3⟩ := h
  refine ⟨h1, a, cap, h2, fun hn => ?_⟩
  obtain ⟨b, off, h4, h5⟩ := h3 hn
  refine ⟨b, off, h4, fun j y hj => ?_⟩
  have hc := h5 j y hj
  have hbx := box_ne hb hc (hx y (List.mem_of_getElem? hj))
  rw [← hc]
  simp only [World.cell?, set_far W u hbx]
theorem MapS.setBox {W : World} {X : Nat} {T : TypeId} {u0 : Value} (hb : Boxed W X T u0) (u : Value) {m : Nat} {es : List (Bytes × Value)} (h : MapS W m es) : MapS (W.setCell ⟨X, 0, none⟩ u) m es := by
  have hm := h
  obtain ⟨es', clock, h1, _⟩ := hm
  refine h.same (set_far W u (fun e => ?_))
  subst e
  have h2 : W.heap[m]? = some (.cells #[u0] T (0, 0)) := hb
  rw [h2] at h1; cases h1
/-- a segment stays where one block of cells of another kind turns -/
theorem SegAt.kept {W W' : World} {row : Option Nat} (hg : W.grownBy W' row) (hX : ∀ X, row = some X → ∃ cs T fz, W.heap[X]? = some (.cells cs T fz) ∧ T ≠ 93 ∧ T ≠ 63) {p : Nat} {l : List DocL} {d : Bytes} (h : SegAt W p l d) : SegAt W' p l d := by
  obtain ⟨v, mb, h1, h2, h3⟩ := h
  have far : ∀ k o, W.heap[k]? = some o → (∀ cs T fz, o = .cells cs T fz → T = 93 ∨ T = 63) → some k ≠ row := by
    intro k o hk ho e
    obtain ⟨cs, T, fz, hc, n1, n2⟩ := hX k e.symm
    rw [hk] at hc
    cases hc
    rcases ho cs T fz rfl with h | h
    · exact n1 h
    · exact n2 h
  refine ⟨v, mb, ?_, h2.kept hg ?_, h3.same ?_⟩
  · rw [hg.block p (lt_of_get h1) (far p _ h1 (fun _ _ _ e => by cases e; exact .inl rfl))]; exact h1
  · cases hb : v.ownBlock with
    | none => exact .inl rfl
    | some g =>
      obtain ⟨cs, hc⟩ := owns_kind h2 g hb
      exact .inr (far g _ hc (fun _ _ _ e => by cases e; exact .inr rfl))
  · obtain ⟨es, clock, h4, _⟩ := h3
    exact hg.block mb (lt_of_get h4) (far mb _ h4 (fun _ _ _ e => by cases e))
theorem SegAt.setBox {W : World} {X : Nat} {T : TypeId} {u0 : Value} (hb : Boxed W X T u0) (u : Value) {p : Nat} {l : List DocL} {d : Bytes} (h : SegAt W p l d) (hT : T ≠ 93 ∧ T ≠ 63) : SegAt (W.setCell ⟨X, 0, none⟩ u) p l d :=
  h.kept (grownBy_setCell' W X u) (fun Y e => by cases e; exact ⟨_, T, _, hb, hT.1, hT.2⟩)
theorem PartsAt.setBox {W : World} {X : Nat} {T : TypeId} {a : Option Addr} {n cap : Nat} (hb : Boxed W X T (.slice a n cap)) (u : Value) {v : Value} {ps : List PartL} (h : PartsAt W v ps) (hT : T ≠ 93 ∧ T ≠ 63) : PartsAt (W.setCell ⟨X, 0, none⟩ u) v ps := by
  obtain ⟨⟨rs, h1, h2, h3⟩, h4⟩ := h
  refine ⟨⟨rs, Sl.setBox hb u h1 (by decide) (fun x hx => ?_), h2, fun i r p hr hp => (h3 i r p hr hp).setBox hb u hT⟩, h4⟩
  obtain ⟨y, _, hy⟩ := List.mem_flatMap.1 hx
  simp at hy
  rcases hy with rfl | rfl <;> simp
theorem cellsOf3 {W : World} {X : Nat} {a b c : Value} {T : TypeId} (h : W.heap[X]? = some (.cells #[a, b, c] T (0, 0))) : W.cell? ⟨X, 0, none⟩ = some a ∧ W.cell? ⟨X, 1, none⟩ = some b ∧ W.cell? ⟨X, 2, none⟩ = some c := by
  simp [World.cell?, h]
end Go.Proofs.YtcflpcpkmhljkaaGreatDoor
end

/- (WApply) live.Apply: walked. -/
section
namespace Go.Proofs.YtcflpcpkmhljkaaGreatDoor
open Go.RowKit
set_option linter.unusedVariables false

set_option maxRecDepth 100000 in
set_option maxHeartbeats 1000000 in
theorem Apply_many (a : Option Addr) (n cap : Nat) (oa : Option Addr) (on oc : Nat) (w : World) (h : on < 1 ∨ 50 < on) (hon : on ≤ 1000000) :
    Calls Tryz.prog 30 #[liveV (.slice a n cap), .slice oa on oc] w fun e w' => e = .returned (.tuple #[liveV (.slice a n cap), strV [], .int .i64 6]) ∧ Q w w' := by
  rcases h with h | h
  · have h1 : (on : Int) < 1 := by omega
    go_enter Tryz.func30, Tryz.ntmps30
    go_wp2_with fail
    refine bodyPost_ret (v := .tuple #[liveV (.slice a n cap), strV [], .int .i64 6]) (by simp [results, Tryz.results30, go_sem]) rfl ⟨rfl, (Q.alloc _ _).trans (Q.alloc _ _)⟩
  · have h1 : ¬ (on : Int) < 1 := by omega
    have h2 : 50 < (on : Int) := by omega
    go_enter Tryz.func30, Tryz.ntmps30
    go_wp2_with fail
    refine bodyPost_ret (v := .tuple #[liveV (.slice a n cap), strV [], .int .i64 6]) (by simp [results, Tryz.results30, go_sem]) rfl ⟨rfl, (Q.alloc _ _).trans (Q.alloc _ _)⟩
set_option maxRecDepth 100000 in
set_option maxHeartbeats 1000000 in
theorem Apply_arg (a : Option Addr) (n cap : Nat) (v : Value) (ops : List OpL) (w : World) (hv : Ops w v ops) (h : ¬ (ops.length < 1 ∨ 50 < ops.length)) (hl : ∀ o ∈ ops, o.2.1.length ≤ 9223372036854775807 ∧ o.2.2.length ≤ 9223372036854775807) (hT : Tabs w) (hr : ops.all opRight = false) :
    Calls Tryz.prog 30 #[liveV (.slice a n cap), v] w fun e w' => e = .returned (.tuple #[liveV (.slice a n cap), strV [], .int .i64 1]) ∧ Q w w' := by
  have h1 : ¬ (ops.length : Int) < 1 := by omega
  have h2 : ¬ 50 < (ops.length : Int) := by omega
  have hq0 : Q w ((w.alloc (.cells #[.slice a n cap] 37)).alloc (.cells #[.slice none 0 0] 37)) := (Q.alloc _ _).trans (Q.alloc _ _)
  have c := ContainsFunc_ops v ops _ (hv.stays hq0) (by omega) hl (hT.stays hq0)
  rw [hr] at c
  obtain ⟨oa, oc, rfl, _⟩ := hv.value
  have hbx : Boxed ((w.alloc (.cells #[.slice a n cap] 37)).alloc (.cells #[.slice none 0 0] 37)) (w.heap.size + 1) 37 (.slice none 0 0) := by
    have := Boxed.new (w.alloc (.cells #[.slice a n cap] 37)) 37 (.slice none 0 0)
    simpa using this
  have hb0 : Boxed ((w.alloc (.cells #[.slice a n cap] 37)).alloc (.cells #[.slice none 0 0] 37)) w.heap.size 37 (.slice a n cap) := (Boxed.new w _ _).alloc _
  have C := Lib.hid c; have HBX := Lib.hid hbx; have HB0 := Lib.hid hb0; have HR := Lib.hid hr
  clear c hv hl hT hbx hb0 h hr
  go_enter Tryz.func30, Tryz.ntmps30
  go_wp2_with fail
  refine C.out.mono ?_
  rintro e w1 ⟨rfl, q⟩
  have b1 : Boxed w1 (w.heap.size + 1) 37 (.slice none 0 0) := block_stays' q HBX.out
  have b0 : Boxed w1 w.heap.size 37 (.slice a n cap) := block_stays' q HB0.out
  have c1 := b1.cell; have f1 := b1.frozen; have c0 := b0.cell
  have r1 := (b1.set (.slice a n cap)).cell
  have hqq := hq0.trans q
  have HQQ := Lib.hid hqq; have R1 := Lib.hid r1
  clear hqq hq0 q b1 b0 r1
  go_wp2_with fail
  refine bodyPost_ret (v := .tuple #[liveV (.slice a n cap), strV [], .int .i64 1]) (by simp [results, Tryz.results30, go_sem, R1.out]) rfl ⟨rfl, HQQ.out.setCell (by simp) _⟩
theorem quiet_find (p : Nat) (l : List DocL) (d id : Bytes) (W : World) (h : SegAt W p l d) (hn : (l.map (·.1)).Nodup) (o : Option Nat) (hf : findL l id = o) (n : Nat) :
    Calls Tryz.prog 55 #[.pointer (some ⟨p, 0, none⟩), .string ⟨id.toArray⟩] (W.drewN n) fun e w' => e = .returned (.tuple #[.int .i64 ((o.getD 0 : Nat) : Int), .bool o.isSome]) ∧ w' = W.drewN n := by
  have c := SegFind_any p l d id (W.drewN n) (h.stays (Q.drewN W n)) hn
  rw [hf] at c
  exact c.mono fun _ _ ⟨h1, h2⟩ => ⟨h1, h2.symm⟩
set_option maxRecDepth 100000 in
set_option maxHeartbeats 8000000 in
theorem Apply_run (v : Value) (ps : List PartL) (vo : Value) (ops : List OpL) (w : World) (hv : PartsAt w v ps) (hvo : Ops w vo ops) (h : ¬ (ops.length < 1 ∨ 50 < ops.length)) (hl : ∀ o ∈ ops, o.2.1.length ≤ 9223372036854775807 ∧ o.2.2.length ≤ 9223372036854775807)
    (hn : ps.length ≤ 1000000) (hok : ∀ p ∈ ps, PartOk p) (hT : Tabs w) (hSp : Spans w) (hr : ops.all opRight = true) :
    Calls Tryz.prog 30 #[liveV v, vo] w fun e w' => (∃ v', e = .returned (.tuple #[liveV v', strV (freshL (moreL ops)).2, .int .i64 0]) ∧ PartsAt w' v' (goneAll (idsL ops) ps ++ (freshL (moreL ops)).1)) ∧ Q w w' := by
  obtain ⟨io, hio, hoz0, hoz1, hoz2⟩ := info_parts tinfo65
  obtain ⟨ip, hip, hpz0, hpz1, hpz2⟩ := info_parts tinfo89
  obtain ⟨idd, hid, hdz0, hdz1, hdz2⟩ := info_parts tinfo63
  have h1 : ¬ (ops.length : Int) < 1 := by omega
  have h2 : ¬ 50 < (ops.length : Int) := by omega
  have h50 : ops.length ≤ 50 := by omega
  have hmok := more_ok ops hr
  obtain ⟨segs, hsl, hsg, hrow, hcp⟩ := hv.segs
  have hzl : (segs.zip (ps.map (·.2))).length = ps.length := by simp [hsl]
  obtain ⟨a, cap, hva⟩ : ∃ a cap, v = .slice a ps.length cap := ⟨_, _, hv.value.choose_spec.choose_spec.1⟩
  subst hva
  have hq0 : Q w ((w.alloc (.cells #[.slice a ps.length cap] 37)).alloc (.cells #[.slice none 0 0] 37)) := (Q.alloc _ _).trans (Q.alloc _ _)
  have c := ContainsFunc_ops vo ops _ (hvo.stays hq0) (by omega) hl (hT.stays hq0)
  rw [hr] at c
  have hvo0 := hvo
  obtain ⟨oa, oc, rfl, _⟩ := hvo.value
  have hbx : Boxed ((w.alloc (.cells #[.slice a ps.length cap] 37)).alloc (.cells #[.slice none 0 0] 37)) (w.heap.size + 1) 37 (.slice none 0 0) := by
    have := Boxed.new (w.alloc (.cells #[.slice a ps.length cap] 37)) 37 (.slice none 0 0)
    simpa using this
  have hb0 : Boxed ((w.alloc (.cells #[.slice a ps.length cap] 37)).alloc (.cells #[.slice none 0 0] 37)) w.heap.size 37 (.slice a ps.length cap) := (Boxed.new w _ _).alloc _
  have hs0 : w.heap.size + 1 < ((w.alloc (.cells #[.slice a ps.length cap] 37)).alloc (.cells #[.slice none 0 0] 37)).heap.size := by simp
  have C := Lib.hid c; have HBX := Lib.hid hbx; have HB0 := Lib.hid hb0; have HR := Lib.hid hr; have HT := Lib.hid hT; have HSP := Lib.hid hSp; have HVO := Lib.hid hvo0; have HSG := Lib.hid hsg; have HROW := Lib.hid hrow; have HOK := Lib.hid hok; have HMOK := Lib.hid hmok; have HQ0 := Lib.hid hq0
  clear c hv hvo hvo0 hl hT hSp hbx hb0 hr hsg hrow hcp hok hmok h
  go_enter Tryz.func30, Tryz.ntmps30
  go_wp2_with fail
  refine C.out.mono ?_
  rintro e w1 ⟨rfl, q1⟩
  have b1 : Boxed w1 (w.heap.size + 1) 37 (.slice none 0 0) := block_stays' q1 HBX.out
  have b0 : Boxed w1 w.heap.size 37 (.slice a ps.length cap) := block_stays' q1 HB0.out
  have c0 := b0.cell
  have hq1 := HQ0.out.trans q1
  have hs1 : w.heap.size + 1 < w1.heap.size := Nat.lt_of_lt_of_le hs0 q1.size
  have hp0 : Parts0 w1 (.slice a ps.length cap) (segs.zip (ps.map (·.2))) := by unfold Parts0; rw [hzl]; exact Sl.stays HROW.out hq1
  have ccl := Clone_parts _ _ w1 hp0 (by omega)
  rw [hzl] at ccl
  have CCL := Lib.hid ccl; have B1 := Lib.hid b1; have HQ1 := Lib.hid hq1
  clear ccl b1 b0 hq1 q1 hp0 C HBX HB0 HQ0 HROW hs0 hzl
  go_wp2_with fail
  refine CCL.out.mono ?_
  rintro e w2 ⟨ov, rfl, ho2, q2⟩
  have hq2 := HQ1.out.trans q2
  have hs2 := q2.size
  have cla := Last_any _ ops w2 (HVO.out.stays hq2) (by omega)
  have hlow := fun g (hg : ov.ownBlock = some g) => ho2.lt g hg
  have b2 : Boxed w2 (w.heap.size + 1) 37 (.slice none 0 0) := block_stays' q2 B1.out
  have CLA := Lib.hid cla; have B2 := Lib.hid b2; have HQ2 := Lib.hid hq2; have HO2 := Lib.hid ho2; have HLOW := Lib.hid hlow
  clear cla b2 hq2 q2 ho2 hlow CCL B1 HQ1 c0
  go_wp2_with fail
  refine CLA.out.mono ?_
  rintro e w3 ⟨lv, rfl, ho3, q3⟩
  have hq3 := HQ2.out.trans q3
  have hs3 := q3.size
  have ho3' : w3.ownsRow w1.heap.size 89 2 ov ps.length (rowPs segs (ps.map (·.2))) := ownsRow_below HO2.out q3
  have b3 : Boxed w3 (w.heap.size + 1) 37 (.slice none 0 0) := block_stays' q3 B2.out
  have hll := (lastL_sub ops).length_le
  obtain ⟨la, lcap, rfl, hlc⟩ := ownsRow_lies ho3
  have hlb := fun g (hg : (Value.slice la (lastL ops).length lcap).ownBlock = some g) => (ho3.lt g hg)
  obtain ⟨ova, ocap, rfl, hoc⟩ := ownsRow_lies ho3'
  have hoc' : 0 < ps.length → ∃ g, ova = some ⟨g, 0, none⟩ := fun hp => by obtain ⟨g, e, _⟩ := hoc hp; exact ⟨g, e⟩
  have hmore : moreL ops = mAt (lastL ops) (lastL ops).length := by unfold moreL mAt; rw [List.take_length]
  have hgone : goneAll (idsL ops) ps = gAt (lastL ops) ps (lastL ops).length := by unfold gAt idsL; rw [List.take_length]
  have HMORE := Lib.hid hmore; have HGONE := Lib.hid hgone
  have hg0 : w3.ownsRow w1.heap.size 89 2 (.slice ova ps.length ocap) ps.length (rowPs segs ((gAt (lastL ops) ps 0).map (·.2))) := ho3'
  have B3 := Lib.hid b3; have HQ3 := Lib.hid hq3; have HLC := Lib.hid hlc; have HLB := Lib.hid hlb; have HOC := Lib.hid hoc'; have HG0 := Lib.hid hg0
  clear b3 hq3 q3 ho3 ho3' hlc hlb hoc hoc' hg0 CLA B2 HQ2 HO2 HVO hmore hgone
  generalize lastL ops = lops at *
  have hl50 : lops.length ≤ 50 := by omega
  clear hll
  go_wp2_with fail
  go_loopw [8, 37] (fun mv x wr => ∃ j : Nat, x = .int .i64 (j : Nat) ∧ j ≤ lops.length ∧ Hid (wr.ownsRow w1.heap.size 89 2 (.slice ova ps.length ocap) ps.length (rowPs segs ((gAt lops ps j).map (·.2)))) ∧ Hid (wr.ownsRow w3.heap.size 63 2 mv (mAt lops j).length (docVs (mAt lops j))) ∧ Hid (w3.grownBy wr (Value.slice ova ps.length ocap).ownBlock)) (fun _ x _ => lops.length - (intOf x).toNat)
  case atStart => exact ⟨0, rfl, by omega, HG0, World.ownsRow_nil _ _ _ _, gb_refl _ _⟩
  case round =>
    obtain ⟨j, rfl, hj, HO, HM, HG⟩ := hrel
    obtain ⟨wo, rfl⟩ : ∃ wo : World, wo = wr := ⟨_, rfl⟩
    have hszo := HG.out.size
    by_cases hjl : j < lops.length
    · obtain ⟨gl, rfl, hlc⟩ := HLC.out (by omega)
      obtain ⟨e0, e1, e2⟩ := opVs_at lops j hjl
      have hgl := (HLB.out gl rfl).1
      have hne : some gl ≠ (Value.slice ova ps.length ocap).ownBlock := fun e => by have := (HLOW.out gl e.symm).2; omega
      have k0 := gb_cell HG.out (hlc _ _ e0) hne
      have k1 := gb_cell HG.out (hlc _ _ e1) hne
      have k2 := gb_cell HG.out (hlc _ _ e2) hne
      have hgs := gAt_succ lops ps j hjl
      have hms := mAt_succ lops j hjl
      have hml := mAt_len lops j
      generalize lops[j] = o at *
      obtain ⟨ob, oid, otx⟩ := o
      simp only at k0 k1 k2 hgs hms
      have hnew := heap_alloc_new wo (.cells #[.bool ob, strV oid, strV otx] 65)
      have ho1 : (wo.alloc (.cells #[.bool ob, strV oid, strV otx] 65)).ownsRow w1.heap.size 89 2 (.slice ova ps.length ocap) ps.length (rowPs segs (gsIn oid (gAt lops ps j) 0)) := by rw [gsIn_zero]; exact HO.out.alloc _
      have hm1 := HM.out.alloc (.cells #[.bool ob, strV oid, strV otx] 65)
      have hg1 := gb_trans HG.out (gb_q (Value.slice ova ps.length ocap).ownBlock (Q.alloc wo (.cells #[.bool ob, strV oid, strV otx] 65)))
      have hX : wo.heap.size < (wo.alloc (.cells #[.bool ob, strV oid, strV otx] 65)).heap.size := by simp
      have HNEW := Lib.hid hnew; have HO1 := Lib.hid ho1; have HM1 := Lib.hid hm1; have HG1 := Lib.hid hg1; have HGS := Lib.hid hgs; have HMS := Lib.hid hms
      clear hlc e0 e1 e2 hne hnew ho1 hm1 hg1 hgs hms HO HM HG
      go_wp2_with fail
      obtain ⟨wb, hwb⟩ : ∃ wb, wo.alloc (.cells #[.bool ob, strV oid, strV otx] 65) = wb := ⟨_, rfl⟩
      simp only [show (Obj.cells #[Value.bool ob, Value.string { data := List.toArray oid }, Value.string { data := List.toArray otx }] 65) = .cells #[.bool ob, strV oid, strV otx] 65 from rfl, hwb]
      rw [hwb] at HNEW HO1 HM1 HG1 hX
      have hgal := gAt_length lops ps j
      go_loopw [43] (fun x wr => ∃ i : Nat, x = .int .i64 (i : Nat) ∧ i ≤ ps.length ∧ Hid (wr.ownsRow w1.heap.size 89 2 (.slice ova ps.length ocap) ps.length (rowPs segs (gsIn oid (gAt lops ps j) i))) ∧ Hid (wb.grownBy wr (Value.slice ova ps.length ocap).ownBlock)) (fun x _ => ps.length - (intOf x).toNat)
      case atStart => exact ⟨0, rfl, by omega, HO1, gb_refl _ _⟩
      case round =>
        obtain ⟨i, rfl, hi, HO, HG⟩ := hrel
        obtain ⟨wi, rfl⟩ : ∃ wi : World, wi = wr := ⟨_, rfl⟩
        have hszi := HG.out.size
        by_cases hil : i < ps.length
        · obtain ⟨go, rfl⟩ := HOC.out (by omega)
          have hi2 : i < (gAt lops ps j).length := by omega
          have hgsl := gsIn_length oid (gAt lops ps j) i (by omega)
          have hsl2 : segs.length = (gsIn oid (gAt lops ps j) i).length := by omega
          obtain ⟨e0, e1⟩ := rowPs_at segs (gsIn oid (gAt lops ps j) i) hsl2 i (by omega)
          have e2 : (gsIn oid (gAt lops ps j) i)[i]'(by omega) = (gAt lops ps j)[i].2 := by
            have := gsIn_at oid (gAt lops ps j) i hi2
            rw [List.getElem?_eq_getElem (by omega)] at this
            exact Option.some.inj this
          rw [e2] at e1
          have k0 := rowCell HO.out e0
          have k1 := rowCell HO.out e1
          have hgo := HLOW.out go rfl
          have hXw : wo.heap.size ≠ go := by omega
          have hnb0 := (cellsOf3 HNEW.out).2.1
          have hnb := gb_cell HG.out hnb0 (by simp [Value.ownBlock]; omega)
          clear hnb0
          have hall := gb_trans HG1.out HG.out
          have hbw : Below w.heap.size w wi := HQ3.out.grown hall HQ3.out.size (fun k hk => by have := (HLOW.out k hk).1; omega)
          have hsp : SegAt w (segs[i]'(by omega)) (gAt lops ps j)[i].1 (idxS (gAt lops ps j)[i].1) := (HSG.out.gone ((lops.take j).map (fun o : OpL => o.2.1))) i _ _ (List.getElem?_eq_getElem (by omega)) (List.getElem?_eq_getElem hi2)
          have hsp2 := (hsp.stays hbw).stays (Q.alloc wi (.cells #[.pointer (some ⟨segs[i]'(by omega), 0, none⟩), strV (gAt lops ps j)[i].2] 89))
          have hpok : PartOk (gAt lops ps j)[i] := goneAll_ok _ _ HOK.out _ (List.getElem_mem hi2)
          have hgn := fun hf => gsIn_none oid (gAt lops ps j) i hi2 hf
          have hgm := fun k hf => gsIn_some oid (gAt lops ps j) i hi2 k hf
          have hrs := fun x => rowPs_set segs (gsIn oid (gAt lops ps j) i) hsl2 i (by omega) x
          have hrl := rowPs_length segs (gsIn oid (gAt lops ps j) i) hsl2
          change SegAt _ _ (gAt lops ps j)[i].1 (idxS (gAt lops ps j)[i].1) at hsp2
          generalize (gAt lops ps j)[i] = pp at *
          obtain ⟨ds, gn⟩ := pp
          generalize segs[i]'(by omega) = sp at *
          simp only at k1 hsp2
          have hnx := cells2 (heap_alloc_new wi (.cells #[.pointer (some ⟨sp, 0, none⟩), strV gn] 89))
          obtain ⟨n0, n1⟩ := hnx
          have hnb2 := cell_stays (Q.alloc wi (.cells #[.pointer (some ⟨sp, 0, none⟩), strV gn] 89)) hnb
          have ho2 := HO.out.alloc (.cells #[.pointer (some ⟨sp, 0, none⟩), strV gn] 89)
          have hg2 := gb_trans HG.out (gb_q (Value.slice (some ⟨go, 0, none⟩) ps.length ocap).ownBlock (Q.alloc wi (.cells #[.pointer (some ⟨sp, 0, none⟩), strV gn] 89)))
          have hfn := findL_some ds oid
          have hqf := fun o hf n => quiet_find sp ds (idxS ds) oid _ hsp2 hpok.1.2 o hf n
          have HO2 := Lib.hid ho2; have HG2 := Lib.hid hg2; have HFN := Lib.hid hfn; have HGN := Lib.hid hgn; have HGM := Lib.hid hgm; have HRS := Lib.hid hrs; have HPOK := Lib.hid hpok; have HQF := Lib.hid hqf
          have hrl2 : i * 2 + 1 < (rowPs segs (gsIn oid (gAt lops ps j) i)).length := by omega
          have HRL := Lib.hid hrl2
          clear e0 e1 e2 hall hbw hsp hsp2 hpok hgn hgm hrs hrl hrl2 ho2 hg2 hfn hqf hnb hgsl hsl2
          cases hf : findL ds oid with
          | none =>
            have hq := HQF.out none hf
            have hgn := HGN.out hf
            have QF := Lib.hid hq; have HGN2 := Lib.hid hgn; have HF := Lib.hid hf
            clear hq hgn hf
            go_wp2_with fail
            go_quiet ((go_at_call 55; exact Calls.quiet_of_same (QF.out _)))
            go_wp2_with fail
            go_roundw
            case rel => exact ⟨i + 1, by go_num, by omega, by show World.ownsRow _ _ _ _ _ _ _; rw [HGN2.out]; exact HO2.out, gb_trans HG2.out (gb_q _ (Q.drewN _ _))⟩
            case measure => simp [intOf]; omega
          | some k =>
            have hq := HQF.out (some k) hf
            simp only [Option.getD_some, Option.isSome_some] at hq
            have hgm := HGM.out k hf
            obtain ⟨d0, hd0, _⟩ := HFN.out k hf
            have hkl : k < ds.length := (List.getElem?_eq_some_iff.1 hd0).1
            have hgl2 : gn.length = (ds.length + 7) / 8 := HPOK.out.2.2.2
            have hdl : ds.length ≤ 500 := HPOK.out.2.2.1
            have cs := fun W => set_ok gn k 1 true W (by omega) (by omega)
            have QF := Lib.hid hq; have HGM2 := Lib.hid hgm; have HF := Lib.hid hf; have CS := Lib.hid cs; have HGL := Lib.hid hgl2
            clear hq hgm hf hd0 cs hgl2
            go_wp2_with fail
            go_quiet ((go_at_call 55; exact Calls.quiet_of_same (QF.out _)))
            go_wp2_with fail
            refine (CS.out _).mono ?_
            rintro e w5 ⟨rfl, q5⟩
            have o5 := ownsRow_below HO2.out ((Q.drewN _ _).trans q5)
            have k5 : w5.cell? ⟨go, i * 2 + 1, none⟩ = some (strV gn) := cell_stays ((Q.alloc _ _).trans ((Q.drewN _ _).trans q5)) k1
            have f5 := rowFrozen o5 (i * 2 + 1)
            have o6 := owns_setAt o5 (i * 2 + 1) HRL.out (strV (setTo gn k true 1))
            rw [HRS.out, ← HGM2.out] at o6
            have g6 := gb_trans HG2.out (gb_trans (gb_q _ ((Q.drewN _ _).trans q5)) (grownBy_setCellAt w5 go (i * 2 + 1) (strV (setTo gn k true 1))))
            have O6 := Lib.hid o6; have G6 := Lib.hid g6
            clear o5 o6 g6 q5
            go_wp2_with fail
            go_roundw
            case rel => exact ⟨i + 1, by go_num, by omega, O6, G6⟩
            case measure => simp [intOf]; omega
        · have hie : i = ps.length := by omega
          subst hie
          have ho7 := HO.out
          rw [← hgal, gsIn_all, ← HGS.out, hgal] at ho7
          have hm7 := HM1.out.kept HG.out (by
            cases hb : u8.ownBlock with
            | none => exact .inl rfl
            | some g =>
              right
              intro e
              have x1 := (HM1.out.lt g hb).1
              have x2 := (HLOW.out g e.symm).2
              omega)
          have hg7 := gb_trans HG1.out HG.out
          obtain ⟨d0, d1, d2⟩ := cellsOf3 HNEW.out
          have hXne : some wo.heap.size ≠ (Value.slice ova ps.length ocap).ownBlock := fun e => by have := (HLOW.out _ e.symm).2; omega
          have m0 := gb_cell HG.out d0 hXne
          have m1 := gb_cell HG.out d1 hXne
          have m2 := gb_cell HG.out d2 hXne
          have O7 := Lib.hid ho7; have M7 := Lib.hid hm7; have G7 := Lib.hid hg7
          have hsz7 := hg7.size
          clear ho7 hm7 hg7 d0 d1 d2 hXne HO HG HNEW
          cases ob with
          | true =>
            have hms := HMS.out
            rw [if_pos rfl, List.append_nil] at hms
            have HMS2 := Lib.hid hms; clear hms
            go_wp2_with fail
            go_roundw
            case rel => exact ⟨j + 1, by go_num, by omega, O7, by show World.ownsRow _ _ _ _ _ _ _; rw [HMS2.out]; exact M7.out, G7⟩
            case measure => simp [intOf]; omega
          | false =>
            have hms := HMS.out
            rw [if_neg (by simp)] at hms
            have hone : ∀ u ∈ (#[strV oid, strV otx] : Array Value).toList, u.oneCell' = true := by simp [Value.oneCell']
            have hbytes : ((mAt lops j).length + 1) * 32 ≤ 140737488355328 := by omega
            have hm8 := M7.out
            have HMS2 := Lib.hid hms; clear hms
            go_wp2_with (at_builtin; go_must (refine wpList_app wi (by rfl) _ _ 43 (by rfl) w3.heap.size 63 _ idd (.agg #[strV [], strV []]) 2 32 Tryz.underlying43 hid hdz0 hdz1 hdz2 rfl (by decide) (by decide) _ _ _ (by rfl) hm8 #[strV oid, strV otx] (by rfl) rfl hone hbytes hsz7 ?_))
            intro g capg W1 ho4 hg4 hat4 _ _
            have hmne : u8.ownBlock = none ∨ (Value.slice ova ps.length ocap).ownBlock ≠ u8.ownBlock := by
              cases hb : u8.ownBlock with
              | none => exact .inl rfl
              | some g =>
                right
                intro e
                have x1 := (hm8.lt g hb).1
                have x2 := (HLOW.out g e).2
                omega
            have o9 : W1.ownsRow w1.heap.size 89 2 (.slice ova ps.length ocap) ps.length (rowPs segs ((gAt lops ps (j + 1)).map (·.2))) := O7.out.kept hg4 (by
              rcases hmne with e | e
              · rw [e]
                cases hb : (Value.slice ova ps.length ocap).ownBlock with
                | none => exact .inl rfl
                | some g => right; simp
              · exact .inr e)
            have g9 : w3.grownBy W1 (Value.slice ova ps.length ocap).ownBlock :=
              ⟨hg4.os.trans G7.out.os, hg4.tape.trans G7.out.tape, hg4.output.trans G7.out.output, Nat.le_trans G7.out.size hg4.size, fun k hk hne => (hg4.block k (Nat.lt_of_lt_of_le hk G7.out.size) (fun e => by
                have x1 := (hm8.lt k e.symm).1
                omega)).trans (G7.out.block k hk hne)⟩
            have m9 : W1.ownsRow w3.heap.size 63 2 (.slice (some ⟨g, 0, none⟩) ((mAt lops j).length + 1) capg) (mAt lops (j + 1)).length (docVs (mAt lops (j + 1))) := by
              rw [HMS2.out, docVs_append, List.length_append]; exact ho4
            have O9 := Lib.hid o9; have G9 := Lib.hid g9; have M9 := Lib.hid m9
            clear o9 g9 m9 ho4 hg4 hat4 hm8 hmne
            go_wp2_with fail
            go_roundw
            case rel => exact ⟨j + 1, by go_num, by omega, O9, M9, G9⟩
            case measure => simp [intOf]; omega
    · have hje : j = lops.length := by omega
      subst hje
      have ho := HO.out
      have hm := HM.out
      rw [← HGONE.out] at ho
      rw [← HMORE.out] at hm
      have hgl : (goneAll (idsL ops) ps).length = ps.length := goneAll_length _ _
      have hbw : Below w.heap.size w wo := HQ3.out.grown HG.out HQ3.out.size (fun k hk => by have := (HLOW.out k hk).1; omega)
      have hXne : some (w.heap.size + 1) ≠ (Value.slice ova ps.length ocap).ownBlock := fun e => by have := (HLOW.out _ e.symm).1; omega
      have b5 : Boxed wo (w.heap.size + 1) 37 (.slice none 0 0) := B3.out.kept HG.out hXne
      have hsg5 := (HSG.out.gone (idsL ops)).stays hbw
      have hml : (moreL ops).length ≤ 50 := by
        rw [HMORE.out]; have := mAt_len lops lops.length; omega
      have hw1o : w1.heap.size ≤ wo.heap.size := by omega
      have HO5 := Lib.hid ho; have HM5 := Lib.hid hm; have HBW := Lib.hid hbw; have B5 := Lib.hid b5; have HSG5 := Lib.hid hsg5
      clear ho hm hbw hXne b5 hsg5 HO HM HG HGONE HMORE B3
      have hidx := idx_eq (moreL ops)
      have hfl : freshL (moreL ops) = if moreL ops = [] then ([], []) else ([(moreL ops, makeL (moreL ops).length)], segE (moreL ops) (idxS (moreL ops))) := by unfold freshL; rw [hidx]
      clear hidx
      obtain ⟨ma, mcap, hmv, _⟩ := owns_value HM5.out
      obtain ⟨ml, hml0⟩ : ∃ ml, ml = moreL ops := ⟨_, rfl⟩
      rw [← hml0] at hfl HM5 hml HMOK hmv
      have HML0 := Lib.hid hml0
      have HFL := Lib.hid hfl; clear hfl hml0
      by_cases hem : ml = []
      · subst hem
        have hfl := HFL.out
        rw [if_pos rfl] at hfl
        have HFL2 := Lib.hid hfl; clear hfl
        subst hmv
        have cfn := fun W => Fresh_none ma mcap W
        have ho := HO5.out
        have hsn : Sl wo (.slice none 0 0) 0 2 [] := Sl.nil wo 2
        have hone : ∀ u ∈ ([] : List Value), u.oneCell' = true := by simp
        have h63 : ps.length + 0 ≤ maxLen := by unfold maxLen; omega
        have hbytes : (ps.length + 0) * 24 ≤ 140737488355328 := by omega
        go_wp2_with fail
        refine (cfn _).mono ?_
        rintro e w6 ⟨rfl, rfl⟩
        go_wp2_with (at_builtin; go_must (refine wpList_append_sl wo (by rfl) _ _ 35 (by rfl) w1.heap.size 89 ip (.agg #[.pointer none, strV []]) 2 24 Tryz.underlying35 hip hpz0 hpz1 hpz2 rfl (by decide) _ _ _ (by rfl) ho _ _ _ (by rfl) hsn hone h63 hbytes hw1o ?_))
        intro v' w7 ho7 hg7 hat7
        obtain ⟨xa, xcap, rfl, _⟩ := owns_value ho7
        have hXne : some (w.heap.size + 1) ≠ (Value.slice ova ps.length ocap).ownBlock := fun e => by have := (HLOW.out _ e.symm).1; omega
        have b7 := B5.out.kept hg7 hXne
        have c7 := b7.cell; have f7 := b7.frozen
        have hb7 : Below w.heap.size w w7 := HBW.out.grown hg7 HBW.out.size (fun k hk => by have := (HLOW.out k hk).1; omega)
        have hsg7 := (HSG.out.gone (idsL ops)).stays hb7
        have hpa : PartsAt w7 (.slice xa ps.length xcap) (goneAll (idsL ops) ps) := PartsAt.owns segs (by omega) hsg7 (by rw [hgl]; exact ho7)
        have hpb := PartsAt.setBox b7 (.slice xa ps.length xcap) hpa (by decide)
        have r7 := (b7.set (.slice xa ps.length xcap)).cell
        have HPB := Lib.hid hpb; have HB7 := Lib.hid hb7; have R7 := Lib.hid r7
        clear hpa hpb hb7 hsg7 b7 ho7 hg7 hat7 hXne r7 ho hsn
        go_wp2_with fail
        refine bodyPost_ret (v := .tuple #[liveV (.slice xa ps.length xcap), strV [], .int .i64 0]) (by simp [results, Tryz.results30, go_sem, R7.out]) rfl ⟨⟨.slice xa ps.length xcap, by rw [← HML0.out, HFL2.out], by rw [← HML0.out, HFL2.out, List.append_nil]; exact HPB.out⟩, HB7.out.setCell (by simp) _⟩
      · have hfl := HFL.out
        rw [if_neg hem] at hfl
        have hl1 : ¬ (ml.length < 1 ∨ 500 < ml.length) := by have := List.length_pos_iff.2 hem; omega
        have cf := Fresh_some u8 ml wo (Sl.of_owns HM5.out) hl1 HMOK.out (HT.out.stays HBW.out) (HSP.out.stays HBW.out)
        have HFL2 := Lib.hid hfl; have CF := Lib.hid cf
        clear hfl cf hl1 hem
        subst hmv
        go_wp2_with fail
        refine CF.out.mono ?_
        rintro e w6 ⟨⟨g, p, rfl, hpt, hsa⟩, q6⟩
        have ho := ownsRow_below HO5.out q6
        have hone := partVs_one [(p, makeL ml.length)]
        have h63 : ps.length + 1 ≤ maxLen := by unfold maxLen; omega
        have hbytes : (ps.length + 1) * 24 ≤ 140737488355328 := by omega
        have hbw6 := HBW.out.trans (Below.mono q6 HBW.out.size)
        have hsz6 := q6.size
        have hw16 : w1.heap.size ≤ w6.heap.size := by omega
        have b6 : Boxed w6 (w.heap.size + 1) 37 (.slice none 0 0) := block_stays' q6 B5.out
        have HPT := Lib.hid hpt; have HSA := Lib.hid hsa; have HBW6 := Lib.hid hbw6; have B6 := Lib.hid b6
        have hp6 : Sl w6 (.slice (some ⟨g, 0, none⟩) 1 1) 1 2 (partVs [(p, makeL ml.length)]) := hpt
        clear hpt hsa hbw6 b6 q6 CF
        go_wp2_with (at_builtin; go_must (refine wpList_append_sl w6 (by rfl) _ _ 35 (by rfl) w1.heap.size 89 ip (.agg #[.pointer none, strV []]) 2 24 Tryz.underlying35 hip hpz0 hpz1 hpz2 rfl (by decide) _ _ _ (by rfl) ho _ _ _ (by rfl) hp6 hone h63 hbytes hw16 ?_))
        intro v' w7 ho7 hg7 hat7
        obtain ⟨xa, xcap, rfl, _⟩ := owns_value ho7
        have hXne : some (w.heap.size + 1) ≠ (Value.slice ova ps.length ocap).ownBlock := fun e => by have := (HLOW.out _ e.symm).1; omega
        have b7 := B6.out.kept hg7 hXne
        have c7 := b7.cell; have f7 := b7.frozen
        have hb7 : Below w.heap.size w w7 := HBW6.out.grown hg7 HBW6.out.size (fun k hk => by have := (HLOW.out k hk).1; omega)
        have hsg7 := (HSG.out.gone (idsL ops)).stays hb7
        have hsp7 : SegAt w7 p ml (idxS ml) := HSA.out.kept hg7 (fun X e => by obtain ⟨cs, hc⟩ := owns_kind ho X e; exact ⟨cs, _, _, hc, by decide, by decide⟩)
        have hsgs : SegsAt w7 (segs ++ [p]) (goneAll (idsL ops) ps ++ [(ml, makeL ml.length)]) := by
          intro i x q hx hq
          by_cases hi : i < segs.length
          · rw [List.getElem?_append_left hi] at hx
            rw [List.getElem?_append_left (by omega)] at hq
            exact hsg7 i x q hx hq
          · rw [List.getElem?_append_right (by omega)] at hx
            rw [List.getElem?_append_right (by omega), hgl, ← hsl] at hq
            cases hi2 : i - segs.length with
            | zero => rw [hi2] at hx hq; simp at hx hq; subst hx; subst hq; exact hsp7
            | succ k => rw [hi2] at hx; simp at hx
        have hrow : rowPs (segs ++ [p]) ((goneAll (idsL ops) ps ++ [(ml, makeL ml.length)]).map (·.2)) = rowPs segs ((goneAll (idsL ops) ps).map (·.2)) ++ [.pointer (some ⟨p, 0, none⟩), strV (makeL ml.length)] := by
          rw [List.map_append, rowPs_append _ _ _ _ (by simp; omega)]; rfl
        have hpa : PartsAt w7 (.slice xa (ps.length + 1) xcap) (goneAll (idsL ops) ps ++ [(ml, makeL ml.length)]) := PartsAt.owns (base := w1.heap.size) (segs ++ [p]) (by simp; omega) hsgs (by rw [hrow, List.length_append, hgl]; exact ho7)
        have hpb := PartsAt.setBox b7 (.slice xa (ps.length + 1) xcap) hpa (by decide)
        have r7 := (b7.set (.slice xa (ps.length + 1) xcap)).cell
        have HPB := Lib.hid hpb; have HB7 := Lib.hid hb7; have R7 := Lib.hid r7
        clear hpa hpb hb7 hsg7 b7 ho7 hg7 hat7 hXne r7 ho hp6 hsp7 hsgs hrow
        go_wp2_with fail
        refine bodyPost_ret (v := .tuple #[liveV (.slice xa (ps.length + 1) xcap), strV (segE ml (idxS ml)), .int .i64 0]) (by simp [results, Tryz.results30, go_sem, R7.out]) rfl ⟨⟨.slice xa (ps.length + 1) xcap, by rw [← HML0.out, HFL2.out], by rw [← HML0.out, HFL2.out]; exact HPB.out⟩, HB7.out.setCell (by simp) _⟩
theorem Apply_any (v : Value) (ps : List PartL) (vo : Value) (ops : List OpL) (w : World) (hv : PartsAt w v ps) (hvo : Ops w vo ops) (hon : ops.length ≤ 1000000) (hl : ∀ o ∈ ops, o.2.1.length ≤ 9223372036854775807 ∧ o.2.2.length ≤ 9223372036854775807)
    (hn : ps.length ≤ 1000000) (hok : ∀ p ∈ ps, PartOk p) (hT : Tabs w) (hSp : Spans w) :
    Calls Tryz.prog 30 #[liveV v, vo] w fun e w' => (∃ v', e = .returned (.tuple #[liveV v', strV (applyL ps ops).2.1, .int .i64 (applyL ps ops).2.2]) ∧ PartsAt w' v' (applyL ps ops).1) ∧ Q w w' := by
  by_cases h : ops.length < 1 ∨ 50 < ops.length
  · have e : applyL ps ops = (ps, [], 6) := by unfold applyL; rw [if_pos h]
    rw [e]
    obtain ⟨a, cap, rfl, _⟩ := hv.value
    obtain ⟨oa, oc, rfl, _⟩ := hvo.value
    refine (Apply_many a ps.length cap oa ops.length oc w h hon).mono ?_
    rintro e w' ⟨rfl, q⟩
    exact ⟨⟨_, rfl, hv.stays q⟩, q⟩
  · cases hr : ops.all opRight with
    | true =>
      have e : applyL ps ops = (goneAll (idsL ops) ps ++ (freshL (moreL ops)).1, (freshL (moreL ops)).2, 0) := by unfold applyL; rw [if_neg h, if_pos hr]
      rw [e]
      exact Apply_run v ps vo ops w hv hvo h hl hn hok hT hSp hr
    | false =>
      have e : applyL ps ops = (ps, [], 1) := by unfold applyL; rw [if_neg h, if_neg (by rw [hr]; simp)]
      rw [e]
      obtain ⟨a, cap, rfl, _⟩ := hv.value
      refine (Apply_arg a ps.length cap vo ops w hvo h hl hT hr).mono ?_
      rintro e w' ⟨rfl, q⟩
      exact ⟨⟨_, rfl, hv.stays q⟩, q⟩
end Go.Proofs.YtcflpcpkmhljkaaGreatDoor
end
