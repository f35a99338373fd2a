/- codexlaw15.LiveEmpties: walked. -/
import Derived.Test.YtepofekepagfhaaGreatDoorMWShown15ToTabs
import Derived.Test.YtepofekepagfhaaGreatDoorMWLaw15aToWShownT
import Derived.Test.YtepofekepagfhaaGreatDoorMLive2ToWMerge
set_option linter.unusedSimpArgs false
set_option linter.unusedVariables false
set_option linter.unnecessarySimpa false
namespace Go.Proofs.YtepofekepagfhaaGreatDoor
open Go.RowKit
set_option linter.unusedVariables false

/-- the parts when the first k documents are deleted -/
def emK (ps : List PartL) (ds : List DocL) (k : Nat) : List PartL := (ds.take k).foldl (fun q d => (applyL q [(true, (d.1, []))]).1) ps
theorem emK_succ (ps : List PartL) (ds : List DocL) (k : Nat) (h : k < ds.length) : emK ps ds (k + 1) = (applyL (emK ps ds k) [(true, (ds[k].1, []))]).1 := by
  unfold emK
  rw [List.take_succ_eq_append_getElem h, List.foldl_append]; rfl
theorem emK_facts (ps : List PartL) (h : PartsOk ps) (k : Nat) (hk : k ≤ (docsL ps).length) : PartsOk (emK ps (docsL ps) k) ∧ (emK ps (docsL ps) k).length = ps.length ∧
    ∀ x, x ∈ liveL (emK ps (docsL ps) k) ↔ x ∈ liveL ps ∧ x.1 ∉ ((docsL ps).take k).map (·.1) := by
  induction k with
  | zero => exact ⟨h, rfl, fun x => by simp [emK]⟩
  | succ k ih =>
    obtain ⟨h1, h2, h3⟩ := ih (by omega)
    have hlt : k < (docsL ps).length := by omega
    have hnd := nodup_docsL ps h.2
    have hin : (docsL ps)[k] ∈ liveL (emK ps (docsL ps) k) := (h3 _).2 ⟨(mem_docsL ps h.2 _).1 (List.getElem_mem hlt), fun hm => by
      obtain ⟨y, hy, e⟩ := List.mem_map.1 hm
      obtain ⟨j, hj, e2⟩ := List.mem_iff_getElem.1 hy
      rw [List.length_take] at hj
      rw [List.getElem_take] at e2
      have hjl : j < (docsL ps).length := by omega
      have := (List.getElem_inj (h₀ := by simpa using hjl) (h₁ := by simpa using hlt) hnd (i := j) (j := k)).1 (by simp [e2, e])
      omega⟩
    obtain ⟨_, d2, d3⟩ := delete_one _ _ h1 hin
    rw [emK_succ _ _ _ hlt]
    refine ⟨apply_ok _ _ h1, by rw [d2, h2], fun x => ?_⟩
    rw [d3, h3, List.take_succ_eq_append_getElem hlt, List.map_append, List.mem_append, not_or]
    simp [and_assoc]
theorem emK_step (ps : List PartL) (h : PartsOk ps) (k : Nat) (hk : k < (docsL ps).length) :
    (applyL (emK ps (docsL ps) k) [(true, ((docsL ps)[k].1, []))]).2 = ([], 0) ∧ (liveM (applyL (emK ps (docsL ps) k) [(true, ((docsL ps)[k].1, []))]).1).length + 1 = (liveM (emK ps (docsL ps) k)).length := by
  obtain ⟨h1, h2, h3⟩ := emK_facts ps h k (by omega)
  obtain ⟨h4, h5, h6⟩ := emK_facts ps h (k + 1) (by omega)
  have hin : (docsL ps)[k] ∈ liveL (emK ps (docsL ps) k) := (h3 _).2 ⟨(mem_docsL ps h.2 _).1 (List.getElem_mem hk), fun hm => by
    obtain ⟨y, hy, e⟩ := List.mem_map.1 hm
    obtain ⟨j, hj, e2⟩ := List.mem_iff_getElem.1 hy
    rw [List.length_take] at hj
    rw [List.getElem_take] at e2
    have hjl : j < (docsL ps).length := by omega
    have := (List.getElem_inj (h₀ := by simpa using hjl) (h₁ := by simpa using hk) (nodup_docsL ps h.2) (i := j) (j := k)).1 (by simp [e2, e])
    omega⟩
  exact ⟨(delete_one _ _ h1 hin).1, delete_many _ _ h1 hin⟩
theorem emK_end (ps : List PartL) (h : PartsOk ps) : docsL (emK ps (docsL ps) (docsL ps).length) = [] ∧ (liveM (emK ps (docsL ps) (docsL ps).length)).length = 0 := by
  obtain ⟨h1, _, h3⟩ := emK_facts ps h (docsL ps).length (Nat.le_refl _)
  have e : docsL (emK ps (docsL ps) (docsL ps).length) = [] := by
    refine List.eq_nil_iff_forall_not_mem.2 (fun x hx => ?_)
    have := (h3 x).1 ((mem_docsL _ h1.2 x).1 hx)
    rw [List.take_length] at this
    exact this.2 (List.mem_map.2 ⟨x, (mem_docsL ps h.2 x).2 this.1, rfl⟩)
  exact ⟨e, by rw [many_eq _ h1.2, e]; rfl⟩
theorem em_merge (qs : List PartL) (h : PartsOk qs) (hn : 2 ≤ qs.length) (hd : docsL qs = []) : mergeL qs 0 ((qs.length : Int) - 1) = ([], [], 0) := by
  rw [merge_all qs h hn, hd]; rfl
structure EmSt (w W : World) (X : Nat) (v : Value) (ps : List PartL) (vd : Value) (ds : List DocL) : Prop where
  p : PartsAt W v ps
  b : Boxed W X 30 v
  d : Docs W vd ds
  q : Q w W
  x : w.heap.size ≤ X
theorem EmSt.stays {w W W' : World} {X : Nat} {v : Value} {ps : List PartL} {vd : Value} {ds : List DocL} (h : EmSt w W X v ps vd ds) (q : Q W W') : EmSt w W' X v ps vd ds :=
  ⟨h.p.stays q, block_stays' q h.b, h.d.stays q, h.q.trans q, h.x⟩
theorem EmSt.al {w W : World} {X : Nat} {v : Value} {ps : List PartL} {vd : Value} {ds : List DocL} {o : Obj} (h : EmSt w W X v ps vd ds) : EmSt w (W.alloc o) X v ps vd ds := h.stays (Q.alloc _ _)
theorem EmSt.dr {w W : World} {X : Nat} {v : Value} {ps : List PartL} {vd : Value} {ds : List DocL} (h : EmSt w W X v ps vd ds) : EmSt w W.drew X v ps vd ds := h.stays (Q.drew _)
theorem docVs_str (ds : List DocL) : ∀ x ∈ docVs ds, ∃ s, x = strV s := by
  intro x hx
  unfold docVs at hx
  obtain ⟨d, _, hd⟩ := List.mem_flatMap.1 hx
  simp only [List.mem_cons, List.not_mem_nil, or_false] at hd
  rcases hd with rfl | rfl
  · exact ⟨_, rfl⟩
  · exact ⟨_, rfl⟩
theorem EmSt.setBox {w W : World} {X : Nat} {v : Value} {ps : List PartL} {vd : Value} {ds : List DocL} (h : EmSt w W X v ps vd ds) {Y : Nat} {a : Option Addr} {n c : Nat} (hb : Boxed W Y 30 (.slice a n c)) (u : Value) (hY : X ≠ Y) (hw : w.heap.size ≤ Y) : EmSt w (W.setCell ⟨Y, 0, none⟩ u) X v ps vd ds :=
  ⟨PartsAt.setBox hb u h.p (by decide), (set_far W u hY).trans h.b, Sl.setBox hb u h.d (by decide) (fun x hx e => by obtain ⟨s, hs⟩ := docVs_str ds x hx; rw [hs] at e; cases e), h.q.setCell hw _, h.x⟩
/-- the box itself is turned -/
theorem EmSt.turn {w W : World} {X : Nat} {a : Option Addr} {n c : Nat} {ps : List PartL} {vd : Value} {ds : List DocL} (h : EmSt w W X (.slice a n c) ps vd ds) {u : Value} {qs : List PartL} (hu : PartsAt W u qs) : EmSt w (W.setCell ⟨X, 0, none⟩ u) X u qs vd ds :=
  ⟨PartsAt.setBox h.b u hu (by decide), h.b.set u, Sl.setBox h.b u h.d (by decide) (fun x hx e => by obtain ⟨s, hs⟩ := docVs_str ds x hx; rw [hs] at e; cases e), h.q.setCell h.x _, h.x⟩
structure EmSt2 (w W : World) (X Y : Nat) (v1 v2 : Value) (p1 p2 : List PartL) (vd : Value) (ds : List DocL) : Prop where
  e : EmSt w W X v1 p1 vd ds
  p2 : PartsAt W v2 p2
  b2 : Boxed W Y 30 v2
theorem EmSt2.stays {w W W' : World} {X Y : Nat} {v1 v2 : Value} {p1 p2 : List PartL} {vd : Value} {ds : List DocL} (h : EmSt2 w W X Y v1 v2 p1 p2 vd ds) (q : Q W W') : EmSt2 w W' X Y v1 v2 p1 p2 vd ds :=
  ⟨h.e.stays q, h.p2.stays q, block_stays' q h.b2⟩
theorem EmSt2.dr {w W : World} {X Y : Nat} {v1 v2 : Value} {p1 p2 : List PartL} {vd : Value} {ds : List DocL} (h : EmSt2 w W X Y v1 v2 p1 p2 vd ds) : EmSt2 w W.drew X Y v1 v2 p1 p2 vd ds := h.stays (Q.drew _)
theorem EmSt.dcell {w W : World} {X : Nat} {v : Value} {ps : List PartL} {b off c : Nat} {ds : List DocL} (n : Nat) (hn : n = ds.length) (h : EmSt w W X v ps (.slice (some ⟨b, off, none⟩) n c) ds) (k : Nat) (hk : k < ds.length) {i : Bytes} (hi : ds[k].1 = i) : W.cell? ⟨b, off + k * 2, none⟩ = some (strV i) := by
  obtain ⟨a, cap, e, hc⟩ := Docs.value h.d
  obtain ⟨b', o', ha, hj⟩ := hc (by omega)
  cases e
  cases ha
  rw [← hi]
  exact (hj k hk).1
noncomputable def empties10 : Code := ((Tryz.f5.body.bind (findRegion 10)).getD .skip)
set_option maxRecDepth 100000 in
set_option maxHeartbeats 4000000 in
theorem empties10_wp (w W0 : World) (X b off c5 np pc k n5 : Nat) (pa : Option Addr) (qs p2 : List PartL) (ds : List DocL) (i : Bytes) (hS : EmSt w W0 X (.slice pa np pc) qs (.slice (some ⟨b, off, none⟩) n5 c5) ds) (hn5 : n5 = ds.length) (hkl : k < ds.length) (hki : ds[k].1 = i) (hq1 : qs.length ≤ 1000000) (hq2 : PartsOk qs) (hil : i.length ≤ 9223372036854775807)
    (he : applyL qs [(true, (i, []))] = (p2, [], 0)) (hp2l : p2.length = np) (hT : Tabs w) (hSp : Spans w) (Qx : Exit → Act → World → Prop) (x0 x1 x2 x3 x4 x8 x9 x10 x11 x12 x13 x14 x15 x16 x17 x18 x19 x20 x21 x22 x23 x24 x25 x26 x27 x28 x29 x30 x31 x32 x33 x34 x35 x36 x37 x38 x39 x40 x41 x42 x43 x44 x45 x46 x47 x48 x49 x50 x51 x52 x53 x54 x55 x56 x57 x58 x59 x60 x61 x62 x63 x64 x65 x66 x67 x68 x69 x70 x71 x72 x73 x74 x75 x76 x77 x78 x79 x80 x81 x82 x83 x84 x85 x86 x87 x88 x89 x90 x91 x92 x93 x94 x95 x96 x97 x98 x99 x100 x101 x102 x103 x104 x105 : Value)
    (hQ : ∀ W Y a2 c2 z35 z36 z37 z38 z39 z40 z41 z42 z43 z44 z45 z46 z47, EmSt2 w W X Y (.slice pa np pc) (.slice a2 np c2) qs p2 (.slice (some ⟨b, off, none⟩) n5 c5) ds → Qx .normal ⟨#[x0, x1, x2, x3, x4, .pointer (some ⟨X, 0, none⟩), .slice (some ⟨b, off, none⟩) n5 c5, .int .i64 (k : Nat), .pointer (some ⟨Y, 0, none⟩), strV [], .int .i64 0, x11, x12, x13, x14, x15, x16, x17, x18, x19, x20, x21, x22, x23, x24, x25, x26, x27, x28, x29, x30, x31, x32, x33, x34, z35, z36, z37, z38, z39, z40, z41, z42, z43, z44, z45, z46, z47, x48, x49, x50, x51, x52, x53, x54, x55, x56, x57, x58, x59, x60, x61, x62, x63, x64, x65, x66, x67, x68, x69, x70, x71, x72, x73, x74, x75, x76, x77, x78, x79, x80, x81, x82, x83, x84, x85, x86, x87, x88, x89, x90, x91, x92, x93, x94, x95, x96, x97, x98, x99, x100, x101, x102, x103, x104, x105], []⟩ W) :
    empties10.wp Tryz.prog Qx ⟨#[x0, x1, x2, x3, x4, .pointer (some ⟨X, 0, none⟩), .slice (some ⟨b, off, none⟩) n5 c5, .int .i64 (k : Nat), x8, x9, x10, x11, x12, x13, x14, x15, x16, x17, x18, x19, x20, x21, x22, x23, x24, x25, x26, x27, x28, x29, x30, x31, x32, x33, x34, x35, x36, x37, x38, x39, x40, x41, x42, x43, x44, x45, x46, x47, x48, x49, x50, x51, x52, x53, x54, x55, x56, x57, x58, x59, x60, x61, x62, x63, x64, x65, x66, x67, x68, x69, x70, x71, x72, x73, x74, x75, x76, x77, x78, x79, x80, x81, x82, x83, x84, x85, x86, x87, x88, x89, x90, x91, x92, x93, x94, x95, x96, x97, x98, x99, x100, x101, x102, x103, x104, x105], []⟩ W0 := by
  subst hn5
  have k1 := hS.b.cell
  have k2 := hS.dcell _ rfl k hkl hki
  have hlt0 := hS.b.lt
  have hbl0 := cell_lt k2
  simp only at hbl0
  have hsz0 := hS.q.size
  have hi0 : (0 : Int) ≤ (k : Int) := by omega
  have hi1 : (k : Int) < (ds.length : Int) := by omega
  have KK := Lib.hid hS; have HT := Lib.hid hT; have HSP := Lib.hid hSp; have HQX := Lib.hid hQ
  have cap2 : ∀ W ov, EmSt w W X (.slice pa np pc) qs (.slice (some ⟨b, off, none⟩) ds.length c5) ds → Ops W ov [(true, (i, []))] → Calls Tryz.prog 19 #[liveV (.slice pa np pc), ov] W fun e w' => (∃ a c, e = .returned (.tuple #[liveV (.slice a np c), strV [], .int .i64 0]) ∧ PartsAt w' (.slice a np c) p2) ∧ Q W w' := by
    intro W ov s o
    refine (Apply_any _ qs ov _ W s.p o (by simp) (by intro o ho; rw [List.mem_singleton] at ho; subst ho; exact ⟨hil, by simp⟩) hq1 hq2.1 (HT.out.stays s.q) (HSP.out.stays s.q)).mono ?_
    rw [he]
    rintro e w' ⟨⟨v', rfl, hp⟩, q⟩
    obtain ⟨a, c, rfl, _⟩ := hp.value
    rw [← hp2l]
    exact ⟨⟨a, c, rfl, hp⟩, q⟩
  have CAP2 := Lib.hid cap2
  clear cap2 hS hT hSp hQ
  conv => arg 2; whnf
  have hmx : Tryz.prog.follows .mixedOrders = true := by kernel_rfl
  refine wp_region_noPanic ?_
  go_region_held3 (fun w' => w'.cell? ⟨X, 0, none⟩ = some (.slice pa np pc) ∧ w'.cell? ⟨b, off + k * 2, none⟩ = some (strV i)) (first | exact ⟨k1, k2⟩ | exact ⟨(EmSt.b (by repeat (first | with_reducible exact KK.out | with_reducible apply EmSt.al | with_reducible apply EmSt.dr))).cell, EmSt.dcell _ rfl (by repeat (first | with_reducible exact KK.out | with_reducible apply EmSt.al | with_reducible apply EmSt.dr)) k hkl hki⟩ | exact ⟨(World.cell?_setCell_other _ _ _ _ (by simp <;> omega)).trans KK.out.b.cell, (World.cell?_setCell_other _ _ _ _ (by simp <;> omega)).trans (KK.out.dcell _ rfl k hkl hki)⟩)
    (first
      | (go_at_call 22; refine (gone_any i _).mono ?_; rintro e w' ⟨rfl, q⟩; (try (have hbx : Boxed _ _ 30 (.slice none 0 0) := (by first | exact block_stays' q HBX.out | exact block_stays' q (Boxed.alloc HBX.out _) | exact block_stays' q (World.alloc_heap_new _ _) | exact block_stays' q (Boxed.alloc (World.alloc_heap_new _ _) _)); have cb := hbx.cell; have fb := hbx.frozen; (try simp only [World.size_alloc, drewSize] at cb fb hbx); have HBX := Lib.hid hbx; clear hbx)); have s' : EmSt w w' X (.slice pa np pc) qs (.slice (some ⟨b, off, none⟩) ds.length c5) ds := EmSt.stays (by repeat (first | with_reducible exact KK.out | with_reducible apply EmSt.al | with_reducible apply EmSt.dr)) q; clear KK; have KK := Lib.hid s'; have hlt := s'.b.lt; have hbl := cell_lt (s'.dcell _ rfl k hkl hki); simp only at hbl; have hsz := s'.q.size; clear s'; clear q)
      | (go_at_call 19; refine (CAP2.out _ _ (by repeat (first | with_reducible exact KK.out | with_reducible apply EmSt.al | with_reducible apply EmSt.dr)) (by repeat (first | (refine ops_lit1' _ _ _ _ _ _ ?_; simp only [World.size_alloc, drewSize]; done) | with_reducible apply Ops.al | with_reducible apply Ops.dr))).mono ?_; rintro e w' ⟨⟨a2, c2, rfl, hp2⟩, q⟩; (try (have hbx : Boxed _ _ 30 (.slice none 0 0) := (by first | exact block_stays' q HBX.out | exact block_stays' q (Boxed.alloc HBX.out _) | exact block_stays' q (World.alloc_heap_new _ _) | exact block_stays' q (Boxed.alloc (World.alloc_heap_new _ _) _)); have cb := hbx.cell; have fb := hbx.frozen; (try simp only [World.size_alloc, drewSize] at cb fb hbx); have HBX := Lib.hid hbx; clear hbx)); have s' : EmSt w w' X (.slice pa np pc) qs (.slice (some ⟨b, off, none⟩) ds.length c5) ds := EmSt.stays (by repeat (first | with_reducible exact KK.out | with_reducible apply EmSt.al | with_reducible apply EmSt.dr)) q; clear KK; have KK := Lib.hid s'; have hlt := s'.b.lt; have hbl := cell_lt (s'.dcell _ rfl k hkl hki); simp only at hbl; have hsz := s'.q.size; clear s'; have HP2 := Lib.hid hp2; clear q hp2))
  all_goals first
    | exact HQX.out _ _ a2 c2 _ _ _ _ _ _ _ _ _ _ _ _ _ ⟨(by repeat (first | with_reducible exact KK.out | with_reducible apply EmSt.al | with_reducible apply EmSt.dr)), HP2.out.stays (Q.alloc _ _), Boxed.new _ _ _⟩
    | exact HQX.out _ _ a2 c2 _ _ _ _ _ _ _ _ _ _ _ _ _ ⟨KK.out.setBox HBX.out _ (by omega) (by omega), PartsAt.setBox HBX.out _ HP2.out (by decide), Boxed.set _ HBX.out⟩
set_option maxRecDepth 100000 in
set_option maxHeartbeats 8000000 in
theorem Empties_walk (v : Value) (l : List ActL) (w : World) (hv : Acts w v l) (hlw : ActsWf l) (hT : Tabs w) (hSp : Spans w) :
    Calls Tryz.prog 5 #[v] w fun e w' => e = .returned (.bool true) ∧ Q w w' := by
  have csh := Shown15 w hT hSp
  have csm := fun W (q : Q w W) => Small_any v l W (hv.stays q) hlw.1 hlw.2
  obtain ⟨a1, c1, hva, _⟩ := hv.value
  subst hva
  have HV := Lib.hid hv; have HT := Lib.hid hT; have HSP := Lib.hid hSp; have CSH := Lib.hid csh
  clear hv hT hSp csh hlw
  cases hs1 : smallB l with
  | false =>
    rw [hs1] at csm
    have HS1 := Lib.hid hs1; have CSM := Lib.hid csm
    clear hs1 csm
    go_enter Tryz.func5, Tryz.ntmps5
    go_wp2_with fail
    refine CSH.out.mono ?_
    rintro e w1 ⟨rfl, q1⟩
    have HQ1 := Lib.hid q1; clear q1
    go_wp2_with fail
    refine (CSM.out w1 HQ1.out).mono ?_
    rintro e w2 ⟨rfl, rfl⟩
    go_wp2_with fail
    go_ret
    exact ⟨rfl, HQ1.out⟩
  | true =>
    rw [hs1] at csm
    obtain ⟨hf1, hf2⟩ := smallB_facts hs1
    have HS1 := Lib.hid hs1; have CSM := Lib.hid csm; have HF2 := Lib.hid hf2
    clear hs1 csm hf2
    go_enter Tryz.func5, Tryz.ntmps5
    go_wp2_with fail
    refine CSH.out.mono ?_
    rintro e w1 ⟨rfl, q1⟩
    have HQ1 := Lib.hid q1; clear q1
    go_wp2_with fail
    refine (CSM.out w1 HQ1.out).mono ?_
    rintro e w2 ⟨rfl, rfl⟩
    have cmd := Made_any _ l _ (HV.out.stays HQ1.out) (by omega) (fun a ha => by have := HF2.out a ha; exact ⟨by omega, fun o ho => by have := this.2 o ho; omega⟩) (HT.out.stays HQ1.out) (HSP.out.stays HQ1.out)
    have CMD := Lib.hid cmd
    clear cmd CSM CSH
    go_wp2_with fail
    refine CMD.out.mono ?_
    rintro e w3 ⟨⟨v3, rfl, hp3⟩, q3⟩
    obtain ⟨hmo, hml⟩ := madeL_ok l l.length (Nat.le_refl _)
    generalize madeL l l.length = ps at *
    obtain ⟨a3, c3, rfl, _⟩ := hp3.value
    have hx3 := Q.alloc w3 (.cells #[.slice a3 ps.length c3] 30)
    have hq4 := (HQ1.out.trans q3).trans hx3
    have hX : w.heap.size ≤ w3.heap.size := (HQ1.out.trans q3).size
    have b4 : Boxed (w3.alloc (.cells #[.slice a3 ps.length c3] 30)) w3.heap.size 30 (.slice a3 ps.length c3) := Boxed.new _ _ _
    have k4 := b4.cell
    have cdd := LiveDocs_any _ ps _ (hp3.stays hx3) (by omega) hmo.1
    have HMO := Lib.hid hmo; have HQ4 := Lib.hid hq4; have HP4 := Lib.hid (hp3.stays hx3); have B4 := Lib.hid b4; have CDD := Lib.hid cdd
    clear hp3 q3 hx3 hq4 hmo CMD HQ1 b4 cdd
    go_wp2_with fail
    refine CDD.out.mono ?_
    rintro e w5 ⟨v5, rfl, hd5, q5⟩
    have hd5' := Sl.of_owns hd5
    obtain ⟨a5, c5, hv5, hdc⟩ := Docs.value hd5'
    subst hv5
    have hdl : (docsL ps).length ≤ 1000000000 := by
      rw [← many_eq ps HMO.out.2, ← plAll_length]
      have := plTo_length ps HMO.out.1 ps.length (Nat.le_refl _)
      unfold plAll; omega
    have hst : EmSt w w5 w3.heap.size (.slice a3 ps.length c3) ps (.slice a5 (docsL ps).length c5) (docsL ps) := ⟨HP4.out.stays q5, block_stays' q5 B4.out, hd5', HQ4.out.trans q5, hX⟩
    have hst0 : ∃ a c, EmSt w w5 w3.heap.size (.slice a ps.length c) (emK ps (docsL ps) 0) (.slice a5 (docsL ps).length c5) (docsL ps) := ⟨a3, c3, hst⟩
    have hend := emK_end ps HMO.out
    have hfac := emK_facts ps HMO.out
    have hstp := emK_step ps HMO.out
    have hsuc := emK_succ ps (docsL ps)
    have hil : ∀ d ∈ docsL ps, d.1.length ≤ 40 := by
      intro d hd
      have hr := (docs_ok ps HMO.out).1 d hd
      unfold rightB at hr
      simp only [Bool.and_eq_true, decide_eq_true_eq] at hr
      exact hr.1.1.1.2
    have HIL := Lib.hid hil
    clear hil
    have H0 := Lib.hid hst0; have HEND := Lib.hid hend; have HFAC := Lib.hid hfac; have HSTP := Lib.hid hstp; have HSUC := Lib.hid hsuc
    generalize docsL ps = ds at *
    generalize w3.heap.size = X at *
    clear hst hst0 hend hfac hstp hsuc hd5 hd5' q5 hdc k4 B4 HP4 HQ4 CDD
    go_wp2_with fail
    go_loopw [7] (fun x wr => ∃ k : Nat, x = .int .i64 (k : Nat) ∧ k ≤ ds.length ∧ Hid (∃ a c, EmSt w wr X (.slice a ps.length c) (emK ps ds k) (.slice a5 ds.length c5) ds)) (fun x _ => ds.length - (intOf x).toNat)
    case atStart => exact ⟨0, rfl, by omega, H0⟩
    case round =>
      obtain ⟨k, rfl, hk, HI⟩ := hrel
      obtain ⟨wo, rfl⟩ : ∃ wo : World, wo = wr := ⟨_, rfl⟩
      obtain ⟨pa, pc, st⟩ := HI.out
      obtain ⟨f1, f2, _⟩ := HFAC.out k hk
      have k1 := st.b.cell
      by_cases hlt : k < ds.length
      · obtain ⟨s1, s2⟩ := HSTP.out k hlt
        have s3 := HSUC.out k hlt
        obtain ⟨g1, g2, _⟩ := HFAC.out (k + 1) hlt
        rw [s3] at g1 g2
        obtain ⟨_, _, e, hdj⟩ := Docs.value st.d
        cases e
        obtain ⟨b, off, ha, _⟩ := hdj (by omega)
        subst ha
        clear hdj
        have hil := HIL.out _ (List.getElem_mem hlt)
        have he : applyL (emK ps ds k) [(true, (ds[k].1, []))] = (emK ps ds (k + 1), [], 0) := Prod.ext s3.symm s1
        have hps2 : (emK ps ds (k + 1)).length = ps.length := by rw [s3]; exact g2
        have g1' : PartsOk (emK ps ds (k + 1)) := by rw [s3]; exact g1
        rw [he] at s2
        simp only at s2
        generalize hqs : emK ps ds k = qs at *
        generalize hp2 : emK ps ds (k + 1) = p2 at *
        generalize hdk : ds[k].1 = i at *
        have hmb : (liveM qs).length ≤ 1000000000 := by
          rw [← plAll_length]
          have := plTo_length qs f1.1 qs.length (Nat.le_refl _)
          unfold plAll; omega
        rw [← s2] at hmb
        have ST := Lib.hid st; have F1 := Lib.hid f1; have G1 := Lib.hid g1'; have HE := Lib.hid he; have HDK := Lib.hid hdk; have HQS := Lib.hid hqs; have HP2 := Lib.hid hp2; have S2 := Lib.hid s2
        have hi0 : (0 : Int) ≤ (k : Int) := by omega
        have hi1 : (k : Int) < (ds.length : Int) := by omega
        have hmx : Tryz.prog.follows .mixedOrders = true := by kernel_rfl
        clear st f1 g1 g1' g2 he hdk hqs hp2 s1 s2 s3 HI H0 k1
        go_wp2_with fail
        refine empties10_wp w _ X b off c5 ps.length pc k ds.length pa qs p2 ds i ST.out rfl hlt HDK.out (by omega) F1.out (by omega) HE.out hps2 HT.out HSP.out _ _ _ _ _ _ _ _ _ _ _ _ _ _ _ _ _ _ _ _ _ _ _ _ _ _ _ _ _ _ _ _ _ _ _ _ _ _ _ _ _ _ _ _ _ _ _ _ _ _ _ _ _ _ _ _ _ _ _ _ _ _ _ _ _ _ _ _ _ _ _ _ _ _ _ _ _ _ _ _ _ _ _ _ _ _ _ _ _ _ _ _ _ _ _ _ _ _ _ _ _ _ _ _ ?_
        intro W Y a2 c2 z35 z36 z37 z38 z39 z40 z41 z42 z43 z44 z45 z46 z47 st2
        have k1 := st2.e.b.cell
        have k2 := st2.b2.cell
        have cm1 : ∀ W, EmSt2 w W X Y (.slice pa ps.length pc) (.slice a2 ps.length c2) qs p2 (.slice (some ⟨b, off, none⟩) ds.length c5) ds → Calls Tryz.prog 23 #[liveV (.slice pa ps.length pc)] W fun e w' => e = .returned (.int .i64 (((liveM p2).length + 1 : Nat) : Int)) ∧ Q W w' :=
          fun W s => (Many_any _ qs W s.e.p (by omega) F1.out.1).mono fun e w' ⟨h1, h2⟩ => ⟨by rw [h1, S2.out], h2⟩
        have cm2 : ∀ W, EmSt2 w W X Y (.slice pa ps.length pc) (.slice a2 ps.length c2) qs p2 (.slice (some ⟨b, off, none⟩) ds.length c5) ds → Calls Tryz.prog 23 #[liveV (.slice a2 ps.length c2)] W fun e w' => e = .returned (.int .i64 (((liveM p2).length : Nat) : Int)) ∧ Q W w' :=
          fun W s => Many_any _ p2 W s.p2 (by omega) G1.out.1
        have KK := Lib.hid st2; have CM1 := Lib.hid cm1; have CM2 := Lib.hid cm2
        clear st2 cm1 cm2 ST HE
        generalize (liveM p2).length = m2 at *
        have hw1 : IntKind.i64.wrap (m2 : Int) = (m2 : Int) := IntWalk.i64_in _ (by omega)
        go_wp2_with fail
        go_region_held3 (fun w' => w'.cell? ⟨X, 0, none⟩ = some (.slice pa ps.length pc) ∧ w'.cell? ⟨Y, 0, none⟩ = some (.slice a2 ps.length c2)) (first | exact ⟨k1, k2⟩ | exact ⟨KK.out.e.b.cell, KK.out.b2.cell⟩)
          (first
            | (go_at_call 23; ((with_reducible refine (CM2.out _ (by first | exact KK.out | exact KK.out.dr)).mono ?_); rintro e w' ⟨rfl, q⟩); have s' := EmSt2.stays (show EmSt2 w _ X Y (.slice pa ps.length pc) (.slice a2 ps.length c2) qs p2 (.slice (some ⟨b, off, none⟩) ds.length c5) ds by first | exact KK.out | exact KK.out.dr) q; clear KK; have KK := Lib.hid s'; clear s' q)
            | (go_at_call 23; ((with_reducible refine (CM1.out _ (by first | exact KK.out | exact KK.out.dr)).mono ?_); rintro e w' ⟨rfl, q⟩); have s' := EmSt2.stays (show EmSt2 w _ X Y (.slice pa ps.length pc) (.slice a2 ps.length c2) qs p2 (.slice (some ⟨b, off, none⟩) ds.length c5) ds by first | exact KK.out | exact KK.out.dr) q; clear KK; have KK := Lib.hid s'; clear s' q))
        all_goals
          have kx := KK.out.e.b.cell
          have fx := KK.out.e.b.frozen
          have ky := KK.out.b2.cell
          have stn := KK.out.e.turn KK.out.p2
          have hii : ∃ a c, EmSt w (w'.setCell ⟨X, 0, none⟩ (.slice a2 ps.length c2)) X (.slice a ps.length c) (emK ps ds (k + 1)) (.slice (some ⟨b, off, none⟩) ds.length c5) ds := by
            rw [HP2.out]; exact ⟨_, _, stn⟩
          have HII := Lib.hid hii
          clear stn hii k1 k2
          go_wp2_with fail
          go_roundw
          case rel => exact ⟨k + 1, by go_num, by omega, HII⟩
          case measure => simp [intOf]; omega
      · have hke : k = ds.length := by omega
        subst hke
        obtain ⟨e1, e2⟩ := HEND.out
        have hmg := em_merge _ f1
        generalize emK ps ds ds.length = qs at *
        have cm := Many_any _ qs wo st.p (by omega) f1.1
        rw [e2] at cm
        have ST := Lib.hid st; have CM := Lib.hid cm; have F1 := Lib.hid f1; have E1 := Lib.hid e1
        clear st cm f1 e1 e2 HI H0
        go_wp2_with fail
        refine CM.out.mono ?_
        rintro e w6 ⟨rfl, q6⟩
        have st6 := ST.out.stays q6
        have k6 := st6.b.cell
        have cd6 := LiveDocs_any _ qs w6 st6.p (by omega) F1.out.1
        rw [E1.out] at cd6
        have ST6 := Lib.hid st6; have CD6 := Lib.hid cd6
        clear st6 cd6 q6 CM ST k1
        go_wp2_with fail
        refine CD6.out.mono ?_
        rintro e w7 ⟨v7, rfl, hd7, q7⟩
        obtain ⟨a7, c7, hv7, _⟩ := Docs.value (Sl.of_owns hd7)
        subst hv7
        have st7 := ST6.out.stays q7
        have k7 := st7.b.cell
        have ST7 := Lib.hid st7
        clear st7 q7 hd7 k6 ST6 CD6
        by_cases hn : ps.length < 2
        · have hni : ((ps.length : Nat) : Int) < 2 := by omega
          clear hn hmg
          go_wp2_with fail
          go_ret
          exact ⟨rfl, ST7.out.q⟩
        · have hni : ¬ (((ps.length : Nat) : Int) < 2) := by omega
          have hm2 := hmg (by omega) E1.out
          have cmg := Merge_any _ qs 0 ((qs.length : Int) - 1) w7 ST7.out.p (by omega) F1.out (HT.out.stays ST7.out.q) (HSP.out.stays ST7.out.q)
          rw [hm2, f2] at cmg
          have CMG := Lib.hid cmg
          clear hn hmg hm2 cmg
          go_wp2_with fail
          refine CMG.out.mono ?_
          rintro e w8 ⟨⟨v8, rfl, hp8⟩, q8⟩
          obtain ⟨a8, c8, hv8, _⟩ := hp8.value
          subst hv8
          go_wp2_with fail
          go_ret
          exact ⟨rfl, (ST7.out.q.trans q8).trans (Q.alloc _ _)⟩
end Go.Proofs.YtepofekepagfhaaGreatDoor
