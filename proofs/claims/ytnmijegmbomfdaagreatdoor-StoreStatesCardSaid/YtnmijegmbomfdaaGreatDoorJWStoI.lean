/- Joined texts of one proof: what is needed of WStoI, WStoJ, WStoK, WStoL. -/
import Derived.Test.YtnmijegmbomfdaaGreatDoorJWStoD0
import Derived.Test.YtnmijegmbomfdaaGreatDoorJWJrnJ
import Derived.Test.YtnmijegmbomfdaaGreatDoorJWBlkB
import Derived.OwnWalk
import Derived.WalkLawsBesides
import Derived.WalkSpells
import Derived.Defers
import Derived.Test.YtnmijegmbomfdaaGreatDoorJBitA
set_option linter.unusedSimpArgs false
set_option linter.unusedVariables false
set_option linter.unnecessarySimpa false
set_option maxRecDepth 100000
set_option maxHeartbeats 16000000
namespace Go.Proofs.YtnmijegmbomfdaaGreatDoor
section
open Go.RowKit
variable {w w' : World} {FJ FC F : Nat → Prop} {sb b p cb tb most clock clock' : Nat} {ms ms' : Int} {mb : Nat} {m m' : KeptLs} {ti ti' : List (Nat × Value)} {σ σ' : StL} {K : Nat}
structure StU (w : World) (FJ FC : Nat → Prop) (sb b p cb tb most clock : Nat) (ms : Int) (mb : Nat) (m : KeptLs) (ti : List (Nat × Value)) (σ : StL) : Prop where
  box : Blk w sb 97 (scells p cb tb σ)
  tm : MapI w tb ti
  jr : JrnAt w FJ p b σ.j
  ca : CacG w FC cb p most clock ms mb m
  apart : ∀ k, FJ k → ¬ FC k
  sF : ¬ FJ sb ∧ ¬ FC sb
  tF : ¬ FJ tb ∧ ¬ FC tb
  ok : σ.dead = false → CacOk σ.n most clock σ.tx σ.j.d.get m
theorem StG.loose (h : StG w FJ FC sb b p cb tb most clock ms mb m ti σ) : StU w FJ FC sb b p cb tb most clock ms mb m ti σ := ⟨h.box, h.tm, h.jr, h.ca, h.apart, h.sF, h.tF, h.ok⟩
def StUAt (w : World) (F : Nat → Prop) (sb b : Nat) (σ : StL) (K : Nat) : Prop :=
  ∃ FJ FC p cb tb most clock ms mb m ti, StU w FJ FC sb b p cb tb most clock ms mb m ti σ ∧ (∀ k, FJ k ∨ FC k ∨ k = sb ∨ k = tb → F k) ∧ (∀ k, F k → k < w.heap.size) ∧ clock ≤ K
theorem StAt.loose (h : StAt w F sb b σ K) : StUAt w F sb b σ K := by
  obtain ⟨FJ, FC, p, cb, tb, most, clock, ms, mb, m, ti, hg, hF, hlt, hcl⟩ := h
  exact ⟨_, _, _, _, _, _, _, _, _, _, _, hg.loose, hF, hlt, hcl⟩
theorem StU.keep (h : StU w FJ FC sb b p cb tb most clock ms mb m ti σ) (q : Q w w') : StU w' FJ FC sb b p cb tb most clock ms mb m ti σ :=
  ⟨h.box.stays q, h.tm.same (q.block _ h.tm.lt), h.jr.keep q, h.ca.keep q, h.apart, h.sF, h.tF, h.ok⟩
theorem StUAt.keep (h : StUAt w F sb b σ K) (q : Q w w') : StUAt w' F sb b σ K := by
  obtain ⟨FJ, FC, p, cb, tb, most, clock, ms, mb, m, ti, hg, hF, hlt, hcl⟩ := h
  exact ⟨_, _, _, _, _, _, _, _, _, _, _, hg.keep q, hF, fun k hk => Nat.lt_of_lt_of_le (hlt k hk) q.size, hcl⟩
theorem StUAt.lt (h : StUAt w F sb b σ K) : ∀ k, F k → k < w.heap.size := by
  obtain ⟨FJ, FC, p, cb, tb, most, clock, ms, mb, m, ti, hg, hF, hlt, hcl⟩ := h
  exact hlt
theorem StUAt.mono {G : Nat → Prop} (h : StUAt w F sb b σ K) (k : ∀ i, F i → G i) (hl : ∀ i, G i → i < w.heap.size) : StUAt w G sb b σ K := by
  obtain ⟨FJ, FC, p, cb, tb, most, clock, ms, mb, m, ti, hg, hF, hlt, hcl⟩ := h
  exact ⟨_, _, _, _, _, _, _, _, _, _, _, hg, fun i hi => k i (hF i hi), hl, hcl⟩
def StL.undone (σ : StL) : StL := { σ with tx := [], map1 := σ.was }
theorem SUndo_any (w : World) (F : Nat → Prop) (sb b : Nat) (σ : StL) (K : Nat) (h : StUAt w F sb b σ K) :
    Calls Tryz.prog 51 #[ptrV sb] w fun e w' => e = .returned (.tuple #[]) ∧ StUAt w' F sb b σ.undone K ∧ Turn F w w' := by
  obtain ⟨FJ, FC, p, cb, tb, most, clock, ms, mb, m, ti, hg, hF, hlt, hcl⟩ := h
  have hkn : (m.map (·.1)).Nodup := by
    have := hg.ca.map.nodup
    have e : (mapOf m).map (·.1) = m.map (·.1) := by simp [mapOf]
    rwa [e] at this
  have hdr := Drop_any w FC cb p most clock ms mb m hg.ca hkn
  obtain ⟨c0, c1, c2, c3, c4, c5⟩ := Blk.c6 hg.box
  have HD := Lib.hid hdr; have HG := Lib.hid hg; have HF := Lib.hid hF; have HLT := Lib.hid hlt
  clear hdr hg hF hlt
  go_enter Tryz.func51, Tryz.ntmps51
  go_wp2_with fail
  refine HD.out.mono ?_
  rintro e w1 ⟨rfl, h1, t1⟩
  have hb1 : Blk w1 sb 97 (scells p cb tb σ) := t1.blk HG.out.box HG.out.sF.2
  obtain ⟨d0, d1, d2, d3, d4, d5⟩ := Blk.c6 hb1
  have f2 := hb1.frozen 2
  have ht2 : Turn (fun k => k = sb) w1 (w1.setCell ⟨sb, 2, none⟩ (strV σ.was)) := Turn.setCell (a := ⟨sb, 2, none⟩) (Turn.refl (fun k => k = sb) w1) (.inl rfl) _
  have hm1 : MapI w1 tb ti := HG.out.tm.same (t1.block _ HG.out.tm.lt HG.out.tF.2)
  have hne : sb ≠ tb := blk_not_map HG.out.box HG.out.tm
  have hend : StUAt (w1.setCell ⟨sb, 2, none⟩ (strV σ.was)) F sb b σ.undone K := by
    refine ⟨FJ, FC, p, cb, tb, most, clock, ms, mb, _, ti, ⟨hb1.set 2 (strV σ.was), hm1.same (ht2.block _ hm1.lt hne.symm), (HG.out.jr.beside t1 HG.out.apart).beside ht2 (fun k hk e => HG.out.sF.1 (e ▸ hk)), h1.beside ht2 (fun k hk e => HG.out.sF.2 (e ▸ hk)), HG.out.apart, HG.out.sF, HG.out.tF, fun hd => (HG.out.ok hd).dropped⟩, HF.out, fun k hk => ?_, hcl⟩
    have := HLT.out k hk; have := t1.size; have := ht2.size; omega
  have htu : Turn F w (w1.setCell ⟨sb, 2, none⟩ (strV σ.was)) := (t1.mono (fun k hk => HF.out k (.inr (.inl hk)))).trans (ht2.mono (fun k hk => HF.out k (.inr (.inr (.inl hk)))))
  have HE := Lib.hid hend; have HT := Lib.hid htu
  clear hend htu hb1 ht2 hm1 h1 t1
  go_wp2_with fail
  go_end0
  exact ⟨rfl, HE.out, HT.out⟩
theorem SClose_any (w : World) (F : Nat → Prop) (sb b : Nat) (σ : StL) (K : Nat) (h : StUAt w F sb b σ K) (htx : σ.tx = []) :
    Calls Tryz.prog 52 #[ptrV sb] w fun e w' => e = .returned (.tuple #[]) ∧ StAt w' F sb b σ.close K ∧ Turn F w w' := by
  obtain ⟨FJ, FC, p, cb, tb, most, clock, ms, mb, m, ti, hg, hF, hlt, hcl⟩ := h
  obtain ⟨c0, c1, c2, c3, c4, c5⟩ := Blk.c6 hg.box
  have f4 := hg.box.frozen 4
  have hne : sb ≠ tb := blk_not_map hg.box hg.tm
  obtain ⟨w1, hw1⟩ : ∃ w1, w1 = w.setCell ⟨sb, 4, none⟩ (.bool false) := ⟨_, rfl⟩
  have t1 : Turn (fun k => k = sb) w w1 := by rw [hw1]; exact Turn.setCell (a := ⟨sb, 4, none⟩) (Turn.refl (fun k => k = sb) w) (.inl rfl) _
  have hb1 : Blk w1 sb 97 (scells p cb tb { σ with open_ := false }) := by rw [hw1]; exact hg.box.set 4 _
  have hm1 : MapI w1 tb ti := hg.tm.same (t1.block _ hg.tm.lt hne.symm)
  have d5 := hb1.cell 5 (.map (some tb)) rfl
  have HG := Lib.hid hg; have HF := Lib.hid hF; have HLT := Lib.hid hlt; have HM := Lib.hid hm1; have HB := Lib.hid hb1; have T1 := Lib.hid t1
  clear hg hF hlt hm1 hb1 t1
  go_enter Tryz.func52, Tryz.ntmps52
  go_upto_region 1 with fail
  rw [← hw1]
  clear hw1
  obtain ⟨w2, hcr, hm2, hg2, hz2⟩ := run_clear_int (P := Tryz.prog) HM.out 95 3 3 0 Tryz.underlying95
  have t2 := CacG.turn_of_map hg2
  have hend : StAt w2 F sb b σ.close K := by
    refine ⟨FJ, FC, p, cb, tb, most, clock, ms, mb, m, [], ⟨t2.blk HB.out hne, hm2, (HG.out.jr.beside T1.out (fun k hk e => HG.out.sF.1 (e ▸ hk))).beside t2 (fun k hk e => HG.out.tF.1 (e ▸ hk)), (HG.out.ca.beside T1.out (fun k hk e => HG.out.sF.2 (e ▸ hk))).beside t2 (fun k hk e => HG.out.tF.2 (e ▸ hk)), HG.out.apart, HG.out.sF, HG.out.tF, fun hd => ?_, fun k => Iff.rfl, fun x hx => by simp at hx⟩, HF.out, fun k hk => ?_, hcl⟩
    · have := HG.out.ok hd
      rw [htx] at this; exact this
    · have := HLT.out k hk; have := T1.out.size; have := t2.size; omega
  have htu : Turn F w w2 := (T1.out.mono (fun k hk => HF.out k (.inr (.inr (.inl hk))))).trans (t2.mono (fun k hk => HF.out k (.inr (.inr (.inr hk)))))
  have HE := Lib.hid hend; have HT := Lib.hid htu
  clear hend htu t2 hm2 hg2 hz2
  go_wp2_with fail
  go_end0
  exact ⟨rfl, HE.out, HT.out⟩
theorem SAbort_any (w : World) (F : Nat → Prop) (sb b : Nat) (σ : StL) (K : Nat) (h : StAt w F sb b σ K) :
    Calls Tryz.prog 18 #[ptrV sb] w fun e w' => e = .returned (.tuple #[]) ∧ StAt w' F sb b σ.abort K ∧ Turn F w w' := by
  obtain ⟨p, cb, tb, hbx⟩ := h.boxed
  obtain ⟨c0, c1, c2, c3, c4, c5⟩ := Blk.c6 hbx
  cases ho : σ.open_ with
  | false =>
    have hr : σ.abort = σ := by unfold StL.abort; rw [ho]; rfl
    rw [hr]
    rw [ho] at c4
    have H := Lib.hid h
    clear h hbx hr ho
    go_enter Tryz.func18, Tryz.ntmps18
    go_wp2_with fail
    go_end0
    exact ⟨rfl, H.out, Turn.refl _ _⟩
  | true =>
    have hr : σ.abort = σ.undone.close := by unfold StL.abort; rw [ho]; rfl
    rw [hr]
    rw [ho] at c4
    have hun := SUndo_any w F sb b σ K h.loose
    have H := Lib.hid hun
    clear h hbx hr hun ho
    go_enter Tryz.func18, Tryz.ntmps18
    go_wp2_with fail
    refine H.out.mono ?_
    rintro e w1 ⟨rfl, h1, t1⟩
    have hcl := SClose_any w1 F sb b σ.undone K h1 rfl
    have HC := Lib.hid hcl; have T1 := Lib.hid t1
    clear hcl t1 h1
    go_wp2_with fail
    refine HC.out.mono ?_
    rintro e w2 ⟨rfl, h2, t2⟩
    have H2 := Lib.hid h2; have T2 := Lib.hid t2
    clear h2 t2
    go_wp2_with fail
    go_end0
    exact ⟨rfl, H2.out, T1.out.trans T2.out⟩
end
section
open Go.RowKit
theorem wrVs_one (l : List WrL) : ∀ u ∈ wrVs l, u.oneCell' = true := by
  intro u hu
  obtain ⟨d, _, hd⟩ := List.mem_flatMap.1 hu
  simp [encW] at hd
  rcases hd with rfl | rfl <;> simp [Value.oneCell']
theorem Clone_writes (v : Value) (l : List WrL) (w : World) (hv : Sl w v l.length 2 (wrVs l)) (hn : l.length ≤ 1000000) :
    Calls Tryz.prog 62 #[v] w fun e w' => ∃ v', e = .returned v' ∧ w'.ownsRow w.heap.size 88 2 v' l.length (wrVs l) ∧ Q w w' := by
  obtain ⟨i0, hi, hz0, hz1, hz2⟩ := info_parts tinfoWr
  obtain ⟨hxs, a, cap, rfl, hcell⟩ := hv
  have hn2 : (wrVs l).length = l.length * 2 := hxs
  have hone := wrVs_one l
  cases a with
  | none =>
    have h0 : l.length = 0 := by
      by_cases h : l.length = 0
      · exact h
      · obtain ⟨b, off, e, _⟩ := hcell (by omega)
        cases e
    obtain rfl : l = [] := List.eq_nil_of_length_eq_zero h0
    clear hcell hxs hn2 hone
    go_enter Tryz.func62, Tryz.ntmps62
    go_wp2_with fail
    rw [Lib.run_eql_slice_nil _ _ _ _ _ _ _ _ Tryz.underlying72]
    go_wp2_with fail
    go_ret
    exact ⟨_, rfl, World.ownsRow_nil _ _ _ _, Q.refl _⟩
  | some ad =>
    have hcc : ∀ j u, (wrVs l)[j]? = some u → (w.alloc (.cells #[] 88)).cell? (ad.add j) = some u := by
      intro j u hu
      have hjl : j < (wrVs l).length := (List.getElem?_eq_some_iff.1 hu).1
      obtain ⟨b, off, e, hc⟩ := hcell (by omega)
      cases e
      rw [show (⟨b, off, none⟩ : Addr).add j = ⟨b, off + j, none⟩ by unfold Addr.add; split <;> simp_all]
      exact cell_stays (Q.alloc _ _) (hc j u hu)
    have hown : (w.alloc (.cells #[] 88)).ownsRow w.heap.size 88 2 (.slice (some ⟨w.heap.size, 0, none⟩) 0 0) 0 [] := ⟨rfl, .inr ⟨w.heap.size, 0, #[], rfl, Nat.le_refl _, heap_alloc_new _ _, by simp, by unfold maxLen; omega, rfl, rfl⟩⟩
    have h63 : 0 + l.length ≤ maxLen := by unfold maxLen; omega
    have hbytes : (0 + l.length) * 24 ≤ 140737488355328 := by omega
    have hbase : w.heap.size ≤ (w.alloc (.cells #[] 88)).heap.size := by simp
    generalize wrVs l = xs at *
    clear hcell
    go_enter Tryz.func62, Tryz.ntmps62
    go_wp2_with fail
    rw [Lib.run_eql_slice_nil _ _ _ _ _ _ _ _ Tryz.underlying72]
    go_wp2_with (at_builtin; go_must (refine wpList_append_own (w.alloc (.cells #[] 88)) (by rfl) _ _ 72 (by rfl) w.heap.size 88 i0 (.agg #[.int .i64 0, strV []]) 2 24 Tryz.underlying72 hi hz0 hz1 hz2 rfl (by decide) _ 0 [] (by rfl) hown ad l.length cap xs (by rfl) hn2 hcc hone h63 hbytes hbase ?_))
    intro v' w' ho hg _
    have hb : Below w.heap.size w w' := ((Below.refl w.heap.size w).alloc (Nat.le_refl _) _).grown hg hbase (fun k hk => by simp [Value.ownBlock] at hk; omega)
    have HO := Lib.hid ho; have HB := Lib.hid hb
    clear ho hb hg
    go_wp2_with fail
    go_ret
    exact ⟨v', rfl, HO.out, HB.out⟩
theorem CommitEnd_any (w : World) (F : Nat → Prop) (sb b eb bs : Nat) (σ : StL) (K : Nat) (err : Int) (h : StUAt w F sb b σ K) (he : Boxed w eb 39 (.int .i64 err)) (hb : Boxed w bs 33 (ptrV sb)) (heF : ¬ F eb) (hbF : ¬ F bs) (htx : err = 0 → σ.tx = []) :
    CallsD Tryz.prog 64 #[ptrV eb, ptrV bs] .returning w fun e u' w' => u' = .returning ∧ (e = .returned (.tuple #[]) ∧ StAt w' F sb b (if err = 0 then σ.close else σ.undone.close) K ∧ Turn F w w') := by
  have e0 := he.cell; have b0 := hb.cell
  by_cases hz : err = 0
  · subst hz
    have hcl := SClose_any w F sb b σ K h (htx rfl)
    rw [if_pos rfl]
    have HC := Lib.hid hcl
    clear hcl h htx he hb heF hbF
    go_enter_d Tryz.func64, Tryz.ntmps64
    go_wp2_with fail
    refine HC.out.mono ?_
    rintro e w2 ⟨rfl, h2, t2⟩
    have H2 := Lib.hid h2; have T2 := Lib.hid t2
    clear h2 t2
    go_wp2_with fail
    go_end0
    exact ⟨rfl, H2.out, T2.out⟩
  · have hun := SUndo_any w F sb b σ K h
    rw [if_neg hz]
    have e1 : (err == 0) = false := beq_eq_false_iff_ne.2 hz
    have HU := Lib.hid hun; have HB := Lib.hid hb
    clear hun h htx he hz hb
    go_enter_d Tryz.func64, Tryz.ntmps64
    go_wp2_with fail
    refine HU.out.mono ?_
    rintro e w1 ⟨rfl, h1, t1⟩
    have b1 := t1.cell b0 hbF
    have hcl := SClose_any w1 F sb b σ.undone K h1 rfl
    have HC := Lib.hid hcl; have T1 := Lib.hid t1
    clear hcl t1 h1
    go_wp2_with fail
    refine HC.out.mono ?_
    rintro e w2 ⟨rfl, h2, t2⟩
    have H2 := Lib.hid h2; have T2 := Lib.hid t2
    clear h2 t2
    go_wp2_with fail
    go_end0
    exact ⟨rfl, H2.out, T1.out.trans T2.out⟩
structure ComPre (σ : StL) : Prop where
  get : (σ.j.commit σ.tx).2 = 0 → ∀ i, 63 ≤ i ∧ i < σ.n → (σ.j.commit σ.tx).1.d.get i = lastP σ.tx i (σ.j.d.get i)
  dead : (σ.j.commit σ.tx).2 ≠ 0 → (σ.j.commit σ.tx).1.d.dead = true
theorem StUAt.ofU {w : World} {FJ FC F : Nat → Prop} {sb b p cb tb most clock : Nat} {ms : Int} {mb : Nat} {m : KeptLs} {ti : List (Nat × Value)} {σ : StL} {K : Nat} (h : StU w FJ FC sb b p cb tb most clock ms mb m ti σ) (hF : ∀ k, FJ k ∨ FC k ∨ k = sb ∨ k = tb → F k) (hl : ∀ k, F k → k < w.heap.size) (hK : clock ≤ K) : StUAt w F sb b σ K :=
  ⟨_, _, _, _, _, _, _, _, _, _, _, h, hF, hl, hK⟩
theorem commit_door (w w5 : World) (F F5 : Nat → Prop) (sb b : Nat) (σ' : StL) (K : Nat) (err : Int) (tmps : Array Value) (ht : tmps.getD 2 undef = .pointer (some ⟨w.heap.size + 1, 0, none⟩)) (h5 : StUAt w5 F5 sb b σ' K) (he : Boxed w5 (w.heap.size + 1) 39 (.int .i64 err)) (hb : Boxed w5 w.heap.size 33 (ptrV sb))
    (hF5 : ∀ k, F5 k → F k ∨ (w.heap.size + 2 ≤ k ∧ k < w5.heap.size)) (hF : ∀ k, F k → k < w.heap.size) (t : Turn F w w5) (htx : err = 0 → σ'.tx = []) :
    Leaves Tryz.prog Tryz.f28 tmps (fun e w' => e = .returned (.int .i64 err) ∧ StAt w' (grow F w w') sb b (if err = 0 then σ'.close else σ'.undone.close) K ∧ Turn F w w')
      [{ target := Target.fn (Fn.func 64) #[.pointer (some ⟨w.heap.size + 1, 0, none⟩), .pointer (some ⟨w.heap.size, 0, none⟩)], args := #[] }] .returning w5 := by
  have n1 : ¬ F5 (w.heap.size + 1) := fun e => by rcases hF5 _ e with e | e; have := hF _ e; omega; omega
  have n2 : ¬ F5 w.heap.size := fun e => by rcases hF5 _ e with e | e; have := hF _ e; omega; omega
  refine leaves_cons (f := 64) (args := #[ptrV (w.heap.size + 1), ptrV w.heap.size]) (by simp) (by simp [go_sem]) ?_
  refine (CommitEnd_any w5 F5 sb b _ _ σ' K err h5 he hb n1 n2 htx).mono ?_
  rintro e u' w' ⟨rfl, rfl, h, t'⟩
  have he' : Boxed w' (w.heap.size + 1) 39 (.int .i64 err) := (t'.block _ (lt_of_get he) n1).trans he
  have tt : Turn F w w' := t.step (t'.mono (fun k hk => (hF5 k hk).elim .inl (fun hk => .inr ⟨by omega, hk.2⟩)))
  exact ⟨.int .i64 err, results_cell1 rfl _ _ ⟨w.heap.size + 1, 0, none⟩ _ ht (load_errno _ _ err he'.cell), rfl, h.mono (fun k hk => (hF5 k hk).elim .inl (fun hk => .inr ⟨by omega, by have := t'.size; omega⟩)) (fun k hk => hk.elim (fun hk => Nat.lt_of_lt_of_le (hF k hk) tt.size) (fun hk => hk.2)) (Nat.le_refl _), tt⟩
theorem SCommit_any (w : World) (F : Nat → Prop) (sb b : Nat) (σ : StL) (K : Nat) (h : StAt w F sb b σ K) (hn : StNum σ) (hp : σ.state true = 0 → σ.tx ≠ [] → ComPre σ) :
    Calls Tryz.prog 28 #[ptrV sb] w fun e w' => e = .returned (.int .i64 σ.commit.2) ∧ StAt w' (grow F w w') sb b σ.commit.1 K ∧ Turn F w w' := by
  obtain ⟨wa, hwa⟩ : ∃ wa, wa = (w.alloc (.cells #[ptrV sb] 33)).alloc (.cells #[.int .i64 0] 39) := ⟨_, rfl⟩
  have hq : Q w wa := by rw [hwa]; exact (Q.alloc _ _).trans (Q.alloc _ _)
  have hsz : wa.heap.size = w.heap.size + 2 := by rw [hwa]; simp
  have hb0 : Boxed wa w.heap.size 33 (ptrV sb) := by rw [hwa]; exact (Boxed.new w _ _).alloc _
  have hb1 : Boxed wa (w.heap.size + 1) 39 (.int .i64 0) := by
    rw [hwa]
    have := Boxed.new (w.alloc (.cells #[ptrV sb] 33)) 39 (.int .i64 0)
    rwa [World.size_alloc] at this
  have hF := h.lt
  have hh := h.keep hq
  have d0 := hb0.cell
  have d1 := hb1.cell; have e1 := hb1.frozen
  have hst := hh.hstate true
  have hmf : ∀ (fn : Fn) (first cap : Array Value) (w : World), (Instr.makeFunc fn first cap).run Tryz.prog w = .ok (.func fn first cap) w := fun _ _ _ _ => rfl
  by_cases hz : σ.state true = 0
  · obtain ⟨hdd, hoo⟩ := state_open hz
    rw [hz] at hst
    have hab := hsz
    obtain ⟨FJ, FC, p, cb, tb, most, clock, ms, mb, m, ti, hg, hFF, hlt, hcl⟩ := hh
    obtain ⟨c0, c1, c2, c3, c4, c5⟩ := Blk.c6 hg.box
    obtain ⟨n1, n2, n3, n4, n5, n6⟩ := hn.num hdd
    have hok := hg.ok hdd
    have hdi := Dirty_any wa FC cb p σ.n most clock ms mb m σ.tx σ.j.d.get hg.ca hok
    have hn' := hn
    have hts : σ.tx.length ≤ 48 := n5
    have HDI := Lib.hid hdi; have HST := Lib.hid hst; have HG := Lib.hid hg; have HFF := Lib.hid hFF; have HF := Lib.hid hF; have HQ := Lib.hid hq; have HB0 := Lib.hid hb0; have HB1 := Lib.hid hb1; have HP := Lib.hid (hp hz); have HOK := Lib.hid hok; have HZ := Lib.hid hz; have HJN := Lib.hid (And.intro n1 (And.intro n2 (And.intro n3 n4))); have HSZ := Lib.hid hsz
    clear hdi hst hg hFF hF hq hb0 hb1 hp hok hz n1 n2 n3 n4 n6 hn hsz hlt hab
    go_enter_defers Tryz.func28, Tryz.ntmps28
    go_upto_region 1 with fail
    rw [← hwa]
    clear hwa
    go_wp2_with fail
    refine HST.out.mono ?_
    rintro e w1 ⟨rfl, rfl⟩
    go_wp2_with fail
    refine HDI.out.mono ?_
    rintro e w2 ⟨v2, rfl, ho2, q2⟩
    have hcn := Clone_writes v2 σ.tx w2 (Sl.of_owns ho2) (by omega)
    have HCN := Lib.hid hcn; have Q2 := Lib.hid q2
    clear hcn q2 ho2
    go_wp2_with fail
    refine HCN.out.mono ?_
    rintro e w3 ⟨v3, rfl, ho3, q3⟩
    have q3' : Q wa w3 := Q2.out.trans q3
    have hz3 : wa.heap.size ≤ w2.heap.size := Q2.out.size
    obtain ⟨a3, cap3, rfl, -⟩ := owns_value ho3
    have b0 := HB0.out.cell; have b1 := HB1.out.cell; have b2 := HB1.out.frozen
    have x0 := cellQ q3' d0; have x1 := cellQ q3' d1
    have HO3 := Lib.hid ho3; have HQ3 := Lib.hid q3'
    have hb13 : Boxed w3 (w.heap.size + 1) 39 (.int .i64 0) := (q3'.block _ (lt_of_get HB1.out)).trans HB1.out
    have hb03 : Boxed w3 w.heap.size 33 (ptrV sb) := (q3'.block _ (lt_of_get HB0.out)).trans HB0.out
    have f1 := hb13.frozen
    have hg3 := HG.out.keep q3'
    obtain ⟨g0, g1, g2, g3, g4, g5⟩ := Blk.c6 hg3.box
    have HB13 := Lib.hid hb13; have HB03 := Lib.hid hb03; have HG3 := Lib.hid hg3
    clear ho3 q3 q3' hb13 hb03 hg3 c0 c1 c2 c3 c4 c5 b0 b1 b2 d0 d1 e1
    by_cases htx : σ.tx = []
    · have hlen : ¬ (0 : Int) < (σ.tx.length : Int) := by rw [htx]; decide
      have hcln := Clean_any w3 FC cb p most clock ms mb m HG3.out.ca HOK.out.keys HOK.out.ptrs
      have HCL := Lib.hid hcln; have HTX := Lib.hid htx
      clear hcln htx
      go_wp2_with fail
      refine HCL.out.mono ?_
      rintro e w4 ⟨rfl, h4, t4⟩
      have hn1 : ¬ FC (w.heap.size + 1) := fun e => by have := HF.out _ (HFF.out _ (.inr (.inl e))); omega
      have y1 := t4.cell x1 hn1
      have hb14 : Boxed w4 (w.heap.size + 1) 39 (.int .i64 0) := (t4.block _ (lt_of_get HB13.out) hn1).trans HB13.out
      have f2 := hb14.frozen
      have H4 := Lib.hid h4; have T4 := Lib.hid t4; have HB14 := Lib.hid hb14
      clear h4 t4 hb14
      go_wp2_with fail
      have hco : σ.commit = (({ σ with tx := [] } : StL).close, 0) := by unfold StL.commit; rw [if_neg (by rw [HZ.out]; decide), if_pos HTX.out]; rfl
      rw [hco]
      have hbe := HB14.out.set (.int .i64 0)
      have t5 : Turn (fun k => k = w.heap.size + 1) w4 (w4.setCell ⟨w.heap.size + 1, 0, none⟩ (.int .i64 0)) := Turn.setCell (a := ⟨w.heap.size + 1, 0, none⟩) (Turn.refl (fun k => k = w.heap.size + 1) w4) (.inl rfl) _
      have hne : w.heap.size ≠ w.heap.size + 1 := by omega
      have hn0 : ¬ FC w.heap.size := fun e => by have := HF.out _ (HFF.out _ (.inr (.inl e))); omega
      have hbs : Boxed (w4.setCell ⟨w.heap.size + 1, 0, none⟩ (.int .i64 0)) w.heap.size 33 (ptrV sb) := by
        have z0 : Boxed w4 w.heap.size 33 (ptrV sb) := (T4.out.block _ (lt_of_get HB03.out) hn0).trans HB03.out
        exact (t5.block _ (lt_of_get z0) hne).trans z0
      have hge : ∀ k, F k → k ≠ w.heap.size + 1 := fun k hk e => by have := HF.out k hk; omega
      have hU : StU (w4.setCell ⟨w.heap.size + 1, 0, none⟩ (.int .i64 0)) FJ FC sb b p cb tb most clock ms mb _ ti { σ with tx := [] } :=
        ⟨t5.blk (T4.out.blk HG3.out.box HG3.out.sF.2) (hge _ (HFF.out _ (.inr (.inr (.inl rfl))))), (HG3.out.tm.same (T4.out.block _ HG3.out.tm.lt HG3.out.tF.2)).same (t5.block _ (Nat.lt_of_lt_of_le HG3.out.tm.lt T4.out.size) (hge _ (HFF.out _ (.inr (.inr (.inr rfl)))))), (HG3.out.jr.beside T4.out HG3.out.apart).beside t5 (fun k hk => hge k (HFF.out k (.inl hk))), H4.out.beside t5 (fun k hk => hge k (HFF.out k (.inr (.inl hk)))), HG3.out.apart, HG3.out.sF, HG3.out.tF, fun _ => HOK.out.cleaned _ (fun i hi => by rw [HTX.out]; rfl)⟩
      have tq : Turn F w w4 := (Turn.of_q (HQ.out.trans HQ3.out)).trans (T4.out.mono (fun k hk => HFF.out k (.inr (.inl hk))))
      have tz : Turn F w (w4.setCell ⟨w.heap.size + 1, 0, none⟩ (.int .i64 0)) := tq.setCell (.inr (by simp)) _
      exact commit_door w _ F F sb b { σ with tx := [] } K 0 _ rfl (StUAt.ofU hU HFF.out (fun k hk => Nat.lt_of_lt_of_le (HF.out k hk) tz.size) hcl) hbe hbs (fun k hk => .inl hk) HF.out tz (fun _ => rfl)
    · have hlen : (0 : Int) < (σ.tx.length : Int) := by have := List.length_pos_iff.2 htx; omega
      obtain ⟨jn, ju, jh, jt⟩ := HJN.out
      have hpre := HP.out htx
      have hz2 : w.heap.size + 2 ≤ w2.heap.size := by have := HSZ.out; omega
      have hfjl : ∀ k, FJ k → k < w.heap.size := fun k hk => HF.out k (HFF.out k (.inl hk))
      have hfcl : ∀ k, FC k → k < w.heap.size := fun k hk => HF.out k (HFF.out k (.inr (.inl hk)))
      have hwa : WrArg w3 FJ (.slice a3 σ.tx.length cap3) σ.tx := ⟨SlO.owned HO3.out (fun g hg e => by have := hfjl g e; omega), fun x hx => by have := jt x hx; have := hn'.max; exact ⟨by omega, by omega⟩⟩
      have hjc := JCommit_any w3 FJ p b σ.j _ σ.tx HG3.out.jr jn ⟨by omega, n5, fun x hx => by have h1 := jt x hx; have := hn'.max; exact ⟨by omega, h1.2.2⟩⟩ (fun x hx => by have := jt x hx; rw [jh]; exact ⟨by omega, this.2.1⟩) hwa ju
      have hco : σ.commit = if (σ.j.commit σ.tx).2 = 0 then (({ σ with j := (σ.j.commit σ.tx).1, tx := [] } : StL).close, 0) else (({ σ with j := (σ.j.commit σ.tx).1 } : StL).undone.close, (σ.j.commit σ.tx).2) := by unfold StL.commit; rw [if_neg (by rw [HZ.out]; decide), if_neg htx]; rfl
      have hgt := hpre.get; have hdd' := hpre.dead
      have hln := JL.commit_len σ.j σ.tx
      have HCO := Lib.hid hco; have HJC := Lib.hid hjc; have HGT := Lib.hid hgt; have HDD := Lib.hid hdd'; have HLN := Lib.hid hln; have HFJ := Lib.hid (And.intro hfjl hfcl)
      clear hjc hgt hdd' hln hpre hco hwa jn ju jh jt htx n5 hfjl hfcl
      generalize σ.j.commit σ.tx = jc at *
      obtain ⟨j', err⟩ := jc
      simp only at HJC HGT HDD HLN HCO
      go_wp2_with fail
      refine HJC.out.mono ?_
      rintro e w4 ⟨rfl, h4, t4⟩
      have hn1 : ¬ FJ (w.heap.size + 1) := fun e => by have := HFJ.out.1 _ e; omega
      have hn0 : ¬ FJ w.heap.size := fun e => by have := HFJ.out.1 _ e; omega
      have hbe4 : Boxed w4 (w.heap.size + 1) 39 (.int .i64 0) := (t4.block _ (lt_of_get HB13.out) hn1).trans HB13.out
      have hbs4 : Boxed w4 w.heap.size 33 (ptrV sb) := (t4.block _ (lt_of_get HB03.out) hn0).trans HB03.out
      have f2 := hbe4.frozen; have f3 := hbe4.cell
      have t5 : Turn (fun k => k = w.heap.size + 1) w4 (w4.setCell ⟨w.heap.size + 1, 0, none⟩ (.int .i64 err)) := Turn.setCell (a := ⟨w.heap.size + 1, 0, none⟩) (Turn.refl (fun k => k = w.heap.size + 1) w4) (.inl rfl) _
      have hbe5 := hbe4.set (.int .i64 err)
      have hne : w.heap.size ≠ w.heap.size + 1 := by omega
      have hbs5 : Boxed (w4.setCell ⟨w.heap.size + 1, 0, none⟩ (.int .i64 err)) w.heap.size 33 (ptrV sb) := (t5.block _ (lt_of_get hbs4) hne).trans hbs4
      have hge : ∀ k, F k → k ≠ w.heap.size + 1 := fun k hk e => by have := HF.out k hk; omega
      have hb5 := t5.blk (t4.blk HG3.out.box HG3.out.sF.1) (hge _ (HFF.out _ (.inr (.inr (.inl rfl)))))
      have hm4 := HG3.out.tm.same (t4.block _ HG3.out.tm.lt HG3.out.tF.1)
      have hm5 := hm4.same (t5.block _ hm4.lt (hge _ (HFF.out _ (.inr (.inr (.inr rfl))))))
      have hj5 := h4.beside t5 (fun k hk e => by rcases hk with hk | hk; exact hge k (HFF.out k (.inl hk)) e; have := HQ3.out.size; have := HSZ.out; omega)
      have hc5 := (HG3.out.ca.beside t4 (fun k hk e => HG3.out.apart k e hk)).beside t5 (fun k hk => hge k (HFF.out k (.inr (.inl hk))))
      have hz4 : w3.heap.size ≤ w4.heap.size := t4.size
      have hz3' : w.heap.size + 2 ≤ w3.heap.size := by have := HQ3.out.size; have := HSZ.out; omega
      have tw5 : Turn F w (w4.setCell ⟨w.heap.size + 1, 0, none⟩ (.int .i64 err)) := ((Turn.of_q (HQ.out.trans HQ3.out)).trans (t4.mono (fun k hk => HFF.out k (.inl hk)))).setCell (.inr (by simp)) _
      have hs5 : (w4.setCell ⟨w.heap.size + 1, 0, none⟩ (.int .i64 err)).heap.size = w4.heap.size := setCell_size _ _ _
      have HBE5 := Lib.hid hbe5; have HBS5 := Lib.hid hbs5; have HB5 := Lib.hid hb5; have HM5 := Lib.hid hm5; have HJ5 := Lib.hid hj5; have HC5 := Lib.hid hc5; have HZ4 := Lib.hid (And.intro hz4 (And.intro hz3' hs5)); have TW5 := Lib.hid tw5; have HGE := Lib.hid hge
      clear h4 t4 hbe4 hbs4 t5 hbe5 hbs5 hb5 hm4 hm5 hj5 hc5 hz4 hz3' tw5 hs5 hge hz3 hz2 x0 x1
      go_upto_region 8 with fail
      generalize w4.setCell ⟨w.heap.size + 1, 0, none⟩ (.int .i64 err) = w5 at *
      have x0 := HBS5.out.cell; have x1 := HBE5.out.cell
      obtain ⟨k0, k1, k2, k3, k4, k5⟩ := Blk.c6 HB5.out
      have hap : ∀ k, grow FJ w3 w4 k → ¬ FC k := fun k hk e => hk.elim (fun hk => HG3.out.apart k hk e) (fun hk => by have := HFJ.out.2 k e; have := HZ4.out.2.1; omega)
      have hsF : ¬ grow FJ w3 w4 sb ∧ ¬ FC sb := ⟨fun hk => hk.elim HG3.out.sF.1 (fun hk => by have := HG3.out.box.lt; omega), HG3.out.sF.2⟩
      have htF : ¬ grow FJ w3 w4 tb ∧ ¬ FC tb := ⟨fun hk => hk.elim HG3.out.tF.1 (fun hk => by have := HG3.out.tm.lt; omega), HG3.out.tF.2⟩
      have hF5 : ∀ k, grow FJ w3 w4 k ∨ FC k ∨ k = sb ∨ k = tb → grow F w3 w4 k := fun k hk => by
        rcases hk with hk | hk | hk | hk
        · exact hk.elim (fun hk => .inl (HFF.out k (.inl hk))) .inr
        · exact .inl (HFF.out k (.inr (.inl hk)))
        · exact .inl (HFF.out k (.inr (.inr (.inl hk))))
        · exact .inl (HFF.out k (.inr (.inr (.inr hk))))
      have HAP := Lib.hid hap; have HSF := Lib.hid hsF; have HTF := Lib.hid htF; have HF5 := Lib.hid hF5
      clear hap hsF htF hF5
      by_cases hz : err = 0
      · subst hz
        have hcln := Clean_any w5 FC cb p most clock ms mb m HC5.out HOK.out.keys HOK.out.ptrs
        have hco := HCO.out
        rw [if_pos rfl] at hco
        have HCL := Lib.hid hcln; have HCO1 := Lib.hid hco
        clear hcln hco HCO
        go_wp2_with fail
        refine HCL.out.mono ?_
        rintro e w6 ⟨rfl, h6, t6⟩
        have hn1 : ¬ FC (w.heap.size + 1) := fun e => by have := HFJ.out.2 _ e; omega
        have hn0 : ¬ FC w.heap.size := fun e => by have := HFJ.out.2 _ e; omega
        have hbe6 : Boxed w6 (w.heap.size + 1) 39 (.int .i64 0) := (t6.block _ (lt_of_get HBE5.out) hn1).trans HBE5.out
        have hbs6 : Boxed w6 w.heap.size 33 (ptrV sb) := (t6.block _ (lt_of_get HBS5.out) hn0).trans HBS5.out
        have y1 := hbe6.cell; have y2 := hbe6.frozen
        have H6 := Lib.hid h6; have T6 := Lib.hid t6; have HBE6 := Lib.hid hbe6; have HBS6 := Lib.hid hbs6
        clear h6 t6 hbe6 hbs6
        go_wp2_with fail
        rw [HCO1.out]
        have t7 : Turn (fun k => k = w.heap.size + 1) w6 (w6.setCell ⟨w.heap.size + 1, 0, none⟩ (.int .i64 0)) := Turn.setCell (a := ⟨w.heap.size + 1, 0, none⟩) (Turn.refl (fun k => k = w.heap.size + 1) w6) (.inl rfl) _
        have hne : w.heap.size ≠ w.heap.size + 1 := by omega
        have hgj : ∀ k, grow FJ w3 w4 k → k ≠ w.heap.size + 1 := fun k hk e => by rcases hk with hk | hk; exact HGE.out k (HFF.out k (.inl hk)) e; have := HZ4.out.2.1; omega
        have hU : StU (w6.setCell ⟨w.heap.size + 1, 0, none⟩ (.int .i64 0)) (grow FJ w3 w4) FC sb b p cb tb most clock ms mb _ ti { σ with j := j', tx := [] } :=
          ⟨t7.blk (T6.out.blk HB5.out HG3.out.sF.2) (HGE.out _ (HFF.out _ (.inr (.inr (.inl rfl))))), (HM5.out.same (T6.out.block _ HM5.out.lt HG3.out.tF.2)).same (t7.block _ (Nat.lt_of_lt_of_le HM5.out.lt T6.out.size) (HGE.out _ (HFF.out _ (.inr (.inr (.inr rfl)))))), (HJ5.out.beside T6.out HAP.out).beside t7 hgj, H6.out.beside t7 (fun k hk => HGE.out k (HFF.out k (.inr (.inl hk)))), HAP.out, HSF.out, HTF.out, fun _ => by
            have e : ({ σ with j := j', tx := [] } : StL).n = σ.n := HLN.out
            rw [e]
            exact HOK.out.cleaned _ (HGT.out (by first | rfl | trivial))⟩
        have tz : Turn F w (w6.setCell ⟨w.heap.size + 1, 0, none⟩ (.int .i64 0)) := (TW5.out.trans (T6.out.mono (fun k hk => HFF.out k (.inr (.inl hk))))).setCell (.inr (by simp)) _
        have hsz6 : w4.heap.size ≤ (w6.setCell ⟨w.heap.size + 1, 0, none⟩ (.int .i64 0)).heap.size := by have h1 := T6.out.size; have h2 := t7.size; have h3 := HZ4.out.2.2; omega
        exact commit_door w _ F (grow F w3 w4) sb b { σ with j := j', tx := [] } K 0 _ rfl (StUAt.ofU hU HF5.out (fun k hk => hk.elim (fun hk => Nat.lt_of_lt_of_le (HF.out k hk) tz.size) (fun hk => by omega)) hcl) (HBE6.out.set _) ((t7.block _ (lt_of_get HBS6.out) hne).trans HBS6.out) (fun k hk => hk.elim .inl (fun hk => .inr ⟨by have := HZ4.out.2.1; omega, by omega⟩)) HF.out tz (fun _ => rfl)
      · have e1 : (err == 0) = false := beq_eq_false_iff_ne.2 hz
        have hco := HCO.out
        rw [if_neg hz] at hco
        have f5 := HBE5.out.frozen
        have HCO1 := Lib.hid hco; have HERR := Lib.hid hz
        clear hco HCO hz
        go_wp2_with fail
        rw [HCO1.out]
        have t7 : Turn (fun k => k = w.heap.size + 1) w5 (w5.setCell ⟨w.heap.size + 1, 0, none⟩ (.int .i64 err)) := Turn.setCell (a := ⟨w.heap.size + 1, 0, none⟩) (Turn.refl (fun k => k = w.heap.size + 1) w5) (.inl rfl) _
        have hne : w.heap.size ≠ w.heap.size + 1 := by omega
        have hgj : ∀ k, grow FJ w3 w4 k → k ≠ w.heap.size + 1 := fun k hk e => by rcases hk with hk | hk; exact HGE.out k (HFF.out k (.inl hk)) e; have := HZ4.out.2.1; omega
        have hU : StU (w5.setCell ⟨w.heap.size + 1, 0, none⟩ (.int .i64 err)) (grow FJ w3 w4) FC sb b p cb tb most clock ms mb m ti { σ with j := j' } :=
          ⟨t7.blk HB5.out (HGE.out _ (HFF.out _ (.inr (.inr (.inl rfl))))), HM5.out.same (t7.block _ HM5.out.lt (HGE.out _ (HFF.out _ (.inr (.inr (.inr rfl)))))), HJ5.out.beside t7 hgj, HC5.out.beside t7 (fun k hk => HGE.out k (HFF.out k (.inr (.inl hk)))), HAP.out, HSF.out, HTF.out, fun hd => by
            have hx : j'.d.dead = false := hd
            rw [HDD.out HERR.out] at hx; exact absurd hx (by decide)⟩
        have tz : Turn F w (w5.setCell ⟨w.heap.size + 1, 0, none⟩ (.int .i64 err)) := TW5.out.setCell (.inr (by simp)) _
        have hsz6 : w4.heap.size ≤ (w5.setCell ⟨w.heap.size + 1, 0, none⟩ (.int .i64 err)).heap.size := by have h2 := t7.size; have h3 := HZ4.out.2.2; omega
        have hdoor := fun (tmps : Array Value) (ht : tmps.getD 2 undef = .pointer (some ⟨w.heap.size + 1, 0, none⟩)) => commit_door w _ F (grow F w3 w4) sb b { σ with j := j' } K err tmps ht (StUAt.ofU hU HF5.out (fun k hk => hk.elim (fun hk => Nat.lt_of_lt_of_le (HF.out k hk) tz.size) (fun hk => by omega)) hcl) (HBE5.out.set _) ((t7.block _ (lt_of_get HBS5.out) hne).trans HBS5.out) (fun k hk => hk.elim .inl (fun hk => .inr ⟨by have := HZ4.out.2.1; omega, by omega⟩)) HF.out tz (fun e => absurd e HERR.out)
        simp only [if_neg HERR.out] at hdoor
        exact hdoor _ rfl
  · have hr : σ.commit = (σ, σ.state true) := by unfold StL.commit; rw [if_pos hz]
    rw [hr]
    have e1' : (σ.state true == 0) = false := beq_eq_false_iff_ne.2 hz
    have hb2 := hb1.set (.int .i64 (σ.state true))
    have hqe : Q w (wa.setCell ⟨w.heap.size + 1, 0, none⟩ (.int .i64 (σ.state true))) := Qs.st hq _ _ (by simp)
    have hend := h.quiet hqe (Nat.le_refl K)
    have HE := Lib.hid hend; have HST := Lib.hid hst; have HB2 := Lib.hid hb2
    clear hend hqe hb2 hr hz hst hh hn hp h hF hsz hb0 hb1 hq
    simp only at HE ⊢
    generalize σ.state true = x at *
    go_enter_defers Tryz.func28, Tryz.ntmps28
    go_upto_region 1 with fail
    rw [← hwa]
    clear hwa
    go_wp2_with fail
    refine HST.out.mono ?_
    rintro e w1 ⟨rfl, rfl⟩
    go_wp2_with fail
    exact ⟨.int .i64 x, results_cell1 rfl _ _ ⟨w.heap.size + 1, 0, none⟩ _ rfl (load_errno _ _ x HB2.out.cell), rfl, HE.out.1, HE.out.2⟩
theorem ext_app' (rs ss : List (Nat × Nat)) : ext (rs ++ ss) = ext rs ++ ext ss := by simp [ext]
theorem ext_one' (l : List (Nat × Nat)) : ∀ u ∈ ext l, u.oneCell' = true := by
  intro u hu
  obtain ⟨d, _, hd⟩ := List.mem_flatMap.1 hu
  simp at hd
  rcases hd with rfl | rfl <;> simp [Value.oneCell']
theorem tinfoExt1 : (Tryz.prog.info? 49).map (fun i => (i.zero, i.size, i.bytes)) = some (some (.agg #[.int .i64 0, .int .i64 0]), 2, 16) := by kernel_rfl
theorem ext_app (W0 : World) {w : World} {ops : Array Oper} {o : Oper} {a : Act} {K : Act → World → Prop} {Qx : Exit → Act → World → Prop} {E : Prop} (hgd : o.guard = none) (s x : Operand)
    (ho : o.op = .call { callee := .builtin .append, args := #[s, x], argTypes := #[46, 46] })
    (v : Value) (n : Nat) (xs : List (Nat × Nat)) (hs : a.eval s = v) (hown : w.ownsRow W0.heap.size 49 2 v n (ext xs)) (hq : Q W0 w)
    (vx : Value) (m : Nat) (ys : List (Nat × Nat)) (hx : a.eval x = vx) (hl : Sl w vx m 2 (ext ys)) (hnm : n + m ≤ 1000000000)
    (h : ∀ v' w', w'.ownsRow W0.heap.size 49 2 v' (n + m) (ext (xs ++ ys)) → Q W0 w' → K (a.put o.dst v') w') :
    if Region.wanted o (yielded ops a.tmps) = true then Oper.wp Tryz.prog o a w K Qx else E := by
  obtain ⟨i0, hi, hz0, hz1, hz2⟩ := info_parts tinfoExt1
  have hw : Region.wanted o (yielded ops a.tmps) = true := by simp [Region.wanted, hgd]
  rw [if_pos hw]
  refine wp_append_sl w s x 46 ho W0.heap.size 49 i0 (.agg #[.int .i64 0, .int .i64 0]) 2 16 Tryz.underlying46 hi hz0 hz1 hz2 rfl (by decide) v n (ext xs) hs hown vx m (ext ys) hx hl (ext_one' ys) (by unfold maxLen; omega) (by omega) hq.size ?_
  · intro v' w' h2 h3 _
    exact h v' w' (by rw [ext_app']; exact h2) (grown_below hq hown h3 (Nat.le_refl _) hq.size)
theorem ext_lit (w : World) (x y : Nat) : Sl (w.alloc (.cells #[.int .i64 (x : Nat), .int .i64 (y : Nat)] 49)) (.slice (some ⟨w.heap.size, 0, none⟩) 1 1) 1 2 (ext [(x, y)]) :=
  Sl.lit w #[.int .i64 (x : Nat), .int .i64 (y : Nat)] 49 1 2 rfl
theorem SUsed_any (w : World) (F : Nat → Prop) (sb b : Nat) (σ : StL) (K : Nat) (h : StAt w F sb b σ K) (hn : StNum σ) :
    Calls Tryz.prog 19 #[ptrV sb] w fun e w' => ∃ v, e = .returned v ∧ w'.ownsRow w.heap.size 49 2 v (usedR σ.map1 (firstD σ.n) σ.n).length (ext (usedR σ.map1 (firstD σ.n) σ.n)) ∧ Q w w' := by
  have hmx := hn.max; have hml := hn.map
  have hbl := h.hblocks
  have hfs : ∀ W, Q w W → Calls Tryz.prog 21 #[ptrV sb] W fun e w' => e = .returned (.int .i64 (firstD σ.n : Nat)) ∧ W = w' := fun W q => by
    obtain ⟨FJ, FC, p, cb, tb, most, clock, ms, mb, m, ti, hg, _⟩ := h.keep q
    exact SFirst_any hg hmx
  have hru := fun (W : World) => BRuns_any σ.map1 (σ.n : Nat) W (by rw [hml]; unfold partsN; omega) (by omega) (by omega)
  rw [firstN_n hn] at hru
  obtain ⟨p, cb, tb, hbx⟩ := h.boxed
  obtain ⟨c0, c1, c2, c3, c4, c5⟩ := Blk.c6 hbx
  have hud : usedR σ.map1 (firstD σ.n) σ.n = ((runsTo σ.map1 σ.n ++ [(σ.n, 0)]).foldl usedStep ([], firstD σ.n)).1 := rfl
  obtain ⟨RES, hres⟩ : ∃ RES, RES = ((runsTo σ.map1 σ.n ++ [(σ.n, 0)]).foldl usedStep ([], firstD σ.n)).1 := ⟨_, rfl⟩
  rw [hud, ← hres]
  have HRES := Lib.hid hres
  clear hres
  have HBL := Lib.hid hbl; have HFS := Lib.hid hfs; have HRU := Lib.hid hru
  have hf1 : firstD σ.n ≤ 4200 := by unfold firstD partsN; omega
  clear hbl hfs hru hbx hud h hn hml
  generalize σ.map1 = m1 at *
  generalize firstD σ.n = lo at *
  generalize σ.n = n at *
  have hrl : (runsTo m1 n).length + 1 ≤ 1000000000 := by have := runsTo_length m1 n; omega
  have HRL := Lib.hid hrl
  have KK := Lib.hid (Q.refl w)
  clear hrl
  go_enter Tryz.func19, Tryz.ntmps19
  go_wp2_with fail
  refine (HFS.out _ (Q.refl w)).mono ?_
  rintro e w1 ⟨rfl, rfl⟩
  go_wp2_with fail
  go_region_law
    (first
      | (go_simp; go_at_call 54; with_reducible refine (HBL.out _ (by repeat (first | with_reducible exact KK.out | with_reducible apply Qs.dr | with_reducible apply Qs.al))).mono ?_; rintro e w5 ⟨rfl, rfl⟩)
      | (go_simp; go_at_call 53; with_reducible refine (HRU.out _).mono ?_; rintro e w6 ⟨v6, rfl, q6, o6⟩; have s' : Q w w6 := Q.trans (by repeat (first | with_reducible exact KK.out | with_reducible apply Qs.dr | with_reducible apply Qs.al)) (Q.of q6); clear KK; have KK := Lib.hid s'; have c2' := cellQ s' c2; have O6 := Lib.hid (owns_low (base' := w.heap.size) o6 (Nat.le_refl _)); clear s' q6 o6)
      | (refine ext_app w (by rfl) _ _ (by rfl) v6 (runsTo m1 n).length (runsTo m1 n) (by rfl) (ownsRow_below O6.out (Q.alloc _ _)) (KK.out.trans (Q.alloc _ _)) (.slice (some ⟨w6.heap.size, 0, none⟩) 1 1) 1 [(n, 0)] (by rfl) (ext_lit w6 n 0) HRL.out ?_; intro v7 w7 h7 q7; obtain ⟨a7, cap7, rfl, -⟩ := owns_value h7; have H7 := Lib.hid h7; have Q7 := Lib.hid q7; clear h7 q7))
  all_goals
    go_simp
    have hrr : ∀ k (hk : k < (runsTo m1 n ++ [(n, 0)]).length), (runsTo m1 n ++ [(n, 0)])[k].1 + (runsTo m1 n ++ [(n, 0)])[k].2 ≤ n := fun k hk => by
      have hm := List.getElem_mem hk
      rcases List.mem_append.1 hm with hm | hm
      · exact ((runs_ok m1 n).1 _ hm).2.2.2.1
      · rw [List.mem_singleton] at hm; rw [hm]; exact Nat.le_refl _
    have hlen : (runsTo m1 n ++ [(n, 0)]).length = (runsTo m1 n).length + 1 := by simp
    have hrn : (runsTo m1 n).length ≤ n := runsTo_length m1 n
    have hs7 := Sl.of_owns H7.out
    have hcell : ∀ k (hk : k < (runsTo m1 n ++ [(n, 0)]).length), ∃ g off, a7 = some ⟨g, off, none⟩ ∧ w7.cell? ⟨g, off + k * 2, none⟩ = some (.int .i64 ((runsTo m1 n ++ [(n, 0)])[k].1 : Nat)) ∧ w7.cell? ⟨g, off + k * 2 + 1, none⟩ = some (.int .i64 ((runsTo m1 n ++ [(n, 0)])[k].2 : Nat)) := fun k hk => by
      obtain ⟨_, a, cap, e, hc⟩ := hs7
      simp only [Value.slice.injEq] at e
      obtain ⟨rfl, _, _⟩ := e
      obtain ⟨g, off, e, hc⟩ := hc (by omega)
      have h1 := ext_at (runsTo m1 n ++ [(n, 0)]) k hk
      exact ⟨g, off, e, by have := hc _ _ h1.1; rwa [Nat.mul_comm] at this, by have := hc _ _ h1.2; rwa [Nat.mul_comm, ← Nat.add_assoc] at this⟩
    obtain ⟨i1, hi1, hy0, hy1, hy2⟩ := info_parts tinfoExt1
    have HRR := Lib.hid hrr; have HCE := Lib.hid hcell; have HLN := Lib.hid hlen
    clear hrr hcell hs7 H7 c0 c1 c2 c3 c4 c5 c2' O6 KK HRL hlen
    generalize runsTo m1 n ++ [(n, 0)] = RR at *
    generalize (runsTo m1 n).length = rl at *
    go_wp2_with fail
    go_loopw [3, 4, 22] (fun v at_ i wr => ∃ (k : Nat) (st : List (Nat × Nat) × Nat), i = .int .i64 (k : Nat) ∧ k ≤ rl + 1 ∧ at_ = .int .i64 (st.2 : Nat) ∧ st.1.length ≤ k ∧ st.2 ≤ 4200 ∧ Hid (wr.ownsRow w7.heap.size 49 2 v st.1.length (ext st.1)) ∧ Hid ((RR.take k).foldl usedStep ([], lo) = st) ∧ Hid (Q w7 wr)) (fun _ _ i _ => rl + 1 - (intOf i).toNat)
    case atStart => exact ⟨0, ([], lo), rfl, Nat.zero_le _, rfl, Nat.le_refl _, hf1, Lib.hid (World.ownsRow_nil _ _ _ _), Lib.hid rfl, Lib.hid (Q.refl _)⟩
    case round =>
      obtain ⟨k, ⟨acc, pos⟩, rfl, hk, rfl, hal, hpos, HOW, HST, HQ⟩ := hrel
      simp only at hal hpos HOW ⊢
      by_cases hlt : k < rl + 1
      · have hki : (k : Int) < (rl : Int) + 1 := by omega
        have hkl : k < RR.length := by rw [HLN.out]; exact hlt
        obtain ⟨g, off, rfl, x1, x2⟩ := HCE.out k hkl
        have y1 := cellQ HQ.out x1; have y2 := cellQ HQ.out x2
        have hle := HRR.out k hkl
        have hst : (RR.take (k + 1)).foldl usedStep ([], lo) = usedStep (acc, pos) RR[k] := by
          rw [List.take_succ_eq_append_getElem hkl, List.foldl_append, HST.out]; rfl
        generalize RR[k] = r at *
        obtain ⟨a, c⟩ := r
        simp only at y1 y2 hle
        unfold usedStep at hst
        simp only at hst
        have HST2 := Lib.hid hst
        clear hst x1 x2 HST
        by_cases hgt : pos < a
        · have e1 : (pos : Int) < (a : Int) := by omega
          have hst := HST2.out
          rw [if_pos hgt] at hst
          have HST3 := Lib.hid hst
          have hw : IntKind.i64.wrap ((a : Int) - (pos : Int)) = (a : Int) - (pos : Int) := IntWalk.i64_in _ (by omega)
          have hw2 : IntKind.i64.wrap ((a : Int) + (c : Int)) = (a : Int) + (c : Int) := IntWalk.i64_in _ (by omega)
          have hc1 : ∀ u ∈ #[Value.int .i64 (pos : Nat), Value.int .i64 ((a : Int) - (pos : Int))].toList, u.oneCell' = true := by intro u hu; simp at hu; rcases hu with rfl | rfl <;> rfl
          have hc2 : (acc.length + 1) * 16 ≤ 140737488355328 := by omega
          have HC3 := Lib.hid hc1; have HC4 := Lib.hid hc2
          have hb0 : w7.heap.size ≤ (wr.alloc (.cells #[.int .i64 (a : Nat), .int .i64 (c : Nat)] 49)).heap.size := by have := HQ.out.size; simp; omega
          have how := ownsRow_below HOW.out (Q.alloc wr (.cells #[.int .i64 (a : Nat), .int .i64 (c : Nat)] 49))
          have HO2 := Lib.hid how
          have HVB := Lib.hid (fun kk hk => (HOW.out.lt kk hk).2)
          have hq2 : Q w7 (wr.alloc (.cells #[.int .i64 (a : Nat), .int .i64 (c : Nat)] 49)) := HQ.out.trans (Q.alloc _ _)
          have HQ2 := Lib.hid hq2
          have z0 : (wr.alloc (.cells #[.int .i64 (a : Nat), .int .i64 (c : Nat)] 49)).cell? ⟨wr.heap.size, 0, none⟩ = some (.int .i64 (a : Nat)) := (Blk.new wr 49 #[.int .i64 (a : Nat), .int .i64 (c : Nat)]).cell 0 _ rfl
          have z1 : (wr.alloc (.cells #[.int .i64 (a : Nat), .int .i64 (c : Nat)] 49)).cell? ⟨wr.heap.size, 1, none⟩ = some (.int .i64 (c : Nat)) := (Blk.new wr 49 #[.int .i64 (a : Nat), .int .i64 (c : Nat)]).cell 1 _ rfl
          have hz : (wr.alloc (.cells #[.int .i64 (a : Nat), .int .i64 (c : Nat)] 49)).heap.size = wr.heap.size + 1 := by simp
          have HZ := Lib.hid hz
          clear hc1 hc2 how hst HST2 hgt hq2 hz
          go_upto_region 7 with fail
          generalize wr.alloc (.cells #[.int .i64 (a : Nat), .int .i64 (c : Nat)] 49) = wx at *
          have hst' : wx.heap.size ≤ wx.heap.size := Nat.le_refl _
          go_wp2_with (at_builtin; refine wpList_app wx (by rfl) _ _ 46 (by rfl) w7.heap.size 49 _ i1 (.agg #[.int .i64 0, .int .i64 0]) 2 16 Tryz.underlying46 hi1 hy0 hy1 hy2 rfl (by decide) (by decide) _ _ _ (by rfl) HO2.out #[.int .i64 (pos : Nat), .int .i64 ((a : Int) - (pos : Int))] (by rfl) rfl HC3.out HC4.out hb0 ?_)
          intro g11 cap11 w11 hr11 hg11 ho11 hlt11 hlt11b
          have hq21 : Q w7 w11 := grown_below HQ2.out HO2.out hg11 (Nat.le_refl _) hb0
          have hr11' : w11.ownsRow w7.heap.size 49 2 (.slice (some ⟨g11, 0, none⟩) (acc.length + 1) cap11) (acc ++ [(pos, a - pos)]).length (ext (acc ++ [(pos, a - pos)])) := by
            rw [List.length_append, ext_app', show ext [(pos, a - pos)] = [.int .i64 (pos : Nat), .int .i64 ((a : Int) - (pos : Int))] by simp only [ext, List.flatMap_cons, List.flatMap_nil, List.append_nil]; rw [show (((a - pos : Nat) : Nat) : Int) = (a : Int) - (pos : Int) by omega]]; exact hr11
          have v0 : w11.cell? ⟨wr.heap.size, 0, none⟩ = some (.int .i64 (a : Nat)) := by
            exact hg11.cell z0 (fun h => by have := HVB.out _ h.symm; simp at this)
          have v1 : w11.cell? ⟨wr.heap.size, 1, none⟩ = some (.int .i64 (c : Nat)) := by
            exact hg11.cell z1 (fun h => by have := HVB.out _ h.symm; simp at this)
          have HQ11 := Lib.hid hq21; have HR11 := Lib.hid hr11'
          clear hr11 hg11 ho11 hlt11 hlt11b hr11' hq21
          go_wp2_with fail
          go_roundw
          case rel => exact ⟨k + 1, (acc ++ [(pos, a - pos)], a + c), by go_num, by omega, by push_cast; rfl, by simp; omega, by simp only; omega, HR11, HST3, HQ11⟩
          case measure => simp [intOf]; omega
        · have e1 : ¬ (pos : Int) < (a : Int) := by omega
          have hst := HST2.out
          rw [if_neg hgt] at hst
          have HST3 := Lib.hid hst
          have hw2 : IntKind.i64.wrap ((a : Int) + (c : Int)) = (a : Int) + (c : Int) := IntWalk.i64_in _ (by omega)
          have how := ownsRow_below HOW.out (Q.alloc wr (.cells #[.int .i64 (a : Nat), .int .i64 (c : Nat)] 49))
          have HO2 := Lib.hid how
          have hq2 : Q w7 (wr.alloc (.cells #[.int .i64 (a : Nat), .int .i64 (c : Nat)] 49)) := HQ.out.trans (Q.alloc _ _)
          have HQ2 := Lib.hid hq2
          clear how hst HST2 hgt hq2
          go_wp2_with fail
          go_roundw
          case rel => exact ⟨k + 1, (acc, a + c), by go_num, by omega, by push_cast; rfl, by simp only; omega, by simp only; omega, HO2, HST3, HQ2⟩
          case measure => simp [intOf]; omega
      · have hki : ¬ (k : Int) < (rl : Int) + 1 := by omega
        obtain rfl : k = rl + 1 := by omega
        have hst := HST.out
        rw [List.take_of_length_le (by rw [HLN.out]; exact Nat.le_refl _)] at hst
        have HST2 := Lib.hid hst
        have HOO := Lib.hid (owns_low (base' := w.heap.size) HOW.out Q7.out.size)
        have HQQ := Lib.hid (Q7.out.trans HQ.out)
        clear hst HST HOW HQ
        go_wp2_with fail
        go_ret
        rw [HRES.out, HST2.out]
        exact ⟨_, rfl, HOO.out, HQQ.out⟩
end
end Go.Proofs.YtnmijegmbomfdaaGreatDoor
