/- Joined texts of one proof: what is needed of WCacB, WCacC, MapR, Range3, WCacD, AppIn, WCrc. -/
import Derived.Test.YtnmijegmbomfdaaGreatDoorJMapI
import Derived.Test.YtnmijegmbomfdaaGreatDoorJMem3
import Derived.Maps.Range
import Derived.Test.YtnmijegmbomfdaaGreatDoorProg
import Derived.Test.YtnmijegmbomfdaaGreatDoorJSto2
import Derived.Test.YtnmijegmbomfdaaGreatDoorJWire
import Derived.WalkKit
import Derived.WalkSpells
import Derived.WalkLawsBesides
import Derived.Outline
import Derived.KernelRfl
set_option linter.unusedSimpArgs false
set_option linter.unusedVariables false
set_option linter.unnecessarySimpa false
set_option maxRecDepth 100000
set_option maxHeartbeats 16000000
namespace Go.Proofs.YtnmijegmbomfdaaGreatDoor
section
open Go.RowKit
theorem CGet_hit (w : World) (F : Nat → Prop) (cb p most clock : Nat) (ms : Int) (mb : Nat) (m : KeptLs) (i : Nat) (k : KeptL) (h : CacG w F cb p most clock ms mb m) (hg : getI i m = some k) (hk : (m.map (·.1)).Nodup) (hp : (m.map (·.2.p)).Nodup) (hc : clock ≤ 1000000000000000000) :
    Calls Tryz.prog 60 #[ptrV cb, .int .i64 (i : Nat)] w fun e w' => e = .returned (.tuple #[strV k.data, .int .i64 0]) ∧ CacG w' F cb p most (clock + 1) ms mb (putI i { k with used := clock + 1 } m) ∧ Turn F w w' ∧ w'.heap.size = w.heap.size := by
  have hu := Use_any w F cb p most clock ms mb m i k h hg hk hp hc
  have c4 := h.box.cell 4 (.map (some mb)) rfl
  have hlk := h.lookHit hg
  have hmp := h.map
  have HU := Lib.hid hu; have HLK := Lib.hid hlk; have HMP := Lib.hid hmp; have HH := Lib.hid h
  clear hu hlk hmp h
  go_enter Tryz.func60, Tryz.ntmps60
  go_wp2_with (at_lookup; refine wpList_lookup_int _ (by rfl) _ _ 141 false (by rfl) 3 150 Tryz.underlying141 Tryz.underlying3 (.pointer none) (run_mapElem _) mb _ HMP.out i (by rfl) (by rfl) ?_)
  rw [HLK.out]
  go_wp2_with fail
  go_simp
  go_wp2_with fail
  refine HU.out.mono ?_
  rintro e w1 ⟨rfl, h1, t1, hz1⟩
  have d0 := (h1.kept (i, { k with used := clock + 1 }) ((putI_mem' hk).2 (.inl rfl))).1.cell 0 (strV k.data) rfl
  have H1 := Lib.hid h1; have T1 := Lib.hid t1; have Z1 := Lib.hid hz1
  simp only [] at d0
  clear h1 t1 hz1
  go_wp2_with fail
  go_ret2
  exact ⟨rfl, H1.out, T1.out, Z1.out⟩
def RoomEnd (F : Nat → Prop) (n most clock : Nat) (tx : List WrL) (g : Nat → Bytes) (cb p : Nat) (ms : Int) (mb : Nat) (m : KeptLs) (w : World) (e : Ending) (w' : World) : Prop :=
  e = .returned (.int .i64 0) ∧ Turn F w w' ∧ ∃ m', CacG w' F cb p most clock ms mb m' ∧ CacOk n most clock tx g m' ∧ m'.length < most ∧ ∀ i, getI i m = none → getI i m' = none
def RoomC (w : World) (F : Nat → Prop) (n most clock : Nat) (tx : List WrL) (g : Nat → Bytes) (cb p : Nat) (ms : Int) (mb : Nat) (m : KeptLs) : Prop :=
  Calls Tryz.prog 105 #[ptrV cb] w fun e w' => RoomEnd F n most clock tx g cb p ms mb m w e w'
theorem CGet_miss (w : World) (F : Nat → Prop) (cb p b n most clock : Nat) (ms : Int) (mb : Nat) (m : KeptLs) (tx : List WrL) (g : Nat → Bytes) (i : Nat) (h : CacG w F cb p most clock ms mb m) (ho : CacOk n most clock tx g m) (hj : w.cell? ⟨p, 0, none⟩ = some (ptrV b)) (hg : getI i m = none)
    (hi : 63 ≤ i ∧ i < n) (hc : clock ≤ 1000000000000000000) (hrd : Calls Tryz.prog 47 #[ptrV b, .int .i64 (i : Nat)] w fun e w' => e = .returned (.tuple #[strV (g i), .int .i64 0]) ∧ Q w w')
    (hroom : ∀ W, Q w W → CacG W F cb p most clock ms mb m → RoomC W F n most clock tx g cb p ms mb m) :
    Calls Tryz.prog 60 #[ptrV cb, .int .i64 (i : Nat)] w fun e w' => e = .returned (.tuple #[strV (g i), .int .i64 0]) ∧ Turn F w w' ∧ ∃ m' ms', CacG w' (grow F w w') cb p most (clock + 1) ms' mb m' ∧ CacOk n most (clock + 1) tx g m' := by
  obtain ⟨gi, hgi⟩ : ∃ gi, gi = g i := ⟨_, rfl⟩
  rw [← hgi] at hrd ⊢
  have c0 := h.box.cell 0 (.iface 89 (ptrV p)) rfl
  have c4 := h.box.cell 4 (.map (some mb)) rfl
  have hlk := h.lookMiss hg
  have hmp := h.map
  have HGI := Lib.hid hgi
  clear hgi
  have HLK := Lib.hid hlk; have HMP := Lib.hid hmp; have HH := Lib.hid h; have HO := Lib.hid ho; have HRD := Lib.hid hrd; have HRM := Lib.hid hroom; have HG := Lib.hid hg
  have hmr := fun n => method_read n w p b hj
  clear hlk hmp h ho hrd hroom hg
  go_enter Tryz.func60, Tryz.ntmps60
  go_wp2_with (at_lookup; refine wpList_lookup_int _ (by rfl) _ _ 141 false (by rfl) 3 150 Tryz.underlying141 Tryz.underlying3 (.pointer none) (run_mapElem _) mb _ HMP.out i (by rfl) (by rfl) ?_)
  rw [HLK.out]
  go_wp2_with fail
  go_simp
  go_wp2_with fail
  refine HRD.out.mono ?_
  rintro e w1 ⟨rfl, q1⟩
  have h1 := HH.out.keep q1
  have cr := HRM.out w1 q1 h1
  have HQ1 := Lib.hid q1; have CR := Lib.hid cr
  clear q1 h1 cr hmr
  go_wp2_with fail
  refine CR.out.mono ?_
  rintro e w2 ⟨rfl, t2, m', h2, o2, l2, n2⟩
  have hg2 := n2 i HG.out
  have hka : Blk (w2.alloc (.cells (kcells ⟨w2.heap.size, gi, false, 0⟩) 152)) w2.heap.size 152 (kcells ⟨w2.heap.size, gi, false, 0⟩) := Blk.new w2 _ _
  have h3 := h2.keep (Q.alloc w2 (.cells (kcells ⟨w2.heap.size, gi, false, 0⟩) 152))
  have c4' := h3.box.cell 4 (.map (some mb)) rfl
  change (w2.alloc (.cells #[strV gi, .bool false, .int .i64 0, .int .i64 0] 152)).cell? ⟨cb, 4, none⟩ = some (.map (some mb)) at c4'
  have hm3 := h3.map
  have HKA := Lib.hid hka; have H3 := Lib.hid h3; have HM3 := Lib.hid hm3; have T2 := Lib.hid t2; have O2 := Lib.hid (And.intro o2 (And.intro l2 hg2)); have H2 := Lib.hid h2
  clear hka h3 hm3 t2 h2 o2 l2 n2 hg2 c0 c4
  go_wp2_with (at_mapUpdate; refine wpList_update_int _ (by rfl) _ _ _ 141 (by rfl) 3 150 Tryz.underlying141 Tryz.underlying3 mb _ HM3.out i (ptrV w2.heap.size) (by rfl) (by rfl) (by rfl) ?_)
  intro w4 hm4 hg4 hz4
  have t4 := CacG.turn_of_map hg4
  have h4 : CacG w4 (fun x => F x ∨ x = w2.heap.size) cb p most clock ms mb (putI i ⟨w2.heap.size, gi, false, 0⟩ m') := H3.out.laid O2.out.2.2 (k := ⟨w2.heap.size, gi, false, 0⟩) rfl HKA.out (fun x => Iff.rfl) hm4 t4
  have o4 : CacOk n most clock tx g (putI i ⟨w2.heap.size, gi, false, 0⟩ m') := O2.out.1.lay O2.out.2.2 O2.out.2.1 hi ⟨w2.heap.size, gi, false, 0⟩ (fun x hx e => by have := H2.out.lt _ (H2.out.kept x hx).2; rw [e] at this; exact Nat.lt_irrefl _ this) HGI.out rfl (Nat.zero_le _)
  have c3 := h4.box.cell 3 (.int .i64 ms) rfl
  have f3 := h4.box.frozen 3
  have T4 := Lib.hid t4; have H4 := Lib.hid h4; have O4 := Lib.hid o4; have HZ4 := Lib.hid hz4
  clear hm4 hg4 hz4 t4 h4 o4 c4'
  go_wp2_with fail
  have t5 : Turn (fun x => x = cb) w4 (w4.setCell ⟨cb, 3, none⟩ (.int .i64 (wrap64 (ms + 1)))) := Turn.setCell (a := ⟨cb, 3, none⟩) (Turn.refl (fun x => x = cb) w4) (.inl rfl) _
  have h5 := H4.out.turnBox t5 (clock' := clock) (ms' := wrap64 (ms + 1)) (H4.out.box.set 3 _)
  have hk5 := O4.out.keys; have hp5 := O4.out.ptrs
  have hg5 : getI i (putI i (⟨w2.heap.size, gi, false, 0⟩ : KeptL) m') = some ⟨w2.heap.size, gi, false, 0⟩ := by rw [getI_putI, if_pos rfl]
  have cu := Use_any _ _ cb p most clock _ mb _ i _ h5 hg5 hk5 hp5 hc
  have o5 := O4.out.use hg5
  have hs5 := setCell_size w4 ⟨cb, 3, none⟩ (.int .i64 (wrap64 (ms + 1)))
  have CU := Lib.hid cu; have O5 := Lib.hid o5; have T5 := Lib.hid t5; have HS5 := Lib.hid hs5; have HK5 := Lib.hid hk5
  clear cu o5 t5 h5 hk5 hp5 hg5 c3 f3 hs5
  refine CU.out.mono ?_
  rintro e w6 ⟨rfl, h6, t6, hz6⟩
  have d0 := (h6.kept (i, ⟨w2.heap.size, gi, false, clock + 1⟩) ((putI_mem' HK5.out).2 (.inl rfl))).1.cell 0 (strV gi) rfl
  simp only [] at d0
  have H6 := Lib.hid h6; have T6 := Lib.hid t6; have HZ6 := Lib.hid hz6
  clear h6 t6 hz6
  go_wp2_with fail
  go_ret2
  have hsz2 : w.heap.size ≤ w2.heap.size := Nat.le_trans HQ1.out.size T2.out.size
  have hfm : F mb := HH.out.fm
  have hfb : F cb := HH.out.fb
  have ta : Turn F w (w2.alloc (.cells (kcells ⟨w2.heap.size, gi, false, 0⟩) 152)) := ((Turn.of_q HQ1.out).trans T2.out).q (Q.alloc _ _)
  have tb : Turn F w w4 := ta.trans (T4.out.mono (fun x hx => by subst hx; exact hfm))
  have tc := tb.trans (T5.out.mono (fun x hx => by subst hx; exact hfb))
  have hw4 : w2.heap.size < w4.heap.size := by rw [HZ4.out]; simp
  have td : Turn F w w6 := tc.step (T6.out.mono (fun x hx => hx.elim .inl (fun hx => .inr (by subst hx; exact ⟨hsz2, by rw [HS5.out]; exact hw4⟩))))
  refine ⟨rfl, td, _, _, H6.out.mono (fun x hx => hx.elim .inl (fun hx => .inr (by subst hx; exact ⟨hsz2, by rw [HZ6.out, HS5.out]; exact hw4⟩))) (fun x hx => hx.elim (fun hx => Nat.lt_of_lt_of_le (HH.out.lt x hx) td.size) (fun hx => hx.2)), O5.out⟩
theorem CGet_any (w : World) (F : Nat → Prop) (cb p b n most clock : Nat) (ms : Int) (mb : Nat) (m : KeptLs) (tx : List WrL) (g : Nat → Bytes) (i : Nat) (h : CacG w F cb p most clock ms mb m) (ho : CacOk n most clock tx g m) (hj : w.cell? ⟨p, 0, none⟩ = some (ptrV b))
    (hi : 63 ≤ i ∧ i < n) (hc : clock ≤ 1000000000000000000) (hrd : Calls Tryz.prog 47 #[ptrV b, .int .i64 (i : Nat)] w fun e w' => e = .returned (.tuple #[strV (g i), .int .i64 0]) ∧ Q w w')
    (hroom : ∀ W, Q w W → CacG W F cb p most clock ms mb m → RoomC W F n most clock tx g cb p ms mb m) :
    Calls Tryz.prog 60 #[ptrV cb, .int .i64 (i : Nat)] w fun e w' => e = .returned (.tuple #[strV (lastP tx i (g i)), .int .i64 0]) ∧ Turn F w w' ∧ ∃ m' ms', CacG w' (grow F w w') cb p most (clock + 1) ms' mb m' ∧ CacOk n most (clock + 1) tx g m' := by
  cases hg : getI i m with
  | some k =>
    refine (CGet_hit w F cb p most clock ms mb m i k h hg ho.keys ho.ptrs hc).mono ?_
    rintro e w' ⟨rfl, h1, t1, hz⟩
    exact ⟨by rw [ho.hit hg], t1, _, ms, h1.mono (fun x hx => .inl hx) (fun x hx => hx.elim (fun hx => Nat.lt_of_lt_of_le (h.lt x hx) t1.size) (fun hx => hx.2)), ho.use hg⟩
  | none =>
    refine (CGet_miss w F cb p b n most clock ms mb m tx g i h ho hj hg hi hc hrd hroom).mono ?_
    rintro e w' ⟨rfl, t1, h1⟩
    exact ⟨by rw [lastP_none _ _ _ (ho.miss hg)], t1, h1⟩
theorem putI_putI {α : Type} (k : Nat) (u v : α) (m : List (Nat × α)) : putI k v (putI k u m) = putI k v m := by
  induction m with
  | nil => simp [putI]
  | cons y m ih =>
    by_cases hy : y.1 = k
    · simp [putI, hy]
    · simp [putI, hy, ih]
theorem CPut_old (w : World) (F : Nat → Prop) (cb p most clock : Nat) (ms : Int) (mb : Nat) (m : KeptLs) (i : Nat) (k : KeptL) (s : Bytes) (h : CacG w F cb p most clock ms mb m) (hg : getI i m = some k) (hk : (m.map (·.1)).Nodup) (hp : (m.map (·.2.p)).Nodup) (hc : clock ≤ 1000000000000000000) (hs : s.length = 256) :
    Calls Tryz.prog 108 #[ptrV cb, .int .i64 (i : Nat), strV s] w fun e w' => e = .returned (.int .i64 0) ∧ CacG w' F cb p most (clock + 1) ms mb (putI i ⟨k.p, s, true, clock + 1⟩ m) ∧ Turn F w w' ∧ w'.heap.size = w.heap.size := by
  have hm := getI_mem hg
  have hfp := (h.kept _ hm).2
  have hlk := h.lookHit hg
  have hmp := h.map
  have c4 := h.box.cell 4 (.map (some mb)) rfl
  have hkb := (h.kept _ hm).1
  have d0 := hkb.cell 0 (strV k.data) rfl
  have d1 := hkb.cell 1 (.bool k.dirty) rfl
  have f0 := hkb.frozen 0; have f1 := hkb.frozen 1
  simp only [] at d0 d1 f0 f1
  have hkb2 : Blk ((w.setCell ⟨k.p, 0, none⟩ (strV s)).setCell ⟨k.p, 1, none⟩ (.bool true)) k.p 152 (kcells ⟨k.p, s, true, k.used⟩) := (hkb.set 0 (strV s)).set 1 (.bool true)
  have t2 : Turn (fun x => x = k.p) w ((w.setCell ⟨k.p, 0, none⟩ (strV s)).setCell ⟨k.p, 1, none⟩ (.bool true)) := Turn.setCell (a := ⟨k.p, 1, none⟩) (Turn.setCell (a := ⟨k.p, 0, none⟩) (Turn.refl (fun x => x = k.p) w) (.inl rfl) _) (.inl rfl) _
  have h2 := h.turnKept hk hp hg (k' := ⟨k.p, s, true, k.used⟩) rfl t2 hkb2
  have hg2 : getI i (putI i (⟨k.p, s, true, k.used⟩ : KeptL) m) = some ⟨k.p, s, true, k.used⟩ := by rw [getI_putI, if_pos rfl]
  have hu := Use_any _ F cb p most clock ms mb _ i _ h2 hg2 (putI_nodup _ _ _ hk) (by rw [putI_ptrs (v := ⟨k.p, s, true, k.used⟩) hk hp hg rfl]; exact hp) hc
  rw [putI_putI] at hu
  have hsz : ((w.setCell ⟨k.p, 0, none⟩ (strV s)).setCell ⟨k.p, 1, none⟩ (.bool true)).heap.size = w.heap.size := by rw [setCell_size, setCell_size]
  have e1 : (!((s.length : Int) == 256)) = false := by rw [beq_iff_eq.2 (by omega)]; rfl
  have HU := Lib.hid hu; have HLK := Lib.hid hlk; have HMP := Lib.hid hmp; have T2 := Lib.hid t2; have HSZ := Lib.hid hsz; have HFP := Lib.hid hfp
  clear hu hlk hmp h t2 hkb2 h2 hg2 hsz hm hk hp hg hkb hfp
  go_enter Tryz.func108, Tryz.ntmps108
  go_wp2_with (at_lookup; refine wpList_lookup_int _ (by rfl) _ _ 141 false (by rfl) 3 150 Tryz.underlying141 Tryz.underlying3 (.pointer none) (run_mapElem _) mb _ HMP.out i (by rfl) (by rfl) ?_)
  rw [HLK.out]
  go_wp2_with fail
  go_simp
  go_wp2_with fail
  refine HU.out.mono ?_
  rintro e w1 ⟨rfl, h1, t1, hz1⟩
  have H1 := Lib.hid h1; have T1 := Lib.hid t1; have Z1 := Lib.hid hz1
  clear h1 t1 hz1
  go_wp2_with fail
  go_ret
  exact ⟨rfl, H1.out, (T2.out.mono (fun x hx => by subst hx; exact HFP.out)).trans T1.out, by rw [Z1.out, HSZ.out]⟩
theorem CPut_new (w : World) (F : Nat → Prop) (cb p n most clock : Nat) (ms : Int) (mb : Nat) (m : KeptLs) (tx : List WrL) (g : Nat → Bytes) (i : Nat) (s : Bytes) (h : CacG w F cb p most clock ms mb m) (ho : CacOk n most clock tx g m) (hg : getI i m = none)
    (hi : 63 ≤ i ∧ i < n) (hc : clock ≤ 1000000000000000000) (hs : s.length = 256) (ht : (withL tx (i, s)).length ≤ 48)
    (hroom : RoomC w F n most clock tx g cb p ms mb m) :
    Calls Tryz.prog 108 #[ptrV cb, .int .i64 (i : Nat), strV s] w fun e w' => e = .returned (.int .i64 0) ∧ Turn F w w' ∧ ∃ m', CacG w' (grow F w w') cb p most (clock + 1) ms mb m' ∧ CacOk n most (clock + 1) (withL tx (i, s)) g m' := by
  have c4 := h.box.cell 4 (.map (some mb)) rfl
  have hlk := h.lookMiss hg
  have hmp := h.map
  have e1 : (!((s.length : Int) == 256)) = false := by rw [beq_iff_eq.2 (by omega)]; rfl
  have HLK := Lib.hid hlk; have HMP := Lib.hid hmp; have HH := Lib.hid h; have HO := Lib.hid ho; have HRM := Lib.hid hroom; have HG := Lib.hid hg; have HT := Lib.hid ht
  clear hlk hmp h ho hroom hg ht
  go_enter Tryz.func108, Tryz.ntmps108
  go_wp2_with (at_lookup; refine wpList_lookup_int _ (by rfl) _ _ 141 false (by rfl) 3 150 Tryz.underlying141 Tryz.underlying3 (.pointer none) (run_mapElem _) mb _ HMP.out i (by rfl) (by rfl) ?_)
  rw [HLK.out]
  go_wp2_with fail
  go_simp
  go_wp2_with fail
  refine HRM.out.mono ?_
  rintro e w2 ⟨rfl, t2, m', h2, o2, l2, n2⟩
  have hg2 := n2 i HG.out
  have hka : Blk (w2.alloc (.cells (kcells ⟨w2.heap.size, [], false, 0⟩) 152)) w2.heap.size 152 (kcells ⟨w2.heap.size, [], false, 0⟩) := Blk.new w2 _ _
  have h3 := h2.keep (Q.alloc w2 (.cells (kcells ⟨w2.heap.size, [], false, 0⟩) 152))
  have c4' := h3.box.cell 4 (.map (some mb)) rfl
  change (w2.alloc (.cells #[strV [], .bool false, .int .i64 0, .int .i64 0] 152)).cell? ⟨cb, 4, none⟩ = some (.map (some mb)) at c4'
  have hm3 := h3.map
  have HKA := Lib.hid hka; have H3 := Lib.hid h3; have HM3 := Lib.hid hm3; have T2 := Lib.hid t2; have O2 := Lib.hid (And.intro o2 (And.intro l2 hg2)); have H2 := Lib.hid h2
  clear hka h3 hm3 t2 h2 o2 l2 n2 hg2 c4
  go_wp2_with (at_mapUpdate; refine wpList_update_int _ (by rfl) _ _ _ 141 (by rfl) 3 150 Tryz.underlying141 Tryz.underlying3 mb _ HM3.out i (ptrV w2.heap.size) (by rfl) (by rfl) (by rfl) ?_)
  intro w4 hm4 hg4 hz4
  have t4 := CacG.turn_of_map hg4
  have h4 : CacG w4 (fun x => F x ∨ x = w2.heap.size) cb p most clock ms mb (putI i ⟨w2.heap.size, [], false, 0⟩ m') := H3.out.laid O2.out.2.2 (k := ⟨w2.heap.size, [], false, 0⟩) rfl HKA.out (fun x => Iff.rfl) hm4 t4
  have hpn : ∀ x ∈ m', x.2.p ≠ w2.heap.size := fun x hx e => by have := H2.out.lt _ (H2.out.kept x hx).2; rw [e] at this; exact Nat.lt_irrefl _ this
  have o4 : CacOk n most (clock + 1) (withL tx (i, s)) g (putI i ⟨w2.heap.size, s, true, clock + 1⟩ m') := O2.out.1.putNew O2.out.2.2 O2.out.2.1 hi w2.heap.size hpn s HT.out
  have hk4 := putI_nodup i (⟨w2.heap.size, [], false, 0⟩ : KeptL) m' O2.out.1.keys
  have hp4 : ((putI i (⟨w2.heap.size, [], false, 0⟩ : KeptL) m').map (·.2.p)).Nodup := by
    rw [putI_none O2.out.2.2, List.map_append]
    refine List.nodup_append.2 ⟨O2.out.1.ptrs, by simp, fun a ha b hb => ?_⟩
    obtain ⟨x, hx, rfl⟩ := List.mem_map.1 ha
    simp only [List.map_cons, List.map_nil, List.mem_singleton] at hb
    subst hb; exact hpn x hx
  have hg4' : getI i (putI i (⟨w2.heap.size, [], false, 0⟩ : KeptL) m') = some ⟨w2.heap.size, [], false, 0⟩ := by rw [getI_putI, if_pos rfl]
  have hkb := (h4.kept _ (getI_mem hg4')).1
  have d0 := hkb.cell 0 (strV []) rfl
  have d1 := hkb.cell 1 (.bool false) rfl
  have f0 := hkb.frozen 0; have f1 := hkb.frozen 1
  simp only [] at d0 d1 f0 f1
  have hkb2 : Blk ((w4.setCell ⟨w2.heap.size, 0, none⟩ (strV s)).setCell ⟨w2.heap.size, 1, none⟩ (.bool true)) w2.heap.size 152 (kcells ⟨w2.heap.size, s, true, 0⟩) := (hkb.set 0 (strV s)).set 1 (.bool true)
  have t5 : Turn (fun x => x = w2.heap.size) w4 ((w4.setCell ⟨w2.heap.size, 0, none⟩ (strV s)).setCell ⟨w2.heap.size, 1, none⟩ (.bool true)) := Turn.setCell (a := ⟨w2.heap.size, 1, none⟩) (Turn.setCell (a := ⟨w2.heap.size, 0, none⟩) (Turn.refl (fun x => x = w2.heap.size) w4) (.inl rfl) _) (.inl rfl) _
  have h5 := h4.turnKept hk4 hp4 hg4' (k' := ⟨w2.heap.size, s, true, 0⟩) rfl t5 hkb2
  have hg5 : getI i (putI i (⟨w2.heap.size, s, true, 0⟩ : KeptL) (putI i ⟨w2.heap.size, [], false, 0⟩ m')) = some ⟨w2.heap.size, s, true, 0⟩ := by rw [getI_putI, if_pos rfl]
  have cu := Use_any _ _ cb p most clock ms mb _ i _ h5 hg5 (putI_nodup _ _ _ hk4) (by rw [putI_ptrs (v := ⟨w2.heap.size, s, true, 0⟩) hk4 hp4 hg4' rfl]; exact hp4) hc
  rw [putI_putI, putI_putI] at cu
  have hs5 : ((w4.setCell ⟨w2.heap.size, 0, none⟩ (strV s)).setCell ⟨w2.heap.size, 1, none⟩ (.bool true)).heap.size = w4.heap.size := by rw [setCell_size, setCell_size]
  have CU := Lib.hid cu; have O4 := Lib.hid o4; have T4 := Lib.hid t4; have T5 := Lib.hid t5; have HS5 := Lib.hid hs5; have HZ4 := Lib.hid hz4
  clear hm4 hg4 hz4 t4 h4 o4 c4' hk4 hp4 hg4' hkb hkb2 t5 h5 hg5 cu hs5 hpn
  go_wp2_with fail
  refine CU.out.mono ?_
  rintro e w6 ⟨rfl, h6, t6, hz6⟩
  have H6 := Lib.hid h6; have T6 := Lib.hid t6; have HZ6 := Lib.hid hz6
  clear h6 t6 hz6
  go_wp2_with fail
  go_ret
  have hsz2 : w.heap.size ≤ w2.heap.size := T2.out.size
  have ta : Turn F w (w2.alloc (.cells (kcells ⟨w2.heap.size, [], false, 0⟩) 152)) := T2.out.q (Q.alloc _ _)
  have tb : Turn F w w4 := ta.trans (T4.out.mono (fun x hx => by subst hx; exact HH.out.fm))
  have hw4 : w2.heap.size < w4.heap.size := by rw [HZ4.out]; simp
  have tc := tb.step (T5.out.mono (own' := grow F w w4) (fun x hx => by subst hx; exact .inr ⟨hsz2, hw4⟩))
  have td : Turn F w w6 := tc.step (T6.out.mono (fun x hx => hx.elim .inl (fun hx => .inr (by subst hx; exact ⟨hsz2, by rw [HS5.out]; exact hw4⟩))))
  exact ⟨rfl, td, _, H6.out.mono (fun x hx => hx.elim .inl (fun hx => .inr (by subst hx; exact ⟨hsz2, by rw [HZ6.out, HS5.out]; exact hw4⟩))) (fun x hx => hx.elim (fun hx => Nat.lt_of_lt_of_le (HH.out.lt x hx) td.size) (fun hx => hx.2)), O4.out⟩
theorem CPut_any (w : World) (F : Nat → Prop) (cb p n most clock : Nat) (ms : Int) (mb : Nat) (m : KeptLs) (tx : List WrL) (g : Nat → Bytes) (i : Nat) (s : Bytes) (h : CacG w F cb p most clock ms mb m) (ho : CacOk n most clock tx g m)
    (hi : 63 ≤ i ∧ i < n) (hc : clock ≤ 1000000000000000000) (hs : s.length = 256) (ht : (withL tx (i, s)).length ≤ 48)
    (hroom : RoomC w F n most clock tx g cb p ms mb m) :
    Calls Tryz.prog 108 #[ptrV cb, .int .i64 (i : Nat), strV s] w fun e w' => e = .returned (.int .i64 0) ∧ Turn F w w' ∧ ∃ m', CacG w' (grow F w w') cb p most (clock + 1) ms mb m' ∧ CacOk n most (clock + 1) (withL tx (i, s)) g m' := by
  cases hg : getI i m with
  | some k =>
    refine (CPut_old w F cb p most clock ms mb m i k s h hg ho.keys ho.ptrs hc hs).mono ?_
    rintro e w' ⟨rfl, h1, t1, hz⟩
    exact ⟨rfl, t1, _, h1.mono (fun x hx => .inl hx) (fun x hx => hx.elim (fun hx => Nat.lt_of_lt_of_le (h.lt x hx) t1.size) (fun hx => hx.2)), ho.putOld hg s ht⟩
  | none => exact CPut_new w F cb p n most clock ms mb m tx g i s h ho hg hi hc hs ht hroom
end
section
open Go.RowKit Go.MapKept Go.Maps
open Go.ChangeMaps (setBlock)
def keyN : Value → Nat
  | .int _ x => x.toNat
  | _ => 0
theorem keyN_key (k : Nat) : keyN (keyI k) = k := by simp [keyN]
def RangeI (w : World) (b r : Nat) (m : List (Nat × Value)) (left : List Nat) : Prop :=
  ∃ es clock since seen c0, w.heap[b]? = some (.map es clock) ∧ Stamped es clock ∧ es.toList.map kvI = m.map kvN ∧ w.heap[r]? = some (.mapIter (some b) since seen c0) ∧ (∀ x ∈ es.toList, x.born < since) ∧ since ≤ c0 ∧ since ≤ clock ∧
    left = (leftOf es seen).toList.map fun e => keyN e.key
theorem RangeI.map {w : World} {b r : Nat} {m : List (Nat × Value)} {left : List Nat} (h : RangeI w b r m left) : MapI w b m := by
  obtain ⟨es, clock, since, seen, c0, h1, h2, h3, _⟩ := h
  exact ⟨es, clock, h1, h2, h3⟩
theorem RangeI.same {w w' : World} {b r : Nat} {m : List (Nat × Value)} {left : List Nat} (h : RangeI w b r m left) (hb : w'.heap[b]? = w.heap[b]?) (hr : w'.heap[r]? = w.heap[r]?) : RangeI w' b r m left := by
  obtain ⟨es, clock, since, seen, c0, h1, h2, h3, h4, rest⟩ := h
  exact ⟨es, clock, since, seen, c0, hb.trans h1, h2, h3, hr.trans h4, rest⟩
theorem RangeI.iter {w : World} {b r : Nat} {m : List (Nat × Value)} {left : List Nat} (h : RangeI w b r m left) : ∃ since seen c0, w.heap[r]? = some (.mapIter (some b) since seen c0) := by
  obtain ⟨es, clock, since, seen, c0, h1, h2, h3, h4, rest⟩ := h
  exact ⟨_, _, _, h4⟩
theorem keys_of {l : List MapEntry} {m : List (Nat × Value)} (h : l.map kvI = m.map kvN) : l.map (fun e => keyN e.key) = m.map (·.1) := by
  have := congrArg (List.map fun x : Value × Value => keyN x.1) h
  simp only [List.map_map, Function.comp_def, keyN_key] at this
  exact this
theorem RangeI.made {P : Program} {w : World} {b : Nat} {m : List (Nat × Value)} (h : MapI w b m) (t kt et : TypeId) (ht : P.underlying t = some (.map kt et)) :
    ∃ o, (Instr.range t (.map (some b))).run P w = .ok (.pointer (some ⟨w.heap.size, 0, none⟩)) (w.alloc o) ∧ RangeI (w.alloc o) b w.heap.size m (m.map (·.1)) := by
  have hlt := h.lt
  obtain ⟨es, clock, hb, hs, hm⟩ := h
  refine ⟨_, run_range_map w t kt et b es clock ht hb, es, clock, clock, #[], clock, ((MapKept.heap_alloc w _).2 b hlt).trans hb, hs, hm, (MapKept.heap_alloc w _).1, hs.1, Nat.le_refl _, Nat.le_refl _, ?_⟩
  rw [← keys_of hm]
  congr 1
  simp only [leftOf, Array.toList_filter]
  exact (List.filter_eq_self.2 (fun e _ => by simp)).symm
theorem leftOf_push {es : Array MapEntry} {clock : Nat} (hs : Stamped es clock) (seen : Array Nat) {e : MapEntry} (he : e ∈ (leftOf es seen).toList) :
    ((leftOf es seen).toList).Perm (e :: (leftOf es (seen.push e.born)).toList) := by
  have hb := ((stamped_iff es clock).1 hs).2.1
  have hnd : es.toList.Nodup := (List.pairwise_map.1 hb).imp (fun hne e => hne (congrArg _ e))
  have h1 : (leftOf es seen).toList = es.toList.filter fun x => !seen.contains x.born := by simp [leftOf]
  have h2 : (leftOf es (seen.push e.born)).toList = es.toList.filter fun x => !(seen.push e.born).contains x.born := by simp [leftOf]
  have hem : e ∈ es.toList := by rw [h1] at he; exact (List.mem_filter.1 he).1
  have hes : (!seen.contains e.born) = true := by rw [h1] at he; exact (List.mem_filter.1 he).2
  refine (List.perm_ext_iff_of_nodup ?_ ?_).2 (fun x => ?_)
  · rw [h1]; exact hnd.filter _
  · rw [List.nodup_cons, h2]
    refine ⟨fun hc => ?_, hnd.filter _⟩
    have := (List.mem_filter.1 hc).2
    simp [Array.contains_push] at this
  · rw [h1, List.mem_cons, h2, List.mem_filter, List.mem_filter]
    have inj : ∀ x ∈ es.toList, x.born = e.born → x = e := fun x hx hxe => born_inj hb hx hem hxe
    constructor
    · rintro ⟨hx, hx2⟩
      by_cases hxe : x.born = e.born
      · exact .inl (inj x hx hxe)
      · refine .inr ⟨hx, ?_⟩
        simp only [Array.contains_push, Bool.not_or, Bool.and_eq_true]
        exact ⟨hx2, by simpa using hxe⟩
    · rintro (rfl | ⟨hx, hx2⟩)
      · exact ⟨hem, hes⟩
      · simp only [Array.contains_push, Bool.not_or, Bool.and_eq_true] at hx2
        exact ⟨hx, hx2.1⟩
theorem RangeI.next {P : Program} {w : World} {b r : Nat} {m : List (Nat × Value)} {left : List Nat} (h : RangeI w b r m left) :
    (left = [] ∧ ∀ ty, (Instr.next (.pointer (some ⟨r, 0, none⟩)) false ty).run P w = .ok (.tuple #[.bool false]) w) ∨
    ∃ k v left' w', (k, v) ∈ m ∧ left.Perm (k :: left') ∧ (∀ ty, (Instr.next (.pointer (some ⟨r, 0, none⟩)) false ty).run P w = .ok (.tuple #[.bool true, keyI k, v]) w') ∧ RangeI w' b r m left' ∧ w.grownBy w' (some r) ∧ w'.heap.size = w.heap.size ∧
      (Instr.entry (.pointer (some ⟨r, 0, none⟩))).run P w' = .ok (.tuple #[keyI k, v]) w' := by
  obtain ⟨es, clock, since, seen, c0, hb, hs, hm, hr, hold, hsc, hsk, rfl⟩ := h
  have hne : r ≠ b := by rintro rfl; rw [hb] at hr; cases hr
  rcases run_next_at (P := P) w 0 r b since c0 seen es clock hr hb hold hsc with ⟨h0, _⟩ | ⟨e, he, w1, hal, hrun⟩
  · left
    refine ⟨by rw [List.map_eq_nil_iff]; exact List.eq_nil_of_length_eq_zero (by simpa using h0), fun ty => ?_⟩
    rcases run_next_at (P := P) w ty r b since c0 seen es clock hr hb hold hsc with ⟨_, hrun⟩ | ⟨e, he, _⟩
    · exact hrun
    · have := List.length_pos_of_mem he
      simp only [Array.length_toList] at this
      omega
  · right
    obtain ⟨hem, hes⟩ := mem_left he
    have hkv : kvI e ∈ m.map kvN := by rw [← hm]; exact List.mem_map.2 ⟨e, hem, rfl⟩
    obtain ⟨⟨k, v⟩, hkm, hke⟩ := List.mem_map.1 hkv
    have hk : e.key = keyI k := (congrArg Prod.fst hke).symm
    have hv : e.val = v := (congrArg Prod.snd hke).symm
    have hr1 : w1.heap[r]? = some (.mapIter (some b) since seen c0) := by rcases hal with rfl | rfl <;> exact hr
    have hb1 : w1.heap[b]? = some (.map es clock) := by rcases hal with rfl | rfl <;> exact hb
    have hset := heap_set (o' := .mapIter (some b) since (seen.push e.born) clock) hr1
    have hb' : (setBlock w1 r (.mapIter (some b) since (seen.push e.born) clock)).heap[b]? = some (.map es clock) := (hset.2 b (fun e1 => hne e1.symm)).trans hb1
    refine ⟨k, v, (leftOf es (seen.push e.born)).toList.map fun e => keyN e.key, setBlock w1 r (.mapIter (some b) since (seen.push e.born) clock), hkm, ?_, fun ty => ?_, ⟨es, clock, since, seen.push e.born, clock, hb', hs, hm, hset.1, hold, hsk, hsk, rfl⟩, ?_, ?_, ?_⟩
    · have := (leftOf_push hs seen he).map fun e => keyN e.key
      rw [List.map_cons, hk, keyN_key] at this
      exact this
    · have hrun2 : (Instr.next (.pointer (some ⟨r, 0, none⟩)) false ty).run P w = (Instr.next (.pointer (some ⟨r, 0, none⟩)) false 0).run P w := by
        simp only [Instr.next]
      rw [hrun2, hrun, hk, hv]
    · rcases hal with rfl | rfl <;> exact ⟨rfl, rfl, rfl, by simp [setBlock], fun i _ hi => hset.2 i (fun e1 => hi (by rw [e1]))⟩
    · rcases hal with rfl | rfl <;> simp [setBlock]
    · have := run_entry_at (P := P) _ r b since seen es clock e hset.1 hb' hem ((stamped_iff es clock).1 hs).2.1
      rw [hk, hv] at this
      exact this
theorem RangeI.nodup {w : World} {b r : Nat} {m : List (Nat × Value)} {left : List Nat} (h : RangeI w b r m left) : left.Nodup ∧ ∀ k ∈ left, k ∈ m.map (·.1) := by
  have hmn := h.map.nodup
  obtain ⟨es, clock, since, seen, c0, hb, hs, hm, hr, hold, hsc, hsk, rfl⟩ := h
  have h1 : (leftOf es seen).toList = es.toList.filter fun x => !seen.contains x.born := by simp [leftOf]
  have hsub : ((leftOf es seen).toList.map fun e => keyN e.key).Sublist (m.map (·.1)) := by
    rw [← keys_of hm, h1]; exact List.filter_sublist.map _
  exact ⟨hsub.nodup hmn, fun k hk => hsub.subset hk⟩
theorem filter_eraseIdx {α : Type} (p : α → Bool) : ∀ (l : List α) (j : Nat) (x : α), l[j]? = some x → p x = false → (l.eraseIdx j).filter p = l.filter p
  | [], j, x, h, _ => by simp at h
  | y :: l, 0, x, h, hp => by
    simp at h; subst h
    simp [hp]
  | y :: l, j + 1, x, h, hp => by
    have := filter_eraseIdx p l j x (by simpa using h) hp
    simp [List.filter_cons, this]
theorem RangeI.delete {P : Program} {w : World} {b r : Nat} {m : List (Nat × Value)} {left : List Nat} (h : RangeI w b r m left) {k : Nat} (hk : k ∉ left) (hm : k ∈ m.map (·.1)) (t kt et : TypeId) (ht : P.underlying t = some (.map kt et)) (hd : P.underlying kt = some (.int .i64)) :
    ∃ w', (∀ ty, (Builtin.delete_ #[t, kt] ty #[.map (some b), keyI k]).run P w = .ok (.tuple #[]) w') ∧ RangeI w' b r (delI k m) left ∧ w.grownBy w' (some b) ∧ w'.heap.size = w.heap.size := by
  obtain ⟨es, clock, since, seen, c0, hb, hs, hmm, hr, hold, hsc, hsk, rfl⟩ := h
  have hne : r ≠ b := by rintro rfl; rw [hb] at hr; cases hr
  have hkk : IsKey (.int .i64) (keyI k) := rfl
  rcases findI k m es.toList 0 hmm with ⟨a, f, g, _, p⟩ | ⟨j, e, u, hj, he, hv, hmj, a, f, _, p⟩
  · obtain ⟨x, hx, e⟩ := List.mem_map.1 hm
    exact absurd e (getI_none.1 a x hx)
  · have hlt : j < es.size := by
      have := (List.getElem?_eq_some_iff.1 hj).1
      simpa using this
    have hes : (es.eraseIdxIfInBounds j).toList = es.toList.eraseIdx j := by
      unfold Array.eraseIdxIfInBounds
      rw [dif_pos hlt]; simp
    have hem : e ∈ es.toList := List.mem_of_getElem? hj
    have h1 : ∀ es' : Array MapEntry, (leftOf es' seen).toList = es'.toList.filter fun x => !seen.contains x.born := fun es' => by simp [leftOf]
    have hpe : (!seen.contains e.born) = false := by
      cases hc : (!seen.contains e.born) with
      | false => rfl
      | true =>
        refine absurd (List.mem_map.2 ⟨e, ?_, by rw [he, keyN_key]⟩) hk
        rw [h1]; exact List.mem_filter.2 ⟨hem, hc⟩
    refine ⟨{ w with heap := w.heap.setIfInBounds b (.map (es.eraseIdxIfInBounds j) clock) }, fun ty => ?_, ⟨es.eraseIdxIfInBounds j, clock, since, seen, c0, (heap_set hb).1, stamped_erase hs j, ?_, ((heap_set hb).2 r hne).trans hr, fun x hx => hold x ?_, hsc, hsk, ?_⟩, ⟨rfl, rfl, rfl, by simp, fun i _ hi => (heap_set hb).2 i (fun e => hi (by rw [e]))⟩, by simp⟩
    · simp [Builtin.delete_, run_underlying ht, MapKept.run_getObj_map hb, run_checkKey hd hkk, run_findKey hd f, run_setObj_map _ hb, Result.andThen]
    · rw [p, map_eraseIdx', ← hmm, ← map_eraseIdx', hes]
    · rw [hes] at hx; exact List.mem_of_mem_eraseIdx hx
    · rw [h1, h1, hes, filter_eraseIdx _ _ j e hj hpe]
theorem RangeI.len {w : World} {b r : Nat} {m : List (Nat × Value)} {left : List Nat} (h : RangeI w b r m left) : w.rangeLeft b r = left.length := by
  obtain ⟨es, clock, since, seen, c0, hb, hs, hm, hr, hold, hsc, hsk, rfl⟩ := h
  simp only [World.rangeLeft, hb, hr, List.length_map, Array.length_toList]
theorem Itk.turned {own : Nat → Prop} {lo : Nat} {A B : World} {l : Nat} {o : Obj} (hg : A.grownBy B (some l)) (h : A.heap[l]? = some o) (hc : o.isCells = false) (hl : lo ≤ l) : Itk own lo A B :=
  ⟨hg.os, hg.tape, hg.output, hg.size, fun k h1 h2 _ => hg.block k h2 (fun e => by injection e with e; omega), fun k o2 h1 h2 _ => (hg.block k (lt_of_get h1) (fun e => by injection e with e; subst e; rw [h] at h1; cases h1; rw [hc] at h2; cases h2)).trans h1⟩
end
section
open Go.RowKit
def SeqG {σ : Type} (P : Program) (g : Nat) (lb : Array Value) (step : σ → World → Array Value → σ → Prop) (fin : σ → Prop) (own keep : Nat → Prop) (n₀ : Nat) (s0 : σ) (W : World) : Prop :=
  ∀ (n l : Nat) (J Jx : σ → World → Prop),
    (∀ s A B, J s A → Itk own W.heap.size A B → J s B) → (∀ s A B, Jx s A → Itk own W.heap.size A B → Jx s B) →
    (∀ s s2 W1 args, J s W1 → step s W1 args s2 → (∀ b, keep b → b < W1.heap.size) → YieldW P l args W1 fun e W' =>
      (e = .returned (.bool true) ∧ J s2 W' ∧ Bk keep n₀ W1 W') ∨ (e = .returned (.bool false) ∧ Jx s2 W')) →
    J s0 W →
    CallsIn Fence.wide n P g (#[.func (.yield l) #[] #[]] ++ lb) W fun e W' => (∃ v, e = .returned v) ∧ ((∃ s, fin s ∧ J s W') ∨ ∃ s, Jx s W')
structure BkS (own : Nat → Prop) (A B : World) : Prop where
  size : A.heap.size ≤ B.heap.size
  own : ∀ k, own k → k < A.heap.size → B.heap[k]? = A.heap[k]?
theorem BkS.mono {own own' : Nat → Prop} {A B : World} (h : BkS own A B) (k : ∀ i, own' i → own i) : BkS own' A B := ⟨h.size, fun i h1 h2 => h.own i (k i h1) h2⟩
theorem BkS.of_bk {own : Nat → Prop} {n₀ : Nat} {A B : World} (h : Bk own n₀ A B) : BkS own A B := ⟨h.below.size, h.own⟩
def roundG {σ : Type} (Bw Bs : World → World → Prop) (I : σ → World → Prop) (Ix : Code → σ → World → Prop) (s : σ) (W : World) : Exit → Act → World → Prop
  | .normal, _, W' => Bw W W' ∧ I s W'
  | .ret, _, W' => Bs W W' ∧ Ix .ret s W'
  | .exit id, _, W' => Bs W W' ∧ Ix (.exit id) s W'
  | .goto t, _, W' => Bs W W' ∧ Ix (.goto t) s W'
  | .panic _, _, _ => False
  | .outgrown, _, _ => False
theorem wp_rangeG {σ : Type} {P : Program} {n : Nat} {g : Operand} {ps : Array Tmp} {assign body : Code} {Qx : Exit → Act → World → Prop} {a : Act} {w : World}
    {gf : Nat} {lb : Array Value} (hg : a.eval g = .func (.func gf) #[] lb) (eg : ∀ args w, (callFunc gf args).run P w = .ok (.enter gf args) w)
    {step : σ → World → Array Value → σ → Prop} {fin' : σ → Prop} {s0 : σ} {own keep : Nat → Prop} {n₀ : Nat}
    (hseq : ∀ W1, Q w W1 → W1.heap.size = w.heap.size + 2 → SeqG P gf lb step fin' own keep n₀ s0 W1)
    (hown : ∀ k, own k → k ≠ w.heap.size ∧ k ≠ w.heap.size + 1) (hkeep : ∀ k, keep k → k ≠ w.heap.size ∧ k ≠ w.heap.size + 1) (hn₀ : n₀ ≤ w.heap.size) (hps : ∀ x W args y, step x W args y → args.size = ps.size)
    (I : σ → World → Prop) (Ix : Code → σ → World → Prop) (Ax : σ → σ → Act → World → Prop)
    (hI : ∀ s A B, I s A → Itk own w.heap.size A B → I s B) (hIx : ∀ c s A B, Ix c s A → Itk own w.heap.size A B → Ix c s B) (hAx : ∀ k k2 a' A B, Ax k k2 a' A → Itk own w.heap.size A B → Ax k k2 a' B)
    (h0 : I s0 w)
    (hassign : ∀ (l : Nat) (k k2 : σ) (W : World) (args : Array Value) (K : Act → World → Prop), I k W → step k W args k2 → w.heap.size + 2 ≤ W.heap.size → (∀ a' W', Q W W' → I k W' → Ax k k2 a' W' → K a' W') →
      assign.wpIn (Fence.wide.inRound l) (n - 1 - 1) P (Exit.then K (fun _ _ _ => False)) { tmps := (ps.zip args).foldl (fun t (p, v) => t.setIfInBounds p v) a.tmps, defers := [] } W)
    (hbody : ∀ (l : Nat) (k k2 : σ) (a' : Act) (W : World), ((∃ r, W.heap[l]? = some (.loop r)) ∧ W.heap[w.heap.size]? = some (.deferred (some []))) → l = w.heap.size + 1 → I k W → Ax k k2 a' W → (∀ b, keep b → b < W.heap.size) → w.heap.size + 2 ≤ W.heap.size →
      body.wpIn (Fence.wide.inRound l) (n - 1 - 1) P (roundG (Bk (fun b => keep b ∨ b = w.heap.size ∨ b = w.heap.size + 1) n₀) (BkS (fun b => b = w.heap.size ∨ b = w.heap.size + 1)) I Ix k2 W) a' W)
    (hdone : ∀ (D : Nat) (s : σ) (W : World), D = w.heap.size → w.heap.size + 2 ≤ W.heap.size → fin' s → I s W → W.heap[D]? = some (.deferred (some [])) → Qx .normal { a with defers := { target := .collected D, args := #[] } :: a.defers } W)
    (hstop : ∀ (D : Nat) (c : Code) (k : σ) (W : World), D = w.heap.size → Ix c k W → W.heap[D]? = some (.deferred (some [])) → c.wpIn Fence.wide n P Qx { a with defers := { target := .collected D, args := #[] } :: a.defers } W) :
    (Code.rangeFunc g ps assign body).wpIn Fence.wide n P Qx a w := by
  refine wpIn_rangeFunc ?_
  intro fn hfn
  obtain ⟨rec, hrec⟩ : ∃ rec : LoopState → Option Code → Loop, rec = fun st pe => { state := st, pending := pe, fn, tmps := a.tmps, params := ps, assign, body, defers := w.heap.size } := ⟨_, rfl⟩
  obtain ⟨W1, hW1⟩ : ∃ W1, (w.alloc (.deferred (some []))).alloc (.loop (rec .ready none)) = W1 := ⟨_, rfl⟩
  have hq1 : Q w W1 := by rw [← hW1]; exact (Q.alloc w _).trans (Q.alloc _ _)
  have hs1 : W1.heap.size = w.heap.size + 2 := by rw [← hW1]; simp
  have hL1 : W1.heap[w.heap.size + 1]? = some (.loop (rec .ready none)) := by
    rw [← hW1]; have := World.alloc_heap_new (w.alloc (.deferred (some []))) (.loop (rec .ready none)); rwa [World.size_alloc] at this
  have hK1 : W1.heap[w.heap.size]? = some (.deferred (some [])) := by
    rw [← hW1]; exact (Below.heap_alloc _ _ _ (by simp)).trans (World.alloc_heap_new w _)
  have hI1 : I s0 W1 := hI _ _ _ h0 (Itk.of_q hq1)
  have ho1 : ¬ own (w.heap.size + 1) := fun h => (hown _ h).2 rfl
  have hk1' : ¬ keep (w.heap.size + 1) := fun h => (hkeep _ h).2 rfl
  have ho0 : ¬ own w.heap.size := fun h => (hown _ h).1 rfl
  refine ⟨w.heap.size + 1, [{ target := .collected w.heap.size, args := #[] }], W1, { target := .fn (.func gf) lb, args := #[.func (.yield (w.heap.size + 1)) #[] #[]] }, W1, gf,
    #[.func (.yield (w.heap.size + 1)) #[] #[]] ++ lb, W1, ?_, ?_, fun _ _ => trivial, ?_, fun h => (by cases h), ?_⟩
  · rw [← hW1, hrec]; exact run_enterLoop_outer _ _ _ _ _
  · simp only [resolve, hg]
    simp [go_sem]
  · simp [invoke, go_sem, eg]
  · refine (hseq W1 hq1 hs1 (n - 1) (w.heap.size + 1)
      (fun k W => I k W ∧ W.heap[w.heap.size + 1]? = some (.loop (rec .ready none)) ∧ W.heap[w.heap.size]? = some (.deferred (some [])))
      (fun k W => ∃ c, Ix c k W ∧ W.heap[w.heap.size + 1]? = some (.loop (rec .done (some c))) ∧ W.heap[w.heap.size]? = some (.deferred (some [])))
      (fun s A B hs hi => ⟨hI s A B hs.1 (hi.mono (fun _ h => h) (by omega)), (hi.low _ (by omega) (lt_of_get hs.2.1) ho1).trans hs.2.1, (hi.low _ (by omega) (lt_of_get hs.2.2) ho0).trans hs.2.2⟩)
      (fun s A B hs hi => by
        obtain ⟨c, hc, hl, hk⟩ := hs
        exact ⟨c, hIx c s A B hc (hi.mono (fun _ h => h) (by omega)), (hi.low _ (by omega) (lt_of_get hl) ho1).trans hl, (hi.low _ (by omega) (lt_of_get hk) ho0).trans hk⟩)
      ?_ ⟨hI1, hL1, hK1⟩).mono ?_
    ·
      rintro k k2 W args ⟨hi, hl, hkk⟩ henc hob
      have hy := run_yield (P := P) (args := args) hl (by rw [hrec]; exact hps _ _ _ _ henc)
      rw [hrec] at hy
      refine ⟨fn, _, assign, body, hy, fun m => round_any (n := n - 1 - 1) (roundIn_of_wpIn trivial (hassign _ k k2 W args _ hi henc (lt_of_get hl) ?_))⟩
      clear hy
      intro a' Wa hqa hia hax
      have hla := (hqa.block _ (lt_of_get hl)).trans hl
      have hka := (hqa.block _ (lt_of_get hkk)).trans hkk
      refine ⟨_, run_beginRound hla (by rw [hrec]), ?_⟩
      have hl2 : (Wa.putObj (w.heap.size + 1) (.loop { rec .ready none with state := .busy })).heap[w.heap.size + 1]? = some (.loop { rec .ready none with state := .busy }) := World.putObj_heap_same (lt_of_get hla)
      have hk2 : (Wa.putObj (w.heap.size + 1) (.loop { rec .ready none with state := .busy })).heap[w.heap.size]? = some (.deferred (some [])) := (World.putObj_heap_other (by omega)).trans hka
      have hi2 : Itk own w.heap.size Wa (Wa.putObj (w.heap.size + 1) (.loop { rec .ready none with state := .busy })) := Itk.put _ hla rfl (by omega)
      have hb2 : Bk keep n₀ W (Wa.putObj (w.heap.size + 1) (.loop { rec .ready none with state := .busy })) := (Bk.of_q hqa (by have := lt_of_get hl; omega)).trans (Bk.put _ hla rfl (by omega) hk1')
      refine wpIn_mono (hbody _ k k2 a' _ ⟨⟨_, hl2⟩, hk2⟩ rfl (hI _ _ _ hia hi2) (hAx _ _ _ _ _ hax hi2) (fun b hb => by have := hob b hb; have := hqa.size; simp; omega) (by have := lt_of_get hla; simp; omega)) ?_
      have fin : ∀ (jump : Option Code) (W3 : World), BkS (fun b => b = w.heap.size ∨ b = w.heap.size + 1) (Wa.putObj (w.heap.size + 1) (.loop { rec .ready none with state := .busy })) W3 →
          (Instr.endRound (w.heap.size + 1) jump).run P W3 = .ok (.bool jump.isNone) (W3.putObj (w.heap.size + 1) (.loop (rec (if jump.isNone then .ready else .done) jump))) ∧
          W3.heap[w.heap.size + 1]? = some (.loop { rec .ready none with state := .busy }) ∧
          (W3.putObj (w.heap.size + 1) (.loop (rec (if jump.isNone then .ready else .done) jump))).heap[w.heap.size + 1]? = some (.loop (rec (if jump.isNone then .ready else .done) jump)) ∧
          (W3.putObj (w.heap.size + 1) (.loop (rec (if jump.isNone then .ready else .done) jump))).heap[w.heap.size]? = some (.deferred (some [])) ∧
          Itk own w.heap.size W3 (W3.putObj (w.heap.size + 1) (.loop (rec (if jump.isNone then .ready else .done) jump))) := fun jump W3 hk3 => by
        have hl3 := (hk3.own _ (.inr rfl) (lt_of_get hl2)).trans hl2
        have hd3 := (hk3.own _ (.inl rfl) (lt_of_get hk2)).trans hk2
        have := run_endRound (P := P) jump hl3
        rw [hrec] at this ⊢
        rw [hrec] at hl3
        exact ⟨this, hl3, World.putObj_heap_same (lt_of_get hl3), (World.putObj_heap_other (by omega)).trans hd3, Itk.put _ hl3 rfl (by omega)⟩
      rintro e a3 W3 hp
      cases e with
      | normal =>
        obtain ⟨hk3, hi3⟩ := hp
        obtain ⟨hr, hl3, hl4, hk4, hi4⟩ := fin none W3 ((BkS.of_bk hk3).mono (fun _ h => .inr h))
        exact ⟨_, _, hr, .inl ⟨rfl, ⟨hI _ _ _ hi3 hi4, hl4, hk4⟩, (hb2.trans (hk3.mono (fun _ h => .inl h) (Nat.le_refl _))).trans (Bk.put _ hl3 rfl (by omega) hk1')⟩⟩
      | ret =>
        obtain ⟨hk3, hi3⟩ := hp
        obtain ⟨hr, hl3, hl4, hk4, hi4⟩ := fin (some .ret) W3 hk3
        exact ⟨_, _, hr, .inr ⟨rfl, ⟨.ret, hIx _ _ _ _ hi3 hi4, hl4, hk4⟩⟩⟩
      | exit id =>
        obtain ⟨hk3, hi3⟩ := hp
        obtain ⟨hr, hl3, hl4, hk4, hi4⟩ := fin (some (.exit id)) W3 hk3
        exact ⟨_, _, hr, .inr ⟨rfl, ⟨.exit id, hIx _ _ _ _ hi3 hi4, hl4, hk4⟩⟩⟩
      | goto t =>
        obtain ⟨hk3, hi3⟩ := hp
        obtain ⟨hr, hl3, hl4, hk4, hi4⟩ := fin (some (.goto t)) W3 hk3
        exact ⟨_, _, hr, .inr ⟨rfl, ⟨.goto t, hIx _ _ _ _ hi3 hi4, hl4, hk4⟩⟩⟩
      | panic ch => exact hp.elim
      | outgrown => exact hp.elim
    ·
      rintro e W2 ⟨⟨v, rfl⟩, (⟨k, hkl, hi, hl, hk⟩ | ⟨k, c, hi, hl, hk⟩)⟩
      · exact ⟨none, _, by have := run_endLoop (P := P) hl (by rw [hrec]; simp); rw [hrec] at this; exact this, hdone _ k _ rfl (by have := lt_of_get hl; simp; omega) hkl (hI _ _ _ hi (Itk.put _ hl rfl (by omega))) ((World.putObj_heap_other (by omega)).trans hk)⟩
      · exact ⟨some c, _, by have := run_endLoop (P := P) hl (by rw [hrec]; simp); rw [hrec] at this; exact this, hstop _ c k _ rfl (hIx c _ _ _ hi (Itk.put _ hl rfl (by omega))) ((World.putObj_heap_other (by omega)).trans hk)⟩
end
section
open Go.RowKit
attribute [local go_sem] Oper.semAt_some
theorem Keys_any (mb : Nat) (w : World) :
    Calls Tryz.prog 110 #[.map (some mb)] w fun e w' => e = .returned (.func (.func 156) #[] #[.pointer (some ⟨w.heap.size, 0, none⟩)]) ∧ w.alloc (.cells #[.map (some mb)] 141) = w' := by
  go_enter Tryz.func110, Tryz.ntmps110
  go_wp2_with fail
  go_ret
  exact ⟨rfl, rfl⟩
def keyStep (K : List Nat) (ks : List Nat) (W : World) (args : Array Value) (ks2 : List Nat) : Prop := ∃ k ∈ K, k ∉ ks ∧ args = #[keyI k] ∧ ks2 = ks ++ [k]
theorem Keys_seq (B mb n₀ : Nat) (m : List (Nat × Value)) (W : World) (hb : Boxed W B 141 (.map (some mb))) (hm : MapI W mb m) (hn : n₀ ≤ W.heap.size) :
    SeqG Tryz.prog 156 #[.pointer (some ⟨B, 0, none⟩)] (keyStep (m.map (·.1))) (fun ks => ks.Perm (m.map (·.1))) (fun _ => False) (fun k => k = B ∨ k = mb) n₀ [] W := by
  intro n l J Jx hJ hJx hY h0
  refine callsIn_of_wp Tryz.func156 rfl trivial ?_ rfl
  simp only [Tryz.ntmps156, List.size_toArray, List.length_cons, List.length_nil, Nat.reduceAdd, Nat.reduceSub, Array.replicate_succ, Array.replicate_zero, List.push_toArray, List.append_toArray, List.nil_append, List.cons_append]
  have hc := hb.cell
  obtain ⟨o, hrg, hri⟩ := RangeI.made (P := Tryz.prog) hm 141 3 150 Tryz.underlying141
  have hq0 : Q W (W.alloc o) := Q.alloc _ _
  have H0 := Lib.hid h0; have HQ0 := Lib.hid hq0; have HBX := Lib.hid hb; have HYH := Lib.hid hY; have HRI := Lib.hid hri; have HMM := Lib.hid hm.lt
  have hBlt := hb.lt
  clear h0 hq0 hb hY hri hm
  gi_wp2
  clear hrg
  gi_loopw [3] (fun _ wr => ∃ (ks left : List Nat), Hid (RangeI wr mb W.heap.size m left) ∧ Hid ((ks ++ left).Perm (m.map (·.1))) ∧ Hid (Below n₀ W wr) ∧ Hid (Boxed wr B 141 (.map (some mb))) ∧ Hid (J ks wr)) (fun _ wr => wr.rangeLeft mb W.heap.size)
  case atStart =>
    exact ⟨[], _, HRI, Lib.hid (List.Perm.refl _), Lib.hid (Below.mono HQ0.out hn), Lib.hid (HBX.out.alloc _), Lib.hid (hJ _ _ _ H0.out (Itk.of_q HQ0.out))⟩
  case round =>
    obtain ⟨ks, left, HR, HP, HB, HBB, HJ⟩ := hrel
    have hnd := HR.out.map.nodup
    rcases RangeI.next (P := Tryz.prog) HR.out with ⟨hl0, hnx⟩ | ⟨k, v, left', w', hkv, hpm, hnx, hri', hg, hz, hen⟩
    · have hfin : ks.Perm (m.map (·.1)) := by have := HP.out; rw [hl0, List.append_nil] at this; exact this
      have HF := Lib.hid hfin
      clear hl0 hfin hnd
      gi_wp2
      go_end0
      exact ⟨⟨_, rfl⟩, .inl ⟨ks, HF.out, HJ.out⟩⟩
    · obtain ⟨since, seen, c0, hit⟩ := HR.out.iter
      have hj' : J ks w' := hJ _ _ _ HJ.out (Itk.turned hg hit rfl (Nat.le_refl _))
      have hb' : Boxed w' B 141 (.map (some mb)) := (hg.block B (lt_of_get HBB.out) (fun e => by injection e with e; omega)).trans HBB.out
      have hperm : (ks ++ k :: left').Perm (m.map (·.1)) := ((hpm.symm).append_left ks).trans HP.out
      have hndk : (ks ++ k :: left').Nodup := hperm.nodup_iff.2 hnd
      have hnk : k ∉ ks := fun hc => (List.nodup_append.1 hndk).2.2 k hc k (List.mem_cons_self ..) rfl
      have hkm : k ∈ m.map (·.1) := hperm.mem_iff.1 (List.mem_append_right _ (List.mem_cons_self ..))
      have hbw : Below n₀ W w' := HB.out.trans ⟨hg.os, hg.tape, hg.output, hg.size, fun i hi => hg.block i (by have := HB.out.size; omega) (fun e => by injection e with e; omega)⟩
      obtain ⟨fn, tmps, assign, body, hy, hRR⟩ := HYH.out ks (ks ++ [k]) w' #[keyI k] hj' ⟨k, hkm, hnk, rfl, rfl⟩ (fun b hb => by
        rcases hb with rfl | rfl
        · exact lt_of_get hb'
        · exact hri'.map.lt)
      have hlen : w'.rangeLeft mb W.heap.size < wr.rangeLeft mb W.heap.size := by rw [hri'.len, HR.out.len, hpm.length_eq]; simp
      have hp2 : ((ks ++ [k]) ++ left').Perm (m.map (·.1)) := by rw [List.append_assoc]; exact hperm
      have HYY := Lib.hid hRR; have HRI' := Lib.hid hri'; have HBW := Lib.hid hbw; have HB' := Lib.hid hb'; have HP2 := Lib.hid hp2; have HLN := Lib.hid hlen
      clear hj' hb' hperm hndk hnk hkm hbw hRR hri' hlen hp2 hpm hkv hg hz hit hnd
      gi_wp2
      refine ⟨fun h => (by cases h), (HYY.out _).mono ?_⟩
      rintro e W3 (⟨rfl, hJ3, hk3⟩ | ⟨rfl, hJx3⟩)
      · obtain ⟨since, seen, c0, hit⟩ := HRI'.out.iter
        have hi3 : RangeI W3 mb W.heap.size m left' := HRI'.out.same (hk3.own mb (.inr rfl) HRI'.out.map.lt) ((hk3.walks _ _ hit rfl).trans hit.symm)
        have hb3 : Boxed W3 B 141 (.map (some mb)) := (hk3.own B (.inl rfl) (lt_of_get HB'.out)).trans HB'.out
        have hln3 : W3.rangeLeft mb W.heap.size < wr.rangeLeft mb W.heap.size := by rw [hi3.len]; have := HLN.out; rw [HRI'.out.len] at this; exact this
        have HI3 := Lib.hid hi3; have HB3 := Lib.hid hb3; have HJ3 := Lib.hid hJ3; have HBW3 := Lib.hid (HBW.out.trans hk3.below); have HL3 := Lib.hid hln3
        clear hi3 hb3 hJ3 hk3 hit hln3
        gi_wp2
        go_roundw
        case rel => exact ⟨ks ++ [k], left', HI3, HP2, HBW3, HB3, HJ3⟩
        case measure => exact HL3.out
      · have HJX := Lib.hid hJx3; clear hJx3
        gi_wp2
        refine bodyPost_ret (results_none rfl _ _ _) rfl ?_
        exact ⟨⟨_, rfl⟩, .inr ⟨_, HJX.out⟩⟩
end
section
open Go.RowKit
theorem run_appN {P : Program} (W : World) (t ty : TypeId) (base : Nat) (e e' : TypeId) (i : TypeInfo) (z : Value) (size bytes : Nat) (ht : P.underlying t = some (.slice e)) (hi : P.info? e = some i) (hz : i.zero = some z)
    (hsize : i.size = size) (hby : i.bytes = bytes) (hzs : z.cells.size = size) (hsz : 0 < size) (hbz : 0 < bytes)
    (v : Value) (n : Nat) (xs : List Value) (hown : W.ownsRow base e size v n xs)
    (m : Nat) (hm : 0 < m) (news : Array Value) (hl : news.size = m * size) (h1 : ∀ u ∈ news.toList, u.oneCell' = true) (hb : (n + m) * bytes ≤ 140737488355328) (hbase : base ≤ W.heap.size) :
    ∃ g cap w', (Builtin.append_ #[t, t] ty #[v, .slice (some ⟨W.heap.size, 0, none⟩) m m]).run P (W.alloc (.cells news e')) = .ok (.slice (some ⟨g, 0, none⟩) (n + m) cap) w' ∧
      w'.ownsRow base e size (.slice (some ⟨g, 0, none⟩) (n + m) cap) (n + m) (xs ++ news.toList) ∧ W.grownBy w' v.ownBlock ∧ (v.ownBlock = some g ∨ W.heap.size < g) ∧ g < w'.heap.size ∧ W.heap.size < w'.heap.size := by
  have h63 : n + m ≤ maxLen := by
    have := Nat.le_mul_of_pos_right (n + m) hbz
    simp only [maxLen]; omega
  obtain ⟨g, cap, w', hr, h2, h3, h4, h5⟩ := run_append_lies (P := P) (W.alloc (.cells news e')) t ty base e i z size bytes ht hi hz hsize hby hzs hsz v n xs (hown.alloc _) ⟨W.heap.size, 0, none⟩ m m news.toList (by simpa using hl)
    (fun j u hj => by
      rw [add_head]
      simp only [World.cell?, heap_alloc_new]
      simpa using hj) h1 hm h63 hb (by simp; omega) (W.heap.size + 1) (by simp)
  refine ⟨g, cap, w', hr, h2, ⟨h3.os.trans rfl, h3.tape.trans rfl, h3.output.trans rfl, by have := h3.size; simp at this; omega, fun k hk hne => ?_⟩, h4.imp id (fun h => by omega), h5, by have := h3.size; simp at this; omega⟩
  rw [h3.block k (by simp; omega) hne, Below.heap_alloc _ _ _ hk]
theorem wpListIn_appN {F : Fence} {n' : Nat} {P : Program} (W : World) {ops : Array Oper} {rest : List Oper} {o : Oper} {a : Act} {Q : Exit → Act → World → Prop} (hgd : o.guard = none) (s x : Operand) (t : TypeId)
    (ho : o.op = .call { callee := .builtin .append, args := #[s, x], argTypes := #[t, t] })
    (base : Nat) (e e' : TypeId) (i : TypeInfo) (z : Value) (size bytes : Nat) (ht : P.underlying t = some (.slice e)) (hi : P.info? e = some i) (hz : i.zero = some z)
    (hsize : i.size = size) (hby : i.bytes = bytes) (hzs : z.cells.size = size) (hsz : 0 < size) (hbz : 0 < bytes)
    (v : Value) (n : Nat) (xs : List Value) (hs : a.eval s = v) (hown : W.ownsRow base e size v n xs)
    (m : Nat) (hm : 0 < m) (news : Array Value) (hx : a.eval x = .slice (some ⟨W.heap.size, 0, none⟩) m m) (hl : news.size = m * size) (h1 : ∀ u ∈ news.toList, u.oneCell' = true)
    (hb : (n + m) * bytes ≤ 140737488355328) (hbase : base ≤ W.heap.size)
    (h : ∀ g cap w', w'.ownsRow base e size (.slice (some ⟨g, 0, none⟩) (n + m) cap) (n + m) (xs ++ news.toList) → W.grownBy w' v.ownBlock → (v.ownBlock = some g ∨ W.heap.size < g) → g < w'.heap.size → W.heap.size < w'.heap.size →
      wpListIn F n' P ops Q rest (a.put o.dst (.slice (some ⟨g, 0, none⟩) (n + m) cap)) w') : wpListIn F n' P ops Q (o :: rest) a (W.alloc (.cells news e')) := by
  obtain ⟨g, cap, w', hr, h2, h3, h4, h5, h6⟩ := run_appN (P := P) W t o.type base e e' i z size bytes ht hi hz hsize hby hzs hsz hbz v n xs hown m hm news hl h1 hb hbase
  refine wpListIn_plain hgd fun _ hK => ?_
  unfold Oper.wpIn
  refine ⟨?_, ?_⟩
  · simp [Oper.about, ho, resolve, Target.leads, Sem.run_pure]
  · rw [Oper.semAt_plain F _ _ (by rw [ho]; intro c hc'; cases hc')]
    unfold execOp
    simp only [ho, resolve, invoke, builtin, Sem.run_bind, Sem.run_pure, Result.andThen_ok, List.map_toArray, List.map_cons, List.map_nil, hs, hx, hr]
    exact hK _ _ (h g cap w' h2 h3 h4 h5 h6)
end
section
open Go.RowKit
theorem walk_turn32 (c : Nat) (h : c < 4294967296) : bits .xor .u32 ((c : Int) / 2) (bits .and .u32 3988292384 (-(bits .and .u32 (c : Int) 1) % 4294967296)) = ((crcTurn c : Nat) : Int) := by
  have h1 : bits .and .u32 (c : Int) ((1 : Nat) : Int) = ((c &&& 1 : Nat) : Int) := u32_and_nat c 1 h (by decide)
  rw [show ((1 : Nat) : Int) = 1 from rfl, Nat.and_one_is_mod] at h1
  rw [h1, show ((c : Int) / 2) = ((c / 2 : Nat) : Int) from rfl]
  have h2 : c / 2 < 4294967296 := by omega
  unfold crcTurn
  rcases Nat.mod_two_eq_zero_or_one c with e | e
  · rw [e]
    rw [show (-((0 : Nat) : Int)) % 4294967296 = ((0 : Nat) : Int) by decide, show (3988292384 : Int) = ((3988292384 : Nat) : Int) from rfl,
      u32_and_nat _ _ (by decide) (by decide), u32_xor_nat _ _ h2 (by decide)]
    simp
  · rw [e]
    rw [show (-((1 : Nat) : Int)) % 4294967296 = ((4294967295 : Nat) : Int) by decide, show (3988292384 : Int) = ((3988292384 : Nat) : Int) from rfl,
      u32_and_nat _ _ (by decide) (by decide), u32_xor_nat _ _ h2 (by decide)]
    rw [if_pos rfl]
    congr 1
theorem Crc_any (v : Value) (ps : List Bytes) (w : World) (hv : Strs w v ps) (hn : ps.length ≤ 9223372036854775807) (hs : ∀ p ∈ ps, p.length ≤ 9223372036854775807) :
    Calls Tryz.prog 180 #[v] w fun e w' => e = .returned (.int .u32 (crcL ps.flatten : Nat)) ∧ w = w' := by
  obtain ⟨a, cap, rfl, hcell⟩ := hv.value
  have HC := Lib.hid hcell; have HS := Lib.hid hs; clear hcell hs hv
  go_enter Tryz.func180, Tryz.ntmps180
  go_wp2_with fail
  go_loop [9, 3, 5, 6] (fun i c _ _ => ∃ k : Nat, k ≤ ps.length ∧ i = .int .i64 k ∧ c = .int .u32 (crcRaw (ps.take k).flatten : Nat)) (fun i _ _ _ => ps.length - (intOf i).toNat)
  case atStart => exact ⟨0, by omega, rfl, rfl⟩
  case round =>
    obtain ⟨k, hk, rfl, rfl⟩ := hrel
    by_cases hlt : k < ps.length
    · obtain ⟨b, off, rfl, hc⟩ := HC.out (by omega)
      have hck := hc k hlt
      have hpl := HS.out _ (List.getElem_mem hlt)
      have hft := flat_take ps k hlt
      generalize ps[k] = p at *
      generalize (ps.take k).flatten = pre at *
      have HF := Lib.hid hft; have HCC := Lib.hid hc; clear hft hc
      go_wp2_with fail
      go_loop [15, 3, 6] (fun i c _ => ∃ j : Nat, j ≤ p.length ∧ i = .int .i64 j ∧ c = .int .u32 (crcRaw (pre ++ p.take j) : Nat)) (fun i _ _ => p.length - (intOf i).toNat)
      case atStart => exact ⟨0, by omega, rfl, by simp⟩
      case round =>
        obtain ⟨j, hj, rfl, rfl⟩ := hrel
        have hlt1 := crcRaw_lt (pre ++ p.take j)
        by_cases hjl : j < p.length
        · have hst := crc_take pre p j hjl
          have hx : (p[j]).toNat < 256 := UInt8.toNat_lt _
          generalize hy : crcRaw (pre ++ p.take j) = c at *
          have HY := Lib.hid hy; have HST := Lib.hid hst; clear hy hst
          go_wp2_with fail
          have hxl : c ^^^ (p[j]).toNat < 4294967296 := Nat.xor_lt_two_pow (n := 32) hlt1 (by omega)
          go_loop [24, 3] (fun i d => ∃ m : Nat, m ≤ 8 ∧ i = .int .i64 m ∧ d = .int .u32 (crcTurns m (c ^^^ (p[j]).toNat) : Nat)) (fun i _ => 8 - (intOf i).toNat)
          case atStart => exact ⟨0, by omega, rfl, int_eq (by
            rw [show ((({ data := List.toArray p } : ByteArray)[j]).toNat : Int) % 4294967296 = ((p[j]).toNat : Int) from Int.emod_eq_of_lt (by omega) (by show ((p[j]).toNat : Int) < _; omega)]
            exact u32_xor_nat c (p[j]).toNat hlt1 (by omega))⟩
          case round =>
            obtain ⟨m, hm, rfl, rfl⟩ := hrel
            have htl := crcTurns_lt m _ hxl
            by_cases hml : m < 8
            · have hsc : crcTurns (m + 1) (c ^^^ (p[j]).toNat) = crcTurn (crcTurns m (c ^^^ (p[j]).toNat)) := rfl
              generalize crcTurns m (c ^^^ (p[j]).toNat) = d at *
              have hwt := walk_turn32 d htl
              have HSC := Lib.hid hsc; have HWT := Lib.hid hwt; clear hsc hwt
              go_wp2_with fail
              go_round
              case rel => exact ⟨m + 1, by omega, by go_num, int_eq (by rw [HSC.out, ← HWT.out])⟩
              case measure => simp [intOf]; omega
            · have hm8 : m = 8 := by omega
              subst hm8
              go_wp2_with fail
              go_round
              case rel => exact ⟨j + 1, by omega, by go_num, by rw [HST.out]⟩
              case measure => simp [intOf]; omega
        · have hjj : j = p.length := by omega
          subst hjj
          go_wp2_with fail
          go_round
          case rel => exact ⟨k + 1, by omega, by go_num, by rw [HF.out, List.take_length]⟩
          case measure => simp [intOf]; omega
    · have hkk : k = ps.length := by omega
      have hx := crcRaw_lt ps.flatten
      subst hkk
      rw [List.take_length]
      generalize hc : crcRaw ps.flatten = c at *
      have HCR := Lib.hid hc; clear hc
      go_wp2_with fail
      go_ret
      refine ⟨ret_int ?_, rfl⟩
      show bits BinOp.xor IntKind.u32 IntKind.u32.max (c : Int) = _
      rw [show IntKind.u32.max = ((4294967295 : Nat) : Int) by decide, u32_xor_nat _ _ (by decide) hx, Nat.xor_comm]
      unfold crcL
      rw [HCR.out]
theorem four_back (w : World) (a b c d : Nat) (ha : a < 256) (hb : b < 256) (hc : c < 256) (hd : d < 256) (r : Bytes) (hr : r = [UInt8.ofNat a, UInt8.ofNat b, UInt8.ofNat c, UInt8.ofNat d]) :
    (convert 86 9 (.slice (some ⟨w.heap.size, 0, none⟩) 4 4)).run Tryz.prog (w.alloc (.cells #[.int .u8 a, .int .u8 b, .int .u8 c, .int .u8 d] 5)) =
      .ok (.string ⟨r.toArray⟩) (w.alloc (.cells #[.int .u8 a, .int .u8 b, .int .u8 c, .int .u8 d] 5)) := by
  subst hr
  refine run_convert_bytes_back (P := Tryz.prog) _ 86 9 5 ⟨w.heap.size, 0, none⟩ 4 [UInt8.ofNat a, UInt8.ofNat b, UInt8.ofNat c, UInt8.ofNat d] Tryz.underlying86 Tryz.underlying5 Tryz.underlying9 ?_
  intro j hj
  rw [add_head]
  simp only [World.cell?, heap_alloc_new]
  match j, hj with
  | 0, _ => simp [Nat.mod_eq_of_lt ha]
  | 1, _ => simp [Nat.mod_eq_of_lt hb]
  | 2, _ => simp [Nat.mod_eq_of_lt hc]
  | 3, _ => simp [Nat.mod_eq_of_lt hd]
set_option maxRecDepth 20000 in
theorem Fixed_any (v : Nat) (w : World) (hv : v < 4294967296) :
    Calls Tryz.prog 100 #[.int .u32 v] w fun e w' => e = .returned (.string ⟨(fixedL v).toArray⟩) ∧ Q w w' := by
  have k4 := four_back w (v % 256) (v / 256 % 256) (v / 65536 % 256) (v / 16777216) (by omega) (by omega) (by omega) (by omega) (fixedL v) (by unfold fixedL; rw [show v / 16777216 % 256 = v / 16777216 by omega])
  simp only [Int.natCast_emod, Int.natCast_ediv, Int.cast_ofNat_Int] at k4
  generalize fixedL v = r at *
  go_enter Tryz.func100, Tryz.ntmps100
  go_wp2_with fail
  go_ret
  exact ⟨rfl, Q.alloc _ _⟩
end
end Go.Proofs.YtnmijegmbomfdaaGreatDoor
