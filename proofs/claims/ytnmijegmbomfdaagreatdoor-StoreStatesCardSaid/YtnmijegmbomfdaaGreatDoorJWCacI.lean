/- Joined texts of one proof: what is needed of WCacI, StM, WStoA, WStoB, WStoC, WRef7a. -/
import Derived.Test.YtnmijegmbomfdaaGreatDoorJWCacF
import Derived.Test.YtnmijegmbomfdaaGreatDoorJSto2
import Derived.Test.YtnmijegmbomfdaaGreatDoorJShelf
import Derived.Test.YtnmijegmbomfdaaGreatDoorJWCacB
import Derived.Test.YtnmijegmbomfdaaGreatDoorJBitA
import Derived.Deep.RegionHeld3
import Derived.Test.YtnmijegmbomfdaaGreatDoorJMapI
import Derived.Test.YtnmijegmbomfdaaGreatDoorJWJrnI
import Derived.Test.YtnmijegmbomfdaaGreatDoorJWRDevD
set_option linter.unusedSimpArgs false
set_option linter.unusedVariables false
set_option linter.unnecessarySimpa false
set_option maxRecDepth 100000
set_option maxHeartbeats 16000000
namespace Go.Proofs.YtnmijegmbomfdaaGreatDoor
section
open Go.RowKit
theorem Turn.more {F G : Nat → Prop} {A B C : World} (h : Turn F A B) (t : Turn G B C) (hG : ∀ k, G k → F k ∨ A.heap.size ≤ k) : Turn F A C :=
  ⟨t.os.trans h.os, t.tape.trans h.tape, t.output.trans h.output, Nat.le_trans h.size t.size, fun k h1 h2 => (t.block k (Nat.lt_of_lt_of_le h1 h.size) (fun hg => (hG k hg).elim h2 (fun h3 => by omega))).trans (h.block k h1 h2)⟩
def cleanS (m : KeptLs) (left : List Nat) : KeptLs := m.map fun x => (x.1, if left.contains x.1 then x.2 else { x.2 with dirty := false })
theorem cleanS_keys (m : KeptLs) (left : List Nat) : (cleanS m left).map (·.1) = m.map (·.1) := by simp [cleanS, List.map_map, Function.comp_def]
theorem cleanS_ptrs (m : KeptLs) (left : List Nat) : (cleanS m left).map (·.2.p) = m.map (·.2.p) := by
  unfold cleanS
  rw [List.map_map]
  refine List.map_congr_left (fun x _ => ?_)
  simp only [Function.comp]
  split <;> rfl
theorem putI_eq_map {α : Type} {k : Nat} {v u : α} {m : List (Nat × α)} (hn : (m.map (·.1)).Nodup) (hg : getI k m = some u) : putI k v m = m.map fun x => if x.1 = k then (k, v) else x := by
  induction m with
  | nil => cases hg
  | cons y m ih =>
    simp only [List.map_cons, List.nodup_cons] at hn
    unfold getI at hg
    unfold putI
    by_cases hy : y.1 = k
    · rw [if_pos hy, List.map_cons, if_pos hy]
      congr 1
      conv => lhs; rw [← List.map_id m]
      refine List.map_congr_left (fun x hx => ?_)
      rw [if_neg]
      · rfl
      · intro e
        exact hn.1 (List.mem_map.2 ⟨x, hx, by rw [e, hy]⟩)
    · rw [if_neg hy] at hg ⊢
      rw [List.map_cons, if_neg hy, ih hn.2 hg]
theorem cleanS_step {m : KeptLs} {k : Nat} {kk : KeptL} {left left' : List Nat} (hn : (m.map (·.1)).Nodup) (hg : getI k m = some kk) (hp : left.Perm (k :: left')) (hl : left.Nodup) :
    getI k (cleanS m left) = some kk ∧ putI k { kk with dirty := false } (cleanS m left) = cleanS m left' := by
  have hkl : k ∈ left := hp.mem_iff.2 (List.mem_cons_self ..)
  have hnd : (k :: left').Nodup := hp.nodup_iff.1 hl
  have hkl' : k ∉ left' := (List.nodup_cons.1 hnd).1
  have h1 : getI k (cleanS m left) = some kk := by
    refine getI_of_mem (by rw [cleanS_keys]; exact hn) (List.mem_map.2 ⟨(k, kk), getI_mem hg, ?_⟩)
    simp [hkl]
  refine ⟨h1, ?_⟩
  rw [putI_eq_map (by rw [cleanS_keys]; exact hn) h1]
  unfold cleanS
  rw [List.map_map]
  refine List.map_congr_left (fun x hx => ?_)
  simp only [Function.comp]
  by_cases hxk : x.1 = k
  · have hxe : x = (k, kk) := by
      have := getI_of_mem hn (k := x.1) (v := x.2) hx
      rw [hxk, hg] at this
      injection this with this
      rw [← hxk, this]
    subst hxe
    simp [hkl']
  · have : left.contains x.1 = left'.contains x.1 := by
      have h1 : x.1 ∈ left ↔ x.1 ∈ left' := by
        rw [hp.mem_iff, List.mem_cons]
        exact ⟨fun h => h.resolve_left hxk, .inr⟩
      by_cases hm : x.1 ∈ left'
      · simp [hm, h1.2 hm]
      · have hm2 : x.1 ∉ left := fun h => hm (h1.1 h)
        simp [hm, hm2]
    simp only [hxk, if_false, this]
theorem cleanS_all {w : World} {b r : Nat} {m : KeptLs} (left : List Nat) (h : ∀ x ∈ m, x.1 ∈ left) : cleanS m left = m := by
  unfold cleanS
  conv => rhs; rw [← List.map_id m]
  refine List.map_congr_left (fun x hx => ?_)
  simp [h x hx]
theorem Clean_any (w : World) (F : Nat → Prop) (cb p most clock : Nat) (ms : Int) (mb : Nat) (m : KeptLs) (h : CacG w F cb p most clock ms mb m) (hk : (m.map (·.1)).Nodup) (hp : (m.map (·.2.p)).Nodup) :
    Calls Tryz.prog 66 #[ptrV cb] w fun e w' => e = .returned (.tuple #[]) ∧ CacG w' F cb p most clock ms mb (m.map fun x => (x.1, { x.2 with dirty := false })) ∧ Turn F w w' := by
  have c4 := h.box.cell 4 (.map (some mb)) rfl
  obtain ⟨o, hrg, hri⟩ := RangeI.made (P := Tryz.prog) h.map 141 3 150 Tryz.underlying141
  have hq0 : Q w (w.alloc o) := Q.alloc _ _
  have h0 := h.keep hq0
  have hst : cleanS m ((mapOf m).map (·.1)) = m := cleanS_all (w := w) (b := 0) (r := 0) _ (fun x hx => List.mem_map.2 ⟨(x.1, ptrV x.2.p), List.mem_map.2 ⟨x, hx, rfl⟩, rfl⟩)
  rw [← hst] at h0
  have HRI := Lib.hid hri; have H0 := Lib.hid h0; have HH := Lib.hid h; have HQ0 := Lib.hid hq0; have HK := Lib.hid hk; have HP := Lib.hid hp
  clear hri h0 h hq0 hst hk hp
  go_enter Tryz.func66, Tryz.ntmps66
  go_wp2_with fail
  clear hrg c4
  go_loopw [3] (fun _ wr => ∃ left, Hid (RangeI wr mb w.heap.size (mapOf m) left) ∧ Hid (CacG wr F cb p most clock ms mb (cleanS m left)) ∧ Hid (Turn F w wr)) (fun _ wr => wr.rangeLeft mb w.heap.size)
  case atStart => exact ⟨_, HRI, H0, Lib.hid (Turn.of_q HQ0.out)⟩
  case round =>
    obtain ⟨left, HR, HC, HT⟩ := hrel
    rcases RangeI.next (P := Tryz.prog) HR.out with ⟨rfl, hnx⟩ | ⟨k, v, left', w', hkv, hpm, hnx, hri', hg, hz, hen⟩
    · have hfin := HC.out
      rw [show cleanS m [] = m.map (fun x => (x.1, { x.2 with dirty := false })) from by simp [cleanS]] at hfin
      have HF := Lib.hid hfin
      clear hfin
      go_wp2_with fail
      go_end0
      exact ⟨rfl, HF.out, HT.out⟩
    · obtain ⟨x, hx, hxe⟩ := List.mem_map.1 hkv
      obtain ⟨kx, kk⟩ := x
      simp only [Prod.mk.injEq] at hxe
      obtain ⟨rfl, rfl⟩ := hxe
      have hgk := getI_of_mem HK.out hx
      obtain ⟨s1, s2⟩ := cleanS_step HK.out hgk hpm HR.out.nodup.1
      have tr : Turn (fun j => j = w.heap.size) wr w' := CacG.turn_of_map hg
      have hnF : ∀ j, F j → j ≠ w.heap.size := fun j hj e => by have := HH.out.lt j hj; omega
      have h1 := HC.out.beside tr hnF
      have hkb := (h1.kept _ (getI_mem s1)).1
      have hkF := (h1.kept _ (getI_mem s1)).2
      have d1 := hkb.cell 1 (.bool kk.dirty) rfl
      have f1 := hkb.frozen 1
      simp only [] at d1 f1 hkF
      have t2 : Turn (fun j => j = kk.p) w' (w'.setCell ⟨kk.p, 1, none⟩ (.bool false)) := Turn.setCell (a := ⟨kk.p, 1, none⟩) (Turn.refl (fun j => j = kk.p) w') (.inl rfl) _
      have h2 := h1.turnKept (by rw [cleanS_keys]; exact HK.out) (by rw [cleanS_ptrs]; exact HP.out) s1 (k' := { kk with dirty := false }) rfl t2 (hkb.set 1 (.bool false))
      rw [s2] at h2
      have hrF : kk.p ≠ mb ∧ kk.p ≠ w.heap.size := ⟨(h1.apart.2 _ (getI_mem s1)).2, hnF _ hkF⟩
      have hr2 : RangeI (w'.setCell ⟨kk.p, 1, none⟩ (.bool false)) mb w.heap.size (mapOf m) left' := hri'.same (t2.block _ hri'.map.lt hrF.1.symm) (by
        obtain ⟨since, seen, c0, hit⟩ := hri'.iter
        exact t2.block _ (lt_of_get hit) hrF.2.symm)
      have ht2 : Turn F w (w'.setCell ⟨kk.p, 1, none⟩ (.bool false)) := (HT.out.more tr (fun j hj => .inr (Nat.le_of_eq hj.symm))).trans (t2.mono (fun j hj => by subst hj; exact hkF))
      have hln : (w'.setCell ⟨kk.p, 1, none⟩ (.bool false)).rangeLeft mb w.heap.size < wr.rangeLeft mb w.heap.size := by rw [hr2.len, HR.out.len, hpm.length_eq]; simp
      have H2 := Lib.hid h2; have HR2 := Lib.hid hr2; have HT2 := Lib.hid ht2; have HL := Lib.hid hln
      clear h2 hr2 ht2 hln h1 hkb hkF t2 tr hg hz hri' hkv hpm s1 s2 hx hgk hrF
      go_wp2_with fail
      go_roundw
      case rel => exact ⟨left', HR2, H2, HT2⟩
      case measure => exact HL.out
def dropS (m : KeptLs) (left : List Nat) : KeptLs := m.filter fun x => !x.2.dirty || left.contains x.1
theorem dropS_sub (m : KeptLs) (left : List Nat) : (dropS m left).Sublist m := List.filter_sublist
theorem dropS_step {m : KeptLs} {k : Nat} {kk : KeptL} {left left' : List Nat} (hn : (m.map (·.1)).Nodup) (hg : getI k m = some kk) (hp : left.Perm (k :: left')) (hl : left.Nodup) :
    getI k (dropS m left) = some kk ∧ k ∉ left' ∧ (kk.dirty = true → delI k (dropS m left) = dropS m left') ∧ (kk.dirty = false → dropS m left = dropS m left') := by
  have hkl : k ∈ left := hp.mem_iff.2 (List.mem_cons_self ..)
  have hnd : (k :: left').Nodup := hp.nodup_iff.1 hl
  have hkl' : k ∉ left' := (List.nodup_cons.1 hnd).1
  have hns : ((dropS m left).map (·.1)).Nodup := ((dropS_sub m left).map _).nodup hn
  have hmem : ∀ x ∈ m, x.1 ≠ k → (left.contains x.1 = left'.contains x.1) := fun x hx hxk => by
    have h1 : x.1 ∈ left ↔ x.1 ∈ left' := by
      rw [hp.mem_iff, List.mem_cons]
      exact ⟨fun h => h.resolve_left hxk, .inr⟩
    by_cases hm : x.1 ∈ left'
    · simp [hm, h1.2 hm]
    · have hm2 : x.1 ∉ left := fun h => hm (h1.1 h)
      simp [hm, hm2]
  have hent : ∀ x ∈ m, x.1 = k → x = (k, kk) := fun x hx hxk => by
    have := getI_of_mem hn (k := x.1) (v := x.2) hx
    rw [hxk, hg] at this
    injection this with this
    rw [← hxk, this]
  refine ⟨getI_of_mem hns (List.mem_filter.2 ⟨getI_mem hg, by simp [hkl]⟩), hkl', fun hd => ?_, fun hd => ?_⟩
  · rw [delI_eq k _ hns]
    unfold dropS
    rw [List.filter_filter]
    refine List.filter_congr (fun x hx => ?_)
    by_cases hxk : x.1 = k
    · rw [hent x hx hxk]
      simp [hd, hkl']
    · have hxk' : (x.1 != k) = true := by simpa using hxk
      rw [hxk', Bool.true_and, hmem x hx hxk]
  · unfold dropS
    refine List.filter_congr (fun x hx => ?_)
    by_cases hxk : x.1 = k
    · rw [hent x hx hxk]
      simp [hd]
    · rw [hmem x hx hxk]
theorem dropS_all {m : KeptLs} (left : List Nat) (h : ∀ x ∈ m, x.1 ∈ left) : dropS m left = m := by
  unfold dropS
  exact List.filter_eq_self.2 (fun x hx => by simp [h x hx])
theorem Drop1_any (w : World) (k : Nat) (kk : KeptL) (h : Blk w kk.p 152 (kcells kk)) :
    Calls Tryz.prog 150 #[keyI k, ptrV kk.p] w fun e w' => e = .returned (.bool kk.dirty) ∧ w = w' := by
  have d1 := h.cell 1 (.bool kk.dirty) rfl
  clear h
  go_enter Tryz.func150, Tryz.ntmps150
  go_wp2_with fail
  go_ret
  exact ⟨rfl, rfl⟩
theorem CacG.sub {w : World} {F : Nat → Prop} {cb p most clock : Nat} {ms : Int} {mb : Nat} {m m' : KeptLs} (h : CacG w F cb p most clock ms mb m) (hs : m'.Sublist m) (hm : MapI w mb (mapOf m')) : CacG w F cb p most clock ms mb m' :=
  ⟨h.box, h.fb, hm, h.fm, fun x hx => h.kept x (hs.subset hx), h.lt⟩
theorem DeleteFunc_any (w : World) (F : Nat → Prop) (cb p most clock : Nat) (ms : Int) (mb : Nat) (m : KeptLs) (h : CacG w F cb p most clock ms mb m) (hk : (m.map (·.1)).Nodup) :
    Calls Tryz.prog 149 #[.map (some mb), .func (.func 150) #[] #[]] w fun e w' => e = .returned (.tuple #[]) ∧ CacG w' F cb p most clock ms mb (m.filter fun x => !x.2.dirty) ∧ Turn F w w' := by
  obtain ⟨o, hrg, hri⟩ := RangeI.made (P := Tryz.prog) h.map 141 3 150 Tryz.underlying141
  have hq0 : Q w (w.alloc o) := Q.alloc _ _
  have h0 := h.keep hq0
  have hst : dropS m ((mapOf m).map (·.1)) = m := dropS_all _ (fun x hx => List.mem_map.2 ⟨(x.1, ptrV x.2.p), List.mem_map.2 ⟨x, hx, rfl⟩, rfl⟩)
  rw [← hst] at h0
  have hri' : RangeI (w.alloc o) mb w.heap.size (mapOf (dropS m ((mapOf m).map (·.1)))) ((mapOf m).map (·.1)) := by rw [hst]; exact hri
  have HRI := Lib.hid hri'; have H0 := Lib.hid h0; have HH := Lib.hid h; have HQ0 := Lib.hid hq0; have HK := Lib.hid hk
  clear hri hri' h0 h hq0 hst hk
  go_enter Tryz.func149, Tryz.ntmps149
  go_wp2_with fail
  clear hrg
  go_loopw [4] (fun _ wr => ∃ left, Hid (RangeI wr mb w.heap.size (mapOf (dropS m left)) left) ∧ Hid (CacG wr F cb p most clock ms mb (dropS m left)) ∧ Hid (Turn F w wr)) (fun _ wr => wr.rangeLeft mb w.heap.size)
  case atStart => exact ⟨_, HRI, H0, Lib.hid (Turn.of_q HQ0.out)⟩
  case round =>
    obtain ⟨left, HR, HC, HT⟩ := hrel
    rcases RangeI.next (P := Tryz.prog) HR.out with ⟨rfl, hnx⟩ | ⟨k, v, left', w', hkv, hpm, hnx, hri', hg, hz, hen⟩
    · have hfin := HC.out
      rw [show dropS m [] = m.filter (fun x => !x.2.dirty) from by unfold dropS; simp] at hfin
      have HF := Lib.hid hfin
      clear hfin
      go_wp2_with fail
      go_end0
      exact ⟨rfl, HF.out, HT.out⟩
    · obtain ⟨x, hx, hxe⟩ := List.mem_map.1 hkv
      obtain ⟨kx, kk⟩ := x
      simp only [Prod.mk.injEq] at hxe
      obtain ⟨rfl, rfl⟩ := hxe
      have hgk := getI_of_mem HK.out ((dropS_sub m left).subset hx)
      obtain ⟨s1, s2, s3, s4⟩ := dropS_step HK.out hgk hpm HR.out.nodup.1
      have tr : Turn (fun j => j = w.heap.size) wr w' := CacG.turn_of_map hg
      have hnF : ∀ j, F j → j ≠ w.heap.size := fun j hj e => by have := HH.out.lt j hj; omega
      have h1 := HC.out.beside tr hnF
      have hkb := (h1.kept _ (getI_mem s1)).1
      have ht1 : Turn F w w' := HT.out.more tr (fun j hj => .inr (Nat.le_of_eq hj.symm))
      have cd := Drop1_any w' kx kk hkb
      have hln0 : w'.rangeLeft mb w.heap.size < wr.rangeLeft mb w.heap.size := by rw [hri'.len, HR.out.len, hpm.length_eq]; simp
      have CD := Lib.hid cd; have HLN := Lib.hid hln0
      clear cd hln0
      cases hdr : kk.dirty with
      | false =>
        have e4 := s4 hdr
        rw [e4] at h1 hri'
        rw [hdr] at CD
        have H1 := Lib.hid h1; have HR1 := Lib.hid hri'; have HT1 := Lib.hid ht1
        clear h1 hri' ht1 hkb tr hg hz hkv hpm s1 s2 s3 s4 hx hgk e4 hdr
        go_wp2_with fail
        refine CD.out.mono ?_
        rintro e w3 ⟨rfl, rfl⟩
        go_wp2_with fail
        go_roundw
        case rel => exact ⟨left', HR1, H1, HT1⟩
        case measure => exact HLN.out
      | true =>
        rw [hdr] at CD
        have e3 := s3 hdr
        have hkm : kx ∈ (mapOf (dropS m left)).map (·.1) := List.mem_map.2 ⟨_, hkv, rfl⟩
        obtain ⟨w4, hdel, hr4, hg4, hz4⟩ := RangeI.delete (P := Tryz.prog) hri' s2 hkm 141 3 150 Tryz.underlying141 Tryz.underlying3
        have hde : delI kx (mapOf (dropS m left)) = mapOf (dropS m left') := by
          rw [← e3]; unfold mapOf; rw [delI_map (fun k : KeptL => ptrV k.p)]
        rw [hde] at hr4
        have t4 := CacG.turn_of_map hg4
        have hns : ((dropS m left).map (·.1)).Nodup := ((dropS_sub m left).map _).nodup HK.out
        have h4 := h1.gone (i := kx) hns (by rw [hde]; exact hr4.map) t4
        rw [e3] at h4
        have ht4 : Turn F w w4 := ht1.trans (t4.mono (fun j hj => by subst hj; exact HH.out.fm))
        have hln : w4.rangeLeft mb w.heap.size < wr.rangeLeft mb w.heap.size := by rw [hr4.len]; have := HLN.out; rw [hri'.len] at this; exact this
        have H4 := Lib.hid h4; have HR4 := Lib.hid hr4; have HT4 := Lib.hid ht4; have HL := Lib.hid hln
        clear h4 hr4 ht4 hln hns t4 hg4 hz4 hde hkm e3 h1 hri' ht1 hkb tr hg hz hkv hpm s1 s2 s3 s4 hx hgk hdr
        go_wp2_with fail
        refine CD.out.mono ?_
        rintro e w3 ⟨rfl, rfl⟩
        go_wp2_with fail
        go_roundw
        case rel => exact ⟨left', HR4, H4, HT4⟩
        case measure => exact HL.out
theorem Drop_any (w : World) (F : Nat → Prop) (cb p most clock : Nat) (ms : Int) (mb : Nat) (m : KeptLs) (h : CacG w F cb p most clock ms mb m) (hk : (m.map (·.1)).Nodup) :
    Calls Tryz.prog 102 #[ptrV cb] w fun e w' => e = .returned (.tuple #[]) ∧ CacG w' F cb p most clock ms mb (m.filter fun x => !x.2.dirty) ∧ Turn F w w' := by
  have c4 := h.box.cell 4 (.map (some mb)) rfl
  have hdf := DeleteFunc_any w F cb p most clock ms mb m h hk
  have HD := Lib.hid hdf
  clear hdf h hk
  go_enter Tryz.func102, Tryz.ntmps102
  go_wp2_with fail
  refine HD.out.mono ?_
  rintro e w1 ⟨rfl, h1, t1⟩
  have H1 := Lib.hid h1; have T1 := Lib.hid t1
  clear h1 t1
  go_wp2_with fail
  go_end0
  exact ⟨rfl, H1.out, T1.out⟩
def scells (p cb tb : Nat) (σ : StL) : Array Value := #[ptrV p, ptrV cb, strV σ.map1, strV σ.was, .bool σ.open_, .map (some tb)]
structure StG (w : World) (FJ FC : Nat → Prop) (sb b p cb tb most clock : Nat) (ms : Int) (mb : Nat) (m : KeptLs) (ti : List (Nat × Value)) (σ : StL) : Prop where
  box : Blk w sb 97 (scells p cb tb σ)
  tm : MapI w tb ti
  jr : JrnAt w FJ p b σ.j
  ca : CacG w FC cb p most clock ms mb m
  apart : ∀ k, FJ k → ¬ FC k
  sF : ¬ FJ sb ∧ ¬ FC sb
  tF : ¬ FJ tb ∧ ¬ FC tb
  ok : σ.dead = false → CacOk σ.n most clock σ.tx σ.j.d.get m
  keys : ∀ k, k ∈ ti.map (·.1) ↔ k ∈ σ.tx.map (·.1)
  ints : ∀ x ∈ ti, ∃ c : Int, x.2 = .int .i64 c
structure StNum (σ : StL) : Prop where
  big : 128 ≤ σ.n
  max : σ.n ≤ 4096
  map : σ.map1.length = 256 * partsN σ.n
  num : σ.dead = false → JNum σ.j ∧ σ.j.used ≤ σ.j.s.log ∧ σ.j.home = 62 ∧ (∀ w ∈ σ.tx, 63 ≤ w.1 ∧ w.1 < σ.n ∧ w.2.length = 256) ∧ σ.tx.length ≤ 48 ∧ Rise σ.tx ∧ ∀ i, i < σ.n → (σ.j.d.get i).length = 256
theorem JInv.num {lg K : Nat} {j : JL} {fr : List (List WrL)} {C : Nat → Bytes} (h : JInv lg K j fr C) (hl : lg ≤ 1000) (hK : K < 18446744073709551616) : JNum j := by
  have h1 := h.hrec.hleast; have h2 := h.hlog; have h3 := h.hrec.hplace; have h4 := h.hrec.hchain.used; have h5 := h.hused
  have h6 := h.he; have h7 := h.hnext; have h8 := h.hnextK; have h9 := h.hrec.hk; have h10 := h.plen
  exact ⟨by omega, by omega, by omega, by omega, by omega, by omega, by omega, h9, h.ok, fun _ => by omega⟩
theorem StInv.num {K : Nat} {σ : StL} {fr : List (List WrL)} {C : Nat → Bytes} (h : StInv K σ fr C) (hK : K < 18446744073709551616) : StNum σ := by
  refine ⟨h.big, h.max, h.map.len, fun _ => ⟨h.inv.num (by omega) hK, ?_, ?_, h.txok, h.short, h.rise, fun i hi => DevL.get_len h.inv.ok i hi⟩⟩
  · have := h.inv.hrec.hchain.used; rw [h.inv.hused]; omega
  · unfold JL.home; rw [h.inv.hlog]
theorem Blk.c6 {w : World} {k : Nat} {t : TypeId} {a0 a1 a2 a3 a4 a5 : Value} (h : Blk w k t #[a0, a1, a2, a3, a4, a5]) :
    w.cell? ⟨k, 0, none⟩ = some a0 ∧ w.cell? ⟨k, 1, none⟩ = some a1 ∧ w.cell? ⟨k, 2, none⟩ = some a2 ∧ w.cell? ⟨k, 3, none⟩ = some a3 ∧ w.cell? ⟨k, 4, none⟩ = some a4 ∧ w.cell? ⟨k, 5, none⟩ = some a5 :=
  ⟨h.cell 0 _ rfl, h.cell 1 _ rfl, h.cell 2 _ rfl, h.cell 3 _ rfl, h.cell 4 _ rfl, h.cell 5 _ rfl⟩
theorem StG.keep {w w' : World} {FJ FC : Nat → Prop} {sb b p cb tb most clock : Nat} {ms : Int} {mb : Nat} {m : KeptLs} {ti : List (Nat × Value)} {σ : StL} (h : StG w FJ FC sb b p cb tb most clock ms mb m ti σ) (q : Q w w') : StG w' FJ FC sb b p cb tb most clock ms mb m ti σ :=
  ⟨h.box.stays q, h.tm.same (q.block _ h.tm.lt), h.jr.keep q, h.ca.keep q, h.apart, h.sF, h.tF, h.ok, h.keys, h.ints⟩
def StAt (w : World) (F : Nat → Prop) (sb b : Nat) (σ : StL) (K : Nat) : Prop :=
  ∃ FJ FC p cb tb most clock ms mb m ti, StG w FJ FC sb b p cb tb most clock ms mb m ti σ ∧ (∀ k, FJ k ∨ FC k ∨ k = sb ∨ k = tb → F k) ∧ (∀ k, F k → k < w.heap.size) ∧ clock ≤ K
theorem StAt.keep {w w' : World} {F : Nat → Prop} {sb b : Nat} {σ : StL} {K : Nat} (h : StAt w F sb b σ K) (q : Q w w') : StAt w' F sb b σ K := by
  obtain ⟨FJ, FC, p, cb, tb, most, clock, ms, mb, m, ti, h1, h2, h3, h4⟩ := h
  exact ⟨FJ, FC, p, cb, tb, most, clock, ms, mb, m, ti, h1.keep q, h2, fun k hk => Nat.lt_of_lt_of_le (h3 k hk) q.size, h4⟩
theorem StAt.mono {w : World} {F G : Nat → Prop} {sb b : Nat} {σ : StL} {K K' : Nat} (h : StAt w F sb b σ K) (k : ∀ i, F i → G i) (hl : ∀ i, G i → i < w.heap.size) (hK : K ≤ K') : StAt w G sb b σ K' := by
  obtain ⟨FJ, FC, p, cb, tb, most, clock, ms, mb, m, ti, h1, h2, h3, h4⟩ := h
  exact ⟨FJ, FC, p, cb, tb, most, clock, ms, mb, m, ti, h1, fun i hi => k i (h2 i hi), hl, Nat.le_trans h4 hK⟩
theorem StAt.lt {w : World} {F : Nat → Prop} {sb b : Nat} {σ : StL} {K : Nat} (h : StAt w F sb b σ K) : ∀ k, F k → k < w.heap.size := by
  obtain ⟨FJ, FC, p, cb, tb, most, clock, ms, mb, m, ti, h1, h2, h3, h4⟩ := h
  exact h3
theorem StAt.quiet {w w' : World} {F : Nat → Prop} {sb b : Nat} {σ : StL} {K K' : Nat} (h : StAt w F sb b σ K) (q : Q w w') (hK : K ≤ K') : StAt w' (grow F w w') sb b σ K' ∧ Turn F w w' :=
  ⟨(h.keep q).mono (fun k hk => .inl hk) (fun k hk => hk.elim (fun hk => Nat.lt_of_lt_of_le (h.lt k hk) q.size) (fun hk => hk.2)) hK, Turn.of_q q⟩
theorem Parts_any (n : Nat) (w : World) (hn : n ≤ 1000000) :
    Calls Tryz.prog 48 #[.int .i64 (n : Nat)] w fun e w' => e = .returned (.int .i64 (partsN n : Nat)) ∧ w = w' := by
  have h : ((partsN n : Nat) : Int) = ((n : Int) + 2048 - 1) / 2048 := by unfold partsN; omega
  rw [h]
  clear h
  go_enter Tryz.func48, Tryz.ntmps48
  go_wp2
  go_ret
  exact ⟨rfl, rfl⟩
theorem First_n (n : Nat) (w : World) (hn : n ≤ 1000000) :
    Calls Tryz.prog 46 #[.int .i64 (n : Nat)] w fun e w' => e = .returned (.int .i64 (firstD n : Nat)) ∧ w = w' := by
  have hp := Parts_any n w hn
  have hb : partsN n ≤ 1000000 := by unfold partsN; omega
  have h : ((firstD n : Nat) : Int) = 63 + (partsN n : Int) := by unfold firstD; omega
  rw [h]
  have HP := Lib.hid hp
  clear h hp
  go_enter Tryz.func46, Tryz.ntmps46
  go_wp2_with fail
  refine HP.out.mono ?_
  rintro e w1 ⟨rfl, rfl⟩
  go_wp2_with fail
  go_ret
  exact ⟨rfl, rfl⟩
theorem Title_any (n : Nat) (w : World) (hn : n ≤ 1000000) :
    Calls Tryz.prog 50 #[.int .i64 (n : Nat)] w fun e w' => e = .returned (strV (titleL n)) ∧ Q w w' := by
  have hc := fun (W : World) => Fixed_any n W (by omega)
  have hr := fun (W : World) => Tryz.strings_Repeat_main ⟨#[0]⟩ 248 W (by decide) (by decide) (by decide) (by decide)
  have hz : (Lib.repeatL [(0 : UInt8)] 248) = zerosL 248 := by decide +kernel
  have hfl := length_fixedL n
  have HC := Lib.hid hc; have HR := Lib.hid hr; have HZ := Lib.hid hz
  clear hc hr hz
  go_enter Tryz.func50, Tryz.ntmps50
  go_wp2_with fail
  refine (HC.out _).mono ?_
  rintro e w1 ⟨rfl, q1⟩
  have HQ1 := Lib.hid q1
  clear q1
  go_wp2_with fail
  refine (HR.out _).mono ?_
  rintro e w2 ⟨rfl, q2⟩
  have HQ2 := Lib.hid (HQ1.out.trans q2)
  clear q2
  rw [HZ.out]
  go_wp2_with fail
  go_ret
  refine ⟨?_, HQ2.out⟩
  have he : (({ data := #[67, 68, 88, 66] } : ByteArray) ++ { data := (fixedL n).toArray }) ++ { data := (zerosL 248).toArray } = ⟨(titleL n).toArray⟩ := by
    rw [show ({ data := #[67, 68, 88, 66] } : ByteArray) = ⟨([67, 68, 88, 66] : Bytes).toArray⟩ from rfl, bytes_append, bytes_append, List.append_assoc]; rfl
  exact congrArg (fun x => Ending.returned (.string x)) he
theorem Part_any (t : Bytes) (i : Nat) (w : World) (hi : (i + 1) * 256 ≤ t.length) (hl : t.length ≤ 1000000) :
    Calls Tryz.prog 104 #[strV t, .int .i64 (i : Nat)] w fun e w' => e = .returned (strV (partL t i)) ∧ w = w' := by
  go_enter Tryz.func104, Tryz.ntmps104
  go_wp2_with fail
  go_ret
  refine ⟨?_, rfl⟩
  have he : ({ data := t.toArray } : ByteArray).extract (i * 256) ((i + 1) * 256) = ⟨(partL t i).toArray⟩ := by
    rw [bytes_extract, show (i + 1) * 256 - i * 256 = 256 by omega]; rfl
  exact congrArg (fun x => Ending.returned (.string x)) he
end
section
open Go.RowKit
variable {w : World} {FJ FC : Nat → Prop} {sb b p cb tb most clock : Nat} {ms : Int} {mb : Nat} {m : KeptLs} {ti : List (Nat × Value)} {σ : StL}
theorem SBlocks_any (h : StG w FJ FC sb b p cb tb most clock ms mb m ti σ) :
    Calls Tryz.prog 54 #[ptrV sb] w fun e w' => e = .returned (.int .i64 (σ.n : Nat)) ∧ w = w' := by
  obtain ⟨c0, _⟩ := Blk.c6 h.box
  obtain ⟨d0, _⟩ := h.jr.box.c8
  have hb := Blocks_any w FJ b σ.j.d h.jr.dev
  have HB := Lib.hid hb
  clear hb h
  show Calls _ _ _ _ fun e w' => e = .returned (.int .i64 (σ.j.d.l.length : Nat)) ∧ w = w'
  go_enter Tryz.func54, Tryz.ntmps54
  go_wp2_with fail
  refine HB.out.mono ?_
  rintro e w1 ⟨rfl, rfl⟩
  go_wp2_with fail
  go_ret
  exact ⟨rfl, rfl⟩
theorem SFirst_any (h : StG w FJ FC sb b p cb tb most clock ms mb m ti σ) (hn : σ.n ≤ 4096) :
    Calls Tryz.prog 21 #[ptrV sb] w fun e w' => e = .returned (.int .i64 (firstD σ.n : Nat)) ∧ w = w' := by
  have hb := SBlocks_any h
  have hf := First_n σ.n w (by omega)
  have HB := Lib.hid hb; have HF := Lib.hid hf
  clear hb h hf
  go_enter Tryz.func21, Tryz.ntmps21
  go_wp2_with fail
  refine HB.out.mono ?_
  rintro e w1 ⟨rfl, rfl⟩
  go_wp2_with fail
  refine HF.out.mono ?_
  rintro e w1 ⟨rfl, rfl⟩
  go_wp2_with fail
  go_ret
  exact ⟨rfl, rfl⟩
theorem SFree_any (h : StG w FJ FC sb b p cb tb most clock ms mb m ti σ) (hn : StNum σ) :
    Calls Tryz.prog 20 #[ptrV sb] w fun e w' => e = .returned (.int .i64 (σ.free : Nat)) ∧ Q w w' := by
  have hmx := hn.max
  have hb := fun (W : World) (q : Q w W) => SBlocks_any (h.keep q)
  have hpn := partsN_pos σ.n (by have := hn.big; omega)
  have hf : ∀ W : World, Calls Tryz.prog 49 #[strV σ.map1, .int .i64 (σ.n : Nat)] W fun e w' => e = .returned (.int .i64 (cnt σ.map1 (firstN σ.map1 σ.n))) ∧ Q W w' := fun W => BFree_any σ.map1 σ.n W (by have := hn.map; omega) (by omega) (by omega)
  have hfn : firstN σ.map1 σ.n = σ.n := by unfold firstN; have := hn.map; omega
  rw [hfn] at hf
  obtain ⟨c0, c1, c2, _⟩ := Blk.c6 h.box
  have hfr : σ.free = cnt σ.map1 σ.n := rfl
  rw [hfr]
  have HB := Lib.hid hb; have HF := Lib.hid hf
  clear hb h hf hfn hfr hn
  generalize σ.map1 = m1 at *
  generalize σ.n = n at *
  have KK := Lib.hid (Q.refl w)
  go_enter Tryz.func20, Tryz.ntmps20
  go_wp2_with fail
  go_region_held3 (fun w' => w'.cell? ⟨sb, 2, none⟩ = some (strV m1))
    (first | exact c2 | exact cellQ (by repeat (first | with_reducible exact KK.out | with_reducible exact Q.refl _ | with_reducible apply Qs.dr | with_reducible apply Qs.al)) c2)
    (first
      | (go_at_call 54; with_reducible refine (HB.out _ (by repeat (first | with_reducible exact KK.out | with_reducible apply Qs.dr | with_reducible apply Qs.al))).mono ?_; rintro e w5 ⟨rfl, rfl⟩)
      | (go_at_call 49; with_reducible refine (HF.out _).mono ?_; rintro e w6 ⟨rfl, q6⟩; have s' : Q w w6 := Q.trans (by repeat (first | with_reducible exact KK.out | with_reducible apply Qs.dr | with_reducible apply Qs.al)) q6; clear KK; have KK := Lib.hid s'; clear s' q6))
  all_goals
    go_wp2_with fail
    go_ret
    exact ⟨rfl, by repeat (first | with_reducible exact KK.out | with_reducible apply Qs.dr | with_reducible apply Qs.al)⟩
theorem SData_any (i : Int) (h : StG w FJ FC sb b p cb tb most clock ms mb m ti σ) (hn : σ.n ≤ 4096) :
    Calls Tryz.prog 58 #[ptrV sb, .int .i64 i] w fun e w' => e = .returned (.bool (σ.isData i)) ∧ w = w' := by
  have hb := SBlocks_any h
  have hf := SFirst_any h hn
  have HB := Lib.hid hb; have HF := Lib.hid hf
  clear hb h hf
  unfold StL.isData
  generalize firstD σ.n = fd at *
  by_cases hi : (fd : Int) ≤ i
  · have hb1 : decide ((fd : Int) ≤ i) = true := decide_eq_true hi
    have e1 : decide ((fd : Int) ≤ i ∧ i < (σ.n : Int)) = decide (i < (σ.n : Int)) := by simp [hi]
    rw [e1]
    generalize σ.n = n at *
    clear e1
    go_enter Tryz.func58, Tryz.ntmps58
    go_wp2_with fail
    refine HF.out.mono ?_
    rintro e w1 ⟨rfl, rfl⟩
    go_wp2_with fail
    refine HB.out.mono ?_
    rintro e w1 ⟨rfl, rfl⟩
    go_wp2_with fail
    go_ret
    exact ⟨rfl, rfl⟩
  · have e1 : decide ((fd : Int) ≤ i ∧ i < (σ.n : Int)) = false := by simp [hi]
    rw [e1]
    generalize σ.n = n at *
    clear e1
    go_enter Tryz.func58, Tryz.ntmps58
    go_wp2_with fail
    refine HF.out.mono ?_
    rintro e w1 ⟨rfl, rfl⟩
    go_wp2_with fail
    go_ret
    exact ⟨rfl, rfl⟩
theorem SState_any (o : Bool) (h : StG w FJ FC sb b p cb tb most clock ms mb m ti σ) :
    Calls Tryz.prog 55 #[ptrV sb, .bool o] w fun e w' => e = .returned (.int .i64 (σ.state o)) ∧ w = w' := by
  obtain ⟨c0, c1, c2, c3, c4, c5⟩ := Blk.c6 h.box
  obtain ⟨d0, _⟩ := h.jr.box.c8
  have hd := Dead_any w FJ b σ.j.d h.jr.dev
  have he : σ.j.d.dead = σ.dead := rfl
  rw [he] at hd
  have HD := Lib.hid hd
  clear hd h he
  unfold StL.state
  generalize σ.dead = dd at *
  generalize σ.open_ = oo at *
  cases dd with
  | true =>
    simp only [if_true]
    go_enter Tryz.func55, Tryz.ntmps55
    go_wp2_with fail
    refine HD.out.mono ?_
    rintro e w1 ⟨rfl, rfl⟩
    go_wp2_with fail
    go_ret
    exact ⟨rfl, rfl⟩
  | false =>
    simp only [Bool.false_eq_true, if_false]
    cases oo <;> cases o
    all_goals
      go_enter Tryz.func55, Tryz.ntmps55
      go_wp2_with fail
      refine HD.out.mono ?_
      rintro e w1 ⟨rfl, rfl⟩
      go_wp2_with fail
      go_ret
      exact ⟨rfl, rfl⟩
end
section
open Go.RowKit
variable {w w' : World} {FJ FC F : Nat → Prop} {sb b p cb tb most clock clock' : Nat} {ms ms' : Int} {mb : Nat} {m m' : KeptLs} {ti ti' : List (Nat × Value)} {σ σ' : StL} {K : Nat}
theorem StG.ne (h : StG w FJ FC sb b p cb tb most clock ms mb m ti σ) : sb ≠ tb := blk_not_map h.box h.tm
theorem StG.cache (h : StG w FJ FC sb b p cb tb most clock ms mb m ti σ) (t : Turn FC w w') (hc : CacG w' (grow FC w w') cb p most clock' ms' mb m') (hok : σ.dead = false → CacOk σ.n most clock' σ.tx σ.j.d.get m') : StG w' FJ (grow FC w w') sb b p cb tb most clock' ms' mb m' ti σ := by
  have hlb := h.box.lt; have hlt := h.tm.lt
  exact ⟨t.blk h.box h.sF.2, h.tm.same (t.block _ h.tm.lt h.tF.2), h.jr.beside t (fun k hk hc => h.apart k hk hc), hc, fun k hk hg => hg.elim (fun hg => h.apart k hk hg) (fun hg => by have := h.jr.lt k hk; omega), ⟨h.sF.1, fun hg => hg.elim h.sF.2 (fun hg => by omega)⟩, ⟨h.tF.1, fun hg => hg.elim h.tF.2 (fun hg => by omega)⟩, hok, h.keys, h.ints⟩
theorem StG.turnBox (h : StG w FJ FC sb b p cb tb most clock ms mb m ti σ) (t : Turn (fun k => k = sb) w w') (hb : Blk w' sb 97 (scells p cb tb σ')) (hj : σ'.j = σ.j) (htx : σ'.tx = σ.tx) : StG w' FJ FC sb b p cb tb most clock ms mb m ti σ' := by
  refine ⟨hb, h.tm.same (t.block _ h.tm.lt h.ne.symm), by rw [hj]; exact h.jr.beside t (fun k hk e => h.sF.1 (e ▸ hk)), h.ca.beside t (fun k hk e => h.sF.2 (e ▸ hk)), h.apart, h.sF, h.tF, fun hd => ?_, by rw [htx]; exact h.keys, h.ints⟩
  have e1 : σ'.dead = σ.dead := by unfold StL.dead; rw [hj]
  have e2 : σ'.n = σ.n := by unfold StL.n; rw [hj]
  rw [e1] at hd
  rw [e2, htx, hj]; exact h.ok hd
theorem StAt.of_cache (h : StG w FJ FC sb b p cb tb most clock ms mb m ti σ) (hF : ∀ k, FJ k ∨ FC k ∨ k = sb ∨ k = tb → F k) (hlt : ∀ k, F k → k < w.heap.size) (t : Turn FC w w') (hc : CacG w' (grow FC w w') cb p most clock' ms' mb m') (hok : σ.dead = false → CacOk σ.n most clock' σ.tx σ.j.d.get m') (hK : clock' ≤ K) :
    StAt w' (grow F w w') sb b σ K ∧ Turn F w w' := by
  have tF : Turn F w w' := t.mono (fun k hk => hF k (.inr (.inl hk)))
  refine ⟨⟨_, _, _, _, _, _, _, _, _, _, _, h.cache t hc hok, fun k hk => ?_, fun k hk => hk.elim (fun hk => Nat.lt_of_lt_of_le (hlt k hk) t.size) (fun hk => hk.2), hK⟩, tF⟩
  rcases hk with hk | hk | hk | hk
  · exact .inl (hF k (.inl hk))
  · exact hk.elim (fun hk => .inl (hF k (.inr (.inl hk)))) .inr
  · exact .inl (hF k (.inr (.inr (.inl hk))))
  · exact .inl (hF k (.inr (.inr (.inr hk))))
theorem SRead_any (w : World) (F : Nat → Prop) (sb b : Nat) (σ : StL) (K : Nat) (i : Int) (h : StAt w F sb b σ K) (hn : StNum σ) (hK : K ≤ 1000000000000000000) :
    Calls Tryz.prog 25 #[ptrV sb, .int .i64 i] w fun e w' => e = .returned (.tuple #[strV (σ.read i).1, .int .i64 (σ.read i).2]) ∧ StAt w' (grow F w w') sb b σ (K + 1) ∧ Turn F w w' := by
  have hsame := (h.quiet (Q.refl w) (Nat.le_succ K))
  obtain ⟨FJ, FC, p, cb, tb, most, clock, ms, mb, m, ti, hg, hF, hlt, hcl⟩ := h
  obtain ⟨c0, c1, c2, c3, c4, c5⟩ := Blk.c6 hg.box
  obtain ⟨d0, _⟩ := hg.jr.box.c8
  have hd := Dead_any w FJ b σ.j.d hg.jr.dev
  have he : σ.j.d.dead = σ.dead := rfl
  rw [he] at hd
  have hda := SData_any i hg hn.max
  cases hdd : σ.dead with
  | true =>
    have hr : σ.read i = ([], 4) := by unfold StL.read; rw [hdd, if_pos rfl]
    rw [hdd] at hd
    rw [hr]
    have HD := Lib.hid hd; have HS := Lib.hid hsame
    clear hd hda hg hsame hn hF hlt hr he
    go_enter Tryz.func25, Tryz.ntmps25
    go_wp2_with fail
    refine HD.out.mono ?_
    rintro e w1 ⟨rfl, rfl⟩
    go_wp2_with fail
    go_ret2
    exact ⟨rfl, HS.out.1, HS.out.2⟩
  | false =>
    rw [hdd] at hd
    cases hdt : σ.isData i with
    | false =>
      have hr : σ.read i = ([], 2) := by unfold StL.read; rw [hdd, hdt]; rfl
      rw [hdt] at hda
      rw [hr]
      have HD := Lib.hid hd; have HS := Lib.hid hsame; have HDA := Lib.hid hda
      clear hd hda hg hsame hn hF hlt hr he
      go_enter Tryz.func25, Tryz.ntmps25
      go_wp2_with fail
      refine HD.out.mono ?_
      rintro e w1 ⟨rfl, rfl⟩
      go_wp2_with fail
      refine HDA.out.mono ?_
      rintro e w1 ⟨rfl, rfl⟩
      go_wp2_with fail
      go_ret2
      exact ⟨rfl, HS.out.1, HS.out.2⟩
    | true =>
      rw [hdt] at hda
      have hdt' := hdt
      unfold StL.isData at hdt'
      simp only [decide_eq_true_eq] at hdt'
      obtain ⟨j, rfl⟩ : ∃ j : Nat, i = (j : Nat) := ⟨i.toNat, by omega⟩
      have hjn : j < σ.n := by omega
      have hr : σ.read (j : Nat) = (lastP σ.tx j (σ.j.d.get j), 0) := by unfold StL.read; rw [hdd, hdt]; rfl
      obtain ⟨n1, n2, n3, n4, n5, n6⟩ := hn.num hdd
      have hrr : σ.j.d.read (j : Nat) = (σ.j.d.get j, 0) := by
        unfold DevL.read
        rw [DevL.chk_in hdd j hjn, if_pos rfl]; rfl
      have hrd := Read_any w FJ b σ.j.d (j : Nat) hg.jr.dev hn.max (fun _ => by have := n1.plen hdd; omega)
      rw [hrr] at hrd
      have hget := CGet_any w FC cb p b σ.n most clock ms mb m σ.tx σ.j.d.get j hg.ca (hg.ok hdd) d0 ⟨by have := hdt'.1; unfold firstD at this; omega, hjn⟩ (by omega) hrd (fun W q hW => Room_any W FC cb p σ.n most clock ms mb m σ.tx σ.j.d.get hW (hg.ok hdd) (by omega))
      rw [hr]
      have HD := Lib.hid hd; have HDA := Lib.hid hda; have HGT := Lib.hid hget; have HG := Lib.hid hg; have HF := Lib.hid hF; have HLT := Lib.hid hlt
      clear hd hda hget hrd hrr hsame hF hlt hr hg n1 n2 n3 n4 n5 n6 hn hdt he hdt'
      go_enter Tryz.func25, Tryz.ntmps25
      go_wp2_with fail
      refine HD.out.mono ?_
      rintro e w1 ⟨rfl, rfl⟩
      go_wp2_with fail
      refine HDA.out.mono ?_
      rintro e w1 ⟨rfl, rfl⟩
      go_wp2_with fail
      refine HGT.out.mono ?_
      rintro e w2 ⟨rfl, t2, m2, ms2, h2, o2⟩
      have hend := StAt.of_cache HG.out HF.out HLT.out t2 h2 (fun _ => o2) (K := K + 1) (by omega)
      have HE := Lib.hid hend
      clear t2 h2 o2 hend
      go_wp2_with fail
      go_ret2
      exact ⟨rfl, HE.out.1, HE.out.2⟩
theorem SBegin_any (w : World) (F : Nat → Prop) (sb b : Nat) (σ : StL) (K : Nat) (h : StAt w F sb b σ K) :
    Calls Tryz.prog 22 #[ptrV sb] w fun e w' => e = .returned (.int .i64 σ.begin.2) ∧ StAt w' (grow F w w') sb b σ.begin.1 K ∧ Turn F w w' := by
  have hsame := (h.quiet (Q.refl w) (Nat.le_refl K))
  obtain ⟨FJ, FC, p, cb, tb, most, clock, ms, mb, m, ti, hg, hF, hlt, hcl⟩ := h
  have hst := SState_any false hg
  by_cases hz : σ.state false = 0
  · have hb : σ.begin = ({ σ with open_ := true, was := σ.map1 }, 0) := by unfold StL.begin; rw [if_neg (by rw [hz]; decide)]
    rw [hb]
    rw [hz] at hst
    obtain ⟨c0, c1, c2, c3, c4, c5⟩ := Blk.c6 hg.box
    have f3 := hg.box.frozen 3; have f4 := hg.box.frozen 4
    have t1 : Turn (fun k => k = sb) w ((w.setCell ⟨sb, 4, none⟩ (.bool true)).setCell ⟨sb, 3, none⟩ (strV σ.map1)) := Turn.setCell (a := ⟨sb, 3, none⟩) (Turn.setCell (a := ⟨sb, 4, none⟩) (Turn.refl (fun k => k = sb) w) (.inl rfl) _) (.inl rfl) _
    have hb1 : Blk ((w.setCell ⟨sb, 4, none⟩ (.bool true)).setCell ⟨sb, 3, none⟩ (strV σ.map1)) sb 97 (scells p cb tb { σ with open_ := true, was := σ.map1 }) := (hg.box.set 4 (.bool true)).set 3 (strV σ.map1)
    have h1 := hg.turnBox t1 hb1 rfl rfl
    have hsF : F sb := hF sb (.inr (.inr (.inl rfl)))
    have tF : Turn F w ((w.setCell ⟨sb, 4, none⟩ (.bool true)).setCell ⟨sb, 3, none⟩ (strV σ.map1)) := t1.mono (fun k hk => by subst hk; exact hsF)
    have hend : StAt ((w.setCell ⟨sb, 4, none⟩ (.bool true)).setCell ⟨sb, 3, none⟩ (strV σ.map1)) (grow F w ((w.setCell ⟨sb, 4, none⟩ (.bool true)).setCell ⟨sb, 3, none⟩ (strV σ.map1))) sb b { σ with open_ := true, was := σ.map1 } K := ⟨_, _, _, _, _, _, _, _, _, _, _, h1, fun k hk => .inl (hF k hk), fun k hk => hk.elim (fun hk => Nat.lt_of_lt_of_le (hlt k hk) tF.size) (fun hk => hk.2), hcl⟩
    have HS := Lib.hid hst; have HE := Lib.hid hend; have HT := Lib.hid tF
    clear hst hend tF h1 hb1 t1 hg hb hF hlt hsame
    go_enter Tryz.func22, Tryz.ntmps22
    go_wp2_with fail
    refine HS.out.mono ?_
    rintro e w1 ⟨rfl, rfl⟩
    go_wp2_with fail
    go_ret
    exact ⟨rfl, HE.out, HT.out⟩
  · have hb : σ.begin = (σ, σ.state false) := by unfold StL.begin; rw [if_pos hz]
    rw [hb]
    have e1 : (σ.state false == 0) = false := beq_eq_false_iff_ne.2 hz
    have HS := Lib.hid hst; have HE := Lib.hid hsame
    clear hst hg hb hF hlt hsame hz
    simp only at HS HE ⊢
    generalize σ.state false = x at *
    go_enter Tryz.func22, Tryz.ntmps22
    go_wp2_with fail
    refine HS.out.mono ?_
    rintro e w1 ⟨rfl, rfl⟩
    go_wp2_with fail
    go_ret
    exact ⟨rfl, HE.out.1, HE.out.2⟩
end
section
open Go.RowKit
theorem RParts_any (n : Nat) (w : World) (hn : n ≤ 1000000) :
    Calls Tryz.prog 87 #[.int .i64 (n : Nat)] w fun e w' => e = .returned (.int .i64 (partsN n : Nat)) ∧ w = w' := by
  have h : ((partsN n : Nat) : Int) = ((n : Int) + 2047) / 2048 := by unfold partsN; omega
  rw [h]
  clear h
  go_enter Tryz.func87, Tryz.ntmps87
  go_wp2
  go_ret
  exact ⟨rfl, rfl⟩
theorem RTitle_any (n : Nat) (w : World) (hn : n ≤ 1000000) :
    Calls Tryz.prog 90 #[.int .i64 (n : Nat)] w fun e w' => e = .returned (strV (titleL n)) ∧ Q w w' := by
  have hc := fun (W : World) => RFixed_any n W (by omega)
  obtain ⟨i, hi, hz0, hz1, hz2⟩ := info_parts tinfo5
  have km := fun (W : World) => run_make (P := Tryz.prog) W 86 5 _ _ Tryz.underlying86 hi hz0 .i64 .i64 248 248 (by omega) (Int.le_refl _) (by rw [hz2]; omega) (by omega)
  have hb := fun (W : World) => (ByteRow.zeros W (248 : Int).toNat 5).back (P := Tryz.prog) 86 9 5 (248 : Int).toNat Tryz.underlying86 Tryz.underlying5 Tryz.underlying9
  simp only [List.length_replicate] at hb
  rw [show List.replicate (248 : Int).toNat (0 : UInt8) = zerosL 248 from rfl] at hb
  simp only [hz1, Nat.mul_one, show (Value.int IntKind.u8 0).cells = #[.int .u8 0] from rfl] at km
  have hle : (({ data := #[67, 68, 88, 66] } : ByteArray) ++ { data := (fixedL n).toArray }) = ⟨(([67, 68, 88, 66] : Bytes) ++ fixedL n).toArray⟩ := by
    rw [show ({ data := #[67, 68, 88, 66] } : ByteArray) = ⟨([67, 68, 88, 66] : Bytes).toArray⟩ from rfl, bytes_append]
  have hln : (([67, 68, 88, 66] : Bytes) ++ fixedL n).length = 8 := by rw [List.length_append, length_fixedL]; rfl
  have hte : titleL n = (([67, 68, 88, 66] : Bytes) ++ fixedL n) ++ zerosL 248 := by unfold titleL; rw [List.append_assoc]
  have hnn : IntKind.u32.wrap (n : Int) = (n : Int) := by simp [IntKind.wrap, IntKind.bits, IntKind.signed]; omega
  have hn2 : (n : Int) % 4294967296 = (n : Int) := by omega
  have HC := Lib.hid hc; have HLE := Lib.hid hle
  have hfl := length_fixedL n
  rw [hte]
  clear hc hle hte
  generalize hres : (([67, 68, 88, 66] : Bytes) ++ fixedL n) ++ zerosL 248 = res at *
  have HRES := Lib.hid hres
  clear hres
  generalize fixedL n = fl at *
  generalize hm : (248 : Int).toNat = m at *
  clear hm
  go_enter Tryz.func90, Tryz.ntmps90
  go_wp2_with fail
  refine (HC.out _).mono ?_
  rintro e w1 ⟨rfl, q1⟩
  have HQ1 := Lib.hid q1
  clear q1
  go_wp2_with fail
  rw [HLE.out]
  generalize ([67, 68, 88, 66] : Bytes) ++ fl = tt at *
  have km1 := km w1
  have hb1 := hb w1
  have hq := Q.alloc w1 (.cells (madeCells #[.int .u8 0] m) 5)
  generalize w1.alloc (.cells (madeCells #[.int .u8 0] m) 5) = w2 at *
  have HQ2 := Lib.hid (HQ1.out.trans hq)
  clear km hb hq
  go_wp2_with fail
  go_ret
  exact ⟨by rw [← HRES.out]; exact congrArg (fun x => Ending.returned (.string x)) (bytes_append _ _), HQ2.out⟩
structure RStG (w : World) (FJ : Nat → Prop) (sb b p : Nat) (tv : Value) (σ : StL) : Prop where
  box : Blk w sb 129 #[ptrV p, .bool σ.open_, tv]
  jr : RJrnAt w FJ p b σ.j
  sF : ¬ FJ sb
  tx : SlO w FJ tv σ.tx.length 2 (wrVs σ.tx)
def RStAt (w : World) (F : Nat → Prop) (sb b : Nat) (σ : StL) : Prop :=
  ∃ FJ p tv, RStG w FJ sb b p tv σ ∧ (∀ k, FJ k ∨ k = sb → F k) ∧ (∀ g off n cap, tv = .slice (some ⟨g, off, none⟩) n cap → 0 < σ.tx.length → F g) ∧ (∀ k, F k → k < w.heap.size)
theorem SlO.stay {w w' : World} {F : Nat → Prop} {v : Value} {n size : Nat} {xs : List Value} (h : SlO w F v n size xs) (q : Q w w') : SlO w' F v n size xs :=
  ⟨h.1.stays q, fun hn => by obtain ⟨b, off, e, hb, hF⟩ := h.2 hn; exact ⟨b, off, e, Nat.lt_of_lt_of_le hb q.size, hF⟩⟩
theorem RStG.keep {w w' : World} {FJ : Nat → Prop} {sb b p : Nat} {tv : Value} {σ : StL} (h : RStG w FJ sb b p tv σ) (q : Q w w') : RStG w' FJ sb b p tv σ :=
  ⟨h.box.stays q, h.jr.keep q, h.sF, h.tx.stay q⟩
theorem RStAt.keep {w w' : World} {F : Nat → Prop} {sb b : Nat} {σ : StL} (h : RStAt w F sb b σ) (q : Q w w') : RStAt w' F sb b σ := by
  obtain ⟨FJ, p, tv, h1, h2, h3, h4⟩ := h
  exact ⟨FJ, p, tv, h1.keep q, h2, h3, fun k hk => Nat.lt_of_lt_of_le (h4 k hk) q.size⟩
theorem Blk.c3f {w : World} {k : Nat} {t : TypeId} {a0 a1 a2 : Value} (h : Blk w k t #[a0, a1, a2]) :
    w.cell? ⟨k, 0, none⟩ = some a0 ∧ w.cell? ⟨k, 1, none⟩ = some a1 ∧ w.cell? ⟨k, 2, none⟩ = some a2 ∧ w.frozen? ⟨k, 0, none⟩ = false ∧ w.frozen? ⟨k, 1, none⟩ = false ∧ w.frozen? ⟨k, 2, none⟩ = false :=
  ⟨h.cell 0 _ rfl, h.cell 1 _ rfl, h.cell 2 _ rfl, h.frozen 0, h.frozen 1, h.frozen 2⟩
section
variable {w : World} {FJ : Nat → Prop} {sb b p : Nat} {tv : Value} {σ : StL}
theorem RBlocks7_any (h : RStG w FJ sb b p tv σ) :
    Calls Tryz.prog 78 #[ptrV sb] w fun e w' => e = .returned (.int .i64 (σ.n : Nat)) ∧ w = w' := by
  obtain ⟨c0, _⟩ := h.box.c3f
  obtain ⟨j0, _⟩ := h.jr.box.c8
  obtain ⟨lv, pv, hd⟩ := h.jr.dev
  obtain ⟨la, lc, rfl, _⟩ := hd.lcells
  obtain ⟨d0, _⟩ := hd.box.c4
  have hn : σ.n = σ.j.d.l.length := rfl
  rw [hn]
  clear h hd hn
  go_enter Tryz.func78, Tryz.ntmps78
  go_wp2
  go_ret
  exact ⟨rfl, rfl⟩
theorem RFirst7_any (h : RStG w FJ sb b p tv σ) (hn : σ.n ≤ 4096) :
    Calls Tryz.prog 80 #[ptrV sb] w fun e w' => e = .returned (.int .i64 (firstD σ.n : Nat)) ∧ w = w' := by
  have hb := RBlocks7_any h
  have hp := RParts_any σ.n w (by omega)
  have hb2 : partsN σ.n ≤ 1000000 := by unfold partsN; omega
  have he : ((firstD σ.n : Nat) : Int) = 63 + (partsN σ.n : Int) := by unfold firstD; omega
  rw [he]
  have HB := Lib.hid hb; have HP := Lib.hid hp
  clear he hb hp h
  go_enter Tryz.func80, Tryz.ntmps80
  go_wp2_with fail
  refine HB.out.mono ?_
  rintro e w1 ⟨rfl, rfl⟩
  go_wp2_with fail
  refine HP.out.mono ?_
  rintro e w1 ⟨rfl, rfl⟩
  go_wp2_with fail
  go_ret
  exact ⟨rfl, rfl⟩
theorem SlO.wcells (h : SlO w FJ tv σ.tx.length 2 (wrVs σ.tx)) : ∃ a cap, tv = .slice a σ.tx.length cap ∧ ∀ k (hk : k < σ.tx.length), ∃ g off, a = some ⟨g, off, none⟩ ∧ w.cell? ⟨g, off + k * 2, none⟩ = some (.int .i64 (σ.tx[k].1 : Nat)) ∧ w.cell? ⟨g, off + k * 2 + 1, none⟩ = some (strV σ.tx[k].2) := by
  obtain ⟨a, cap, e, hc⟩ := h.value
  refine ⟨a, cap, e, fun k hk => ?_⟩
  obtain ⟨g, off, rfl, _, _, hcell⟩ := hc (by omega)
  have h1 := wrVs_at σ.tx k hk
  exact ⟨g, off, rfl, hcell _ _ h1.1, by rw [Nat.add_assoc]; exact hcell _ _ h1.2⟩
theorem lastP_at (l : List WrL) (hr : Rise l) (k : Nat) (hk : k < l.length) (s : Bytes) : lastP l l[k].1 s = l[k].2 := by
  refine lastP_only l l[k] s (List.getElem_mem hk) (fun x hx e => ?_)
  obtain ⟨j, hj, rfl⟩ := List.getElem_of_mem hx
  have hp := List.pairwise_iff_getElem.1 hr
  rcases Nat.lt_trichotomy j k with h | h | h
  · have := hp j k hj hk h; omega
  · subst h; rfl
  · have := hp k j hk hj h; omega
theorem RData7_any (h : RStG w FJ sb b p tv σ) (hn : σ.n ≤ 4096) (hd : σ.dead = false) (hp : σ.j.d.p.length ≤ 1000000) (hr : Rise σ.tx) (hl : σ.tx.length ≤ 1000) (i : Nat) (hi : i < σ.n) :
    Calls Tryz.prog 92 #[ptrV sb, .int .i64 (i : Nat)] w fun e w' => e = .returned (strV (σ.get i)) ∧ Q w w' := by
  have hrd := RRead_any w FJ b σ.j.d (i : Nat) h.jr.dev hn (fun _ => hp)
  have hre : σ.j.d.read (i : Nat) = (σ.j.d.get i, 0) := by unfold DevL.read; rw [DevL.chk_in hd i hi, if_pos rfl]; rfl
  rw [hre] at hrd
  obtain ⟨a, cap, rfl, hcell⟩ := h.tx.wcells
  obtain ⟨c0, c1, c2, _⟩ := h.box.c3f
  obtain ⟨j0, _⟩ := h.jr.box.c8
  have hhit := fun (k : Nat) (hk : k < σ.tx.length) (e : σ.tx[k].1 = i) => (show σ.get i = σ.tx[k].2 from by unfold StL.get; rw [← e]; exact lastP_at σ.tx hr k hk _)
  have hmiss : (∀ k (hk : k < σ.tx.length), σ.tx[k].1 ≠ i) → σ.get i = σ.j.d.get i := fun hx => by
    unfold StL.get
    exact lastP_none _ _ _ (fun x hx2 e => by obtain ⟨k, hk, rfl⟩ := List.getElem_of_mem hx2; exact hx k hk e)
  have HRD := Lib.hid hrd; have HC := Lib.hid hcell; have HH := Lib.hid hhit; have HM := Lib.hid hmiss
  clear hrd hre hcell hhit hmiss h hd hp hr hn
  generalize σ.get i = res at *
  generalize σ.j.d.get i = res0 at *
  go_enter Tryz.func92, Tryz.ntmps92
  go_wp2_with fail
  go_loop [5] (fun v => ∃ k : Nat, v = .int .i64 (k : Nat) ∧ k ≤ σ.tx.length ∧ Hid (∀ j (hj : j < σ.tx.length), j < k → σ.tx[j].1 ≠ i)) (fun v => σ.tx.length - (intOf v).toNat)
  case atStart => exact ⟨0, rfl, Nat.zero_le _, Lib.hid (fun j hj h => by omega)⟩
  case round =>
    obtain ⟨k, rfl, hk, HN⟩ := hrel
    by_cases hlt : k < σ.tx.length
    · have hki : (k : Int) < (σ.tx.length : Int) := by omega
      have hk0 : (0 : Int) ≤ (k : Int) := by omega
      obtain ⟨g, off, rfl, x1, x2⟩ := HC.out k hlt
      have hit := HH.out k hlt
      have hnx : σ.tx[k].1 ≠ i → ∀ j (hj : j < σ.tx.length), j < k + 1 → σ.tx[j].1 ≠ i := fun hne j hj h => by
        by_cases e : j = k
        · subst e; exact hne
        · exact HN.out j hj (by omega)
      have HIT := Lib.hid hit; have HNX := Lib.hid hnx
      clear hit hnx HH HN
      generalize σ.tx[k] = x at *
      obtain ⟨xi, xs⟩ := x
      simp only at x1 x2 HIT HNX
      by_cases he : xi = i
      · have e1 : ((xi : Int) == (i : Int)) = true := by rw [he]; exact beq_self_eq_true _
        have hres := HIT.out he
        subst he
        subst hres
        go_wp2_with fail
        go_ret
        exact ⟨rfl, Q.refl _⟩
      · have e1 : ((xi : Int) == (i : Int)) = false := beq_eq_false_iff_ne.2 (by omega)
        have hnx := HNX.out he
        have HNX2 := Lib.hid hnx
        clear hnx
        go_wp2_with fail
        go_round
        case rel => exact ⟨k + 1, by go_num, by omega, HNX2⟩
        case measure => simp [intOf]; omega
    · have hki : ¬ (k : Int) < (σ.tx.length : Int) := by omega
      have hres := HM.out (fun j hj => HN.out j hj (by omega))
      subst hres
      go_wp2_with fail
      refine HRD.out.mono ?_
      rintro e w1 ⟨rfl, q1⟩
      have HQ1 := Lib.hid q1
      clear q1
      go_wp2_with fail
      go_ret
      exact ⟨rfl, HQ1.out⟩
def StL.bitsK (σ : StL) (k : Nat) : Bytes := ((List.range k).map fun i => σ.get (63 + i)).flatten
theorem bitsK_succ (σ : StL) (k : Nat) : σ.bitsK (k + 1) = σ.bitsK k ++ σ.get (63 + k) := by
  unfold StL.bitsK; rw [List.range_succ, List.map_append, List.flatten_append]; simp
theorem StInv.bitsK {K : Nat} {σ : StL} {fr : List (List WrL)} {C : Nat → Bytes} (h : StInv K σ fr C) : σ.bitsK (partsN σ.n) = σ.map1 := by
  have hf := firstD_lt σ.n h.big h.max
  rw [h.now]
  unfold StL.bitsK mapC
  congr 1
  exact List.map_congr_left (fun i hi => h.get _ (by omega) (by have := List.mem_range.1 hi; unfold firstD at hf; omega))
theorem RBits7_any (h : RStG w FJ sb b p tv σ) (hb : 128 ≤ σ.n) (hn : σ.n ≤ 4096) (hd : σ.dead = false) (hp : σ.j.d.p.length ≤ 1000000) (hr : Rise σ.tx) (hl : σ.tx.length ≤ 1000) (hg : ∀ i, i < σ.n → (σ.get i).length = 256) :
    Calls Tryz.prog 77 #[ptrV sb] w fun e w' => e = .returned (strV (σ.bitsK (partsN σ.n))) ∧ Q w w' := by
  have hpn : 63 + partsN σ.n < σ.n ∧ partsN σ.n ≤ 2 := by have := firstD_lt σ.n hb hn; unfold firstD at this; omega
  have hda := fun (W : World) (q : Q w W) (i : Nat) (hi : i < σ.n) => RData7_any (h.keep q) hn hd hp hr hl i hi
  have hbl := fun (W : World) (q : Q w W) => RBlocks7_any (h.keep q)
  have hpa := fun (W : World) => RParts_any σ.n W (by omega)
  have hsu := bitsK_succ σ
  have hle : ∀ k, k ≤ 2 → (σ.bitsK k).length = 256 * k := fun k hk => by
    match k, hk with
    | 0, _ => rfl
    | 1, _ => rw [hsu, List.length_append, hg _ (by omega)]; rfl
    | 2, _ => rw [hsu, hsu, List.length_append, List.length_append, hg _ (by omega), hg _ (by omega)]; rfl
  have HDA := Lib.hid hda; have HBL := Lib.hid hbl; have HPA := Lib.hid hpa; have HSU := Lib.hid hsu; have HLE := Lib.hid hle; have HG := Lib.hid hg
  have HPN := Lib.hid hpn.1
  have hpn2 := hpn.2
  clear hda hbl hpa hsu hle hg hpn h hd hp hr hl
  generalize partsN σ.n = pn at *
  go_enter Tryz.func77, Tryz.ntmps77
  go_wp2_with fail
  go_loopw [3, 4] (fun t i wr => ∃ k : Nat, i = .int .i64 (k : Nat) ∧ k ≤ pn ∧ t = strV (σ.bitsK k) ∧ Hid (Q w wr)) (fun _ i _ => pn - (intOf i).toNat)
  case atStart => exact ⟨0, rfl, Nat.zero_le _, rfl, Lib.hid (Q.refl _)⟩
  case round =>
    obtain ⟨k, rfl, hk, rfl, HQ⟩ := hrel
    have hln := HLE.out k (by omega)
    have hst := HSU.out k
    by_cases hlt : k < pn
    · have hki : (k : Int) < (pn : Int) := by omega
      have hdk := fun (W : World) (q : Q w W) => HDA.out W q (63 + k) (by have := HPN.out; omega)
      have hgl := HG.out (63 + k) (by have := HPN.out; omega)
      have HDK := Lib.hid hdk; have HST := Lib.hid hst
      clear hdk hst
      generalize σ.get (63 + k) = gk at *
      generalize σ.bitsK k = bk at *
      go_wp2_with fail
      refine (HBL.out _ HQ.out).mono ?_
      rintro e w1 ⟨rfl, rfl⟩
      go_wp2_with fail
      refine (HPA.out _).mono ?_
      rintro e w1 ⟨rfl, rfl⟩
      go_wp2_with fail
      refine (HDK.out _ HQ.out).mono ?_
      rintro e w2 ⟨rfl, q2⟩
      have HQ2 := Lib.hid (HQ.out.trans q2)
      clear q2
      go_wp2_with fail
      rw [bytes_append]
      go_roundw
      case rel => exact ⟨k + 1, by go_num, by omega, by rw [HST.out], HQ2⟩
      case measure => simp [intOf]; omega
    · have hki : ¬ (k : Int) < (pn : Int) := by omega
      obtain rfl : k = pn := by omega
      clear hst
      go_wp2_with fail
      refine (HBL.out _ HQ.out).mono ?_
      rintro e w1 ⟨rfl, rfl⟩
      go_wp2_with fail
      refine (HPA.out _).mono ?_
      rintro e w1 ⟨rfl, rfl⟩
      go_wp2_with fail
      go_ret
      exact ⟨rfl, HQ.out⟩
end
end
end Go.Proofs.YtnmijegmbomfdaaGreatDoor
