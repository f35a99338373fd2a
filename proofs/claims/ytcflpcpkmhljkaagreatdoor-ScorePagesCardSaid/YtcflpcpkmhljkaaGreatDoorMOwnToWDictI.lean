/- Joined texts of one proof: Own, WDictB, WDictI. -/
import Derived.Test.YtcflpcpkmhljkaaGreatDoorMKitToSegSpec
import Derived.Test.YtcflpcpkmhljkaaGreatDoorMWire2ToMem3
import Derived.Test.YtcflpcpkmhljkaaGreatDoorMWDictNToWDictE
import Derived.Test.YtcflpcpkmhljkaaGreatDoorMTokToWDictR
import Derived.Handy
import Derived.Deep.DeepMust
set_option linter.unusedSimpArgs false
set_option linter.unusedVariables false
set_option linter.unnecessarySimpa false
/- (Own) Rows that a call owns: two laws. Over any program. -/
section
namespace Go.Proofs.YtcflpcpkmhljkaaGreatDoor
open Go.RowKit

theorem owns_low {w : World} {base base' : Nat} {e : TypeId} {size : Nat} {v : Value} {n : Nat} {xs : List Value} (h : w.ownsRow base e size v n xs) (hb : base' ≤ base) : w.ownsRow base' e size v n xs := by
  obtain ⟨h1, h2⟩ := h
  refine ⟨h1, ?_⟩
  rcases h2 with h2 | ⟨g, cap, cur, rfl, hb2, hg, rest⟩
  · exact .inl h2
  · exact .inr ⟨g, cap, cur, rfl, Nat.le_trans hb hb2, hg, rest⟩
theorem owns_kind {w : World} {base : Nat} {e : TypeId} {size : Nat} {v : Value} {n : Nat} {xs : List Value} (h : w.ownsRow base e size v n xs) : ∀ g, v.ownBlock = some g → ∃ cs, w.heap[g]? = some (.cells cs e (0, 0)) := by
  intro g hg
  rcases h.2 with ⟨rfl, _⟩ | ⟨g', cap, cur, rfl, _, hgg, _⟩
  · simp [Value.ownBlock] at hg
  · simp only [Value.ownBlock, Option.some.injEq] at hg
    subst hg
    exact ⟨_, hgg⟩
theorem rows_apart {w : World} {base base' : Nat} {e e' : TypeId} {size size' : Nat} {v v' : Value} {n n' : Nat} {xs xs' : List Value} (h : w.ownsRow base e size v n xs) (h' : w.ownsRow base' e' size' v' n' xs') (hne : e ≠ e') {g : Nat} (hg : v'.ownBlock = some g) : v.ownBlock ≠ some g := by
  intro hb
  obtain ⟨cs, hc⟩ := owns_kind h g hb
  obtain ⟨cs', hc'⟩ := owns_kind h' g hg
  rw [hc] at hc'
  injection hc' with hc'
  injection hc' with _ hc' _
  exact hne hc'
/-- a row of another type is as it was where a row grows -/
theorem row_beside {w w' : World} {base base' : Nat} {e e' : TypeId} {size size' : Nat} {v v' : Value} {n n' : Nat} {xs xs' : List Value} (h : w.ownsRow base e size v n xs) (h' : w.ownsRow base' e' size' v' n' xs') (hg : w.grownBy w' v'.ownBlock) (hne : e ≠ e') : w'.ownsRow base e size v n xs := by
  refine h.kept hg ?_
  cases hv : v'.ownBlock with
  | none => cases hb : v.ownBlock with
    | none => exact .inl rfl
    | some g => exact .inr (by simp)
  | some g => exact .inr (rows_apart h h' hne hv)
/-- a block of cells of another type is as it was where a row grows -/
theorem blk_beside {w w' : World} {base : Nat} {e : TypeId} {size : Nat} {v : Value} {n : Nat} {xs : List Value} {k : Nat} {t : TypeId} {cs : Array Value} (h : Blk w k t cs) (h' : w.ownsRow base e size v n xs) (hg : w.grownBy w' v.ownBlock) (hne : t ≠ e) : Blk w' k t cs := by
  refine (hg.block k h.lt (fun e' => ?_)).trans h
  obtain ⟨cs, hc⟩ := owns_kind h' k e'.symm
  rw [show _ = _ from h] at hc
  injection hc with h3
  injection h3 with _ h3 _
  exact hne h3
theorem add_off (b off j : Nat) : (⟨b, off, none⟩ : Addr).add j = ⟨b, off + j, none⟩ := by unfold Addr.add; split <;> simp_all
end Go.Proofs.YtcflpcpkmhljkaaGreatDoor
end

/- (WDictB) dict's part.entries: walked, at what is there. -/
section
namespace Go.Proofs.YtcflpcpkmhljkaaGreatDoor
open Go.RowKit
set_option linter.unusedVariables false

theorem tinfoE : (Tryz.prog.info? 240).map (fun i => (i.zero, i.size, i.bytes)) = some (some (.agg #[strV [], strV []]), 2, 32) := by kernel_rfl
set_option maxRecDepth 100000 in
set_option maxHeartbeats 2000000 in
theorem DEntries_ok (f : Bytes) (g : List EntryL) (w : World) (hn : g.length ≤ 1000000) (hl : ∀ e ∈ g, e.1.length ≤ 1000000 ∧ e.2.length ≤ 1000000000) (hb : (blockE [] g).length ≤ 9223372036854775807) :
    Calls Tryz.prog 187 #[.agg #[strV f, strV (blockE [] g), .int .i64 g.length]] w fun e w' => ∃ v, e = .returned (.agg #[v, strV [], .bool true]) ∧ w'.ownsRow w.heap.size 240 2 v g.length (pairVs g) ∧ Q w w' := by
  obtain ⟨i0, hi, hz0, hz1, hz2⟩ := info_parts tinfoE
  have HL := Lib.hid hl
  clear hl
  obtain ⟨bs, hbs⟩ : ∃ bs, bs = blockE [] g := ⟨_, rfl⟩
  rw [← hbs] at hb ⊢
  have HBS := Lib.hid hbs
  clear hbs
  go_enter Tryz.func187, Tryz.ntmps187
  go_wp2_with fail
  have hr0 := (Blk.new (w.alloc (.cells #[strV f, strV bs, .int .i64 g.length] 272)) 275 #[.slice none 0 0, .string ⟨#[]⟩, .bool false])
  rw [World.size_alloc] at hr0
  have hq0 := (Q.alloc w (.cells #[strV f, strV bs, .int .i64 g.length] 272)).trans (Q.alloc _ (.cells #[.slice none 0 0, .string ⟨#[]⟩, .bool false] 275))
  have hsz0 : ((w.alloc (.cells #[strV f, strV bs, .int .i64 g.length] 272)).alloc (.cells #[.slice none 0 0, .string ⟨#[]⟩, .bool false] 275)).heap.size = w.heap.size + 2 := by simp
  generalize (w.alloc (.cells #[strV f, strV bs, .int .i64 g.length] 272)).alloc (.cells #[.slice none 0 0, .string ⟨#[]⟩, .bool false] 275) = W0 at *
  have HR0 := Lib.hid hr0; have HQ0 := Lib.hid hq0
  clear hr0 hq0
  go_loopw [3, 4, 5, 11] (fun lv sv la i wr => ∃ (k : Nat) (last r : Bytes), k ≤ g.length ∧ i = .int .i64 k ∧ sv = strV r ∧ la = strV last ∧ Hid (r = blockE last (g.drop k)) ∧ last.length ≤ 1000000 ∧ r.length ≤ 9223372036854775807 ∧
    Hid (wr.ownsRow (w.heap.size + 2) 240 2 lv k (pairVs (g.take k))) ∧ Hid (Blk wr (w.heap.size + 1) 275 #[.slice none 0 0, .string ⟨#[]⟩, .bool false]) ∧ Hid (Q w wr) ∧ w.heap.size + 2 ≤ wr.heap.size) (fun _ _ _ i _ => g.length - (intOf i).toNat)
  case atStart => exact ⟨0, [], bs, by omega, rfl, rfl, rfl, HBS.out, by simp, hb, Lib.hid (by simpa using World.ownsRow_nil _ _ _ _), HR0.out, HQ0.out, by omega⟩
  case round =>
    obtain ⟨k, last, r, hk, rfl, rfl, rfl, HR, hll, hrl, HO, HB, HQ, hsz⟩ := hrel
    obtain ⟨wo, rfl⟩ : ∃ wo : World, wo = wr := ⟨_, rfl⟩
    by_cases hlt : k < g.length
    · have hstep : r = varE (alikeN last g[k].1) ++ (textE (g[k].1.drop (alikeN last g[k].1)) ++ (textE g[k].2 ++ blockE g[k].1 (g.drop (k + 1)))) := by
        rw [HR.out, List.drop_eq_getElem_cons hlt, blockE]
      have hlg := HL.out _ (List.getElem_mem hlt)
      have hpv : pairVs (g.take (k + 1)) = pairVs (g.take k) ++ [strV g[k].1, strV g[k].2] := by
        rw [List.take_succ_eq_append_getElem hlt]; exact pairVs_append _ _
      generalize g[k] = e at *
      obtain ⟨t, x⟩ := e
      simp only at hstep hlg hpv
      have hrest : (blockE t (g.drop (k + 1))).length ≤ 9223372036854775807 := by
        have := congrArg List.length hstep
        simp only [List.length_append] at this
        omega
      obtain ⟨r2, hr2⟩ : ∃ r2, r2 = blockE t (g.drop (k + 1)) := ⟨_, rfl⟩
      rw [← hr2] at hstep hrest
      have c := fun w => DEntry_ok r last (t, x) r2 w hrl hll hlg hstep
      have C := Lib.hid c; have HR2 := Lib.hid hr2; have HPV := Lib.hid hpv
      clear c hr2 hstep hpv
      go_wp2_with fail
      refine (C.out _).mono ?_
      rintro e w1 ⟨rfl, q1⟩
      have ho1 := ownsRow_below HO.out q1
      have hb1 := HB.out.stays q1
      have hq1 := HQ.out.trans q1
      have hs1 := q1.size
      have HO1 := Lib.hid ho1; have HB1 := Lib.hid hb1; have HQ1 := Lib.hid hq1
      clear ho1 hb1 hq1 q1
      have hown := HO1.out.alloc (.cells #[strV t, strV x, strV r2, .bool true] 301)
      have hbz : w.heap.size + 2 ≤ (w1.alloc (.cells #[strV t, strV x, strV r2, .bool true] 301)).heap.size := by simp; omega
      go_wp2_with (at_builtin; go_must (refine wpList_app (w1.alloc (.cells #[strV t, strV x, strV r2, .bool true] 301)) (by rfl) _ _ 238 (by rfl) (w.heap.size + 2) 240 _ i0 (.agg #[strV [], strV []]) 2 32 Tryz.underlying238 hi hz0 hz1 hz2 rfl (by decide) (by decide) _ _ _ (by rfl) hown #[strV t, strV x] (by simp [Act.eval]) rfl ?c1 ?c2 hbz ?_))
      case c1 => simp [Value.oneCell']
      case c2 => omega
      intro gg cap w4 hown1 hg1 hat hlt1 hsz1
      have hv1 := (Blk.new w1 301 #[strV t, strV x, strV r2, .bool true])
      have hne : ∀ {kk : Nat} {tt : TypeId} {cc : Array Value}, Blk (w1.alloc (.cells #[strV t, strV x, strV r2, .bool true] 301)) kk tt cc → tt ≠ 240 → Blk w4 kk tt cc := fun {kk tt cc} hb1 h1 => by
        refine (hg1.block kk hb1.lt (fun e => ?_)).trans hb1
        obtain ⟨cs, hc⟩ := owns_kind hown kk e.symm
        rw [show _ = _ from hb1] at hc
        injection hc with h3
        injection h3 with _ h3 _
        exact h1 h3
      have b4 := hne (HB1.out.alloc _) (by decide)
      have v4 := hne hv1 (by decide)
      have q4 : Q w w4 := grown_below (HQ1.out.trans (Q.alloc _ _)) hown hg1 (by omega) (by simp; omega)
      rw [show pairVs (g.take k) ++ (#[strV t, strV x] : Array Value).toList = pairVs (g.take (k + 1)) from HPV.out.symm] at hown1
      have HO4 := Lib.hid hown1; have HB4 := Lib.hid b4; have HQ4 := Lib.hid q4
      obtain ⟨c0, c1, c2, c3, _⟩ := v4.c4
      have hs4 : w.heap.size + 2 ≤ w4.heap.size := Nat.le_trans hbz hg1.size
      clear hown hown1 hg1 hat hv1 b4 v4 q4 hne HO1 HB1 HQ1 HO HB HQ
      go_wp2_with fail
      go_quiet (fail)
      go_wp2_with fail
      go_roundw
      case rel => exact ⟨k + 1, t, r2, by omega, by go_num, rfl, rfl, HR2.out, hlg.1, hrest, ownsRow_below HO4.out (Q.drewN _ _), HB4.out.stays (Q.drewN _ _), HQ4.out.trans (Q.drewN _ _), hs4⟩
      case measure => simp [intOf]; omega
    · have hkk : k = g.length := by omega
      have hr : r = [] := by rw [HR.out, List.drop_eq_nil_of_le (by omega)]; rfl
      subst hkk; subst hr
      have ho := HO.out
      rw [List.take_length] at ho
      have HOF := Lib.hid ho
      clear ho HR
      obtain ⟨a, cap, rfl, _⟩ := owns_value HOF.out
      obtain ⟨c0, c1, c2, f0, f1, f2⟩ := HB.out.c3
      go_wp2_with fail
      obtain ⟨s0, s1, s2⟩ := HB.out.s3
      refine bodyPost_ret (v := .agg #[.slice a g.length cap, strV [], .bool true]) ?_ rfl ?_
      · simp [results, Tryz.results187, go_sem, s0, s1, s2]
      refine ⟨_, rfl, ?_, ((HQ.out.setCell (by simp) _).setCell (by simp) _).setCell (by simp) _⟩
      exact owns_low (ownsRow_setCell_below (ownsRow_setCell_below (ownsRow_setCell_below HOF.out (by simp) _) (by simp) _) (by simp) _) (by omega)
end Go.Proofs.YtcflpcpkmhljkaaGreatDoor
end

/- (WDictI) dict.parts: walked, at a dictionary's bytes. -/
section
namespace Go.Proofs.YtcflpcpkmhljkaaGreatDoor
open Go.RowKit
set_option linter.unusedVariables false
theorem tinfoP : (Tryz.prog.info? 272).map (fun i => (i.zero, i.size, i.bytes)) = some (some (.agg #[strV [], strV [], .int .i64 0]), 3, 40) := by kernel_rfl
theorem tinfoI : (Tryz.prog.info? 3).map (fun i => (i.zero, i.size, i.bytes)) = some (some (.int .i64 0), 1, 8) := by kernel_rfl

def dpartVs (ps : List PartD) : List Value := ps.flatMap fun p => [strV p.1, strV p.2.1, .int .i64 p.2.2]
def part0s (ps : List PartD) : List Value := ps.flatMap fun p => [strV p.1, strV [], .int .i64 p.2.2]
def sizeVs (ps : List PartD) : List Value := ps.map fun p => .int .i64 (p.2.1.length : Nat)
set_option maxRecDepth 100000 in
set_option maxHeartbeats 2000000 in
theorem DParts_ok (l : List EntryL) (w : World) (hn : l.length ≤ 1048576) (hps : ∀ p ∈ partsD l, p.1.length ≤ 1000000 ∧ p.2.1.length ≤ 1073741824) (hb : (dictE l).length ≤ 9223372036854775807) :
    Calls Tryz.prog 214 #[.string ⟨(dictE l).toArray⟩] w fun e w' => ∃ v, e = .returned (.agg #[v, strV [], .bool true]) ∧ w'.ownsRow w.heap.size 272 3 v (partsD l).length (dpartVs (partsD l)) ∧ Q w w' := by
  obtain ⟨ip, hip, hpz0, hpz1, hpz2⟩ := info_parts tinfoP
  obtain ⟨ii, hii, hiz0, hiz1, hiz2⟩ := info_parts tinfoI
  have c := fun w => DNumber_ok (dictE l) l.length (idxD (partsD l) ++ allD (partsD l)) 1048576 w hb ⟨by omega, dictE_parts l⟩ hn (by omega)
  have hpl := partsD_length l
  have hpg := partsD_get l
  have hlen : (idxD (partsD l) ++ allD (partsD l)).length ≤ 9223372036854775807 := by
    have := congrArg List.length (dictE_parts l)
    rw [List.length_append] at this
    omega
  generalize partsD l = ps at *
  generalize dictE l = bs at *
  obtain ⟨rs, hrs⟩ : ∃ rs, rs = idxD ps ++ allD ps := ⟨_, rfl⟩
  rw [← hrs] at c hlen
  have C := Lib.hid c; have HPG := Lib.hid hpg; have HPS := Lib.hid hps; have HRS := Lib.hid hrs
  clear c hpg hps hrs
  go_enter Tryz.func214, Tryz.ntmps214
  go_wp2_with fail
  refine (C.out _).mono ?_
  rintro e w1 ⟨rfl, q1⟩
  have b1 := ((Blk.new w _ _).stays q1).alloc (.cells #[.int .i64 l.length, .string ⟨rs.toArray⟩, .bool true] 307)
  have n1 := Blk.new w1 307 #[.int .i64 l.length, .string ⟨rs.toArray⟩, .bool true]
  have q1' := ((Q.alloc w _).trans q1).trans (Q.alloc w1 (.cells #[.int .i64 l.length, .string ⟨rs.toArray⟩, .bool true] 307))
  have hB : w.heap.size < w1.heap.size := by have := q1.size; simp at this; omega
  have hsz0 : (w1.alloc (.cells #[.int .i64 l.length, .string ⟨rs.toArray⟩, .bool true] 307)).heap.size = w1.heap.size + 1 := by simp
  have HBB := Lib.hid b1; have HNN := Lib.hid n1; have HQQ := Lib.hid q1'
  clear b1 n1 q1 q1'
  go_wp2_with fail
  generalize w1.alloc (.cells #[.int .i64 l.length, .string ⟨rs.toArray⟩, .bool true] 307) = W0 at *
  generalize w1.heap.size = N at *
  clear C w1
  go_loopw [0, 4, 5, 6] (fun sv lv zv i wr => ∃ (m : Nat) (r : Bytes), m ≤ ps.length ∧ i = .int .i64 (16 * m : Nat) ∧ sv = .string ⟨r.toArray⟩ ∧ Hid (r = idxD (ps.drop m) ++ allD ps) ∧ r.length ≤ 9223372036854775807 ∧
    Hid (wr.ownsRow (N + 1) 272 3 lv m (part0s (ps.take m))) ∧ Hid (wr.ownsRow (N + 1) 3 1 zv m (sizeVs (ps.take m))) ∧ Hid (Blk wr w.heap.size 298 #[.slice none 0 0, .string ⟨#[]⟩, .bool false]) ∧
    Hid (Blk wr N 307 #[.int .i64 l.length, .string ⟨rs.toArray⟩, .bool true]) ∧ Hid (Q w wr) ∧ N + 1 ≤ wr.heap.size) (fun _ _ _ i _ => l.length + 16 - (intOf i).toNat)
  case atStart => exact ⟨0, rs, by omega, rfl, rfl, HRS.out, hlen, Lib.hid (by simpa [part0s] using World.ownsRow_nil _ _ _ _), Lib.hid (by simpa [sizeVs] using World.ownsRow_nil _ _ _ _), HBB.out, HNN.out, HQQ.out, by omega⟩
  case round =>
    obtain ⟨m, r, hm, rfl, rfl, HR, hrl, HO, HZ, HB, HN, HQ, hsz⟩ := hrel
    obtain ⟨wo, rfl⟩ : ∃ wo : World, wo = wr := ⟨_, rfl⟩
    obtain ⟨nc0, nc1, nc2, _⟩ := HN.out.c3
    by_cases hlt : m < ps.length
    · have hstep : r = textE ps[m].1 ++ (varE ps[m].2.1.length ++ (idxD (ps.drop (m + 1)) ++ allD ps)) := by
        rw [HR.out, List.drop_eq_getElem_cons hlt]
        simp only [idxD, List.flatMap_cons, List.append_assoc]
      have hlp := HPS.out _ (List.getElem_mem hlt)
      have hpm : ps[m] = partD ((l.drop (16 * m)).take 16) ∧ 16 * m < l.length := by
        have h1 := HPG.out m
        rw [List.getElem?_eq_getElem hlt] at h1
        split at h1
        · exact ⟨Option.some.inj h1, by assumption⟩
        · cases h1
      have hmany : (ps[m].2.2 : Int) = min 16 ((l.length : Int) - (16 * m : Nat)) := by
        rw [hpm.1]
        simp only [partD, List.length_take, List.length_drop]
        omega
      have hp0 : part0s (ps.take (m + 1)) = part0s (ps.take m) ++ [strV ps[m].1, strV [], .int .i64 ps[m].2.2] := by
        rw [List.take_succ_eq_append_getElem hlt]; unfold part0s; rw [List.flatMap_append]; rfl
      have hz0 : sizeVs (ps.take (m + 1)) = sizeVs (ps.take m) ++ [.int .i64 (ps[m].2.1.length : Nat)] := by
        unfold sizeVs; rw [List.take_succ_eq_append_getElem hlt, List.map_append]; rfl
      have hlt2 := hpm.2
      clear hpm
      generalize ps[m] = p at *
      obtain ⟨t, x, k⟩ := p
      simp only at hstep hlp hmany hp0 hz0
      generalize hxl : x.length = xl at *
      obtain ⟨r1, hr1⟩ : ∃ r1, r1 = varE xl ++ (idxD (ps.drop (m + 1)) ++ allD ps) := ⟨_, rfl⟩
      obtain ⟨r2, hr2⟩ : ∃ r2, r2 = idxD (ps.drop (m + 1)) ++ allD ps := ⟨_, rfl⟩
      rw [← hr1] at hstep
      rw [← hr2] at hr1
      have hrl1 : r1.length ≤ 9223372036854775807 := by have := congrArg List.length hstep; rw [List.length_append] at this; omega
      have hrl2 : r2.length ≤ 9223372036854775807 := by have := congrArg List.length hr1; rw [List.length_append] at this; omega
      have c := fun w => DText_ok r t r1 w hrl ⟨by omega, hstep⟩
      have c2 := fun w => DNumber_ok r1 xl r2 1073741824 w hrl1 ⟨by omega, hr1⟩ hlp.2 (by omega)
      have C := Lib.hid c; have C2 := Lib.hid c2; have HR2 := Lib.hid hr2; have HP0 := Lib.hid hp0; have HZ0 := Lib.hid hz0
      clear c c2 hr1 hr2 hstep hp0 hz0 hxl
      go_wp2_with fail
      refine (C.out _).mono ?_
      rintro e w1 ⟨rfl, q1⟩
      have t1 := Blk.new w1 310 #[strV t, strV r1, .bool true]
      have ho1 := (ownsRow_below HO.out q1).alloc (.cells #[strV t, strV r1, .bool true] 310)
      have hz1 := (ownsRow_below HZ.out q1).alloc (.cells #[strV t, strV r1, .bool true] 310)
      have hb1 := (HB.out.stays q1).alloc (.cells #[strV t, strV r1, .bool true] 310)
      have hn1 := (HN.out.stays q1).alloc (.cells #[strV t, strV r1, .bool true] 310)
      have hq1 := (HQ.out.trans q1).trans (Q.alloc w1 (.cells #[strV t, strV r1, .bool true] 310))
      have hs1 := q1.size
      obtain ⟨tc0, tc1, tc2, _⟩ := t1.c3
      have HT1 := Lib.hid t1; have HO1 := Lib.hid ho1; have HZ1 := Lib.hid hz1; have HB1 := Lib.hid hb1; have HN1 := Lib.hid hn1; have HQ1 := Lib.hid hq1
      clear t1 ho1 hz1 hb1 hn1 hq1 q1 HO HZ HB HN HQ
      go_wp2_with fail
      refine (C2.out _).mono ?_
      rintro e w2 ⟨rfl, q2⟩
      have z2 := Blk.new w2 307 #[.int .i64 xl, strV r2, .bool true]
      have t2 := (HT1.out.stays q2).alloc (.cells #[.int .i64 xl, strV r2, .bool true] 307)
      have ho2 := (ownsRow_below HO1.out q2).alloc (.cells #[.int .i64 xl, strV r2, .bool true] 307)
      have hz2 := (ownsRow_below HZ1.out q2).alloc (.cells #[.int .i64 xl, strV r2, .bool true] 307)
      have hb2 := (HB1.out.stays q2).alloc (.cells #[.int .i64 xl, strV r2, .bool true] 307)
      have hn2 := (HN1.out.stays q2).alloc (.cells #[.int .i64 xl, strV r2, .bool true] 307)
      have hq2 := (HQ1.out.trans q2).trans (Q.alloc w2 (.cells #[.int .i64 xl, strV r2, .bool true] 307))
      have hs2 := q2.size
      have hs3 : N + 1 ≤ (w2.alloc (.cells #[.int .i64 xl, strV r2, .bool true] 307)).heap.size := by simp at hs2 ⊢; omega
      obtain ⟨tc0, tc1, tc2, _⟩ := t2.c3
      obtain ⟨zc0, zc1, zc2, _⟩ := z2.c3
      obtain ⟨nc0, nc1, nc2, _⟩ := hn2.c3
      have HT2 := Lib.hid t2; have HZB := Lib.hid z2; have HO2 := Lib.hid ho2; have HZ2 := Lib.hid hz2; have HB2 := Lib.hid hb2; have HN2 := Lib.hid hn2; have HQ2 := Lib.hid hq2
      clear t2 z2 ho2 hz2 hb2 hn2 hq2 q2 HO1 HZ1 HB1 HN1 HQ1
      have hkk : ((k : Int) = 16 ∧ ¬ ((l.length : Int) - 16 * (m : Int) < 16)) ∨ ((k : Int) = (l.length : Int) - 16 * (m : Int) ∧ (l.length : Int) - 16 * (m : Int) < 16) := by omega
      rcases hkk with ⟨hk1, hk2⟩ | ⟨hk1, hk2⟩
      all_goals
        have HK1 := Lib.hid hk1
        clear hk1 hmany
        have hown := HO2.out
        go_wp2_with (at_builtin; refine wpList_app (w2.alloc (.cells #[.int .i64 xl, strV r2, .bool true] 307)) (by rfl) _ _ 269 (by rfl) (N + 1) 272 _ ip (.agg #[strV [], strV [], .int .i64 0]) 3 40 Tryz.underlying269 hip hpz0 hpz1 hpz2 rfl (by decide) (by decide) _ _ _ (by rfl) hown #[strV t, strV [], .int .i64 _] (by simp [Act.eval]) rfl ?c1 ?c2 hs3 ?_)
        case c1 => simp [Value.oneCell']
        case c2 => omega
        intro gg cap w4 hown1 hg1 hat hlt1 hsz1
        have hz4 := row_beside HZ2.out hown hg1 (by decide)
        have t4 := blk_beside HT2.out hown hg1 (by decide)
        have z4 := blk_beside HZB.out hown hg1 (by decide)
        have b4 := blk_beside HB2.out hown hg1 (by decide)
        have n4 := blk_beside HN2.out hown hg1 (by decide)
        have q4 : Q w w4 := grown_below HQ2.out hown hg1 (by omega) (by omega)
        have hs4 : N + 1 ≤ w4.heap.size := Nat.le_trans hs3 hg1.size
        have he : part0s (ps.take m) ++ (#[strV t, .string ⟨#[]⟩, .int .i64 k] : Array Value).toList = part0s (ps.take (m + 1)) := HP0.out.symm
        obtain ⟨tc0, tc1, tc2, _⟩ := t4.c3
        obtain ⟨zc0, zc1, zc2, _⟩ := z4.c3
        have ho4 : w4.ownsRow (N + 1) 272 3 (.slice (some ⟨gg, 0, none⟩) (m + 1) cap) (m + 1) (part0s (ps.take (m + 1))) := by rw [← he, HK1.out]; exact hown1
        have hzz := hz4
        have HO4 := Lib.hid ho4; have HB4 := Lib.hid b4; have HN4 := Lib.hid n4; have HQ4 := Lib.hid q4
        clear hown hown1 hat t4 z4 b4 n4 q4 he ho4 HO2 HZ2 HT2 HZB HB2 HN2 HQ2 hg1
        go_wp2_with (at_builtin; refine wpList_app w4 (by rfl) _ _ 209 (by rfl) (N + 1) 3 _ ii (.int .i64 0) 1 8 Tryz.underlying209 hii hiz0 hiz1 hiz2 rfl (by decide) (by decide) _ _ _ (by rfl) hzz #[.int .i64 xl] (by simp [Act.eval]) rfl ?c1 ?c2 hs4 ?_)
        case c1 => simp [Value.oneCell']
        case c2 => omega
        intro g5 cap5 w5 hown5 hg5 hat5 hlt5 hsz5
        have o5 := row_beside HO4.out hz4 hg5 (by decide)
        have b5 := blk_beside HB4.out hz4 hg5 (by decide)
        have n5 := blk_beside HN4.out hz4 hg5 (by decide)
        have q5 : Q w w5 := grown_below HQ4.out hz4 hg5 (by omega) (by omega)
        have he : sizeVs (ps.take m) ++ (#[.int .i64 xl] : Array Value).toList = sizeVs (ps.take (m + 1)) := HZ0.out.symm
        rw [he] at hown5
        have hs5 : N + 1 ≤ w5.heap.size := Nat.le_trans hs4 hg5.size
        have HO5 := Lib.hid o5; have HB5 := Lib.hid b5; have HN5 := Lib.hid n5; have HQ5 := Lib.hid q5; have HZ5 := Lib.hid hown5
        clear o5 b5 n5 q5 he hown5 hg5 hat5 hz4 hzz HO4 HB4 HN4 HQ4
        go_wp2_with fail
        go_roundw
        case rel => exact ⟨m + 1, r2, by omega, by go_num, rfl, HR2.out, hrl2, HO5, HZ5, HB5, HN5, HQ5, hs5⟩
        case measure => simp [intOf]; omega
    · have hmm : m = ps.length := by omega
      subst hmm
      have hnl : ¬ 16 * ps.length < l.length := by omega
      have hr : r = allD ps := by rw [HR.out, List.drop_eq_nil_of_le (by omega)]; rfl
      have ho := HO.out
      have hz := HZ.out
      rw [List.take_length] at ho hz
      have HRA := Lib.hid hr; have HOP := Lib.hid ho; have HZP := Lib.hid hz
      obtain ⟨zb, zcap, hzv, hzs⟩ := owns_value hz
      obtain ⟨lb, lcap, hlv, hls⟩ := owns_value ho
      subst hzv; subst hlv
      clear hr ho hz HR HO HZ
      go_wp2_with fail
      have hrow0 : wo.ownsRow (N + 1) 272 3 (.slice lb ps.length lcap) ps.length (dpartVs (ps.take 0) ++ part0s (ps.drop 0)) := by simpa [dpartVs] using HOP.out
      have HROW0 := Lib.hid hrow0
      clear hrow0 HOP
      go_loopw [0, 55] (fun sv i wr => ∃ (k : Nat) (r' : Bytes), k ≤ ps.length ∧ i = .int .i64 k ∧ sv = .string ⟨r'.toArray⟩ ∧ Hid (r' = allD (ps.drop k)) ∧ r'.length ≤ 9223372036854775807 ∧
        Hid (wr.ownsRow (N + 1) 272 3 (.slice lb ps.length lcap) ps.length (dpartVs (ps.take k) ++ part0s (ps.drop k))) ∧ Hid (wr.ownsRow (N + 1) 3 1 (.slice zb ps.length zcap) ps.length (sizeVs ps)) ∧
        Hid (Blk wr w.heap.size 298 #[.slice none 0 0, .string ⟨#[]⟩, .bool false]) ∧ Hid (Blk wr N 307 #[.int .i64 l.length, .string ⟨rs.toArray⟩, .bool true]) ∧ Hid (Q w wr) ∧ N + 1 ≤ wr.heap.size) (fun _ i _ => ps.length - (intOf i).toNat)
      case atStart => exact ⟨0, r, by omega, rfl, rfl, HRA.out, hrl, HROW0.out, HZP.out, HB.out, HN.out, HQ.out, hsz⟩
      case round =>
        obtain ⟨k, r', hk, rfl, rfl, HR, hrl', HO, HZ, HB, HN, HQ, hsz⟩ := hrel
        obtain ⟨wq, rfl⟩ : ∃ wq : World, wq = wr := ⟨_, rfl⟩
        by_cases hlt : k < ps.length
        · obtain ⟨g, rfl⟩ := hls (by omega)
          obtain ⟨gz, rfl⟩ := hzs (by omega)
          have hstep : r' = ps[k].2.1 ++ allD (ps.drop (k + 1)) := by
            rw [HR.out, List.drop_eq_getElem_cons hlt]
            simp only [allD, List.flatMap_cons]
          have hlp := HPS.out _ (List.getElem_mem hlt)
          have hz0 : (sizeVs ps)[k]? = some (.int .i64 (ps[k].2.1.length : Nat)) := by
            unfold sizeVs; rw [List.getElem?_map, List.getElem?_eq_getElem hlt]; rfl
          have hzc : wq.cell? ⟨gz, k, none⟩ = some (.int .i64 (ps[k].2.1.length : Nat)) := by
            rw [HZ.out.cellAt k (by omega)]; exact hz0
          have hset : (dpartVs (ps.take k) ++ part0s (ps.drop k)).set (k * 3 + 1) (strV ps[k].2.1) = dpartVs (ps.take (k + 1)) ++ part0s (ps.drop (k + 1)) := by
            have hl3 : (dpartVs (ps.take k)).length = k * 3 := by
              have : ∀ qs : List PartD, (dpartVs qs).length = qs.length * 3 := by
                intro qs
                induction qs with
                | nil => rfl
                | cons q qs ih => rw [show dpartVs (q :: qs) = [strV q.1, strV q.2.1, .int .i64 q.2.2] ++ dpartVs qs from rfl, List.length_append, ih]; simp; omega
              rw [this, List.length_take, Nat.min_eq_left (by omega)]
            have e1 : part0s (ps.drop k) = strV ps[k].1 :: strV [] :: .int .i64 ps[k].2.2 :: part0s (ps.drop (k + 1)) := by
              rw [List.drop_eq_getElem_cons hlt]; rfl
            have e2 : dpartVs (ps.take (k + 1)) = dpartVs (ps.take k) ++ [strV ps[k].1, strV ps[k].2.1, .int .i64 ps[k].2.2] := by
              rw [List.take_succ_eq_append_getElem hlt]; unfold dpartVs; rw [List.flatMap_append]; rfl
            rw [e1, e2, List.set_append_right _ _ (by omega), hl3, show k * 3 + 1 - k * 3 = 1 by omega]
            simp
          have hcl : k * 3 + 1 < ps.length * 3 := by omega
          have hpc : ∃ u, wq.cell? ⟨g, k * 3 + 1, none⟩ = some u := by
            rw [HO.out.cellAt _ hcl, List.getElem?_eq_getElem (by rw [HO.out.1]; exact hcl)]
            exact ⟨_, rfl⟩
          obtain ⟨u, hpc⟩ := hpc
          have hfz : wq.frozen? ⟨g, k * 3 + 1, none⟩ = false := HO.out.frozenAt _
          have hst := HO.out.stored (k * 3 + 1) (strV ps[k].2.1)
          rw [hset] at hst
          have HST := Lib.hid hst
          generalize ps[k].2.1 = x at *
          have hxr : r'.length = x.length + (allD (ps.drop (k + 1))).length := by rw [hstep, List.length_append]
          obtain ⟨r2, hr2⟩ : ∃ r2, r2 = allD (ps.drop (k + 1)) := ⟨_, rfl⟩
          rw [← hr2] at hstep hxr
          have hx1 : ({ data := r'.toArray } : ByteArray).extract 0 x.length = ⟨x.toArray⟩ := by rw [bytes_take, hstep, List.take_left]
          have hx2 : ({ data := r'.toArray } : ByteArray).extract x.length r'.length = ⟨r2.toArray⟩ := by rw [bytes_drop, hstep, List.drop_left]
          have HR2 := Lib.hid hr2
          clear hz0 hset hst hr2 hstep HR
          rw [hxr] at hx2
          go_wp2_with fail
          go_region
          have hs1 := HST.out
          have qd := Q.drew (wq.setCell ⟨g, k * 3 + 1, none⟩ (strV x))
          have o5 := ownsRow_below hs1.1 qd
          have z5 := ownsRow_below (row_beside HZ.out HO.out hs1.2 (by decide)) qd
          have b5 := (blk_beside HB.out HO.out hs1.2 (by decide)).stays qd
          have n5 := (blk_beside HN.out HO.out hs1.2 (by decide)).stays qd
          have q4 : Q w (wq.setCell ⟨g, k * 3 + 1, none⟩ (strV x)) := grown_below HQ.out HO.out hs1.2 (by omega) (by omega)
          have q5 := q4.trans qd
          have hs5 : N + 1 ≤ (wq.setCell ⟨g, k * 3 + 1, none⟩ (strV x)).drew.heap.size := by simp; omega
          have HO5 := Lib.hid o5; have HZ5 := Lib.hid z5; have HB5 := Lib.hid b5; have HN5 := Lib.hid n5; have HQ5 := Lib.hid q5
          clear hs1 qd o5 z5 b5 n5 q4 q5 HO HZ HB HN HQ
          go_wp2_with fail
          go_roundw
          case rel => exact ⟨k + 1, r2, by omega, by go_num, rfl, HR2.out, by omega, HO5, HZ5, HB5, HN5, HQ5, hs5⟩
          case measure => simp [intOf]; omega
        · have hkk : k = ps.length := by omega
          subst hkk
          have hr : r' = [] := by rw [HR.out, List.drop_eq_nil_of_le (by omega)]; rfl
          subst hr
          have ho := HO.out
          rw [List.take_length, List.drop_length, show part0s [] = [] from rfl, List.append_nil] at ho
          have HOF := Lib.hid ho
          obtain ⟨nc0, nc1, nc2, _⟩ := HN.out.c3
          obtain ⟨c0, c1, c2, f0, f1, f2⟩ := HB.out.c3
          have HBZ := HB
          clear ho HR HO HZ HN HB
          go_wp2_with fail
          obtain ⟨s0, s1, s2⟩ := HBZ.out.s3
          refine bodyPost_ret (v := .agg #[.slice lb ps.length lcap, strV [], .bool true]) ?_ rfl ?_
          · simp [results, Tryz.results214, go_sem, s0, s1, s2]; omega
          refine ⟨_, rfl, ?_, ((HQ.out.setCell (by simp) _).setCell (by simp) _).setCell (by simp) _⟩
          exact owns_low (ownsRow_setCell_below (ownsRow_setCell_below (ownsRow_setCell_below HOF.out (by simp; omega) _) (by simp; omega) _) (by simp; omega) _) (by omega)
end Go.Proofs.YtcflpcpkmhljkaaGreatDoor
end
