/- score.Page, codexref18.Page, slices.Clone at hits; codexlaw18.pick: walked. -/
import Derived.Test.YtcflpcpkmhljkaaGreatDoorMWSrRToShown18
import Derived.Test.YtcflpcpkmhljkaaGreatDoorMWSh18ToBitC
import Derived.OwnWalk
import Derived.WalkLawsBesides
import Derived.WalkSpells
set_option linter.unusedSimpArgs false
set_option linter.unusedVariables false
set_option linter.unnecessarySimpa false
namespace Go.Proofs.YtcflpcpkmhljkaaGreatDoor
open Go.RowKit
set_option linter.unusedVariables false

theorem hitIVs_one (l : List HitI) : ∀ u ∈ hitIVs l, u.oneCell' = true := by
  intro u hu
  obtain ⟨d, _, hd⟩ := List.mem_flatMap.1 hu
  simp at hd
  rcases hd with rfl | rfl <;> simp [Value.oneCell']
theorem hitIVs_cut (l : List HitI) (a b : Nat) : ((hitIVs l).take (b * 2)).drop (a * 2) = hitIVs ((l.take b).drop a) := by
  have ht : ∀ (l : List HitI) (b : Nat), (hitIVs l).take (b * 2) = hitIVs (l.take b) := by
    intro l
    induction l with
    | nil => intro b; simp [hitIVs]
    | cons x l ih =>
      intro b
      cases b with
      | zero => simp [hitIVs]
      | succ b => rw [hitIVs_cons, show (b + 1) * 2 = b * 2 + 1 + 1 by omega, List.take_succ_cons, List.take_succ_cons, ih, List.take_succ_cons, hitIVs_cons]
  have hd : ∀ (l : List HitI) (a : Nat), (hitIVs l).drop (a * 2) = hitIVs (l.drop a) := by
    intro l
    induction l with
    | nil => intro a; simp [hitIVs]
    | cons x l ih =>
      intro a
      cases a with
      | zero => simp
      | succ a => rw [hitIVs_cons, show (a + 1) * 2 = a * 2 + 1 + 1 by omega, List.drop_succ_cons, List.drop_succ_cons, ih, List.drop_succ_cons]
  rw [ht, hd]
set_option maxRecDepth 100000 in
set_option maxHeartbeats 2000000 in
theorem Clone_hits (v : Value) (l : List HitI) (w : World) (hv : HitsI w v l) (hn : l.length ≤ 1000000) :
    Calls Tryz.prog 35 #[v] w fun e w' => ∃ v', e = .returned v' ∧ w'.ownsRow w.heap.size 49 2 v' l.length (hitIVs l) ∧ Q w w' := by
  obtain ⟨i0, hi, hz0, hz1, hz2⟩ := info_parts tinfoHit
  obtain ⟨hxs, a, cap, rfl, hcell⟩ := hv
  have hn2 : (hitIVs l).length = l.length * 2 := hxs
  have hone := hitIVs_one l
  cases a with
  | none =>
    have h0 : l.length = 0 := by
      by_cases h : l.length = 0
      · exact h
      · obtain ⟨b, off, e, _⟩ := hcell (by omega)
        cases e
    obtain rfl : l = [] := List.eq_nil_of_length_eq_zero h0
    clear hcell hxs hn2 hone
    go_enter Tryz.func35, Tryz.ntmps35
    go_wp2_with fail
    rw [Lib.run_eql_slice_nil _ _ _ _ _ _ _ _ Tryz.underlying25]
    go_wp2_with fail
    go_ret
    exact ⟨_, rfl, World.ownsRow_nil _ _ _ _, Q.refl _⟩
  | some ad =>
    have hcc : ∀ j u, (hitIVs l)[j]? = some u → (w.alloc (.cells #[] 49)).cell? (ad.add j) = some u := by
      intro j u hu
      have hjl : j < (hitIVs l).length := (List.getElem?_eq_some_iff.1 hu).1
      obtain ⟨b, off, e, hc⟩ := hcell (by omega)
      cases e
      rw [show (⟨b, off, none⟩ : Addr).add j = ⟨b, off + j, none⟩ by unfold Addr.add; split <;> simp_all]
      exact cell_stays (Q.alloc _ _) (hc j u hu)
    have hown : (w.alloc (.cells #[] 49)).ownsRow w.heap.size 49 2 (.slice (some ⟨w.heap.size, 0, none⟩) 0 0) 0 [] := ⟨rfl, .inr ⟨w.heap.size, 0, #[], rfl, Nat.le_refl _, heap_alloc_new _ _, by simp, by unfold maxLen; omega, rfl, rfl⟩⟩
    have h63 : 0 + l.length ≤ maxLen := by unfold maxLen; omega
    have hbytes : (0 + l.length) * 24 ≤ 140737488355328 := by omega
    have hbase : w.heap.size ≤ (w.alloc (.cells #[] 49)).heap.size := by simp
    generalize hitIVs l = xs at *
    clear hcell
    go_enter Tryz.func35, Tryz.ntmps35
    go_wp2_with fail
    rw [Lib.run_eql_slice_nil _ _ _ _ _ _ _ _ Tryz.underlying25]
    go_wp2_with (at_builtin; go_must (refine wpList_append_own (w.alloc (.cells #[] 49)) (by rfl) _ _ 25 (by rfl) w.heap.size 49 i0 (.agg #[strV [], .int .i64 0]) 2 24 Tryz.underlying25 hi hz0 hz1 hz2 rfl (by decide) _ 0 [] (by rfl) hown ad l.length cap xs (by rfl) hn2 hcc hone h63 hbytes hbase ?_))
    intro v' w' ho hg _
    have hb : Below w.heap.size w w' := ((Below.refl w.heap.size w).alloc (Nat.le_refl _) _).grown hg hbase (fun k hk => by simp [Value.ownBlock] at hk; omega)
    have HO := Lib.hid ho; have HB := Lib.hid hb
    clear ho hb hg
    go_wp2_with fail
    go_ret
    exact ⟨v', rfl, HO.out, HB.out⟩
/-- a page of hits -/
def pageI (l : List HitI) (f s : Int) : List HitI := if f < 0 ∨ s < 0 ∨ (l.length : Int) ≤ f then [] else (l.take (f.toNat + min s.toNat (l.length - f.toNat))).drop f.toNat
theorem pageI_len (l : List HitI) (f s : Int) : (pageI l f s).length ≤ l.length := by
  unfold pageI; split
  · exact Nat.zero_le _
  · rw [List.length_drop, List.length_take]; omega
theorem cut_page (l : List HitI) (w : World) (a : Option Addr) (cap : Nat) (h : HitsI w (.slice a l.length cap) l) (lo m : Nat) (h1 : lo < l.length) (h2 : m ≤ l.length - lo) (hc : l.length ≤ cap) :
    HitsI w (.slice (a.map (·.add (lo * 2))) m (cap - lo)) ((l.take (lo + m)).drop lo) := by
  have hs := Sl.cut (size := 2) (show Sl w (.slice a l.length cap) l.length 2 (hitIVs l) from h) lo (lo + m) (by omega) (by omega) hc
  rw [if_neg (by omega), hitIVs_cut] at hs
  unfold HitsI
  have hl : ((l.take (lo + m)).drop lo).length = m := by rw [List.length_drop, List.length_take]; omega
  rw [hl]
  rwa [show lo + m - lo = m by omega] at hs
set_option maxRecDepth 100000 in
set_option maxHeartbeats 2000000 in
theorem Page_any (a : Option Addr) (cap : Nat) (l : List HitI) (f s : Int) (w : World) (h : HitsI w (.slice a l.length cap) l) (hc : l.length ≤ cap) (hn : l.length ≤ 1000) (f0 : -9223372036854775808 ≤ f) (f1 : f ≤ 9223372036854775807) (s0 : -9223372036854775808 ≤ s) (s1 : s ≤ 9223372036854775807) :
    Calls Tryz.prog 14 #[.slice a l.length cap, .int .i64 f, .int .i64 s] w fun e w' => ∃ v, e = .returned v ∧ w'.ownsRow w.heap.size 49 2 v (pageI l f s).length (hitIVs (pageI l f s)) ∧ Q w w' := by
  by_cases h1 : f < 0
  · have e : pageI l f s = [] := by unfold pageI; rw [if_pos (.inl h1)]
    rw [e]
    clear e h
    go_enter Tryz.func14, Tryz.ntmps14
    go_wp2_with fail
    go_ret
    exact ⟨_, rfl, World.ownsRow_nil _ _ _ _, Q.refl _⟩
  · by_cases h2 : s < 0
    · have e : pageI l f s = [] := by unfold pageI; rw [if_pos (.inr (.inl h2))]
      rw [e]
      clear e h
      go_enter Tryz.func14, Tryz.ntmps14
      go_wp2_with fail
      go_ret
      exact ⟨_, rfl, World.ownsRow_nil _ _ _ _, Q.refl _⟩
    · by_cases h3 : (l.length : Int) ≤ f
      · have e : pageI l f s = [] := by unfold pageI; rw [if_pos (.inr (.inr h3))]
        rw [e]
        clear e h
        go_enter Tryz.func14, Tryz.ntmps14
        go_wp2_with fail
        go_ret
        exact ⟨_, rfl, World.ownsRow_nil _ _ _ _, Q.refl _⟩
      · have e : pageI l f s = (l.take (f.toNat + min s.toNat (l.length - f.toNat))).drop f.toNat := by unfold pageI; rw [if_neg (by omega)]
        rw [e]
        clear e
        obtain ⟨lo, rfl⟩ : ∃ lo : Nat, f = lo := ⟨f.toNat, by omega⟩
        obtain ⟨sz, rfl⟩ : ∃ sz : Nat, s = sz := ⟨s.toNat, by omega⟩
        simp only [Int.toNat_natCast]
        obtain ⟨m, hm⟩ : ∃ m, m = min sz (l.length - lo) := ⟨_, rfl⟩
        rw [← hm]
        have hcut := cut_page l w a cap h lo m (by omega) (by omega) hc
        have hml : ((l.take (lo + m)).drop lo).length ≤ 1000000 := by rw [List.length_drop, List.length_take]; omega
        have cc := Clone_hits _ _ w hcut hml
        have hne : ¬ cap = lo := by omega
        have hsub : IntKind.i64.wrap ((l.length : Int) - (lo : Int)) = (l.length : Int) - (lo : Int) := IntWalk.i64_in _ (by omega)
        have hmin : min (sz : Int) ((l.length : Int) - (lo : Int)) = (m : Int) := by omega
        have hadd : IntKind.i64.wrap ((lo : Int) + (m : Int)) = (lo : Int) + (m : Int) := IntWalk.i64_in _ (by omega)
        have hb1 : (0 : Int) ≤ (lo : Int) := by omega
        have hb2 : (lo : Int) ≤ (lo : Int) + (m : Int) := by omega
        have hb3 : (lo : Int) + (m : Int) ≤ (cap : Int) := by omega
        have C := Lib.hid cc
        clear cc hcut h hm
        generalize (l.take (lo + m)).drop lo = pg at *
        go_enter Tryz.func14, Tryz.ntmps14
        go_wp2_with fail
        refine C.out.mono ?_
        rintro e w1 ⟨v', rfl, ho, q⟩
        have HO := Lib.hid ho; have HQ := Lib.hid q
        clear ho q
        go_wp2_with fail
        go_ret
        exact ⟨_, rfl, HO.out, HQ.out⟩
set_option maxRecDepth 100000 in
set_option maxHeartbeats 2000000 in
theorem RPage_any (a : Option Addr) (cap : Nat) (l : List HitI) (f s : Int) (w : World) (h : HitsI w (.slice a l.length cap) l) (hc : l.length ≤ cap) (hn : l.length ≤ 1000) (f0 : -9223372036854775808 ≤ f) (f1 : f ≤ 9223372036854775807) (s0 : -9223372036854775808 ≤ s) (s1 : s ≤ 9223372036854775807) :
    Calls Tryz.prog 15 #[.slice a l.length cap, .int .i64 f, .int .i64 s] w fun e w' => ∃ v, e = .returned v ∧ HitsI w v (pageI l f s) ∧ w = w' := by
  by_cases h1 : f < 0
  · have e : pageI l f s = [] := by unfold pageI; rw [if_pos (.inl h1)]
    rw [e]
    clear e h
    go_enter Tryz.func15, Tryz.ntmps15
    go_wp2_with fail
    go_ret
    exact ⟨_, rfl, Sl.nil _ _, rfl⟩
  · by_cases h2 : s < 0
    · have e : pageI l f s = [] := by unfold pageI; rw [if_pos (.inr (.inl h2))]
      rw [e]
      clear e h
      go_enter Tryz.func15, Tryz.ntmps15
      go_wp2_with fail
      go_ret
      exact ⟨_, rfl, Sl.nil _ _, rfl⟩
    · by_cases h3 : (l.length : Int) ≤ f
      · have e : pageI l f s = [] := by unfold pageI; rw [if_pos (.inr (.inr h3))]
        rw [e]
        clear e h
        go_enter Tryz.func15, Tryz.ntmps15
        go_wp2_with fail
        go_ret
        exact ⟨_, rfl, Sl.nil _ _, rfl⟩
      · have e : pageI l f s = (l.take (f.toNat + min s.toNat (l.length - f.toNat))).drop f.toNat := by unfold pageI; rw [if_neg (by omega)]
        rw [e]
        clear e
        obtain ⟨lo, rfl⟩ : ∃ lo : Nat, f = lo := ⟨f.toNat, by omega⟩
        obtain ⟨sz, rfl⟩ : ∃ sz : Nat, s = sz := ⟨s.toNat, by omega⟩
        simp only [Int.toNat_natCast]
        obtain ⟨m, hm⟩ : ∃ m, m = min sz (l.length - lo) := ⟨_, rfl⟩
        rw [← hm]
        have hcut := cut_page l w a cap h lo m (by omega) (by omega) hc
        have hne : ¬ cap = lo := by omega
        have hsub : IntKind.i64.wrap ((l.length : Int) - (lo : Int)) = (l.length : Int) - (lo : Int) := IntWalk.i64_in _ (by omega)
        have hmin : min (sz : Int) ((l.length : Int) - (lo : Int)) = (m : Int) := by omega
        have hadd : IntKind.i64.wrap ((lo : Int) + (m : Int)) = (lo : Int) + (m : Int) := IntWalk.i64_in _ (by omega)
        have hb1 : (0 : Int) ≤ (lo : Int) := by omega
        have hb2 : (lo : Int) ≤ (lo : Int) + (m : Int) := by omega
        have hb3 : (lo : Int) + (m : Int) ≤ (cap : Int) := by omega
        have C := Lib.hid hcut
        clear hcut h hm
        generalize (l.take (lo + m)).drop lo = pg at *
        go_enter Tryz.func15, Tryz.ntmps15
        go_wp2_with fail
        go_ret
        exact ⟨_, rfl, C.out, rfl⟩
/-- which of n things -/
def pickZ (c n : Int) : Int := (if c < 0 then -(c + 1) else c) % n
set_option maxHeartbeats 1000000 in
theorem Pick_any (c : Int) (w : World) (c0 : -9223372036854775808 ≤ c) (c1 : c ≤ 9223372036854775807) :
    Calls Tryz.prog 16 #[.int .i64 c, .int .i64 20] w fun e w' => e = .returned (.int .i64 (pickZ c 20)) ∧ w = w' := by
  by_cases h : c < 0
  · have e : pickZ c 20 = (-(c + 1)) % 20 := by unfold pickZ; rw [if_pos h]
    have r1 : IntKind.i64.wrap (c + 1) = c + 1 := IntWalk.i64_in _ (by omega)
    have r2 : IntKind.i64.wrap (-(c + 1)) = -(c + 1) := IntWalk.i64_in _ (by omega)
    have hb : (-(c + 1)).tmod 20 = (-(c + 1)) % 20 := Int.tmod_eq_emod_of_nonneg (by omega)
    have r3 : IntKind.i64.wrap ((-(c + 1)) % 20) = (-(c + 1)) % 20 := IntWalk.i64_in _ (by omega)
    have r4 : IntKind.i64.wrap ((-(c + 1)).tmod 20) = (-(c + 1)) % 20 := by rw [hb]; exact r3
    rw [e]
    go_enter Tryz.func16, Tryz.ntmps16
    go_wp2_with fail
    go_ret
    exact ⟨by first | rfl | simp [r1, r2, r3, r4, hb], rfl⟩
  · have e : pickZ c 20 = c % 20 := by unfold pickZ; rw [if_neg h]
    have hb : c.tmod 20 = c % 20 := Int.tmod_eq_emod_of_nonneg (by omega)
    have r3 : IntKind.i64.wrap (c % 20) = c % 20 := IntWalk.i64_in _ (by omega)
    have r4 : IntKind.i64.wrap (c.tmod 20) = c % 20 := by rw [hb]; exact r3
    rw [e]
    go_enter Tryz.func16, Tryz.ntmps16
    go_wp2_with fail
    go_ret
    exact ⟨by first | rfl | simp [r3, r4, hb], rfl⟩
theorem pickZ_in (c : Int) : 0 ≤ pickZ c 20 ∧ pickZ c 20 < 20 := by
  unfold pickZ
  split <;> omega
end Go.Proofs.YtcflpcpkmhljkaaGreatDoor
