/- Joined texts of one proof: WLiveR, WParts, BitM, WFresh. -/
import Derived.Test.YtcflpcpkmhljkaaGreatDoorMWPostIToWSegDocs
import Derived.Test.YtcflpcpkmhljkaaGreatDoorMWUtfToWRune
import Derived.Test.YtcflpcpkmhljkaaGreatDoorProg
import Derived.Test.YtcflpcpkmhljkaaGreatDoorMPostRdToBase
import Derived.WalkKit
import Derived.WalkSpells
import Derived.WalkLawsBesides
import Derived.Outline
set_option linter.unusedSimpArgs false
set_option linter.unusedVariables false
set_option linter.unnecessarySimpa false
/- (WLiveR) live.right: walked. -/
section
namespace Go.Proofs.YtcflpcpkmhljkaaGreatDoor
open Go.RowKit
set_option linter.unusedVariables false

abbrev opV (o : OpL) : Value := .agg #[.bool o.1, strV o.2.1, strV o.2.2]
set_option maxRecDepth 100000 in
set_option maxHeartbeats 2000000 in
theorem LRight_keep (id text : Bytes) (w : World) (h1 : id.length ≤ 9223372036854775807) (h2 : text.length ≤ 9223372036854775807) (hT : Tabs w) :
    Calls Tryz.prog 52 #[opV (false, (id, text))] w fun e w' => e = .returned (.bool (rightB id text)) ∧ Q w w' := by
  have c := Right_any id text (w.alloc (.cells #[.bool false, strV id, strV text] 65)) h1 h2 (hT.stays (Q.alloc _ _))
  have C := Lib.hid c
  clear c hT
  go_enter Tryz.func52, Tryz.ntmps52
  go_wp2_with fail
  refine C.out.mono ?_
  rintro e w1 ⟨rfl, q1⟩
  have hq := (Q.alloc w (.cells #[.bool false, strV id, strV text] 65)).trans q1
  have HQ := Lib.hid hq
  clear hq q1
  go_wp2_with fail
  go_ret
  exact ⟨rfl, HQ.out⟩
def goneB (id text : Bytes) : Bool := !id.isEmpty && decide (id.length ≤ 40) && Lib.validD id && text.isEmpty
set_option maxRecDepth 100000 in
set_option maxHeartbeats 2000000 in
theorem LRight_gone (id text : Bytes) (w : World) (h1 : id.length ≤ 9223372036854775807) (h2 : text.length ≤ 9223372036854775807) (hT : Tabs w) :
    Calls Tryz.prog 52 #[opV (true, (id, text))] w fun e w' => e = .returned (.bool (goneB id text)) ∧ Q w w' := by
  have hT1 : Tabs (w.alloc (.cells #[.bool true, strV id, strV text] 65)) := hT.stays (Q.alloc _ _)
  have HT := Lib.hid hT1
  clear hT hT1
  have hR : goneB id text = (!id.isEmpty && decide (id.length ≤ 40) && Lib.validD id && text.isEmpty) := rfl
  generalize goneB id text = R at *
  by_cases he : id = []
  · subst he
    have HR := Lib.hid hR; clear hR
    go_enter Tryz.func52, Tryz.ntmps52
    go_wp2_with fail
    go_ret
    exact ⟨by rw [HR.out]; rfl, Q.alloc _ _⟩
  · have hne : id.isEmpty = false := by simpa using he
    rw [hne] at hR
    by_cases h40 : id.length ≤ 40
    · rw [decide_eq_true h40] at hR
      have HR := Lib.hid hR; have HE := Lib.hid he; clear hR he
      cases hv : Lib.validD id with
      | false =>
        have HV := Lib.hid hv; clear hv
        go_enter Tryz.func52, Tryz.ntmps52
        go_wp2_with fail
        refine (Valid_any id _ h1 HT.out).mono ?_
        rintro e w1 ⟨rfl, q1⟩
        rw [HV.out]
        have HQ := Lib.hid q1; clear q1
        go_wp2_with fail
        go_ret
        exact ⟨by rw [HR.out, HV.out]; rfl, (Q.alloc _ _).trans HQ.out⟩
      | true =>
        have HV := Lib.hid hv; clear hv
        cases ht : text.isEmpty with
        | true =>
          obtain rfl : text = [] := by simpa using ht
          have HX := Lib.hid ht; clear ht
          go_enter Tryz.func52, Tryz.ntmps52
          go_wp2_with fail
          refine (Valid_any id _ h1 HT.out).mono ?_
          rintro e w1 ⟨rfl, q1⟩
          rw [HV.out]
          have hc : w1.cell? ⟨w.heap.size, 2, none⟩ = some (.string ⟨([] : Bytes).toArray⟩) := cell_stays q1 (by simp only [World.cell?, heap_alloc_new]; simp)
          have HQ := Lib.hid q1; clear q1
          go_wp2_with fail
          go_ret
          exact ⟨by rw [HR.out, HV.out]; rfl, (Q.alloc _ _).trans HQ.out⟩
        | false =>
          have hxe : text ≠ [] := by simpa using ht
          have HX := Lib.hid ht; have HXE := Lib.hid hxe; clear ht hxe
          go_enter Tryz.func52, Tryz.ntmps52
          go_wp2_with fail
          refine (Valid_any id _ h1 HT.out).mono ?_
          rintro e w1 ⟨rfl, q1⟩
          rw [HV.out]
          have hc : w1.cell? ⟨w.heap.size, 2, none⟩ = some (.string ⟨text.toArray⟩) := cell_stays q1 (by simp only [World.cell?, heap_alloc_new]; simp)
          have HQ := Lib.hid q1; clear q1
          go_wp2_with fail
          go_ret
          exact ⟨by rw [HR.out, HV.out, HX.out]; simp, (Q.alloc _ _).trans HQ.out⟩
    · rw [decide_eq_false h40] at hR
      have HR := Lib.hid hR; have HE := Lib.hid he; clear hR he
      go_enter Tryz.func52, Tryz.ntmps52
      go_wp2_with fail
      go_ret
      exact ⟨by rw [HR.out]; simp, Q.alloc _ _⟩
theorem LRight_any (o : OpL) (w : World) (h1 : o.2.1.length ≤ 9223372036854775807) (h2 : o.2.2.length ≤ 9223372036854775807) (hT : Tabs w) :
    Calls Tryz.prog 52 #[opV o] w fun e w' => e = .returned (.bool (opRight o)) ∧ Q w w' := by
  obtain ⟨b, id, text⟩ := o
  cases b with
  | false => exact LRight_keep id text w h1 h2 hT
  | true => exact LRight_gone id text w h1 h2 hT
end Go.Proofs.YtcflpcpkmhljkaaGreatDoor
end

/- (WParts) live: parts in memory; slices.Clone at parts. -/
section
namespace Go.Proofs.YtcflpcpkmhljkaaGreatDoor
open Go.RowKit
set_option linter.unusedVariables false

/-- a part in memory: its segment's block, and which documents are gone -/
abbrev PartR := Nat × Bytes
abbrev partVs (l : List PartR) : List Value := l.flatMap fun p => [.pointer (some ⟨p.1, 0, none⟩), strV p.2]
def Parts0 (w : World) (v : Value) (l : List PartR) : Prop := Sl w v l.length 2 (partVs l)
theorem tinfo89 : (Tryz.prog.info? 89).map (fun i => (i.zero, i.size, i.bytes)) = some (some (.agg #[.pointer none, strV []]), 2, 24) := by kernel_rfl
theorem partVs_one (l : List PartR) : ∀ u ∈ partVs l, u.oneCell' = true := by
  intro u hu
  obtain ⟨d, _, hd⟩ := List.mem_flatMap.1 hu
  simp at hd
  rcases hd with rfl | rfl <;> simp [Value.oneCell']
set_option maxRecDepth 100000 in
set_option maxHeartbeats 2000000 in
theorem Clone_parts (v : Value) (l : List PartR) (w : World) (hv : Parts0 w v l) (hn : l.length ≤ 1000000) :
    Calls Tryz.prog 53 #[v] w fun e w' => ∃ v', e = .returned v' ∧ w'.ownsRow w.heap.size 89 2 v' l.length (partVs l) ∧ Q w w' := by
  obtain ⟨i0, hi, hz0, hz1, hz2⟩ := info_parts tinfo89
  obtain ⟨hxs, a, cap, rfl, hcell⟩ := hv
  have hn2 : (partVs l).length = l.length * 2 := hxs
  have hone := partVs_one l
  cases a with
  | none =>
    have h0 : l.length = 0 := by
      by_cases h : l.length = 0
      · exact h
      · obtain ⟨b, off, e, _⟩ := hcell (by omega)
        cases e
    obtain rfl : l = [] := List.eq_nil_of_length_eq_zero h0
    clear hcell hxs hn2 hone
    go_enter Tryz.func53, Tryz.ntmps53
    go_wp2_with fail
    rw [Lib.run_eql_slice_nil _ _ _ _ _ _ _ _ Tryz.underlying35]
    go_wp2_with fail
    go_ret
    exact ⟨_, rfl, World.ownsRow_nil _ _ _ _, Q.refl _⟩
  | some ad =>
    have hcc : ∀ j u, (partVs l)[j]? = some u → (w.alloc (.cells #[] 89)).cell? (ad.add j) = some u := by
      intro j u hu
      have hjl : j < (partVs l).length := (List.getElem?_eq_some_iff.1 hu).1
      obtain ⟨b, off, e, hc⟩ := hcell (by omega)
      cases e
      rw [show (⟨b, off, none⟩ : Addr).add j = ⟨b, off + j, none⟩ by unfold Addr.add; split <;> simp_all]
      exact cell_stays (Q.alloc _ _) (hc j u hu)
    have hown : (w.alloc (.cells #[] 89)).ownsRow w.heap.size 89 2 (.slice (some ⟨w.heap.size, 0, none⟩) 0 0) 0 [] := ⟨rfl, .inr ⟨w.heap.size, 0, #[], rfl, Nat.le_refl _, heap_alloc_new _ _, by simp, by unfold maxLen; omega, rfl, rfl⟩⟩
    have h63 : 0 + l.length ≤ maxLen := by unfold maxLen; omega
    have hbytes : (0 + l.length) * 24 ≤ 140737488355328 := by omega
    have hbase : w.heap.size ≤ (w.alloc (.cells #[] 89)).heap.size := by simp
    generalize partVs l = xs at *
    clear hcell
    go_enter Tryz.func53, Tryz.ntmps53
    go_wp2_with fail
    rw [Lib.run_eql_slice_nil _ _ _ _ _ _ _ _ Tryz.underlying35]
    go_wp2_with (at_builtin; go_must (refine wpList_append_own (w.alloc (.cells #[] 89)) (by rfl) _ _ 35 (by rfl) w.heap.size 89 i0 (.agg #[.pointer none, strV []]) 2 24 Tryz.underlying35 hi hz0 hz1 hz2 rfl (by decide) _ 0 [] (by rfl) hown ad l.length cap xs (by rfl) hn2 hcc hone h63 hbytes hbase ?_))
    intro v' w' ho hg _
    have hb : Below w.heap.size w w' := ((Below.refl w.heap.size w).alloc (Nat.le_refl _) _).grown hg hbase (fun k hk => by simp [Value.ownBlock] at hk; omega)
    have HO := Lib.hid ho; have HB := Lib.hid hb
    clear ho hb hg
    go_wp2_with fail
    go_ret
    exact ⟨v', rfl, HO.out, HB.out⟩
end Go.Proofs.YtcflpcpkmhljkaaGreatDoor
end

/- (BitM) trial -/
section
namespace Go.Proofs.YtcflpcpkmhljkaaGreatDoor
open Go.RowKit
set_option maxRecDepth 100000
set_option linter.unusedVariables false

theorem tinfo5 : (Tryz.prog.info? 5).map (fun i => (i.zero, i.size, i.bytes)) = some (some (.int .u8 0), 1, 1) := by kernel_rfl


set_option maxHeartbeats 400000 in
theorem make_in (n : Int) (w : World) (h1 : 1 ≤ n) (h2 : n ≤ 32768) :
    Calls Tryz.prog 92 #[.int .i64 n] w fun e w' => e = .returned (.string ⟨(makeL n).toArray⟩) ∧ Below w.heap.size w w' := by
  obtain ⟨i, hi, hz0, hz1, hz2⟩ := info_parts tinfo5
  have km := run_make (P := Tryz.prog) w 162 5 _ _ Tryz.underlying162 hi hz0 .i64 .i64 ((n + 7) / 8) ((n + 7) / 8) (by omega) (Int.le_refl _) (by rw [hz2]; omega) (by omega)
  have hb := (ByteRow.zeros w ((n + 7) / 8).toNat 5).back (P := Tryz.prog) 162 9 5 ((n + 7) / 8).toNat Tryz.underlying162 Tryz.underlying5 Tryz.underlying9
  rw [List.length_replicate] at hb
  have hm : makeL n = List.replicate ((n + 7) / 8).toNat 0 := by unfold makeL; rw [if_pos ⟨h1, h2⟩]
  rw [← hm] at hb
  have HM := Lib.hid hm; clear hm
  go_enter Tryz.func92, Tryz.ntmps92
  go_wp2
  go_ret
  exact ⟨rfl, (Below.refl _ _).alloc (Nat.le_refl _) _⟩

set_option maxHeartbeats 400000 in
theorem make_lo (n : Int) (w : World) (h1 : n < 1) :
    Calls Tryz.prog 92 #[.int .i64 n] w fun e w' => e = .returned (.string ⟨(makeL n).toArray⟩) ∧ Below w.heap.size w w' := by
  have hm : makeL n = [] := by unfold makeL; rw [if_neg (by omega)]
  have HM := Lib.hid hm; clear hm
  go_enter Tryz.func92, Tryz.ntmps92
  go_wp2
  go_ret
  exact ⟨by rw [HM.out]; rfl, Below.refl _ _⟩
set_option maxHeartbeats 400000 in
theorem make_hi (n : Int) (w : World) (h1 : 32768 < n) :
    Calls Tryz.prog 92 #[.int .i64 n] w fun e w' => e = .returned (.string ⟨(makeL n).toArray⟩) ∧ Below w.heap.size w w' := by
  have hm : makeL n = [] := by unfold makeL; rw [if_neg (by omega)]
  have HM := Lib.hid hm; clear hm
  have h0 : ¬ n < 1 := by omega
  go_enter Tryz.func92, Tryz.ntmps92
  go_wp2
  go_ret
  exact ⟨by rw [HM.out]; rfl, Below.refl _ _⟩
theorem make_any (n : Int) (w : World) :
    Calls Tryz.prog 92 #[.int .i64 n] w fun e w' => e = .returned (.string ⟨(makeL n).toArray⟩) ∧ Below w.heap.size w w' := by
  by_cases h1 : n < 1
  · exact make_lo n w h1
  · by_cases h2 : n ≤ 32768
    · exact make_in n w (by omega) h2
    · exact make_hi n w (by omega)

end Go.Proofs.YtcflpcpkmhljkaaGreatDoor
end

/- (WFresh) live.fresh: walked. -/
section
namespace Go.Proofs.YtcflpcpkmhljkaaGreatDoor
open Go.RowKit
set_option linter.unusedVariables false

set_option maxRecDepth 100000 in
set_option maxHeartbeats 2000000 in
theorem Fresh_some (v : Value) (l : List DocL) (w : World) (hv : Docs w v l) (h : ¬ (l.length < 1 ∨ 500 < l.length)) (hok : docsOk l) (hT : Tabs w) (hSp : Spans w) :
    Calls Tryz.prog 57 #[v] w fun e w' => (∃ g p, e = .returned (.tuple #[.slice (some ⟨g, 0, none⟩) 1 1, .string ⟨(segE l (idxS l)).toArray⟩]) ∧ Parts0 w' (.slice (some ⟨g, 0, none⟩) 1 1) [(p, makeL l.length)] ∧ SegAt w' p l (idxS l)) ∧ Q w w' := by
  have cb := Build_ok v l w hv h hok hT hSp
  obtain ⟨a, cap, rfl, _⟩ := hv.value
  have CB := Lib.hid cb; have HT := Lib.hid hT; have HSP := Lib.hid hSp; have HOK := Lib.hid hok
  clear cb hv hT hSp hok
  go_enter Tryz.func57, Tryz.ntmps57
  go_wp2_with fail
  refine CB.out.mono ?_
  rintro e w1 ⟨rfl, q1⟩
  have co := Open_ok l w1 h HOK.out (HT.out.stays q1) (HSP.out.stays q1)
  have CO := Lib.hid co; have HQ1 := Lib.hid q1
  clear co q1 CB
  go_wp2_with fail
  refine CO.out.mono ?_
  rintro e w2 ⟨⟨p, rfl, hs⟩, q2⟩
  have hq2 := HQ1.out.trans q2
  have cm := make_any (l.length : Int) w2
  have CM := Lib.hid cm; have HS := Lib.hid hs; have HQ2 := Lib.hid hq2
  clear cm hs hq2 q2 CO HQ1
  go_wp2_with fail
  refine CM.out.mono ?_
  rintro e w3 ⟨rfl, q3⟩
  have hs3 := HS.out.stays q3
  have hq3 := HQ2.out.trans q3
  have HS3 := Lib.hid hs3; have HQ3 := Lib.hid hq3
  clear hs3 hq3 q3 CM HS HQ2
  go_wp2_with fail
  have hlit := Sl.lit w3 #[.pointer (some ⟨p, 0, none⟩), strV (makeL l.length)] 89 1 2 rfl
  have hqq := Q.alloc w3 (.cells #[.pointer (some ⟨p, 0, none⟩), strV (makeL l.length)] 89)
  go_ret2
  exact ⟨⟨w3.heap.size, p, rfl, hlit, HS3.out.stays hqq⟩, HQ3.out.trans hqq⟩
set_option maxRecDepth 100000 in
theorem Fresh_none (a : Option Addr) (cap : Nat) (w : World) :
    Calls Tryz.prog 57 #[.slice a 0 cap] w fun e w' => e = .returned (.tuple #[.slice none 0 0, .string ⟨([] : Bytes).toArray⟩]) ∧ w = w' := by
  go_enter Tryz.func57, Tryz.ntmps57
  go_wp2_with fail
  go_ret2
  exact ⟨rfl, rfl⟩
end Go.Proofs.YtcflpcpkmhljkaaGreatDoor
end
