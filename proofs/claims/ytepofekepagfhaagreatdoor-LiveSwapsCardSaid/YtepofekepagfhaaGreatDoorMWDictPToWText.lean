/- Joined texts of one proof: WDictP, Wire2, WVar, WText. -/
import Derived.Test.YtepofekepagfhaaGreatDoorMWVarsToBld2
import Derived.Test.YtepofekepagfhaaGreatDoorMTokToWDictR
import Derived.Test.YtepofekepagfhaaGreatDoorMIx2ToWDictPR
import Derived.Test.YtepofekepagfhaaGreatDoorMKitToSegSpec
import Derived.Test.YtepofekepagfhaaGreatDoorProg
import Derived.WalkKit
import Derived.WalkSpells
import Derived.WalkLawsBesides
import Derived.Outline
import Derived.KernelRfl
set_option linter.unusedSimpArgs false
set_option linter.unusedVariables false
set_option linter.unnecessarySimpa false
/- (WDictP) dict.Pack: walked. -/
section
namespace Go.Proofs.YtepofekepagfhaaGreatDoor
open Go.RowKit
set_option linter.unusedVariables false

/-! ### plain -/
def grpL (l : List EntryL) (m : Nat) : List EntryL := (l.drop (16 * m)).take 16
def idxTo (l : List EntryL) (m : Nat) : Bytes := varE l.length ++ (List.range m).flatMap fun i => textE ((grpL l i).headD ([], [])).1 ++ varE (blockE [] (grpL l i)).length
def allTo (l : List EntryL) (m : Nat) : Bytes := (List.range m).flatMap fun i => blockE [] (grpL l i)
theorem idxTo_succ (l : List EntryL) (m : Nat) : idxTo l (m + 1) = idxTo l m ++ (textE ((grpL l m).headD ([], [])).1 ++ varE (blockE [] (grpL l m)).length) := by
  simp [idxTo, List.range_succ]
theorem allTo_succ (l : List EntryL) (m : Nat) : allTo l (m + 1) = allTo l m ++ blockE [] (grpL l m) := by
  simp [allTo, List.range_succ]
theorem groups_range (n : Nat) (l : List EntryL) (m : Nat) (h : l.length ≤ n) (h1 : l.length ≤ 16 * m) (h2 : m = 0 ∨ 16 * (m - 1) < l.length) : groupsF n l = (List.range m).map (grpL l) := by
  induction n generalizing l m with
  | zero =>
    have : l = [] := List.eq_nil_of_length_eq_zero (by omega)
    subst this
    have : m = 0 := by simp at h2; omega
    subst this; rfl
  | succ n ih =>
    rw [groupsF]
    by_cases h0 : l = []
    · subst h0
      have : m = 0 := by simp at h2; omega
      subst this; rfl
    · rw [if_neg h0]
      have hl : 0 < l.length := List.length_pos_iff.2 h0
      obtain ⟨k, rfl⟩ : ∃ k, m = k + 1 := ⟨m - 1, by omega⟩
      rw [ih (l.drop 16) k (by rw [List.length_drop]; omega) (by rw [List.length_drop]; omega) (by rw [List.length_drop]; omega), List.range_succ_eq_map, List.map_cons, List.map_map]
      congr 1
      apply List.map_congr_left
      intro i _
      show (List.drop (16 * i) (List.drop 16 l)).take 16 = (l.drop (16 * (i + 1))).take 16
      rw [List.drop_drop, show 16 + 16 * i = 16 * (i + 1) by omega]
theorem dictE_eq (l : List EntryL) (m : Nat) (h1 : l.length ≤ 16 * m) (h2 : m = 0 ∨ 16 * (m - 1) < l.length) : dictE l = idxTo l m ++ allTo l m := by
  unfold dictE
  rw [groups_range l.length l m (Nat.le_refl _) h1 h2]
  simp [idxTo, allTo, List.flatMap_map]
theorem blockE_snoc (last : Bytes) (l : List EntryL) (e : EntryL) : blockE last (l ++ [e]) = blockE last l ++ (varE (alikeN (if l = [] then last else (l.getLastD ([], [])).1) e.1) ++ (textE (e.1.drop (alikeN (if l = [] then last else (l.getLastD ([], [])).1) e.1)) ++ textE e.2)) := by
  induction l generalizing last with
  | nil => simp [blockE]
  | cons a l ih =>
    rw [List.cons_append, blockE, blockE, ih]
    cases l with
    | nil => simp
    | cons b l => simp [List.getLastD]
/-- the term ahead of the j-th of a group -/
def lastAt (g : List EntryL) (j : Nat) : Bytes := if j = 0 then [] else (g.getD (j - 1) ([], [])).1
theorem blockE_take (g : List EntryL) (j : Nat) (h : j < g.length) : blockE [] (g.take (j + 1)) = blockE [] (g.take j) ++ (varE (alikeN (lastAt g j) g[j].1) ++ (textE (g[j].1.drop (alikeN (lastAt g j) g[j].1)) ++ textE g[j].2)) := by
  have e : (if g.take j = [] then [] else ((g.take j).getLastD ([], [])).1) = lastAt g j := by
    unfold lastAt
    by_cases hj : j = 0
    · subst hj; simp
    · have hne : g.take j ≠ [] := fun e => by have := congrArg List.length e; rw [List.length_take, List.length_nil] at this; omega
      rw [if_neg hne, if_neg hj]
      congr 1
      rw [List.getLastD_eq_getLast?, List.getLast?_eq_getElem?, List.length_take, Nat.min_eq_left (by omega), List.getElem?_take, if_pos (by omega), List.getD_eq_getElem?_getD]
  rw [List.take_succ_eq_append_getElem h, blockE_snoc, e]
theorem alikeN_le (a b : Bytes) : alikeN a b ≤ b.length ∧ alikeN a b ≤ a.length := by
  induction a generalizing b with
  | nil => cases b <;> simp [alikeN]
  | cons x a ih =>
    cases b with
    | nil => simp [alikeN]
    | cons y b =>
      rw [alikeN]
      split
      · have := ih b; simp only [List.length_cons]; omega
      · simp

set_option maxRecDepth 100000 in
set_option maxHeartbeats 2000000 in
theorem DPack_bad (v : Value) (l : List EntryL) (w : World) (hv : Pairs w v l) (hn : l.length ≤ 9223372036854775807) (hl : ∀ e ∈ l, e.1.length ≤ 9223372036854775807 ∧ e.2.length ≤ 9223372036854775807) (hr : (entriesRight [] l && decide (l.length ≤ 1048576)) = false) :
    Calls Tryz.prog 109 #[v] w fun e w' => e = .returned (.tuple #[.string ⟨([] : Bytes).toArray⟩, .int .i64 1]) ∧ Q w w' := by
  have c := DRight_any v l w hv hn hl
  rw [hr] at c
  obtain ⟨a, cap, rfl, hcell⟩ := hv.value
  have C := Lib.hid c
  clear c hv hl hcell hr
  go_enter Tryz.func109, Tryz.ntmps109
  go_wp2_with fail
  refine C.out.mono ?_
  rintro e w1 ⟨rfl, q1⟩
  go_wp2_with fail
  go_ret2
  exact ⟨rfl, q1⟩

theorem Far.symm {r r2 : Option Nat} (h : Far r r2) : Far r2 r := by
  rcases h with rfl | h
  · exact Far.new
  · exact .inr (Ne.symm h)
def B3 (W0 w : World) (b1 b2 b3 : Nat) (l1 l2 l3 : Bytes) : Prop := Bs3 w W0.heap.size b1 b2 b3 l1 l2 l3 ∧ Below W0.heap.size W0 w
theorem B3.q {W0 w w' : World} {b1 b2 b3 : Nat} {l1 l2 l3 : Bytes} (h : B3 W0 w b1 b2 b3 l1 l2 l3) (hq : Q w w') : B3 W0 w' b1 b2 b3 l1 l2 l3 := ⟨h.1.q hq, h.2.trans (Below.mono hq h.2.size)⟩
theorem B3.al {W0 w : World} {b1 b2 b3 : Nat} {l1 l2 l3 : Bytes} (h : B3 W0 w b1 b2 b3 l1 l2 l3) (o : Obj) : B3 W0 (w.alloc o) b1 b2 b3 l1 l2 l3 := h.q (Q.alloc _ _)
theorem B3.bs2 {W0 w : World} {b1 b2 b3 : Nat} {l1 l2 l3 : Bytes} (h : B3 W0 w b1 b2 b3 l1 l2 l3) : Bs2 w W0.heap.size b1 b2 l1 l2 := by
  obtain ⟨⟨r1, r2, r3, h1, h2, h3, f, _⟩, _⟩ := h
  exact ⟨r1, r2, h1, h2, f⟩
theorem B3_write1 (x : ByteArray) (W0 w : World) (b1 b2 b3 : Nat) (l1 l2 l3 s : Bytes) (hx : x = ⟨s.toArray⟩) (h : B3 W0 w b1 b2 b3 l1 l2 l3) (h12 : b1 ≠ b2) (h13 : b1 ≠ b3) (hl : l1.length + s.length ≤ 140737488355328) :
    Calls Tryz.prog 72 #[.pointer (some ⟨b1, 0, none⟩), .string x] w fun e w' => e = .returned (.tuple #[.int .i64 s.length, .nilIface]) ∧ B3 W0 w' b1 b2 b3 (l1 ++ s) l2 l3 := by
  subst hx
  obtain ⟨⟨r1, r2, r3, h1, h2, h3, f12, f13, f23⟩, hB⟩ := h
  refine (WriteString_any _ b1 r1 l1 s w h1 hl hB.size).mono ?_
  rintro e w' ⟨rfl, hs, r', hb', hfr⟩
  exact ⟨rfl, ⟨r', r2, r3, hb', h2.aside h1 hs (Ne.symm h12) f12.symm, h3.aside h1 hs (Ne.symm h13) f13.symm, f12.fresh' hfr (fun k hk => (h2.row k hk).2), f13.fresh' hfr (fun k hk => (h3.row k hk).2), f23⟩, hB.trans (h1.below hs hB.size)⟩
theorem B3_write2 (x : ByteArray) (W0 w : World) (b1 b2 b3 : Nat) (l1 l2 l3 s : Bytes) (hx : x = ⟨s.toArray⟩) (h : B3 W0 w b1 b2 b3 l1 l2 l3) (h12 : b1 ≠ b2) (h23 : b2 ≠ b3) (hl : l2.length + s.length ≤ 140737488355328) :
    Calls Tryz.prog 72 #[.pointer (some ⟨b2, 0, none⟩), .string x] w fun e w' => e = .returned (.tuple #[.int .i64 s.length, .nilIface]) ∧ B3 W0 w' b1 b2 b3 l1 (l2 ++ s) l3 := by
  subst hx
  obtain ⟨⟨r1, r2, r3, h1, h2, h3, f12, f13, f23⟩, hB⟩ := h
  refine (WriteString_any _ b2 r2 l2 s w h2 hl hB.size).mono ?_
  rintro e w' ⟨rfl, hs, r', hb', hfr⟩
  exact ⟨rfl, ⟨r1, r', r3, h1.aside h2 hs h12 f12, hb', h3.aside h2 hs (Ne.symm h23) f23.symm, f12.fresh hfr (fun k hk => (h1.row k hk).2), f13, f23.fresh' hfr (fun k hk => (h3.row k hk).2)⟩, hB.trans (h2.below hs hB.size)⟩
theorem B3_string (W0 w : World) (b1 b2 b3 : Nat) (l1 l2 l3 : Bytes) (h : B3 W0 w b1 b2 b3 l1 l2 l3) (h13 : b1 ≠ b3) (h23 : b2 ≠ b3) :
    Calls Tryz.prog 76 #[.pointer (some ⟨b3, 0, none⟩)] w fun e w' => e = .returned (.string ⟨l3.toArray⟩) ∧ Bs2 w' W0.heap.size b1 b2 l1 l2 ∧ Below W0.heap.size W0 w' := by
  obtain ⟨⟨r1, r2, r3, h1, h2, h3, f12, f13, f23⟩, hB⟩ := h
  refine (String_step _ _ _ _ _ h3).mono ?_
  rintro e w' ⟨rfl, hs⟩
  exact ⟨rfl, ⟨r1, r2, h1.aside h3 hs h13 f13, h2.aside h3 hs h23 f23, f12⟩, hB.trans (h3.below hs hB.size)⟩
theorem Bs2_write2 (x : ByteArray) (W0 w : World) (b1 b2 : Nat) (l1 l2 s : Bytes) (hx : x = ⟨s.toArray⟩) (h : Bs2 w W0.heap.size b1 b2 l1 l2) (hB : Below W0.heap.size W0 w) (h12 : b1 ≠ b2) (hl : l2.length + s.length ≤ 140737488355328) :
    Calls Tryz.prog 72 #[.pointer (some ⟨b2, 0, none⟩), .string x] w fun e w' => e = .returned (.tuple #[.int .i64 s.length, .nilIface]) ∧ Bs2 w' W0.heap.size b1 b2 l1 (l2 ++ s) ∧ Below W0.heap.size W0 w' := by
  subst hx
  obtain ⟨r1, r2, h1, h2, f12⟩ := h
  refine (WriteString_any _ b2 r2 l2 s w h2 hl hB.size).mono ?_
  rintro e w' ⟨rfl, hs, r', hb', hfr⟩
  exact ⟨rfl, ⟨r1, r', h1.aside h2 hs h12 f12, hb', f12.fresh hfr (fun k hk => (h1.row k hk).2)⟩, hB.trans (h2.below hs hB.size)⟩
theorem Bs2_string1 (W0 w : World) (b1 b2 : Nat) (l1 l2 : Bytes) (h : Bs2 w W0.heap.size b1 b2 l1 l2) (hB : Below W0.heap.size W0 w) (h12 : b1 ≠ b2) :
    Calls Tryz.prog 76 #[.pointer (some ⟨b1, 0, none⟩)] w fun e w' => e = .returned (.string ⟨l1.toArray⟩) ∧ (∃ r2, Bld w' W0.heap.size b2 r2 l2) ∧ Below W0.heap.size W0 w' := by
  obtain ⟨r1, r2, h1, h2, f12⟩ := h
  refine (String_step _ _ _ _ _ h1).mono ?_
  rintro e w' ⟨rfl, hs⟩
  exact ⟨rfl, ⟨r2, h2.aside h1 hs (Ne.symm h12) f12.symm⟩, hB.trans (h1.below hs hB.size)⟩
theorem Bs3_len (w : World) (B b1 b2 b3 : Nat) (l1 l2 l3 : Bytes) (h : Bs3 w B b1 b2 b3 l1 l2 l3) :
    Calls Tryz.prog 141 #[.pointer (some ⟨b3, 0, none⟩)] w fun e w' => e = .returned (.int .i64 l3.length) ∧ w = w' := by
  obtain ⟨r1, r2, r3, h1, h2, h3, _⟩ := h
  exact Len_any B b3 r3 l3 w h3
theorem Strs.lit1 (w : World) (a : Bytes) (e : TypeId) : Strs (w.alloc (.cells #[.string ⟨a.toArray⟩] e)) (.slice (some ⟨w.heap.size, 0, none⟩) 1 1) [a] := Sl.lit w #[.string ⟨a.toArray⟩] e 1 1 rfl
theorem grpL_length (l : List EntryL) (m : Nat) : (grpL l m).length = min 16 (l.length - 16 * m) := by simp [grpL]
theorem grpL_at (l : List EntryL) (m j : Nat) (h : j < (grpL l m).length) (h2 : 16 * m + j < l.length) : (grpL l m)[j] = l[16 * m + j] := by simp [grpL]
theorem lastAt_succ (g : List EntryL) (j : Nat) (h : j < g.length) : lastAt g (j + 1) = g[j].1 := by
  simp [lastAt, List.getD_eq_getElem?_getD, h]
def Small (l : List EntryL) : Prop := ∀ e ∈ l, e.1.length ≤ 40 ∧ e.2.length ≤ 4194304
theorem grpL_small {l : List EntryL} (h : Small l) (m : Nat) : Small (grpL l m) := fun e he => h e (List.mem_of_mem_drop (List.mem_of_mem_take he))
theorem lastAt_len {g : List EntryL} (h : Small g) (j : Nat) (hj : j < g.length) : (lastAt g j).length ≤ 40 := by
  unfold lastAt
  split
  · simp
  · rw [List.getD_eq_getElem?_getD, List.getElem?_eq_getElem (by omega)]
    exact (h _ (List.getElem_mem _)).1
theorem blockE_len {g : List EntryL} (h : Small g) (last : Bytes) : (blockE last g).length ≤ g.length * 4194400 := by
  induction g generalizing last with
  | nil => simp [blockE]
  | cons e g ih =>
    have h1 := ih (fun x hx => h x (List.mem_cons_of_mem _ hx)) e.1
    have h2 := h e (List.mem_cons_self ..)
    have h3 := varE_len (alikeN last e.1)
    have h4 := textE_len (e.1.drop (alikeN last e.1))
    have h5 := textE_len e.2
    simp only [blockE, List.length_append, List.length_cons]
    rw [List.length_drop] at h4
    omega
theorem headD_len {g : List EntryL} (h : Small g) : (g.headD ([], [])).1.length ≤ 40 := by
  cases g with
  | nil => simp
  | cons e g => exact (h e (List.mem_cons_self ..)).1
theorem idxTo_len {l : List EntryL} (h : Small l) (m : Nat) : (idxTo l m).length ≤ 10 + m * 60 := by
  induction m with
  | zero => have := varE_len l.length; simp [idxTo]; omega
  | succ m ih =>
    rw [idxTo_succ]
    have h1 := headD_len (grpL_small h m)
    have h2 := textE_len ((grpL l m).headD ([], [])).1
    have h3 := varE_len (blockE [] (grpL l m)).length
    simp only [List.length_append]
    omega
theorem allTo_len {l : List EntryL} (h : Small l) (m : Nat) : (allTo l m).length ≤ m * 67110400 := by
  induction m with
  | zero => simp [allTo]
  | succ m ih =>
    rw [allTo_succ]
    have h1 := blockE_len (grpL_small h m) []
    have h2 := grpL_length l m
    rw [List.length_append]
    omega
set_option maxRecDepth 100000 in
set_option maxHeartbeats 800000 in
theorem DPack_ok (v : Value) (l : List EntryL) (w : World) (base : Nat) (hown : w.ownsRow base 155 2 v l.length (pairVs l)) (hr1 : entriesRight [] l = true) (hr2 : l.length ≤ 1048576) (hl : Small l) :
    Calls Tryz.prog 109 #[v] w fun e w' => e = .returned (.tuple #[.string ⟨(dictE l).toArray⟩, .int .i64 0]) ∧ Q w w' := by
  have hv : Pairs w v l := Sl.of_owns hown
  have c := DRight_any v l w hv (by omega) (fun e he => by have := hl e he; omega)
  rw [hr1, decide_eq_true hr2, Bool.and_true] at c
  obtain ⟨a, cap, rfl, hcell⟩ := hv.value
  have hcap : l.length ≤ cap ∧ (cap : Int) ≤ 9223372036854775807 := by
    rcases hown.2 with ⟨h, h0⟩ | ⟨g, cp, cur, h, _, _, h1, h2, _⟩
    · injection h with e1 e2 e3; omega
    · injection h with e1 e2 e3; unfold maxLen at h2; subst e3; exact ⟨h1, by omega⟩
  obtain ⟨hcap1, hcap2⟩ := hcap
  have C := Lib.hid c; have HC := Lib.hid hcell; have HL := Lib.hid hl
  clear c hv hl hcell hr1 hown
  go_enter Tryz.func109, Tryz.ntmps109
  go_wp2_with fail
  refine C.out.mono ?_
  rintro e w1 ⟨rfl, q1⟩
  have hsz1 := q1.size
  have cv := Var_any _ [l.length] (((w1.alloc (.cells #[.pointer none, .slice none 0 0] 124)).alloc (.cells #[.pointer none, .slice none 0 0] 124)).alloc (.cells #[.int .u64 (l.length : Nat)] 130)) (Sl.lit _ #[.int .u64 (l.length : Nat)] 130 1 1 rfl) (by simp) (by intro n hn'; simp at hn'; omega)
  simp only [World.size_alloc] at cv
  have hve : varsE [l.length] = varE l.length := by simp [varsE]
  rw [hve] at cv
  have hb1 : Bld (((w1.alloc (.cells #[.pointer none, .slice none 0 0] 124)).alloc (.cells #[.pointer none, .slice none 0 0] 124)).alloc (.cells #[.int .u64 (l.length : Nat)] 130)) w.heap.size w1.heap.size none [] := ((Bld.new w1 _ hsz1).alloc _).alloc _
  have hb2 : Bld (((w1.alloc (.cells #[.pointer none, .slice none 0 0] 124)).alloc (.cells #[.pointer none, .slice none 0 0] 124)).alloc (.cells #[.int .u64 (l.length : Nat)] 130)) w.heap.size (w1.heap.size + 1) none [] := by
    have := (Bld.new (w1.alloc (.cells #[.pointer none, .slice none 0 0] 124)) w.heap.size (by simp; omega)).alloc (.cells #[.int .u64 (l.length : Nat)] 130)
    simpa using this
  have hbb : Below w.heap.size w (((w1.alloc (.cells #[.pointer none, .slice none 0 0] 124)).alloc (.cells #[.pointer none, .slice none 0 0] 124)).alloc (.cells #[.int .u64 (l.length : Nat)] 130)) := (((show Below w.heap.size w w1 from q1).alloc hsz1 _).alloc (by simp; omega) _).alloc (by simp; omega) _
  have CV := Lib.hid cv; have HB1 := Lib.hid hb1; have HB2 := Lib.hid hb2; have HBB := Lib.hid hbb; clear cv hve hb1 hb2 hbb q1
  go_wp2_with fail
  refine CV.out.mono ?_
  rintro e w2 ⟨rfl, q2⟩
  have k1 := HB1.out.q q2
  have k2 := HB2.out.q q2
  have kb := HBB.out.trans (Below.mono q2 HBB.out.size)
  have hvl := varE_len l.length
  have cw := WriteString_any w.heap.size w1.heap.size none [] (varE l.length) w2 k1 (by simp; omega) kb.size
  have CW := Lib.hid cw; have K1 := Lib.hid k1; have K2 := Lib.hid k2; have KB := Lib.hid kb
  clear cw k1 k2 kb q2 HB1 HB2 HBB CV
  go_wp2_with fail
  refine CW.out.mono ?_
  rintro e w3 ⟨rfl, hs3, r1, hbld1, hfr1⟩
  have m2 := K2.out.aside K1.out hs3 (by omega) Far.new
  have mb := KB.out.trans (K1.out.below hs3 KB.out.size)
  have hst : Bs2 w3 w.heap.size w1.heap.size (w1.heap.size + 1) (idxTo l 0) (allTo l 0) := ⟨r1, none, by simpa [idxTo] using hbld1, by simpa [allTo] using m2, Far.new⟩
  have HST := Lib.hid hst; have MB := Lib.hid mb
  clear hst mb m2 hs3 hbld1 hfr1 K1 K2 KB CW
  go_wp2_with fail
  go_loopw [6] (fun i wr => ∃ m : Nat, i = .int .i64 (16 * (m : Int)) ∧ (m = 0 ∨ 16 * (m - 1) < l.length) ∧ Hid (Bs2 wr w.heap.size w1.heap.size (w1.heap.size + 1) (idxTo l m) (allTo l m)) ∧ Hid (Below w.heap.size w wr)) (fun i _ => l.length + 16 - (intOf i).toNat)
  case atStart => exact ⟨0, rfl, .inl rfl, HST, MB⟩
  case round =>
    obtain ⟨m, rfl, hm, HS, HB⟩ := hrel
    obtain ⟨wo, rfl⟩ : ∃ wo : World, wo = wr := ⟨_, rfl⟩
    have hszo := HB.out.size
    by_cases hlt : 16 * m < l.length
    · obtain ⟨b, off, rfl, hc⟩ := HC.out (by omega)
      have HCC := Lib.hid hc; clear hc
      have hne : ¬ cap = 16 * m := by omega
      have hgl := grpL_length l m
      have hg : (min (l.length : Int) (16 * (m : Int) + 16)).toNat - 16 * m = (grpL l m).length := by rw [hgl]; omega
      have hmm : m ≤ 65536 := by omega
      have HGL := Lib.hid hgl
      have hbn : Bs3 (wo.alloc (.cells #[.pointer none, .slice none 0 0] 124)) w.heap.size w1.heap.size (w1.heap.size + 1) wo.heap.size (idxTo l m) (allTo l m) [] := by
        obtain ⟨r1, r2, h1, h2, hf⟩ := HS.out
        exact ⟨r1, r2, none, h1.alloc _, h2.alloc _, Bld.new wo _ hszo, hf, Far.new, Far.new⟩
      have hltb : w1.heap.size + 1 < wo.heap.size := by obtain ⟨_, _, _, h2, _⟩ := HS.out; exact h2.lt
      have hbo := HB.out.alloc hszo (.cells #[.pointer none, .slice none 0 0] 124)
      have HG := Lib.hid hg; have HBN := Lib.hid hbn; have HBO := Lib.hid hbo; clear hg hbn hbo HS HB hgl
      by_cases hmin : 16 * m + 16 < l.length
      all_goals
        go_wp2_with fail
        simp only [HG.out, decide_eq_true (show 16 * (m : Int) < (l.length : Int) by omega)]
        go_loopw [8, 36] (fun last i wr => ∃ j : Nat, j ≤ (grpL l m).length ∧ i = .int .i64 (j : Nat) ∧ last = .string ⟨(lastAt (grpL l m) j).toArray⟩ ∧ Hid (Bs3 wr w.heap.size w1.heap.size (w1.heap.size + 1) wo.heap.size (idxTo l m) (allTo l m) (blockE [] ((grpL l m).take j))) ∧ Hid (Below w.heap.size w wr)) (fun last i _ => (grpL l m).length - (intOf i).toNat)
        case atStart => exact ⟨0, by omega, rfl, rfl, HBN, HBO⟩
        case round =>
          obtain ⟨j, hj, rfl, rfl, HS3, HB3⟩ := hrel
          obtain ⟨wi, rfl⟩ : ∃ wi : World, wi = wr := ⟨_, rfl⟩
          have hszi := HB3.out.size
          by_cases hjl : j < (grpL l m).length
          · have hml : 16 * m + j < l.length := by rw [HGL.out] at hjl; omega
            have hel := grpL_at l m j hjl hml
            obtain ⟨hc1, hc2⟩ := HCC.out (16 * m + j) hml
            have hw1 := cell_stays HB3.out hc1
            have hw2 := cell_stays HB3.out hc2
            rw [← hel, show off + (16 * m + j) * 2 = off + 16 * m * 2 + j * 2 by omega] at hw1 hw2
            have hlen := grpL_small HL.out m _ (List.getElem_mem hjl)
            have hll := lastAt_len (grpL_small HL.out m) j hjl
            have hta := blockE_take (grpL l m) j hjl
            have hls := lastAt_succ (grpL l m) j hjl
            have hbl := blockE_len (g := (grpL l m).take j) (fun e he => grpL_small HL.out m e (List.mem_of_mem_take he)) []
            rw [List.length_take, HGL.out] at hbl
            have HTA := Lib.hid hta; have HLS := Lib.hid hls
            clear hc1 hc2 hel hta hls
            generalize (grpL l m)[j] = el at *
            obtain ⟨t, v⟩ := el
            simp only at hw1 hw2 hlen HTA HLS
            have hal := alikeN_le (lastAt (grpL l m) j) t
            have hk : PK w (wi.alloc (.cells #[.string ⟨t.toArray⟩, .string ⟨v.toArray⟩] 155)) w.heap.size w1.heap.size (w1.heap.size + 1) wo.heap.size wi.heap.size (idxTo l m) (allTo l m) (blockE [] ((grpL l m).take j)) t v :=
              ⟨(HS3.out).q (Q.alloc _ _), heap_alloc_new _ _, (HB3.out).alloc hszi _, Nat.le_refl _⟩
            have ca := alike_any (lastAt (grpL l m) j) t (wi.alloc (.cells #[.string ⟨t.toArray⟩, .string ⟨v.toArray⟩] 155)) (by omega) (by omega)
            have CA := Lib.hid ca; have KK := Lib.hid hk; have HAL := Lib.hid hal.1
            clear ca hk hal
            go_wp2_with fail
            refine CA.out.mono ?_
            rintro e w5 ⟨rfl, q5⟩
            have k5 := KK.out.q q5
            have K5 := Lib.hid k5
            clear k5 q5 CA KK
            go_wp2_with fail
            refine pack_row w.heap.size w1.heap.size (w1.heap.size + 1) wo.heap.size wi.heap.size (alikeN (lastAt (grpL l m) j) t) _ _ _ t v w w5 K5.out (by omega) (by omega) HAL.out hlen.1 hlen.2 (by omega) _ _ _ _ _ _ _ _ _ _ _ _ _ _ _ _ _ _ _ _ _ _ _ _ _ _ _ _ _ _ _ _ _ _ _ _ _ _ _ _ _ _ _ _ _ _ _ _ _ _ _ _ _ _ _ _ _ _ _ _ _ _ _ _ _ _ _ _ _ _ _ _ _ _ _ _ _ ?_
            intro w6 z44 z45 z46 z47 z48 z49 z50 z51 z52 z53 z54 z55 z56 z57 k6
            obtain ⟨x0, x1⟩ := cells2 k6.2.1
            have S6 := Lib.hid k6.1; have B6 := Lib.hid k6.2.2.1
            clear k6 K5
            go_wp2_with fail
            go_roundw
            case rel => exact ⟨j + 1, by omega, by go_num, by rw [HLS.out], by show Bs3 _ _ _ _ _ _ _ _; rw [HTA.out]; exact S6.out, B6.out⟩
            case measure => simp [intOf]; omega
          · have hje : j = (grpL l m).length := by omega
            subst hje
            rw [List.take_length] at HS3
            obtain ⟨hc1, _⟩ := HCC.out (16 * m) hlt
            have hw1 := cell_stays HB3.out hc1
            have hhd : (l[16 * m]).1 = ((grpL l m).headD ([], [])).1 := by simp [grpL, List.headD_eq_head?_getD, List.head?_eq_getElem?, List.getElem?_take, hlt]
            rw [hhd, show off + (16 * m) * 2 = off + 16 * m * 2 by omega] at hw1
            have hil := idxTo_len HL.out m
            have hall := allTo_len HL.out m
            have hbl := blockE_len (grpL_small HL.out m) []
            have hhl := headD_len (grpL_small HL.out m)
            have his := idxTo_succ l m
            have has := allTo_succ l m
            have HIS := Lib.hid his; have HAS := Lib.hid has
            clear hc1 hhd his has
            generalize ((grpL l m).headD ([], [])).1 = hd at *
            have hgn : (grpL l m).length ≤ 16 := by rw [HGL.out]; omega
            have h3 : B3 w wi w1.heap.size (w1.heap.size + 1) wo.heap.size (idxTo l m) (allTo l m) (blockE [] (grpL l m)) := ⟨HS3.out, HB3.out⟩
            generalize blockE [] (grpL l m) = bk at *
            have ct := Text_any _ [hd] _ (Strs.lit1 wi hd 9) (by simp) (by intro p hp; rw [List.mem_singleton] at hp; subst hp; omega)
            rw [show textsE [hd] = textE hd by simp [textsE]] at ct
            have htl := textE_len hd
            have CT := Lib.hid ct; have H3 := Lib.hid (h3.al (.cells #[.string ⟨hd.toArray⟩] 9))
            clear ct h3 HS3 HB3
            go_wp2_with fail
            refine CT.out.mono ?_
            rintro e w5 ⟨rfl, q5⟩
            have h5 := H3.out.q q5
            have cl := Bs3_len _ _ _ _ _ _ _ _ h5.1
            have cv := Var_any _ [bk.length] (w5.alloc (.cells #[.int .u64 (bk.length : Nat)] 130)) (Sl.lit _ #[.int .u64 (bk.length : Nat)] 130 1 1 rfl) (by simp) (by intro n hn'; simp at hn'; omega)
            rw [show varsE [bk.length] = varE bk.length by simp [varsE]] at cv
            have hvl2 := varE_len bk.length
            have CL := Lib.hid cl; have CV := Lib.hid cv; have H5 := Lib.hid (h5.al (.cells #[.int .u64 (bk.length : Nat)] 130))
            clear cl cv h5 q5 CT H3
            go_wp2_with fail
            refine CL.out.mono ?_
            rintro e w6 ⟨rfl, rfl⟩
            go_wp2_with fail
            refine CV.out.mono ?_
            rintro e w7 ⟨rfl, q7⟩
            have h7 := H5.out.q q7
            have cw := B3_write1 _ w w7 w1.heap.size (w1.heap.size + 1) wo.heap.size _ _ _ _ (bytes_append (textE hd) (varE bk.length)) h7 (by omega) (by omega) (by rw [List.length_append]; omega)
            rw [← HIS.out] at cw
            have CW := Lib.hid cw
            clear cw h7 q7 CL CV H5
            go_wp2_with fail
            refine CW.out.mono ?_
            rintro e w8 ⟨rfl, h8⟩
            have cs := B3_string _ _ _ _ _ _ _ _ h8 (by omega) (by omega)
            have CS := Lib.hid cs
            clear cs h8 CW
            go_wp2_with fail
            refine CS.out.mono ?_
            rintro e w9 ⟨rfl, h9, hb9⟩
            have cw := Bs2_write2 _ w w9 w1.heap.size (w1.heap.size + 1) _ _ bk rfl h9 hb9 (by omega) (by omega)
            rw [← HAS.out] at cw
            have CW := Lib.hid cw
            clear cw h9 hb9 CS
            go_wp2_with fail
            refine CW.out.mono ?_
            rintro e w10 ⟨rfl, h10, hb10⟩
            have H10 := Lib.hid h10; have HB10 := Lib.hid hb10
            clear h10 hb10 CW
            go_wp2_with fail
            go_roundw
            case rel => exact ⟨m + 1, by go_num, .inr (by omega), H10, HB10⟩
            case measure => simp [intOf]; omega
    · have hfin := dictE_eq l m (by omega) hm
      have hil := idxTo_len HL.out m
      have hall := allTo_len HL.out m
      have hm2 : m ≤ 65537 := by omega
      have c1 := Bs2_string1 w wo w1.heap.size (w1.heap.size + 1) _ _ HS.out HB.out (by omega)
      have HF := Lib.hid hfin; have C1 := Lib.hid c1
      clear hfin c1 HS HB
      generalize idxTo l m = il at *
      generalize allTo l m = al at *
      go_wp2_with fail
      refine C1.out.mono ?_
      rintro e w3 ⟨rfl, ⟨r2, hb3⟩, hbe3⟩
      have c2 := String_step _ _ _ _ _ hb3
      have C2 := Lib.hid c2; have HB3 := Lib.hid hb3; have HE3 := Lib.hid hbe3
      clear c2 hb3 hbe3 C1
      go_wp2_with fail
      refine C2.out.mono ?_
      rintro e w4 ⟨rfl, hs⟩
      have hb4 := HE3.out.trans (HB3.out.below hs HE3.out.size)
      have HB4 := Lib.hid hb4
      clear hb4 hs C2 HB3 HE3
      go_wp2_with fail
      go_ret2
      exact ⟨ret_str_int (by rw [bytes_append, HF.out]), HB4.out⟩
end Go.Proofs.YtepofekepagfhaaGreatDoor
end

/- (Wire2) Plain laws of chapter 2: how a number is read. No program in sight. -/
section
namespace Go.Proofs.YtepofekepagfhaaGreatDoor

def byteN (s : Bytes) (k : Nat) : Nat := (s.getD k 0).toNat
/-- what the first k bytes tell -/
def accN (s : Bytes) : Nat → Nat
  | 0 => 0
  | k + 1 => accN s k + byteN s k % 128 * 128 ^ k
theorem byteN_lt (s : Bytes) (k : Nat) : byteN s k < 256 := UInt8.toNat_lt _
theorem accN_lt (s : Bytes) (k : Nat) : accN s k < 128 ^ k := by
  induction k with
  | zero => simp [accN]
  | succ k ih =>
    rw [accN, Nat.pow_succ]
    have h1 : byteN s k % 128 ≤ 127 := by omega
    have h2 := Nat.mul_le_mul_right (128 ^ k) h1
    omega
theorem accN_cons (c : UInt8) (t : Bytes) (k : Nat) : accN (c :: t) (k + 1) = c.toNat % 128 + 128 * accN t k := by
  induction k with
  | zero => simp [accN, byteN]
  | succ k ih =>
    rw [accN, ih, accN]
    have : byteN (c :: t) (k + 1) = byteN t k := rfl
    rw [this, Nat.pow_succ, Nat.mul_add]
    have e : byteN t k % 128 * (128 ^ k * 128) = 128 * (byteN t k % 128 * 128 ^ k) := by rw [← Nat.mul_assoc, Nat.mul_comm]
    rw [e]; omega
/-- a number's bytes: all but the last go on; the last one ends it, and is no nought unless it stands alone -/
def Ends (s : Bytes) (k : Nat) : Prop := k < s.length ∧ (∀ j, j < k → 128 ≤ byteN s j) ∧ byteN s k < 128 ∧ (0 < k → byteN s k ≠ 0)
theorem accN_pos (s : Bytes) (k : Nat) (h : Ends s k) (hk : 0 < k) : 0 < accN s (k + 1) := by
  rw [accN]
  have h1 : 0 < byteN s k % 128 := by have := h.2.2.1; have := h.2.2.2 hk; omega
  have := Nat.mul_pos h1 (Nat.pow_pos (n := k) (show 0 < 128 by omega))
  omega
theorem varF_of_ends (n k : Nat) (s : Bytes) (h : Ends s k) (hn : k < n) : varF n (accN s (k + 1)) = s.take (k + 1) := by
  induction k generalizing n s with
  | zero =>
    obtain ⟨h1, _, h3, _⟩ := h
    cases s with
    | nil => simp at h1
    | cons c t =>
      cases n with
      | zero => omega
      | succ n =>
        have e : accN (c :: t) 1 = c.toNat := by
          have : c.toNat < 128 := h3
          simp [accN, byteN]; omega
        have hc : c.toNat < 128 := h3
        rw [Nat.zero_add, e, varF, if_pos hc]
        simp
  | succ k ih =>
    obtain ⟨h1, h2, h3, h4⟩ := h
    cases s with
    | nil => simp at h1
    | cons c t =>
      cases n with
      | zero => omega
      | succ n =>
        have ht : Ends t k := ⟨by simpa using h1, fun j hj => h2 (j + 1) (by omega), h3, fun _ => h4 (by omega)⟩
        have hpos : 0 < accN t (k + 1) := by
          by_cases hk : 0 < k
          · exact accN_pos t k ht hk
          · have hk0 : k = 0 := by omega
            subst hk0
            have h5 : byteN t 0 ≠ 0 := h4 (by omega)
            have h6 : byteN t 0 < 128 := h3
            have e : accN t (0 + 1) = byteN t 0 % 128 := by simp [accN]
            rw [e]; omega
        have hc : 128 ≤ c.toNat := h2 0 (by omega)
        have hc2 := UInt8.toNat_lt c
        rw [accN_cons, varF, if_neg (by omega), show (c.toNat % 128 + 128 * accN t (k + 1)) % 128 + 128 = c.toNat by omega,
          show (c.toNat % 128 + 128 * accN t (k + 1)) / 128 = accN t (k + 1) by omega, ih n t ht (by omega)]
        simp
theorem ends_of_varF (n v : Nat) (hv : v < 128 ^ n) (hn : 0 < n) : ∃ k, k < n ∧ (varF n v).length = k + 1 ∧ Ends (varF n v) k ∧ accN (varF n v) (k + 1) = v := by
  induction n generalizing v with
  | zero => omega
  | succ n ih =>
    rw [varF]
    by_cases h : v < 128
    · rw [if_pos h]
      have hb : byteN [UInt8.ofNat v] 0 = v := toNat_ofNat v (by omega)
      exact ⟨0, by omega, rfl, ⟨by simp, fun j hj => by omega, by rw [hb]; exact h, fun h0 => by omega⟩, by simp [accN, hb]; omega⟩
    · rw [if_neg h]
      have hn0 : 0 < n := by
        rcases Nat.eq_zero_or_pos n with h0 | h0
        · subst h0; simp at hv; omega
        · exact h0
      rw [Nat.pow_succ] at hv
      obtain ⟨k, h1, h2, ⟨h3, h4, h5, h6⟩, h7⟩ := ih (v / 128) (by rw [Nat.div_lt_iff_lt_mul (by omega)]; omega) hn0
      have hc : (UInt8.ofNat (v % 128 + 128)).toNat = v % 128 + 128 := toNat_ofNat _ (by omega)
      refine ⟨k + 1, by omega, by simp [h2], ⟨by simpa using h3, fun j hj => ?_, h5, fun _ => ?_⟩, ?_⟩
      · cases j with
        | zero => show 128 ≤ (UInt8.ofNat (v % 128 + 128)).toNat; omega
        | succ j => exact h4 j (by omega)
      · show byteN (varF n (v / 128)) k ≠ 0
        by_cases hk : 0 < k
        · exact h6 hk
        · have hk0 : k = 0 := by omega
          subst hk0
          rw [Nat.zero_add, accN, accN] at h7
          simp at h7
          omega
      · rw [accN_cons, h7, hc]; omega
theorem pow9 : (128 : Nat) ^ 9 = 9223372036854775808 := by decide
/-- what ends a number is read as that number -/
theorem isVar_of_ends (s : Bytes) (k : Nat) (h : Ends s k) (hk : k < 10) (h9 : k = 9 → byteN s k ≤ 1) : IsVar s (accN s (k + 1)) (s.drop (k + 1)) := by
  refine ⟨?_, ?_⟩
  · have h1 := accN_lt s (k + 1)
    by_cases e : k = 9
    · subst e
      have h2 := accN_lt s 9
      rw [accN]
      have h3 := h9 rfl
      have h4 : byteN s 9 % 128 ≤ 1 := by omega
      have h5 := Nat.mul_le_mul_right (128 ^ 9) h4
      rw [pow9] at h2 h5 ⊢
      omega
    · have : 128 ^ (k + 1) ≤ 128 ^ 9 := Nat.pow_le_pow_right (by omega) (by omega)
      rw [pow9] at this
      omega
  · unfold varE
    rw [varF_of_ends 10 k s h hk, List.take_append_drop]
theorem byteN_append (a b : Bytes) (k : Nat) (h : k < a.length) : byteN (a ++ b) k = byteN a k := by
  unfold byteN
  rw [List.getD_eq_getElem?_getD, List.getD_eq_getElem?_getD, List.getElem?_append_left h]
/-- where a number is read, it ends -/
theorem ends_of_isVar (s : Bytes) (v : Nat) (r : Bytes) (h : IsVar s v r) : ∃ k, k < 10 ∧ Ends s k ∧ (k = 9 → byteN s k ≤ 1) := by
  obtain ⟨hv, rfl⟩ := h
  unfold varE
  obtain ⟨k, h1, h2, ⟨h3, h4, h5, h6⟩, h7⟩ := ends_of_varF 10 v (lt64 v hv) (by omega)
  refine ⟨k, h1, ⟨by simp; omega, fun j hj => ?_, ?_, fun h0 => ?_⟩, fun e => ?_⟩
  · rw [byteN_append _ _ _ (by omega)]; exact h4 j hj
  · rw [byteN_append _ _ _ (by omega)]; exact h5
  · rw [byteN_append _ _ _ (by omega)]; exact h6 h0
  · rw [byteN_append _ _ _ (by omega)]
    subst e
    rw [accN] at h7
    have h8 : byteN (varF 10 v) 9 % 128 = byteN (varF 10 v) 9 := by omega
    rw [h8, pow9] at h7
    by_cases h9 : byteN (varF 10 v) 9 ≤ 1
    · exact h9
    · have : 2 ≤ byteN (varF 10 v) 9 := by omega
      have := Nat.mul_le_mul_right 9223372036854775808 this
      omega
/-- a number ends at one place alone -/
theorem ends_one (s : Bytes) (j k : Nat) (h : Ends s j) (hj : byteN s k < 128) (hk : ∀ i, i < k → 128 ≤ byteN s i) : j = k := by
  rcases Nat.lt_trichotomy j k with h1 | h1 | h1
  · have := hk j h1; have := h.2.2.1; omega
  · exact h1
  · have := h.2.1 k h1; omega
end Go.Proofs.YtepofekepagfhaaGreatDoor
end

/- (WVar) wire.ToVar: walked -/
section
namespace Go.Proofs.YtepofekepagfhaaGreatDoor
open Go.RowKit
set_option linter.unusedVariables false

theorem byteAt (s : Bytes) (k : Nat) (h : k < s.length) : ((({ data := s.toArray } : ByteArray)[k]'h).toNat : Int) = (byteN s k : Nat) := by
  unfold byteN
  rw [List.getD_eq_getElem?_getD, List.getElem?_eq_getElem h]; rfl
/-- a byte more, in the walk's own spelling -/
theorem walk_or (s : Bytes) (k b : Nat) (hb : byteN s k = b) (hk : k < 10) (h9 : k = 9 → b ≤ 1) :
    bits .or .u64 ((accN s k : Nat) : Int) (IntKind.u64.wrap (IntKind.u64.wrap (bits .and .u8 (b : Int) 127) * 2 ^ (7 * k))) = ((accN s (k + 1) : Nat) : Int) := by
  have hlt : b < 256 := by rw [← hb]; exact byteN_lt s k
  have h1 : bits .and .u8 (b : Int) ((127 : Nat) : Int) = ((b &&& 127 : Nat) : Int) := u8_and_nat b 127 hlt (by decide)
  rw [show ((127 : Nat) : Int) = 127 from rfl, nat_mask7] at h1
  rw [h1]
  have hp : (128 : Nat) ^ k = 2 ^ (7 * k) := by rw [show 128 = 2 ^ 7 from rfl, ← Nat.pow_mul]
  have hpow : (2 : Nat) ^ (7 * k) ≤ 2 ^ 63 := Nat.pow_le_pow_right (by omega) (by omega)
  have hacc := accN_lt s k
  rw [hp] at hacc
  have h2 : b % 128 * 2 ^ (7 * k) < 18446744073709551616 := by
    by_cases e : k = 9
    · subst e
      have := h9 rfl
      have h3 : b % 128 ≤ 1 := by omega
      have := Nat.mul_le_mul_right (2 ^ (7 * 9)) h3
      have h4 : (2 : Nat) ^ (7 * 9) = 9223372036854775808 := by decide
      omega
    · have h3 : (2 : Nat) ^ (7 * k) ≤ 2 ^ 56 := Nat.pow_le_pow_right (by omega) (by omega)
      have h4 : b % 128 ≤ 127 := by omega
      have := Nat.mul_le_mul h4 h3
      have h5 : (127 : Nat) * 2 ^ 56 < 18446744073709551616 := by decide
      omega
  have w1 : IntKind.u64.wrap ((b % 128 : Nat) : Int) = ((b % 128 : Nat) : Int) := by
    simp only [IntKind.wrap, IntKind.bits, IntKind.signed]; simp; omega
  have w2 : IntKind.u64.wrap ((b % 128 * 2 ^ (7 * k) : Nat) : Int) = ((b % 128 * 2 ^ (7 * k) : Nat) : Int) := by
    generalize b % 128 * 2 ^ (7 * k) = z at *
    simp only [IntKind.wrap, IntKind.bits, IntKind.signed]; simp; omega
  rw [w1, show (((b % 128 : Nat) : Int) * 2 ^ (7 * k)) = ((b % 128 * 2 ^ (7 * k) : Nat) : Int) by simp, w2]
  have h63 : (2 : Nat) ^ 63 = 9223372036854775808 := by decide
  rw [u64_or_nat _ _ (by omega) h2]
  have hj := nat_join (7 * k) (b % 128 * 2 ^ (7 * k)) (accN s k) (by rw [Nat.mul_mod_left]) hacc
  rw [Nat.or_comm, hj, accN, hb, hp]
  congr 1
  omega

set_option maxHeartbeats 1000000 in
theorem ToVar_some (s : Bytes) (v : Nat) (r : Bytes) (w : World) (hs : s.length ≤ 9223372036854775807) (h : IsVar s v r) :
    Calls Tryz.prog 119 #[.string ⟨s.toArray⟩] w fun e w' => e = .returned (.tuple #[.int .u64 v, .string ⟨r.toArray⟩, .bool true]) ∧ Q w w' := by
  obtain ⟨k0, hk10, hends, h9⟩ := ends_of_isVar s v r h
  obtain ⟨rfl, rfl⟩ := IsVar.one h (isVar_of_ends s k0 hends hk10 h9)
  clear h
  obtain ⟨e1, e2, e3, e4⟩ := hends
  have E2 := Lib.hid e2; have E4 := Lib.hid e4; have H9 := Lib.hid h9
  clear e2 e4 h9
  by_cases hl : s.length ≤ 10
  all_goals
    go_enter Tryz.func119, Tryz.ntmps119
    go_wp2_with fail
    go_loop [11, 5, 6, 7] (fun i x _ _ => ∃ k : Nat, k ≤ k0 ∧ i = .int .i64 k ∧ x = .int .u64 (accN s k : Nat)) (fun i _ _ _ => 10 - (intOf i).toNat)
    case atStart => exact ⟨0, by omega, rfl, rfl⟩
    case round =>
      obtain ⟨k, hk, rfl, rfl⟩ := hrel
      have hb := byteN_lt s k
      have hacc := accN_lt s k
      have hsl : k < s.length := by omega
      have hbk : ((({ data := s.toArray } : ByteArray)[k]'hsl).toNat : Int) = (byteN s k : Nat) := byteAt s k hsl
      by_cases hlt : k < k0
      · have hb2 := E2.out k hlt
        have hw := walk_or s k (byteN s k) rfl (by omega) (fun h => by omega)
        have hx1 : (127 : Int) < (({ data := s.toArray } : ByteArray)[k]'hsl).toNat := by rw [hbk]; omega
        rw [← hbk] at hw
        have HW := Lib.hid hw; clear hw hbk
        go_wp2_with fail
        go_round
        case rel => exact ⟨k + 1, by omega, by go_num, int_eq (by rw [← HW.out])⟩
        case measure => simp [intOf]; omega
      · have hkk : k = k0 := by omega
        subst hkk
        have hw := walk_or s k (byteN s k) rfl hk10 H9.out
        rw [← hbk] at hw
        have hx1 : (({ data := s.toArray } : ByteArray)[k]'hsl).toNat ≤ (127 : Int) := by rw [hbk]; omega
        have hx0 : (0 : Int) ≤ (({ data := s.toArray } : ByteArray)[k]'hsl).toNat := by omega
        have h9b : k = 9 → ((({ data := s.toArray } : ByteArray)[k]'hsl).toNat : Int) ≤ 1 := fun h => by rw [hbk]; have := H9.out h; omega
        have h0b : 0 < k → ((((({ data := s.toArray } : ByteArray)[k]'hsl).toNat : Int)) == 0) = false := fun h => by
          rw [beq_eq_false_iff_ne, hbk]; have := E4.out h; omega
        have hdrop : s.drop (k + 1) = (s.drop (k + 1)) := rfl
        have HW := Lib.hid hw; have H9B := Lib.hid h9b; have H0B := Lib.hid h0b; clear hw hbk h9b h0b hdrop
        by_cases h9 : k = 9
        · have q9 : ((k : Int) == 9) = true := by rw [beq_iff_eq]; omega
          have q1 := H9B.out h9
          have q0 := H0B.out (by omega)
          have hk0 : 0 < k := by omega
          clear h9
          go_wp2_with fail
          have z1 : IntKind.i64.wrap ((k : Int) + 1) = (k : Int) + 1 := IntWalk.i64_in _ (by omega)
          have z2 : (0 : Int) ≤ (k : Int) + 1 := by omega
          have z3 : ((k : Int) + 1).toNat = k + 1 := by omega
          go_quiet (fail)
          clear z1 z2 z3
          go_wp2_with fail
          go_ret3
          exact ⟨ret_num_str HW.out (bytes_drop s (k + 1)), Q.drewN _ _⟩
        · have q9 : ((k : Int) == 9) = false := by rw [beq_eq_false_iff_ne]; omega
          clear h9
          by_cases hk0 : 0 < k
          · have q0 := H0B.out hk0
            go_wp2_with fail
            have z1 : IntKind.i64.wrap ((k : Int) + 1) = (k : Int) + 1 := IntWalk.i64_in _ (by omega)
            have z2 : (0 : Int) ≤ (k : Int) + 1 := by omega
            have z3 : ((k : Int) + 1).toNat = k + 1 := by omega
            go_quiet (fail)
            clear z1 z2 z3
            go_wp2_with fail
            go_ret3
            exact ⟨ret_num_str HW.out (bytes_drop s (k + 1)), Q.drewN _ _⟩
          · have hk0 : k = 0 := by omega
            subst hk0
            have hw0 := HW.out
            rw [show ((2 : Int) ^ (7 * 0)) = 1 from rfl, Int.mul_one] at hw0
            have HW := Lib.hid hw0
            clear hw0
            go_wp2_with fail
            have z1 : IntKind.i64.wrap 1 = 1 := IntWalk.i64_in _ (by omega)
            go_quiet (fail)
            clear z1
            go_wp2_with fail
            go_ret3
            exact ⟨ret_num_str HW.out (bytes_drop s (0 + 1)), Q.drewN _ _⟩

set_option maxHeartbeats 1000000 in
theorem ToVar_none (s : Bytes) (w : World) (hs : s.length ≤ 9223372036854775807) (h : ∀ v r, ¬ IsVar s v r) :
    Calls Tryz.prog 119 #[.string ⟨s.toArray⟩] w fun e w' => e = .returned (.tuple #[.int .u64 0, .string ⟨([] : Bytes).toArray⟩, .bool false]) ∧ Q w w' := by
  have H := Lib.hid h; clear h
  by_cases hl : s.length ≤ 10
  all_goals
    go_enter Tryz.func119, Tryz.ntmps119
    go_wp2_with fail
    go_loop [11, 5, 6, 7] (fun i x _ _ => ∃ k : Nat, k ≤ s.length ∧ k ≤ 10 ∧ i = .int .i64 k ∧ (∃ z : Int, x = .int .u64 z) ∧ Hid (∀ j, j < k → 128 ≤ byteN s j)) (fun i _ _ _ => 10 - (intOf i).toNat)
    case atStart => exact ⟨0, by omega, by omega, rfl, ⟨0, rfl⟩, fun j h => by omega⟩
    case round =>
      obtain ⟨k, hk, hk10, rfl, ⟨z, rfl⟩, HJ⟩ := hrel
      have hb := byteN_lt s k
      by_cases hlt : k < s.length ∧ k < 10
      · obtain ⟨hsl, hk9⟩ := hlt
        have hbk : ((({ data := s.toArray } : ByteArray)[k]'hsl).toNat : Int) = (byteN s k : Nat) := byteAt s k hsl
        by_cases hgo : 128 ≤ byteN s k
        · have hx1 : (127 : Int) < (({ data := s.toArray } : ByteArray)[k]'hsl).toNat := by rw [hbk]; omega
          clear hbk
          go_wp2_with fail
          go_round
          case rel => exact ⟨k + 1, by omega, by omega, by go_num, ⟨_, rfl⟩, fun j hj => by
            by_cases e : j = k
            · subst e; exact hgo
            · exact HJ.out j (by omega)⟩
          case measure => simp [intOf]; omega
        · have hx1 : (({ data := s.toArray } : ByteArray)[k]'hsl).toNat ≤ (127 : Int) := by rw [hbk]; omega
          have hx0 : (0 : Int) ≤ (({ data := s.toArray } : ByteArray)[k]'hsl).toNat := by omega
          by_cases c9 : k = 9 ∧ 1 < byteN s k
          · have q9 : ((k : Int) == 9) = true := by rw [beq_iff_eq]; omega
            have q1 : (1 : Int) < (({ data := s.toArray } : ByteArray)[k]'hsl).toNat := by rw [hbk]; omega
            clear hbk c9
            go_wp2_with fail
            go_ret3
            exact ⟨rfl, Q.refl _⟩
          · by_cases c0 : 0 < k ∧ byteN s k = 0
            · obtain ⟨hk0, hz⟩ := c0
              have q0 : ((((({ data := s.toArray } : ByteArray)[k]'hsl).toNat : Int)) == 0) = true := by rw [beq_iff_eq, hbk]; omega
              clear hbk hz
              by_cases e9 : k = 9
              · have q9 : ((k : Int) == 9) = true := by rw [beq_iff_eq]; omega
                have q1 : (({ data := s.toArray } : ByteArray)[k]'hsl).toNat ≤ (1 : Int) := by rw [beq_iff_eq] at q0; omega
                clear e9 c9
                go_wp2_with fail
                go_ret3
                exact ⟨rfl, Q.refl _⟩
              · have q9 : ((k : Int) == 9) = false := by rw [beq_eq_false_iff_ne]; omega
                clear e9 c9
                go_wp2_with fail
                go_ret3
                exact ⟨rfl, Q.refl _⟩
            · exact absurd (isVar_of_ends s k ⟨hsl, HJ.out, by omega, fun h0 hz => c0 ⟨h0, hz⟩⟩ hk9 (fun e => by omega)) (H.out _ _)
      · have hge : s.length ≤ k ∨ 10 ≤ k := by omega
        go_wp2_with fail
        go_ret3
        exact ⟨rfl, Q.refl _⟩
end Go.Proofs.YtepofekepagfhaaGreatDoor
end

/- (WText) wire.ToText: walked -/
section
namespace Go.Proofs.YtepofekepagfhaaGreatDoor
open Go.RowKit
set_option linter.unusedVariables false

theorem IsText.var {s t r : Bytes} (h : IsText s t r) : IsVar s t.length (t ++ r) := by
  refine ⟨h.1, ?_⟩
  rw [h.2, textE, List.append_assoc]
theorem IsText.of_var {s r : Bytes} {v : Nat} (h : IsVar s v r) (hv : v ≤ r.length) : IsText s (r.take v) (r.drop v) := by
  have e : (r.take v).length = v := by rw [List.length_take]; omega
  refine ⟨by rw [e]; exact h.1, ?_⟩
  rw [textE, e, List.append_assoc, List.take_append_drop]
  exact h.2

set_option maxHeartbeats 1000000 in
theorem ToText_some (s t r : Bytes) (w : World) (hs : s.length ≤ 9223372036854775807) (h : IsText s t r) :
    Calls Tryz.prog 120 #[.string ⟨s.toArray⟩] w fun e w' => e = .returned (.tuple #[.string ⟨t.toArray⟩, .string ⟨r.toArray⟩, .bool true]) ∧ Q w w' := by
  have hv := h.var
  have hlen : s.length = (varE t.length).length + (t.length + r.length) := by rw [hv.2, List.length_append, List.length_append]
  have c := ToVar_some s t.length (t ++ r) w hs hv
  obtain ⟨rr, hrr⟩ : ∃ rr, rr = t ++ r := ⟨_, rfl⟩
  have hrl : rr.length = t.length + r.length := by rw [hrr, List.length_append]
  rw [← hrr] at c
  have hle : t.length ≤ rr.length := by omega
  have hrl2 : rr.length ≤ 9223372036854775807 := by omega
  have e1 : rr.take t.length = t := by rw [hrr, List.take_left']; rfl
  have e2 : rr.drop t.length = r := by rw [hrr, List.drop_left']; rfl
  generalize t.length = n at *
  have C := Lib.hid c; have E1 := Lib.hid e1; have E2 := Lib.hid e2
  clear c e1 e2 hrl hlen hv hrr h
  go_enter Tryz.func120, Tryz.ntmps120
  go_wp2_with fail
  refine C.out.mono ?_
  rintro e w1 ⟨rfl, q1⟩
  go_wp2_with fail
  go_quiet (fail)
  go_wp2_with fail
  go_ret3
  exact ⟨ret_str_str (by rw [bytes_take, E1.out]) (by rw [bytes_drop, E2.out]), q1.trans (Q.drewN _ _)⟩

set_option maxHeartbeats 1000000 in
theorem ToText_bad (s : Bytes) (w : World) (hs : s.length ≤ 9223372036854775807) (h : ∀ v r, ¬ IsVar s v r) :
    Calls Tryz.prog 120 #[.string ⟨s.toArray⟩] w fun e w' => e = .returned (.tuple #[.string ⟨([] : Bytes).toArray⟩, .string ⟨([] : Bytes).toArray⟩, .bool false]) ∧ Q w w' := by
  have c := ToVar_none s w hs h
  have C := Lib.hid c
  clear c h
  go_enter Tryz.func120, Tryz.ntmps120
  go_wp2_with fail
  refine C.out.mono ?_
  rintro e w1 ⟨rfl, q1⟩
  go_wp2_with fail
  go_ret3
  exact ⟨rfl, q1⟩
set_option maxHeartbeats 1000000 in
theorem ToText_long (s r : Bytes) (v : Nat) (w : World) (hs : s.length ≤ 9223372036854775807) (h : IsVar s v r) (hv : r.length < v) :
    Calls Tryz.prog 120 #[.string ⟨s.toArray⟩] w fun e w' => e = .returned (.tuple #[.string ⟨([] : Bytes).toArray⟩, .string ⟨([] : Bytes).toArray⟩, .bool false]) ∧ Q w w' := by
  have c := ToVar_some s v r w hs h
  have hr : r.length ≤ 9223372036854775807 := by have := congrArg List.length h.2; rw [List.length_append] at this; omega
  have hv2 := h.1
  have C := Lib.hid c
  clear c h
  go_enter Tryz.func120, Tryz.ntmps120
  go_wp2_with fail
  refine C.out.mono ?_
  rintro e w1 ⟨rfl, q1⟩
  go_wp2_with fail
  go_ret3
  exact ⟨rfl, q1⟩
theorem ToText_none (s : Bytes) (w : World) (hs : s.length ≤ 9223372036854775807) (h : ∀ t r, ¬ IsText s t r) :
    Calls Tryz.prog 120 #[.string ⟨s.toArray⟩] w fun e w' => e = .returned (.tuple #[.string ⟨([] : Bytes).toArray⟩, .string ⟨([] : Bytes).toArray⟩, .bool false]) ∧ Q w w' := by
  by_cases hv : ∃ v r, IsVar s v r
  · obtain ⟨v, r, hv⟩ := hv
    by_cases hl : v ≤ r.length
    · exact absurd (IsText.of_var hv hl) (h _ _)
    · exact ToText_long s r v w hs hv (by omega)
  · exact ToText_bad s w hs (fun v r hvr => hv ⟨v, r, hvr⟩)
end Go.Proofs.YtepofekepagfhaaGreatDoor
end
