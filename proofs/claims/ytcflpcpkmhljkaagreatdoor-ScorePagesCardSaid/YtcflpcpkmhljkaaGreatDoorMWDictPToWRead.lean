/- Joined texts of one proof: WDictP, Read, WRead. -/
import Derived.Test.YtcflpcpkmhljkaaGreatDoorMWFoldedToWWordsR
import Derived.Test.YtcflpcpkmhljkaaGreatDoorMTokToWDictR
import Derived.Test.YtcflpcpkmhljkaaGreatDoorMSegRdToWDictPR
import Derived.Test.YtcflpcpkmhljkaaGreatDoorMKitToSegSpec
import Derived.Test.YtcflpcpkmhljkaaGreatDoorMWire2ToMem3
import Derived.Deep.DeepMust
set_option linter.unusedSimpArgs false
set_option linter.unusedVariables false
set_option linter.unnecessarySimpa false
/- (WDictP) dict.Pack: walked. -/
section
namespace Go.Proofs.YtcflpcpkmhljkaaGreatDoor
open Go.RowKit
set_option linter.unusedVariables false

/-! ### plain -/
def grpL (l : List EntryL) (m : Nat) : List EntryL := (l.drop (16 * m)).take 16
def idxTo (l : List EntryL) (m : Nat) : Bytes := varE l.length ++ (List.range m).flatMap fun i => textE ((grpL l i).headD ([], [])).1 ++ varE (blockE [] (grpL l i)).length
def allTo (l : List EntryL) (m : Nat) : Bytes := (List.range m).flatMap fun i => blockE [] (grpL l i)
theorem idxTo_succ (l : List EntryL) (m : Nat) : idxTo l (m + 1) = idxTo l m ++ (textE ((grpL l m).headD ([], [])).1 ++ varE (blockE [] (grpL l m)).length) := by
  simp [idxTo, List.range_succ]
theorem allTo_succ (l : List EntryL) (m : Nat) : allTo l (m + 1) = allTo l m ++ blockE [] (grpL l m) := by
  simp [allTo, List.range_succ]
theorem groups_range (n : Nat) (l : List EntryL) (m : Nat) (h : l.length ≤ n) (h1 : l.length ≤ 16 * m) (h2 : m = 0 ∨ 16 * (m - 1) < l.length) : groupsF n l = (List.range m).map (grpL l) := by
  induction n generalizing l m with
  | zero =>
    have : l = [] := List.eq_nil_of_length_eq_zero (by omega)
    subst this
    have : m = 0 := by simp at h2; omega
    subst this; rfl
  | succ n ih =>
    rw [groupsF]
    by_cases h0 : l = []
    · subst h0
      have : m = 0 := by simp at h2; omega
      subst this; rfl
    · rw [if_neg h0]
      have hl : 0 < l.length := List.length_pos_iff.2 h0
      obtain ⟨k, rfl⟩ : ∃ k, m = k + 1 := ⟨m - 1, by omega⟩
      rw [ih (l.drop 16) k (by rw [List.length_drop]; omega) (by rw [List.length_drop]; omega) (by rw [List.length_drop]; omega), List.range_succ_eq_map, List.map_cons, List.map_map]
      congr 1
      apply List.map_congr_left
      intro i _
      show (List.drop (16 * i) (List.drop 16 l)).take 16 = (l.drop (16 * (i + 1))).take 16
      rw [List.drop_drop, show 16 + 16 * i = 16 * (i + 1) by omega]
theorem dictE_eq (l : List EntryL) (m : Nat) (h1 : l.length ≤ 16 * m) (h2 : m = 0 ∨ 16 * (m - 1) < l.length) : dictE l = idxTo l m ++ allTo l m := by
  unfold dictE
  rw [groups_range l.length l m (Nat.le_refl _) h1 h2]
  simp [idxTo, allTo, List.flatMap_map]
theorem blockE_snoc (last : Bytes) (l : List EntryL) (e : EntryL) : blockE last (l ++ [e]) = blockE last l ++ (varE (alikeN (if l = [] then last else (l.getLastD ([], [])).1) e.1) ++ (textE (e.1.drop (alikeN (if l = [] then last else (l.getLastD ([], [])).1) e.1)) ++ textE e.2)) := by
  induction l generalizing last with
  | nil => simp [blockE]
  | cons a l ih =>
    rw [List.cons_append, blockE, blockE, ih]
    cases l with
    | nil => simp
    | cons b l => simp [List.getLastD]
/-- the term ahead of the j-th of a group -/
def lastAt (g : List EntryL) (j : Nat) : Bytes := if j = 0 then [] else (g.getD (j - 1) ([], [])).1
theorem blockE_take (g : List EntryL) (j : Nat) (h : j < g.length) : blockE [] (g.take (j + 1)) = blockE [] (g.take j) ++ (varE (alikeN (lastAt g j) g[j].1) ++ (textE (g[j].1.drop (alikeN (lastAt g j) g[j].1)) ++ textE g[j].2)) := by
  have e : (if g.take j = [] then [] else ((g.take j).getLastD ([], [])).1) = lastAt g j := by
    unfold lastAt
    by_cases hj : j = 0
    · subst hj; simp
    · have hne : g.take j ≠ [] := fun e => by have := congrArg List.length e; rw [List.length_take, List.length_nil] at this; omega
      rw [if_neg hne, if_neg hj]
      congr 1
      rw [List.getLastD_eq_getLast?, List.getLast?_eq_getElem?, List.length_take, Nat.min_eq_left (by omega), List.getElem?_take, if_pos (by omega), List.getD_eq_getElem?_getD]
  rw [List.take_succ_eq_append_getElem h, blockE_snoc, e]
theorem alikeN_le (a b : Bytes) : alikeN a b ≤ b.length ∧ alikeN a b ≤ a.length := by
  induction a generalizing b with
  | nil => cases b <;> simp [alikeN]
  | cons x a ih =>
    cases b with
    | nil => simp [alikeN]
    | cons y b =>
      rw [alikeN]
      split
      · have := ih b; simp only [List.length_cons]; omega
      · simp

set_option maxRecDepth 100000 in
set_option maxHeartbeats 2000000 in
theorem DPack_bad (v : Value) (l : List EntryL) (w : World) (hv : Pairs w v l) (hn : l.length ≤ 9223372036854775807) (hl : ∀ e ∈ l, e.1.length ≤ 9223372036854775807 ∧ e.2.length ≤ 9223372036854775807) (hr : (entriesRight [] l && decide (l.length ≤ 1048576)) = false) :
    Calls Tryz.prog 174 #[v] w fun e w' => e = .returned (.tuple #[.string ⟨([] : Bytes).toArray⟩, .int .i64 1]) ∧ Q w w' := by
  have c := DRight_any v l w hv hn hl
  rw [hr] at c
  obtain ⟨a, cap, rfl, hcell⟩ := hv.value
  have C := Lib.hid c
  clear c hv hl hcell hr
  go_enter Tryz.func174, Tryz.ntmps174
  go_wp2_with fail
  refine C.out.mono ?_
  rintro e w1 ⟨rfl, q1⟩
  go_wp2_with fail
  go_ret2
  exact ⟨rfl, q1⟩

theorem Far.symm {r r2 : Option Nat} (h : Far r r2) : Far r2 r := by
  rcases h with rfl | h
  · exact Far.new
  · exact .inr (Ne.symm h)
def B3 (W0 w : World) (b1 b2 b3 : Nat) (l1 l2 l3 : Bytes) : Prop := Bs3 w W0.heap.size b1 b2 b3 l1 l2 l3 ∧ Below W0.heap.size W0 w
theorem B3.q {W0 w w' : World} {b1 b2 b3 : Nat} {l1 l2 l3 : Bytes} (h : B3 W0 w b1 b2 b3 l1 l2 l3) (hq : Q w w') : B3 W0 w' b1 b2 b3 l1 l2 l3 := ⟨h.1.q hq, h.2.trans (Below.mono hq h.2.size)⟩
theorem B3.al {W0 w : World} {b1 b2 b3 : Nat} {l1 l2 l3 : Bytes} (h : B3 W0 w b1 b2 b3 l1 l2 l3) (o : Obj) : B3 W0 (w.alloc o) b1 b2 b3 l1 l2 l3 := h.q (Q.alloc _ _)
theorem B3.bs2 {W0 w : World} {b1 b2 b3 : Nat} {l1 l2 l3 : Bytes} (h : B3 W0 w b1 b2 b3 l1 l2 l3) : Bs2 w W0.heap.size b1 b2 l1 l2 := by
  obtain ⟨⟨r1, r2, r3, h1, h2, h3, f, _⟩, _⟩ := h
  exact ⟨r1, r2, h1, h2, f⟩
theorem B3_write1 (x : ByteArray) (W0 w : World) (b1 b2 b3 : Nat) (l1 l2 l3 s : Bytes) (hx : x = ⟨s.toArray⟩) (h : B3 W0 w b1 b2 b3 l1 l2 l3) (h12 : b1 ≠ b2) (h13 : b1 ≠ b3) (hl : l1.length + s.length ≤ 140737488355328) :
    Calls Tryz.prog 135 #[.pointer (some ⟨b1, 0, none⟩), .string x] w fun e w' => e = .returned (.tuple #[.int .i64 s.length, .nilIface]) ∧ B3 W0 w' b1 b2 b3 (l1 ++ s) l2 l3 := by
  subst hx
  obtain ⟨⟨r1, r2, r3, h1, h2, h3, f12, f13, f23⟩, hB⟩ := h
  refine (WriteString_any _ b1 r1 l1 s w h1 hl hB.size).mono ?_
  rintro e w' ⟨rfl, hs, r', hb', hfr⟩
  exact ⟨rfl, ⟨r', r2, r3, hb', h2.aside h1 hs (Ne.symm h12) f12.symm, h3.aside h1 hs (Ne.symm h13) f13.symm, f12.fresh' hfr (fun k hk => (h2.row k hk).2), f13.fresh' hfr (fun k hk => (h3.row k hk).2), f23⟩, hB.trans (h1.below hs hB.size)⟩
theorem B3_write2 (x : ByteArray) (W0 w : World) (b1 b2 b3 : Nat) (l1 l2 l3 s : Bytes) (hx : x = ⟨s.toArray⟩) (h : B3 W0 w b1 b2 b3 l1 l2 l3) (h12 : b1 ≠ b2) (h23 : b2 ≠ b3) (hl : l2.length + s.length ≤ 140737488355328) :
    Calls Tryz.prog 135 #[.pointer (some ⟨b2, 0, none⟩), .string x] w fun e w' => e = .returned (.tuple #[.int .i64 s.length, .nilIface]) ∧ B3 W0 w' b1 b2 b3 l1 (l2 ++ s) l3 := by
  subst hx
  obtain ⟨⟨r1, r2, r3, h1, h2, h3, f12, f13, f23⟩, hB⟩ := h
  refine (WriteString_any _ b2 r2 l2 s w h2 hl hB.size).mono ?_
  rintro e w' ⟨rfl, hs, r', hb', hfr⟩
  exact ⟨rfl, ⟨r1, r', r3, h1.aside h2 hs h12 f12, hb', h3.aside h2 hs (Ne.symm h23) f23.symm, f12.fresh hfr (fun k hk => (h1.row k hk).2), f13, f23.fresh' hfr (fun k hk => (h3.row k hk).2)⟩, hB.trans (h2.below hs hB.size)⟩
theorem B3_string (W0 w : World) (b1 b2 b3 : Nat) (l1 l2 l3 : Bytes) (h : B3 W0 w b1 b2 b3 l1 l2 l3) (h13 : b1 ≠ b3) (h23 : b2 ≠ b3) :
    Calls Tryz.prog 116 #[.pointer (some ⟨b3, 0, none⟩)] w fun e w' => e = .returned (.string ⟨l3.toArray⟩) ∧ Bs2 w' W0.heap.size b1 b2 l1 l2 ∧ Below W0.heap.size W0 w' := by
  obtain ⟨⟨r1, r2, r3, h1, h2, h3, f12, f13, f23⟩, hB⟩ := h
  refine (String_step _ _ _ _ _ h3).mono ?_
  rintro e w' ⟨rfl, hs⟩
  exact ⟨rfl, ⟨r1, r2, h1.aside h3 hs h13 f13, h2.aside h3 hs h23 f23, f12⟩, hB.trans (h3.below hs hB.size)⟩
theorem Bs2_write2 (x : ByteArray) (W0 w : World) (b1 b2 : Nat) (l1 l2 s : Bytes) (hx : x = ⟨s.toArray⟩) (h : Bs2 w W0.heap.size b1 b2 l1 l2) (hB : Below W0.heap.size W0 w) (h12 : b1 ≠ b2) (hl : l2.length + s.length ≤ 140737488355328) :
    Calls Tryz.prog 135 #[.pointer (some ⟨b2, 0, none⟩), .string x] w fun e w' => e = .returned (.tuple #[.int .i64 s.length, .nilIface]) ∧ Bs2 w' W0.heap.size b1 b2 l1 (l2 ++ s) ∧ Below W0.heap.size W0 w' := by
  subst hx
  obtain ⟨r1, r2, h1, h2, f12⟩ := h
  refine (WriteString_any _ b2 r2 l2 s w h2 hl hB.size).mono ?_
  rintro e w' ⟨rfl, hs, r', hb', hfr⟩
  exact ⟨rfl, ⟨r1, r', h1.aside h2 hs h12 f12, hb', f12.fresh hfr (fun k hk => (h1.row k hk).2)⟩, hB.trans (h2.below hs hB.size)⟩
theorem Bs2_string1 (W0 w : World) (b1 b2 : Nat) (l1 l2 : Bytes) (h : Bs2 w W0.heap.size b1 b2 l1 l2) (hB : Below W0.heap.size W0 w) (h12 : b1 ≠ b2) :
    Calls Tryz.prog 116 #[.pointer (some ⟨b1, 0, none⟩)] w fun e w' => e = .returned (.string ⟨l1.toArray⟩) ∧ (∃ r2, Bld w' W0.heap.size b2 r2 l2) ∧ Below W0.heap.size W0 w' := by
  obtain ⟨r1, r2, h1, h2, f12⟩ := h
  refine (String_step _ _ _ _ _ h1).mono ?_
  rintro e w' ⟨rfl, hs⟩
  exact ⟨rfl, ⟨r2, h2.aside h1 hs (Ne.symm h12) f12.symm⟩, hB.trans (h1.below hs hB.size)⟩
theorem Bs3_len (w : World) (B b1 b2 b3 : Nat) (l1 l2 l3 : Bytes) (h : Bs3 w B b1 b2 b3 l1 l2 l3) :
    Calls Tryz.prog 206 #[.pointer (some ⟨b3, 0, none⟩)] w fun e w' => e = .returned (.int .i64 l3.length) ∧ w = w' := by
  obtain ⟨r1, r2, r3, h1, h2, h3, _⟩ := h
  exact Len_any B b3 r3 l3 w h3
theorem Strs.lit1 (w : World) (a : Bytes) (e : TypeId) : Strs (w.alloc (.cells #[.string ⟨a.toArray⟩] e)) (.slice (some ⟨w.heap.size, 0, none⟩) 1 1) [a] := Sl.lit w #[.string ⟨a.toArray⟩] e 1 1 rfl
theorem grpL_length (l : List EntryL) (m : Nat) : (grpL l m).length = min 16 (l.length - 16 * m) := by simp [grpL]
theorem grpL_at (l : List EntryL) (m j : Nat) (h : j < (grpL l m).length) (h2 : 16 * m + j < l.length) : (grpL l m)[j] = l[16 * m + j] := by simp [grpL]
theorem lastAt_succ (g : List EntryL) (j : Nat) (h : j < g.length) : lastAt g (j + 1) = g[j].1 := by
  simp [lastAt, List.getD_eq_getElem?_getD, h]
def Small (l : List EntryL) : Prop := ∀ e ∈ l, e.1.length ≤ 40 ∧ e.2.length ≤ 4194304
theorem grpL_small {l : List EntryL} (h : Small l) (m : Nat) : Small (grpL l m) := fun e he => h e (List.mem_of_mem_drop (List.mem_of_mem_take he))
theorem lastAt_len {g : List EntryL} (h : Small g) (j : Nat) (hj : j < g.length) : (lastAt g j).length ≤ 40 := by
  unfold lastAt
  split
  · simp
  · rw [List.getD_eq_getElem?_getD, List.getElem?_eq_getElem (by omega)]
    exact (h _ (List.getElem_mem _)).1
theorem blockE_len {g : List EntryL} (h : Small g) (last : Bytes) : (blockE last g).length ≤ g.length * 4194400 := by
  induction g generalizing last with
  | nil => simp [blockE]
  | cons e g ih =>
    have h1 := ih (fun x hx => h x (List.mem_cons_of_mem _ hx)) e.1
    have h2 := h e (List.mem_cons_self ..)
    have h3 := varE_len (alikeN last e.1)
    have h4 := textE_len (e.1.drop (alikeN last e.1))
    have h5 := textE_len e.2
    simp only [blockE, List.length_append, List.length_cons]
    rw [List.length_drop] at h4
    omega
theorem headD_len {g : List EntryL} (h : Small g) : (g.headD ([], [])).1.length ≤ 40 := by
  cases g with
  | nil => simp
  | cons e g => exact (h e (List.mem_cons_self ..)).1
theorem idxTo_len {l : List EntryL} (h : Small l) (m : Nat) : (idxTo l m).length ≤ 10 + m * 60 := by
  induction m with
  | zero => have := varE_len l.length; simp [idxTo]; omega
  | succ m ih =>
    rw [idxTo_succ]
    have h1 := headD_len (grpL_small h m)
    have h2 := textE_len ((grpL l m).headD ([], [])).1
    have h3 := varE_len (blockE [] (grpL l m)).length
    simp only [List.length_append]
    omega
theorem allTo_len {l : List EntryL} (h : Small l) (m : Nat) : (allTo l m).length ≤ m * 67110400 := by
  induction m with
  | zero => simp [allTo]
  | succ m ih =>
    rw [allTo_succ]
    have h1 := blockE_len (grpL_small h m) []
    have h2 := grpL_length l m
    rw [List.length_append]
    omega
set_option maxRecDepth 100000 in
set_option maxHeartbeats 800000 in
theorem DPack_ok (v : Value) (l : List EntryL) (w : World) (base : Nat) (hown : w.ownsRow base 240 2 v l.length (pairVs l)) (hr1 : entriesRight [] l = true) (hr2 : l.length ≤ 1048576) (hl : Small l) :
    Calls Tryz.prog 174 #[v] w fun e w' => e = .returned (.tuple #[.string ⟨(dictE l).toArray⟩, .int .i64 0]) ∧ Q w w' := by
  have hv : Pairs w v l := Sl.of_owns hown
  have c := DRight_any v l w hv (by omega) (fun e he => by have := hl e he; omega)
  rw [hr1, decide_eq_true hr2, Bool.and_true] at c
  obtain ⟨a, cap, rfl, hcell⟩ := hv.value
  have hcap : l.length ≤ cap ∧ (cap : Int) ≤ 9223372036854775807 := by
    rcases hown.2 with ⟨h, h0⟩ | ⟨g, cp, cur, h, _, _, h1, h2, _⟩
    · injection h with e1 e2 e3; omega
    · injection h with e1 e2 e3; unfold maxLen at h2; subst e3; exact ⟨h1, by omega⟩
  obtain ⟨hcap1, hcap2⟩ := hcap
  have C := Lib.hid c; have HC := Lib.hid hcell; have HL := Lib.hid hl
  clear c hv hl hcell hr1 hown
  go_enter Tryz.func174, Tryz.ntmps174
  go_wp2_with fail
  refine C.out.mono ?_
  rintro e w1 ⟨rfl, q1⟩
  have hsz1 := q1.size
  have cv := Var_any _ [l.length] (((w1.alloc (.cells #[.pointer none, .slice none 0 0] 190)).alloc (.cells #[.pointer none, .slice none 0 0] 190)).alloc (.cells #[.int .u64 (l.length : Nat)] 132)) (Sl.lit _ #[.int .u64 (l.length : Nat)] 132 1 1 rfl) (by simp) (by intro n hn'; simp at hn'; omega)
  simp only [World.size_alloc] at cv
  have hve : varsE [l.length] = varE l.length := by simp [varsE]
  rw [hve] at cv
  have hb1 : Bld (((w1.alloc (.cells #[.pointer none, .slice none 0 0] 190)).alloc (.cells #[.pointer none, .slice none 0 0] 190)).alloc (.cells #[.int .u64 (l.length : Nat)] 132)) w.heap.size w1.heap.size none [] := ((Bld.new w1 _ hsz1).alloc _).alloc _
  have hb2 : Bld (((w1.alloc (.cells #[.pointer none, .slice none 0 0] 190)).alloc (.cells #[.pointer none, .slice none 0 0] 190)).alloc (.cells #[.int .u64 (l.length : Nat)] 132)) w.heap.size (w1.heap.size + 1) none [] := by
    have := (Bld.new (w1.alloc (.cells #[.pointer none, .slice none 0 0] 190)) w.heap.size (by simp; omega)).alloc (.cells #[.int .u64 (l.length : Nat)] 132)
    simpa using this
  have hbb : Below w.heap.size w (((w1.alloc (.cells #[.pointer none, .slice none 0 0] 190)).alloc (.cells #[.pointer none, .slice none 0 0] 190)).alloc (.cells #[.int .u64 (l.length : Nat)] 132)) := (((show Below w.heap.size w w1 from q1).alloc hsz1 _).alloc (by simp; omega) _).alloc (by simp; omega) _
  have CV := Lib.hid cv; have HB1 := Lib.hid hb1; have HB2 := Lib.hid hb2; have HBB := Lib.hid hbb; clear cv hve hb1 hb2 hbb q1
  go_wp2_with fail
  refine CV.out.mono ?_
  rintro e w2 ⟨rfl, q2⟩
  have k1 := HB1.out.q q2
  have k2 := HB2.out.q q2
  have kb := HBB.out.trans (Below.mono q2 HBB.out.size)
  have hvl := varE_len l.length
  have cw := WriteString_any w.heap.size w1.heap.size none [] (varE l.length) w2 k1 (by simp; omega) kb.size
  have CW := Lib.hid cw; have K1 := Lib.hid k1; have K2 := Lib.hid k2; have KB := Lib.hid kb
  clear cw k1 k2 kb q2 HB1 HB2 HBB CV
  go_wp2_with fail
  refine CW.out.mono ?_
  rintro e w3 ⟨rfl, hs3, r1, hbld1, hfr1⟩
  have m2 := K2.out.aside K1.out hs3 (by omega) Far.new
  have mb := KB.out.trans (K1.out.below hs3 KB.out.size)
  have hst : Bs2 w3 w.heap.size w1.heap.size (w1.heap.size + 1) (idxTo l 0) (allTo l 0) := ⟨r1, none, by simpa [idxTo] using hbld1, by simpa [allTo] using m2, Far.new⟩
  have HST := Lib.hid hst; have MB := Lib.hid mb
  clear hst mb m2 hs3 hbld1 hfr1 K1 K2 KB CW
  go_wp2_with fail
  go_loopw [6] (fun i wr => ∃ m : Nat, i = .int .i64 (16 * (m : Int)) ∧ (m = 0 ∨ 16 * (m - 1) < l.length) ∧ Hid (Bs2 wr w.heap.size w1.heap.size (w1.heap.size + 1) (idxTo l m) (allTo l m)) ∧ Hid (Below w.heap.size w wr)) (fun i _ => l.length + 16 - (intOf i).toNat)
  case atStart => exact ⟨0, rfl, .inl rfl, HST, MB⟩
  case round =>
    obtain ⟨m, rfl, hm, HS, HB⟩ := hrel
    obtain ⟨wo, rfl⟩ : ∃ wo : World, wo = wr := ⟨_, rfl⟩
    have hszo := HB.out.size
    by_cases hlt : 16 * m < l.length
    · obtain ⟨b, off, rfl, hc⟩ := HC.out (by omega)
      have HCC := Lib.hid hc; clear hc
      have hne : ¬ cap = 16 * m := by omega
      have hgl := grpL_length l m
      have hg : (min (l.length : Int) (16 * (m : Int) + 16)).toNat - 16 * m = (grpL l m).length := by rw [hgl]; omega
      have hmm : m ≤ 65536 := by omega
      have HGL := Lib.hid hgl
      have hbn : Bs3 (wo.alloc (.cells #[.pointer none, .slice none 0 0] 190)) w.heap.size w1.heap.size (w1.heap.size + 1) wo.heap.size (idxTo l m) (allTo l m) [] := by
        obtain ⟨r1, r2, h1, h2, hf⟩ := HS.out
        exact ⟨r1, r2, none, h1.alloc _, h2.alloc _, Bld.new wo _ hszo, hf, Far.new, Far.new⟩
      have hltb : w1.heap.size + 1 < wo.heap.size := by obtain ⟨_, _, _, h2, _⟩ := HS.out; exact h2.lt
      have hbo := HB.out.alloc hszo (.cells #[.pointer none, .slice none 0 0] 190)
      have HG := Lib.hid hg; have HBN := Lib.hid hbn; have HBO := Lib.hid hbo; clear hg hbn hbo HS HB hgl
      by_cases hmin : 16 * m + 16 < l.length
      all_goals
        go_wp2_with fail
        simp only [HG.out, decide_eq_true (show 16 * (m : Int) < (l.length : Int) by omega)]
        go_loopw [8, 36] (fun last i wr => ∃ j : Nat, j ≤ (grpL l m).length ∧ i = .int .i64 (j : Nat) ∧ last = .string ⟨(lastAt (grpL l m) j).toArray⟩ ∧ Hid (Bs3 wr w.heap.size w1.heap.size (w1.heap.size + 1) wo.heap.size (idxTo l m) (allTo l m) (blockE [] ((grpL l m).take j))) ∧ Hid (Below w.heap.size w wr)) (fun last i _ => (grpL l m).length - (intOf i).toNat)
        case atStart => exact ⟨0, by omega, rfl, rfl, HBN, HBO⟩
        case round =>
          obtain ⟨j, hj, rfl, rfl, HS3, HB3⟩ := hrel
          obtain ⟨wi, rfl⟩ : ∃ wi : World, wi = wr := ⟨_, rfl⟩
          have hszi := HB3.out.size
          by_cases hjl : j < (grpL l m).length
          · have hml : 16 * m + j < l.length := by rw [HGL.out] at hjl; omega
            have hel := grpL_at l m j hjl hml
            obtain ⟨hc1, hc2⟩ := HCC.out (16 * m + j) hml
            have hw1 := cell_stays HB3.out hc1
            have hw2 := cell_stays HB3.out hc2
            rw [← hel, show off + (16 * m + j) * 2 = off + 16 * m * 2 + j * 2 by omega] at hw1 hw2
            have hlen := grpL_small HL.out m _ (List.getElem_mem hjl)
            have hll := lastAt_len (grpL_small HL.out m) j hjl
            have hta := blockE_take (grpL l m) j hjl
            have hls := lastAt_succ (grpL l m) j hjl
            have hbl := blockE_len (g := (grpL l m).take j) (fun e he => grpL_small HL.out m e (List.mem_of_mem_take he)) []
            rw [List.length_take, HGL.out] at hbl
            have HTA := Lib.hid hta; have HLS := Lib.hid hls
            clear hc1 hc2 hel hta hls
            generalize (grpL l m)[j] = el at *
            obtain ⟨t, v⟩ := el
            simp only at hw1 hw2 hlen HTA HLS
            have hal := alikeN_le (lastAt (grpL l m) j) t
            have hk : PK w (wi.alloc (.cells #[.string ⟨t.toArray⟩, .string ⟨v.toArray⟩] 240)) w.heap.size w1.heap.size (w1.heap.size + 1) wo.heap.size wi.heap.size (idxTo l m) (allTo l m) (blockE [] ((grpL l m).take j)) t v :=
              ⟨(HS3.out).q (Q.alloc _ _), heap_alloc_new _ _, (HB3.out).alloc hszi _, Nat.le_refl _⟩
            have ca := alike_any (lastAt (grpL l m) j) t (wi.alloc (.cells #[.string ⟨t.toArray⟩, .string ⟨v.toArray⟩] 240)) (by omega) (by omega)
            have CA := Lib.hid ca; have KK := Lib.hid hk; have HAL := Lib.hid hal.1
            clear ca hk hal
            go_wp2_with fail
            refine CA.out.mono ?_
            rintro e w5 ⟨rfl, q5⟩
            have k5 := KK.out.q q5
            have K5 := Lib.hid k5
            clear k5 q5 CA KK
            go_wp2_with fail
            refine pack_row w.heap.size w1.heap.size (w1.heap.size + 1) wo.heap.size wi.heap.size (alikeN (lastAt (grpL l m) j) t) _ _ _ t v w w5 K5.out (by omega) (by omega) HAL.out hlen.1 hlen.2 (by omega) _ _ _ _ _ _ _ _ _ _ _ _ _ _ _ _ _ _ _ _ _ _ _ _ _ _ _ _ _ _ _ _ _ _ _ _ _ _ _ _ _ _ _ _ _ _ _ _ _ _ _ _ _ _ _ _ _ _ _ _ _ _ _ _ _ _ _ _ _ _ _ _ _ _ _ _ _ ?_
            intro w6 z44 z45 z46 z47 z48 z49 z50 z51 z52 z53 z54 z55 z56 z57 k6
            obtain ⟨x0, x1⟩ := cells2 k6.2.1
            have S6 := Lib.hid k6.1; have B6 := Lib.hid k6.2.2.1
            clear k6 K5
            go_wp2_with fail
            go_roundw
            case rel => exact ⟨j + 1, by omega, by go_num, by rw [HLS.out], by show Bs3 _ _ _ _ _ _ _ _; rw [HTA.out]; exact S6.out, B6.out⟩
            case measure => simp [intOf]; omega
          · have hje : j = (grpL l m).length := by omega
            subst hje
            rw [List.take_length] at HS3
            obtain ⟨hc1, _⟩ := HCC.out (16 * m) hlt
            have hw1 := cell_stays HB3.out hc1
            have hhd : (l[16 * m]).1 = ((grpL l m).headD ([], [])).1 := by simp [grpL, List.headD_eq_head?_getD, List.head?_eq_getElem?, List.getElem?_take, hlt]
            rw [hhd, show off + (16 * m) * 2 = off + 16 * m * 2 by omega] at hw1
            have hil := idxTo_len HL.out m
            have hall := allTo_len HL.out m
            have hbl := blockE_len (grpL_small HL.out m) []
            have hhl := headD_len (grpL_small HL.out m)
            have his := idxTo_succ l m
            have has := allTo_succ l m
            have HIS := Lib.hid his; have HAS := Lib.hid has
            clear hc1 hhd his has
            generalize ((grpL l m).headD ([], [])).1 = hd at *
            have hgn : (grpL l m).length ≤ 16 := by rw [HGL.out]; omega
            have h3 : B3 w wi w1.heap.size (w1.heap.size + 1) wo.heap.size (idxTo l m) (allTo l m) (blockE [] (grpL l m)) := ⟨HS3.out, HB3.out⟩
            generalize blockE [] (grpL l m) = bk at *
            have ct := Text_any _ [hd] _ (Strs.lit1 wi hd 9) (by simp) (by intro p hp; rw [List.mem_singleton] at hp; subst hp; omega)
            rw [show textsE [hd] = textE hd by simp [textsE]] at ct
            have htl := textE_len hd
            have CT := Lib.hid ct; have H3 := Lib.hid (h3.al (.cells #[.string ⟨hd.toArray⟩] 9))
            clear ct h3 HS3 HB3
            go_wp2_with fail
            refine CT.out.mono ?_
            rintro e w5 ⟨rfl, q5⟩
            have h5 := H3.out.q q5
            have cl := Bs3_len _ _ _ _ _ _ _ _ h5.1
            have cv := Var_any _ [bk.length] (w5.alloc (.cells #[.int .u64 (bk.length : Nat)] 132)) (Sl.lit _ #[.int .u64 (bk.length : Nat)] 132 1 1 rfl) (by simp) (by intro n hn'; simp at hn'; omega)
            rw [show varsE [bk.length] = varE bk.length by simp [varsE]] at cv
            have hvl2 := varE_len bk.length
            have CL := Lib.hid cl; have CV := Lib.hid cv; have H5 := Lib.hid (h5.al (.cells #[.int .u64 (bk.length : Nat)] 132))
            clear cl cv h5 q5 CT H3
            go_wp2_with fail
            refine CL.out.mono ?_
            rintro e w6 ⟨rfl, rfl⟩
            go_wp2_with fail
            refine CV.out.mono ?_
            rintro e w7 ⟨rfl, q7⟩
            have h7 := H5.out.q q7
            have cw := B3_write1 _ w w7 w1.heap.size (w1.heap.size + 1) wo.heap.size _ _ _ _ (bytes_append (textE hd) (varE bk.length)) h7 (by omega) (by omega) (by rw [List.length_append]; omega)
            rw [← HIS.out] at cw
            have CW := Lib.hid cw
            clear cw h7 q7 CL CV H5
            go_wp2_with fail
            refine CW.out.mono ?_
            rintro e w8 ⟨rfl, h8⟩
            have cs := B3_string _ _ _ _ _ _ _ _ h8 (by omega) (by omega)
            have CS := Lib.hid cs
            clear cs h8 CW
            go_wp2_with fail
            refine CS.out.mono ?_
            rintro e w9 ⟨rfl, h9, hb9⟩
            have cw := Bs2_write2 _ w w9 w1.heap.size (w1.heap.size + 1) _ _ bk rfl h9 hb9 (by omega) (by omega)
            rw [← HAS.out] at cw
            have CW := Lib.hid cw
            clear cw h9 hb9 CS
            go_wp2_with fail
            refine CW.out.mono ?_
            rintro e w10 ⟨rfl, h10, hb10⟩
            have H10 := Lib.hid h10; have HB10 := Lib.hid hb10
            clear h10 hb10 CW
            go_wp2_with fail
            go_roundw
            case rel => exact ⟨m + 1, by go_num, .inr (by omega), H10, HB10⟩
            case measure => simp [intOf]; omega
    · have hfin := dictE_eq l m (by omega) hm
      have hil := idxTo_len HL.out m
      have hall := allTo_len HL.out m
      have hm2 : m ≤ 65537 := by omega
      have c1 := Bs2_string1 w wo w1.heap.size (w1.heap.size + 1) _ _ HS.out HB.out (by omega)
      have HF := Lib.hid hfin; have C1 := Lib.hid c1
      clear hfin c1 HS HB
      generalize idxTo l m = il at *
      generalize allTo l m = al at *
      go_wp2_with fail
      refine C1.out.mono ?_
      rintro e w3 ⟨rfl, ⟨r2, hb3⟩, hbe3⟩
      have c2 := String_step _ _ _ _ _ hb3
      have C2 := Lib.hid c2; have HB3 := Lib.hid hb3; have HE3 := Lib.hid hbe3
      clear c2 hb3 hbe3 C1
      go_wp2_with fail
      refine C2.out.mono ?_
      rintro e w4 ⟨rfl, hs⟩
      have hb4 := HE3.out.trans (HB3.out.below hs HE3.out.size)
      have HB4 := Lib.hid hb4
      clear hb4 hs C2 HB3 HE3
      go_wp2_with fail
      go_ret2
      exact ⟨ret_str_int (by rw [bytes_append, HF.out]), HB4.out⟩
end Go.Proofs.YtcflpcpkmhljkaaGreatDoor
end

/- (Read) What a segment's body reads as. No program in sight. -/
section
namespace Go.Proofs.YtcflpcpkmhljkaaGreatDoor

/-- s is the number of the documents l, these, and the dictionary d -/
def IsRead (s : Bytes) (l : List DocL) (d : Bytes) : Prop :=
  l.length ≤ 500 ∧ (∀ x ∈ l, shortDoc x) ∧ d.length < 18446744073709551616 ∧ s = varE l.length ++ (docsE l ++ textE d)
/-- k of n documents are read, r is left -/
def Mid (s : Bytes) (n : Nat) (l : List DocL) (r : Bytes) : Prop :=
  n ≤ 500 ∧ (∀ x ∈ l, shortDoc x) ∧ l.length ≤ n ∧ s = varE n ++ (docsE l ++ r)
theorem Mid.step {s : Bytes} {n : Nat} {l : List DocL} {r i r1 t r2 : Bytes} (h : Mid s n l r) (hl : l.length < n) (h1 : IsText r i r1) (h2 : IsText r1 t r2) : Mid s n (l ++ [(i, t)]) r2 := by
  obtain ⟨a, b, c, e⟩ := h
  refine ⟨a, ?_, by simp; omega, ?_⟩
  · intro x hx
    simp only [List.mem_append, List.mem_singleton] at hx
    rcases hx with hx | rfl
    · exact b x hx
    · exact ⟨h1.1, h2.1⟩
  · rw [e, docsE_append, h1.2, h2.2]; simp [docsE]
theorem Mid.len {s : Bytes} {n : Nat} {l : List DocL} {r : Bytes} (h : Mid s n l r) : r.length ≤ s.length := by
  rw [h.2.2.2]; simp; omega
theorem Mid.done {s : Bytes} {n : Nat} {l : List DocL} {r d : Bytes} (h : Mid s n l r) (hl : l.length = n) (h1 : IsText r d []) : IsRead s l d := by
  obtain ⟨a, b, c, e⟩ := h
  exact ⟨by omega, b, h1.1, by rw [e, h1.2, hl]; simp⟩
/-- whatever s reads as, it begins with what is read already -/
theorem Mid.begins {s : Bytes} {n : Nat} {l m : List DocL} {r d : Bytes} (h : Mid s n l r) (hr : IsRead s m d) : m.length = n ∧ r = docsE (m.drop l.length) ++ textE d := by
  obtain ⟨a, b, c, e⟩ := h
  obtain ⟨a', b', c', e'⟩ := hr
  rw [e] at e'
  obtain ⟨h1, h2⟩ := varE_inj _ _ (by omega) (by omega) _ _ e'
  refine ⟨h1.symm, ?_⟩
  have hm : m = m.take l.length ++ m.drop l.length := (List.take_append_drop _ _).symm
  rw [hm, docsE_append, List.append_assoc] at h2
  have hlen : l.length = (m.take l.length).length := by rw [List.length_take]; omega
  exact (docsE_inj l (m.take l.length) hlen b (fun x hx => b' x (List.mem_of_mem_take hx)) _ _ h2).2
theorem Mid.next {s : Bytes} {n : Nat} {l m : List DocL} {r d : Bytes} (h : Mid s n l r) (hr : IsRead s m d) (hl : l.length < n) : ∃ i t r1 r2, IsText r i r1 ∧ IsText r1 t r2 := by
  obtain ⟨h1, h2⟩ := h.begins hr
  have hlt : l.length < m.length := by omega
  rw [List.drop_eq_getElem_cons hlt] at h2
  have hs := hr.2.1 m[l.length] (List.getElem_mem hlt)
  exact ⟨_, _, _, _, ⟨hs.1, by rw [h2]; simp [docsE]; rfl⟩, ⟨hs.2, rfl⟩⟩
theorem Mid.last {s : Bytes} {n : Nat} {l m : List DocL} {r d : Bytes} (h : Mid s n l r) (hr : IsRead s m d) (hl : l.length = n) : IsText r d [] := by
  obtain ⟨h1, h2⟩ := h.begins hr
  have : m.drop l.length = [] := List.drop_eq_nil_of_le (by omega)
  rw [this] at h2
  exact ⟨hr.2.2.1, by rw [h2]; simp [docsE]⟩
end Go.Proofs.YtcflpcpkmhljkaaGreatDoor
end

/- (WRead) segment.read: what it tells is what the bytes read as. -/
section
namespace Go.Proofs.YtcflpcpkmhljkaaGreatDoor
open Go.RowKit
set_option linter.unusedVariables false
abbrev docVs (l : List DocL) : List Value := l.flatMap fun d => [strV d.1, strV d.2]
/-- a slice of documents -/
def Docs (w : World) (v : Value) (l : List DocL) : Prop := Sl w v l.length 2 (docVs l)
theorem Docs.stays {w w' : World} {v : Value} {l : List DocL} (h : Docs w v l) (hb : Below w.heap.size w w') : Docs w' v l := Sl.stays h hb
theorem docVs_append (l : List DocL) (d : DocL) : docVs (l ++ [d]) = docVs l ++ [strV d.1, strV d.2] := by simp [docVs]
theorem tinfo63 : (Tryz.prog.info? 63).map (fun i => (i.zero, i.size, i.bytes)) = some (some (.agg #[strV [], strV []]), 2, 32) := by kernel_rfl
theorem IsRead.var {s d : Bytes} {l : List DocL} (h : IsRead s l d) : IsVar s l.length (docsE l ++ textE d) := ⟨by have := h.1; omega, h.2.2.2⟩
set_option maxRecDepth 100000 in
set_option maxHeartbeats 1000000 in
theorem read_any (s : Bytes) (w : World) (hs : s.length ≤ 9223372036854775807) :
    Calls Tryz.prog 142 #[.string ⟨s.toArray⟩] w fun e w' => Q w w' ∧ ((∃ v l d, IsRead s l d ∧ w'.ownsRow w.heap.size 63 2 v l.length (docVs l) ∧ e = .returned (.tuple #[v, strV d, .bool true])) ∨ ((∀ l d, ¬ IsRead s l d) ∧ ∃ u v, e = .returned (.tuple #[u, v, .bool false]))) := by
  by_cases hv : ∃ v r, IsVar s v r
  · obtain ⟨n, r, hv⟩ := hv
    have c := ToVar_some s n r w hs hv
    have hn := hv.1
    have HV := Lib.hid hv
    clear hv
    obtain ⟨i0, hi, hz0, hz1, hz2⟩ := info_parts tinfo63
    have C := Lib.hid c
    clear c
    by_cases h5 : n ≤ 500
    · go_enter Tryz.func142, Tryz.ntmps142
      go_wp2_with fail
      refine C.out.mono ?_
      rintro e w1 ⟨rfl, q1⟩
      have HQ1 := Lib.hid q1; clear q1
      go_wp2_with fail
      have hmid0 : Mid s n [] r := ⟨h5, by simp, by simp, by rw [HV.out.2]; rfl⟩
      have HM0 := Lib.hid hmid0; clear hmid0
      go_loopw [0, 7, 27] (fun sv lv x wr => ∃ (k : Nat) (l : List DocL) (r' : Bytes), x = .int .u64 k ∧ k ≤ n ∧ sv = .string ⟨r'.toArray⟩ ∧ Hid (Mid s n l r') ∧ l.length = k ∧ Hid (wr.ownsRow w.heap.size 63 2 lv l.length (docVs l)) ∧ Hid (Below w.heap.size w wr)) (fun _ _ x _ => n - (intOf x).toNat)
      case atStart => exact ⟨0, [], r, rfl, by omega, rfl, HM0, rfl, World.ownsRow_nil _ _ _ _, HQ1⟩
      case round =>
        obtain ⟨k, l, r', rfl, hk, rfl, HM, hlk, HO, HB⟩ := hrel
        obtain ⟨wo, rfl⟩ : ∃ wo : World, wo = wr := ⟨_, rfl⟩
        have hrs : r'.length ≤ 9223372036854775807 := by have := HM.out.len; omega
        by_cases hkn : k < n
        · by_cases hx : ∃ i r1, IsText r' i r1
          · obtain ⟨i, r1, hx⟩ := hx
            have hx1 : r1.length ≤ 9223372036854775807 := by have := congrArg List.length hx.2; rw [List.length_append] at this; omega
            have c := fun w => ToText_some r' i r1 w hrs hx
            have HX := Lib.hid hx
            by_cases hy : ∃ t r2, IsText r1 t r2
            · obtain ⟨t, r2, hy⟩ := hy
              have c2 := fun w => ToText_some r1 t r2 w hx1 hy
              have HY := Lib.hid hy
              have C := Lib.hid c; have C2 := Lib.hid c2
              clear c c2 hx hy
              go_wp2_with fail
              refine (C.out _).mono ?_
              rintro e w2 ⟨rfl, q2⟩
              have HQ2 := Lib.hid q2; clear q2
              go_wp2_with fail
              refine (C2.out _).mono ?_
              rintro e w3 ⟨rfl, q3⟩
              have HO3 := Lib.hid (ownsRow_below (ownsRow_below HO.out HQ2.out) q3)
              have HB3 := Lib.hid ((HB.out.trans (HQ2.out.mono (by have := HB.out.size; omega))).trans (q3.mono (by have := HB.out.size; have := HQ2.out.size; omega)))
              have hsz3 : w.heap.size ≤ w3.heap.size := HB3.out.size
              have hown := HO3.out
              clear q3 HQ2 HO HB
              have hll : (l.length + 1) * 32 ≤ 140737488355328 := by omega
              go_wp2_with (at_builtin; go_must (refine wpList_app w3 (by rfl) _ _ 43 (by rfl) w.heap.size 63 _ i0 (.agg #[strV [], strV []]) 2 32 Tryz.underlying43 hi hz0 hz1 hz2 rfl (by decide) (by decide) _ _ _ (by rfl) hown #[strV i, strV t] (by rfl) rfl ?c1 ?c2 hsz3 ?_))
              case c1 => simp [Value.oneCell']
              case c2 => exact hll
              intro g cap w4 hown1 hg1 hat hlt1 hsz1
              have hb1 := HB3.out.grown hg1 HB3.out.size (fun k hk => by have := (hown.lt k hk).1; omega)
              have e : docVs l ++ (#[strV i, strV t] : Array Value).toList = docVs (l ++ [(i, t)]) := by rw [docVs_append]
              rw [e] at hown1
              clear hown hat hg1 HB3 e HO3
              have HB := Lib.hid hb1; have HO1 := Lib.hid hown1; clear hb1 hown1
              go_wp2_with fail
              go_roundw
              case rel => exact ⟨k + 1, l ++ [(i, t)], r2, by go_num, by omega, rfl, HM.out.step (by omega) HX.out HY.out, by simp; omega, by rw [List.length_append, hlk]; exact HO1, HB⟩
              case measure => simp [intOf]; omega
            · have c2 := fun w => ToText_none r1 w hx1 (fun t r2 h => hy ⟨t, r2, h⟩)
              have hno : ∀ m d, ¬ IsRead s m d := fun m d h => by
                obtain ⟨i', t', r1', r2', e1, e2⟩ := HM.out.next h (by omega)
                have := (HX.out.one e1).2
                subst this
                exact hy ⟨_, _, e2⟩
              have HNO := Lib.hid hno
              have C := Lib.hid c; have C2 := Lib.hid c2
              clear c c2 hx hy hno
              go_wp2_with fail
              refine (C.out _).mono ?_
              rintro e w2 ⟨rfl, q2⟩
              have HQ2 := Lib.hid q2; clear q2
              go_wp2_with fail
              refine (C2.out _).mono ?_
              rintro e w3 ⟨rfl, q3⟩
              have HQ3 := Lib.hid q3; clear q3
              go_wp2_with fail
              go_ret3
              exact ⟨(HB.out.trans (HQ2.out.mono (by have := HB.out.size; omega))).trans (HQ3.out.mono (by have := HB.out.size; have := HQ2.out.size; omega)), Or.inr ⟨HNO.out, _, _, rfl⟩⟩
          · have c := fun w => ToText_none r' w hrs (fun i r1 h => hx ⟨i, r1, h⟩)
            have c2 := fun w => ToText_none [] w (by simp) (fun i r1 h => by have e := congrArg List.length h.2; have := varF_pos 10 i.length (by omega); simp only [textE, varE, List.length_append, List.length_nil] at e; omega)
            have hno : ∀ m d, ¬ IsRead s m d := fun m d h => by
              obtain ⟨i', t', r1', r2', e1, e2⟩ := HM.out.next h (by omega)
              exact hx ⟨_, _, e1⟩
            have HNO := Lib.hid hno
            have C := Lib.hid c; have C2 := Lib.hid c2
            clear c c2 hx hno
            go_wp2_with fail
            refine (C.out _).mono ?_
            rintro e w2 ⟨rfl, q2⟩
            have HQ2 := Lib.hid q2; clear q2
            go_wp2_with fail
            refine (C2.out _).mono ?_
            rintro e w3 ⟨rfl, q3⟩
            have HQ3 := Lib.hid q3; clear q3
            go_wp2_with fail
            go_ret3
            exact ⟨(HB.out.trans (HQ2.out.mono (by have := HB.out.size; omega))).trans (HQ3.out.mono (by have := HB.out.size; have := HQ2.out.size; omega)), Or.inr ⟨HNO.out, _, _, rfl⟩⟩
        · have hkn : l.length = n := by omega
          by_cases hx : ∃ d r1, IsText r' d r1
          · obtain ⟨d, r1, hx⟩ := hx
            have c := fun w => ToText_some r' d r1 w hrs hx
            have HX := Lib.hid hx; have C := Lib.hid c; clear c hx
            cases r1 with
            | nil =>
              go_wp2_with fail
              refine (C.out _).mono ?_
              rintro e w2 ⟨rfl, q2⟩
              have HQ2 := Lib.hid q2; clear q2
              go_wp2_with fail
              go_ret3
              exact ⟨HB.out.trans (HQ2.out.mono (by have := HB.out.size; omega)), Or.inl ⟨_, l, d, HM.out.done hkn HX.out, ownsRow_below HO.out HQ2.out, rfl⟩⟩
            | cons b r1 =>
              have hno : ∀ m d, ¬ IsRead s m d := fun m d h => by
                have := (HX.out.one (HM.out.last h hkn)).2
                simp at this
              have HNO := Lib.hid hno; clear hno
              go_wp2_with fail
              refine (C.out _).mono ?_
              rintro e w2 ⟨rfl, q2⟩
              have HQ2 := Lib.hid q2; clear q2
              go_wp2_with fail
              go_ret3
              exact ⟨HB.out.trans (HQ2.out.mono (by have := HB.out.size; omega)), Or.inr ⟨HNO.out, _, _, rfl⟩⟩
          · have c := fun w => ToText_none r' w hrs (fun i r1 h => hx ⟨i, r1, h⟩)
            have hno : ∀ m d, ¬ IsRead s m d := fun m d h => hx ⟨_, _, HM.out.last h hkn⟩
            have HNO := Lib.hid hno; have C := Lib.hid c; clear c hx hno
            go_wp2_with fail
            refine (C.out _).mono ?_
            rintro e w2 ⟨rfl, q2⟩
            have HQ2 := Lib.hid q2; clear q2
            go_wp2_with fail
            go_ret3
            exact ⟨HB.out.trans (HQ2.out.mono (by have := HB.out.size; omega)), Or.inr ⟨HNO.out, _, _, rfl⟩⟩
    · go_enter Tryz.func142, Tryz.ntmps142
      go_wp2_with fail
      refine C.out.mono ?_
      rintro e w1 ⟨rfl, q1⟩
      have HQ1 := Lib.hid q1; clear q1
      go_wp2_with fail
      go_ret3
      exact ⟨HQ1.out, Or.inr ⟨fun l d h => h5 (by have := (HV.out.one h.var).1; have := h.1; omega), _, _, rfl⟩⟩
  · have c := ToVar_none s w hs (fun v r h => hv ⟨v, r, h⟩)
    have HV := Lib.hid hv
    have C := Lib.hid c
    clear c hv
    go_enter Tryz.func142, Tryz.ntmps142
    go_wp2_with fail
    refine C.out.mono ?_
    rintro e w1 ⟨rfl, q1⟩
    have HQ1 := Lib.hid q1; clear q1
    go_wp2_with fail
    go_ret3
    exact ⟨HQ1.out, Or.inr ⟨fun l d h => HV.out ⟨_, _, h.var⟩, _, _, rfl⟩⟩
end Go.Proofs.YtcflpcpkmhljkaaGreatDoor
end
