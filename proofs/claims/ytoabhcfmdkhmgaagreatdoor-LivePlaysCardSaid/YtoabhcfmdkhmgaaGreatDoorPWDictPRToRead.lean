/- Joined texts of one proof: WDictPR, WDictP, WText, Read. -/
import Derived.Test.YtoabhcfmdkhmgaaGreatDoorPBld2ToWWords
import Derived.Test.YtoabhcfmdkhmgaaGreatDoorPTokToWDictR
import Derived.Test.YtoabhcfmdkhmgaaGreatDoorPWPostPToWRef12d
import Derived.Deep.RegionHeld3
import Derived.Test.YtoabhcfmdkhmgaaGreatDoorPRef10ToWVar
import Derived.Test.YtoabhcfmdkhmgaaGreatDoorPKitToSegSpec
set_option linter.unusedSimpArgs false
set_option linter.unusedVariables false
set_option linter.unnecessarySimpa false
/- (WDictPR) dict.Pack: the region of an entry. -/
section
namespace Go.Proofs.YtoabhcfmdkhmgaaGreatDoor
open Go.RowKit
set_option linter.unusedVariables false
/-! ### three builders -/
def Far (r r' : Option Nat) : Prop := r = none ∨ r ≠ r'
theorem Far.fresh {w : World} {r r2 r2' : Option Nat} (h : Far r r2) (hf : Fresh w r2 r2') (hl : ∀ k, r = some k → k < w.heap.size) : Far r r2' := by
  rcases hf with e | ⟨g, e, hg⟩
  · rw [e]; exact h
  · cases r with
    | none => exact .inl rfl
    | some k => right; rw [e]; intro e2; cases e2; have := hl _ rfl; omega
theorem Far.fresh' {w : World} {r r' r2 : Option Nat} (h : Far r r2) (hf : Fresh w r r') (hl : ∀ k, r2 = some k → k < w.heap.size) : Far r' r2 := by
  rcases hf with e | ⟨g, e, hg⟩
  · rw [e]; exact h
  · right; rw [e]; intro e2; have := hl _ e2.symm; omega
theorem Far.new {r : Option Nat} : Far r none := by
  cases r with
  | none => exact .inl rfl
  | some k => right; simp
theorem Bld.row_ne {w : World} {B b b2 : Nat} {r r2 : Option Nat} {l l2 : Bytes} (h : Bld w B b r l) (h2 : Bld w B b2 r2 l2) : r ≠ some b2 ∧ some b2 ≠ r := by
  obtain ⟨_, p, v, h3, _⟩ := h2
  have hne : some b2 ≠ r := by
    intro e
    obtain ⟨cs, fz, hc⟩ := h.cellsRow b2 e.symm
    rw [h3] at hc
    injection hc with h4
    injection h4 with _ h4 _
    revert h4; decide
  exact ⟨fun e => hne e.symm, hne⟩
/-- a step of one builder keeps another -/
theorem Bld.aside {w w' : World} {B b b2 : Nat} {r r2 : Option Nat} {l l2 : Bytes} (h : Bld w B b r l) (h2 : Bld w B b2 r2 l2) (hs : Step2 w w' b2 r2) (hb : b ≠ b2) (hf : Far r r2) : Bld w' B b r l :=
  h.step hs hb (h2.row_ne h).2 (h.row_ne h2).1 hf

/-- the two great builders behind m groups -/
def Bs2 (W : World) (B b1 b2 : Nat) (l1 l2 : Bytes) : Prop := ∃ r1 r2, Bld W B b1 r1 l1 ∧ Bld W B b2 r2 l2 ∧ Far r1 r2
/-- three builders -/
def Bs3 (W : World) (B b1 b2 b3 : Nat) (l1 l2 l3 : Bytes) : Prop := ∃ r1 r2 r3, Bld W B b1 r1 l1 ∧ Bld W B b2 r2 l2 ∧ Bld W B b3 r3 l3 ∧ Far r1 r2 ∧ Far r1 r3 ∧ Far r2 r3
theorem Bs3.q {W W' : World} {B b1 b2 b3 : Nat} {l1 l2 l3 : Bytes} (h : Bs3 W B b1 b2 b3 l1 l2 l3) (hq : Q W W') : Bs3 W' B b1 b2 b3 l1 l2 l3 := by
  obtain ⟨r1, r2, r3, h1, h2, h3, f⟩ := h
  exact ⟨r1, r2, r3, h1.q hq, h2.q hq, h3.q hq, f⟩
def PK (w0 w : World) (base b1 b2 b3 X : Nat) (l1 l2 l3 t v : Bytes) : Prop :=
  Bs3 w base b1 b2 b3 l1 l2 l3 ∧ w.heap[X]? = some (.cells #[.string ⟨t.toArray⟩, .string ⟨v.toArray⟩] 166 (0, 0)) ∧ Below base w0 w ∧ base ≤ w0.heap.size
theorem PK.q {w0 w w' : World} {base b1 b2 b3 X : Nat} {l1 l2 l3 t v : Bytes} (h : PK w0 w base b1 b2 b3 X l1 l2 l3 t v) (hq : Q w w') : PK w0 w' base b1 b2 b3 X l1 l2 l3 t v :=
  ⟨h.1.q hq, block_stays' hq h.2.1, h.2.2.1.trans (Below.mono hq (Nat.le_trans h.2.2.2 h.2.2.1.size)), h.2.2.2⟩
theorem PK.al {w0 w : World} {base b1 b2 b3 X : Nat} {l1 l2 l3 t v : Bytes} {o : Obj} (h : PK w0 w base b1 b2 b3 X l1 l2 l3 t v) : PK w0 (w.alloc o) base b1 b2 b3 X l1 l2 l3 t v := h.q (Q.alloc w o)
theorem PK.dr {w0 w : World} {base b1 b2 b3 X : Nat} {l1 l2 l3 t v : Bytes} (h : PK w0 w base b1 b2 b3 X l1 l2 l3 t v) : PK w0 w.drew base b1 b2 b3 X l1 l2 l3 t v := h.q (Q.drew w)
theorem PK_write (x : ByteArray) (w0 w : World) (base b1 b2 b3 X : Nat) (l1 l2 l3 t v s : Bytes) (hx : x = ⟨s.toArray⟩) (h : PK w0 w base b1 b2 b3 X l1 l2 l3 t v) (h13 : b1 ≠ b3) (h23 : b2 ≠ b3) (hl : l3.length + s.length ≤ 140737488355328) :
    Calls Tryz.prog 67 #[.pointer (some ⟨b3, 0, none⟩), .string x] w fun e w' => e = .returned (.tuple #[.int .i64 s.length, .nilIface]) ∧ PK w0 w' base b1 b2 b3 X l1 l2 (l3 ++ s) t v := by
  subst hx
  obtain ⟨⟨r1, r2, r3, h1, h2, h3, f12, f13, f23⟩, hX, hB, hb⟩ := h
  have hsz := Nat.le_trans hb hB.size
  refine (WriteString_any base b3 r3 l3 s w h3 hl hsz).mono ?_
  rintro e w' ⟨rfl, hs, r', hb', hfr⟩
  refine ⟨rfl, ⟨r1, r2, r', h1.aside h3 hs h13 f13, h2.aside h3 hs h23 f23, hb', f12, f13.fresh hfr (fun k hk => (h1.row k hk).2), f23.fresh hfr (fun k hk => (h2.row k hk).2)⟩, hs.cells h3 hX (by decide) (by decide), hB.trans (h3.below hs hsz), hb⟩
noncomputable def packRow : Code := ((Tryz.f93.body.bind (findRegion 14)).getD .skip)
theorem Strs.two (w : World) (x : ByteArray) (a b : Bytes) (e : TypeId) (hx : x = ⟨a.toArray⟩) : Strs (w.alloc (.cells #[.string x, .string ⟨b.toArray⟩] e)) (.slice (some ⟨w.heap.size, 0, none⟩) 2 2) [a, b] := by
  subst hx; exact Sl.lit w #[.string ⟨a.toArray⟩, .string ⟨b.toArray⟩] e 2 1 rfl
theorem U64s.one (w : World) (n : Nat) (e : TypeId) : U64s (w.alloc (.cells #[.int .u64 (n : Nat)] e)) (.slice (some ⟨w.heap.size, 0, none⟩) 1 1) [n] := Sl.lit w #[.int .u64 (n : Nat)] e 1 1 rfl
theorem Strs.two' (w : World) (x : ByteArray) (a b : Bytes) (e : TypeId) (g : Nat) (hx : x = ⟨a.toArray⟩) (hg : g = w.heap.size) : Strs (w.alloc (.cells #[.string x, .string ⟨b.toArray⟩] e)) (.slice (some ⟨g, 0, none⟩) 2 2) [a, b] := hg ▸ Strs.two w x a b e hx
theorem U64s.one' (w : World) (n : Nat) (e : TypeId) (g : Nat) (hg : g = w.heap.size) : U64s (w.alloc (.cells #[.int .u64 (n : Nat)] e)) (.slice (some ⟨g, 0, none⟩) 1 1) [n] := hg ▸ U64s.one w n e
theorem U64s.stq {w w' : World} {v : Value} {ns : List Nat} (h : U64s w v ns) (q : Q w w') : U64s w' v ns := h.stays q
theorem Strs.stq {w w' : World} {v : Value} {ns : List Bytes} (h : Strs w v ns) (q : Q w w') : Strs w' v ns := h.stays q
theorem World.drew_size (w : World) : w.drew.heap.size = w.heap.size := rfl
theorem PK.cells {w0 w : World} {base b1 b2 b3 X : Nat} {l1 l2 l3 t v : Bytes} (h : PK w0 w base b1 b2 b3 X l1 l2 l3 t v) : w.cell? ⟨X, 0, none⟩ = some (.string ⟨t.toArray⟩) ∧ w.cell? ⟨X, 1, none⟩ = some (.string ⟨v.toArray⟩) := cells2 h.2.1
theorem U64s.al {w : World} {v : Value} {ns : List Nat} {o : Obj} (h : U64s w v ns) : U64s (w.alloc o) v ns := h.stays (Q.alloc w o)
theorem U64s.dr {w : World} {v : Value} {ns : List Nat} (h : U64s w v ns) : U64s w.drew v ns := h.stays (Q.drew w)
theorem Strs.al {w : World} {v : Value} {ns : List Bytes} {o : Obj} (h : Strs w v ns) : Strs (w.alloc o) v ns := h.stays (Q.alloc w o)
theorem Strs.dr {w : World} {v : Value} {ns : List Bytes} (h : Strs w v ns) : Strs w.drew v ns := h.stays (Q.drew w)
set_option maxRecDepth 100000 in
set_option maxHeartbeats 1000000 in
theorem pack_row (base b1 b2 b3 X n : Nat) (l1 l2 l3 t v : Bytes) (w0 w : World) (hK : PK w0 w base b1 b2 b3 X l1 l2 l3 t v) (h13 : b1 ≠ b3) (h23 : b2 ≠ b3) (hnt : n ≤ t.length) (ht : t.length ≤ 40) (hv : v.length ≤ 4194304) (hl3 : l3.length ≤ 100000000)
    (Qx : Exit → Act → World → Prop) (x0 x1 x2 x3 x4 x5 x6 x8 x9 x12 x13 x14 x15 x16 x17 x18 x19 x20 x21 x22 x23 x24 x25 x26 x27 x28 x29 x30 x31 x32 x33 x34 x35 x36 x37 x38 x39 x40 x41 x42 x43 x44 x45 x46 x47 x48 x49 x50 x51 x52 x53 x54 x55 x56 x57 x58 x59 x60 x61 x62 x63 x64 x65 x66 x67 x68 x69 x70 x71 x72 x73 x74 x75 x76 x77 x78 : Value)
    (hQ : ∀ w4 z44 z45 z46 z47 z48 z49 z50 z51 z52 z53 z54 z55 z56 z57, PK w0 w4 base b1 b2 b3 X l1 l2 (l3 ++ (varE n ++ (textE (t.drop n) ++ textE v))) t v → Qx .normal ⟨#[x0, x1, x2, x3, x4, x5, x6, .pointer (some ⟨b3, 0, none⟩), x8, x9, .pointer (some ⟨X, 0, none⟩), .int .i64 (n : Nat), x12, x13, x14, x15, x16, x17, x18, x19, x20, x21, x22, x23, x24, x25, x26, x27, x28, x29, x30, x31, x32, x33, x34, x35, x36, x37, x38, x39, x40, x41, x42, x43, z44, z45, z46, z47, z48, z49, z50, z51, z52, z53, z54, z55, z56, z57, x58, x59, x60, x61, x62, x63, x64, x65, x66, x67, x68, x69, x70, x71, x72, x73, x74, x75, x76, x77, x78], []⟩ w4) :
    packRow.wp Tryz.prog Qx ⟨#[x0, x1, x2, x3, x4, x5, x6, .pointer (some ⟨b3, 0, none⟩), x8, x9, .pointer (some ⟨X, 0, none⟩), .int .i64 (n : Nat), x12, x13, x14, x15, x16, x17, x18, x19, x20, x21, x22, x23, x24, x25, x26, x27, x28, x29, x30, x31, x32, x33, x34, x35, x36, x37, x38, x39, x40, x41, x42, x43, x44, x45, x46, x47, x48, x49, x50, x51, x52, x53, x54, x55, x56, x57, x58, x59, x60, x61, x62, x63, x64, x65, x66, x67, x68, x69, x70, x71, x72, x73, x74, x75, x76, x77, x78], []⟩ w := by
  conv => arg 2; whnf
  have hmx : Tryz.prog.follows .mixedOrders = true := by kernel_rfl
  have HQX := Lib.hid hQ; clear hQ
  have KK := Lib.hid hK
  obtain ⟨c0, c1⟩ := cells2 hK.2.1
  clear hK
  have hni : (0 : Int) ≤ (n : Int) ∧ (n : Int) ≤ (t.length : Int) := by omega
  obtain ⟨hn0, hn1⟩ := hni
  have hdr := bytes_drop t n
  have hwr : IntKind.u64.wrap (n : Int) = n := IntWalk.u64_in _ (by omega)
  have hve : varsE [n] = varE n := by simp [varsE]
  have hte : textsE [t.drop n, v] = textE (t.drop n) ++ textE v := by simp [textsE]
  have hone : [n].length ≤ 1000000000000 := by simp
  have hn64 : ∀ m ∈ [n], m < 18446744073709551616 := by intro m hm; simp at hm; omega
  have htwo : [t.drop n, v].length ≤ 1000 := by simp
  have hps : ∀ p ∈ [t.drop n, v], p.length ≤ 100000000000 := by intro p hp; simp at hp; rcases hp with rfl | rfl <;> (try rw [List.length_drop]) <;> omega
  have hvl := varE_len n
  have htl : (textE (t.drop n) ++ textE v).length ≤ 5000000 := by have := textE_len (t.drop n); have := textE_len v; rw [List.length_append]; rw [List.length_drop] at *; omega
  generalize varE n = vn at *
  generalize textE (t.drop n) ++ textE v = tv at *
  have hlen : l3.length + (vn ++ tv).length ≤ 140737488355328 := by rw [List.length_append]; omega
  have hadd : vn.length + tv.length ≤ 9223372036854775807 := by omega
  have hsum : ∀ W : World, (Op.stringOp .add ⟨vn.toArray⟩ ⟨tv.toArray⟩).run Tryz.prog W = .ok (.string (⟨vn.toArray⟩ ++ ⟨tv.toArray⟩)) W := fun W => run_string_add_sum W _ _ (by simpa [ByteArray.size] using hadd)
  go_region_held3 (fun w' => w'.cell? ⟨X, 0, none⟩ = some (.string ⟨t.toArray⟩) ∧ w'.cell? ⟨X, 1, none⟩ = some (.string ⟨v.toArray⟩)) (first | exact PK.cells (by repeat (first | with_reducible exact KK.out | with_reducible apply PK.al | with_reducible apply PK.dr)) | exact PK.cells KZ.out)
    (first
      | (go_at_call 68; refine (Var_any _ [n] _ (by repeat (first | (with_reducible refine U64s.one' _ _ _ _ ?_; simp only [World.size_alloc, World.drew_size]; done) | with_reducible apply U64s.al | with_reducible apply U64s.dr | with_reducible refine U64s.stq ?_ q)) hone hn64).mono ?_; rw [hve]; rintro e w' ⟨rfl, q⟩; have k' : PK w0 w' base b1 b2 b3 X l1 l2 l3 t v := PK.q (by repeat (first | with_reducible exact KK.out | with_reducible apply PK.al | with_reducible apply PK.dr)) q; clear KK; have KK := Lib.hid k'; clear k')
      | (go_at_call 69; refine (Text_any _ [t.drop n, v] _ (by repeat (first | (with_reducible refine Strs.two' _ _ _ _ _ _ rfl ?_; simp only [World.size_alloc, World.drew_size]; done) | with_reducible apply Strs.al | with_reducible apply Strs.dr | with_reducible refine Strs.stq ?_ q)) htwo hps).mono ?_; rw [hte]; rintro e w' ⟨rfl, q⟩; have k' : PK w0 w' base b1 b2 b3 X l1 l2 l3 t v := PK.q (by repeat (first | with_reducible exact KK.out | with_reducible apply PK.al | with_reducible apply PK.dr)) q; clear KK; have KK := Lib.hid k'; clear k')
      | (go_at_call 67; refine (PK_write _ w0 _ base b1 b2 b3 X l1 l2 l3 t v _ (bytes_append _ _) KK.out h13 h23 hlen).mono ?_; rintro e w' ⟨rfl, k'⟩; have KZ := Lib.hid k'; clear k'))
  all_goals exact HQX.out _ _ _ _ _ _ _ _ _ _ _ _ _ _ _ KZ.out
end Go.Proofs.YtoabhcfmdkhmgaaGreatDoor
end

/- (WDictP) dict.Pack: walked. -/
section
namespace Go.Proofs.YtoabhcfmdkhmgaaGreatDoor
open Go.RowKit
set_option linter.unusedVariables false

/-! ### plain -/
def grpL (l : List EntryL) (m : Nat) : List EntryL := (l.drop (16 * m)).take 16
def idxTo (l : List EntryL) (m : Nat) : Bytes := varE l.length ++ (List.range m).flatMap fun i => textE ((grpL l i).headD ([], [])).1 ++ varE (blockE [] (grpL l i)).length
def allTo (l : List EntryL) (m : Nat) : Bytes := (List.range m).flatMap fun i => blockE [] (grpL l i)
theorem idxTo_succ (l : List EntryL) (m : Nat) : idxTo l (m + 1) = idxTo l m ++ (textE ((grpL l m).headD ([], [])).1 ++ varE (blockE [] (grpL l m)).length) := by
  simp [idxTo, List.range_succ]
theorem allTo_succ (l : List EntryL) (m : Nat) : allTo l (m + 1) = allTo l m ++ blockE [] (grpL l m) := by
  simp [allTo, List.range_succ]
theorem groups_range (n : Nat) (l : List EntryL) (m : Nat) (h : l.length ≤ n) (h1 : l.length ≤ 16 * m) (h2 : m = 0 ∨ 16 * (m - 1) < l.length) : groupsF n l = (List.range m).map (grpL l) := by
  induction n generalizing l m with
  | zero =>
    have : l = [] := List.eq_nil_of_length_eq_zero (by omega)
    subst this
    have : m = 0 := by simp at h2; omega
    subst this; rfl
  | succ n ih =>
    rw [groupsF]
    by_cases h0 : l = []
    · subst h0
      have : m = 0 := by simp at h2; omega
      subst this; rfl
    · rw [if_neg h0]
      have hl : 0 < l.length := List.length_pos_iff.2 h0
      obtain ⟨k, rfl⟩ : ∃ k, m = k + 1 := ⟨m - 1, by omega⟩
      rw [ih (l.drop 16) k (by rw [List.length_drop]; omega) (by rw [List.length_drop]; omega) (by rw [List.length_drop]; omega), List.range_succ_eq_map, List.map_cons, List.map_map]
      congr 1
      apply List.map_congr_left
      intro i _
      show (List.drop (16 * i) (List.drop 16 l)).take 16 = (l.drop (16 * (i + 1))).take 16
      rw [List.drop_drop, show 16 + 16 * i = 16 * (i + 1) by omega]
theorem dictE_eq (l : List EntryL) (m : Nat) (h1 : l.length ≤ 16 * m) (h2 : m = 0 ∨ 16 * (m - 1) < l.length) : dictE l = idxTo l m ++ allTo l m := by
  unfold dictE
  rw [groups_range l.length l m (Nat.le_refl _) h1 h2]
  simp [idxTo, allTo, List.flatMap_map]
theorem blockE_snoc (last : Bytes) (l : List EntryL) (e : EntryL) : blockE last (l ++ [e]) = blockE last l ++ (varE (alikeN (if l = [] then last else (l.getLastD ([], [])).1) e.1) ++ (textE (e.1.drop (alikeN (if l = [] then last else (l.getLastD ([], [])).1) e.1)) ++ textE e.2)) := by
  induction l generalizing last with
  | nil => simp [blockE]
  | cons a l ih =>
    rw [List.cons_append, blockE, blockE, ih]
    cases l with
    | nil => simp
    | cons b l => simp [List.getLastD]
/-- the term ahead of the j-th of a group -/
def lastAt (g : List EntryL) (j : Nat) : Bytes := if j = 0 then [] else (g.getD (j - 1) ([], [])).1
theorem blockE_take (g : List EntryL) (j : Nat) (h : j < g.length) : blockE [] (g.take (j + 1)) = blockE [] (g.take j) ++ (varE (alikeN (lastAt g j) g[j].1) ++ (textE (g[j].1.drop (alikeN (lastAt g j) g[j].1)) ++ textE g[j].2)) := by
  have e : (if g.take j = [] then [] else ((g.take j).getLastD ([], [])).1) = lastAt g j := by
    unfold lastAt
    by_cases hj : j = 0
    · subst hj; simp
    · have hne : g.take j ≠ [] := fun e => by have := congrArg List.length e; rw [List.length_take, List.length_nil] at this; omega
      rw [if_neg hne, if_neg hj]
      congr 1
      rw [List.getLastD_eq_getLast?, List.getLast?_eq_getElem?, List.length_take, Nat.min_eq_left (by omega), List.getElem?_take, if_pos (by omega), List.getD_eq_getElem?_getD]
  rw [List.take_succ_eq_append_getElem h, blockE_snoc, e]
theorem alikeN_le (a b : Bytes) : alikeN a b ≤ b.length ∧ alikeN a b ≤ a.length := by
  induction a generalizing b with
  | nil => cases b <;> simp [alikeN]
  | cons x a ih =>
    cases b with
    | nil => simp [alikeN]
    | cons y b =>
      rw [alikeN]
      split
      · have := ih b; simp only [List.length_cons]; omega
      · simp

set_option maxRecDepth 100000 in
set_option maxHeartbeats 2000000 in
theorem DPack_bad (v : Value) (l : List EntryL) (w : World) (hv : Pairs w v l) (hn : l.length ≤ 9223372036854775807) (hl : ∀ e ∈ l, e.1.length ≤ 9223372036854775807 ∧ e.2.length ≤ 9223372036854775807) (hr : (entriesRight [] l && decide (l.length ≤ 1048576)) = false) :
    Calls Tryz.prog 93 #[v] w fun e w' => e = .returned (.tuple #[.string ⟨([] : Bytes).toArray⟩, .int .i64 1]) ∧ Q w w' := by
  have c := DRight_any v l w hv hn hl
  rw [hr] at c
  obtain ⟨a, cap, rfl, hcell⟩ := hv.value
  have C := Lib.hid c
  clear c hv hl hcell hr
  go_enter Tryz.func93, Tryz.ntmps93
  go_wp2_with fail
  refine C.out.mono ?_
  rintro e w1 ⟨rfl, q1⟩
  go_wp2_with fail
  go_ret2
  exact ⟨rfl, q1⟩

theorem Far.symm {r r2 : Option Nat} (h : Far r r2) : Far r2 r := by
  rcases h with rfl | h
  · exact Far.new
  · exact .inr (Ne.symm h)
def B3 (W0 w : World) (b1 b2 b3 : Nat) (l1 l2 l3 : Bytes) : Prop := Bs3 w W0.heap.size b1 b2 b3 l1 l2 l3 ∧ Below W0.heap.size W0 w
theorem B3.q {W0 w w' : World} {b1 b2 b3 : Nat} {l1 l2 l3 : Bytes} (h : B3 W0 w b1 b2 b3 l1 l2 l3) (hq : Q w w') : B3 W0 w' b1 b2 b3 l1 l2 l3 := ⟨h.1.q hq, h.2.trans (Below.mono hq h.2.size)⟩
theorem B3.al {W0 w : World} {b1 b2 b3 : Nat} {l1 l2 l3 : Bytes} (h : B3 W0 w b1 b2 b3 l1 l2 l3) (o : Obj) : B3 W0 (w.alloc o) b1 b2 b3 l1 l2 l3 := h.q (Q.alloc _ _)
theorem B3.bs2 {W0 w : World} {b1 b2 b3 : Nat} {l1 l2 l3 : Bytes} (h : B3 W0 w b1 b2 b3 l1 l2 l3) : Bs2 w W0.heap.size b1 b2 l1 l2 := by
  obtain ⟨⟨r1, r2, r3, h1, h2, h3, f, _⟩, _⟩ := h
  exact ⟨r1, r2, h1, h2, f⟩
theorem B3_write1 (x : ByteArray) (W0 w : World) (b1 b2 b3 : Nat) (l1 l2 l3 s : Bytes) (hx : x = ⟨s.toArray⟩) (h : B3 W0 w b1 b2 b3 l1 l2 l3) (h12 : b1 ≠ b2) (h13 : b1 ≠ b3) (hl : l1.length + s.length ≤ 140737488355328) :
    Calls Tryz.prog 67 #[.pointer (some ⟨b1, 0, none⟩), .string x] w fun e w' => e = .returned (.tuple #[.int .i64 s.length, .nilIface]) ∧ B3 W0 w' b1 b2 b3 (l1 ++ s) l2 l3 := by
  subst hx
  obtain ⟨⟨r1, r2, r3, h1, h2, h3, f12, f13, f23⟩, hB⟩ := h
  refine (WriteString_any _ b1 r1 l1 s w h1 hl hB.size).mono ?_
  rintro e w' ⟨rfl, hs, r', hb', hfr⟩
  exact ⟨rfl, ⟨r', r2, r3, hb', h2.aside h1 hs (Ne.symm h12) f12.symm, h3.aside h1 hs (Ne.symm h13) f13.symm, f12.fresh' hfr (fun k hk => (h2.row k hk).2), f13.fresh' hfr (fun k hk => (h3.row k hk).2), f23⟩, hB.trans (h1.below hs hB.size)⟩
theorem B3_write2 (x : ByteArray) (W0 w : World) (b1 b2 b3 : Nat) (l1 l2 l3 s : Bytes) (hx : x = ⟨s.toArray⟩) (h : B3 W0 w b1 b2 b3 l1 l2 l3) (h12 : b1 ≠ b2) (h23 : b2 ≠ b3) (hl : l2.length + s.length ≤ 140737488355328) :
    Calls Tryz.prog 67 #[.pointer (some ⟨b2, 0, none⟩), .string x] w fun e w' => e = .returned (.tuple #[.int .i64 s.length, .nilIface]) ∧ B3 W0 w' b1 b2 b3 l1 (l2 ++ s) l3 := by
  subst hx
  obtain ⟨⟨r1, r2, r3, h1, h2, h3, f12, f13, f23⟩, hB⟩ := h
  refine (WriteString_any _ b2 r2 l2 s w h2 hl hB.size).mono ?_
  rintro e w' ⟨rfl, hs, r', hb', hfr⟩
  exact ⟨rfl, ⟨r1, r', r3, h1.aside h2 hs h12 f12, hb', h3.aside h2 hs (Ne.symm h23) f23.symm, f12.fresh hfr (fun k hk => (h1.row k hk).2), f13, f23.fresh' hfr (fun k hk => (h3.row k hk).2)⟩, hB.trans (h2.below hs hB.size)⟩
theorem B3_string (W0 w : World) (b1 b2 b3 : Nat) (l1 l2 l3 : Bytes) (h : B3 W0 w b1 b2 b3 l1 l2 l3) (h13 : b1 ≠ b3) (h23 : b2 ≠ b3) :
    Calls Tryz.prog 71 #[.pointer (some ⟨b3, 0, none⟩)] w fun e w' => e = .returned (.string ⟨l3.toArray⟩) ∧ Bs2 w' W0.heap.size b1 b2 l1 l2 ∧ Below W0.heap.size W0 w' := by
  obtain ⟨⟨r1, r2, r3, h1, h2, h3, f12, f13, f23⟩, hB⟩ := h
  refine (String_step _ _ _ _ _ h3).mono ?_
  rintro e w' ⟨rfl, hs⟩
  exact ⟨rfl, ⟨r1, r2, h1.aside h3 hs h13 f13, h2.aside h3 hs h23 f23, f12⟩, hB.trans (h3.below hs hB.size)⟩
theorem Bs2_write2 (x : ByteArray) (W0 w : World) (b1 b2 : Nat) (l1 l2 s : Bytes) (hx : x = ⟨s.toArray⟩) (h : Bs2 w W0.heap.size b1 b2 l1 l2) (hB : Below W0.heap.size W0 w) (h12 : b1 ≠ b2) (hl : l2.length + s.length ≤ 140737488355328) :
    Calls Tryz.prog 67 #[.pointer (some ⟨b2, 0, none⟩), .string x] w fun e w' => e = .returned (.tuple #[.int .i64 s.length, .nilIface]) ∧ Bs2 w' W0.heap.size b1 b2 l1 (l2 ++ s) ∧ Below W0.heap.size W0 w' := by
  subst hx
  obtain ⟨r1, r2, h1, h2, f12⟩ := h
  refine (WriteString_any _ b2 r2 l2 s w h2 hl hB.size).mono ?_
  rintro e w' ⟨rfl, hs, r', hb', hfr⟩
  exact ⟨rfl, ⟨r1, r', h1.aside h2 hs h12 f12, hb', f12.fresh hfr (fun k hk => (h1.row k hk).2)⟩, hB.trans (h2.below hs hB.size)⟩
theorem Bs2_string1 (W0 w : World) (b1 b2 : Nat) (l1 l2 : Bytes) (h : Bs2 w W0.heap.size b1 b2 l1 l2) (hB : Below W0.heap.size W0 w) (h12 : b1 ≠ b2) :
    Calls Tryz.prog 71 #[.pointer (some ⟨b1, 0, none⟩)] w fun e w' => e = .returned (.string ⟨l1.toArray⟩) ∧ (∃ r2, Bld w' W0.heap.size b2 r2 l2) ∧ Below W0.heap.size W0 w' := by
  obtain ⟨r1, r2, h1, h2, f12⟩ := h
  refine (String_step _ _ _ _ _ h1).mono ?_
  rintro e w' ⟨rfl, hs⟩
  exact ⟨rfl, ⟨r2, h2.aside h1 hs (Ne.symm h12) f12.symm⟩, hB.trans (h1.below hs hB.size)⟩
theorem Bs3_len (w : World) (B b1 b2 b3 : Nat) (l1 l2 l3 : Bytes) (h : Bs3 w B b1 b2 b3 l1 l2 l3) :
    Calls Tryz.prog 121 #[.pointer (some ⟨b3, 0, none⟩)] w fun e w' => e = .returned (.int .i64 l3.length) ∧ w = w' := by
  obtain ⟨r1, r2, r3, h1, h2, h3, _⟩ := h
  exact Len_any B b3 r3 l3 w h3
theorem Strs.lit1 (w : World) (a : Bytes) (e : TypeId) : Strs (w.alloc (.cells #[.string ⟨a.toArray⟩] e)) (.slice (some ⟨w.heap.size, 0, none⟩) 1 1) [a] := Sl.lit w #[.string ⟨a.toArray⟩] e 1 1 rfl
theorem grpL_length (l : List EntryL) (m : Nat) : (grpL l m).length = min 16 (l.length - 16 * m) := by simp [grpL]
theorem grpL_at (l : List EntryL) (m j : Nat) (h : j < (grpL l m).length) (h2 : 16 * m + j < l.length) : (grpL l m)[j] = l[16 * m + j] := by simp [grpL]
theorem lastAt_succ (g : List EntryL) (j : Nat) (h : j < g.length) : lastAt g (j + 1) = g[j].1 := by
  simp [lastAt, List.getD_eq_getElem?_getD, h]
def Small (l : List EntryL) : Prop := ∀ e ∈ l, e.1.length ≤ 40 ∧ e.2.length ≤ 4194304
theorem grpL_small {l : List EntryL} (h : Small l) (m : Nat) : Small (grpL l m) := fun e he => h e (List.mem_of_mem_drop (List.mem_of_mem_take he))
theorem lastAt_len {g : List EntryL} (h : Small g) (j : Nat) (hj : j < g.length) : (lastAt g j).length ≤ 40 := by
  unfold lastAt
  split
  · simp
  · rw [List.getD_eq_getElem?_getD, List.getElem?_eq_getElem (by omega)]
    exact (h _ (List.getElem_mem _)).1
theorem blockE_len {g : List EntryL} (h : Small g) (last : Bytes) : (blockE last g).length ≤ g.length * 4194400 := by
  induction g generalizing last with
  | nil => simp [blockE]
  | cons e g ih =>
    have h1 := ih (fun x hx => h x (List.mem_cons_of_mem _ hx)) e.1
    have h2 := h e (List.mem_cons_self ..)
    have h3 := varE_len (alikeN last e.1)
    have h4 := textE_len (e.1.drop (alikeN last e.1))
    have h5 := textE_len e.2
    simp only [blockE, List.length_append, List.length_cons]
    rw [List.length_drop] at h4
    omega
theorem headD_len {g : List EntryL} (h : Small g) : (g.headD ([], [])).1.length ≤ 40 := by
  cases g with
  | nil => simp
  | cons e g => exact (h e (List.mem_cons_self ..)).1
theorem idxTo_len {l : List EntryL} (h : Small l) (m : Nat) : (idxTo l m).length ≤ 10 + m * 60 := by
  induction m with
  | zero => have := varE_len l.length; simp [idxTo]; omega
  | succ m ih =>
    rw [idxTo_succ]
    have h1 := headD_len (grpL_small h m)
    have h2 := textE_len ((grpL l m).headD ([], [])).1
    have h3 := varE_len (blockE [] (grpL l m)).length
    simp only [List.length_append]
    omega
theorem allTo_len {l : List EntryL} (h : Small l) (m : Nat) : (allTo l m).length ≤ m * 67110400 := by
  induction m with
  | zero => simp [allTo]
  | succ m ih =>
    rw [allTo_succ]
    have h1 := blockE_len (grpL_small h m) []
    have h2 := grpL_length l m
    rw [List.length_append]
    omega
set_option maxRecDepth 100000 in
set_option maxHeartbeats 800000 in
theorem DPack_ok (v : Value) (l : List EntryL) (w : World) (base : Nat) (hown : w.ownsRow base 166 2 v l.length (pairVs l)) (hr1 : entriesRight [] l = true) (hr2 : l.length ≤ 1048576) (hl : Small l) :
    Calls Tryz.prog 93 #[v] w fun e w' => e = .returned (.tuple #[.string ⟨(dictE l).toArray⟩, .int .i64 0]) ∧ Q w w' := by
  have hv : Pairs w v l := Sl.of_owns hown
  have c := DRight_any v l w hv (by omega) (fun e he => by have := hl e he; omega)
  rw [hr1, decide_eq_true hr2, Bool.and_true] at c
  obtain ⟨a, cap, rfl, hcell⟩ := hv.value
  have hcap : l.length ≤ cap ∧ (cap : Int) ≤ 9223372036854775807 := by
    rcases hown.2 with ⟨h, h0⟩ | ⟨g, cp, cur, h, _, _, h1, h2, _⟩
    · injection h with e1 e2 e3; omega
    · injection h with e1 e2 e3; unfold maxLen at h2; subst e3; exact ⟨h1, by omega⟩
  obtain ⟨hcap1, hcap2⟩ := hcap
  have C := Lib.hid c; have HC := Lib.hid hcell; have HL := Lib.hid hl
  clear c hv hl hcell hr1 hown
  go_enter Tryz.func93, Tryz.ntmps93
  go_wp2_with fail
  refine C.out.mono ?_
  rintro e w1 ⟨rfl, q1⟩
  have hsz1 := q1.size
  have cv := Var_any _ [l.length] (((w1.alloc (.cells #[.pointer none, .slice none 0 0] 125)).alloc (.cells #[.pointer none, .slice none 0 0] 125)).alloc (.cells #[.int .u64 (l.length : Nat)] 106)) (Sl.lit _ #[.int .u64 (l.length : Nat)] 106 1 1 rfl) (by simp) (by intro n hn'; simp at hn'; omega)
  simp only [World.size_alloc] at cv
  have hve : varsE [l.length] = varE l.length := by simp [varsE]
  rw [hve] at cv
  have hb1 : Bld (((w1.alloc (.cells #[.pointer none, .slice none 0 0] 125)).alloc (.cells #[.pointer none, .slice none 0 0] 125)).alloc (.cells #[.int .u64 (l.length : Nat)] 106)) w.heap.size w1.heap.size none [] := ((Bld.new w1 _ hsz1).alloc _).alloc _
  have hb2 : Bld (((w1.alloc (.cells #[.pointer none, .slice none 0 0] 125)).alloc (.cells #[.pointer none, .slice none 0 0] 125)).alloc (.cells #[.int .u64 (l.length : Nat)] 106)) w.heap.size (w1.heap.size + 1) none [] := by
    have := (Bld.new (w1.alloc (.cells #[.pointer none, .slice none 0 0] 125)) w.heap.size (by simp; omega)).alloc (.cells #[.int .u64 (l.length : Nat)] 106)
    simpa using this
  have hbb : Below w.heap.size w (((w1.alloc (.cells #[.pointer none, .slice none 0 0] 125)).alloc (.cells #[.pointer none, .slice none 0 0] 125)).alloc (.cells #[.int .u64 (l.length : Nat)] 106)) := (((show Below w.heap.size w w1 from q1).alloc hsz1 _).alloc (by simp; omega) _).alloc (by simp; omega) _
  have CV := Lib.hid cv; have HB1 := Lib.hid hb1; have HB2 := Lib.hid hb2; have HBB := Lib.hid hbb; clear cv hve hb1 hb2 hbb q1
  go_wp2_with fail
  refine CV.out.mono ?_
  rintro e w2 ⟨rfl, q2⟩
  have k1 := HB1.out.q q2
  have k2 := HB2.out.q q2
  have kb := HBB.out.trans (Below.mono q2 HBB.out.size)
  have hvl := varE_len l.length
  have cw := WriteString_any w.heap.size w1.heap.size none [] (varE l.length) w2 k1 (by simp; omega) kb.size
  have CW := Lib.hid cw; have K1 := Lib.hid k1; have K2 := Lib.hid k2; have KB := Lib.hid kb
  clear cw k1 k2 kb q2 HB1 HB2 HBB CV
  go_wp2_with fail
  refine CW.out.mono ?_
  rintro e w3 ⟨rfl, hs3, r1, hbld1, hfr1⟩
  have m2 := K2.out.aside K1.out hs3 (by omega) Far.new
  have mb := KB.out.trans (K1.out.below hs3 KB.out.size)
  have hst : Bs2 w3 w.heap.size w1.heap.size (w1.heap.size + 1) (idxTo l 0) (allTo l 0) := ⟨r1, none, by simpa [idxTo] using hbld1, by simpa [allTo] using m2, Far.new⟩
  have HST := Lib.hid hst; have MB := Lib.hid mb
  clear hst mb m2 hs3 hbld1 hfr1 K1 K2 KB CW
  go_wp2_with fail
  go_loopw [6] (fun i wr => ∃ m : Nat, i = .int .i64 (16 * (m : Int)) ∧ (m = 0 ∨ 16 * (m - 1) < l.length) ∧ Hid (Bs2 wr w.heap.size w1.heap.size (w1.heap.size + 1) (idxTo l m) (allTo l m)) ∧ Hid (Below w.heap.size w wr)) (fun i _ => l.length + 16 - (intOf i).toNat)
  case atStart => exact ⟨0, rfl, .inl rfl, HST, MB⟩
  case round =>
    obtain ⟨m, rfl, hm, HS, HB⟩ := hrel
    obtain ⟨wo, rfl⟩ : ∃ wo : World, wo = wr := ⟨_, rfl⟩
    have hszo := HB.out.size
    by_cases hlt : 16 * m < l.length
    · obtain ⟨b, off, rfl, hc⟩ := HC.out (by omega)
      have HCC := Lib.hid hc; clear hc
      have hne : ¬ cap = 16 * m := by omega
      have hgl := grpL_length l m
      have hg : (min (l.length : Int) (16 * (m : Int) + 16)).toNat - 16 * m = (grpL l m).length := by rw [hgl]; omega
      have hmm : m ≤ 65536 := by omega
      have HGL := Lib.hid hgl
      have hbn : Bs3 (wo.alloc (.cells #[.pointer none, .slice none 0 0] 125)) w.heap.size w1.heap.size (w1.heap.size + 1) wo.heap.size (idxTo l m) (allTo l m) [] := by
        obtain ⟨r1, r2, h1, h2, hf⟩ := HS.out
        exact ⟨r1, r2, none, h1.alloc _, h2.alloc _, Bld.new wo _ hszo, hf, Far.new, Far.new⟩
      have hltb : w1.heap.size + 1 < wo.heap.size := by obtain ⟨_, _, _, h2, _⟩ := HS.out; exact h2.lt
      have hbo := HB.out.alloc hszo (.cells #[.pointer none, .slice none 0 0] 125)
      have HG := Lib.hid hg; have HBN := Lib.hid hbn; have HBO := Lib.hid hbo; clear hg hbn hbo HS HB hgl
      by_cases hmin : 16 * m + 16 < l.length
      all_goals
        go_wp2_with fail
        simp only [HG.out, decide_eq_true (show 16 * (m : Int) < (l.length : Int) by omega)]
        go_loopw [8, 36] (fun last i wr => ∃ j : Nat, j ≤ (grpL l m).length ∧ i = .int .i64 (j : Nat) ∧ last = .string ⟨(lastAt (grpL l m) j).toArray⟩ ∧ Hid (Bs3 wr w.heap.size w1.heap.size (w1.heap.size + 1) wo.heap.size (idxTo l m) (allTo l m) (blockE [] ((grpL l m).take j))) ∧ Hid (Below w.heap.size w wr)) (fun last i _ => (grpL l m).length - (intOf i).toNat)
        case atStart => exact ⟨0, by omega, rfl, rfl, HBN, HBO⟩
        case round =>
          obtain ⟨j, hj, rfl, rfl, HS3, HB3⟩ := hrel
          obtain ⟨wi, rfl⟩ : ∃ wi : World, wi = wr := ⟨_, rfl⟩
          have hszi := HB3.out.size
          by_cases hjl : j < (grpL l m).length
          · have hml : 16 * m + j < l.length := by rw [HGL.out] at hjl; omega
            have hel := grpL_at l m j hjl hml
            obtain ⟨hc1, hc2⟩ := HCC.out (16 * m + j) hml
            have hw1 := cell_stays HB3.out hc1
            have hw2 := cell_stays HB3.out hc2
            rw [← hel, show off + (16 * m + j) * 2 = off + 16 * m * 2 + j * 2 by omega] at hw1 hw2
            have hlen := grpL_small HL.out m _ (List.getElem_mem hjl)
            have hll := lastAt_len (grpL_small HL.out m) j hjl
            have hta := blockE_take (grpL l m) j hjl
            have hls := lastAt_succ (grpL l m) j hjl
            have hbl := blockE_len (g := (grpL l m).take j) (fun e he => grpL_small HL.out m e (List.mem_of_mem_take he)) []
            rw [List.length_take, HGL.out] at hbl
            have HTA := Lib.hid hta; have HLS := Lib.hid hls
            clear hc1 hc2 hel hta hls
            generalize (grpL l m)[j] = el at *
            obtain ⟨t, v⟩ := el
            simp only at hw1 hw2 hlen HTA HLS
            have hal := alikeN_le (lastAt (grpL l m) j) t
            have hk : PK w (wi.alloc (.cells #[.string ⟨t.toArray⟩, .string ⟨v.toArray⟩] 166)) w.heap.size w1.heap.size (w1.heap.size + 1) wo.heap.size wi.heap.size (idxTo l m) (allTo l m) (blockE [] ((grpL l m).take j)) t v :=
              ⟨(HS3.out).q (Q.alloc _ _), heap_alloc_new _ _, (HB3.out).alloc hszi _, Nat.le_refl _⟩
            have ca := alike_any (lastAt (grpL l m) j) t (wi.alloc (.cells #[.string ⟨t.toArray⟩, .string ⟨v.toArray⟩] 166)) (by omega) (by omega)
            have CA := Lib.hid ca; have KK := Lib.hid hk; have HAL := Lib.hid hal.1
            clear ca hk hal
            go_wp2_with fail
            refine CA.out.mono ?_
            rintro e w5 ⟨rfl, q5⟩
            have k5 := KK.out.q q5
            have K5 := Lib.hid k5
            clear k5 q5 CA KK
            go_wp2_with fail
            refine pack_row w.heap.size w1.heap.size (w1.heap.size + 1) wo.heap.size wi.heap.size (alikeN (lastAt (grpL l m) j) t) _ _ _ t v w w5 K5.out (by omega) (by omega) HAL.out hlen.1 hlen.2 (by omega) _ _ _ _ _ _ _ _ _ _ _ _ _ _ _ _ _ _ _ _ _ _ _ _ _ _ _ _ _ _ _ _ _ _ _ _ _ _ _ _ _ _ _ _ _ _ _ _ _ _ _ _ _ _ _ _ _ _ _ _ _ _ _ _ _ _ _ _ _ _ _ _ _ _ _ _ _ ?_
            intro w6 z44 z45 z46 z47 z48 z49 z50 z51 z52 z53 z54 z55 z56 z57 k6
            obtain ⟨x0, x1⟩ := cells2 k6.2.1
            have S6 := Lib.hid k6.1; have B6 := Lib.hid k6.2.2.1
            clear k6 K5
            go_wp2_with fail
            go_roundw
            case rel => exact ⟨j + 1, by omega, by go_num, by rw [HLS.out], by show Bs3 _ _ _ _ _ _ _ _; rw [HTA.out]; exact S6.out, B6.out⟩
            case measure => simp [intOf]; omega
          · have hje : j = (grpL l m).length := by omega
            subst hje
            rw [List.take_length] at HS3
            obtain ⟨hc1, _⟩ := HCC.out (16 * m) hlt
            have hw1 := cell_stays HB3.out hc1
            have hhd : (l[16 * m]).1 = ((grpL l m).headD ([], [])).1 := by simp [grpL, List.headD_eq_head?_getD, List.head?_eq_getElem?, List.getElem?_take, hlt]
            rw [hhd, show off + (16 * m) * 2 = off + 16 * m * 2 by omega] at hw1
            have hil := idxTo_len HL.out m
            have hall := allTo_len HL.out m
            have hbl := blockE_len (grpL_small HL.out m) []
            have hhl := headD_len (grpL_small HL.out m)
            have his := idxTo_succ l m
            have has := allTo_succ l m
            have HIS := Lib.hid his; have HAS := Lib.hid has
            clear hc1 hhd his has
            generalize ((grpL l m).headD ([], [])).1 = hd at *
            have hgn : (grpL l m).length ≤ 16 := by rw [HGL.out]; omega
            have h3 : B3 w wi w1.heap.size (w1.heap.size + 1) wo.heap.size (idxTo l m) (allTo l m) (blockE [] (grpL l m)) := ⟨HS3.out, HB3.out⟩
            generalize blockE [] (grpL l m) = bk at *
            have ct := Text_any _ [hd] _ (Strs.lit1 wi hd 9) (by simp) (by intro p hp; rw [List.mem_singleton] at hp; subst hp; omega)
            rw [show textsE [hd] = textE hd by simp [textsE]] at ct
            have htl := textE_len hd
            have CT := Lib.hid ct; have H3 := Lib.hid (h3.al (.cells #[.string ⟨hd.toArray⟩] 9))
            clear ct h3 HS3 HB3
            go_wp2_with fail
            refine CT.out.mono ?_
            rintro e w5 ⟨rfl, q5⟩
            have h5 := H3.out.q q5
            have cl := Bs3_len _ _ _ _ _ _ _ _ h5.1
            have cv := Var_any _ [bk.length] (w5.alloc (.cells #[.int .u64 (bk.length : Nat)] 106)) (Sl.lit _ #[.int .u64 (bk.length : Nat)] 106 1 1 rfl) (by simp) (by intro n hn'; simp at hn'; omega)
            rw [show varsE [bk.length] = varE bk.length by simp [varsE]] at cv
            have hvl2 := varE_len bk.length
            have CL := Lib.hid cl; have CV := Lib.hid cv; have H5 := Lib.hid (h5.al (.cells #[.int .u64 (bk.length : Nat)] 106))
            clear cl cv h5 q5 CT H3
            go_wp2_with fail
            refine CL.out.mono ?_
            rintro e w6 ⟨rfl, rfl⟩
            go_wp2_with fail
            refine CV.out.mono ?_
            rintro e w7 ⟨rfl, q7⟩
            have h7 := H5.out.q q7
            have cw := B3_write1 _ w w7 w1.heap.size (w1.heap.size + 1) wo.heap.size _ _ _ _ (bytes_append (textE hd) (varE bk.length)) h7 (by omega) (by omega) (by rw [List.length_append]; omega)
            rw [← HIS.out] at cw
            have CW := Lib.hid cw
            clear cw h7 q7 CL CV H5
            go_wp2_with fail
            refine CW.out.mono ?_
            rintro e w8 ⟨rfl, h8⟩
            have cs := B3_string _ _ _ _ _ _ _ _ h8 (by omega) (by omega)
            have CS := Lib.hid cs
            clear cs h8 CW
            go_wp2_with fail
            refine CS.out.mono ?_
            rintro e w9 ⟨rfl, h9, hb9⟩
            have cw := Bs2_write2 _ w w9 w1.heap.size (w1.heap.size + 1) _ _ bk rfl h9 hb9 (by omega) (by omega)
            rw [← HAS.out] at cw
            have CW := Lib.hid cw
            clear cw h9 hb9 CS
            go_wp2_with fail
            refine CW.out.mono ?_
            rintro e w10 ⟨rfl, h10, hb10⟩
            have H10 := Lib.hid h10; have HB10 := Lib.hid hb10
            clear h10 hb10 CW
            go_wp2_with fail
            go_roundw
            case rel => exact ⟨m + 1, by go_num, .inr (by omega), H10, HB10⟩
            case measure => simp [intOf]; omega
    · have hfin := dictE_eq l m (by omega) hm
      have hil := idxTo_len HL.out m
      have hall := allTo_len HL.out m
      have hm2 : m ≤ 65537 := by omega
      have c1 := Bs2_string1 w wo w1.heap.size (w1.heap.size + 1) _ _ HS.out HB.out (by omega)
      have HF := Lib.hid hfin; have C1 := Lib.hid c1
      clear hfin c1 HS HB
      generalize idxTo l m = il at *
      generalize allTo l m = al at *
      go_wp2_with fail
      refine C1.out.mono ?_
      rintro e w3 ⟨rfl, ⟨r2, hb3⟩, hbe3⟩
      have c2 := String_step _ _ _ _ _ hb3
      have C2 := Lib.hid c2; have HB3 := Lib.hid hb3; have HE3 := Lib.hid hbe3
      clear c2 hb3 hbe3 C1
      go_wp2_with fail
      refine C2.out.mono ?_
      rintro e w4 ⟨rfl, hs⟩
      have hb4 := HE3.out.trans (HB3.out.below hs HE3.out.size)
      have HB4 := Lib.hid hb4
      clear hb4 hs C2 HB3 HE3
      go_wp2_with fail
      go_ret2
      exact ⟨ret_str_int (by rw [bytes_append, HF.out]), HB4.out⟩
end Go.Proofs.YtoabhcfmdkhmgaaGreatDoor
end

/- (WText) wire.ToText: walked -/
section
namespace Go.Proofs.YtoabhcfmdkhmgaaGreatDoor
open Go.RowKit
set_option linter.unusedVariables false

theorem IsText.var {s t r : Bytes} (h : IsText s t r) : IsVar s t.length (t ++ r) := by
  refine ⟨h.1, ?_⟩
  rw [h.2, textE, List.append_assoc]
theorem IsText.of_var {s r : Bytes} {v : Nat} (h : IsVar s v r) (hv : v ≤ r.length) : IsText s (r.take v) (r.drop v) := by
  have e : (r.take v).length = v := by rw [List.length_take]; omega
  refine ⟨by rw [e]; exact h.1, ?_⟩
  rw [textE, e, List.append_assoc, List.take_append_drop]
  exact h.2

set_option maxHeartbeats 1000000 in
theorem ToText_some (s t r : Bytes) (w : World) (hs : s.length ≤ 9223372036854775807) (h : IsText s t r) :
    Calls Tryz.prog 96 #[.string ⟨s.toArray⟩] w fun e w' => e = .returned (.tuple #[.string ⟨t.toArray⟩, .string ⟨r.toArray⟩, .bool true]) ∧ Q w w' := by
  have hv := h.var
  have hlen : s.length = (varE t.length).length + (t.length + r.length) := by rw [hv.2, List.length_append, List.length_append]
  have c := ToVar_some s t.length (t ++ r) w hs hv
  obtain ⟨rr, hrr⟩ : ∃ rr, rr = t ++ r := ⟨_, rfl⟩
  have hrl : rr.length = t.length + r.length := by rw [hrr, List.length_append]
  rw [← hrr] at c
  have hle : t.length ≤ rr.length := by omega
  have hrl2 : rr.length ≤ 9223372036854775807 := by omega
  have e1 : rr.take t.length = t := by rw [hrr, List.take_left']; rfl
  have e2 : rr.drop t.length = r := by rw [hrr, List.drop_left']; rfl
  generalize t.length = n at *
  have C := Lib.hid c; have E1 := Lib.hid e1; have E2 := Lib.hid e2
  clear c e1 e2 hrl hlen hv hrr h
  go_enter Tryz.func96, Tryz.ntmps96
  go_wp2_with fail
  refine C.out.mono ?_
  rintro e w1 ⟨rfl, q1⟩
  go_wp2_with fail
  go_quiet (fail)
  go_wp2_with fail
  go_ret3
  exact ⟨ret_str_str (by rw [bytes_take, E1.out]) (by rw [bytes_drop, E2.out]), q1.trans (Q.drewN _ _)⟩

set_option maxHeartbeats 1000000 in
theorem ToText_bad (s : Bytes) (w : World) (hs : s.length ≤ 9223372036854775807) (h : ∀ v r, ¬ IsVar s v r) :
    Calls Tryz.prog 96 #[.string ⟨s.toArray⟩] w fun e w' => e = .returned (.tuple #[.string ⟨([] : Bytes).toArray⟩, .string ⟨([] : Bytes).toArray⟩, .bool false]) ∧ Q w w' := by
  have c := ToVar_none s w hs h
  have C := Lib.hid c
  clear c h
  go_enter Tryz.func96, Tryz.ntmps96
  go_wp2_with fail
  refine C.out.mono ?_
  rintro e w1 ⟨rfl, q1⟩
  go_wp2_with fail
  go_ret3
  exact ⟨rfl, q1⟩
set_option maxHeartbeats 1000000 in
theorem ToText_long (s r : Bytes) (v : Nat) (w : World) (hs : s.length ≤ 9223372036854775807) (h : IsVar s v r) (hv : r.length < v) :
    Calls Tryz.prog 96 #[.string ⟨s.toArray⟩] w fun e w' => e = .returned (.tuple #[.string ⟨([] : Bytes).toArray⟩, .string ⟨([] : Bytes).toArray⟩, .bool false]) ∧ Q w w' := by
  have c := ToVar_some s v r w hs h
  have hr : r.length ≤ 9223372036854775807 := by have := congrArg List.length h.2; rw [List.length_append] at this; omega
  have hv2 := h.1
  have C := Lib.hid c
  clear c h
  go_enter Tryz.func96, Tryz.ntmps96
  go_wp2_with fail
  refine C.out.mono ?_
  rintro e w1 ⟨rfl, q1⟩
  go_wp2_with fail
  go_ret3
  exact ⟨rfl, q1⟩
theorem ToText_none (s : Bytes) (w : World) (hs : s.length ≤ 9223372036854775807) (h : ∀ t r, ¬ IsText s t r) :
    Calls Tryz.prog 96 #[.string ⟨s.toArray⟩] w fun e w' => e = .returned (.tuple #[.string ⟨([] : Bytes).toArray⟩, .string ⟨([] : Bytes).toArray⟩, .bool false]) ∧ Q w w' := by
  by_cases hv : ∃ v r, IsVar s v r
  · obtain ⟨v, r, hv⟩ := hv
    by_cases hl : v ≤ r.length
    · exact absurd (IsText.of_var hv hl) (h _ _)
    · exact ToText_long s r v w hs hv (by omega)
  · exact ToText_bad s w hs (fun v r hvr => hv ⟨v, r, hvr⟩)
end Go.Proofs.YtoabhcfmdkhmgaaGreatDoor
end

/- (Read) What a segment's body reads as. No program in sight. -/
section
namespace Go.Proofs.YtoabhcfmdkhmgaaGreatDoor

/-- s is the number of the documents l, these, and the dictionary d -/
def IsRead (s : Bytes) (l : List DocL) (d : Bytes) : Prop :=
  l.length ≤ 500 ∧ (∀ x ∈ l, shortDoc x) ∧ d.length < 18446744073709551616 ∧ s = varE l.length ++ (docsE l ++ textE d)
/-- k of n documents are read, r is left -/
def Mid (s : Bytes) (n : Nat) (l : List DocL) (r : Bytes) : Prop :=
  n ≤ 500 ∧ (∀ x ∈ l, shortDoc x) ∧ l.length ≤ n ∧ s = varE n ++ (docsE l ++ r)
theorem Mid.step {s : Bytes} {n : Nat} {l : List DocL} {r i r1 t r2 : Bytes} (h : Mid s n l r) (hl : l.length < n) (h1 : IsText r i r1) (h2 : IsText r1 t r2) : Mid s n (l ++ [(i, t)]) r2 := by
  obtain ⟨a, b, c, e⟩ := h
  refine ⟨a, ?_, by simp; omega, ?_⟩
  · intro x hx
    simp only [List.mem_append, List.mem_singleton] at hx
    rcases hx with hx | rfl
    · exact b x hx
    · exact ⟨h1.1, h2.1⟩
  · rw [e, docsE_append, h1.2, h2.2]; simp [docsE]
theorem Mid.len {s : Bytes} {n : Nat} {l : List DocL} {r : Bytes} (h : Mid s n l r) : r.length ≤ s.length := by
  rw [h.2.2.2]; simp; omega
theorem Mid.done {s : Bytes} {n : Nat} {l : List DocL} {r d : Bytes} (h : Mid s n l r) (hl : l.length = n) (h1 : IsText r d []) : IsRead s l d := by
  obtain ⟨a, b, c, e⟩ := h
  exact ⟨by omega, b, h1.1, by rw [e, h1.2, hl]; simp⟩
/-- whatever s reads as, it begins with what is read already -/
theorem Mid.begins {s : Bytes} {n : Nat} {l m : List DocL} {r d : Bytes} (h : Mid s n l r) (hr : IsRead s m d) : m.length = n ∧ r = docsE (m.drop l.length) ++ textE d := by
  obtain ⟨a, b, c, e⟩ := h
  obtain ⟨a', b', c', e'⟩ := hr
  rw [e] at e'
  obtain ⟨h1, h2⟩ := varE_inj _ _ (by omega) (by omega) _ _ e'
  refine ⟨h1.symm, ?_⟩
  have hm : m = m.take l.length ++ m.drop l.length := (List.take_append_drop _ _).symm
  rw [hm, docsE_append, List.append_assoc] at h2
  have hlen : l.length = (m.take l.length).length := by rw [List.length_take]; omega
  exact (docsE_inj l (m.take l.length) hlen b (fun x hx => b' x (List.mem_of_mem_take hx)) _ _ h2).2
theorem Mid.next {s : Bytes} {n : Nat} {l m : List DocL} {r d : Bytes} (h : Mid s n l r) (hr : IsRead s m d) (hl : l.length < n) : ∃ i t r1 r2, IsText r i r1 ∧ IsText r1 t r2 := by
  obtain ⟨h1, h2⟩ := h.begins hr
  have hlt : l.length < m.length := by omega
  rw [List.drop_eq_getElem_cons hlt] at h2
  have hs := hr.2.1 m[l.length] (List.getElem_mem hlt)
  exact ⟨_, _, _, _, ⟨hs.1, by rw [h2]; simp [docsE]; rfl⟩, ⟨hs.2, rfl⟩⟩
theorem Mid.last {s : Bytes} {n : Nat} {l m : List DocL} {r d : Bytes} (h : Mid s n l r) (hr : IsRead s m d) (hl : l.length = n) : IsText r d [] := by
  obtain ⟨h1, h2⟩ := h.begins hr
  have : m.drop l.length = [] := List.drop_eq_nil_of_le (by omega)
  rw [this] at h2
  exact ⟨hr.2.2.1, by rw [h2]; simp [docsE]⟩
end Go.Proofs.YtoabhcfmdkhmgaaGreatDoor
end
