/- Joined texts of one proof: Mem3, Own, WRef10e, Bld. -/
import Derived.Test.YtoabhcfmdkhmgaaGreatDoorPKitToSegSpec
import Derived.RangeFuncBox
import Derived.Test.YtoabhcfmdkhmgaaGreatDoorPWRef10aToWRef10d
import Derived.Deep.AppendLies
import Derived.Test.YtoabhcfmdkhmgaaGreatDoorProg
import Derived.WalkKit
import Derived.WalkSpells
import Derived.WalkLawsBesides
import Derived.Lib.Builder
import Derived.Lib.FrozenHead
import Derived.Lib.FrozenHead2
import Derived.Outline
import Derived.KernelRfl
set_option linter.unusedSimpArgs false
set_option linter.unusedVariables false
set_option linter.unnecessarySimpa false
/- (Mem3) Blocks of several cells: what they hold, and stores into them. Over any program. -/
section
namespace Go.Proofs.YtoabhcfmdkhmgaaGreatDoor
open Go.RowKit
set_option linter.unusedVariables false

/-- block k holds the cells cs -/
def Blk (w : World) (k : Nat) (t : TypeId) (cs : Array Value) : Prop := w.heap[k]? = some (.cells cs t (0, 0))
theorem Blk.new (w : World) (t : TypeId) (cs : Array Value) : Blk (w.alloc (.cells cs t)) w.heap.size t cs := World.alloc_heap_new w _
theorem Blk.lt {w : World} {k : Nat} {t : TypeId} {cs : Array Value} (h : Blk w k t cs) : k < w.heap.size := (Array.getElem?_eq_some_iff.1 h).1
theorem Blk.stays {w w' : World} {k : Nat} {t : TypeId} {cs : Array Value} (h : Blk w k t cs) (q : Q w w') : Blk w' k t cs := (q.block k h.lt).trans h
theorem Blk.stays' {w w' : World} {k n : Nat} {t : TypeId} {cs : Array Value} (h : Blk w k t cs) (q : Below n w w') (hk : k < n) : Blk w' k t cs := (q.block k hk).trans h
theorem Blk.alloc {w : World} {k : Nat} {t : TypeId} {cs : Array Value} (h : Blk w k t cs) (o : Obj) : Blk (w.alloc o) k t cs := h.stays (Q.alloc _ _)
theorem Blk.cell {w : World} {k : Nat} {t : TypeId} {cs : Array Value} (h : Blk w k t cs) (i : Nat) (v : Value) (hv : cs[i]? = some v) : w.cell? ⟨k, i, none⟩ = some v := by
  simp only [World.cell?, show w.heap[k]? = _ from h]
  exact hv
theorem Blk.frozen {w : World} {k : Nat} {t : TypeId} {cs : Array Value} (h : Blk w k t cs) (i : Nat) : w.frozen? ⟨k, i, none⟩ = false := by
  simp [World.frozen?, show w.heap[k]? = _ from h]
theorem Blk.set {w : World} {k : Nat} {t : TypeId} {cs : Array Value} (h : Blk w k t cs) (i : Nat) (v : Value) : Blk (w.setCell ⟨k, i, none⟩ v) k t (cs.setIfInBounds i v) := by
  obtain ⟨hlt, hk⟩ := Array.getElem?_eq_some_iff.1 h
  show (w.heap.modify k _)[k]? = _
  rw [Array.getElem?_eq_getElem (by rw [Array.size_modify]; exact hlt), Array.getElem_modify_self, hk]
  rfl
theorem Blk.other {w : World} {k : Nat} {t : TypeId} {cs : Array Value} (h : Blk w k t cs) (a : Addr) (v : Value) (hne : k ≠ a.block) : Blk (w.setCell a v) k t cs := (Below.heap_setCell w a v k hne).trans h
theorem Blk.c2 {w : World} {k : Nat} {t : TypeId} {a b : Value} (h : Blk w k t #[a, b]) : w.cell? ⟨k, 0, none⟩ = some a ∧ w.cell? ⟨k, 1, none⟩ = some b ∧ w.frozen? ⟨k, 0, none⟩ = false ∧ w.frozen? ⟨k, 1, none⟩ = false :=
  ⟨h.cell 0 _ rfl, h.cell 1 _ rfl, h.frozen 0, h.frozen 1⟩
theorem Blk.c3 {w : World} {k : Nat} {t : TypeId} {a b c : Value} (h : Blk w k t #[a, b, c]) : w.cell? ⟨k, 0, none⟩ = some a ∧ w.cell? ⟨k, 1, none⟩ = some b ∧ w.cell? ⟨k, 2, none⟩ = some c ∧ w.frozen? ⟨k, 0, none⟩ = false ∧ w.frozen? ⟨k, 1, none⟩ = false ∧ w.frozen? ⟨k, 2, none⟩ = false :=
  ⟨h.cell 0 _ rfl, h.cell 1 _ rfl, h.cell 2 _ rfl, h.frozen 0, h.frozen 1, h.frozen 2⟩
theorem Blk.c4 {w : World} {k : Nat} {t : TypeId} {a b c d : Value} (h : Blk w k t #[a, b, c, d]) : w.cell? ⟨k, 0, none⟩ = some a ∧ w.cell? ⟨k, 1, none⟩ = some b ∧ w.cell? ⟨k, 2, none⟩ = some c ∧ w.cell? ⟨k, 3, none⟩ = some d ∧ w.frozen? ⟨k, 0, none⟩ = false ∧ w.frozen? ⟨k, 1, none⟩ = false ∧ w.frozen? ⟨k, 2, none⟩ = false ∧ w.frozen? ⟨k, 3, none⟩ = false :=
  ⟨h.cell 0 _ rfl, h.cell 1 _ rfl, h.cell 2 _ rfl, h.cell 3 _ rfl, h.frozen 0, h.frozen 1, h.frozen 2, h.frozen 3⟩
theorem Blk.s2 {w : World} {k : Nat} {t : TypeId} {a b : Value} (h : Blk w k t #[a, b]) : (∀ x, (w.setCell ⟨k, 0, none⟩ x).cell? ⟨k, 0, none⟩ = some x) ∧ (∀ x y, ((w.setCell ⟨k, 0, none⟩ x).setCell ⟨k, 1, none⟩ y).cell? ⟨k, 1, none⟩ = some y) :=
  ⟨fun x => (h.set 0 x).cell 0 x rfl, fun x y => ((h.set 0 x).set 1 y).cell 1 y rfl⟩
theorem Blk.s3 {w : World} {k : Nat} {t : TypeId} {a b c : Value} (h : Blk w k t #[a, b, c]) : (∀ x, (w.setCell ⟨k, 0, none⟩ x).cell? ⟨k, 0, none⟩ = some x) ∧ (∀ x y, ((w.setCell ⟨k, 0, none⟩ x).setCell ⟨k, 1, none⟩ y).cell? ⟨k, 1, none⟩ = some y) ∧
    (∀ x y z, (((w.setCell ⟨k, 0, none⟩ x).setCell ⟨k, 1, none⟩ y).setCell ⟨k, 2, none⟩ z).cell? ⟨k, 2, none⟩ = some z) :=
  ⟨fun x => (h.set 0 x).cell 0 x rfl, fun x y => ((h.set 0 x).set 1 y).cell 1 y rfl, fun x y z => (((h.set 0 x).set 1 y).set 2 z).cell 2 z rfl⟩
theorem Blk.s4 {w : World} {k : Nat} {t : TypeId} {a b c d : Value} (h : Blk w k t #[a, b, c, d]) : (∀ x, (w.setCell ⟨k, 0, none⟩ x).cell? ⟨k, 0, none⟩ = some x) ∧ (∀ x y, ((w.setCell ⟨k, 0, none⟩ x).setCell ⟨k, 1, none⟩ y).cell? ⟨k, 1, none⟩ = some y) ∧
    (∀ x y z, (((w.setCell ⟨k, 0, none⟩ x).setCell ⟨k, 1, none⟩ y).setCell ⟨k, 2, none⟩ z).cell? ⟨k, 2, none⟩ = some z) ∧ (∀ x y z u, ((((w.setCell ⟨k, 0, none⟩ x).setCell ⟨k, 1, none⟩ y).setCell ⟨k, 2, none⟩ z).setCell ⟨k, 3, none⟩ u).cell? ⟨k, 3, none⟩ = some u) :=
  ⟨fun x => (h.set 0 x).cell 0 x rfl, fun x y => ((h.set 0 x).set 1 y).cell 1 y rfl, fun x y z => (((h.set 0 x).set 1 y).set 2 z).cell 2 z rfl, fun x y z u => ((((h.set 0 x).set 1 y).set 2 z).set 3 u).cell 3 u rfl⟩
/-- three stores into a block of three cells: what it holds then -/
theorem Blk.r3 {w : World} {k : Nat} {t : TypeId} {a b c : Value} (h : Blk w k t #[a, b, c]) (x y z : Value) : (((w.setCell ⟨k, 0, none⟩ x).setCell ⟨k, 1, none⟩ y).setCell ⟨k, 2, none⟩ z).cell? ⟨k, 0, none⟩ = some x ∧ (((w.setCell ⟨k, 0, none⟩ x).setCell ⟨k, 1, none⟩ y).setCell ⟨k, 2, none⟩ z).cell? ⟨k, 1, none⟩ = some y ∧
    (((w.setCell ⟨k, 0, none⟩ x).setCell ⟨k, 1, none⟩ y).setCell ⟨k, 2, none⟩ z).cell? ⟨k, 2, none⟩ = some z ∧ Blk (((w.setCell ⟨k, 0, none⟩ x).setCell ⟨k, 1, none⟩ y).setCell ⟨k, 2, none⟩ z) k t #[x, y, z] :=
  ⟨(((h.set 0 x).set 1 y).set 2 z).cell 0 x rfl, (((h.set 0 x).set 1 y).set 2 z).cell 1 y rfl, (((h.set 0 x).set 1 y).set 2 z).cell 2 z rfl, ((h.set 0 x).set 1 y).set 2 z⟩
theorem Blk.r4 {w : World} {k : Nat} {t : TypeId} {a b c d : Value} (h : Blk w k t #[a, b, c, d]) (x y z u : Value) : ((((w.setCell ⟨k, 0, none⟩ x).setCell ⟨k, 1, none⟩ y).setCell ⟨k, 2, none⟩ z).setCell ⟨k, 3, none⟩ u).cell? ⟨k, 0, none⟩ = some x ∧ ((((w.setCell ⟨k, 0, none⟩ x).setCell ⟨k, 1, none⟩ y).setCell ⟨k, 2, none⟩ z).setCell ⟨k, 3, none⟩ u).cell? ⟨k, 1, none⟩ = some y ∧
    ((((w.setCell ⟨k, 0, none⟩ x).setCell ⟨k, 1, none⟩ y).setCell ⟨k, 2, none⟩ z).setCell ⟨k, 3, none⟩ u).cell? ⟨k, 2, none⟩ = some z ∧ ((((w.setCell ⟨k, 0, none⟩ x).setCell ⟨k, 1, none⟩ y).setCell ⟨k, 2, none⟩ z).setCell ⟨k, 3, none⟩ u).cell? ⟨k, 3, none⟩ = some u ∧
    Blk ((((w.setCell ⟨k, 0, none⟩ x).setCell ⟨k, 1, none⟩ y).setCell ⟨k, 2, none⟩ z).setCell ⟨k, 3, none⟩ u) k t #[x, y, z, u] :=
  ⟨((((h.set 0 x).set 1 y).set 2 z).set 3 u).cell 0 x rfl, ((((h.set 0 x).set 1 y).set 2 z).set 3 u).cell 1 y rfl, ((((h.set 0 x).set 1 y).set 2 z).set 3 u).cell 2 z rfl, ((((h.set 0 x).set 1 y).set 2 z).set 3 u).cell 3 u rfl, (((h.set 0 x).set 1 y).set 2 z).set 3 u⟩
/-- a store into a new block -/
theorem Q.setCell {w w' : World} (h : Q w w') {a : Addr} (ha : w.heap.size ≤ a.block) (v : Value) : Q w (w'.setCell a v) := Below.setCell h ha v
end Go.Proofs.YtoabhcfmdkhmgaaGreatDoor
end

/- (Own) Rows that a call owns: two laws. Over any program. -/
section
namespace Go.Proofs.YtoabhcfmdkhmgaaGreatDoor
open Go.RowKit

theorem owns_low {w : World} {base base' : Nat} {e : TypeId} {size : Nat} {v : Value} {n : Nat} {xs : List Value} (h : w.ownsRow base e size v n xs) (hb : base' ≤ base) : w.ownsRow base' e size v n xs := by
  obtain ⟨h1, h2⟩ := h
  refine ⟨h1, ?_⟩
  rcases h2 with h2 | ⟨g, cap, cur, rfl, hb2, hg, rest⟩
  · exact .inl h2
  · exact .inr ⟨g, cap, cur, rfl, Nat.le_trans hb hb2, hg, rest⟩
theorem owns_kind {w : World} {base : Nat} {e : TypeId} {size : Nat} {v : Value} {n : Nat} {xs : List Value} (h : w.ownsRow base e size v n xs) : ∀ g, v.ownBlock = some g → ∃ cs, w.heap[g]? = some (.cells cs e (0, 0)) := by
  intro g hg
  rcases h.2 with ⟨rfl, _⟩ | ⟨g', cap, cur, rfl, _, hgg, _⟩
  · simp [Value.ownBlock] at hg
  · simp only [Value.ownBlock, Option.some.injEq] at hg
    subst hg
    exact ⟨_, hgg⟩
theorem rows_apart {w : World} {base base' : Nat} {e e' : TypeId} {size size' : Nat} {v v' : Value} {n n' : Nat} {xs xs' : List Value} (h : w.ownsRow base e size v n xs) (h' : w.ownsRow base' e' size' v' n' xs') (hne : e ≠ e') {g : Nat} (hg : v'.ownBlock = some g) : v.ownBlock ≠ some g := by
  intro hb
  obtain ⟨cs, hc⟩ := owns_kind h g hb
  obtain ⟨cs', hc'⟩ := owns_kind h' g hg
  rw [hc] at hc'
  injection hc' with hc'
  injection hc' with _ hc' _
  exact hne hc'
/-- a row of another type is as it was where a row grows -/
theorem row_beside {w w' : World} {base base' : Nat} {e e' : TypeId} {size size' : Nat} {v v' : Value} {n n' : Nat} {xs xs' : List Value} (h : w.ownsRow base e size v n xs) (h' : w.ownsRow base' e' size' v' n' xs') (hg : w.grownBy w' v'.ownBlock) (hne : e ≠ e') : w'.ownsRow base e size v n xs := by
  refine h.kept hg ?_
  cases hv : v'.ownBlock with
  | none => cases hb : v.ownBlock with
    | none => exact .inl rfl
    | some g => exact .inr (by simp)
  | some g => exact .inr (rows_apart h h' hne hv)
/-- a block of cells of another type is as it was where a row grows -/
theorem blk_beside {w w' : World} {base : Nat} {e : TypeId} {size : Nat} {v : Value} {n : Nat} {xs : List Value} {k : Nat} {t : TypeId} {cs : Array Value} (h : Blk w k t cs) (h' : w.ownsRow base e size v n xs) (hg : w.grownBy w' v.ownBlock) (hne : t ≠ e) : Blk w' k t cs := by
  refine (hg.block k h.lt (fun e' => ?_)).trans h
  obtain ⟨cs, hc⟩ := owns_kind h' k e'.symm
  rw [show _ = _ from h] at hc
  injection hc with h3
  injection h3 with _ h3 _
  exact hne h3
theorem add_off (b off j : Nat) : (⟨b, off, none⟩ : Addr).add j = ⟨b, off + j, none⟩ := by unfold Addr.add; split <;> simp_all
end Go.Proofs.YtoabhcfmdkhmgaaGreatDoor
end

/- (WRef10e) codexref10: Valid, Folded: walked. -/
section
namespace Go.Proofs.YtoabhcfmdkhmgaaGreatDoor
open Go.RowKit
set_option linter.unusedVariables false

theorem rune1_neg (s : Bytes) (h : s ≠ []) : -1 ≤ (rune1 s).1 ∧ (rune1 s).1 ≤ 1114111 := by
  cases s with
  | nil => exact absurd rfl h
  | cons b s =>
    have := decodeN_bounds (b :: s).length ((b :: s).getD 0 0).toNat ((b :: s).getD 1 0).toNat ((b :: s).getD 2 0).toNat ((b :: s).getD 3 0).toNat
    unfold rune1
    simp only []
    split <;> simp only <;> omega
theorem validL_step (s : Bytes) (h : s ≠ []) : validL s = (decide (0 ≤ (rune1 s).1) && validL (s.drop (rune1 s).2)) := by
  unfold validL
  rw [chunks_cons s h]; rfl
set_option maxRecDepth 100000 in
set_option maxHeartbeats 4000000 in
theorem RValid_any (s : Bytes) (w : World) (hs : s.length ≤ 9223372036854775807) :
    Calls Tryz.prog 76 #[strV s] w fun e w' => e = .returned (.bool (validL s)) ∧ Q w w' := by
  go_enter Tryz.func76, Tryz.ntmps76
  go_wp2_with fail
  go_loopw [0] (fun v wr => ∃ t : Bytes, v = strV t ∧ t.length ≤ s.length ∧ Hid (validL s = validL t) ∧ Hid (Q w wr)) (fun v _ => (match v with | .string b => b.size | _ => 0))
  case atStart => exact ⟨s, rfl, Nat.le_refl _, rfl, Q.refl _⟩
  case round =>
    obtain ⟨t, rfl, htl, HVL, HQ⟩ := hrel
    obtain ⟨wo, rfl⟩ : ∃ wo : World, wo = wr := ⟨_, rfl⟩
    by_cases hne : t = []
    · subst hne
      go_wp2_with fail
      go_ret
      exact ⟨by rw [HVL.out]; rfl, HQ.out⟩
    · have hl : 0 < t.length := List.length_pos_iff.2 hne
      have hli : (0 : Int) < (t.length : Int) := by omega
      obtain ⟨hn1, hn2⟩ := rune1_size t hne
      have hrb := rune1_neg t hne
      have hst := validL_step t hne
      have cr := fun W => RRune_any t W (by omega)
      have hdr : ({ data := t.toArray } : ByteArray).extract (rune1 t).2 t.length = ⟨(t.drop (rune1 t).2).toArray⟩ := bytes_drop t _
      have hdl : (t.drop (rune1 t).2).length = t.length - (rune1 t).2 := List.length_drop
      generalize hr : rune1 t = rn at *
      obtain ⟨r, n⟩ := rn
      simp only at hn1 hn2 hrb hst cr hdr hdl
      generalize t.drop n = td at *
      have hni : (n : Int) ≤ (t.length : Int) := by omega
      have hn0 : (0 : Int) ≤ (n : Int) := by omega
      have HST := Lib.hid hst; have HDL := Lib.hid hdl
      clear hst hr hne hdl
      by_cases h0 : r < 0
      · go_wp2_with fail
        refine (cr _).mono ?_
        rintro e w1 ⟨rfl, q1⟩
        have HQ1 := Lib.hid (HQ.out.trans q1)
        clear q1
        go_wp2_with fail
        go_ret
        exact ⟨by rw [HVL.out, HST.out, decide_eq_false (by omega)]; rfl, HQ1.out⟩
      · go_wp2_with fail
        refine (cr _).mono ?_
        rintro e w1 ⟨rfl, q1⟩
        have HQ1 := Lib.hid (HQ.out.trans q1)
        clear q1
        go_wp2_with fail
        go_roundw
        case rel => exact ⟨td, rfl, by have := HDL.out; omega, by show _ = _; rw [HVL.out, HST.out, decide_eq_true (by omega)]; rfl, HQ1⟩
        case measure => show td.length < t.length; have := HDL.out; omega
end Go.Proofs.YtoabhcfmdkhmgaaGreatDoor
end

/- (Bld) A strings.Builder that the call itself has made: what it holds; copyCheck, WriteByte, WriteString: walked at this dump, with a frame that names the two blocks that may turn. -/
section
namespace Go.Proofs.YtoabhcfmdkhmgaaGreatDoor
open Go.RowKit
set_option linter.unusedVariables false

abbrev byteVs (l : Bytes) : List Value := Lib.byteCells l
/-- at block b lies a builder of the call's own (its memory from block B on) that holds the bytes l; its buffer lies in block r -/
def Bld (w : World) (B b : Nat) (r : Option Nat) (l : Bytes) : Prop :=
  B ≤ b ∧ ∃ p v, w.heap[b]? = some (.cells #[p, v] 125 (0, 0)) ∧ (p = .pointer none ∨ p = .pointer (some ⟨b, 0, none⟩)) ∧ w.ownsRowF B 5 1 v l.length (byteVs l) ∧ v.ownBlock = r ∧ r ≠ some b ∧ (l = [] → r = none)
/-- but for block b and block r, what lay in w lies in w' -/
structure Step2 (w w' : World) (b : Nat) (r : Option Nat) : Prop where
  os : w'.os = w.os
  tape : w'.tape = w.tape
  output : w'.output = w.output
  size : w.heap.size ≤ w'.heap.size
  block : ∀ k, k < w.heap.size → k ≠ b → some k ≠ r → w'.heap[k]? = w.heap[k]?
theorem Step2.refl (w : World) (b : Nat) (r : Option Nat) : Step2 w w b r := ⟨rfl, rfl, rfl, Nat.le_refl _, fun _ _ _ _ => rfl⟩
theorem Step2.below {w w' : World} {b : Nat} {r : Option Nat} {B : Nat} (h : Step2 w w' b r) (hb : B ≤ b) (hr : ∀ k, r = some k → B ≤ k) (hB : B ≤ w.heap.size) : Below B w w' :=
  ⟨h.os, h.tape, h.output, h.size, fun k hk => h.block k (by omega) (by omega) (fun e => by have := hr k e.symm; omega)⟩
theorem Bld.lt {w : World} {B b : Nat} {r : Option Nat} {l : Bytes} (h : Bld w B b r l) : b < w.heap.size := by
  obtain ⟨_, p, v, hb, _⟩ := h
  exact (Array.getElem?_eq_some_iff.1 hb).1
theorem Bld.row {w : World} {B b : Nat} {r : Option Nat} {l : Bytes} (h : Bld w B b r l) : ∀ k, r = some k → B ≤ k ∧ k < w.heap.size := by
  obtain ⟨_, p, v, hb, _, ho, hr, _, _⟩ := h
  intro k hk
  exact ho.lt k (hr.trans hk)
theorem Bld.below {w w' : World} {B b : Nat} {r : Option Nat} {l : Bytes} (h : Bld w B b r l) (hs : Step2 w w' b r) (hB : B ≤ w.heap.size) : Below B w w' :=
  hs.below h.1 (fun k hk => (h.row k hk).1) hB
/-- a builder stands while what is turned is not its own -/
theorem Bld.stays {w w' : World} {B b : Nat} {r : Option Nat} {l : Bytes} (h : Bld w B b r l) (hb : w'.heap[b]? = w.heap[b]?) (hr : ∀ k, r = some k → w'.heap[k]? = w.heap[k]?) (hsz : w.heap.size ≤ w'.heap.size) : Bld w' B b r l := by
  obtain ⟨h1, p, v, h2, h3, ho, h4, h5⟩ := h
  refine ⟨h1, p, v, hb.trans h2, h3, ⟨ho.1, ?_⟩, h4, h5⟩
  rcases ho.2 with hn | ⟨g, cap, cur, fz, rfl, hbg, hg, rest⟩
  · exact .inl hn
  · exact .inr ⟨g, cap, cur, fz, rfl, hbg, (hr g (by rw [← h4]; rfl)).trans hg, rest⟩
theorem Bld.alloc {w : World} {B b : Nat} {r : Option Nat} {l : Bytes} (h : Bld w B b r l) (o : Obj) : Bld (w.alloc o) B b r l :=
  h.stays (Below.heap_alloc _ _ _ h.lt) (fun k hk => Below.heap_alloc _ _ _ (h.row k hk).2) (by simp)
theorem Bld.step {w w' : World} {B b b2 : Nat} {r r2 : Option Nat} {l : Bytes} (h : Bld w B b r l) (hs : Step2 w w' b2 r2) (h1 : b ≠ b2) (h2 : some b ≠ r2) (h3 : r ≠ some b2) (h4 : r = none ∨ r ≠ r2) : Bld w' B b r l :=
  h.stays (hs.block b h.lt h1 h2) (fun k hk => hs.block k (h.row k hk).2 (fun e => h3 (by rw [hk, e])) (fun e => by
    rcases h4 with h4 | h4
    · rw [h4] at hk; cases hk
    · exact h4 (hk.trans e))) hs.size
/-- 'var b strings.Builder' -/
theorem Bld.new (w : World) (B : Nat) (hB : B ≤ w.heap.size) : Bld (w.alloc (.cells #[.pointer none, .slice none 0 0] 125)) B w.heap.size none [] :=
  ⟨hB, _, _, heap_alloc_new w _, .inl rfl, World.ownsRowF_nil _ _ _ _, rfl, by simp, fun _ => rfl⟩

theorem sizeBuilder : (Tryz.prog.info? 125).map (·.size) = some 2 := by kernel_rfl
theorem liesBuilder : liesAt Tryz.prog Tryz.prog.depth 125 (2 / Tryz.prog.cellsOf 125) 0 125 1 = true := by kernel_rfl
theorem infoByte : (Tryz.prog.info? 5).map (fun i => (i.zero, i.size, i.bytes)) = some (some (.int .u8 0), 1, 1) := by kernel_rfl

set_option maxRecDepth 100000 in
set_option maxHeartbeats 1000000 in
theorem copyCheck_fresh (b : Nat) (w : World) (h0 : w.cell? ⟨b, 0, none⟩ = some (.pointer none)) (hsh : w.shape? b = some (125, 2)) (hfz : w.frozen? ⟨b, 0, none⟩ = false) :
    Calls Tryz.prog 88 #[.pointer (some ⟨b, 0, none⟩)] w fun e w' => e = .returned (.tuple #[]) ∧ w' = w.setCell ⟨b, 0, none⟩ (.pointer (some ⟨b, 0, none⟩)) := by
  obtain ⟨j, hj, hjs⟩ := Option.map_eq_some_iff.1 sizeBuilder
  go_enter Tryz.func88, Tryz.ntmps88
  go_wp2
  rw [Lib.run_to_unsafe w ⟨b, 0, none⟩ Tryz.underlying123 Tryz.underlying187 hj (by rw [hjs]; decide) hsh (Nat.zero_lt_succ 1)]
  simp only [Result.andThen]
  rw [Oper.upon_value]
  go_wp2
  rw [run_callFunc_extern Tryz.func115 (by kernel_rfl) (by kernel_rfl) (by kernel_rfl) (e := Extern.AbiNoEscape.same) (by kernel_rfl)]
  rw [Lib.run_noEscape]
  simp only [Result.andThen]
  rw [Oper.upon_value]
  go_wp2
  rw [Lib.run_from_unsafe w ⟨b, 0, none⟩ Tryz.underlying187 Tryz.underlying123 hj hsh liesBuilder]
  simp only [Result.andThen]
  rw [Oper.upon_value]
  go_wp2
  go_end0
  exact ⟨rfl, rfl⟩
set_option maxRecDepth 100000 in
set_option maxHeartbeats 1000000 in
theorem copyCheck_used (b : Nat) (w : World) (h0 : w.cell? ⟨b, 0, none⟩ = some (.pointer (some ⟨b, 0, none⟩))) :
    Calls Tryz.prog 88 #[.pointer (some ⟨b, 0, none⟩)] w fun e w' => e = .returned (.tuple #[]) ∧ w' = w := by
  obtain ⟨j, hj, _⟩ := Option.map_eq_some_iff.1 sizeBuilder
  go_enter Tryz.func88, Tryz.ntmps88
  go_wp2
  rw [Lib.run_neq_ptr_same w _ Tryz.underlying123 hj]
  go_wp2
  go_end0
  exact ⟨rfl, rfl⟩

/-- behind copyCheck the builder is the same, and holds its own address -/
theorem copyCheck_any (B b : Nat) (r : Option Nat) (l : Bytes) (w : World) (h : Bld w B b r l) :
    Calls Tryz.prog 88 #[.pointer (some ⟨b, 0, none⟩)] w fun e w' => e = .returned (.tuple #[]) ∧ Step2 w w' b none ∧
      ∃ v, w'.heap[b]? = some (.cells #[.pointer (some ⟨b, 0, none⟩), v] 125 (0, 0)) ∧ w'.ownsRowF B 5 1 v l.length (byteVs l) ∧ v.ownBlock = r := by
  obtain ⟨h1, p, v, h2, h3, ho, h4, h5, h6⟩ := h
  rcases h3 with rfl | rfl
  · refine (copyCheck_fresh b w (by simp [World.cell?, h2]) (by simp [World.shape?, h2]) (by simp [World.frozen?, h2])).mono ?_
    rintro e w' ⟨rfl, rfl⟩
    refine ⟨rfl, ⟨rfl, rfl, rfl, by simp [World.setCell], fun k hk hb _ => Below.heap_setCell _ _ _ _ (by simpa using hb)⟩, v, ?_, ?_, h4⟩
    · simp [World.setCell, Array.getElem?_modify, h2]
    · refine ⟨ho.1, ?_⟩
      rcases ho.2 with hn | ⟨g, cap, cur, fz, rfl, hbg, hg, rest⟩
      · exact .inl hn
      · refine .inr ⟨g, cap, cur, fz, rfl, hbg, ?_, rest⟩
        have hne : g ≠ b := by rintro rfl; exact h5 (by rw [← h4]; rfl)
        rw [Below.heap_setCell _ _ _ _ (by simpa using hne)]
        exact hg
  · refine (copyCheck_used b w (by simp [World.cell?, h2])).mono ?_
    rintro e w' ⟨rfl, rfl⟩
    exact ⟨rfl, Step2.refl _ _ _, v, h2, ho, h4⟩

/-- the row that an append leaves: the old one, or a new block -/
def Fresh (w : World) (r r' : Option Nat) : Prop := r' = r ∨ ∃ g, r' = some g ∧ w.heap.size ≤ g

theorem run_app_strF {P : Program} (W : World) (base : Nat) (t u ty e : TypeId) (i : TypeInfo) (ht : P.underlying t = some (.slice e)) (hu : P.underlying u = some .string) (hi : P.info? e = some i) (hz : i.zero = some (.int .u8 0))
    (hsize : i.size = 1) (hby : i.bytes = 1) (v : Value) (n : Nat) (xs : List Value) (hown : W.ownsRowF base e 1 v n xs) (s : ByteArray) (hbytes : n + s.size ≤ 140737488355328) (hbase : base ≤ W.heap.size) :
    ∃ v' w', (Builtin.append_ #[t, u] ty #[v, .string s]).run P W = .ok v' w' ∧ w'.ownsRowF base e 1 v' (n + s.size) (xs ++ Lib.strCells s) ∧ W.grownBy w' v.ownBlock ∧ Fresh W v.ownBlock v'.ownBlock ∧ (v' = .slice none 0 0 ↔ v = .slice none 0 0 ∧ s.size = 0) := by
  obtain ⟨v', w', hr, ho, hg, hn⟩ := Lib.run_append_own_stringF (P := P) W base t u ty e i ht hu hi hz hsize hby v n xs hown s (by unfold maxLen; omega) hbytes hbase
  refine ⟨v', w', hr, ho, hg, ?_, hn⟩
  rcases hown.2 with ⟨rfl, rfl⟩ | ⟨g, cap, cur, fz, rfl, hbg, hgg, hfz, hnc, hcm, hcs, htake⟩
  · obtain ⟨v2, w2, hr2, ho2, _⟩ := Lib.run_append_own_string (P := P) W W.heap.size t u ty e i ht hu hi hz hsize hby (.slice none 0 0) 0 [] (World.ownsRow_nil _ _ _ _) s (by unfold maxLen; omega) hbytes (Nat.le_refl _)
    rw [hr] at hr2
    simp only [Result.ok.injEq] at hr2
    obtain ⟨rfl, rfl⟩ := hr2
    cases hk : v'.ownBlock with
    | none => exact Or.inl rfl
    | some g => exact Or.inr ⟨g, rfl, (ho2.lt g hk).1⟩
  · by_cases hroom : n + s.size ≤ cap
    · have h2 := Lib.run_append_room_stringF (P := P) W t u ty e i ht hu hi hsize g n cap cur fz hgg (by omega) s hroom (by omega)
      rw [hr] at h2
      simp only [Result.ok.injEq] at h2
      rw [h2.1]; exact Or.inl rfl
    · have holds : ∀ j x, xs[j]? = some x → W.cell? ((⟨g, 0, none⟩ : Addr).add j) = some x := hown.cells (g := g) rfl
      have h2 := Lib.run_append_grow_string (P := P) W t u ty e i (.int .u8 0) ht hu hi hz ⟨g, 0, none⟩ n cap xs (by rw [hsize]; exact hown.1) holds s (by omega) (by omega) (by rw [hby]; exact growslice_fits (by omega) (by omega))
      rw [hr] at h2
      simp only [Result.ok.injEq] at h2
      rw [h2.1]; exact Or.inr ⟨_, rfl, Nat.le_refl _⟩
theorem run_app_byteF {P : Program} (W : World) (base : Nat) (t ty e : TypeId) (i : TypeInfo) (ht : P.underlying t = some (.slice e)) (hi : P.info? e = some i) (hz : i.zero = some (.int .u8 0))
    (hsize : i.size = 1) (hby : i.bytes = 1) (v : Value) (n : Nat) (xs : List Value) (hown : W.ownsRowF base e 1 v n xs) (e' : TypeId) (c : Int) (hbytes : n + 1 ≤ 140737488355328) (hbase : base ≤ W.heap.size) :
    ∃ v' w', (Builtin.append_ #[t, t] ty #[v, .slice (some ⟨W.heap.size, 0, none⟩) 1 1]).run P (W.alloc (.cells #[.int .u8 c] e')) = .ok v' w' ∧ w'.ownsRowF base e 1 v' (n + 1) (xs ++ [.int .u8 c]) ∧ W.grownBy w' v.ownBlock ∧ Fresh W v.ownBlock v'.ownBlock := by
  have hnews : ∀ j u, ([.int .u8 c] : List Value)[j]? = some u → (W.alloc (.cells #[.int .u8 c] e')).cell? ((⟨W.heap.size, 0, none⟩ : Addr).add j) = some u := by
    intro j u hj
    rw [add_head]
    simp only [World.cell?, heap_alloc_new]
    simpa using hj
  have h1 : ∀ u ∈ ([.int .u8 c] : List Value), u.oneCell' = true := by intro u hu; simp at hu; subst hu; rfl
  obtain ⟨v', w', hr, ho, hg, hn⟩ := run_append_ownF (P := P) (W.alloc (.cells #[.int .u8 c] e')) base t ty e i (.int .u8 0) 1 1 ht hi hz hsize hby rfl (by decide) v n xs (hown.alloc _) ⟨W.heap.size, 0, none⟩ 1 1 [.int .u8 c] rfl hnews h1 (by unfold maxLen; omega) (by omega) (by simp; omega)
  refine ⟨v', w', hr, ho, ⟨hg.os.trans rfl, hg.tape.trans rfl, hg.output.trans rfl, by have := hg.size; simp at this; omega, fun k hk hne => ?_⟩, ?_⟩
  · rw [hg.block k (by simp; omega) hne, Below.heap_alloc _ _ _ hk]
  · rcases (hown.alloc (.cells #[.int .u8 c] e')).2 with ⟨rfl, rfl⟩ | ⟨g, cap, cur, fz, rfl, hbg, hgg, hfz, hnc, hcm, hcs, htake⟩
    · obtain ⟨v2, w2, hr2, ho2, _⟩ := run_append_own (P := P) (W.alloc (.cells #[.int .u8 c] e')) W.heap.size t ty e i (.int .u8 0) 1 1 ht hi hz hsize hby rfl (by decide) (.slice none 0 0) 0 [] (World.ownsRow_nil _ _ _ _) ⟨W.heap.size, 0, none⟩ 1 1 [.int .u8 c] rfl hnews h1 (by decide) (by decide) (by simp)
      rw [hr] at hr2
      simp only [Result.ok.injEq] at hr2
      obtain ⟨rfl, rfl⟩ := hr2
      cases hk : v'.ownBlock with
      | none => exact Or.inl rfl
      | some g => exact Or.inr ⟨g, rfl, (ho2.lt g hk).1⟩
    · by_cases hroom : n + 1 ≤ cap
      · have h2 := run_append_roomF (P := P) (W.alloc (.cells #[.int .u8 c] e')) t ty e i ht hi g n cap cur fz hgg (by rw [hsize]; exact hfz) ⟨W.heap.size, 0, none⟩ 1 1 [.int .u8 c] (by rw [hsize]; rfl) hnews h1 hroom (by rw [hsize]; simp; omega)
        rw [hr] at h2
        simp only [Result.ok.injEq] at h2
        rw [h2.1]; exact Or.inl rfl
      · have holds : ∀ j x, xs[j]? = some x → (W.alloc (.cells #[.int .u8 c] e')).cell? ((⟨g, 0, none⟩ : Addr).add j) = some x := (hown.alloc _).cells (g := g) rfl
        have h2 := run_append_grow (P := P) (W.alloc (.cells #[.int .u8 c] e')) t ty e i (.int .u8 0) ht hi hz ⟨g, 0, none⟩ n cap xs (by rw [hsize]; exact hown.1) holds ⟨W.heap.size, 0, none⟩ 1 1 [.int .u8 c] (by rw [hsize]; rfl) hnews (by omega) (by omega) (by rw [hby]; exact growslice_fits (by omega) (by omega))
        rw [hr] at h2
        simp only [Result.ok.injEq] at h2
        rw [h2.1]; exact Or.inr ⟨_, rfl, by simp⟩

theorem wpList_app_byteF {P : Program} (W : World) {ops : Array Oper} {rest : List Oper} {o : Oper} {a : Act} {Q : Exit → Act → World → Prop} (hgd : o.guard = none) (s x : Operand) (t : TypeId)
    (ho : o.op = .call { callee := .builtin .append, args := #[s, x], argTypes := #[t, t] })
    (base : Nat) (e e' : TypeId) (i : TypeInfo) (ht : P.underlying t = some (.slice e)) (hi : P.info? e = some i) (hz : i.zero = some (.int .u8 0)) (hsize : i.size = 1) (hby : i.bytes = 1)
    (v : Value) (n : Nat) (xs : List Value) (hs : a.eval s = v) (hown : W.ownsRowF base e 1 v n xs) (c : Int) (hx : a.eval x = .slice (some ⟨W.heap.size, 0, none⟩) 1 1) (hbytes : n + 1 ≤ 140737488355328) (hbase : base ≤ W.heap.size)
    (h : ∀ v' w', w'.ownsRowF base e 1 v' (n + 1) (xs ++ [.int .u8 c]) → W.grownBy w' v.ownBlock → Fresh W v.ownBlock v'.ownBlock → wpList P ops Q rest (a.put o.dst v') w') : wpList P ops Q (o :: rest) a (W.alloc (.cells #[.int .u8 c] e')) := by
  obtain ⟨v', w', hr, h2, h3, h4⟩ := run_app_byteF (P := P) W base t o.type e i ht hi hz hsize hby v n xs hown e' c hbytes hbase
  refine wpList_plain hgd fun _ hK => ?_
  unfold Oper.wp execOp
  simp only [ho, resolve, invoke, builtin, Sem.run_bind, Sem.run_pure, Result.andThen_ok, List.map_toArray, List.map_cons, List.map_nil, hs, hx, hr]
  exact hK _ _ (h v' w' h2 h3 h4)
theorem wpList_app_strF {P : Program} (W : World) {ops : Array Oper} {rest : List Oper} {o : Oper} {a : Act} {Q : Exit → Act → World → Prop} (hgd : o.guard = none) (sl x : Operand) (t u : TypeId)
    (ho : o.op = .call { callee := .builtin .append, args := #[sl, x], argTypes := #[t, u] })
    (base : Nat) (e : TypeId) (i : TypeInfo) (ht : P.underlying t = some (.slice e)) (hu : P.underlying u = some .string) (hi : P.info? e = some i) (hz : i.zero = some (.int .u8 0)) (hsize : i.size = 1) (hby : i.bytes = 1)
    (v : Value) (n : Nat) (xs : List Value) (hs : a.eval sl = v) (hown : W.ownsRowF base e 1 v n xs) (s : ByteArray) (hx : a.eval x = .string s) (hbytes : n + s.size ≤ 140737488355328) (hbase : base ≤ W.heap.size)
    (h : ∀ v' w', w'.ownsRowF base e 1 v' (n + s.size) (xs ++ Lib.strCells s) → W.grownBy w' v.ownBlock → Fresh W v.ownBlock v'.ownBlock → (v' = .slice none 0 0 ↔ v = .slice none 0 0 ∧ s.size = 0) → wpList P ops Q rest (a.put o.dst v') w') : wpList P ops Q (o :: rest) a W := by
  obtain ⟨v', w', hr, h2, h3, h4, h5⟩ := run_app_strF (P := P) W base t u o.type e i ht hu hi hz hsize hby v n xs hown s hbytes hbase
  refine wpList_plain hgd fun _ hK => ?_
  unfold Oper.wp execOp
  simp only [ho, resolve, invoke, builtin, Sem.run_bind, Sem.run_pure, Result.andThen_ok, List.map_toArray, List.map_cons, List.map_nil, hs, hx, hr]
  exact hK _ _ (h v' w' h2 h3 h4 h5)
end Go.Proofs.YtoabhcfmdkhmgaaGreatDoor
end
