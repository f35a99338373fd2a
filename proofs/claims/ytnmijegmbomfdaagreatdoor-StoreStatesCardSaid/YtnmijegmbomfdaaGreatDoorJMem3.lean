/- Joined texts of one proof: what is needed of Mem3, Own, Range, Turn, DevM, Acts7, JrnM. -/
import Derived.Test.YtnmijegmbomfdaaGreatDoorJSto2
import Derived.RangeFuncBox
import Derived.RangeFuncNested
import Derived.RangeFuncLeaves
import Derived.RangeFuncBound
import Derived.RangeFuncCalls
import Derived.OwnWalkIn
import Derived.TacticsInMore
import Derived.LoopNIn
import Derived.LoopIn
import Derived.Lib.OthersKept
import Derived.Test.YtnmijegmbomfdaaGreatDoorProg
import Derived.Test.YtnmijegmbomfdaaGreatDoorJWire
import Derived.Test.YtnmijegmbomfdaaGreatDoorJJrn3
set_option linter.unusedSimpArgs false
set_option linter.unusedVariables false
set_option linter.unnecessarySimpa false
set_option maxRecDepth 100000
set_option maxHeartbeats 16000000
namespace Go.Proofs.YtnmijegmbomfdaaGreatDoor
section
open Go.RowKit
def Blk (w : World) (k : Nat) (t : TypeId) (cs : Array Value) : Prop := w.heap[k]? = some (.cells cs t (0, 0))
theorem Blk.new (w : World) (t : TypeId) (cs : Array Value) : Blk (w.alloc (.cells cs t)) w.heap.size t cs := World.alloc_heap_new w _
theorem Blk.lt {w : World} {k : Nat} {t : TypeId} {cs : Array Value} (h : Blk w k t cs) : k < w.heap.size := (Array.getElem?_eq_some_iff.1 h).1
theorem Blk.stays {w w' : World} {k : Nat} {t : TypeId} {cs : Array Value} (h : Blk w k t cs) (q : Q w w') : Blk w' k t cs := (q.block k h.lt).trans h
theorem Blk.alloc {w : World} {k : Nat} {t : TypeId} {cs : Array Value} (h : Blk w k t cs) (o : Obj) : Blk (w.alloc o) k t cs := h.stays (Q.alloc _ _)
theorem Blk.cell {w : World} {k : Nat} {t : TypeId} {cs : Array Value} (h : Blk w k t cs) (i : Nat) (v : Value) (hv : cs[i]? = some v) : w.cell? ⟨k, i, none⟩ = some v := by
  simp only [World.cell?, show w.heap[k]? = _ from h]
  exact hv
theorem Blk.frozen {w : World} {k : Nat} {t : TypeId} {cs : Array Value} (h : Blk w k t cs) (i : Nat) : w.frozen? ⟨k, i, none⟩ = false := by
  simp [World.frozen?, show w.heap[k]? = _ from h]
theorem Blk.set {w : World} {k : Nat} {t : TypeId} {cs : Array Value} (h : Blk w k t cs) (i : Nat) (v : Value) : Blk (w.setCell ⟨k, i, none⟩ v) k t (cs.setIfInBounds i v) := by
  obtain ⟨hlt, hk⟩ := Array.getElem?_eq_some_iff.1 h
  show (w.heap.modify k _)[k]? = _
  rw [Array.getElem?_eq_getElem (by rw [Array.size_modify]; exact hlt), Array.getElem_modify_self, hk]
  rfl
theorem Blk.other {w : World} {k : Nat} {t : TypeId} {cs : Array Value} (h : Blk w k t cs) (a : Addr) (v : Value) (hne : k ≠ a.block) : Blk (w.setCell a v) k t cs := (Below.heap_setCell w a v k hne).trans h
theorem Blk.c2 {w : World} {k : Nat} {t : TypeId} {a b : Value} (h : Blk w k t #[a, b]) : w.cell? ⟨k, 0, none⟩ = some a ∧ w.cell? ⟨k, 1, none⟩ = some b ∧ w.frozen? ⟨k, 0, none⟩ = false ∧ w.frozen? ⟨k, 1, none⟩ = false :=
  ⟨h.cell 0 _ rfl, h.cell 1 _ rfl, h.frozen 0, h.frozen 1⟩
theorem Blk.c3 {w : World} {k : Nat} {t : TypeId} {a b c : Value} (h : Blk w k t #[a, b, c]) : w.cell? ⟨k, 0, none⟩ = some a ∧ w.cell? ⟨k, 1, none⟩ = some b ∧ w.cell? ⟨k, 2, none⟩ = some c ∧ w.frozen? ⟨k, 0, none⟩ = false ∧ w.frozen? ⟨k, 1, none⟩ = false ∧ w.frozen? ⟨k, 2, none⟩ = false :=
  ⟨h.cell 0 _ rfl, h.cell 1 _ rfl, h.cell 2 _ rfl, h.frozen 0, h.frozen 1, h.frozen 2⟩
theorem Blk.c4 {w : World} {k : Nat} {t : TypeId} {a b c d : Value} (h : Blk w k t #[a, b, c, d]) : w.cell? ⟨k, 0, none⟩ = some a ∧ w.cell? ⟨k, 1, none⟩ = some b ∧ w.cell? ⟨k, 2, none⟩ = some c ∧ w.cell? ⟨k, 3, none⟩ = some d ∧ w.frozen? ⟨k, 0, none⟩ = false ∧ w.frozen? ⟨k, 1, none⟩ = false ∧ w.frozen? ⟨k, 2, none⟩ = false ∧ w.frozen? ⟨k, 3, none⟩ = false :=
  ⟨h.cell 0 _ rfl, h.cell 1 _ rfl, h.cell 2 _ rfl, h.cell 3 _ rfl, h.frozen 0, h.frozen 1, h.frozen 2, h.frozen 3⟩
theorem Blk.s2 {w : World} {k : Nat} {t : TypeId} {a b : Value} (h : Blk w k t #[a, b]) : (∀ x, (w.setCell ⟨k, 0, none⟩ x).cell? ⟨k, 0, none⟩ = some x) ∧ (∀ x y, ((w.setCell ⟨k, 0, none⟩ x).setCell ⟨k, 1, none⟩ y).cell? ⟨k, 1, none⟩ = some y) :=
  ⟨fun x => (h.set 0 x).cell 0 x rfl, fun x y => ((h.set 0 x).set 1 y).cell 1 y rfl⟩
theorem Blk.s3 {w : World} {k : Nat} {t : TypeId} {a b c : Value} (h : Blk w k t #[a, b, c]) : (∀ x, (w.setCell ⟨k, 0, none⟩ x).cell? ⟨k, 0, none⟩ = some x) ∧ (∀ x y, ((w.setCell ⟨k, 0, none⟩ x).setCell ⟨k, 1, none⟩ y).cell? ⟨k, 1, none⟩ = some y) ∧
    (∀ x y z, (((w.setCell ⟨k, 0, none⟩ x).setCell ⟨k, 1, none⟩ y).setCell ⟨k, 2, none⟩ z).cell? ⟨k, 2, none⟩ = some z) :=
  ⟨fun x => (h.set 0 x).cell 0 x rfl, fun x y => ((h.set 0 x).set 1 y).cell 1 y rfl, fun x y z => (((h.set 0 x).set 1 y).set 2 z).cell 2 z rfl⟩
theorem Blk.s4 {w : World} {k : Nat} {t : TypeId} {a b c d : Value} (h : Blk w k t #[a, b, c, d]) : (∀ x, (w.setCell ⟨k, 0, none⟩ x).cell? ⟨k, 0, none⟩ = some x) ∧ (∀ x y, ((w.setCell ⟨k, 0, none⟩ x).setCell ⟨k, 1, none⟩ y).cell? ⟨k, 1, none⟩ = some y) ∧
    (∀ x y z, (((w.setCell ⟨k, 0, none⟩ x).setCell ⟨k, 1, none⟩ y).setCell ⟨k, 2, none⟩ z).cell? ⟨k, 2, none⟩ = some z) ∧ (∀ x y z u, ((((w.setCell ⟨k, 0, none⟩ x).setCell ⟨k, 1, none⟩ y).setCell ⟨k, 2, none⟩ z).setCell ⟨k, 3, none⟩ u).cell? ⟨k, 3, none⟩ = some u) :=
  ⟨fun x => (h.set 0 x).cell 0 x rfl, fun x y => ((h.set 0 x).set 1 y).cell 1 y rfl, fun x y z => (((h.set 0 x).set 1 y).set 2 z).cell 2 z rfl, fun x y z u => ((((h.set 0 x).set 1 y).set 2 z).set 3 u).cell 3 u rfl⟩
theorem Blk.r3 {w : World} {k : Nat} {t : TypeId} {a b c : Value} (h : Blk w k t #[a, b, c]) (x y z : Value) : (((w.setCell ⟨k, 0, none⟩ x).setCell ⟨k, 1, none⟩ y).setCell ⟨k, 2, none⟩ z).cell? ⟨k, 0, none⟩ = some x ∧ (((w.setCell ⟨k, 0, none⟩ x).setCell ⟨k, 1, none⟩ y).setCell ⟨k, 2, none⟩ z).cell? ⟨k, 1, none⟩ = some y ∧
    (((w.setCell ⟨k, 0, none⟩ x).setCell ⟨k, 1, none⟩ y).setCell ⟨k, 2, none⟩ z).cell? ⟨k, 2, none⟩ = some z ∧ Blk (((w.setCell ⟨k, 0, none⟩ x).setCell ⟨k, 1, none⟩ y).setCell ⟨k, 2, none⟩ z) k t #[x, y, z] :=
  ⟨(((h.set 0 x).set 1 y).set 2 z).cell 0 x rfl, (((h.set 0 x).set 1 y).set 2 z).cell 1 y rfl, (((h.set 0 x).set 1 y).set 2 z).cell 2 z rfl, ((h.set 0 x).set 1 y).set 2 z⟩
theorem Blk.r4 {w : World} {k : Nat} {t : TypeId} {a b c d : Value} (h : Blk w k t #[a, b, c, d]) (x y z u : Value) : ((((w.setCell ⟨k, 0, none⟩ x).setCell ⟨k, 1, none⟩ y).setCell ⟨k, 2, none⟩ z).setCell ⟨k, 3, none⟩ u).cell? ⟨k, 0, none⟩ = some x ∧ ((((w.setCell ⟨k, 0, none⟩ x).setCell ⟨k, 1, none⟩ y).setCell ⟨k, 2, none⟩ z).setCell ⟨k, 3, none⟩ u).cell? ⟨k, 1, none⟩ = some y ∧
    ((((w.setCell ⟨k, 0, none⟩ x).setCell ⟨k, 1, none⟩ y).setCell ⟨k, 2, none⟩ z).setCell ⟨k, 3, none⟩ u).cell? ⟨k, 2, none⟩ = some z ∧ ((((w.setCell ⟨k, 0, none⟩ x).setCell ⟨k, 1, none⟩ y).setCell ⟨k, 2, none⟩ z).setCell ⟨k, 3, none⟩ u).cell? ⟨k, 3, none⟩ = some u ∧
    Blk ((((w.setCell ⟨k, 0, none⟩ x).setCell ⟨k, 1, none⟩ y).setCell ⟨k, 2, none⟩ z).setCell ⟨k, 3, none⟩ u) k t #[x, y, z, u] :=
  ⟨((((h.set 0 x).set 1 y).set 2 z).set 3 u).cell 0 x rfl, ((((h.set 0 x).set 1 y).set 2 z).set 3 u).cell 1 y rfl, ((((h.set 0 x).set 1 y).set 2 z).set 3 u).cell 2 z rfl, ((((h.set 0 x).set 1 y).set 2 z).set 3 u).cell 3 u rfl, (((h.set 0 x).set 1 y).set 2 z).set 3 u⟩
theorem Q.setCell {w w' : World} (h : Q w w') {a : Addr} (ha : w.heap.size ≤ a.block) (v : Value) : Q w (w'.setCell a v) := Below.setCell h ha v
theorem owns_low {w : World} {base base' : Nat} {e : TypeId} {size : Nat} {v : Value} {n : Nat} {xs : List Value} (h : w.ownsRow base e size v n xs) (hb : base' ≤ base) : w.ownsRow base' e size v n xs := by
  obtain ⟨h1, h2⟩ := h
  refine ⟨h1, ?_⟩
  rcases h2 with h2 | ⟨g, cap, cur, rfl, hb2, hg, rest⟩
  · exact .inl h2
  · exact .inr ⟨g, cap, cur, rfl, Nat.le_trans hb hb2, hg, rest⟩
theorem owns_kind {w : World} {base : Nat} {e : TypeId} {size : Nat} {v : Value} {n : Nat} {xs : List Value} (h : w.ownsRow base e size v n xs) : ∀ g, v.ownBlock = some g → ∃ cs, w.heap[g]? = some (.cells cs e (0, 0)) := by
  intro g hg
  rcases h.2 with ⟨rfl, _⟩ | ⟨g', cap, cur, rfl, _, hgg, _⟩
  · simp [Value.ownBlock] at hg
  · simp only [Value.ownBlock, Option.some.injEq] at hg
    subst hg
    exact ⟨_, hgg⟩
theorem rows_apart {w : World} {base base' : Nat} {e e' : TypeId} {size size' : Nat} {v v' : Value} {n n' : Nat} {xs xs' : List Value} (h : w.ownsRow base e size v n xs) (h' : w.ownsRow base' e' size' v' n' xs') (hne : e ≠ e') {g : Nat} (hg : v'.ownBlock = some g) : v.ownBlock ≠ some g := by
  intro hb
  obtain ⟨cs, hc⟩ := owns_kind h g hb
  obtain ⟨cs', hc'⟩ := owns_kind h' g hg
  rw [hc] at hc'
  injection hc' with hc'
  injection hc' with _ hc' _
  exact hne hc'
theorem row_beside {w w' : World} {base base' : Nat} {e e' : TypeId} {size size' : Nat} {v v' : Value} {n n' : Nat} {xs xs' : List Value} (h : w.ownsRow base e size v n xs) (h' : w.ownsRow base' e' size' v' n' xs') (hg : w.grownBy w' v'.ownBlock) (hne : e ≠ e') : w'.ownsRow base e size v n xs := by
  refine h.kept hg ?_
  cases hv : v'.ownBlock with
  | none => cases hb : v.ownBlock with
    | none => exact .inl rfl
    | some g => exact .inr (by simp)
  | some g => exact .inr (rows_apart h h' hne hv)
theorem blk_beside {w w' : World} {base : Nat} {e : TypeId} {size : Nat} {v : Value} {n : Nat} {xs : List Value} {k : Nat} {t : TypeId} {cs : Array Value} (h : Blk w k t cs) (h' : w.ownsRow base e size v n xs) (hg : w.grownBy w' v.ownBlock) (hne : t ≠ e) : Blk w' k t cs := by
  refine (hg.block k h.lt (fun e' => ?_)).trans h
  obtain ⟨cs, hc⟩ := owns_kind h' k e'.symm
  rw [show _ = _ from h] at hc
  injection hc with h3
  injection h3 with _ h3 _
  exact hne h3
theorem add_off (b off j : Nat) : (⟨b, off, none⟩ : Addr).add j = ⟨b, off + j, none⟩ := by unfold Addr.add; split <;> simp_all
structure Itk (own : Nat → Prop) (lo : Nat) (A B : World) : Prop where
  os : B.os = A.os
  tape : B.tape = A.tape
  output : B.output = A.output
  size : A.heap.size ≤ B.heap.size
  low : ∀ k, k < lo → k < A.heap.size → ¬ own k → B.heap[k]? = A.heap[k]?
  cells : ∀ (k : Nat) (o : Obj), A.heap[k]? = some o → o.isCells = true → ¬ own k → B.heap[k]? = some o
theorem Itk.refl (own : Nat → Prop) (lo : Nat) (A : World) : Itk own lo A A := ⟨rfl, rfl, rfl, Nat.le_refl _, fun _ _ _ _ => rfl, fun _ _ h _ _ => h⟩
theorem Itk.trans {own : Nat → Prop} {lo : Nat} {A B C : World} (h : Itk own lo A B) (k : Itk own lo B C) : Itk own lo A C :=
  ⟨k.os.trans h.os, k.tape.trans h.tape, k.output.trans h.output, Nat.le_trans h.size k.size, fun i h1 h2 h3 => (k.low i h1 (Nat.lt_of_lt_of_le h2 h.size) h3).trans (h.low i h1 h2 h3),
    fun i o h1 h2 h3 => k.cells i o (h.cells i o h1 h2 h3) h2 h3⟩
theorem Itk.mono {own own' : Nat → Prop} {lo lo' : Nat} {A B : World} (h : Itk own lo A B) (ho : ∀ k, own k → own' k) (hl : lo' ≤ lo) : Itk own' lo' A B :=
  ⟨h.os, h.tape, h.output, h.size, fun k h1 h2 h3 => h.low k (by omega) h2 (fun e => h3 (ho k e)), fun k o h1 h2 h3 => h.cells k o h1 h2 (fun e => h3 (ho k e))⟩
theorem lt_of_get {A : World} {k : Nat} {o : Obj} (h : A.heap[k]? = some o) : k < A.heap.size := (Array.getElem?_eq_some_iff.1 h).1
theorem Itk.of_q {own : Nat → Prop} {lo : Nat} {A B : World} (h : Q A B) : Itk own lo A B :=
  ⟨h.os, h.tape, h.output, h.size, fun k _ h2 _ => h.block k h2, fun k o h1 _ _ => (h.block k (lt_of_get h1)).trans h1⟩
theorem Itk.put {own : Nat → Prop} {lo : Nat} {A : World} {l : Nat} {o : Obj} (o' : Obj) (h : A.heap[l]? = some o) (hc : o.isCells = false) (hl : lo ≤ l) : Itk own lo A (A.putObj l o') :=
  ⟨rfl, rfl, rfl, by simp, fun k h1 _ _ => World.putObj_heap_other (by omega), fun k o2 h1 h2 _ => (World.putObj_heap_other (fun e => by subst e; rw [h] at h1; cases h1; rw [hc] at h2; cases h2)).trans h1⟩
theorem Itk.get {own : Nat → Prop} {lo : Nat} {A B : World} (h : Itk own lo A B) {k : Nat} {cs : Array Value} {e : TypeId} {fz : Nat × Nat} (hk : A.heap[k]? = some (.cells cs e fz)) (ho : ¬ own k) : B.heap[k]? = some (.cells cs e fz) := h.cells k _ hk rfl ho
theorem Itk.cell {own : Nat → Prop} {lo : Nat} {A B : World} (h : Itk own lo A B) {a : Addr} {v : Value} (hc : A.cell? a = some v) (ho : ¬ own a.block) : B.cell? a = some v := by
  obtain ⟨o, h1, h2⟩ := cells_of_cell hc
  exact (World.cell?_of_block ((h.cells _ o h1 h2 ho).trans h1.symm)).trans hc
theorem Itk.boxed {own : Nat → Prop} {lo : Nat} {A B : World} (h : Itk own lo A B) {b : Nat} {t : TypeId} {v : Value} (hb : Boxed A b t v) (ho : ¬ own b) : Boxed B b t v := h.get hb ho
theorem Itk.below {own : Nat → Prop} {lo n : Nat} {w A B : World} (h : Itk own lo A B) (hw : Below n w A) (hn : n ≤ lo) (hs : n ≤ A.heap.size) (ho : ∀ k, own k → n ≤ k) : Below n w B :=
  hw.trans ⟨h.os, h.tape, h.output, h.size, fun k hk => h.low k (by omega) (by omega) (fun e => by have := ho k e; omega)⟩
theorem Itk.owns {own : Nat → Prop} {lo : Nat} {A B : World} (h : Itk own lo A B) {base : Nat} {e : TypeId} {size : Nat} {v : Value} {n : Nat} {xs : List Value} (hr : A.ownsRow base e size v n xs) (ho : ∀ g, v.ownBlock = some g → ¬ own g) : B.ownsRow base e size v n xs := by
  obtain ⟨h1, h2⟩ := hr
  refine ⟨h1, ?_⟩
  rcases h2 with h2 | ⟨g, cap, cur, rfl, hb, hg, rest⟩
  · exact .inl h2
  · exact .inr ⟨g, cap, cur, rfl, hb, h.get hg (ho g rfl), rest⟩
structure Bk (own : Nat → Prop) (n₀ : Nat) (A B : World) : Prop where
  below : Below n₀ A B
  own : ∀ k, own k → k < A.heap.size → B.heap[k]? = A.heap[k]?
  walks : ∀ (k : Nat) (o : Obj), A.heap[k]? = some o → o.isWalk = true → B.heap[k]? = some o
theorem Bk.refl (own : Nat → Prop) (n₀ : Nat) (A : World) : Bk own n₀ A A := ⟨Below.refl _ _, fun _ _ _ => rfl, fun _ _ h _ => h⟩
theorem Bk.trans {own : Nat → Prop} {n₀ : Nat} {A B C : World} (h : Bk own n₀ A B) (k : Bk own n₀ B C) : Bk own n₀ A C :=
  ⟨h.below.trans k.below, fun i h1 h2 => (k.own i h1 (Nat.lt_of_lt_of_le h2 h.below.size)).trans (h.own i h1 h2), fun i o h1 h2 => k.walks i o (h.walks i o h1 h2) h2⟩
theorem Bk.of_q {own : Nat → Prop} {n₀ : Nat} {A B : World} (h : Q A B) (hn : n₀ ≤ A.heap.size) : Bk own n₀ A B :=
  ⟨Below.mono h hn, fun k _ h2 => h.block k h2, fun k o h1 _ => (h.block k (lt_of_get h1)).trans h1⟩
theorem Bk.mono {own own' : Nat → Prop} {n₀ n₁ : Nat} {A B : World} (h : Bk own n₀ A B) (ho : ∀ k, own' k → own k) (hn : n₁ ≤ n₀) : Bk own' n₁ A B :=
  ⟨h.below.mono hn, fun k h1 h2 => h.own k (ho k h1) h2, h.walks⟩
theorem Bk.put {own : Nat → Prop} {n₀ : Nat} {A : World} {l : Nat} {o : Obj} (o' : Obj) (h : A.heap[l]? = some o) (hc : o.isWalk = false) (hl : n₀ ≤ l) (ho : ¬ own l) : Bk own n₀ A (A.putObj l o') :=
  ⟨⟨rfl, rfl, rfl, by simp, fun k hk => World.putObj_heap_other (by omega)⟩, fun k h1 _ => World.putObj_heap_other (fun e => ho (by rw [← e]; exact h1)),
    fun k o2 h1 h2 => (World.putObj_heap_other (fun e => by subst e; rw [h] at h1; cases h1; rw [hc] at h2; cases h2)).trans h1⟩
theorem Bk.setCell {own : Nat → Prop} {n₀ : Nat} (A : World) {p : Addr} (hl : n₀ ≤ p.block) (ho : ¬ own p.block) (v : Value) : Bk own n₀ A (A.setCell p v) :=
  ⟨(Below.refl _ _).setCell hl v, fun k h1 _ => Below.heap_setCell _ _ _ _ (fun e => ho (by rw [← e]; exact h1)), (KeepsWalks.setCell A p v).same⟩
theorem Bk.grown {own : Nat → Prop} {n₀ : Nat} {A B : World} {row : Option Nat} (hg : A.grownBy B row) (hn : n₀ ≤ A.heap.size) (hr : ∀ k, row = some k → n₀ ≤ k ∧ ¬ own k ∧ ∃ cs e fz, A.heap[k]? = some (.cells cs e fz)) : Bk own n₀ A B :=
  ⟨(Below.refl _ _).grown hg hn (fun k hk => (hr k hk).1), fun k h1 h2 => hg.block k h2 (fun e => (hr k e.symm).2.1 h1),
    fun k o h1 h2 => (hg.block k (lt_of_get h1) (fun e => by obtain ⟨_, _, cs, e2, fz, h3⟩ := hr k e.symm; rw [h3] at h1; cases h1; cases h2)).trans h1⟩
def YieldW (P : Program) (l : Nat) (args : Array Value) (W : World) (R : Ending → World → Prop) : Prop :=
  ∃ fn tmps assign body, (Instr.yield l args).run P W = .ok (.round l fn tmps assign body) W ∧ ∀ m, RoundIn Fence.wide m P l fn tmps assign body W R
theorem YieldW.mono {P : Program} {l : Nat} {args : Array Value} {W : World} {R R' : Ending → World → Prop} (h : YieldW P l args W R) (hr : ∀ e w, R e w → R' e w) : YieldW P l args W R' := by
  obtain ⟨fn, tmps, assign, body, hy, hR⟩ := h
  exact ⟨fn, tmps, assign, body, hy, fun m => (hR m).mono hr⟩
theorem round_any {n m : Nat} {P : Program} {l : Nat} {fn : FuncId} {tmps : Array Value} {assign body : Code} {W : World} {R : Ending → World → Prop} (h : RoundIn Fence.wide n P l fn tmps assign body W R) : RoundIn Fence.wide m P l fn tmps assign body W R :=
  ⟨h.1, fun c cs _ => h.2 c cs (room_wide _)⟩
structure Turn (own : Nat → Prop) (A B : World) : Prop where
  os : B.os = A.os
  tape : B.tape = A.tape
  output : B.output = A.output
  size : A.heap.size ≤ B.heap.size
  block : ∀ k, k < A.heap.size → ¬ own k → B.heap[k]? = A.heap[k]?
theorem Turn.refl (own : Nat → Prop) (A : World) : Turn own A A := ⟨rfl, rfl, rfl, Nat.le_refl _, fun _ _ _ => rfl⟩
theorem Turn.trans {own : Nat → Prop} {A B C : World} (h : Turn own A B) (k : Turn own B C) : Turn own A C :=
  ⟨k.os.trans h.os, k.tape.trans h.tape, k.output.trans h.output, Nat.le_trans h.size k.size, fun i h1 h2 => (k.block i (Nat.lt_of_lt_of_le h1 h.size) h2).trans (h.block i h1 h2)⟩
theorem Turn.of_q {own : Nat → Prop} {A B : World} (h : Q A B) : Turn own A B := ⟨h.os, h.tape, h.output, h.size, fun k h1 _ => h.block k h1⟩
theorem Turn.mono {own own' : Nat → Prop} {A B : World} (h : Turn own A B) (ho : ∀ k, own k → own' k) : Turn own' A B := ⟨h.os, h.tape, h.output, h.size, fun k h1 h2 => h.block k h1 (fun e => h2 (ho k e))⟩
theorem Turn.setCell {own : Nat → Prop} {A B : World} (h : Turn own A B) {a : Addr} (ha : own a.block ∨ A.heap.size ≤ a.block) (v : Value) : Turn own A (B.setCell a v) :=
  ⟨h.os, h.tape, h.output, Nat.le_trans h.size (KeepsWalks.setCell B a v).size, fun k h1 h2 => (Below.heap_setCell _ _ _ _ (fun e => by
    rcases ha with ha | ha
    · exact h2 (by rw [e]; exact ha)
    · omega)).trans (h.block k h1 h2)⟩
theorem Turn.below {own : Nat → Prop} {A B : World} {n : Nat} {w : World} (h : Turn own A B) (hw : Below n w A) (hn : n ≤ A.heap.size) (ho : ∀ k, own k → n ≤ k) : Below n w B :=
  hw.trans ⟨h.os, h.tape, h.output, h.size, fun k hk => h.block k (by omega) (fun e => by have := ho k e; omega)⟩
theorem Turn.itk {own : Nat → Prop} {lo : Nat} {A B : World} (h : Turn own A B) : Itk own lo A B :=
  ⟨h.os, h.tape, h.output, h.size, fun k _ h2 h3 => h.block k h2 h3, fun k o h1 _ h3 => (h.block k (lt_of_get h1) h3).trans h1⟩
theorem Turn.blk {own : Nat → Prop} {A B : World} (h : Turn own A B) {k : Nat} {t : TypeId} {cs : Array Value} (hb : Blk A k t cs) (ho : ¬ own k) : Blk B k t cs := (h.block k hb.lt ho).trans hb
theorem Turn.get {own : Nat → Prop} {A B : World} (h : Turn own A B) {k : Nat} {o : Obj} (hb : A.heap[k]? = some o) (ho : ¬ own k) : B.heap[k]? = some o := (h.block k (lt_of_get hb) ho).trans hb
theorem Turn.owns {own : Nat → Prop} {A B : World} (h : Turn own A B) {base : Nat} {e : TypeId} {size : Nat} {v : Value} {n : Nat} {xs : List Value} (hr : A.ownsRow base e size v n xs) (ho : ∀ g, v.ownBlock = some g → ¬ own g) : B.ownsRow base e size v n xs := (h.itk (lo := 0)).owns hr ho
theorem owns_not_blk {A : World} {base : Nat} {e : TypeId} {size : Nat} {v : Value} {n : Nat} {xs : List Value} (hr : A.ownsRow base e size v n xs) {k : Nat} {t : TypeId} {cs : Array Value} (hb : Blk A k t cs) (hne : t ≠ e) : ∀ g, v.ownBlock = some g → g ≠ k := by
  intro g hg e'
  obtain ⟨cs', hc⟩ := owns_kind hr g hg
  rw [e', show _ = _ from hb] at hc
  injection hc with h3
  injection h3 with _ h3 _
  exact hne h3
theorem Turn.grown {own : Nat → Prop} {A B C : World} (h : Turn own A B) {v : Value} {base : Nat} {e : TypeId} {size n : Nat} {xs : List Value} (hr : B.ownsRow base e size v n xs) (hg : B.grownBy C v.ownBlock) (hb : A.heap.size ≤ base) : Turn own A C :=
  ⟨hg.os.trans h.os, hg.tape.trans h.tape, hg.output.trans h.output, Nat.le_trans h.size hg.size, fun k h1 h2 => (hg.block k (Nat.lt_of_lt_of_le h1 h.size) (fun e' => by have := (hr.lt k e'.symm).1; omega)).trans (h.block k h1 h2)⟩
def grow (F : Nat → Prop) (A B : World) : Nat → Prop := fun k => F k ∨ (A.heap.size ≤ k ∧ k < B.heap.size)
theorem grow_left {F : Nat → Prop} {A B : World} {k : Nat} (h : F k) : grow F A B k := .inl h
theorem grow_trans {F : Nat → Prop} {A B C : World} (h1 : A.heap.size ≤ B.heap.size) (h2 : B.heap.size ≤ C.heap.size) {k : Nat} (h : grow (grow F A B) B C k) : grow F A C k := by
  rcases h with (h | h) | h
  · exact .inl h
  · exact .inr ⟨h.1, by omega⟩
  · exact .inr ⟨by omega, h.2⟩
theorem Turn.step {F : Nat → Prop} {A B C : World} (h : Turn F A B) (k : Turn (grow F A B) B C) : Turn F A C :=
  ⟨k.os.trans h.os, k.tape.trans h.tape, k.output.trans h.output, Nat.le_trans h.size k.size, fun i h1 h2 => (k.block i (Nat.lt_of_lt_of_le h1 h.size) (fun hg => hg.elim h2 (fun hg => by omega))).trans (h.block i h1 h2)⟩
def encW (w : WrL) : List Value := [.int .i64 (w.1 : Nat), strV w.2]
def wrVs (l : List WrL) : List Value := l.flatMap encW
theorem wrVs_cons (w : WrL) (l : List WrL) : wrVs (w :: l) = encW w ++ wrVs l := by simp [wrVs]
theorem wrVs_append (a b : List WrL) : wrVs (a ++ b) = wrVs a ++ wrVs b := by simp [wrVs]
theorem wrVs_at (l : List WrL) (j : Nat) (h : j < l.length) : (wrVs l)[j * 2]? = some (.int .i64 (l[j].1 : Nat)) ∧ (wrVs l)[j * 2 + 1]? = some (strV l[j].2) := by
  induction l generalizing j with
  | nil => simp at h
  | cons w l ih =>
    cases j with
    | zero => simp [wrVs_cons, encW]
    | succ j =>
      have := ih j (by simpa using h)
      rw [wrVs_cons]
      have e : encW w = [.int .i64 (w.1 : Nat), strV w.2] := rfl
      rw [e, show (j + 1) * 2 = j * 2 + 1 + 1 by omega, show j * 2 + 1 + 1 + 1 = (j * 2 + 1) + 1 + 1 by omega]
      simp only [List.cons_append, List.nil_append, List.getElem?_cons_succ, List.getElem_cons_succ]
      exact this
def strCs (l : List Bytes) : Array Value := (l.map strV).toArray
theorem strCs_at (l : List Bytes) (i : Nat) (h : i < l.length) : (strCs l)[i]? = some (strV l[i]) := by simp [strCs, h]
theorem strCs_set (l : List Bytes) (i : Nat) (s : Bytes) : (strCs l).setIfInBounds i (strV s) = strCs (l.set i s) := by
  simp [strCs, List.map_set]
structure DevG (w : World) (F : Nat → Prop) (b g : Nat) (cap : Nat) (pv : Value) (d : DevL) : Prop where
  box : Blk w b 85 #[.slice (some ⟨g, 0, none⟩) d.l.length cap, pv, .int .i64 d.fuse, .bool d.dead]
  fb : F b
  disk : Blk w g 9 (strCs d.l)
  fg : F g
  row : w.ownsRow 0 88 2 pv d.p.length (wrVs d.p)
  fp : ∀ k, pv.ownBlock = some k → F k
def DevAt (w : World) (F : Nat → Prop) (b : Nat) (d : DevL) : Prop := ∃ g cap pv, DevG w F b g cap pv d
theorem DevG.mono {w : World} {F G : Nat → Prop} {b g cap : Nat} {pv : Value} {d : DevL} (h : DevG w F b g cap pv d) (k : ∀ i, F i → G i) : DevG w G b g cap pv d :=
  ⟨h.box, k _ h.fb, h.disk, k _ h.fg, h.row, fun i e => k _ (h.fp i e)⟩
theorem DevAt.mono {w : World} {F G : Nat → Prop} {b : Nat} {d : DevL} (h : DevAt w F b d) (k : ∀ i, F i → G i) : DevAt w G b d := by
  obtain ⟨g, cap, pv, h⟩ := h
  exact ⟨g, cap, pv, h.mono k⟩
theorem DevG.beside {w w' : World} {F G : Nat → Prop} {b g cap : Nat} {pv : Value} {d : DevL} (h : DevG w F b g cap pv d) (t : Turn G w w') (hd : ∀ k, F k → ¬ G k) : DevG w' F b g cap pv d :=
  ⟨t.blk h.box (hd _ h.fb), h.fb, t.blk h.disk (hd _ h.fg), h.fg, t.owns h.row (fun k e => hd _ (h.fp k e)), h.fp⟩
theorem DevAt.beside {w w' : World} {F G : Nat → Prop} {b : Nat} {d : DevL} (h : DevAt w F b d) (t : Turn G w w') (hd : ∀ k, F k → ¬ G k) : DevAt w' F b d := by
  obtain ⟨g, cap, pv, h⟩ := h
  exact ⟨g, cap, pv, h.beside t hd⟩
theorem DevG.keep {w w' : World} {F : Nat → Prop} {b g cap : Nat} {pv : Value} {d : DevL} (h : DevG w F b g cap pv d) (q : Q w w') : DevG w' F b g cap pv d :=
  h.beside (Turn.of_q (own := fun _ => False) q) (fun _ _ => id)
theorem DevAt.keep {w w' : World} {F : Nat → Prop} {b : Nat} {d : DevL} (h : DevAt w F b d) (q : Q w w') : DevAt w' F b d :=
  h.beside (Turn.of_q (own := fun _ => False) q) (fun _ _ => id)
theorem blk_ne {w : World} {a b : Nat} {t u : TypeId} {cs ds : Array Value} (h : Blk w a t cs) (k : Blk w b u ds) (hne : t ≠ u) : a ≠ b := by
  rintro rfl
  unfold Blk at h k
  rw [h] at k
  injection k with k
  injection k with _ k _
  exact hne k
theorem setCell_size (w : World) (a : Addr) (v : Value) : (w.setCell a v).heap.size = w.heap.size := by
  unfold World.setCell
  split <;> simp
theorem DevG.ne {w : World} {F : Nat → Prop} {b g cap : Nat} {pv : Value} {d : DevL} (h : DevG w F b g cap pv d) : g ≠ b ∧ (∀ k, pv.ownBlock = some k → k ≠ b ∧ k ≠ g) :=
  ⟨(blk_ne h.box h.disk (by decide)).symm, fun k e => ⟨owns_not_blk h.row h.box (by decide) k e, owns_not_blk h.row h.disk (by decide) k e⟩⟩
theorem DevG.setBox {w : World} {F : Nat → Prop} {b g cap : Nat} {pv : Value} {d : DevL} (h : DevG w F b g cap pv d) (i : Nat) (v : Value) : Turn F w (w.setCell ⟨b, i, none⟩ v) ∧ Blk (w.setCell ⟨b, i, none⟩ v) g 9 (strCs d.l) ∧
    (w.setCell ⟨b, i, none⟩ v).ownsRow 0 88 2 pv d.p.length (wrVs d.p) ∧ Blk (w.setCell ⟨b, i, none⟩ v) b 85 (#[.slice (some ⟨g, 0, none⟩) d.l.length cap, pv, .int .i64 d.fuse, .bool d.dead].setIfInBounds i v) := by
  have t : Turn (fun k => k = b) w (w.setCell ⟨b, i, none⟩ v) := Turn.setCell (a := ⟨b, i, none⟩) (Turn.refl (fun k => k = b) w) (.inl rfl) v
  exact ⟨(Turn.refl F w).setCell (.inl h.fb) v, t.blk h.disk h.ne.1, t.owns h.row (fun k e => (h.ne.2 k e).1), h.box.set i v⟩
theorem DevG.fuse {w : World} {F : Nat → Prop} {b g cap : Nat} {pv : Value} {d : DevL} (h : DevG w F b g cap pv d) (f : Int) : DevG (w.setCell ⟨b, 2, none⟩ (.int .i64 f)) F b g cap pv { d with fuse := f } ∧ Turn F w (w.setCell ⟨b, 2, none⟩ (.int .i64 f)) := by
  obtain ⟨h1, h2, h3, h4⟩ := h.setBox 2 (.int .i64 f)
  exact ⟨⟨h4, h.fb, h2, h.fg, h3, h.fp⟩, h1⟩
theorem DevG.dead {w : World} {F : Nat → Prop} {b g cap : Nat} {pv : Value} {d : DevL} (h : DevG w F b g cap pv d) (x : Bool) : DevG (w.setCell ⟨b, 3, none⟩ (.bool x)) F b g cap pv { d with dead := x } ∧ Turn F w (w.setCell ⟨b, 3, none⟩ (.bool x)) := by
  obtain ⟨h1, h2, h3, h4⟩ := h.setBox 3 (.bool x)
  exact ⟨⟨h4, h.fb, h2, h.fg, h3, h.fp⟩, h1⟩
theorem DevG.empty {w : World} {F : Nat → Prop} {b g cap : Nat} {pv : Value} {d : DevL} (h : DevG w F b g cap pv d) : DevG (w.setCell ⟨b, 1, none⟩ (.slice none 0 0)) F b g cap (.slice none 0 0) { d with p := [] } ∧ Turn F w (w.setCell ⟨b, 1, none⟩ (.slice none 0 0)) := by
  obtain ⟨h1, h2, h3, h4⟩ := h.setBox 1 (.slice none 0 0)
  exact ⟨⟨h4, h.fb, h2, h.fg, ⟨rfl, .inl ⟨rfl, rfl⟩⟩, fun k e => by simp [Value.ownBlock] at e⟩, h1⟩
theorem DevG.append {w w2 : World} {F : Nat → Prop} {b g cap : Nat} {pv : Value} {d : DevL} (h : DevG w F b g cap pv d) (x : WrL) (g2 cap2 : Nat) (hr : w2.ownsRow 0 88 2 (.slice (some ⟨g2, 0, none⟩) (d.p.length + 1) cap2) (d.p.length + 1) (wrVs d.p ++ encW x)) (hg : w.grownBy w2 pv.ownBlock) (ho : pv.ownBlock = some g2 ∨ w.heap.size < g2) (hlt : g2 < w2.heap.size) :
    Blk w2 b 85 #[.slice (some ⟨g, 0, none⟩) d.l.length cap, pv, .int .i64 d.fuse, .bool d.dead] ∧
    DevG (w2.setCell ⟨b, 1, none⟩ (.slice (some ⟨g2, 0, none⟩) (d.p.length + 1) cap2)) (grow F w (w2.setCell ⟨b, 1, none⟩ (.slice (some ⟨g2, 0, none⟩) (d.p.length + 1) cap2))) b g cap (.slice (some ⟨g2, 0, none⟩) (d.p.length + 1) cap2) { d with p := d.p ++ [x] } ∧
    Turn F w (w2.setCell ⟨b, 1, none⟩ (.slice (some ⟨g2, 0, none⟩) (d.p.length + 1) cap2)) := by
  have hbox : Blk w2 b 85 #[.slice (some ⟨g, 0, none⟩) d.l.length cap, pv, .int .i64 d.fuse, .bool d.dead] := (hg.block b h.box.lt (fun e => (h.ne.2 b e.symm).1 rfl)).trans h.box
  have hdisk : Blk w2 g 9 (strCs d.l) := (hg.block g h.disk.lt (fun e => (h.ne.2 g e.symm).2 rfl)).trans h.disk
  have t : Turn (fun k => k = b) w2 (w2.setCell ⟨b, 1, none⟩ (.slice (some ⟨g2, 0, none⟩) (d.p.length + 1) cap2)) := Turn.setCell (a := ⟨b, 1, none⟩) (Turn.refl (fun k => k = b) w2) (.inl rfl) _
  have hsz := setCell_size w2 ⟨b, 1, none⟩ (.slice (some ⟨g2, 0, none⟩) (d.p.length + 1) cap2)
  have tw : Turn F w w2 := ⟨hg.os, hg.tape, hg.output, hg.size, fun k h1 h2 => hg.block k h1 (fun e => h2 (h.fp k e.symm))⟩
  refine ⟨hbox, ⟨hbox.set 1 _, .inl h.fb, t.blk hdisk h.ne.1, .inl h.fg, ?_, fun k e => ?_⟩, tw.trans ((Turn.refl F w2).setCell (a := ⟨b, 1, none⟩) (.inl h.fb) _)⟩
  · rw [wrVs_append, show (d.p ++ [x]).length = d.p.length + 1 by simp, show wrVs [x] = encW x by simp [wrVs]]
    exact t.owns hr (owns_not_blk hr hbox (by decide))
  · simp only [Value.ownBlock, Option.some.injEq] at e
    subst e
    rcases ho with ho | ho
    · exact .inl (h.fp g2 ho)
    · exact .inr ⟨by omega, by rw [hsz]; exact hlt⟩
theorem tinfoWr : (Tryz.prog.info? 88).map (fun i => (i.zero, i.size, i.bytes)) = some (some (.agg #[.int .i64 0, strV []]), 2, 24) := by kernel_rfl
theorem Qs.dr {A B : World} (h : Q A B) : Q A B.drew := h.trans (Q.drew _)
theorem Qs.al {A B : World} (h : Q A B) (o : Obj) : Q A (B.alloc o) := h.trans (Q.alloc _ _)
theorem Qs.st {A B : World} (h : Q A B) (a : Addr) (v : Value) (ha : A.heap.size ≤ a.block) : Q A (B.setCell a v) := Q.setCell h ha v
theorem cellQ {w w' : World} {a : Addr} {v : Value} (q : Q w w') (h : w.cell? a = some v) : w'.cell? a = some v := cell_stays q h
theorem two {w w' : World} (q : Q w w') {a0 a1 : Addr} {v0 v1 : Value} (h0 : w.cell? a0 = some v0) (h1 : w.cell? a1 = some v1) :
    w'.cell? a0 = some v0 ∧ w'.cell? a1 = some v1 := ⟨cell_stays q h0, cell_stays q h1⟩
theorem five {w w' : World} (q : Q w w') {a0 a1 a2 a3 a4 : Addr} {v0 v1 v2 v3 v4 : Value} (h0 : w.cell? a0 = some v0) (h1 : w.cell? a1 = some v1) (h2 : w.cell? a2 = some v2) (h3 : w.cell? a3 = some v3) (h4 : w.cell? a4 = some v4) :
    w'.cell? a0 = some v0 ∧ w'.cell? a1 = some v1 ∧ w'.cell? a2 = some v2 ∧ w'.cell? a3 = some v3 ∧ w'.cell? a4 = some v4 := ⟨cell_stays q h0, cell_stays q h1, cell_stays q h2, cell_stays q h3, cell_stays q h4⟩
theorem three {w w' : World} (q : Q w w') {a0 a1 a2 : Addr} {v0 v1 v2 : Value} (h0 : w.cell? a0 = some v0) (h1 : w.cell? a1 = some v1) (h2 : w.cell? a2 = some v2) :
    w'.cell? a0 = some v0 ∧ w'.cell? a1 = some v1 ∧ w'.cell? a2 = some v2 := ⟨cell_stays q h0, cell_stays q h1, cell_stays q h2⟩
theorem DevG.lay {w : World} {F : Nat → Prop} {b g cap : Nat} {pv : Value} {d : DevL} (h : DevG w F b g cap pv d) (i : Nat) (s : Bytes) : DevG (w.setCell ⟨g, i, none⟩ (strV s)) F b g cap pv { d with l := d.l.set i s } ∧ Turn F w (w.setCell ⟨g, i, none⟩ (strV s)) := by
  have t : Turn (fun k => k = g) w (w.setCell ⟨g, i, none⟩ (strV s)) := Turn.setCell (a := ⟨g, i, none⟩) (Turn.refl (fun k => k = g) w) (.inl rfl) _
  have hbox := t.blk h.box h.ne.1.symm
  refine ⟨⟨?_, h.fb, ?_, h.fg, t.owns h.row (fun k e => (h.ne.2 k e).2), h.fp⟩, (Turn.refl F w).setCell (a := ⟨g, i, none⟩) (.inl h.fg) _⟩
  · rw [show ({ d with l := d.l.set i s } : DevL).l.length = d.l.length from List.length_set]; exact hbox
  · have := h.disk.set i (strV s)
    rw [strCs_set] at this; exact this
theorem Turn.q {F : Nat → Prop} {A B C : World} (h : Turn F A B) (k : Q B C) : Turn F A C := h.trans (Turn.of_q k)
theorem DevG.pcells {w : World} {F : Nat → Prop} {b g cap : Nat} {pv : Value} {d : DevL} (h : DevG w F b g cap pv d) : ∃ pa pc, pv = .slice pa d.p.length pc ∧ ∀ m (hm : m < d.p.length), ∃ g2, pa = some ⟨g2, 0, none⟩ ∧ w.cell? ⟨g2, m * 2, none⟩ = some (.int .i64 (d.p[m].1 : Nat)) ∧ w.cell? ⟨g2, m * 2 + 1, none⟩ = some (strV d.p[m].2) := by
  obtain ⟨pa, pc, hpv, hpa⟩ := owns_value h.row
  have hsl := Sl.of_owns h.row
  subst hpv
  refine ⟨pa, pc, rfl, fun m hm => ?_⟩
  obtain ⟨g2, rfl⟩ := hpa (by omega)
  obtain ⟨_, a, c, hv, hcc⟩ := hsl
  obtain ⟨b2, off, ha, hcell⟩ := hcc (by omega)
  simp only [Value.slice.injEq] at hv
  rw [← hv.1] at ha
  simp only [Option.some.injEq, Addr.mk.injEq] at ha
  obtain ⟨rfl, rfl, _⟩ := ha
  have h1 := hcell _ _ (wrVs_at d.p m hm).1
  have h2 := hcell _ _ (wrVs_at d.p m hm).2
  rw [Nat.zero_add] at h1 h2
  exact ⟨g2, rfl, h1, h2⟩
theorem DevG.dcell {w : World} {F : Nat → Prop} {b g cap : Nat} {pv : Value} {d : DevL} (h : DevG w F b g cap pv d) (i : Nat) (hi : i < d.l.length) : w.cell? ⟨g, i, none⟩ = some (strV (d.l.getD i [])) ∧ w.frozen? ⟨g, i, none⟩ = false := by
  refine ⟨?_, h.disk.frozen i⟩
  rw [h.disk.cell i _ (strCs_at d.l i hi), List.getD_eq_getElem?_getD, List.getElem?_eq_getElem hi]; rfl
theorem Turn.cell {F : Nat → Prop} {A B : World} (h : Turn F A B) {a : Addr} {v : Value} (hc : A.cell? a = some v) (hn : ¬ F a.block) : B.cell? a = some v := by
  have := cell_lt hc
  rw [← hc]
  simp only [World.cell?, h.block a.block this hn]
abbrev ptrV (b : Nat) : Value := .pointer (some ⟨b, 0, none⟩)
def SlO (w : World) (F : Nat → Prop) (v : Value) (n size : Nat) (xs : List Value) : Prop := Sl w v n size xs ∧ (0 < n → ∃ b off, (∃ cap, v = .slice (some ⟨b, off, none⟩) n cap) ∧ b < w.heap.size ∧ ¬ F b)
theorem SlO.keep {w w' : World} {F : Nat → Prop} {v : Value} {n size : Nat} {xs : List Value} (h : SlO w F v n size xs) (t : Turn F w w') : SlO w' (grow F w w') v n size xs := by
  obtain ⟨h1, h2⟩ := h
  refine ⟨?_, fun hn => ?_⟩
  · obtain ⟨hl, a, cap, hv, hc⟩ := h1
    refine ⟨hl, a, cap, hv, fun hn => ?_⟩
    obtain ⟨b, off, ⟨cap', e⟩, hb, hF⟩ := h2 hn
    obtain ⟨b2, off2, rfl, hcells⟩ := hc hn
    rw [hv] at e
    simp only [Value.slice.injEq, Option.some.injEq, Addr.mk.injEq] at e
    obtain ⟨⟨rfl, rfl, _⟩, _⟩ := e
    refine ⟨b2, off2, rfl, fun j u hj => ?_⟩
    have := hcells j u hj
    rw [← this]
    simp only [World.cell?, t.block b2 hb hF]
  · obtain ⟨b, off, e, hb, hF⟩ := h2 hn
    exact ⟨b, off, e, Nat.lt_of_lt_of_le hb t.size, fun hg => hg.elim hF (fun hg => by omega)⟩
def Bools (w : World) (v : Value) (l : List Bool) : Prop := Sl w v l.length 1 (l.map .bool)
abbrev act7Vs (vs : List Value) (l : List Act7) : List Value := (vs.zip l).flatMap fun x => [.int .i64 x.2.op, .int .i64 x.2.at_, .int .i64 x.2.n, x.1, .int .u8 (x.2.byte.toNat : Nat)]
def actV (kv : Value) (a : Act7) : Value := .agg #[.int .i64 a.op, .int .i64 a.at_, .int .i64 a.n, kv, .int .u8 (a.byte.toNat : Nat)]
def Acts7 (w : World) (v : Value) (l : List Act7) : Prop := ∃ vs : List Value, vs.length = l.length ∧ Sl w v l.length 5 (act7Vs vs l) ∧ ∀ (i : Nat) (a : Value) (b : Act7), vs[i]? = some a → l[i]? = some b → Bools w a b.keep
def ActA (w : World) (v : Value) (a : Act7) : Prop := ∃ kv, v = actV kv a ∧ Bools w kv a.keep
structure Act7.Wf (a : Act7) : Prop where
  op : -9223372036854775808 ≤ a.op ∧ a.op ≤ 9223372036854775807
  at_ : -9223372036854775808 ≤ a.at_ ∧ a.at_ ≤ 9223372036854775807
  n : -9223372036854775808 ≤ a.n ∧ a.n ≤ 9223372036854775807
  keep : a.keep.length ≤ 9223372036854775807
def Acts7Wf (l : List Act7) : Prop := l.length ≤ 9223372036854775807 ∧ ∀ a ∈ l, a.Wf
theorem Bools.stays {w w' : World} {v : Value} {l : List Bool} (h : Bools w v l) (q : Q w w') : Bools w' v l := Sl.stays h q
theorem Acts7.stays {w w' : World} {v : Value} {l : List Act7} (h : Acts7 w v l) (q : Q w w') : Acts7 w' v l := by
  obtain ⟨vs, h1, h2, h3⟩ := h
  exact ⟨vs, h1, h2.stays q, fun i a b ha hb => (h3 i a b ha hb).stays q⟩
theorem act7Vs_at (vs : List Value) (l : List Act7) (hl : vs.length = l.length) (k : Nat) (h : k < l.length) : (act7Vs vs l)[k * 5]? = some (.int .i64 l[k].op) ∧ (act7Vs vs l)[k * 5 + 1]? = some (.int .i64 l[k].at_) ∧ (act7Vs vs l)[k * 5 + 2]? = some (.int .i64 l[k].n) ∧ (act7Vs vs l)[k * 5 + 3]? = some (vs[k]'(by omega)) ∧ (act7Vs vs l)[k * 5 + 4]? = some (.int .u8 (l[k].byte.toNat : Nat)) := by
  induction l generalizing vs k with
  | nil => simp at h
  | cons d l ih =>
    cases vs with
    | nil => simp at hl
    | cons v vs =>
      have e : act7Vs (v :: vs) (d :: l) = .int .i64 d.op :: .int .i64 d.at_ :: .int .i64 d.n :: v :: .int .u8 (d.byte.toNat : Nat) :: act7Vs vs l := by simp [act7Vs]
      cases k with
      | zero => rw [e]; exact ⟨rfl, rfl, rfl, rfl, rfl⟩
      | succ k =>
        have := ih vs (by simpa using hl) k (by simpa using h)
        rw [e, show (k + 1) * 5 = k * 5 + 1 + 1 + 1 + 1 + 1 by omega]
        exact this
theorem Acts7.value {w : World} {v : Value} {l : List Act7} (h : Acts7 w v l) : ∃ a cap, v = .slice a l.length cap ∧ (0 < l.length → ∃ b off, a = some ⟨b, off, none⟩ ∧
    ∀ k (hk : k < l.length), ∃ kv, w.cell? ⟨b, off + k * 5, none⟩ = some (.int .i64 l[k].op) ∧ w.cell? ⟨b, off + k * 5 + 1, none⟩ = some (.int .i64 l[k].at_) ∧ w.cell? ⟨b, off + k * 5 + 2, none⟩ = some (.int .i64 l[k].n) ∧ w.cell? ⟨b, off + k * 5 + 3, none⟩ = some kv ∧ w.cell? ⟨b, off + k * 5 + 4, none⟩ = some (.int .u8 (l[k].byte.toNat : Nat)) ∧ Bools w kv l[k].keep) := by
  obtain ⟨vs, hl, ⟨_, a, cap, h2, h3⟩, h4⟩ := h
  refine ⟨a, cap, h2, fun hn => ?_⟩
  obtain ⟨b, off, h5, h6⟩ := h3 hn
  refine ⟨b, off, h5, fun k hk => ?_⟩
  obtain ⟨e0, e1, e2, e3, e4⟩ := act7Vs_at vs l hl k hk
  exact ⟨_, h6 _ _ e0, h6 _ _ e1, h6 _ _ e2, h6 _ _ e3, h6 _ _ e4, h4 k _ _ (List.getElem?_eq_getElem (by omega)) (List.getElem?_eq_getElem hk)⟩
theorem Bools.len {w : World} {v : Value} {l : List Bool} (h : Bools w v l) : ∃ a cap, v = .slice a l.length cap := by
  obtain ⟨_, a, cap, e, _⟩ := h
  exact ⟨a, cap, e⟩
def small7B (l : List Act7) : Bool := decide (l.length ≤ 80) && l.all fun a => decide (a.keep.length ≤ 200)
theorem Small7_any (v : Value) (l : List Act7) (w : World) (hv : Acts7 w v l) (hl : Acts7Wf l) :
    Calls Tryz.prog 10 #[v] w fun e w' => e = .returned (.bool (small7B l)) ∧ w = w' := by
  obtain ⟨a, cap, rfl, hcell⟩ := hv.value
  obtain ⟨hn, hl⟩ := hl
  have HC := Lib.hid hcell; have HL := Lib.hid hl
  clear hv hcell hl
  by_cases h80 : l.length ≤ 80
  · have hsb : small7B l = l.all fun a => decide (a.keep.length ≤ 200) := by unfold small7B; rw [decide_eq_true h80]; rfl
    have HSB := Lib.hid hsb; clear hsb
    have h80i : ¬ ((80 : Int) < (l.length : Int)) := by omega
    go_enter Tryz.func10, Tryz.ntmps10
    go_wp2_with fail
    go_loop [3] (fun x => ∃ k : Nat, x = .int .i64 (k : Nat) ∧ k ≤ l.length ∧ Hid ((l.all fun a => decide (a.keep.length ≤ 200)) = (l.drop k).all fun a => decide (a.keep.length ≤ 200))) (fun x => l.length - (intOf x).toNat)
    case atStart => exact ⟨0, rfl, by omega, rfl⟩
    case round =>
      obtain ⟨k, rfl, hk, HK⟩ := hrel
      by_cases hlt : k < l.length
      · obtain ⟨b, off, rfl, hc⟩ := HC.out (by omega)
        obtain ⟨kv, _, _, _, c3, _, hb⟩ := hc k hlt
        have hwf := (HL.out _ (List.getElem_mem hlt)).keep
        have hall : (l.all fun a => decide (a.keep.length ≤ 200)) = (decide (l[k].keep.length ≤ 200) && (l.drop (k + 1)).all fun a => decide (a.keep.length ≤ 200)) := by rw [HK.out, List.drop_eq_getElem_cons hlt, List.all_cons]
        have hi0 : (0 : Int) ≤ (k : Int) := by omega
        have hi1 : (k : Int) < (l.length : Int) := by omega
        generalize l[k] = act at *
        obtain ⟨ka, kc, rfl⟩ := hb.len
        clear hc hb
        by_cases h200 : act.keep.length ≤ 200
        · have hso : (l.all fun a => decide (a.keep.length ≤ 200)) = (l.drop (k + 1)).all fun a => decide (a.keep.length ≤ 200) := by rw [hall]; simp [h200]
          have HSO := Lib.hid hso
          clear hso hall
          have h2i : ¬ ((200 : Int) < (act.keep.length : Int)) := by omega
          go_wp2_with fail
          go_round
          case rel => exact ⟨k + 1, by go_num, by omega, HSO⟩
          case measure => simp [intOf]; omega
        · have hso : (l.all fun a => decide (a.keep.length ≤ 200)) = false := by rw [hall]; simp; omega
          have HSO := Lib.hid hso
          clear hso hall
          have h2i : (200 : Int) < (act.keep.length : Int) := by omega
          go_wp2_with fail
          go_ret
          exact ⟨by rw [HSB.out, HSO.out]; rfl, rfl⟩
      · have hje : k = l.length := by omega
        subst hje
        have hso : (l.all fun a => decide (a.keep.length ≤ 200)) = true := by rw [HK.out, List.drop_length]; rfl
        have HSO := Lib.hid hso; clear hso
        go_wp2_with fail
        go_ret
        exact ⟨by rw [HSB.out, HSO.out]; rfl, rfl⟩
  · have hsb : small7B l = false := by unfold small7B; rw [decide_eq_false h80]; rfl
    have HSB := Lib.hid hsb; clear hsb
    have h80i : (80 : Int) < (l.length : Int) := by omega
    go_enter Tryz.func10, Tryz.ntmps10
    go_wp2_with fail
    go_ret
    exact ⟨by rw [HSB.out]; rfl, rfl⟩
theorem small7_wf {l : List Act7} (h : small7B l = true) : l.length ≤ 80 ∧ ∀ a ∈ l, a.keep.length ≤ 200 := by
  unfold small7B at h
  rw [Bool.and_eq_true, decide_eq_true_eq, List.all_eq_true] at h
  exact ⟨h.1, fun a ha => by simpa using h.2 a ha⟩
def jcells (b : Nat) (j : JL) : Array Value := #[ptrV b, .int .u64 (j.s.e : Nat), .int .u64 (j.s.s : Nat), .int .i64 (j.s.log : Nat), .int .i64 (j.s.place : Nat), .int .i64 (j.k : Nat), .int .u64 (j.next : Nat), .int .i64 (j.used : Nat)]
structure JrnAt (w : World) (F : Nat → Prop) (p b : Nat) (j : JL) : Prop where
  box : Blk w p 103 (jcells b j)
  fp : F p
  dev : DevAt w F b j.d
  lt : ∀ k, F k → k < w.heap.size
theorem JrnAt.mono {w : World} {F G : Nat → Prop} {p b : Nat} {j : JL} (h : JrnAt w F p b j) (k : ∀ i, F i → G i) (hl : ∀ i, G i → i < w.heap.size) : JrnAt w G p b j := ⟨h.box, k _ h.fp, h.dev.mono k, hl⟩
theorem JrnAt.beside {w w' : World} {F G : Nat → Prop} {p b : Nat} {j : JL} (h : JrnAt w F p b j) (t : Turn G w w') (hd : ∀ k, F k → ¬ G k) : JrnAt w' F p b j := ⟨t.blk h.box (hd _ h.fp), h.fp, h.dev.beside t hd, fun k hk => Nat.lt_of_lt_of_le (h.lt k hk) t.size⟩
structure JNum (j : JL) : Prop where
  log : 0 < j.s.log
  log2 : j.s.log ≤ 1000000
  place : j.s.place ≤ 1000000
  used : j.used ≤ 1000000
  e : j.s.e < 18446744073709551616
  s : j.s.s < 18446744073709551616
  next : j.next < 18446744073709551616
  k : j.k ≤ 1
  ok : j.d.Ok
  plen : j.d.dead = false → j.d.p.length ≤ 900000
theorem JNum.slot {j : JL} (h : JNum j) : j.s.Ok := ⟨h.e, h.s, by have := h.log2; omega, by have := h.place; omega⟩
theorem JNum.nslot {j : JL} (h : JNum j) : j.nextSlot.Ok := by
  have h1 := h.log2; have h2 := h.log
  have := Nat.mod_lt (j.s.place + j.used) h2
  exact ⟨Nat.mod_lt _ (by decide), h.next, by show j.s.log < _; omega, by show (j.s.place + j.used) % j.s.log < _; omega⟩
theorem JrnAt.keep {w w' : World} {F : Nat → Prop} {p b : Nat} {j : JL} (h : JrnAt w F p b j) (q : Q w w') : JrnAt w' F p b j := h.beside (Turn.of_q (own := fun _ => False) q) (fun _ _ => id)
theorem Blk.c8 {w : World} {k : Nat} {t : TypeId} {a0 a1 a2 a3 a4 a5 a6 a7 : Value} (h : Blk w k t #[a0, a1, a2, a3, a4, a5, a6, a7]) :
    w.cell? ⟨k, 0, none⟩ = some a0 ∧ w.cell? ⟨k, 1, none⟩ = some a1 ∧ w.cell? ⟨k, 2, none⟩ = some a2 ∧ w.cell? ⟨k, 3, none⟩ = some a3 ∧ w.cell? ⟨k, 4, none⟩ = some a4 ∧ w.cell? ⟨k, 5, none⟩ = some a5 ∧ w.cell? ⟨k, 6, none⟩ = some a6 ∧ w.cell? ⟨k, 7, none⟩ = some a7 :=
  ⟨h.cell 0 _ rfl, h.cell 1 _ rfl, h.cell 2 _ rfl, h.cell 3 _ rfl, h.cell 4 _ rfl, h.cell 5 _ rfl, h.cell 6 _ rfl, h.cell 7 _ rfl⟩
theorem SlO.lit {w : World} {F : Nat → Prop} (cs : Array Value) (e : TypeId) (n size : Nat) (h : cs.size = n * size) (hF : ¬ F w.heap.size) : SlO (w.alloc (.cells cs e)) F (.slice (some ⟨w.heap.size, 0, none⟩) n n) n size cs.toList :=
  ⟨Sl.lit w cs e n size h, fun _ => ⟨_, _, ⟨_, rfl⟩, by simp, hF⟩⟩
theorem SlO.value {w : World} {F : Nat → Prop} {v : Value} {n size : Nat} {xs : List Value} (h : SlO w F v n size xs) : ∃ a cap, v = .slice a n cap ∧ (0 < n → ∃ b off, a = some ⟨b, off, none⟩ ∧ b < w.heap.size ∧ ¬ F b ∧ ∀ j u, xs[j]? = some u → w.cell? ⟨b, off + j, none⟩ = some u) := by
  obtain ⟨⟨_, a, cap, rfl, hc⟩, hF⟩ := h
  refine ⟨a, cap, rfl, fun hn => ?_⟩
  obtain ⟨kb, ko, rfl, hcell⟩ := hc hn
  obtain ⟨b, off, ⟨cap', e⟩, hb, hFb⟩ := hF hn
  simp only [Value.slice.injEq, Option.some.injEq, Addr.mk.injEq] at e
  obtain ⟨⟨rfl, _, _⟩, _⟩ := e
  exact ⟨_, _, rfl, hb, hFb, hcell⟩
theorem Turn.grow {F : Nat → Prop} {A B C : World} (h : Turn F A B) (k : Turn (grow F A B) B C) : Turn F A C := h.step k
structure WrArg (w : World) (F : Nat → Prop) (v : Value) (ws : List WrL) : Prop where
  sl : SlO w F v ws.length 2 (wrVs ws)
  num : ∀ x ∈ ws, x.1 ≤ 9223372036854775807 ∧ x.2.length ≤ 9223372036854775807
end
end Go.Proofs.YtnmijegmbomfdaaGreatDoor
