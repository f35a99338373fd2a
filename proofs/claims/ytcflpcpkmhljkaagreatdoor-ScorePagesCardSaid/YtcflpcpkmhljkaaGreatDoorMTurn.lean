/- Joined texts of one proof: Turn. -/
import Derived.Test.YtcflpcpkmhljkaaGreatDoorMOwnToWDictI
import Derived.Test.YtcflpcpkmhljkaaGreatDoorMRangeToWKind
set_option linter.unusedSimpArgs false
set_option linter.unusedVariables false
set_option linter.unnecessarySimpa false
/- (Turn) What turns some blocks alone. Over any program. -/
section
namespace Go.Proofs.YtcflpcpkmhljkaaGreatDoor
open Go.RowKit
set_option linter.unusedVariables false

/-- of what lay there only the blocks 'own' have turned -/
structure Turn (own : Nat → Prop) (A B : World) : Prop where
  os : B.os = A.os
  tape : B.tape = A.tape
  output : B.output = A.output
  size : A.heap.size ≤ B.heap.size
  block : ∀ k, k < A.heap.size → ¬ own k → B.heap[k]? = A.heap[k]?
theorem Turn.refl (own : Nat → Prop) (A : World) : Turn own A A := ⟨rfl, rfl, rfl, Nat.le_refl _, fun _ _ _ => rfl⟩
theorem Turn.trans {own : Nat → Prop} {A B C : World} (h : Turn own A B) (k : Turn own B C) : Turn own A C :=
  ⟨k.os.trans h.os, k.tape.trans h.tape, k.output.trans h.output, Nat.le_trans h.size k.size, fun i h1 h2 => (k.block i (Nat.lt_of_lt_of_le h1 h.size) h2).trans (h.block i h1 h2)⟩
theorem Turn.of_q {own : Nat → Prop} {A B : World} (h : Q A B) : Turn own A B := ⟨h.os, h.tape, h.output, h.size, fun k h1 _ => h.block k h1⟩
theorem Turn.mono {own own' : Nat → Prop} {A B : World} (h : Turn own A B) (ho : ∀ k, own k → own' k) : Turn own' A B := ⟨h.os, h.tape, h.output, h.size, fun k h1 h2 => h.block k h1 (fun e => h2 (ho k e))⟩
theorem Turn.setCell {own : Nat → Prop} {A B : World} (h : Turn own A B) {a : Addr} (ha : own a.block ∨ A.heap.size ≤ a.block) (v : Value) : Turn own A (B.setCell a v) :=
  ⟨h.os, h.tape, h.output, Nat.le_trans h.size (KeepsWalks.setCell B a v).size, fun k h1 h2 => (Below.heap_setCell _ _ _ _ (fun e => by
    rcases ha with ha | ha
    · exact h2 (by rw [e]; exact ha)
    · omega)).trans (h.block k h1 h2)⟩
theorem Turn.below {own : Nat → Prop} {A B : World} {n : Nat} {w : World} (h : Turn own A B) (hw : Below n w A) (hn : n ≤ A.heap.size) (ho : ∀ k, own k → n ≤ k) : Below n w B :=
  hw.trans ⟨h.os, h.tape, h.output, h.size, fun k hk => h.block k (by omega) (fun e => by have := ho k e; omega)⟩
theorem Turn.itk {own : Nat → Prop} {lo : Nat} {A B : World} (h : Turn own A B) : Itk own lo A B :=
  ⟨h.os, h.tape, h.output, h.size, fun k _ h2 h3 => h.block k h2 h3, fun k o h1 _ h3 => (h.block k (lt_of_get h1) h3).trans h1⟩
theorem Turn.blk {own : Nat → Prop} {A B : World} (h : Turn own A B) {k : Nat} {t : TypeId} {cs : Array Value} (hb : Blk A k t cs) (ho : ¬ own k) : Blk B k t cs := (h.block k hb.lt ho).trans hb
theorem Turn.get {own : Nat → Prop} {A B : World} (h : Turn own A B) {k : Nat} {o : Obj} (hb : A.heap[k]? = some o) (ho : ¬ own k) : B.heap[k]? = some o := (h.block k (lt_of_get hb) ho).trans hb
theorem Turn.owns {own : Nat → Prop} {A B : World} (h : Turn own A B) {base : Nat} {e : TypeId} {size : Nat} {v : Value} {n : Nat} {xs : List Value} (hr : A.ownsRow base e size v n xs) (ho : ∀ g, v.ownBlock = some g → ¬ own g) : B.ownsRow base e size v n xs := (h.itk (lo := 0)).owns hr ho
/-- a row of another type than a block's is not that block -/
theorem owns_not_blk {A : World} {base : Nat} {e : TypeId} {size : Nat} {v : Value} {n : Nat} {xs : List Value} (hr : A.ownsRow base e size v n xs) {k : Nat} {t : TypeId} {cs : Array Value} (hb : Blk A k t cs) (hne : t ≠ e) : ∀ g, v.ownBlock = some g → g ≠ k := by
  intro g hg e'
  obtain ⟨cs', hc⟩ := owns_kind hr g hg
  rw [e', show _ = _ from hb] at hc
  injection hc with h3
  injection h3 with _ h3 _
  exact hne h3
theorem Turn.grown {own : Nat → Prop} {A B C : World} (h : Turn own A B) {v : Value} {base : Nat} {e : TypeId} {size n : Nat} {xs : List Value} (hr : B.ownsRow base e size v n xs) (hg : B.grownBy C v.ownBlock) (hb : A.heap.size ≤ base) : Turn own A C :=
  ⟨hg.os.trans h.os, hg.tape.trans h.tape, hg.output.trans h.output, Nat.le_trans h.size hg.size, fun k h1 h2 => (hg.block k (Nat.lt_of_lt_of_le h1 h.size) (fun e' => by have := (hr.lt k e'.symm).1; omega)).trans (h.block k h1 h2)⟩
end Go.Proofs.YtcflpcpkmhljkaaGreatDoor
end
