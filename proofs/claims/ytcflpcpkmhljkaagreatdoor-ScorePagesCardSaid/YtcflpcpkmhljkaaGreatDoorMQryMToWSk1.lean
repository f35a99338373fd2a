/- Joined texts of one proof: QryM, Qry2, WSk1. -/
import Derived.Test.YtcflpcpkmhljkaaGreatDoorMLive2ToWScW
import Derived.Test.YtcflpcpkmhljkaaGreatDoorMRangeToWKind
import Derived.Test.YtcflpcpkmhljkaaGreatDoorMWire2ToMem3
import Derived.Test.YtcflpcpkmhljkaaGreatDoorMOwnToWDictI
import Derived.Test.YtcflpcpkmhljkaaGreatDoorMPostRdToBase
import Derived.Test.YtcflpcpkmhljkaaGreatDoorProg
import Derived.Test.YtcflpcpkmhljkaaGreatDoorMKitToSegSpec
import Derived.BigQuiet
import Derived.Deep.QuietTactic
import Derived.Shelf.Abstract
set_option linter.unusedSimpArgs false
set_option linter.unusedVariables false
set_option linter.unnecessarySimpa false
/- (QryM) Queries in memory. Over any program. -/
section
namespace Go.Proofs.YtcflpcpkmhljkaaGreatDoor
open Go.RowKit
set_option linter.unusedVariables false

/-- a slice of n things that lie as C says -/
def rowAt (v : Value) (n : Nat) (C : Nat → Nat → Prop) : Prop := ∃ a cap, v = .slice a n cap ∧ (0 < n → ∃ b off, a = some ⟨b, off, none⟩ ∧ C b off)
mutual
def QryAt (w : World) : QL → Value → Prop
  | .mk k s m sh n, v => ∃ vm vs vn, v = .agg #[.int .i64 k, strV s, vm, vs, vn] ∧ rowAt vm m.length (fun b off => QcellsAt w m b off) ∧ rowAt vs sh.length (fun b off => QcellsAt w sh b off) ∧ rowAt vn n.length (fun b off => QcellsAt w n b off)
def QcellsAt (w : World) : List QL → Nat → Nat → Prop
  | [], _, _ => True
  | q :: qs, b, off => (∃ c0 c1 c2 c3 c4, (w.cell? ⟨b, off, none⟩ = some c0 ∧ w.cell? ⟨b, off + 1, none⟩ = some c1 ∧ w.cell? ⟨b, off + 2, none⟩ = some c2 ∧ w.cell? ⟨b, off + 3, none⟩ = some c3 ∧ w.cell? ⟨b, off + 4, none⟩ = some c4) ∧
      QryAt w q (.agg #[c0, c1, c2, c3, c4])) ∧ QcellsAt w qs b (off + 5)
end
def QrysAt (w : World) (v : Value) (qs : List QL) : Prop := rowAt v qs.length (fun b off => QcellsAt w qs b off)
theorem rowAt.mono {v : Value} {n : Nat} {C D : Nat → Nat → Prop} (h : rowAt v n C) (hm : ∀ b off, C b off → D b off) : rowAt v n D := by
  obtain ⟨a, cap, h1, h2⟩ := h
  refine ⟨a, cap, h1, fun hn => ?_⟩
  obtain ⟨b, off, h3, h4⟩ := h2 hn
  exact ⟨b, off, h3, hm _ _ h4⟩
mutual
theorem QryAt.keeps {w w' : World} (hc : ∀ a v, w.cell? a = some v → w'.cell? a = some v) : ∀ (q : QL) (v : Value), QryAt w q v → QryAt w' q v
  | .mk k s m sh n, v, h => by
    unfold QryAt at h ⊢
    obtain ⟨vm, vs, vn, h1, h2, h3, h4⟩ := h
    exact ⟨vm, vs, vn, h1, h2.mono (fun b off => QcellsAt.keeps hc m b off), h3.mono (fun b off => QcellsAt.keeps hc sh b off), h4.mono (fun b off => QcellsAt.keeps hc n b off)⟩
theorem QcellsAt.keeps {w w' : World} (hc : ∀ a v, w.cell? a = some v → w'.cell? a = some v) : ∀ (qs : List QL) (b off : Nat), QcellsAt w qs b off → QcellsAt w' qs b off
  | [], _, _, _ => by unfold QcellsAt; trivial
  | q :: qs, b, off, h => by
    unfold QcellsAt at h ⊢
    obtain ⟨⟨c0, c1, c2, c3, c4, ⟨g0, g1, g2, g3, g4⟩, hq⟩, hr⟩ := h
    exact ⟨⟨c0, c1, c2, c3, c4, ⟨hc _ _ g0, hc _ _ g1, hc _ _ g2, hc _ _ g3, hc _ _ g4⟩, QryAt.keeps hc q _ hq⟩, QcellsAt.keeps hc qs b (off + 5) hr⟩
end
theorem QryAt.stays {w w' : World} {q : QL} {v : Value} (h : QryAt w q v) (hb : Q w w') : QryAt w' q v := QryAt.keeps (fun _ _ h => cell_stays hb h) q v h
theorem QrysAt.stays {w w' : World} {qs : List QL} {v : Value} (h : QrysAt w v qs) (hb : Q w w') : QrysAt w' v qs := rowAt.mono h (fun b off => QcellsAt.keeps (fun _ _ h => cell_stays hb h) qs b off)
/-- cells stay; a map may turn that lies from n₀ on -/
def Cs (n₀ : Nat) (A B : World) : Prop := Itk (fun _ => False) n₀ A B
theorem Cs.refl (n₀ : Nat) (A : World) : Cs n₀ A A := Itk.refl _ _ _
theorem Cs.trans {n₀ : Nat} {A B C : World} (h : Cs n₀ A B) (k : Cs n₀ B C) : Cs n₀ A C := Itk.trans h k
theorem Cs.of_q {n₀ : Nat} {A B : World} (h : Q A B) : Cs n₀ A B := Itk.of_q h
theorem Cs.cell {n₀ : Nat} {A B : World} (h : Cs n₀ A B) {a : Addr} {v : Value} (hc : A.cell? a = some v) : B.cell? a = some v := Itk.cell h hc (fun h => h)
theorem Cs.blk {n₀ : Nat} {A B : World} (h : Cs n₀ A B) {k : Nat} {t : TypeId} {cs : Array Value} (hb : Blk A k t cs) : Blk B k t cs := Itk.get h hb (fun h => h)
theorem Cs.boxed {n₀ : Nat} {A B : World} (h : Cs n₀ A B) {b : Nat} {t : TypeId} {v : Value} (hb : Boxed A b t v) : Boxed B b t v := Itk.boxed h hb (fun h => h)
theorem Cs.owns {n₀ : Nat} {A B : World} (h : Cs n₀ A B) {base : Nat} {e : TypeId} {size : Nat} {v : Value} {n : Nat} {xs : List Value} (hr : A.ownsRow base e size v n xs) : B.ownsRow base e size v n xs := Itk.owns h hr (fun _ _ h => h)
theorem Cs.low {n₀ : Nat} {A B : World} (h : Cs n₀ A B) (hn : n₀ ≤ A.heap.size) : Below n₀ A B := ⟨h.os, h.tape, h.output, h.size, fun k hk => Itk.low h k hk (by omega) (fun h => h)⟩
theorem Cs.qry {n₀ : Nat} {A B : World} (h : Cs n₀ A B) {q : QL} {v : Value} (hq : QryAt A q v) : QryAt B q v := QryAt.keeps (fun _ _ g => h.cell g) q v hq
theorem Cs.qrys {n₀ : Nat} {A B : World} (h : Cs n₀ A B) {qs : List QL} {v : Value} (hq : QrysAt A v qs) : QrysAt B v qs := rowAt.mono hq (fun b off => QcellsAt.keeps (fun _ _ g => h.cell g) qs b off)
theorem Cs.sl {n₀ : Nat} {A B : World} (h : Cs n₀ A B) {v : Value} {n size : Nat} {xs : List Value} (hs : Sl A v n size xs) : Sl B v n size xs := by
  obtain ⟨h1, a, cap, h2, h3⟩ := hs
  refine ⟨h1, a, cap, h2, fun hn => ?_⟩
  obtain ⟨b, off, h4, h5⟩ := h3 hn
  exact ⟨b, off, h4, fun j u hj => h.cell (h5 j u hj)⟩
theorem QrysAt.nil (w : World) : QrysAt w (.slice none 0 0) [] := ⟨none, 0, rfl, fun h => absurd h (Nat.lt_irrefl _)⟩
/-- the i-th of some queries -/
theorem QcellsAt.at {w : World} {qs : List QL} {b off : Nat} (h : QcellsAt w qs b off) (i : Nat) (hi : i < qs.length) : ∃ c0 c1 c2 c3 c4, (w.cell? ⟨b, off + i * 5, none⟩ = some c0 ∧ w.cell? ⟨b, off + i * 5 + 1, none⟩ = some c1 ∧ w.cell? ⟨b, off + i * 5 + 2, none⟩ = some c2 ∧ w.cell? ⟨b, off + i * 5 + 3, none⟩ = some c3 ∧ w.cell? ⟨b, off + i * 5 + 4, none⟩ = some c4) ∧
    QryAt w qs[i] (.agg #[c0, c1, c2, c3, c4]) := by
  induction qs generalizing off i with
  | nil => simp at hi
  | cons q qs ih =>
    unfold QcellsAt at h
    cases i with
    | zero => simpa using h.1
    | succ i =>
      have := ih h.2 i (by simpa using hi)
      rw [show off + (i + 1) * 5 = off + 5 + i * 5 by omega]
      exact this
/-- a query's parts -/
theorem QryAt.open {w : World} {k : Int} {s : Bytes} {m sh n : List QL} {v : Value} (h : QryAt w (.mk k s m sh n) v) : ∃ vm vs vn, v = .agg #[.int .i64 k, strV s, vm, vs, vn] ∧ QrysAt w vm m ∧ QrysAt w vs sh ∧ QrysAt w vn n := by
  unfold QryAt at h; exact h
theorem QryAt.mk' {w : World} {k : Int} {s : Bytes} {m sh n : List QL} {vm vs vn : Value} (h1 : QrysAt w vm m) (h2 : QrysAt w vs sh) (h3 : QrysAt w vn n) : QryAt w (.mk k s m sh n) (.agg #[.int .i64 k, strV s, vm, vs, vn]) := by
  unfold QryAt; exact ⟨vm, vs, vn, rfl, h1, h2, h3⟩
/-! ### a searcher's world -/
/-- what a walker leans on: what lies below n, and the cells from lo on, below hi -/
structure Zone where
  n : Nat
  lo : Nat
  hi : Nat
structure Ws (z : Zone) (A B : World) : Prop where
  os : B.os = A.os
  tape : B.tape = A.tape
  output : B.output = A.output
  size : A.heap.size ≤ B.heap.size
  low : ∀ k, k < z.n → k < A.heap.size → B.heap[k]? = A.heap[k]?
  cells : ∀ (k : Nat) cs e fz, z.lo ≤ k → k < z.hi → A.heap[k]? = some (.cells cs e fz) → B.heap[k]? = some (.cells cs e fz)
theorem Ws.refl (z : Zone) (A : World) : Ws z A A := ⟨rfl, rfl, rfl, Nat.le_refl _, fun _ _ _ => rfl, fun _ _ _ _ _ _ h => h⟩
theorem Ws.trans {z : Zone} {A B C : World} (h : Ws z A B) (k : Ws z B C) : Ws z A C :=
  ⟨k.os.trans h.os, k.tape.trans h.tape, k.output.trans h.output, Nat.le_trans h.size k.size, fun i h1 h2 => (k.low i h1 (Nat.lt_of_lt_of_le h2 h.size)).trans (h.low i h1 h2),
    fun i cs e fz h1 h2 h3 => k.cells i cs e fz h1 h2 (h.cells i cs e fz h1 h2 h3)⟩
theorem Ws.of_cs {z : Zone} {n₀ : Nat} {A B : World} (h : Cs n₀ A B) (hn : z.n ≤ n₀) : Ws z A B :=
  ⟨h.os, h.tape, h.output, h.size, fun k h1 h2 => Itk.low h k (by omega) h2 (fun h => h), fun k cs e fz _ _ h1 => Itk.get h h1 (fun h => h)⟩
theorem Ws.of_q {z : Zone} {A B : World} (h : Q A B) : Ws z A B :=
  ⟨h.os, h.tape, h.output, h.size, fun k h1 h2 => h.block k h2, fun k cs e fz _ _ h1 => (h.block k (lt_of_get h1)).trans h1⟩
theorem Ws.wide {z z' : Zone} {A B : World} (h : Ws z' A B) (h1 : z.n ≤ z'.n) (h2 : z'.lo ≤ z.lo) (h3 : z.hi ≤ z'.hi) : Ws z A B :=
  ⟨h.os, h.tape, h.output, h.size, fun k hk => h.low k (by omega), fun k cs e fz k1 k2 => h.cells k cs e fz (by omega) (by omega)⟩
theorem Ws.below {z : Zone} {A B : World} (h : Ws z A B) (hn : z.n ≤ A.heap.size) : Below z.n A B := ⟨h.os, h.tape, h.output, h.size, fun k hk => h.low k hk (by omega)⟩
/-- whatever stays but one row of cells that lies apart -/
theorem Ws.grown {z : Zone} {A B : World} {row : Option Nat} (hg : A.grownBy B row) (hr : ∀ k, row = some k → z.n ≤ k ∧ (k < z.lo ∨ z.hi ≤ k)) : Ws z A B :=
  ⟨hg.os, hg.tape, hg.output, hg.size, fun k h1 h2 => hg.block k h2 (fun e => by have := hr k e.symm; omega), fun k cs e fz h1 h2 h3 => (hg.block k (lt_of_get h3) (fun e' => by have := hr k e'.symm; omega)).trans h3⟩
/-- a slice in the zone -/
def SlW (z : Zone) (w : World) (v : Value) (n size : Nat) (xs : List Value) : Prop := Sl w v n size xs ∧ (0 < n → ∃ b off cap, v = .slice (some ⟨b, off, none⟩) n cap ∧ z.lo ≤ b ∧ b < z.hi ∧ ∃ cs e fz, w.heap[b]? = some (.cells cs e fz))
theorem SlW.nil (z : Zone) (w : World) (size : Nat) : SlW z w (.slice none 0 0) 0 size [] := ⟨Sl.nil w size, fun h => by omega⟩
theorem SlW.of_owns {z : Zone} {w : World} {base : Nat} {e : TypeId} {size : Nat} {v : Value} {n : Nat} {xs : List Value} (h : w.ownsRow base e size v n xs) (hb : z.lo ≤ base) (hh : w.heap.size ≤ z.hi) : SlW z w v n size xs :=
  ⟨Sl.of_owns h, fun hn => by
    obtain ⟨a, cap, rfl, hs⟩ := owns_value h
    obtain ⟨g, rfl⟩ := hs hn
    obtain ⟨cs, hc⟩ := owns_kind h g rfl
    have := h.lt g rfl
    exact ⟨g, 0, cap, rfl, by omega, by omega, cs, e, _, hc⟩⟩
theorem SlW.lit (z : Zone) (w : World) (cs : Array Value) (e : TypeId) (n size : Nat) (h : cs.size = n * size) (hl : z.lo ≤ w.heap.size) (hh : w.heap.size < z.hi) : SlW z (w.alloc (.cells cs e)) (.slice (some ⟨w.heap.size, 0, none⟩) n n) n size cs.toList :=
  ⟨Sl.lit w cs e n size h, fun hn => ⟨_, _, _, rfl, hl, hh, cs, e, _, World.alloc_heap_new w _⟩⟩
theorem SlW.wide {z z' : Zone} {w : World} {v : Value} {n size : Nat} {xs : List Value} (h : SlW z w v n size xs) (h2 : z'.lo ≤ z.lo) (h3 : z.hi ≤ z'.hi) : SlW z' w v n size xs :=
  ⟨h.1, fun hn => by
    obtain ⟨b, off, cap, e, k1, k2, k3⟩ := h.2 hn
    exact ⟨b, off, cap, e, by omega, by omega, k3⟩⟩
theorem Ws.sl {z : Zone} {A B : World} (h : Ws z A B) {v : Value} {n size : Nat} {xs : List Value} (hs : SlW z A v n size xs) : SlW z B v n size xs := by
  obtain ⟨⟨h1, a, cap, h2, h3⟩, h4⟩ := hs
  refine ⟨⟨h1, a, cap, h2, fun hn => ?_⟩, fun hn => ?_⟩
  · obtain ⟨b, off, h5, h6⟩ := h3 hn
    refine ⟨b, off, h5, fun j u hj => ?_⟩
    obtain ⟨b', off', cap', e, k1, k2, cs, t, fz, k3⟩ := h4 hn
    rw [h2, h5] at e
    cases e
    exact (World.cell?_of_block ((h.cells b cs t fz k1 k2 k3).trans k3.symm)).trans (h6 j u hj)
  · obtain ⟨b', off', cap', e, k1, k2, cs, t, fz, k3⟩ := h4 hn
    exact ⟨b', off', cap', e, k1, k2, cs, t, fz, h.cells b' cs t fz k1 k2 k3⟩
end Go.Proofs.YtcflpcpkmhljkaaGreatDoor
end

/- (Qry2) Plain laws of chapter 18: the first document from one on, of each thing that walks over documents. No program in sight. -/
section
namespace Go.Proofs.YtcflpcpkmhljkaaGreatDoor
set_option linter.unusedVariables false

theorem next_every (n doc : Nat) : NextIs (everyF n) doc (if doc < n then some (doc, 1) else none) := by
  by_cases h : doc < n
  · rw [if_pos h]; exact ⟨Nat.le_refl _, by unfold everyF; rw [if_pos h], fun j h1 h2 => by omega⟩
  · rw [if_neg h]; intro j hj; unfold everyF; rw [if_neg (by omega)]
theorem next_none (doc : Nat) : NextIs noneF doc none := fun _ _ => rfl
theorem next_free {F : DF} {doc : Nat} {r : Option (Nat × Nat)} (h : NextIs F doc r) : NextIs (freeF F) doc (r.map fun x => (x.1, 0)) := by
  cases r with
  | none => intro j hj; unfold freeF; rw [h j hj]; rfl
  | some x => exact ⟨h.1, by unfold freeF; rw [h.2.1]; rfl, fun j h1 h2 => by unfold freeF; rw [h.2.2 j h1 h2]; rfl⟩
/-- is a document there, as one finds by asking for the first from it on -/
theorem next_at {F : DF} {doc : Nat} {r : Option (Nat × Nat)} (h : NextIs F doc r) : F doc = match r with
    | some (d, s) => if d = doc then some s else none
    | none => none := by
  cases r with
  | none => exact h doc (Nat.le_refl _)
  | some x =>
    obtain ⟨d, s⟩ := x
    by_cases e : d = doc
    · subst e; simp only [if_pos]; exact h.2.1
    · simp only [if_neg e]
      exact h.2.2 doc (Nat.le_refl _) (by have := h.1; omega)
theorem next_skip {F : DF} {doc k : Nat} {r : Option (Nat × Nat)} (hk : doc ≤ k) (h0 : ∀ j, doc ≤ j → j < k → F j = none) (h : NextIs F k r) : NextIs F doc r := by
  cases r with
  | none =>
    intro j hj
    by_cases hjk : j < k
    · exact h0 j hj hjk
    · exact h j (by omega)
  | some x =>
    refine ⟨by have := h.1; omega, h.2.1, fun j h1 h2 => ?_⟩
    by_cases hjk : j < k
    · exact h0 j h1 hjk
    · exact h.2.2 j (by omega) h2
def someStep (st r : Option (Nat × Nat)) : Option (Nat × Nat) := match r, st with
  | none, st => st
  | some x, none => some x
  | some (d, s), some (a, t) => if a < d then some (a, t) else if d = a then some (a, t + s) else some (d, s)
theorem sumO_append (a b : List (Option Nat)) : sumO (a ++ b) = sumO a + sumO b := by
  induction a with
  | nil => simp [sumO]
  | cons o a ih => simp only [List.cons_append, sumO, ih]; omega
theorem sumO_none (l : List (Option Nat)) (h : ∀ o ∈ l, o = none) : sumO l = 0 := by
  induction l with
  | nil => rfl
  | cons o l ih => simp only [sumO, ih (fun x hx => h x (by simp [hx])), h o (by simp)]; rfl
theorem someF_snoc (Fs : List DF) (F : DF) (i : Nat) : someF (Fs ++ [F]) i = match someF Fs i, F i with
    | none, r => r
    | some t, none => some t
    | some t, some s => some (t + s) := by
  unfold someF
  rw [List.any_append, List.map_append, sumO_append]
  cases hF : F i with
  | none => cases hA : Fs.any (fun F => (F i).isSome) <;> simp [hF, sumO]
  | some s =>
    cases hA : Fs.any (fun F => (F i).isSome) with
    | true => simp [hF, sumO]
    | false =>
      have : sumO (Fs.map fun F => F i) = 0 := sumO_none _ (fun o ho => by
        obtain ⟨G, hG, rfl⟩ := List.mem_map.1 ho
        have := List.any_eq_false.1 hA G hG
        cases hg : G i with
        | none => rfl
        | some x => rw [hg] at this; exact absurd rfl this)
      simp [hF, sumO, this]
theorem next_some_nil (doc : Nat) : NextIs (someF []) doc none := fun _ _ => rfl
theorem next_snoc {Fs : List DF} {F : DF} {doc : Nat} {st r : Option (Nat × Nat)} (hs : NextIs (someF Fs) doc st) (hr : NextIs F doc r) : NextIs (someF (Fs ++ [F])) doc (someStep st r) := by
  cases r with
  | none =>
    cases st with
    | none => intro j hj; rw [someF_snoc, hs j hj, hr j hj]
    | some x =>
      obtain ⟨a, t⟩ := x
      exact ⟨hs.1, by rw [someF_snoc, hs.2.1, hr a hs.1], fun j h1 h2 => by rw [someF_snoc, hs.2.2 j h1 h2, hr j h1]⟩
  | some y =>
    obtain ⟨d, s⟩ := y
    cases st with
    | none => exact ⟨hr.1, by rw [someF_snoc, hs d hr.1, hr.2.1], fun j h1 h2 => by rw [someF_snoc, hs j h1, hr.2.2 j h1 h2]⟩
    | some x =>
      obtain ⟨a, t⟩ := x
      show NextIs _ doc (if a < d then some (a, t) else if d = a then some (a, t + s) else some (d, s))
      by_cases h1 : a < d
      · rw [if_pos h1]
        exact ⟨hs.1, by rw [someF_snoc, hs.2.1, hr.2.2 a hs.1 h1], fun j g1 g2 => by rw [someF_snoc, hs.2.2 j g1 g2, hr.2.2 j g1 (by omega)]⟩
      · rw [if_neg h1]
        by_cases h2 : d = a
        · subst h2
          rw [if_pos rfl]
          exact ⟨hs.1, by rw [someF_snoc, hs.2.1, hr.2.1], fun j g1 g2 => by rw [someF_snoc, hs.2.2 j g1 g2, hr.2.2 j g1 g2]⟩
        · rw [if_neg h2]
          exact ⟨hr.1, by rw [someF_snoc, hs.2.2 d hr.1 (by omega), hr.2.1], fun j g1 g2 => by rw [someF_snoc, hs.2.2 j g1 (by omega), hr.2.2 j g1 g2]⟩
/-- the first posting from a document on -/
theorem fromP_posts (t : Bytes) (l : List DocL) (i doc : Nat) :
    (fromP (postsF t l i) (doc : Int) = [] → ∀ k d, l[k]? = some d → doc ≤ i + k → placesIn d.2 t = []) ∧
    (∀ p ps, fromP (postsF t l i) (doc : Int) = p :: ps → ∃ k d, l[k]? = some d ∧ p = (((i + k : Nat) : Int), placesIn d.2 t) ∧ placesIn d.2 t ≠ [] ∧ doc ≤ i + k ∧ ∀ j e, l[j]? = some e → doc ≤ i + j → j < k → placesIn e.2 t = []) := by
  induction l generalizing i with
  | nil => exact ⟨fun _ k d h => (by simp at h), fun p ps h => (by simp [postsF, fromP] at h)⟩
  | cons d l ih =>
    obtain ⟨ih1, ih2⟩ := ih (i + 1)
    by_cases hp : placesIn d.2 t = []
    · have e : postsF t (d :: l) i = postsF t l (i + 1) := by rw [postsF, if_pos hp]
      rw [e]
      refine ⟨fun h k x hx hd => ?_, fun p ps h => ?_⟩
      · cases k with
        | zero => cases hx; exact hp
        | succ k => exact ih1 h k x (by simpa using hx) (by omega)
      · obtain ⟨k, x, h1, h2, h3, h4, h5⟩ := ih2 p ps h
        refine ⟨k + 1, x, by simpa using h1, by rw [h2]; congr 2; omega, h3, by omega, fun j e he hd hj => ?_⟩
        cases j with
        | zero => cases he; exact hp
        | succ j => exact h5 j e (by simpa using he) (by omega) (by omega)
    · have e : postsF t (d :: l) i = ((i : Int), placesIn d.2 t) :: postsF t l (i + 1) := by rw [postsF, if_neg hp]
      rw [e]
      unfold fromP at ih1 ih2 ⊢
      by_cases hd : doc ≤ i
      · rw [List.filter_cons_of_pos (by simpa using hd)]
        refine ⟨fun h => (by cases h), fun p ps h => ?_⟩
        injection h with h1 h2
        exact ⟨0, d, rfl, by rw [← h1]; rfl, hp, by omega, fun j e he h1 h2 => by omega⟩
      · rw [List.filter_cons_of_neg (by simpa using hd)]
        refine ⟨fun h k x hx hdk => ?_, fun p ps h => ?_⟩
        · cases k with
          | zero => omega
          | succ k => exact ih1 h k x (by simpa using hx) (by omega)
        · obtain ⟨k, x, h1, h2, h3, h4, h5⟩ := ih2 p ps h
          refine ⟨k + 1, x, by simpa using h1, by rw [h2]; congr 2; omega, h3, by omega, fun j e he hd' hj => ?_⟩
          cases j with
          | zero => omega
          | succ j => exact h5 j e (by simpa using he) (by omega) (by omega)
/-- what 'first' tells of a term's postings -/
def firstP (t : Bytes) (l : List DocL) (doc : Nat) : Option PostL := (fromP (postsF t l 0) (doc : Int)).head?
theorem firstP_none {t : Bytes} {l : List DocL} {doc : Nat} (h : firstP t l doc = none) : ∀ k d, l[k]? = some d → doc ≤ k → placesIn d.2 t = [] := by
  unfold firstP at h
  have := (fromP_posts t l 0 doc).1 (List.head?_eq_none_iff.1 h)
  intro k d hd hk
  exact this k d hd (by omega)
theorem firstP_some {t : Bytes} {l : List DocL} {doc : Nat} {p : PostL} (h : firstP t l doc = some p) : ∃ (k : Nat) (d : DocL), l[k]? = some d ∧ p = ((k : Int), placesIn d.2 t) ∧ placesIn d.2 t ≠ [] ∧ doc ≤ k ∧ ∀ j e, l[j]? = some e → doc ≤ j → j < k → placesIn e.2 t = [] := by
  unfold firstP at h
  obtain ⟨ps, hps⟩ : ∃ ps, fromP (postsF t l 0) (doc : Int) = p :: ps := by
    cases he : fromP (postsF t l 0) (doc : Int) with
    | nil => rw [he] at h; cases h
    | cons a b => rw [he] at h; simp at h; exact ⟨b, by rw [h]⟩
  obtain ⟨k, d, h1, h2, h3, h4, h5⟩ := (fromP_posts t l 0 doc).2 p ps hps
  exact ⟨k, d, h1, by rw [h2]; simp, h3, by omega, fun j e he hd hj => h5 j e he (by omega) hj⟩
theorem next_term (t : Bytes) (l : List DocL) (doc : Nat) : NextIs (termF l t) doc ((firstP t l doc).map fun p => (p.1.toNat, p.2.length)) := by
  cases h : firstP t l doc with
  | none =>
    intro j hj
    unfold termF
    cases hd : l[j]? with
    | none => rfl
    | some d => simp only [firstP_none h j d hd hj, if_pos]
  | some p =>
    obtain ⟨k, d, h1, rfl, h3, h4, h5⟩ := firstP_some h
    refine ⟨by simpa using h4, ?_, fun j g1 g2 => ?_⟩
    · simp only [Int.toNat_natCast]
      unfold termF; rw [h1]; simp only [if_neg h3]
    · simp only [Int.toNat_natCast] at g2
      unfold termF
      cases hd : l[j]? with
      | none => rfl
      | some e => simp only [h5 j e hd g1 g2, if_pos]
/-- a phrase stands in no document in which one of its terms does not -/
theorem phrase_none {l : List DocL} {p : TokL} {w : Nat} {t : Bytes × Nat} (ht : t ∈ p) {j : Nat} (h : ∀ e, l[j]? = some e → placesIn e.2 t.1 = []) : phraseF l p w j = none := by
  unfold phraseF
  cases hd : l[j]? with
  | none => rfl
  | some d => simp [countP_none p d.2 t ht (h d hd)]
theorem bothF_first {F : DF} {M S N : List DF} {j : Nat} (h : F j = none) : bothF (F :: M) S N j = none := by
  unfold bothF
  simp [h]
end Go.Proofs.YtcflpcpkmhljkaaGreatDoor
end

/- (WSk1) score: what walks over documents: everything, nothing, free; stands: walked. -/
section
namespace Go.Proofs.YtcflpcpkmhljkaaGreatDoor
open Go.RowKit
set_option linter.unusedVariables false

/-- what a call of seek tells -/
def SeekEnd (F : DF) (doc : Nat) (e : Ending) : Prop :=
  (∃ d s : Nat, e = .returned (.tuple #[.int .i64 (d : Nat), .int .i64 (s : Nat), .bool true]) ∧ NextIs F doc (some (d, s))) ∨ (∃ d s : Nat, e = .returned (.tuple #[.int .i64 (d : Nat), .int .i64 (s : Nat), .bool false]) ∧ NextIs F doc none)
theorem SeekEnd.yes {F : DF} {doc d s : Nat} {e : Ending} (he : e = .returned (.tuple #[.int .i64 (d : Nat), .int .i64 (s : Nat), .bool true])) (h : NextIs F doc (some (d, s))) : SeekEnd F doc e := .inl ⟨d, s, he, h⟩
theorem SeekEnd.no {F : DF} {doc d s : Nat} {e : Ending} (he : e = .returned (.tuple #[.int .i64 (d : Nat), .int .i64 (s : Nat), .bool false])) (h : NextIs F doc none) : SeekEnd F doc e := .inr ⟨d, s, he, h⟩

set_option maxHeartbeats 2000000 in
theorem Every_any (n doc : Nat) (w : World) (hn : n ≤ 1000000) (hd : doc ≤ 1000000) :
    Calls Tryz.prog 243 #[.agg #[.int .i64 (n : Nat)], .int .i64 (doc : Nat)] w fun e w' => SeekEnd (everyF n) doc e ∧ Q w w' := by
  have hx := next_every n doc
  have HX := Lib.hid hx
  clear hx
  by_cases h : doc < n
  · have hb : decide (doc < n) = true := decide_eq_true h
    have hb2 : decide ((doc : Int) < (n : Int)) = true := decide_eq_true (by omega)
    go_enter Tryz.func243, Tryz.ntmps243
    go_wp2_with fail
    go_quiet (fail)
    go_wp2_with fail
    go_ret3
    exact ⟨SeekEnd.yes (d := doc) (s := 1) rfl (by have := HX.out; rwa [if_pos h] at this), by first | exact (Q.alloc _ _) | exact (Q.alloc _ _).trans (Q.drewN _ _)⟩
  · have hb : decide (doc < n) = false := decide_eq_false h
    have hb2 : decide ((doc : Int) < (n : Int)) = false := decide_eq_false (by omega)
    go_enter Tryz.func243, Tryz.ntmps243
    go_wp2_with fail
    go_quiet (fail)
    go_wp2_with fail
    go_ret3
    exact ⟨SeekEnd.no (d := doc) (s := 1) rfl (by have := HX.out; rwa [if_neg h] at this), by first | exact (Q.alloc _ _) | exact (Q.alloc _ _).trans (Q.drewN _ _)⟩
set_option maxHeartbeats 2000000 in
theorem Nothing_any (doc : Nat) (w : World) :
    Calls Tryz.prog 244 #[.agg #[], .int .i64 (doc : Nat)] w fun e w' => SeekEnd noneF doc e ∧ Q w w' := by
  go_enter Tryz.func244, Tryz.ntmps244
  go_wp2_with fail
  go_ret3
  exact ⟨SeekEnd.no (d := 0) (s := 0) rfl (next_none doc), Q.alloc _ _⟩
/-- a walker: what its seek tells in whatever later world (431: the depth at which the model looks for methods in this program) -/
structure IsWk (z : Zone) (n B : Nat) (w : World) (v : Value) (F : DF) : Prop where
  fits : ∀ i s, F i = some s → i < n ∧ s ≤ B
  is : ∃ t x g, v = .iface t x ∧ (∀ W, (method 431 t x "codex/score.seek").run Tryz.prog W = .ok (g, x) W) ∧ (∀ args W, (callFunc g args).run Tryz.prog W = .ok (.enter g args) W) ∧
    ∀ (W : World) (doc : Nat), Ws z w W → doc ≤ 1000000 → Calls Tryz.prog g #[x, .int .i64 (doc : Nat)] W fun e W' => SeekEnd F doc e ∧ Q W W'
theorem IsWk.stays {z : Zone} {n B : Nat} {w w' : World} {v : Value} {F : DF} (h : IsWk z n B w v F) (q : Ws z w w') : IsWk z n B w' v F := by
  obtain ⟨t, x, g, h1, h2, h3, h4⟩ := h.is
  exact ⟨h.fits, t, x, g, h1, h2, h3, fun W doc hq hd => h4 W doc (q.trans hq) hd⟩
theorem IsWk.more {z : Zone} {n n' B B' : Nat} {w : World} {v : Value} {F : DF} (h : IsWk z n B w v F) (hn : n ≤ n') (hB : B ≤ B') : IsWk z n' B' w v F :=
  ⟨fun i s hs => ⟨Nat.lt_of_lt_of_le (h.fits i s hs).1 hn, Nat.le_trans (h.fits i s hs).2 hB⟩, h.is⟩
theorem IsWk.every (z : Zone) (n B : Nat) (w : World) (hn : n ≤ 1000000) (hB : 1 ≤ B) : IsWk z n B w (.iface 142 (.agg #[.int .i64 (n : Nat)])) (everyF n) :=
  ⟨fun i s h => by unfold everyF at h; split at h <;> simp at h; omega,
    _, _, 243, rfl, fun W => by kernel_rfl, enters_of Tryz.func243 (by kernel_rfl) rfl, fun W doc _ hd => Every_any n doc W hn hd⟩
theorem IsWk.nothing (z : Zone) (n B : Nat) (w : World) : IsWk z n B w (.iface 146 (.agg #[])) noneF :=
  ⟨fun i s h => (by unfold noneF at h; cases h),
    _, _, 244, rfl, fun W => by kernel_rfl, enters_of Tryz.func244 (by kernel_rfl) rfl, fun W doc _ hd => Nothing_any doc W⟩
set_option maxRecDepth 100000 in
set_option maxHeartbeats 2000000 in
theorem Stands_any {z : Zone} {n B : Nat} {w : World} {v : Value} {F : DF} (doc : Nat) (h : IsWk z n B w v F) (hd : doc ≤ 1000000) :
    Calls Tryz.prog 256 #[v, .int .i64 (doc : Nat)] w fun e w' => (∃ s : Nat, e = .returned (.tuple #[.int .i64 (s : Nat), .bool (F doc).isSome]) ∧ ∀ x, F doc = some x → s = x) ∧ Q w w' := by
  obtain ⟨t, x, g, rfl, hm, hc, hs⟩ := h.is
  have c := hs w doc (Ws.refl _ _) hd
  have C := Lib.hid c
  clear c hs h
  go_enter Tryz.func256, Tryz.ntmps256
  go_wp2_with fail
  refine C.out.mono ?_
  rintro e w1 ⟨(⟨d, s, rfl, hx⟩ | ⟨d, s, rfl, hx⟩), q1⟩
  · have hat := next_at hx
    by_cases he : d = doc
    · subst he
      simp only [if_pos] at hat
      have HAT := Lib.hid hat; have HQ := Lib.hid q1
      clear hat hx q1 C hm hc
      go_wp2_with fail
      go_ret2
      exact ⟨⟨s, by rw [HAT.out]; rfl, fun x hx => by rw [HAT.out] at hx; cases hx; rfl⟩, HQ.out⟩
    · have hb : ((d : Int) == (doc : Int)) = false := beq_eq_false_iff_ne.2 (by omega)
      simp only [if_neg he] at hat
      have HAT := Lib.hid hat; have HQ := Lib.hid q1
      clear hat hx q1 C hm hc he
      go_wp2_with fail
      go_ret2
      exact ⟨⟨s, by rw [HAT.out]; rfl, fun x hx => by rw [HAT.out] at hx; cases hx⟩, HQ.out⟩
  · have hat := next_at hx
    simp only at hat
    have HAT := Lib.hid hat; have HQ := Lib.hid q1
    clear hat hx q1 C hm hc
    go_wp2_with fail
    go_ret2
    exact ⟨⟨s, by rw [HAT.out]; rfl, fun x hx => by rw [HAT.out] at hx; cases hx⟩, HQ.out⟩
set_option maxRecDepth 100000 in
set_option maxHeartbeats 2000000 in
theorem Free_any {z : Zone} {n B : Nat} {w : World} {v : Value} {F : DF} (doc : Nat) (W : World) (h : IsWk z n B w v F) (hq : Ws z w W) (hd : doc ≤ 1000000) :
    Calls Tryz.prog 257 #[.agg #[v], .int .i64 (doc : Nat)] W fun e w' => SeekEnd (freeF F) doc e ∧ Q W w' := by
  obtain ⟨t, x, g, rfl, hm, hc, hs⟩ := h.is
  have c := fun W' (q : Q W W') => hs W' doc (hq.trans (Ws.of_q q)) hd
  have C := Lib.hid c
  clear c hs h hq
  go_enter Tryz.func257, Tryz.ntmps257
  go_wp2_with fail
  refine (C.out _ (Q.alloc _ _)).mono ?_
  rintro e w1 ⟨(⟨d, s, rfl, hx⟩ | ⟨d, s, rfl, hx⟩), q1⟩
  · have HX := Lib.hid (next_free hx); have HQ := Lib.hid ((Q.alloc _ _).trans q1)
    clear hx q1 C hm hc
    go_wp2_with fail
    go_ret3
    exact ⟨SeekEnd.yes (d := d) (s := 0) rfl HX.out, HQ.out⟩
  · have HX := Lib.hid (next_free hx); have HQ := Lib.hid ((Q.alloc _ _).trans q1)
    clear hx q1 C hm hc
    go_wp2_with fail
    go_ret3
    exact ⟨SeekEnd.no (d := d) (s := 0) rfl HX.out, HQ.out⟩
theorem IsWk.free {z : Zone} {n B : Nat} {w : World} {v : Value} {F : DF} (h : IsWk z n B w v F) : IsWk z n B w (.iface 205 (.agg #[v])) (freeF F) :=
  ⟨fun i s hs => by
      unfold freeF at hs
      cases hf : F i with
      | none => rw [hf] at hs; cases hs
      | some x => rw [hf] at hs; cases hs; exact ⟨(h.fits i x hf).1, Nat.zero_le _⟩,
    _, _, 257, rfl, fun W => by kernel_rfl, enters_of Tryz.func257 (by kernel_rfl) rfl, fun W doc hq hd => Free_any doc W h hq hd⟩
end Go.Proofs.YtcflpcpkmhljkaaGreatDoor
end
