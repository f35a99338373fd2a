/- Joined texts of one proof: Range, WKind. -/
import Derived.Test.YtcflpcpkmhljkaaGreatDoorMKitToSegSpec
import Derived.RangeFuncNested
import Derived.RangeFuncLeaves
import Derived.RangeFuncBound
import Derived.RangeFuncCalls
import Derived.OwnWalkIn
import Derived.TacticsInMore
import Derived.LoopNIn
import Derived.LoopIn
import Derived.Lib.OthersKept
import Derived.Test.YtcflpcpkmhljkaaGreatDoorProg
import Derived.Test.YtcflpcpkmhljkaaGreatDoorMTokToWDictR
import Derived.WalkKit
import Derived.WalkSpells
import Derived.WalkLawsBesides
import Derived.Outline
import Derived.Deep.QuietTactic
import Derived.BigQuiet
import Derived.Shelf.Abstract
set_option linter.unusedSimpArgs false
set_option linter.unusedVariables false
set_option linter.unnecessarySimpa false
/- (Range) A range over a function whose iterator tells a known list: the iterator's contract 'Seq', and the law of the statement, outermost ('wp_range') and within a round ('wp_range_in'). Over any program. -/
section
namespace Go.Proofs.YtcflpcpkmhljkaaGreatDoor
open Go.RowKit
set_option linter.unusedVariables false

/-- what an iterator may do beside its rounds: turn its own blocks ('own'), and, from lo on, what is no cells; lay new blocks -/
structure Itk (own : Nat → Prop) (lo : Nat) (A B : World) : Prop where
  os : B.os = A.os
  tape : B.tape = A.tape
  output : B.output = A.output
  size : A.heap.size ≤ B.heap.size
  low : ∀ k, k < lo → k < A.heap.size → ¬ own k → B.heap[k]? = A.heap[k]?
  cells : ∀ (k : Nat) (o : Obj), A.heap[k]? = some o → o.isCells = true → ¬ own k → B.heap[k]? = some o
theorem Itk.refl (own : Nat → Prop) (lo : Nat) (A : World) : Itk own lo A A := ⟨rfl, rfl, rfl, Nat.le_refl _, fun _ _ _ _ => rfl, fun _ _ h _ _ => h⟩
theorem Itk.trans {own : Nat → Prop} {lo : Nat} {A B C : World} (h : Itk own lo A B) (k : Itk own lo B C) : Itk own lo A C :=
  ⟨k.os.trans h.os, k.tape.trans h.tape, k.output.trans h.output, Nat.le_trans h.size k.size, fun i h1 h2 h3 => (k.low i h1 (Nat.lt_of_lt_of_le h2 h.size) h3).trans (h.low i h1 h2 h3),
    fun i o h1 h2 h3 => k.cells i o (h.cells i o h1 h2 h3) h2 h3⟩
theorem Itk.mono {own own' : Nat → Prop} {lo lo' : Nat} {A B : World} (h : Itk own lo A B) (ho : ∀ k, own k → own' k) (hl : lo' ≤ lo) : Itk own' lo' A B :=
  ⟨h.os, h.tape, h.output, h.size, fun k h1 h2 h3 => h.low k (by omega) h2 (fun e => h3 (ho k e)), fun k o h1 h2 h3 => h.cells k o h1 h2 (fun e => h3 (ho k e))⟩
theorem lt_of_get {A : World} {k : Nat} {o : Obj} (h : A.heap[k]? = some o) : k < A.heap.size := (Array.getElem?_eq_some_iff.1 h).1
theorem Itk.of_q {own : Nat → Prop} {lo : Nat} {A B : World} (h : Q A B) : Itk own lo A B :=
  ⟨h.os, h.tape, h.output, h.size, fun k _ h2 _ => h.block k h2, fun k o h1 _ _ => (h.block k (lt_of_get h1)).trans h1⟩
theorem Itk.put {own : Nat → Prop} {lo : Nat} {A : World} {l : Nat} {o : Obj} (o' : Obj) (h : A.heap[l]? = some o) (hc : o.isCells = false) (hl : lo ≤ l) : Itk own lo A (A.putObj l o') :=
  ⟨rfl, rfl, rfl, by simp, fun k h1 _ _ => World.putObj_heap_other (by omega), fun k o2 h1 h2 _ => (World.putObj_heap_other (fun e => by subst e; rw [h] at h1; cases h1; rw [hc] at h2; cases h2)).trans h1⟩
theorem Itk.iterAt {own : Nat → Prop} {lo : Nat} {A : World} {l : Nat} {s : ByteArray} {p : Nat} (p' : Nat) (h : A.heap[l]? = some (.stringIter s p)) (hl : lo ≤ l) : Itk own lo A (A.iterAt l s p') :=
  Itk.put (.stringIter s p') h rfl hl
theorem Itk.setOwn {own : Nat → Prop} {lo : Nat} (A : World) {b : Nat} (h : own b) (p : Addr) (hp : p.block = b) (v : Value) : Itk own lo A (A.setCell p v) :=
  ⟨rfl, rfl, rfl, (KeepsWalks.setCell A p v).size, fun k _ _ h3 => Below.heap_setCell _ _ _ _ (fun e => h3 (by rw [e, hp]; exact h)), fun k o h1 _ h3 => (Below.heap_setCell _ _ _ _ (fun e => h3 (by rw [e, hp]; exact h))).trans h1⟩
/-- a block of cells that is not the iterator's own stays -/
theorem Itk.get {own : Nat → Prop} {lo : Nat} {A B : World} (h : Itk own lo A B) {k : Nat} {cs : Array Value} {e : TypeId} {fz : Nat × Nat} (hk : A.heap[k]? = some (.cells cs e fz)) (ho : ¬ own k) : B.heap[k]? = some (.cells cs e fz) := h.cells k _ hk rfl ho
theorem Itk.cell {own : Nat → Prop} {lo : Nat} {A B : World} (h : Itk own lo A B) {a : Addr} {v : Value} (hc : A.cell? a = some v) (ho : ¬ own a.block) : B.cell? a = some v := by
  obtain ⟨o, h1, h2⟩ := cells_of_cell hc
  exact (World.cell?_of_block ((h.cells _ o h1 h2 ho).trans h1.symm)).trans hc
theorem Itk.boxed {own : Nat → Prop} {lo : Nat} {A B : World} (h : Itk own lo A B) {b : Nat} {t : TypeId} {v : Value} (hb : Boxed A b t v) (ho : ¬ own b) : Boxed B b t v := h.get hb ho
theorem Itk.below {own : Nat → Prop} {lo n : Nat} {w A B : World} (h : Itk own lo A B) (hw : Below n w A) (hn : n ≤ lo) (hs : n ≤ A.heap.size) (ho : ∀ k, own k → n ≤ k) : Below n w B :=
  hw.trans ⟨h.os, h.tape, h.output, h.size, fun k hk => h.low k (by omega) (by omega) (fun e => by have := ho k e; omega)⟩
theorem Itk.owns {own : Nat → Prop} {lo : Nat} {A B : World} (h : Itk own lo A B) {base : Nat} {e : TypeId} {size : Nat} {v : Value} {n : Nat} {xs : List Value} (hr : A.ownsRow base e size v n xs) (ho : ∀ g, v.ownBlock = some g → ¬ own g) : B.ownsRow base e size v n xs := by
  obtain ⟨h1, h2⟩ := hr
  refine ⟨h1, ?_⟩
  rcases h2 with h2 | ⟨g, cap, cur, rfl, hb, hg, rest⟩
  · exact .inl h2
  · exact .inr ⟨g, cap, cur, rfl, hb, h.get hg (ho g rfl), rest⟩

/-- the word that a round gives to the iterator: what lay below n₀, the iterator's own blocks and all walks' objects lie as they lay -/
structure Bk (own : Nat → Prop) (n₀ : Nat) (A B : World) : Prop where
  below : Below n₀ A B
  own : ∀ k, own k → k < A.heap.size → B.heap[k]? = A.heap[k]?
  walks : ∀ (k : Nat) (o : Obj), A.heap[k]? = some o → o.isWalk = true → B.heap[k]? = some o
theorem Bk.refl (own : Nat → Prop) (n₀ : Nat) (A : World) : Bk own n₀ A A := ⟨Below.refl _ _, fun _ _ _ => rfl, fun _ _ h _ => h⟩
theorem Bk.trans {own : Nat → Prop} {n₀ : Nat} {A B C : World} (h : Bk own n₀ A B) (k : Bk own n₀ B C) : Bk own n₀ A C :=
  ⟨h.below.trans k.below, fun i h1 h2 => (k.own i h1 (Nat.lt_of_lt_of_le h2 h.below.size)).trans (h.own i h1 h2), fun i o h1 h2 => k.walks i o (h.walks i o h1 h2) h2⟩
theorem Bk.of_q {own : Nat → Prop} {n₀ : Nat} {A B : World} (h : Q A B) (hn : n₀ ≤ A.heap.size) : Bk own n₀ A B :=
  ⟨Below.mono h hn, fun k _ h2 => h.block k h2, fun k o h1 _ => (h.block k (lt_of_get h1)).trans h1⟩
theorem Bk.mono {own own' : Nat → Prop} {n₀ n₁ : Nat} {A B : World} (h : Bk own n₀ A B) (ho : ∀ k, own' k → own k) (hn : n₁ ≤ n₀) : Bk own' n₁ A B :=
  ⟨h.below.mono hn, fun k h1 h2 => h.own k (ho k h1) h2, h.walks⟩
theorem Bk.put {own : Nat → Prop} {n₀ : Nat} {A : World} {l : Nat} {o : Obj} (o' : Obj) (h : A.heap[l]? = some o) (hc : o.isWalk = false) (hl : n₀ ≤ l) (ho : ¬ own l) : Bk own n₀ A (A.putObj l o') :=
  ⟨⟨rfl, rfl, rfl, by simp, fun k hk => World.putObj_heap_other (by omega)⟩, fun k h1 _ => World.putObj_heap_other (fun e => ho (by rw [← e]; exact h1)),
    fun k o2 h1 h2 => (World.putObj_heap_other (fun e => by subst e; rw [h] at h1; cases h1; rw [hc] at h2; cases h2)).trans h1⟩
/-- a store into a block of cells that is not the iterator's -/
theorem Bk.setCell {own : Nat → Prop} {n₀ : Nat} (A : World) {p : Addr} (hl : n₀ ≤ p.block) (ho : ¬ own p.block) (v : Value) : Bk own n₀ A (A.setCell p v) :=
  ⟨(Below.refl _ _).setCell hl v, fun k h1 _ => Below.heap_setCell _ _ _ _ (fun e => ho (by rw [← e]; exact h1)), (KeepsWalks.setCell A p v).same⟩
/-- a step that turns one block of cells that is not the iterator's -/
theorem Bk.grown {own : Nat → Prop} {n₀ : Nat} {A B : World} {row : Option Nat} (hg : A.grownBy B row) (hn : n₀ ≤ A.heap.size) (hr : ∀ k, row = some k → n₀ ≤ k ∧ ¬ own k ∧ ∃ cs e fz, A.heap[k]? = some (.cells cs e fz)) : Bk own n₀ A B :=
  ⟨(Below.refl _ _).grown hg hn (fun k hk => (hr k hk).1), fun k h1 h2 => hg.block k h2 (fun e => (hr k e.symm).2.1 h1),
    fun k o h1 h2 => (hg.block k (lt_of_get h1) (fun e => by obtain ⟨_, _, cs, e2, fz, h3⟩ := hr k e.symm; rw [h3] at h1; cases h1; cases h2)).trans h1⟩

/-- a call of yield -/
def YieldW (P : Program) (l : Nat) (args : Array Value) (W : World) (R : Ending → World → Prop) : Prop :=
  ∃ fn tmps assign body, (Instr.yield l args).run P W = .ok (.round l fn tmps assign body) W ∧ ∀ m, RoundIn Fence.wide m P l fn tmps assign body W R
theorem YieldW.mono {P : Program} {l : Nat} {args : Array Value} {W : World} {R R' : Ending → World → Prop} (h : YieldW P l args W R) (hr : ∀ e w, R e w → R' e w) : YieldW P l args W R' := by
  obtain ⟨fn, tmps, assign, body, hy, hR⟩ := h
  exact ⟨fn, tmps, assign, body, hy, fun m => (hR m).mono hr⟩
theorem round_in {n : Nat} {P : Program} {l : Nat} {fn : FuncId} {tmps : Array Value} {assign body : Code} {W : World} {R : Ending → World → Prop} (l₀ : Nat) (h : RoundIn Fence.wide n P l fn tmps assign body W R) : RoundIn (Fence.wide.inRound l₀) n P l fn tmps assign body W R := h
theorem round_any {n m : Nat} {P : Program} {l : Nat} {fn : FuncId} {tmps : Array Value} {assign body : Code} {W : World} {R : Ending → World → Prop} (h : RoundIn Fence.wide n P l fn tmps assign body W R) : RoundIn Fence.wide m P l fn tmps assign body W R :=
  ⟨h.1, fun c cs _ => h.2 c cs (room_wide _)⟩
theorem calls_round {n : Nat} {P : Program} {f : FuncId} {args : Array Value} {W : World} {R : Ending → World → Prop} (l : Nat) (h : Calls P f args W R) : CallsIn (Fence.wide.inRound l) n P f args W R :=
  CallsIn.inRound l (callsIn_wide.2 h)

/-- the contract of an iterator that tells the list xs: own: the blocks that it turns itself; keep: those that the rounds are to keep, beside what lies below n₀ -/
def Seq {α : Type} (P : Program) (g : Nat) (lb : Array Value) (encs : α → Array Value) (own keep : Nat → Prop) (n₀ : Nat) (xs : List α) (W : World) : Prop :=
  ∀ (n l : Nat) (J Jx : Nat → World → Prop),
    (∀ s A B, J s A → Itk own W.heap.size A B → J s B) → (∀ s A B, Jx s A → Itk own W.heap.size A B → Jx s B) →
    (∀ k (hk : k < xs.length) W1, J k W1 → (∀ b, keep b → b < W1.heap.size) → YieldW P l (encs xs[k]) W1 fun e W' =>
      (e = .returned (.bool true) ∧ J (k + 1) W' ∧ Bk keep n₀ W1 W') ∨ (e = .returned (.bool false) ∧ Jx (k + 1) W' ∧ Bk keep n₀ W1 W')) →
    J 0 W →
    CallsIn Fence.wide n P g (#[.func (.yield l) #[] #[]] ++ lb) W fun e W' => (∃ v, e = .returned v) ∧ (J xs.length W' ∨ ∃ k, k ≤ xs.length ∧ Jx k W')

/-- how the body of a round may be left -/
def roundQ (Bw : World → World → Prop) (I : Nat → World → Prop) (Ix : Code → Nat → World → Prop) (k : Nat) (W : World) : Exit → Act → World → Prop
  | .normal, _, W' => Bw W W' ∧ I (k + 1) W'
  | .ret, _, W' => Bw W W' ∧ Ix .ret (k + 1) W'
  | .exit id, _, W' => Bw W W' ∧ Ix (.exit id) (k + 1) W'
  | .goto t, _, W' => Bw W W' ∧ Ix (.goto t) (k + 1) W'
  | .panic _, _, _ => False
  | .outgrown, _, _ => False

theorem wp_range {α : Type} {P : Program} {n : Nat} {g : Operand} {ps : Array Tmp} {assign body : Code} {Qx : Exit → Act → World → Prop} {a : Act} {w : World}
    {gf : Nat} {lb : Array Value} (hg : a.eval g = .func (.func gf) #[] lb) (eg : ∀ args w, (callFunc gf args).run P w = .ok (.enter gf args) w)
    {encs : α → Array Value} {own keep : Nat → Prop} {n₀ : Nat} {xs : List α}
    (hseq : ∀ W1, Q w W1 → W1.heap.size = w.heap.size + 2 → Seq P gf lb encs own keep n₀ xs W1)
    (hown : ∀ k, own k → k ≠ w.heap.size ∧ k ≠ w.heap.size + 1) (hkeep : ∀ k, keep k → k ≠ w.heap.size ∧ k ≠ w.heap.size + 1) (hn₀ : n₀ ≤ w.heap.size) (hps : ∀ x, (encs x).size = ps.size)
    (I : Nat → World → Prop) (Ix : Code → Nat → World → Prop) (Ax : Nat → Act → World → Prop)
    (hI : ∀ s A B, I s A → Itk own w.heap.size A B → I s B) (hIx : ∀ c s A B, Ix c s A → Itk own w.heap.size A B → Ix c s B) (hAx : ∀ k a' A B, Ax k a' A → Itk own w.heap.size A B → Ax k a' B)
    (h0 : I 0 w)
    (hassign : ∀ (l k : Nat) (hk : k < xs.length) (W : World) (K : Act → World → Prop), I k W → w.heap.size + 2 ≤ W.heap.size → (∀ a' W', Q W W' → I k W' → Ax k a' W' → K a' W') →
      assign.wpIn (Fence.wide.inRound l) (n - 1 - 1) P (Exit.then K (fun _ _ _ => False)) { tmps := (ps.zip (encs xs[k])).foldl (fun t (p, v) => t.setIfInBounds p v) a.tmps, defers := [] } W)
    (hbody : ∀ (l k : Nat) (hk : k < xs.length) (a' : Act) (W : World), ((∃ r, W.heap[l]? = some (.loop r)) ∧ W.heap[w.heap.size]? = some (.deferred (some []))) → l = w.heap.size + 1 → I k W → Ax k a' W → (∀ b, keep b → b < W.heap.size) → w.heap.size + 2 ≤ W.heap.size →
      body.wpIn (Fence.wide.inRound l) (n - 1 - 1) P (roundQ (Bk (fun b => keep b ∨ b = w.heap.size ∨ b = w.heap.size + 1) n₀) I Ix k W) a' W)
    (hdone : ∀ (D : Nat) (W : World), D = w.heap.size → w.heap.size + 2 ≤ W.heap.size → I xs.length W → W.heap[D]? = some (.deferred (some [])) → Qx .normal { a with defers := { target := .collected D, args := #[] } :: a.defers } W)
    (hstop : ∀ (D : Nat) (c : Code) (k : Nat) (W : World), D = w.heap.size → k ≤ xs.length → Ix c k W → W.heap[D]? = some (.deferred (some [])) → c.wpIn Fence.wide n P Qx { a with defers := { target := .collected D, args := #[] } :: a.defers } W) :
    (Code.rangeFunc g ps assign body).wpIn Fence.wide n P Qx a w := by
  refine wpIn_rangeFunc ?_
  intro fn hfn
  obtain ⟨rec, hrec⟩ : ∃ rec : LoopState → Option Code → Loop, rec = fun st pe => { state := st, pending := pe, fn, tmps := a.tmps, params := ps, assign, body, defers := w.heap.size } := ⟨_, rfl⟩
  obtain ⟨W1, hW1⟩ : ∃ W1, (w.alloc (.deferred (some []))).alloc (.loop (rec .ready none)) = W1 := ⟨_, rfl⟩
  have hq1 : Q w W1 := by rw [← hW1]; exact (Q.alloc w _).trans (Q.alloc _ _)
  have hs1 : W1.heap.size = w.heap.size + 2 := by rw [← hW1]; simp
  have hL1 : W1.heap[w.heap.size + 1]? = some (.loop (rec .ready none)) := by
    rw [← hW1]; have := World.alloc_heap_new (w.alloc (.deferred (some []))) (.loop (rec .ready none)); rwa [World.size_alloc] at this
  have hK1 : W1.heap[w.heap.size]? = some (.deferred (some [])) := by
    rw [← hW1]; exact (Below.heap_alloc _ _ _ (by simp)).trans (World.alloc_heap_new w _)
  have hI1 : I 0 W1 := hI _ _ _ h0 (Itk.of_q hq1)
  have ho1 : ¬ own (w.heap.size + 1) := fun h => (hown _ h).2 rfl
  have hk1' : ¬ keep (w.heap.size + 1) := fun h => (hkeep _ h).2 rfl
  have ho0 : ¬ own w.heap.size := fun h => (hown _ h).1 rfl
  refine ⟨w.heap.size + 1, [{ target := .collected w.heap.size, args := #[] }], W1, { target := .fn (.func gf) lb, args := #[.func (.yield (w.heap.size + 1)) #[] #[]] }, W1, gf,
    #[.func (.yield (w.heap.size + 1)) #[] #[]] ++ lb, W1, ?_, ?_, fun _ _ => trivial, ?_, fun h => (by cases h), ?_⟩
  · rw [← hW1, hrec]; exact run_enterLoop_outer _ _ _ _ _
  · simp only [resolve, hg]
    simp [go_sem]
  · simp [invoke, go_sem, eg]
  · refine (hseq W1 hq1 hs1 (n - 1) (w.heap.size + 1)
      (fun k W => I k W ∧ W.heap[w.heap.size + 1]? = some (.loop (rec .ready none)) ∧ W.heap[w.heap.size]? = some (.deferred (some [])))
      (fun k W => ∃ c, Ix c k W ∧ W.heap[w.heap.size + 1]? = some (.loop (rec .done (some c))) ∧ W.heap[w.heap.size]? = some (.deferred (some [])))
      (fun s A B hs hi => ⟨hI s A B hs.1 (hi.mono (fun _ h => h) (by omega)), (hi.low _ (by omega) (lt_of_get hs.2.1) ho1).trans hs.2.1, (hi.low _ (by omega) (lt_of_get hs.2.2) ho0).trans hs.2.2⟩)
      (fun s A B hs hi => by
        obtain ⟨c, hc, hl, hk⟩ := hs
        exact ⟨c, hIx c s A B hc (hi.mono (fun _ h => h) (by omega)), (hi.low _ (by omega) (lt_of_get hl) ho1).trans hl, (hi.low _ (by omega) (lt_of_get hk) ho0).trans hk⟩)
      ?_ ⟨hI1, hL1, hK1⟩).mono ?_
    · -- one round
      rintro k hk W ⟨hi, hl, hkk⟩ hob
      have hy := run_yield (P := P) (args := encs xs[k]) hl (by rw [hrec]; exact hps _)
      rw [hrec] at hy
      refine ⟨fn, _, assign, body, hy, fun m => round_any (n := n - 1 - 1) (roundIn_of_wpIn trivial (hassign _ k hk W _ hi (lt_of_get hl) ?_))⟩
      clear hy
      intro a' Wa hqa hia hax
      have hla := (hqa.block _ (lt_of_get hl)).trans hl
      have hka := (hqa.block _ (lt_of_get hkk)).trans hkk
      refine ⟨_, run_beginRound hla (by rw [hrec]), ?_⟩
      have hl2 : (Wa.putObj (w.heap.size + 1) (.loop { rec .ready none with state := .busy })).heap[w.heap.size + 1]? = some (.loop { rec .ready none with state := .busy }) := World.putObj_heap_same (lt_of_get hla)
      have hk2 : (Wa.putObj (w.heap.size + 1) (.loop { rec .ready none with state := .busy })).heap[w.heap.size]? = some (.deferred (some [])) := (World.putObj_heap_other (by omega)).trans hka
      have hi2 : Itk own w.heap.size Wa (Wa.putObj (w.heap.size + 1) (.loop { rec .ready none with state := .busy })) := Itk.put _ hla rfl (by omega)
      have hb2 : Bk keep n₀ W (Wa.putObj (w.heap.size + 1) (.loop { rec .ready none with state := .busy })) := (Bk.of_q hqa (by have := lt_of_get hl; omega)).trans (Bk.put _ hla rfl (by omega) hk1')
      refine wpIn_mono (hbody _ k hk a' _ ⟨⟨_, hl2⟩, hk2⟩ rfl (hI _ _ _ hia hi2) (hAx _ _ _ _ hax hi2) (fun b hb => by have := hob b hb; have := hqa.size; simp; omega) (by have := lt_of_get hla; simp; omega)) ?_
      have fin : ∀ (jump : Option Code) (W3 : World), Bk (fun b => keep b ∨ b = w.heap.size ∨ b = w.heap.size + 1) n₀ (Wa.putObj (w.heap.size + 1) (.loop { rec .ready none with state := .busy })) W3 →
          (Instr.endRound (w.heap.size + 1) jump).run P W3 = .ok (.bool jump.isNone) (W3.putObj (w.heap.size + 1) (.loop (rec (if jump.isNone then .ready else .done) jump))) ∧
          W3.heap[w.heap.size + 1]? = some (.loop { rec .ready none with state := .busy }) ∧
          (W3.putObj (w.heap.size + 1) (.loop (rec (if jump.isNone then .ready else .done) jump))).heap[w.heap.size + 1]? = some (.loop (rec (if jump.isNone then .ready else .done) jump)) ∧
          (W3.putObj (w.heap.size + 1) (.loop (rec (if jump.isNone then .ready else .done) jump))).heap[w.heap.size]? = some (.deferred (some [])) ∧
          Itk own w.heap.size W3 (W3.putObj (w.heap.size + 1) (.loop (rec (if jump.isNone then .ready else .done) jump))) ∧
          Bk keep n₀ W (W3.putObj (w.heap.size + 1) (.loop (rec (if jump.isNone then .ready else .done) jump))) := fun jump W3 hk3 => by
        have hl3 := (hk3.own _ (.inr (.inr rfl)) (lt_of_get hl2)).trans hl2
        have hd3 := (hk3.own _ (.inr (.inl rfl)) (lt_of_get hk2)).trans hk2
        have := run_endRound (P := P) jump hl3
        rw [hrec] at this ⊢
        rw [hrec] at hl3
        exact ⟨this, hl3, World.putObj_heap_same (lt_of_get hl3), (World.putObj_heap_other (by omega)).trans hd3, Itk.put _ hl3 rfl (by omega),
          (hb2.trans (hk3.mono (fun _ h => .inl h) (Nat.le_refl _))).trans (Bk.put _ hl3 rfl (by omega) hk1')⟩
      rintro e a3 W3 hp
      cases e with
      | normal =>
        obtain ⟨hk3, hi3⟩ := hp
        obtain ⟨hr, hl3, hl4, hk4, hi4, hb4⟩ := fin none W3 hk3
        exact ⟨_, _, hr, .inl ⟨rfl, ⟨hI _ _ _ hi3 hi4, hl4, hk4⟩, hb4⟩⟩
      | ret =>
        obtain ⟨hk3, hi3⟩ := hp
        obtain ⟨hr, hl3, hl4, hk4, hi4, hb4⟩ := fin (some .ret) W3 hk3
        exact ⟨_, _, hr, .inr ⟨rfl, ⟨.ret, hIx _ _ _ _ hi3 hi4, hl4, hk4⟩, hb4⟩⟩
      | exit id =>
        obtain ⟨hk3, hi3⟩ := hp
        obtain ⟨hr, hl3, hl4, hk4, hi4, hb4⟩ := fin (some (.exit id)) W3 hk3
        exact ⟨_, _, hr, .inr ⟨rfl, ⟨.exit id, hIx _ _ _ _ hi3 hi4, hl4, hk4⟩, hb4⟩⟩
      | goto t =>
        obtain ⟨hk3, hi3⟩ := hp
        obtain ⟨hr, hl3, hl4, hk4, hi4, hb4⟩ := fin (some (.goto t)) W3 hk3
        exact ⟨_, _, hr, .inr ⟨rfl, ⟨.goto t, hIx _ _ _ _ hi3 hi4, hl4, hk4⟩, hb4⟩⟩
      | panic ch => exact hp.elim
      | outgrown => exact hp.elim
    · -- behind the iterator
      rintro e W2 ⟨⟨v, rfl⟩, (⟨hi, hl, hk⟩ | ⟨k, hkl, c, hi, hl, hk⟩)⟩
      · exact ⟨none, _, by have := run_endLoop (P := P) hl (by rw [hrec]; simp); rw [hrec] at this; exact this, hdone _ _ rfl (by have := lt_of_get hl; simp; omega) (hI _ _ _ hi (Itk.put _ hl rfl (by omega))) ((World.putObj_heap_other (by omega)).trans hk)⟩
      · exact ⟨some c, _, by have := run_endLoop (P := P) hl (by rw [hrec]; simp); rw [hrec] at this; exact this, hstop _ c k _ rfl hkl (hIx c _ _ _ hi (Itk.put _ hl rfl (by omega))) ((World.putObj_heap_other (by omega)).trans hk)⟩

theorem wp_range_in {α : Type} {P : Program} {n : Nat} {g : Operand} {ps : Array Tmp} {assign body : Code} {Qx : Exit → Act → World → Prop} {a : Act} {w : World} {l₀ : Nat} {r₀ : Loop} (h₀ : w.heap[l₀]? = some (.loop r₀))
    {gf : Nat} {lb : Array Value} (hg : a.eval g = .func (.func gf) #[] lb) (eg : ∀ args w, (callFunc gf args).run P w = .ok (.enter gf args) w)
    {encs : α → Array Value} {own keep : Nat → Prop} {n₀ : Nat} {xs : List α}
    (hseq : ∀ W1, Q w W1 → W1.heap.size = w.heap.size + 1 → Seq P gf lb encs own keep n₀ xs W1)
    (hown : ∀ k, own k → k ≠ w.heap.size) (hkeep : ∀ k, keep k → k ≠ w.heap.size) (hn₀ : n₀ ≤ w.heap.size) (hps : ∀ x, (encs x).size = ps.size)
    (I : Nat → World → Prop) (Ix : Code → Nat → World → Prop) (Ax : Nat → Act → World → Prop)
    (hI : ∀ s A B, I s A → Itk own w.heap.size A B → I s B) (hIx : ∀ c s A B, Ix c s A → Itk own w.heap.size A B → Ix c s B) (hAx : ∀ k a' A B, Ax k a' A → Itk own w.heap.size A B → Ax k a' B)
    (h0 : I 0 w)
    (hassign : ∀ (l k : Nat) (hk : k < xs.length) (W : World) (K : Act → World → Prop), I k W → w.heap.size + 1 ≤ W.heap.size → (∀ a' W', Q W W' → I k W' → Ax k a' W' → K a' W') →
      assign.wpIn (Fence.wide.inRound l) (n - 1 - 1) P (Exit.then K (fun _ _ _ => False)) { tmps := (ps.zip (encs xs[k])).foldl (fun t (p, v) => t.setIfInBounds p v) a.tmps, defers := [] } W)
    (hbody : ∀ (l k : Nat) (hk : k < xs.length) (a' : Act) (W : World), (∃ r, W.heap[l]? = some (.loop r)) → l = w.heap.size → I k W → Ax k a' W → (∀ b, keep b → b < W.heap.size) → w.heap.size + 1 ≤ W.heap.size →
      body.wpIn (Fence.wide.inRound l) (n - 1 - 1) P (roundQ (Bk (fun b => keep b ∨ b = w.heap.size) n₀) I Ix k W) a' W)
    (hdone : ∀ (W : World), I xs.length W → Qx .normal a W)
    (hstop : ∀ (c : Code) (k : Nat) (W : World), k ≤ xs.length → Ix c k W → c.wpIn (Fence.wide.inRound l₀) n P Qx a W) :
    (Code.rangeFunc g ps assign body).wpIn (Fence.wide.inRound l₀) n P Qx a w := by
  refine wpIn_rangeFunc ?_
  intro fn hfn
  obtain ⟨rec, hrec⟩ : ∃ rec : LoopState → Option Code → Loop, rec = fun st pe => { state := st, pending := pe, fn, tmps := a.tmps, params := ps, assign, body, defers := r₀.defers } := ⟨_, rfl⟩
  obtain ⟨W1, hW1⟩ : ∃ W1, w.alloc (.loop (rec .ready none)) = W1 := ⟨_, rfl⟩
  have hq1 : Q w W1 := by rw [← hW1]; exact Q.alloc w _
  have hs1 : W1.heap.size = w.heap.size + 1 := by rw [← hW1]; simp
  have hL1 : W1.heap[w.heap.size]? = some (.loop (rec .ready none)) := by
    rw [← hW1]; exact World.alloc_heap_new _ _
  have hI1 : I 0 W1 := hI _ _ _ h0 (Itk.of_q hq1)
  have ho0 : ¬ own w.heap.size := fun h => (hown _ h) rfl
  have hk1' : ¬ keep w.heap.size := fun h => (hkeep _ h) rfl
  refine ⟨w.heap.size, [], W1, { target := .fn (.func gf) lb, args := #[.func (.yield w.heap.size) #[] #[]] }, W1, gf,
    #[.func (.yield w.heap.size) #[] #[]] ++ lb, W1, ?_, ?_, fun _ _ => trivial, ?_, fun h => (by cases h), ?_⟩
  · rw [← hW1, hrec]; exact run_enterLoop_inner h₀ _ _ _ _ _
  · simp only [resolve, hg]
    simp [go_sem]
  · simp [invoke, go_sem, eg]
  · refine CallsIn.inRound l₀ ((hseq W1 hq1 hs1 (n - 1) w.heap.size
      (fun k W => I k W ∧ W.heap[w.heap.size]? = some (.loop (rec .ready none)))
      (fun k W => ∃ c, Ix c k W ∧ W.heap[w.heap.size]? = some (.loop (rec .done (some c))))
      (fun s A B hs hi => ⟨hI s A B hs.1 (hi.mono (fun _ h => h) (by omega)), (hi.low _ (by omega) (lt_of_get hs.2) ho0).trans hs.2⟩)
      (fun s A B hs hi => by
        obtain ⟨c, hc, hl⟩ := hs
        exact ⟨c, hIx c s A B hc (hi.mono (fun _ h => h) (by omega)), (hi.low _ (by omega) (lt_of_get hl) ho0).trans hl⟩)
      ?_ ⟨hI1, hL1⟩).mono ?_)
    · -- one round
      rintro k hk W ⟨hi, hl⟩ hob
      have hy := run_yield (P := P) (args := encs xs[k]) hl (by rw [hrec]; exact hps _)
      rw [hrec] at hy
      refine ⟨fn, _, assign, body, hy, fun m => round_any (n := n - 1 - 1) (roundIn_of_wpIn trivial (hassign _ k hk W _ hi (lt_of_get hl) ?_))⟩
      clear hy
      intro a' Wa hqa hia hax
      have hla := (hqa.block _ (lt_of_get hl)).trans hl
      refine ⟨_, run_beginRound hla (by rw [hrec]), ?_⟩
      have hl2 : (Wa.putObj w.heap.size (.loop { rec .ready none with state := .busy })).heap[w.heap.size]? = some (.loop { rec .ready none with state := .busy }) := World.putObj_heap_same (lt_of_get hla)
      have hi2 : Itk own w.heap.size Wa (Wa.putObj w.heap.size (.loop { rec .ready none with state := .busy })) := Itk.put _ hla rfl (by omega)
      have hb2 : Bk keep n₀ W (Wa.putObj w.heap.size (.loop { rec .ready none with state := .busy })) := (Bk.of_q hqa (by have := lt_of_get hl; omega)).trans (Bk.put _ hla rfl (by omega) hk1')
      refine wpIn_mono (hbody _ k hk a' _ ⟨_, hl2⟩ rfl (hI _ _ _ hia hi2) (hAx _ _ _ _ hax hi2) (fun b hb => by have := hob b hb; have := hqa.size; simp; omega) (by have := lt_of_get hla; simp; omega)) ?_
      have fin : ∀ (jump : Option Code) (W3 : World), Bk (fun b => keep b ∨ b = w.heap.size) n₀ (Wa.putObj w.heap.size (.loop { rec .ready none with state := .busy })) W3 →
          (Instr.endRound w.heap.size jump).run P W3 = .ok (.bool jump.isNone) (W3.putObj w.heap.size (.loop (rec (if jump.isNone then .ready else .done) jump))) ∧
          (W3.putObj w.heap.size (.loop (rec (if jump.isNone then .ready else .done) jump))).heap[w.heap.size]? = some (.loop (rec (if jump.isNone then .ready else .done) jump)) ∧
          Itk own w.heap.size W3 (W3.putObj w.heap.size (.loop (rec (if jump.isNone then .ready else .done) jump))) ∧
          Bk keep n₀ W (W3.putObj w.heap.size (.loop (rec (if jump.isNone then .ready else .done) jump))) := fun jump W3 hk3 => by
        have hl3 := (hk3.own _ (.inr rfl) (lt_of_get hl2)).trans hl2
        have := run_endRound (P := P) jump hl3
        rw [hrec] at this ⊢
        rw [hrec] at hl3
        exact ⟨this, World.putObj_heap_same (lt_of_get hl3), Itk.put _ hl3 rfl (by omega),
          (hb2.trans (hk3.mono (fun _ h => .inl h) (Nat.le_refl _))).trans (Bk.put _ hl3 rfl (by omega) hk1')⟩
      rintro e a3 W3 hp
      cases e with
      | normal =>
        obtain ⟨hk3, hi3⟩ := hp
        obtain ⟨hr, hl4, hi4, hb4⟩ := fin none W3 hk3
        exact ⟨_, _, hr, .inl ⟨rfl, ⟨hI _ _ _ hi3 hi4, hl4⟩, hb4⟩⟩
      | ret =>
        obtain ⟨hk3, hi3⟩ := hp
        obtain ⟨hr, hl4, hi4, hb4⟩ := fin (some .ret) W3 hk3
        exact ⟨_, _, hr, .inr ⟨rfl, ⟨.ret, hIx _ _ _ _ hi3 hi4, hl4⟩, hb4⟩⟩
      | exit id =>
        obtain ⟨hk3, hi3⟩ := hp
        obtain ⟨hr, hl4, hi4, hb4⟩ := fin (some (.exit id)) W3 hk3
        exact ⟨_, _, hr, .inr ⟨rfl, ⟨.exit id, hIx _ _ _ _ hi3 hi4, hl4⟩, hb4⟩⟩
      | goto t =>
        obtain ⟨hk3, hi3⟩ := hp
        obtain ⟨hr, hl4, hi4, hb4⟩ := fin (some (.goto t)) W3 hk3
        exact ⟨_, _, hr, .inr ⟨rfl, ⟨.goto t, hIx _ _ _ _ hi3 hi4, hl4⟩, hb4⟩⟩
      | panic ch => exact hp.elim
      | outgrown => exact hp.elim
    · -- behind the iterator
      rintro e W2 ⟨⟨v, rfl⟩, (⟨hi, hl⟩ | ⟨k, hkl, c, hi, hl⟩)⟩
      · exact ⟨none, _, by have := run_endLoop (P := P) hl (by rw [hrec]; simp); rw [hrec] at this; exact this, hdone _ (hI _ _ _ hi (Itk.put _ hl rfl (by omega)))⟩
      · exact ⟨some c, _, by have := run_endLoop (P := P) hl (by rw [hrec]; simp); rw [hrec] at this; exact this, hstop c k _ hkl (hIx c _ _ _ hi (Itk.put _ hl rfl (by omega)))⟩
end Go.Proofs.YtcflpcpkmhljkaaGreatDoor
end

/- (WKind) sort.Search, utf.Kind: walked. -/
section
namespace Go.Proofs.YtcflpcpkmhljkaaGreatDoor
open Go.RowKit
set_option linter.unusedVariables false

theorem search_false {n : Nat} {p : Nat → Bool} (hm : ∀ a b, a ≤ b → b < n → p a = true → p b = true) {m : Nat} (h : p m = false) (t : Nat) (ht : t ≤ m) (hn : m < n) : p t = false := by
  cases e : p t with
  | false => rfl
  | true => have := hm t m ht hn e; rw [h] at this; cases this
def SearchP (n : Nat) (p : Nat → Bool) (w : World) (e : Ending) (w' : World) : Prop :=
  (∃ i : Nat, e = .returned (.int .i64 i) ∧ i ≤ n ∧ (∀ j, j < i → p j = false) ∧ (∀ j, i ≤ j → j < n → p j = true)) ∧ Q w w'
set_option maxRecDepth 100000 in
set_option maxHeartbeats 2000000 in
theorem Search_any (g : Nat) (cb : Array Value) (n : Nat) (p : Nat → Bool) (w : World) (eg : ∀ args w, (callFunc g args).run Tryz.prog w = .ok (.enter g args) w) (hsz : n < 4611686018427387904)
    (hf : ∀ i, i < n → ∀ W, Q w W → Calls Tryz.prog g (#[.int .i64 i] ++ cb) W fun e W' => e = .returned (.bool (p i)) ∧ Q W W') (hmono : ∀ a b, a ≤ b → b < n → p a = true → p b = true) :
    Calls Tryz.prog 212 #[.int .i64 n, .func (.func g) #[] cb] w (SearchP n p w) := by
  have HF := Lib.hid hf; have M := Lib.hid hmono; clear hf hmono
  go_enter Tryz.func212, Tryz.ntmps212
  go_wp2_with fail
  go_loopw [5, 6] (fun i j wr => ∃ a b : Nat, a ≤ b ∧ b ≤ n ∧ i = .int .i64 a ∧ j = .int .i64 b ∧ Hid ((∀ t, t < a → p t = false) ∧ (∀ t, b ≤ t → t < n → p t = true)) ∧ Hid (Q w wr)) (fun i j _ => (intOf j).toNat - (intOf i).toNat)
  case atStart => exact ⟨0, n, by omega, by omega, rfl, rfl, ⟨fun t h => by omega, fun t h1 h2 => by omega⟩, Q.refl w⟩
  case round =>
    obtain ⟨a, b, hab, hbn, rfl, rfl, HI, HQ⟩ := hrel
    by_cases hlt : a < b
    · have c := HF.out ((a + b) / 2) (by omega) wr HQ.out
      rw [show (((a + b) / 2 : Nat) : Int) = ((a : Int) + (b : Int)) / 2 by omega] at c
      have C := Lib.hid c; clear c
      go_wp2_with fail
      refine C.out.mono ?_
      rintro e w1 ⟨rfl, q1⟩
      have HQ1 := Lib.hid q1; clear q1
      cases hp : p ((a + b) / 2) with
      | false =>
        have HP := Lib.hid hp; clear hp
        go_wp2_with fail
        go_roundw
        case rel => exact ⟨(a + b) / 2 + 1, b, by omega, by omega, by rw [show ((a : Int) + (b : Int)) / 2 + 1 = (((a + b) / 2 + 1 : Nat) : Int) by omega], rfl, ⟨fun t ht => search_false M.out HP.out t (by omega) (by omega), HI.out.2⟩, HQ.out.trans HQ1.out⟩
        case measure => simp [intOf]; omega
      | true =>
        have HP := Lib.hid hp; clear hp
        go_wp2_with fail
        go_roundw
        case rel => exact ⟨a, (a + b) / 2, by omega, by omega, rfl, by rw [show ((a : Int) + (b : Int)) / 2 = (((a + b) / 2 : Nat) : Int) by omega], ⟨HI.out.1, fun t ht htn => M.out ((a + b) / 2) t ht htn HP.out⟩, HQ.out.trans HQ1.out⟩
        case measure => simp [intOf]; omega
    · have hba : b = a := by omega
      subst hba
      go_wp2_with fail
      go_ret
      exact ⟨⟨b, rfl, hbn, HI.out.1, HI.out.2⟩, HQ.out⟩

/-- the table of kinds lies as it was laid -/
def Spans (w : World) : Prop := ∀ (i : Nat) (x : Int × Int × Int), spansL[i]? = some x →
  w.cell? ⟨2, i * 3, none⟩ = some (.int .i32 x.1) ∧ w.cell? ⟨2, i * 3 + 1, none⟩ = some (.int .i32 x.2.1) ∧ w.cell? ⟨2, i * 3 + 2, none⟩ = some (.int .i64 x.2.2)
theorem Spans.stays {w w' : World} (h : Spans w) (hb : Q w w') : Spans w' := fun i x hx => by
  obtain ⟨a, b, c⟩ := h i x hx
  exact ⟨cell_stays hb a, cell_stays hb b, cell_stays hb c⟩
theorem spans_len : spansL.length = 34 := rfl
theorem spans_bounds : ∀ x ∈ spansL, 0 ≤ x.1 ∧ x.1 ≤ x.2.1 ∧ x.2.1 ≤ 1114111 ∧ 0 ≤ x.2.2 ∧ x.2.2 ≤ 3 := by decide
theorem spans_rise : ∀ i : Fin 34, ∀ j : Fin 34, i.val ≤ j.val → (spansL.getD i.val (0, 0, 0)).2.1 ≤ (spansL.getD j.val (0, 0, 0)).2.1 := by decide +kernel
set_option maxHeartbeats 1000000 in
theorem kind1_any (i : Nat) (r : Int) (B : Nat) (w : World) (hi : i < 34) (hc : w.cell? ⟨B, 0, none⟩ = some (.int .i64 r)) (hS : Spans w) :
    Calls Tryz.prog 213 #[.int .i64 i, .pointer (some ⟨B, 0, none⟩)] w fun e w' => e = .returned (.bool (decide (r ≤ (spansL.getD i (0, 0, 0)).2.1))) ∧ Q w w' := by
  obtain ⟨x, hx⟩ : ∃ x, spansL[i]? = some x := ⟨_, List.getElem?_eq_getElem (show i < spansL.length by rw [spans_len]; exact hi)⟩
  have hd : spansL.getD i (0, 0, 0) = x := by rw [List.getD_eq_getElem?_getD, hx]; rfl
  obtain ⟨a, b, c⟩ := hS i x hx
  have hb := spans_bounds x (List.mem_of_getElem? hx)
  rw [hd]
  obtain ⟨lo, h, k⟩ := x
  simp only at a b c hb ⊢
  obtain ⟨g1, g2, g3, g4, g5⟩ := hb
  clear hS hx hd
  have hi2 : (i : Int) < 34 := by omega
  go_enter Tryz.func213, Tryz.ntmps213
  go_wp2_with fail
  go_quiet (fail)
  go_wp2_with fail
  go_ret
  exact ⟨rfl, Q.drewN _ _⟩

theorem find_from {α : Type} (p : α → Bool) (l : List α) (i : Nat) (h : ∀ j x, l[j]? = some x → j < i → p x = false) : l.find? p = (l.drop i).find? p := by
  induction i generalizing l with
  | zero => rfl
  | succ i ih =>
    cases l with
    | nil => rfl
    | cons a l =>
      rw [List.drop_succ_cons, List.find?_cons, h 0 a rfl (by omega)]
      exact ih l (fun j x hj hi => h (j + 1) x (by simpa using hj) (by omega))
theorem kind_at (r : Int) (i : Nat) (x : Int × Int × Int) (hx : spansL[i]? = some x) (h1 : ∀ j, j < i → decide (r ≤ (spansL.getD j (0, 0, 0)).2.1) = false) (h2 : decide (r ≤ (spansL.getD i (0, 0, 0)).2.1) = true) : kindL r = if x.1 ≤ r then x.2.2 else 0 := by
  have hd : ∀ j y, spansL[j]? = some y → spansL.getD j (0, 0, 0) = y := fun j y h => by rw [List.getD_eq_getElem?_getD, h]; rfl
  unfold kindL
  rw [find_from _ spansL i (fun j y hj hi => by have := h1 j hi; rwa [hd j y hj] at this)]
  obtain ⟨hlt, hxe⟩ := List.getElem?_eq_some_iff.1 hx
  rw [hd i x hx] at h2
  rw [List.drop_eq_getElem_cons hlt, hxe, List.find?_cons, h2]
theorem kind_none (r : Int) (h1 : ∀ j, j < 34 → decide (r ≤ (spansL.getD j (0, 0, 0)).2.1) = false) : kindL r = 0 := by
  have hd : ∀ j y, spansL[j]? = some y → spansL.getD j (0, 0, 0) = y := fun j y h => by rw [List.getD_eq_getElem?_getD, h]; rfl
  unfold kindL
  rw [find_from _ spansL 34 (fun j y hj hi => by have := h1 j hi; rwa [hd j y hj] at this)]
  rfl
theorem kindL_bounds (r : Int) : 0 ≤ kindL r ∧ kindL r ≤ 3 := by
  unfold kindL
  split
  · rename_i x hx
    have := spans_bounds x (List.mem_of_find?_eq_some hx)
    split <;> omega
  · omega
set_option maxRecDepth 100000 in
set_option maxHeartbeats 2000000 in
theorem Kind_any (r : Int) (w : World) (h1 : -1 ≤ r) (h2 : r ≤ 1114111) (hS : Spans w) :
    Calls Tryz.prog 184 #[.int .i64 r] w fun e w' => e = .returned (.int .i64 (kindL r)) ∧ Q w w' := by
  have hb : Boxed (w.alloc (.cells #[.int .i64 r] 3)) w.heap.size 3 (.int .i64 r) := Boxed.new _ _ _
  have c := Search_any 213 #[.pointer (some ⟨w.heap.size, 0, none⟩)] 34 (fun i => decide (r ≤ (spansL.getD i (0, 0, 0)).2.1)) (w.alloc (.cells #[.int .i64 r] 3)) (enters_of Tryz.func213 (by kernel_rfl) rfl) (by omega)
    (fun i hi W hq => kind1_any i r w.heap.size W hi (cell_stays hq hb.cell) ((hS.stays (Q.alloc _ _)).stays hq))
    (fun a b hab hb' h => by
      simp only [decide_eq_true_eq] at h ⊢
      have := spans_rise ⟨a, by omega⟩ ⟨b, hb'⟩ hab
      simp only at this
      omega)
  have C := Lib.hid c; have HS := Lib.hid hS; have HB := Lib.hid hb; clear c hS hb
  go_enter Tryz.func184, Tryz.ntmps184
  go_wp2_with fail
  refine C.out.mono ?_
  rintro e w1 ⟨⟨i, rfl, hi, hlo, hhi⟩, q1⟩
  have hc := cell_stays q1 HB.out.cell
  have HQ1 := Lib.hid q1
  by_cases hi34 : i < 34
  · obtain ⟨x, hx⟩ : ∃ x, spansL[i]? = some x := ⟨_, List.getElem?_eq_getElem (show i < spansL.length by rw [spans_len]; exact hi34)⟩
    obtain ⟨ca, cb, cc⟩ := ((HS.out.stays (Q.alloc _ _)).stays q1) i x hx
    have hk := kind_at r i x hx hlo (hhi i (by omega) hi34)
    have hbd := spans_bounds x (List.mem_of_getElem? hx)
    have HK := Lib.hid hk
    clear hlo hhi q1 hx hk
    obtain ⟨lo, h, k⟩ := x
    simp only at ca cb cc hbd HK
    obtain ⟨g1, g2, g3, g4, g5⟩ := hbd
    have hi2 : (i : Int) < 34 := by omega
    by_cases hle : lo ≤ r
    · go_wp2_with fail
      go_quiet (fail)
      go_wp2_with fail
      go_ret
      exact ⟨ret_int (by rw [HK.out, if_pos (by omega)]), ((Q.alloc _ _).trans HQ1.out).trans (Q.drewN _ _)⟩
    · have hd : decide (lo ≤ r) = false := decide_eq_false hle
      go_wp2_with fail
      go_quiet (fail)
      go_wp2_with fail
      go_ret
      exact ⟨ret_int (by rw [HK.out, if_neg (by omega)]), ((Q.alloc _ _).trans HQ1.out).trans (Q.drewN _ _)⟩
  · have hi3 : i = 34 := by omega
    subst hi3
    have hk := kind_none r hlo
    have HK := Lib.hid hk
    clear hlo hhi q1 hk hi34
    go_wp2_with fail
    go_quiet (fail)
    go_wp2_with fail
    go_ret
    exact ⟨ret_int HK.out.symm, ((Q.alloc _ _).trans HQ1.out).trans (Q.drewN _ _)⟩
end Go.Proofs.YtcflpcpkmhljkaaGreatDoor
end
