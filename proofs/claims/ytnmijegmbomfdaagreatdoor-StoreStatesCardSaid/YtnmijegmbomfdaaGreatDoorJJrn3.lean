/- Joined texts of one proof: what is needed of Jrn3, Jrn4, Jrn5, Kit. -/
import Derived.Test.YtnmijegmbomfdaaGreatDoorJWire
import Derived.WalkKit
import Derived.Lib.Hide
import Derived.Deep.QuietTactic
import Derived.BigQuiet
import Derived.Deep.Onto
import Derived.Deep.AppendLies
set_option linter.unusedSimpArgs false
set_option linter.unusedVariables false
set_option linter.unnecessarySimpa false
set_option maxRecDepth 100000
set_option maxHeartbeats 16000000
namespace Go.Proofs.YtnmijegmbomfdaaGreatDoor
section
namespace DevL
theorem chk_in {d : DevL} (hd : d.dead = false) (i : Nat) (h : i < d.l.length) : d.chk i = 0 := by
  unfold chk; rw [hd, if_neg (by decide), if_pos ⟨by omega, by omega⟩]
theorem writes_run (ws : List WrL) : ∀ (d : DevL), d.dead = false → (∀ w ∈ ws, w.1 < d.l.length ∧ w.2.length = 256) →
    ((d.writes ws).2 = 0 ∧ (d.writes ws).1.dead = false ∧ (d.writes ws).1.l = d.l ∧ (d.writes ws).1.p = d.p ++ ws) ∨
    ((d.writes ws).2 = 4 ∧ (d.writes ws).1.dead = true ∧ (d.writes ws).1.l = d.l ∧ ∃ k, (d.writes ws).1.p = d.p ++ ws.take k) := by
  induction ws with
  | nil => intro d hd _; exact .inl ⟨rfl, hd, rfl, by simp [writes]⟩
  | cons w ws ih =>
    intro d hd hw
    have h1 := hw w (List.mem_cons_self ..)
    have hc := chk_in hd w.1 h1.1
    by_cases hf : d.fuse = 0
    · right
      have e : d.write w.1 w.2 = (d.turn, 4) := by
        unfold write; rw [if_neg (by rw [hc]; simp), if_neg (by rw [h1.2]; simp), if_pos hf]
      rw [writes, e, if_neg (by simp)]
      refine ⟨rfl, by unfold turn; rw [if_pos hf], (turn_l d).1, 0, ?_⟩
      rw [List.take_zero, List.append_nil]; exact (turn_l d).2
    · have e : d.write w.1 w.2 = ({ d.turn with p := d.p ++ [w] }, 0) := by
        unfold write; rw [if_neg (by rw [hc]; simp), if_neg (by rw [h1.2]; simp), if_neg hf]; rfl
      have ht : d.turn.dead = false := by unfold turn; rw [if_neg hf]; exact hd
      rw [writes, e, if_pos rfl]
      have := ih { d.turn with p := d.p ++ [w] } ht (fun x hx => by show x.1 < d.turn.l.length ∧ _; rw [(turn_l d).1]; exact hw x (List.mem_cons_of_mem _ hx))
      rw [show ({ d.turn with p := d.p ++ [w] } : DevL).l = d.l from (turn_l d).1] at this
      rcases this with ⟨a, b, c, e⟩ | ⟨a, b, c, k, e⟩
      · exact .inl ⟨a, b, c, by rw [e, List.append_assoc]; rfl⟩
      · exact .inr ⟨a, b, c, k + 1, by rw [e, List.append_assoc]; rfl⟩
theorem flush_run (d : DevL) (hd : d.dead = false) :
    (d.flush.2 = 0 ∧ d.flush.1.dead = false ∧ d.flush.1.l = layP d.l d.p ∧ d.flush.1.p = []) ∨ (d.flush.2 = 4 ∧ d.flush.1.dead = true ∧ d.flush.1.l = d.l ∧ d.flush.1.p = d.p) := by
  by_cases hf : d.fuse = 0
  · right
    have e : d.flush = (d.turn, 4) := by unfold flush; rw [hd, if_neg (by decide), if_pos hf]
    rw [e]
    exact ⟨rfl, by unfold turn; rw [if_pos hf], (turn_l d).1, (turn_l d).2⟩
  · left
    have e : d.flush = ({ d.turn with l := layP d.l d.p, p := [] }, 0) := by unfold flush; rw [hd, if_neg (by decide), if_neg hf]
    rw [e]
    exact ⟨rfl, by show d.turn.dead = _; unfold turn; rw [if_neg hf]; exact hd, rfl, rfl⟩
def lays (d : DevL) (ws : List WrL) : DevL × Int := if (d.writes ws).2 = 0 then (d.writes ws).1.flush else d.writes ws
theorem lays_ok {d : DevL} (h : d.Ok) (ws : List WrL) : (d.lays ws).1.Ok := by
  unfold lays
  split
  · exact flush_ok (writes_ok h ws)
  · exact writes_ok h ws
theorem lays_run (ws : List WrL) (d : DevL) (hd : d.dead = false) (hw : ∀ w ∈ ws, w.1 < d.l.length ∧ w.2.length = 256) :
    ((d.lays ws).2 = 0 ∧ (d.lays ws).1.dead = false ∧ (d.lays ws).1.l = layP d.l (d.p ++ ws) ∧ (d.lays ws).1.p = []) ∨
    ((d.lays ws).2 = 4 ∧ (d.lays ws).1.dead = true ∧ (d.lays ws).1.l = d.l ∧ ∃ k, (d.lays ws).1.p = d.p ++ ws.take k) := by
  unfold lays
  rcases writes_run ws d hd hw with ⟨a, b, c, e⟩ | ⟨a, b, c, k, e⟩
  · rw [if_pos a]
    rcases flush_run _ b with ⟨a2, b2, c2, e2⟩ | ⟨a2, b2, c2, e2⟩
    · exact .inl ⟨a2, b2, by rw [c2, c, e], e2⟩
    · exact .inr ⟨a2, b2, by rw [c2, c], ws.length, by rw [e2, e, List.take_length]⟩
  · rw [if_neg (by rw [a]; decide)]
    exact .inr ⟨a, b, c, k, e⟩
theorem writes_free (ws : List WrL) : ∀ (d : DevL), d.dead = false → d.fuse = -1 → (∀ w ∈ ws, w.1 < d.l.length ∧ w.2.length = 256) → (d.writes ws).2 = 0 ∧ (d.writes ws).1.fuse = -1 := by
  induction ws with
  | nil => intro d _ hf _; exact ⟨rfl, hf⟩
  | cons w ws ih =>
    intro d hd hf hw
    have h1 := hw w (List.mem_cons_self ..)
    have hc := chk_in hd w.1 h1.1
    have hf0 : d.fuse ≠ 0 := by omega
    have e : d.write w.1 w.2 = ({ d.turn with p := d.p ++ [w] }, 0) := by
      unfold write; rw [if_neg (by rw [hc]; simp), if_neg (by rw [h1.2]; simp), if_neg hf0]; rfl
    have ht : d.turn.dead = false ∧ d.turn.fuse = -1 := by
      unfold turn; rw [if_neg hf0]
      refine ⟨hd, ?_⟩
      simp only [hf]; decide
    rw [writes, e, if_pos rfl]
    exact ih { d.turn with p := d.p ++ [w] } ht.1 ht.2 (fun x hx => by show x.1 < d.turn.l.length ∧ _; rw [(turn_l d).1]; exact hw x (List.mem_cons_of_mem _ hx))
theorem flush_free (d : DevL) (hd : d.dead = false) (hf : d.fuse = -1) : d.flush.2 = 0 ∧ d.flush.1.fuse = -1 := by
  have hf0 : d.fuse ≠ 0 := by omega
  have e : d.flush = ({ d.turn with l := layP d.l d.p, p := [] }, 0) := by unfold flush; rw [hd, if_neg (by decide), if_neg hf0]
  rw [e]
  refine ⟨rfl, ?_⟩
  show d.turn.fuse = -1
  unfold turn; rw [if_neg hf0]
  simp only [hf]; decide
theorem lays_free (ws : List WrL) (d : DevL) (hd : d.dead = false) (hf : d.fuse = -1) (hw : ∀ w ∈ ws, w.1 < d.l.length ∧ w.2.length = 256) : (d.lays ws).2 = 0 ∧ (d.lays ws).1.fuse = -1 := by
  have h1 := writes_free ws d hd hf hw
  unfold lays
  rw [if_pos h1.1]
  refine flush_free _ ?_ h1.2
  rcases writes_run ws d hd hw with ⟨a, b, _⟩ | ⟨a, _⟩
  · exact b
  · rw [a] at h1; exact absurd h1.1 (by decide)
end DevL
theorem lay_img (p : List WrL) : ∀ (l : List Bytes), (∀ s ∈ l, s.length = 256) → (∀ w ∈ p, w.1 < l.length ∧ w.2.length = 256) → Img l p (layP l p) := by
  induction p with
  | nil => intro l _ _; exact .nil l
  | cons w p ih =>
    intro l hl hp
    have hw := hp w (List.mem_cons_self ..)
    have e : tornW l w 256 = l.set w.1 w.2 := by
      unfold tornW
      rw [List.take_of_length_le (by omega), List.drop_of_length_le (by rw [DevL.getD_mem_length hl hw.1]; exact Nat.le_refl _), List.append_nil]
    refine .cons 256 ?_
    rw [e]
    exact ih _ (by rw [← e]; exact tornW_all _ _ _ hl hw.1 hw.2) (fun x hx => by rw [List.length_set]; exact hp x (List.mem_cons_of_mem _ hx))
theorem layP_at (l : List Bytes) (p : List WrL) (i : Nat) (h : i < l.length) : at' (layP l p) i = lastP p i (at' l i) := layP_get l p i h
structure JL where
  d : DevL
  s : SlotL
  k : Nat
  next : Nat
  used : Nat
namespace JL
def place (j : JL) (n : Nat) : Nat := logAt j.s (j.used + n)
def home (j : JL) : Nat := 2 + j.s.log
def frame (j : JL) : Option (List WrL) :=
  match unpackL ((List.range (min (j.s.log - j.used) 49)).map fun i => j.d.get (j.place i)) with
  | some (seq, ws) => if seq = j.next ∧ ∀ w ∈ ws, j.home ≤ w.1 ∧ w.1 < j.d.l.length then some ws else none
  | none => none
def advance (j : JL) (n : Nat) : JL := { j with used := j.used + n + 1, next := (j.next + 1) % 18446744073709551616 }
def replay : Nat → JL → JL × Int
  | 0, j => (j, 0)
  | n + 1, j =>
    match j.frame with
    | none => (j, 0)
    | some ws => if (j.d.writes ws).2 = 0 then replay n ({ j with d := (j.d.writes ws).1 }.advance ws.length) else ({ j with d := (j.d.writes ws).1 }, (j.d.writes ws).2)
def nextSlot (j : JL) : SlotL := ⟨(j.s.e + 1) % 18446744073709551616, j.next, j.s.log, (j.s.place + j.used) % j.s.log⟩
def ckpt1 (j : JL) : DevL × Int := j.d.lays [(j.place 0, noughtsL)]
def ckpt2 (j : JL) : DevL × Int := j.ckpt1.1.lays [(1 - j.k, slotT j.nextSlot)]
def ckpt (j : JL) : JL × Int :=
  if j.ckpt1.2 ≠ 0 then ({ j with d := j.ckpt1.1 }, j.ckpt1.2) else if j.ckpt2.2 ≠ 0 then ({ j with d := j.ckpt2.1 }, j.ckpt2.2) else (⟨j.ckpt2.1, j.nextSlot, 1 - j.k, j.next, 0⟩, 0)
def logW (j : JL) (ws : List WrL) : List WrL := (ws.map (·.2) ++ [noughtsL]).zipIdx.map fun x => (j.place (x.2 + 1), x.1)
def com1 (j : JL) (ws : List WrL) : DevL × Int := j.d.lays (j.logW ws)
def com2 (j : JL) (ws : List WrL) : DevL × Int := (j.com1 ws).1.lays [(j.place 0, headL j.next ws)]
def com3 (j : JL) (ws : List WrL) : DevL × Int := (j.com2 ws).1.writes ws
def com (j : JL) (ws : List WrL) : JL × Int :=
  if (j.com1 ws).2 ≠ 0 then ({ j with d := (j.com1 ws).1 }, (j.com1 ws).2) else if (j.com2 ws).2 ≠ 0 then ({ j with d := (j.com2 ws).1 }, (j.com2 ws).2) else
  ({ j with d := (j.com3 ws).1 }.advance ws.length, (j.com3 ws).2)
def commit (j : JL) (ws : List WrL) : JL × Int :=
  if ws.length + 2 > j.s.log - j.used then (if j.ckpt.2 ≠ 0 then j.ckpt else j.ckpt.1.com ws) else j.com ws
end JL
def openJ (d : DevL) : JL × Int :=
  if d.dead then (⟨d, ⟨0, 0, 0, 0⟩, 0, 0, 0⟩, 4) else
  match pickS (toSlotL (d.get 0) d.l.length) (toSlotL (d.get 1) d.l.length) with
  | none => (⟨d, ⟨0, 0, 0, 0⟩, 0, 0, 0⟩, 10)
  | some (s, k) => if (JL.replay (s.log + 1) ⟨d, s, k, s.s, 0⟩).2 = 0 then (JL.replay (s.log + 1) ⟨d, s, k, s.s, 0⟩).1.ckpt else JL.replay (s.log + 1) ⟨d, s, k, s.s, 0⟩
def RecK (lg K : Nat) (l : List Bytes) (C : Nat → Bytes) : Prop := ∃ s k fr, RecS l s k fr C ∧ s.log = lg ∧ s.e ≤ K ∧ s.s + fr.length ≤ K
theorem RecK.mono {lg K K' : Nat} {l : List Bytes} {C : Nat → Bytes} (h : RecK lg K l C) (hk : K ≤ K') : RecK lg K' l C := by
  obtain ⟨s, k, fr, h1, h2, h3, h4⟩ := h
  exact ⟨s, k, fr, h1, h2, by omega, by omega⟩
def Safe (lg K : Nat) (d : DevL) (S : (Nat → Bytes) → Prop) : Prop := ∀ l', Img d.l d.p l' → ∃ C, S C ∧ RecK lg K l' C
theorem Safe.mono {lg K K' : Nat} {d : DevL} {S S' : (Nat → Bytes) → Prop} (h : Safe lg K d S) (hk : K ≤ K') (hs : ∀ C, S C → S' C) : Safe lg K' d S' := fun l' hi => by
  obtain ⟨C, h1, h2⟩ := h l' hi
  exact ⟨C, hs C h1, h2.mono hk⟩
theorem noughts_not_slot (s : SlotL) : noughtsL ≠ slotT s := by
  intro h
  have := congrArg (fun t : Bytes => t[0]?) h
  simp only [noughtsL, slotT, slotH, magicS, List.getElem?_replicate, List.cons_append, List.getElem?_cons_zero] at this
  exact absurd this (by decide)
theorem OldX.other {X : Bytes} {s s' : SlotL} (h : OldX X s) (ho : s'.Ok) (he : s.e ≤ s'.e) : OtherOk X s s' := by
  refine ⟨0, X, h, by simp, ?_⟩
  rcases h with rfl | ⟨r, hr, rfl, hl⟩
  · exact noughts_not_slot s'
  · intro e
    have := slotT_inj hr ho e
    subst this
    omega
structure JPre (lg K : Nat) (j : JL) (fr : List (List WrL)) (C : Nat → Bytes) : Prop where
  ok : j.d.Ok
  live : j.d.dead = false
  hrec : RecS j.d.l j.s j.k fr C
  hlog : j.s.log = lg
  he : j.s.e ≤ K
  hnext : j.next = j.s.s + fr.length
  hnextK : j.next ≤ K
  hused : j.used = usedF 0 fr
  pend : ∀ w ∈ j.d.p, 2 + lg ≤ w.1 ∧ ∃ x ∈ fr.flatten, x.1 = w.1
  get : ∀ i, 2 + lg ≤ i → i < j.d.l.length → j.d.get i = C i
structure JInv (lg K : Nat) (j : JL) (fr : List (List WrL)) (C : Nat → Bytes) : Prop extends JPre lg K j fr C where
  old : OldX (at' j.d.l (1 - j.k)) j.s
  hend : at' j.d.l (logAt j.s j.used) = noughtsL
  plen : j.d.p.length ≤ 48
theorem JPre.allowed {lg K : Nat} {j : JL} {fr : List (List WrL)} {C : Nat → Bytes} (h : JPre lg K j fr C) : ∀ w ∈ j.d.p, Allowed j.s fr w := fun w hw => .inl (by rw [h.hlog]; exact h.pend w hw)
theorem JPre.safe_more {lg K : Nat} {j : JL} {fr : List (List WrL)} {C : Nat → Bytes} (h : JPre lg K j fr C) (q : List WrL) (hq : ∀ w ∈ q, (w.1 < j.d.l.length ∧ w.2.length = 256) ∧ Allowed j.s fr w) (d : DevL) (hl : d.l = j.d.l) (hp : d.p = j.d.p ++ q) : Safe lg K d (· = C) := by
  intro l' hi
  rw [hl, hp] at hi
  refine ⟨C, rfl, j.s, j.k, fr, h.hrec.img (fun w hw => ?_) (fun w hw => ?_) hi, h.hlog, h.he, by rw [← h.hnext]; exact h.hnextK⟩
  · rcases List.mem_append.1 hw with hw | hw
    · exact h.ok.p w hw
    · exact (hq w hw).1
  · rcases List.mem_append.1 hw with hw | hw
    · exact h.allowed w hw
    · exact (hq w hw).2
theorem JPre.safe {lg K : Nat} {j : JL} {fr : List (List WrL)} {C : Nat → Bytes} (h : JPre lg K j fr C) : Safe lg K j.d (· = C) := h.safe_more [] (by simp) _ rfl (by simp)
theorem JPre.place_eq {lg K : Nat} {j : JL} {fr : List (List WrL)} {C : Nat → Bytes} (h : JPre lg K j fr C) (n : Nat) : j.place n = logAt j.s (usedF 0 fr + n) := by rw [JL.place, h.hused]
theorem take_mem {α : Type} {l : List α} {k : Nat} {x : α} (h : x ∈ l.take k) : x ∈ l := List.mem_of_mem_take h
theorem layP_one (l : List Bytes) (w : WrL) (h : w.1 < l.length) (hl : ∀ s ∈ l, s.length = 256) (hw : w.2.length = 256) : layP l [w] = tornW l w 256 := by
  unfold tornW layP
  rw [List.take_of_length_le (by omega), List.drop_of_length_le (by rw [DevL.getD_mem_length hl h]; exact Nat.le_refl _), List.append_nil]
  rfl
theorem noughts_len : noughtsL.length = 256 := List.length_replicate
theorem img_take_one {l l' : List Bytes} {w : WrL} {k : Nat} (h : Img l ([w].take k) l') : l' = l ∨ ∃ c, l' = tornW l w c := by
  cases k with
  | zero => left; simp only [List.take_zero] at h; cases h; rfl
  | succ k => right; simp only [List.take_succ_cons, List.take_nil] at h; exact h.one
theorem ckpt_run {lg K : Nat} {j : JL} {fr : List (List WrL)} {C : Nat → Bytes} (h : JPre lg K j fr C) (hK : K + 2 < 18446744073709551616) :
    (j.ckpt.2 = 0 ∧ JInv lg (K + 1) j.ckpt.1 [] C ∧ j.ckpt.1.d.p = [] ∧ (j.d.fuse = -1 → j.ckpt.1.d.fuse = -1)) ∨
    (j.ckpt.2 = 4 ∧ j.ckpt.1.d.dead = true ∧ j.ckpt.1.d.Ok ∧ Safe lg (K + 1) j.ckpt.1.d (· = C) ∧ j.d.fuse ≠ -1) := by
  have hr := h.hrec
  have hlog := hr.hlog; have hleast := hr.hleast; have hk := hr.hk
  have hu := hr.hchain.used
  have hpl : j.place 0 = logAt j.s (usedF 0 fr) := h.place_eq 0
  have hla := logAt_lt j.s (usedF 0 fr) (by omega)
  have hns : j.nextSlot = nextS j.s fr := by
    unfold JL.nextSlot nextS
    rw [h.hnext, h.hused, Nat.mod_eq_of_lt (by have := h.he; omega)]
  have hw1 : ∀ w ∈ [(j.place 0, noughtsL)], w.1 < j.d.l.length ∧ w.2.length = 256 := by
    intro w hw; rw [List.mem_singleton] at hw; subst hw
    exact ⟨by show j.place 0 < _; rw [hpl]; omega, noughts_len⟩
  have hall1 : ∀ w ∈ [(j.place 0, noughtsL)], (w.1 < j.d.l.length ∧ w.2.length = 256) ∧ Allowed j.s fr w := fun w hw => ⟨hw1 w hw, by
    rw [List.mem_singleton] at hw; subst hw
    exact .inr ⟨usedF 0 fr, Nat.le_refl _, hu, hpl, fun _ => rfl⟩⟩
  unfold JL.ckpt
  rcases DevL.lays_run _ j.d h.live hw1 with ⟨a, b, c, e⟩ | ⟨a, b, c, k, e⟩
  · have a' : j.ckpt1.2 = 0 := a
    rw [if_neg (by rw [a']; simp)]
    have hok1 : j.ckpt1.1.Ok := DevL.lays_ok h.ok _
    have hb : j.ckpt1.1.dead = false := b
    have hl : j.ckpt1.1.l = layP j.d.l (j.d.p ++ [(j.place 0, noughtsL)]) := c
    have hp : j.ckpt1.1.p = [] := e
    have hlen : j.ckpt1.1.l.length = j.d.l.length := by rw [hl, layP_length]
    have hpq : ∀ w ∈ j.d.p ++ [(j.place 0, noughtsL)], w.1 < j.d.l.length ∧ w.2.length = 256 := fun w hw => by
      rcases List.mem_append.1 hw with hw | hw
      · exact h.ok.p w hw
      · exact hw1 w hw
    have hrec1 : RecS j.ckpt1.1.l j.s j.k fr C := by
      rw [hl]
      refine hr.img hpq (fun w hw => ?_) (lay_img _ _ h.ok.l hpq)
      rcases List.mem_append.1 hw with hw | hw
      · exact h.allowed w hw
      · exact (hall1 w hw).2
    have hhome : ∀ i, 2 + j.s.log ≤ i → i < j.ckpt1.1.l.length → at' j.ckpt1.1.l i = C i := fun i h1 h2 => by
      rw [hlen] at h2
      rw [hl, layP_at _ _ _ h2, lastP_snoc, if_neg (by show j.place 0 ≠ i; rw [hpl]; omega)]
      exact h.get i (by rw [← h.hlog]; exact h1) h2
    have hend : at' j.ckpt1.1.l (logAt j.s (usedF 0 fr)) = noughtsL := by
      rw [hl, layP_at _ _ _ (by omega), lastP_snoc, if_pos hpl]
    have hw2 : ∀ w ∈ [(1 - j.k, slotT j.nextSlot)], w.1 < j.ckpt1.1.l.length ∧ w.2.length = 256 := by
      intro w hw; rw [List.mem_singleton] at hw; subst hw
      exact ⟨by show 1 - j.k < _; rw [hlen]; omega, slotT_length _⟩
    have hsw := fun c => hrec1.slotW hhome (by have := h.he; omega) c
    rw [← hns] at hsw
    rcases DevL.lays_run _ j.ckpt1.1 hb hw2 with ⟨a2, b2, c2, e2⟩ | ⟨a2, b2, c2, k2, e2⟩
    · left
      have a2' : j.ckpt2.2 = 0 := a2
      rw [if_neg (by rw [a2']; simp)]
      have hl2 : j.ckpt2.1.l = tornW j.ckpt1.1.l (1 - j.k, slotT j.nextSlot) 256 := by
        have : j.ckpt2.1.l = layP j.ckpt1.1.l (j.ckpt1.1.p ++ [(1 - j.k, slotT j.nextSlot)]) := c2
        rw [this, hp, List.nil_append, layP_one _ _ (hw2 _ (List.mem_singleton.2 rfl)).1 hok1.l (hw2 _ (List.mem_singleton.2 rfl)).2]
      have hp2 : j.ckpt2.1.p = [] := e2
      have hg2 : ∀ i, at' j.ckpt2.1.l i = if 1 - j.k = i then slotT j.nextSlot else at' j.ckpt1.1.l i := fun i => by
        rw [hl2, tornW_get _ _ _ _ (hw2 _ (List.mem_singleton.2 rfl)).1]
        by_cases hi : 1 - j.k = i
        · subst hi
          rw [if_pos rfl, if_pos rfl, List.take_of_length_le (by rw [slotT_length]; exact Nat.le_refl _), List.drop_of_length_le (by rw [DevL.getD_mem_length hok1.l (by rw [hlen]; omega)]; exact Nat.le_refl _), List.append_nil]
        · rw [if_neg hi, if_neg hi]
      have hrec2 : RecS j.ckpt2.1.l j.nextSlot (1 - j.k) [] C := by
        rcases hsw 256 with hb1 | hb1
        · exfalso
          obtain ⟨_, _, _, _, hne⟩ := hb1.hother
          rw [← hl2, hg2, if_pos rfl, hns] at hne
          exact hne rfl
        · rw [hl2]; exact hb1.1
      have hlen2 : j.ckpt2.1.l.length = j.d.l.length := by rw [hl2, tornW_length, hlen]
      have hg : ∀ i, 2 + lg ≤ i → i < j.ckpt2.1.l.length → j.ckpt2.1.get i = C i := fun i h1 h2 => by
        unfold DevL.get
        rw [hp2]
        show at' j.ckpt2.1.l i = C i
        have := h.hlog
        rw [hg2, if_neg (by omega)]
        exact hhome i (by omega) (by omega)
      have hse : j.nextSlot.e = j.s.e + 1 := by rw [hns]; rfl
      refine ⟨rfl, ⟨⟨DevL.lays_ok hok1 _, b2, hrec2, ?_, by show j.nextSlot.e ≤ _; rw [hse]; have := h.he; omega, ?_, by show j.next ≤ _; have := h.hnextK; omega, rfl, fun w hw => by rw [show (JL.d _ : DevL).p = [] from hp2] at hw; simp at hw, hg⟩, ?_, ?_, by rw [show (JL.d _ : DevL).p = [] from hp2]; simp⟩, hp2, ?_⟩
      · show j.nextSlot.log = lg
        rw [hns]; exact h.hlog
      · show j.next = j.nextSlot.s + 0
        rfl
      · show OldX (at' j.ckpt2.1.l (1 - (1 - j.k))) j.nextSlot
        rw [hg2, if_neg (by omega), show 1 - (1 - j.k) = j.k by omega, hrec1.hslot]
        exact .inr ⟨j.s, hrec1.ok.1, rfl, by rw [hse]; omega⟩
      · show at' j.ckpt2.1.l (logAt j.nextSlot 0) = noughtsL
        have e : logAt j.nextSlot 0 = logAt j.s (usedF 0 fr) := by
          rw [hns]
          show 2 + ((j.s.place + usedF 0 fr) % j.s.log + 0) % j.s.log = 2 + (j.s.place + usedF 0 fr) % j.s.log
          rw [Nat.add_zero, Nat.mod_mod]
        rw [e, hg2, if_neg (by omega)]; exact hend
      · intro hf
        have h1 := (DevL.lays_free _ j.d h.live hf hw1).2
        exact (DevL.lays_free _ j.ckpt1.1 hb h1 hw2).2
    · right
      have a2' : j.ckpt2.2 = 4 := a2
      rw [if_pos (by rw [a2']; decide)]
      refine ⟨a2', b2, DevL.lays_ok hok1 _, ?_, ?_⟩
      · intro l' hi
        have hl2 : j.ckpt2.1.l = j.ckpt1.1.l := c2
        have hp2 : j.ckpt2.1.p = [(1 - j.k, slotT j.nextSlot)].take k2 := by
          have : j.ckpt2.1.p = j.ckpt1.1.p ++ [(1 - j.k, slotT j.nextSlot)].take k2 := e2
          rw [this, hp, List.nil_append]
        have hi' : Img j.ckpt1.1.l ([(1 - j.k, slotT j.nextSlot)].take k2) l' := by rw [← hl2, ← hp2]; exact hi
        have hnK := h.hnextK; have hn := h.hnext; have heK := h.he
        rcases img_take_one hi' with rfl | ⟨c, rfl⟩
        · exact ⟨C, rfl, j.s, j.k, fr, hrec1, h.hlog, by omega, by omega⟩
        · rcases hsw c with hb1 | hb1
          · exact ⟨C, rfl, j.s, j.k, fr, hb1, h.hlog, by omega, by omega⟩
          · refine ⟨C, rfl, _, _, _, hb1.1, h.hlog, ?_, ?_⟩
            · rw [hns]; show j.s.e + 1 ≤ _; omega
            · rw [hns]; show j.s.s + fr.length + 0 ≤ _; omega
      · intro hf
        have h1 := (DevL.lays_free _ j.d h.live hf hw1).2
        have h2 := (DevL.lays_free _ j.ckpt1.1 hb h1 hw2).1
        have : j.ckpt2.2 = 0 := h2
        rw [this] at a2'; exact absurd a2' (by decide)
  · right
    have a' : j.ckpt1.2 = 4 := a
    rw [if_pos (by rw [a']; decide)]
    refine ⟨a', b, DevL.lays_ok h.ok _, (h.safe_more _ (fun w hw => hall1 w (take_mem hw)) j.ckpt1.1 c e).mono (by omega) (fun _ h => h), fun hf => ?_⟩
    have := (DevL.lays_free _ j.d h.live hf hw1).1
    have h2 : j.ckpt1.2 = 0 := this
    rw [h2] at a'; exact absurd a' (by decide)
def updC (C : Nat → Bytes) (ws : List WrL) : Nat → Bytes := fun i => lastP ws i (C i)
theorem lastP_only (p : List WrL) (w : WrL) (s : Bytes) (hw : w ∈ p) (h : ∀ x ∈ p, x.1 = w.1 → x.2 = w.2) : lastP p w.1 s = w.2 := by
  obtain ⟨x, hx, h1, h2⟩ := lastP_mem p w.1 s ⟨w, hw, rfl⟩
  rw [h2]; exact h x hx h1
theorem logW_mem (j : JL) (ws : List WrL) (w : WrL) : w ∈ j.logW ws ↔ ∃ i, i ≤ ws.length ∧ w = (j.place (i + 1), (ws.map (·.2) ++ [noughtsL]).getD i []) := by
  unfold JL.logW
  constructor
  · intro h
    obtain ⟨x, hx, rfl⟩ := List.mem_map.1 h
    have hx' := List.mem_zipIdx_iff_getElem?.1 hx
    have hlt : x.2 < ws.length + 1 := by
      have := (List.getElem?_eq_some_iff.1 hx').1
      simpa using this
    exact ⟨x.2, by omega, by rw [List.getD_eq_getElem?_getD, hx']; rfl⟩
  · rintro ⟨i, hi, rfl⟩
    refine List.mem_map.2 ⟨((ws.map (·.2) ++ [noughtsL]).getD i [], i), ?_, rfl⟩
    rw [List.mem_zipIdx_iff_getElem?]
    have hlt : i < (ws.map (·.2) ++ [noughtsL]).length := by simp; omega
    show (ws.map (·.2) ++ [noughtsL])[i]? = some ((ws.map (·.2) ++ [noughtsL]).getD i [])
    rw [List.getD_eq_getElem?_getD, List.getElem?_eq_getElem hlt]; rfl
theorem torn_end (s : Bytes) (hs : s.length = 256) (c : Nat) (hc : c < 256) : (s.take c ++ noughtsL.drop c).drop 252 ≠ endT := by
  intro h
  have h3 : ((s.take c ++ noughtsL.drop c).drop 252)[3]? = some 69 := by rw [h]; rfl
  rw [List.getElem?_drop, List.getElem?_append_right (by simp [hs]; omega)] at h3
  simp only [List.length_take, hs, List.getElem?_drop, noughtsL, List.getElem?_replicate] at h3
  rw [if_pos (by omega)] at h3
  exact absurd h3 (by decide)
theorem noughts_end : noughtsL.drop 252 ≠ endT := by unfold noughtsL; decide +kernel
theorem flatten_snoc {α : Type} (l : List (List α)) (x : List α) : (l ++ [x]).flatten = l.flatten ++ x := by simp
theorem com_run {lg K : Nat} {j : JL} {fr : List (List WrL)} {C : Nat → Bytes} (h : JInv lg K j fr C) (ws : List WrL) (hw : WrOk ws) (hh : ∀ w ∈ ws, 2 + lg ≤ w.1 ∧ w.1 < j.d.l.length) (hroom : ws.length + 2 ≤ lg - j.used) (hK : K + 3 < 18446744073709551616) :
    ((j.com ws).2 = 0 ∧ JInv lg (K + 1) (j.com ws).1 (fr ++ [ws]) (updC C ws) ∧ (j.com ws).1.d.l.length = j.d.l.length) ∨
    ((j.com ws).2 = 4 ∧ (j.com ws).1.d.dead = true ∧ (j.com ws).1.d.Ok ∧ Safe lg (K + 1) (j.com ws).1.d (fun D => D = C ∨ D = updC C ws)) := by
  have hr := h.hrec
  have hlg := h.hlog
  have hlog := hr.hlog; have hleast := hr.hleast; have hk := hr.hk
  have hu := hr.hchain.used
  have hus := h.hused
  have hnK := h.hnextK; have hn := h.hnext; have heK := h.he
  have hpl : ∀ m, j.place m = logAt j.s (usedF 0 fr + m) := h.place_eq
  have hla : ∀ m, 2 ≤ j.place m ∧ j.place m < 2 + j.s.log := fun m => by rw [hpl]; exact logAt_lt j.s _ (by omega)
  have hinj : ∀ a b, usedF 0 fr + a < j.s.log → usedF 0 fr + b < j.s.log → j.place a = j.place b → a = b := fun a b ha hb e => by
    rw [hpl, hpl] at e
    have := logAt_inj j.s hr.hplace _ _ ha hb e
    omega
  have hw1 : ∀ w ∈ j.logW ws, w.1 < j.d.l.length ∧ w.2.length = 256 := by
    intro w hx
    obtain ⟨i, hi, rfl⟩ := (logW_mem j ws w).1 hx
    refine ⟨by have := (hla (i + 1)).2; show j.place (i + 1) < _; omega, ?_⟩
    show ((ws.map (·.2) ++ [noughtsL]).getD i []).length = 256
    refine DevL.getD_mem_length (fun s hs => ?_) (by simp; omega)
    rcases List.mem_append.1 hs with hs | hs
    · obtain ⟨x, hx, rfl⟩ := List.mem_map.1 hs
      exact (hw.2.2 x hx).2
    · rw [List.mem_singleton.1 hs]; exact noughts_len
  have hall1 : ∀ w ∈ j.logW ws, (w.1 < j.d.l.length ∧ w.2.length = 256) ∧ Allowed j.s fr w := fun w hx => ⟨hw1 w hx, by
    obtain ⟨i, hi, rfl⟩ := (logW_mem j ws w).1 hx
    exact .inr ⟨usedF 0 fr + (i + 1), by omega, by omega, hpl _, fun e => by omega⟩⟩
  have hlw : ∀ i, i ≤ ws.length → ∀ s, lastP (j.logW ws) (j.place (i + 1)) s = (ws.map (·.2) ++ [noughtsL]).getD i [] := fun i hi s => by
    refine lastP_only (j.logW ws) (j.place (i + 1), (ws.map (·.2) ++ [noughtsL]).getD i []) s ((logW_mem j ws _).2 ⟨i, hi, rfl⟩) (fun x hx e => ?_)
    obtain ⟨i2, hi2, rfl⟩ := (logW_mem j ws x).1 hx
    have := hinj (i2 + 1) (i + 1) (by omega) (by omega) e
    rw [show i2 = i by omega]
  have hno : ∀ i, (i < 2 ∨ 2 + j.s.log ≤ i ∨ i = j.place 0) → ∀ w ∈ j.logW ws, w.1 ≠ i := fun i hi w hx e => by
    obtain ⟨m, hm, rfl⟩ := (logW_mem j ws w).1 hx
    have := hla (m + 1)
    rcases hi with hi | hi | hi
    · simp only at e; omega
    · simp only at e; omega
    · have := hinj (m + 1) 0 (by omega) (by omega) (by rw [← hi]; exact e)
      omega
  unfold JL.com
  rcases DevL.lays_run _ j.d h.live hw1 with ⟨a, b, c, e⟩ | ⟨a, b, c, k, e⟩
  · have a' : (j.com1 ws).2 = 0 := a
    rw [if_neg (by rw [a']; simp)]
    have hok1 : (j.com1 ws).1.Ok := DevL.lays_ok h.ok _
    have hb : (j.com1 ws).1.dead = false := b
    have hl : (j.com1 ws).1.l = layP j.d.l (j.d.p ++ j.logW ws) := c
    have hp : (j.com1 ws).1.p = [] := e
    have hlen : (j.com1 ws).1.l.length = j.d.l.length := by rw [hl, layP_length]
    have hpq : ∀ w ∈ j.d.p ++ j.logW ws, w.1 < j.d.l.length ∧ w.2.length = 256 := fun w hx => by
      rcases List.mem_append.1 hx with hx | hx
      · exact h.ok.p w hx
      · exact hw1 w hx
    have hrec1 : RecS (j.com1 ws).1.l j.s j.k fr C := by
      rw [hl]
      refine hr.img hpq (fun w hx => ?_) (lay_img _ _ h.ok.l hpq)
      rcases List.mem_append.1 hx with hx | hx
      · exact h.allowed w hx
      · exact (hall1 w hx).2
    have hg1 : ∀ i, i < j.d.l.length → at' (j.com1 ws).1.l i = lastP (j.logW ws) i (lastP j.d.p i (at' j.d.l i)) := fun i hi => by
      rw [hl, layP_at _ _ _ hi, lastP_append]
    have hlowp : ∀ i, i < 2 + j.s.log → ∀ s, lastP j.d.p i s = s := fun i hi s => lastP_none _ _ _ (fun w hx e => by have := (h.pend w hx).1; omega)
    have hhome : ∀ i, 2 + j.s.log ≤ i → i < (j.com1 ws).1.l.length → at' (j.com1 ws).1.l i = C i := fun i h1 h2 => by
      rw [hlen] at h2
      rw [hg1 i h2, lastP_none _ _ _ (hno i (.inr (.inl h1)))]
      exact h.get i (by omega) h2
    have hend0 : at' (j.com1 ws).1.l (j.place 0) = noughtsL := by
      rw [hg1 _ (by have := (hla 0).2; omega), lastP_none _ _ _ (hno _ (.inr (.inr rfl))), hlowp _ (hla 0).2]
      have := h.hend
      rw [hus] at this
      rw [hpl]; exact this
    have hbody : ∀ i, i ≤ ws.length → at' (j.com1 ws).1.l (j.place (i + 1)) = (ws.map (·.2) ++ [noughtsL]).getD i [] := fun i hi => by
      rw [hg1 _ (by have := (hla (i + 1)).2; omega)]
      exact hlw i hi _
    have hold1 : OldX (at' (j.com1 ws).1.l (1 - j.k)) j.s := by
      rw [hg1 _ (by omega), lastP_none _ _ _ (hno _ (.inl (by omega))), hlowp _ (by omega)]
      exact h.old
    have hw2 : ∀ w ∈ [(j.place 0, headL j.next ws)], w.1 < (j.com1 ws).1.l.length ∧ w.2.length = 256 := by
      intro w hx; rw [List.mem_singleton] at hx; subst hx
      exact ⟨by have := (hla 0).2; show j.place 0 < _; omega, headL_length _ _ hw.2.1⟩
    have hg2 : ∀ cc i, at' (tornW (j.com1 ws).1.l (j.place 0, headL j.next ws) cc) i = if j.place 0 = i then (headL j.next ws).take cc ++ (at' (j.com1 ws).1.l i).drop cc else at' (j.com1 ws).1.l i := fun cc i => tornW_get _ _ _ _ (hw2 _ (List.mem_singleton.2 rfl)).1
    have hso := hrec1.ok.1
    have hfull : ∀ cc, 256 ≤ cc → RecS (tornW (j.com1 ws).1.l (j.place 0, headL j.next ws) cc) j.s j.k (fr ++ [ws]) (updC C ws) := fun cc hcc => by
      have hnext : (nextS j.s (fr ++ [ws])).Ok := by
        have := hrec1.hmax
        have := Nat.mod_lt (j.s.place + usedF 0 (fr ++ [ws])) (show 0 < j.s.log by omega)
        refine ⟨?_, ?_, ?_, ?_⟩
        · show j.s.e + 1 < _; omega
        · show j.s.s + (fr ++ [ws]).length < _; rw [List.length_append, List.length_singleton]; omega
        · show j.s.log < _; omega
        · show (j.s.place + usedF 0 (fr ++ [ws])) % j.s.log < _; omega
      have hoth : ∀ i, i ≠ j.place 0 → at' (tornW (j.com1 ws).1.l (j.place 0, headL j.next ws) cc) i = at' (j.com1 ws).1.l i := fun i hi => by rw [hg2, if_neg (Ne.symm hi)]
      have hhead : at' (tornW (j.com1 ws).1.l (j.place 0, headL j.next ws) cc) (j.place 0) = headL j.next ws := by
        rw [hg2, if_pos rfl, List.take_of_length_le (by rw [headL_length _ _ hw.2.1]; exact hcc), List.drop_of_length_le (by rw [hend0, noughts_len]; exact hcc), List.append_nil]
      refine ⟨by rw [tornW_length]; exact hrec1.hmax, tornW_all _ _ _ hok1.l (hw2 _ (List.mem_singleton.2 rfl)).1 (hw2 _ (List.mem_singleton.2 rfl)).2, hleast, by rw [tornW_length]; omega, hr.hplace, hr.he, by rw [List.length_append, List.length_singleton]; omega, hk, ?_, ?_, ?_, ?_⟩
      · rw [hoth _ (by have := (hla 0).1; omega)]; exact hrec1.hslot
      · rw [hoth _ (by have := (hla 0).1; omega)]
        exact hold1.other hnext (by show j.s.e ≤ j.s.e + 1; omega)
      · refine Chain.snoc (tornW_length _ _ _) ws hw (fun w hx => by rw [hlen, hlg]; exact hh w hx) hrec1.hchain (fun m hm => hoth _ (fun e => ?_)) (by omega) (fun i hi => ?_) ?_
        · rw [hpl] at e
          have := logAt_inj j.s hr.hplace m (usedF 0 fr + 0) (by omega) (by omega) e
          omega
        · rw [← hpl, ← hn]
          cases i with
          | zero => rw [hhead]; rfl
          | succ i =>
            rw [hoth _ (fun e => by have := hinj (i + 1) 0 (by omega) (by omega) e; omega), hbody i (by omega)]
            unfold packL
            rw [List.getD_cons_succ, List.getD_eq_getElem?_getD, List.getD_eq_getElem?_getD, List.getElem?_append_left (by simp; omega)]
        · have := hpl (ws.length + 1)
          rw [← Nat.add_assoc] at this
          rw [← this, hoth _ (fun e => by have := hinj (ws.length + 1) 0 (by omega) (by omega) e; omega), hbody ws.length (Nat.le_refl _)]
          rw [List.getD_eq_getElem?_getD, List.getElem?_append_right (by simp)]
          simp only [List.length_map, Nat.sub_self, List.getElem?_cons_zero, Option.getD_some]
          exact noughts_end
      · intro i h1 h2
        rw [tornW_length] at h2
        rw [hoth i (by have := (hla 0).2; omega), hhome i h1 h2, flatten_snoc, lastP_append]
        unfold updC
        by_cases hx : ∃ w ∈ fr.flatten, w.1 = i
        · congr 1
          rw [lastP_some _ _ _ (at' (j.com1 ws).1.l i) hx]
          exact hrec1.hhome i h1 h2
        · rw [lastP_none _ _ _ (fun w hw e => hx ⟨w, hw, e⟩)]
    have htorn : ∀ cc, cc < 256 → RecS (tornW (j.com1 ws).1.l (j.place 0, headL j.next ws) cc) j.s j.k fr C := fun cc hcc => by
      have hoth : ∀ i, i ≠ j.place 0 → at' (tornW (j.com1 ws).1.l (j.place 0, headL j.next ws) cc) i = at' (j.com1 ws).1.l i := fun i hi => by rw [hg2, if_neg (Ne.symm hi)]
      refine ⟨by rw [tornW_length]; exact hrec1.hmax, tornW_all _ _ _ hok1.l (hw2 _ (List.mem_singleton.2 rfl)).1 (hw2 _ (List.mem_singleton.2 rfl)).2, hleast, by rw [tornW_length]; omega, hr.hplace, hr.he, hr.hs, hk, ?_, ?_, ?_, ?_⟩
      · rw [hoth _ (by have := (hla 0).1; omega)]; exact hrec1.hslot
      · rw [hoth _ (by have := (hla 0).1; omega)]; exact hrec1.hother
      · refine hrec1.hchain.ext (tornW_length _ _ _) (fun m hm => hoth _ (fun e => ?_)) ?_
        · rw [hpl] at e
          have := logAt_inj j.s hr.hplace m (usedF 0 fr + 0) (by omega) (by omega) e
          omega
        · have := hpl 0
          rw [Nat.add_zero] at this
          rw [← this, hg2, if_pos rfl, hend0]
          exact torn_end _ (headL_length _ _ hw.2.1) cc hcc
      · intro i h1 h2
        rw [tornW_length] at h2
        rw [hoth i (by have := (hla 0).2; omega)]
        exact hrec1.hhome i h1 h2
    rcases DevL.lays_run _ (j.com1 ws).1 hb hw2 with ⟨a2, b2, c2, e2⟩ | ⟨a2, b2, c2, k2, e2⟩
    · have a2' : (j.com2 ws).2 = 0 := a2
      rw [if_neg (by rw [a2']; simp)]
      have hok2 : (j.com2 ws).1.Ok := DevL.lays_ok hok1 _
      have hb2 : (j.com2 ws).1.dead = false := b2
      have hl2 : (j.com2 ws).1.l = tornW (j.com1 ws).1.l (j.place 0, headL j.next ws) 256 := by
        have : (j.com2 ws).1.l = layP (j.com1 ws).1.l ((j.com1 ws).1.p ++ [(j.place 0, headL j.next ws)]) := c2
        rw [this, hp, List.nil_append, layP_one _ _ (hw2 _ (List.mem_singleton.2 rfl)).1 hok1.l (hw2 _ (List.mem_singleton.2 rfl)).2]
      have hp2 : (j.com2 ws).1.p = [] := e2
      have hlen2 : (j.com2 ws).1.l.length = j.d.l.length := by rw [hl2, tornW_length, hlen]
      have hrec2 : RecS (j.com2 ws).1.l j.s j.k (fr ++ [ws]) (updC C ws) := by rw [hl2]; exact hfull 256 (Nat.le_refl _)
      have hoth : ∀ i, i ≠ j.place 0 → at' (j.com2 ws).1.l i = at' (j.com1 ws).1.l i := fun i hi => by rw [hl2, hg2, if_neg (Ne.symm hi)]
      have hw3 : ∀ w ∈ ws, w.1 < (j.com2 ws).1.l.length ∧ w.2.length = 256 := fun w hx => ⟨by rw [hlen2]; exact (hh w hx).2, (hw.2.2 w hx).2⟩
      have hall3 : ∀ w ∈ ws, Allowed j.s (fr ++ [ws]) w := fun w hx => .inl ⟨by have := (hh w hx).1; omega, w, by rw [flatten_snoc]; exact List.mem_append_right _ hx, rfl⟩
      rcases DevL.writes_run ws (j.com2 ws).1 hb2 hw3 with ⟨a3, b3, c3, e3⟩ | ⟨a3, b3, c3, k3, e3⟩
      · left
        have hl3 : (j.com3 ws).1.l = (j.com2 ws).1.l := c3
        have hp3 : (j.com3 ws).1.p = ws := by
          have : (j.com3 ws).1.p = (j.com2 ws).1.p ++ ws := e3
          rw [this, hp2, List.nil_append]
        refine ⟨a3, ⟨⟨DevL.writes_ok hok2 ws, b3, ?_, hlg, by show j.s.e ≤ _; omega, ?_, ?_, ?_, ?_, ?_⟩, ?_, ?_, by show (j.com3 ws).1.p.length ≤ 48; rw [hp3]; exact hw.2.1⟩, ?_⟩
        · show RecS (j.com3 ws).1.l j.s j.k (fr ++ [ws]) (updC C ws)
          rw [hl3]; exact hrec2
        · show (j.next + 1) % _ = j.s.s + (fr ++ [ws]).length
          rw [List.length_append, List.length_singleton, Nat.mod_eq_of_lt (by omega)]; omega
        · show (j.next + 1) % _ ≤ _
          rw [Nat.mod_eq_of_lt (by omega)]; omega
        · show j.used + ws.length + 1 = _
          rw [usedF_snoc, hus]
        · intro w hx
          have hx' : w ∈ ws := by rw [← hp3]; exact hx
          exact ⟨(hh w hx').1, w, by rw [flatten_snoc]; exact List.mem_append_right _ hx', rfl⟩
        · intro i h1 h2
          show (j.com3 ws).1.get i = _
          unfold DevL.get
          rw [hp3, hl3]
          show lastP ws i (at' (j.com2 ws).1.l i) = updC C ws i
          have h2' : i < (j.com2 ws).1.l.length := by rw [← hl3]; exact h2
          rw [hoth i (by have := (hla 0).2; omega), hhome i (by omega) (by omega)]
          rfl
        · show OldX (at' (j.com3 ws).1.l (1 - j.k)) j.s
          rw [hl3, hoth _ (by have := (hla 0).1; omega)]; exact hold1
        · show at' (j.com3 ws).1.l (logAt j.s (j.used + ws.length + 1)) = noughtsL
          have := hpl (ws.length + 1)
          rw [hus, hl3, Nat.add_assoc, ← this, hoth _ (fun e => by have := hinj (ws.length + 1) 0 (by omega) (by omega) e; omega), hbody ws.length (Nat.le_refl _)]
          rw [List.getD_eq_getElem?_getD, List.getElem?_append_right (by simp)]
          simp
        · show (j.com3 ws).1.l.length = _
          rw [hl3, hlen2]
      · right
        refine ⟨a3, b3, DevL.writes_ok hok2 ws, ?_⟩
        intro l' hi
        have hl3 : (j.com3 ws).1.l = (j.com2 ws).1.l := c3
        have hp3 : (j.com3 ws).1.p = ws.take k3 := by
          have : (j.com3 ws).1.p = (j.com2 ws).1.p ++ ws.take k3 := e3
          rw [this, hp2, List.nil_append]
        have hi' : Img (j.com2 ws).1.l (ws.take k3) l' := by rw [← hl3, ← hp3]; exact hi
        refine ⟨_, .inr rfl, j.s, j.k, fr ++ [ws], hrec2.img (fun w hx => hw3 w (take_mem hx)) (fun w hx => hall3 w (take_mem hx)) hi', hlg, by omega, ?_⟩
        rw [List.length_append, List.length_singleton]; omega
    · right
      have a2' : (j.com2 ws).2 = 4 := a2
      rw [if_pos (by rw [a2']; decide)]
      refine ⟨a2', b2, DevL.lays_ok hok1 _, ?_⟩
      intro l' hi
      have hl2 : (j.com2 ws).1.l = (j.com1 ws).1.l := c2
      have hp2 : (j.com2 ws).1.p = [(j.place 0, headL j.next ws)].take k2 := by
        have : (j.com2 ws).1.p = (j.com1 ws).1.p ++ [(j.place 0, headL j.next ws)].take k2 := e2
        rw [this, hp, List.nil_append]
      have hi' : Img (j.com1 ws).1.l ([(j.place 0, headL j.next ws)].take k2) l' := by rw [← hl2, ← hp2]; exact hi
      rcases img_take_one hi' with rfl | ⟨cc, rfl⟩
      · exact ⟨_, .inl rfl, j.s, j.k, fr, hrec1, hlg, by omega, by omega⟩
      · by_cases hcc : cc < 256
        · exact ⟨_, .inl rfl, j.s, j.k, fr, htorn cc hcc, hlg, by omega, by omega⟩
        · exact ⟨_, .inr rfl, j.s, j.k, fr ++ [ws], hfull cc (by omega), hlg, by omega, by rw [List.length_append, List.length_singleton]; omega⟩
  · right
    have a' : (j.com1 ws).2 = 4 := a
    rw [if_pos (by rw [a']; decide)]
    exact ⟨a', b, DevL.lays_ok h.ok _, (h.toJPre.safe_more _ (fun w hx => hall1 w (take_mem hx)) (j.com1 ws).1 c e).mono (by omega) (fun _ h => .inl h)⟩
theorem JPre.mono {lg K K' : Nat} {j : JL} {fr : List (List WrL)} {C : Nat → Bytes} (h : JPre lg K j fr C) (hk : K ≤ K') : JPre lg K' j fr C :=
  ⟨h.ok, h.live, h.hrec, h.hlog, Nat.le_trans h.he hk, h.hnext, Nat.le_trans h.hnextK hk, h.hused, h.pend, h.get⟩
theorem JInv.mono {lg K K' : Nat} {j : JL} {fr : List (List WrL)} {C : Nat → Bytes} (h : JInv lg K j fr C) (hk : K ≤ K') : JInv lg K' j fr C :=
  ⟨h.toJPre.mono hk, h.old, h.hend, h.plen⟩
theorem DevL.lays_len (d : DevL) (ws : List WrL) : (d.lays ws).1.l.length = d.l.length := by
  unfold DevL.lays
  split
  · rw [DevL.flush_len, DevL.writes_len]
  · exact DevL.writes_len _ _
theorem JL.ckpt_len (j : JL) : j.ckpt.1.d.l.length = j.d.l.length := by
  unfold JL.ckpt JL.ckpt2 JL.ckpt1
  split
  · exact DevL.lays_len _ _
  · split
    · show (DevL.lays _ _).1.l.length = _
      rw [DevL.lays_len, DevL.lays_len]
    · show (DevL.lays _ _).1.l.length = _
      rw [DevL.lays_len, DevL.lays_len]
theorem JL.com_len (j : JL) (ws : List WrL) : (j.com ws).1.d.l.length = j.d.l.length := by
  unfold JL.com JL.com3 JL.com2 JL.com1
  split
  · exact DevL.lays_len _ _
  · split
    · show (DevL.lays _ _).1.l.length = _
      rw [DevL.lays_len, DevL.lays_len]
    · show (DevL.writes _ _).1.l.length = _
      rw [DevL.writes_len, DevL.lays_len, DevL.lays_len]
theorem JL.commit_len (j : JL) (ws : List WrL) : (j.commit ws).1.d.l.length = j.d.l.length := by
  unfold JL.commit
  split
  · split
    · exact j.ckpt_len
    · rw [JL.com_len, j.ckpt_len]
  · exact j.com_len ws
theorem commit_run {lg K : Nat} {j : JL} {fr : List (List WrL)} {C : Nat → Bytes} (h : JInv lg K j fr C) (ws : List WrL) (hw : WrOk ws) (hh : ∀ w ∈ ws, 2 + lg ≤ w.1 ∧ w.1 < j.d.l.length) (hK : K + 4 < 18446744073709551616) :
    ((j.commit ws).2 = 0 ∧ ∃ fr', JInv lg (K + 2) (j.commit ws).1 fr' (updC C ws)) ∨
    ((j.commit ws).2 = 4 ∧ (j.commit ws).1.d.dead = true ∧ (j.commit ws).1.d.Ok ∧ Safe lg (K + 2) (j.commit ws).1.d (fun D => D = C ∨ D = updC C ws)) := by
  have hlg := h.hlog
  have hleast := h.hrec.hleast
  unfold JL.commit
  by_cases hroom : ws.length + 2 > j.s.log - j.used
  · rw [if_pos hroom]
    rcases ckpt_run h.toJPre (by omega) with ⟨a, b, c, _⟩ | ⟨a, b, c, e, _⟩
    · rw [if_neg (by rw [a]; simp)]
      have hl := j.ckpt_len
      have hu := b.hused
      rcases com_run b ws hw (fun w hx => by rw [hl]; exact hh w hx) (by rw [hu]; show _ ≤ lg - 0; have := hw.2.1; omega) (by omega) with ⟨a2, b2, _⟩ | ⟨a2, b2, c2, e2⟩
      · exact .inl ⟨a2, _, b2⟩
      · exact .inr ⟨a2, b2, c2, e2⟩
    · rw [if_pos (by rw [a]; decide)]
      exact .inr ⟨a, b, c, e.mono (by omega) (fun _ h => .inl h)⟩
  · rw [if_neg hroom]
    rcases com_run h ws hw hh (by omega) (by omega) with ⟨a2, b2, _⟩ | ⟨a2, b2, c2, e2⟩
    · exact .inl ⟨a2, _, b2.mono (by omega)⟩
    · exact .inr ⟨a2, b2, c2, e2.mono (by omega) (fun _ h => h)⟩
theorem read_frame (f : Nat → Bytes) (P : List Bytes) (m : Nat) (h : P.length ≤ m) (hf : ∀ i, i < P.length → f i = P.getD i []) : ∃ r, (List.range m).map f = P ++ r := by
  refine ⟨((List.range m).map f).drop P.length, ?_⟩
  have e : P = ((List.range m).map f).take P.length := by
    refine List.ext_getElem (by simp; omega) (fun i h1 h2 => ?_)
    simp only [List.getElem_take, List.getElem_map, List.getElem_range]
    rw [hf i h1, List.getD_eq_getElem?_getD, List.getElem?_eq_getElem h1]; rfl
  conv => rhs; rw [e]
  rw [List.length_take, List.length_map, List.length_range, Nat.min_eq_left h, List.take_append_drop]
theorem get_low {d : DevL} {lo : Nat} (hp : ∀ w ∈ d.p, lo ≤ w.1) (i : Nat) (hi : i < lo) : d.get i = at' d.l i := lastP_none _ _ _ (fun w hw e => by have := hp w hw; omega)
theorem frame_cons {j : JL} {ws : List WrL} {fr : List (List WrL)} (hl : 50 ≤ j.s.log) (hc : Chain j.d.l j.s j.used j.next (ws :: fr)) (hn : j.next < 18446744073709551616) (hp : ∀ w ∈ j.d.p, 2 + j.s.log ≤ w.1) : j.frame = some ws := by
  obtain ⟨h1, h2, h3, h4, _⟩ := hc
  have hlen : (packL j.next ws).length = ws.length + 1 := by simp [packL]
  obtain ⟨r, hr⟩ := read_frame (fun i => j.d.get (j.place i)) (packL j.next ws) (min (j.s.log - j.used) 49) (by rw [hlen]; have := h1.2.1; omega) (fun i hi => by
    show j.d.get (logAt j.s (j.used + i)) = _
    rw [hlen] at hi
    rw [get_low hp _ (logAt_lt j.s _ (by omega)).2]
    exact h4 i (by omega))
  unfold JL.frame
  rw [hr, unpack_pack _ hn _ h1]
  simp only []
  rw [if_pos ⟨trivial, fun w hw => h2 w hw⟩]
theorem frame_nil {j : JL} (hl : 50 ≤ j.s.log) (hc : Chain j.d.l j.s j.used j.next []) (hp : ∀ w ∈ j.d.p, 2 + j.s.log ≤ w.1) : j.frame = none := by
  obtain ⟨h1, h2⟩ := hc
  obtain ⟨m, hm⟩ : ∃ m, min (j.s.log - j.used) 49 = m + 1 := ⟨min (j.s.log - j.used) 49 - 1, by omega⟩
  have e : unpackL ((List.range (min (j.s.log - j.used) 49)).map fun i => j.d.get (j.place i)) = none := by
    rw [hm, List.range_succ_eq_map, List.map_cons]
    refine unpack_none _ _ ?_
    show (j.d.get (logAt j.s (j.used + 0))).drop 252 ≠ endT
    rw [get_low hp _ (logAt_lt j.s _ (by omega)).2]
    exact h2
  unfold JL.frame
  rw [e]
theorem usedF_len (u : Nat) (fr : List (List WrL)) : u + fr.length ≤ usedF u fr := by
  induction fr generalizing u with
  | nil => exact Nat.le_refl _
  | cons ws fr ih => rw [usedF_cons, List.length_cons]; have := ih (u + ws.length + 1); omega
structure OpenPre (lg K : Nat) (d : DevL) (s : SlotL) (k : Nat) (fr : List (List WrL)) (C : Nat → Bytes) : Prop where
  ok : d.Ok
  live : d.dead = false
  hrec : RecS d.l s k fr C
  hlog : s.log = lg
  he : s.e ≤ K
  hs : s.s + fr.length ≤ K
  pend : ∀ w ∈ d.p, 2 + lg ≤ w.1 ∧ ∃ x ∈ fr.flatten, x.1 = w.1
structure Mid (lg K : Nat) (d : DevL) (j : JL) (s : SlotL) (k : Nat) (fr1 fr2 : List (List WrL)) : Prop where
  ok : j.d.Ok
  live : j.d.dead = false
  hl : j.d.l = d.l
  hp : j.d.p = d.p ++ fr1.flatten
  hs : j.s = s
  hk : j.k = k
  hn : j.next = s.s + fr1.length
  hu : j.used = usedF 0 fr1
  hc : Chain d.l s (usedF 0 fr1) (s.s + fr1.length) fr2
  hf : d.fuse = -1 → j.d.fuse = -1
theorem replay_run {lg K : Nat} {d : DevL} {s : SlotL} {k : Nat} {fr : List (List WrL)} {C : Nat → Bytes} (h : OpenPre lg K d s k fr C) (hK : K + 3 < 18446744073709551616) (m : Nat) :
    ∀ (fr2 fr1 : List (List WrL)) (j : JL), fr = fr1 ++ fr2 → Mid lg K d j s k fr1 fr2 → fr2.length < m →
      ((JL.replay m j).2 = 0 ∧ JPre lg K (JL.replay m j).1 fr C ∧ (d.fuse = -1 → (JL.replay m j).1.d.fuse = -1)) ∨
      ((JL.replay m j).2 = 4 ∧ (JL.replay m j).1.d.dead = true ∧ (JL.replay m j).1.d.Ok ∧ Safe lg K (JL.replay m j).1.d (· = C) ∧ d.fuse ≠ -1) := by
  induction m with
  | zero => intro fr2 fr1 j _ _ hlt; omega
  | succ m ih =>
    intro fr2 fr1 j hfr M hlt
    have hr := h.hrec
    have hlog := h.hlog
    have hpend : ∀ w ∈ j.d.p, 2 + lg ≤ w.1 ∧ ∃ x ∈ fr.flatten, x.1 = w.1 := fun w hw => by
      rw [M.hp] at hw
      rcases List.mem_append.1 hw with hw | hw
      · exact h.pend w hw
      · obtain ⟨ws, hws, hww⟩ := List.mem_flatten.1 hw
        have := (hr.hchain.ok ws (by rw [hfr]; exact List.mem_append_left _ hws)).2 w hww
        exact ⟨by omega, w, by rw [hfr, List.flatten_append]; exact List.mem_append_left _ hw, rfl⟩
    have hpl : ∀ w ∈ j.d.p, 2 + j.s.log ≤ w.1 := fun w hw => by rw [M.hs, hlog]; exact (hpend w hw).1
    have hsn := h.hs
    have hlen : fr.length = fr1.length + fr2.length := by rw [hfr, List.length_append]
    cases fr2 with
    | nil =>
      have hfr' : fr = fr1 := by rw [hfr, List.append_nil]
      rw [JL.replay, frame_nil (by rw [M.hs]; exact hr.hleast) (by rw [M.hl, M.hs, M.hu, M.hn]; exact M.hc) hpl]
      left
      refine ⟨rfl, ⟨M.ok, M.live, ?_, by rw [M.hs]; exact hlog, by rw [M.hs]; exact h.he, by rw [M.hn, M.hs, hfr'], by rw [M.hn]; rw [hlen] at hsn; omega, by rw [M.hu, hfr'], hpend, ?_⟩, M.hf⟩
      · rw [M.hl, M.hs, M.hk]; exact hr
      · intro i h1 h2
        rw [M.hl] at h2
        unfold DevL.get
        rw [M.hl, M.hp, lastP_append, ← hfr']
        by_cases hx : ∃ x ∈ fr.flatten, x.1 = i
        · rw [lastP_some _ _ _ (at' d.l i) hx]
          exact hr.hhome i (by omega) h2
        · rw [lastP_none d.p i _ (fun w hw e => by
            obtain ⟨x, hx1, hx2⟩ := (h.pend w hw).2
            exact hx ⟨x, hx1, hx2.trans e⟩)]
          exact hr.hhome i (by omega) h2
    | cons ws fr2 =>
      have hc := M.hc
      have hcc : Chain j.d.l j.s j.used j.next (ws :: fr2) := by rw [M.hl, M.hs, M.hu, M.hn]; exact hc
      rw [List.length_cons] at hlen hlt
      rw [JL.replay, frame_cons (by rw [M.hs]; exact hr.hleast) hcc (by rw [M.hn]; omega) hpl]
      simp only []
      have hw : ∀ w ∈ ws, w.1 < j.d.l.length ∧ w.2.length = 256 := fun w hx => ⟨by rw [M.hl]; exact (hc.2.1 w hx).2, (hc.1.2.2 w hx).2⟩
      rcases DevL.writes_run ws j.d M.live hw with ⟨a, b, c, e⟩ | ⟨a, b, c, q, e⟩
      · rw [if_pos a]
        refine ih fr2 (fr1 ++ [ws]) _ (by rw [hfr, List.append_assoc]; rfl) ⟨DevL.writes_ok M.ok ws, b, c.trans M.hl, ?_, M.hs, M.hk, ?_, ?_, ?_, fun hf => (DevL.writes_free ws j.d M.live (M.hf hf) hw).2⟩ (by omega)
        · show (j.d.writes ws).1.p = _
          rw [e, M.hp, flatten_snoc, List.append_assoc]
        · show (j.next + 1) % _ = _
          rw [M.hn, List.length_append, List.length_singleton, Nat.mod_eq_of_lt (by omega)]; omega
        · show j.used + ws.length + 1 = _
          rw [usedF_snoc, M.hu]
        · rw [usedF_snoc, List.length_append, List.length_singleton]
          exact hc.2.2.2.2
      · rw [if_neg (by rw [a]; decide)]
        right
        refine ⟨a, b, DevL.writes_ok M.ok ws, ?_, fun hf => ?_⟩
        · intro l' hi
          have hl : (j.d.writes ws).1.l = d.l := c.trans M.hl
          have hi' : Img d.l (j.d.p ++ ws.take q) l' := by rw [← hl, ← e]; exact hi
          refine ⟨C, rfl, s, k, fr, hr.img (fun w hx => ?_) (fun w hx => ?_) hi', hlog, h.he, h.hs⟩
          · rcases List.mem_append.1 hx with hx | hx
            · rw [← M.hl]; exact M.ok.p w hx
            · rw [← M.hl]; exact hw w (take_mem hx)
          · rcases List.mem_append.1 hx with hx | hx
            · exact .inl (by rw [hlog]; exact hpend w hx)
            · refine .inl ⟨(hc.2.1 w (take_mem hx)).1, w, ?_, rfl⟩
              rw [hfr, List.flatten_append, List.flatten_cons]
              exact List.mem_append_right _ (List.mem_append_left _ (take_mem hx))
        · have := (DevL.writes_free ws j.d M.live (M.hf hf) hw).1
          rw [this] at a; exact absurd a (by decide)
theorem open_run {lg K : Nat} {d : DevL} {s : SlotL} {k : Nat} {fr : List (List WrL)} {C : Nat → Bytes} (h : OpenPre lg K d s k fr C) (hK : K + 3 < 18446744073709551616) :
    ((openJ d).2 = 0 ∧ JInv lg (K + 1) (openJ d).1 [] C ∧ (openJ d).1.d.p = [] ∧ (d.fuse = -1 → (openJ d).1.d.fuse = -1)) ∨
    ((openJ d).2 = 4 ∧ (openJ d).1.d.dead = true ∧ (openJ d).1.d.Ok ∧ Safe lg (K + 1) (openJ d).1.d (· = C) ∧ d.fuse ≠ -1) := by
  have hr := h.hrec
  have hlog := hr.hlog; have hleast := hr.hleast
  have hpick := hr.pick
  have hg0 : d.get 0 = at' d.l 0 := get_low (fun w hw => (h.pend w hw).1) 0 (by omega)
  have hg1 : d.get 1 = at' d.l 1 := get_low (fun w hw => (h.pend w hw).1) 1 (by have := h.hlog; omega)
  have hu := hr.hchain.used
  have hul := usedF_len 0 fr
  unfold openJ
  rw [h.live, if_neg (by decide), hg0, hg1, hpick]
  simp only []
  have M : Mid lg K d ⟨d, s, k, s.s, 0⟩ s k [] fr := ⟨h.ok, h.live, rfl, by simp, rfl, rfl, by simp, rfl, hr.hchain, fun h => h⟩
  rcases replay_run h hK (s.log + 1) fr [] _ rfl M (by omega) with ⟨a, b, c⟩ | ⟨a, b, c, e, f⟩
  · rw [if_pos a]
    rcases ckpt_run b (by omega) with ⟨a2, b2, c2, e2⟩ | ⟨a2, b2, c2, e2, f2⟩
    · exact .inl ⟨a2, b2, c2, fun hf => e2 (c hf)⟩
    · exact .inr ⟨a2, b2, c2, e2, fun hf => f2 (c hf)⟩
  · rw [if_neg (by rw [a]; decide)]
    exact .inr ⟨a, b, c, e.mono (by omega) (fun _ h => h), f⟩
theorem crash_open {lg K : Nat} {d : DevL} {S : (Nat → Bytes) → Prop} (hd : d.Ok) (h : Safe lg K d S) (keep : List Bool) (torn cut : Int) (f : Int) (hf : -1 ≤ f) (hf2 : f ≤ 9223372036854775807) : ∃ C, S C ∧ ∃ s k fr, OpenPre lg K { d.crash keep torn cut with fuse := f } s k fr C := by
  obtain ⟨C, hC, s, k, fr, h1, h2, h3, h4⟩ := h _ (crash_img hd keep torn cut)
  have ho := DevL.crash_ok hd keep torn cut
  exact ⟨C, hC, s, k, fr, ⟨ho.pos, ho.max, ho.l, ho.p, hf, hf2⟩, rfl, h1, h2, h3, h4, fun w hw => by simp [DevL.crash] at hw⟩
theorem JPre.open {lg K : Nat} {j : JL} {fr : List (List WrL)} {C : Nat → Bytes} (h : JPre lg K j fr C) : OpenPre lg K j.d j.s j.k fr C :=
  ⟨h.ok, h.live, h.hrec, h.hlog, h.he, by rw [← h.hnext]; exact h.hnextK, h.pend⟩
end
section
open Go.RowKit
theorem ret_int {k : IntKind} {a b : Int} (h : a = b) : Ending.returned (.int k a) = .returned (.int k b) := by rw [h]
theorem ret_bool {a b : Bool} (h : a = b) : Ending.returned (.bool a) = .returned (.bool b) := by rw [h]
theorem int_eq {k : IntKind} {a b : Int} (h : a = b) : Value.int k a = .int k b := by rw [h]
theorem w64b (b : UInt8) : wrap64 (b.toNat : Int) = b.toNat := by
  have := UInt8.toNat_lt b
  exact IntWalk.wrap64_in _ (by omega)
theorem add_head (b j : Nat) : (⟨b, 0, none⟩ : Addr).add j = ⟨b, j, none⟩ := by unfold Addr.add; split <;> simp_all
theorem run_app {P : Program} (W : World) (t ty : TypeId) (base : Nat) (e e' : TypeId) (i : TypeInfo) (z : Value) (size bytes : Nat) (ht : P.underlying t = some (.slice e)) (hi : P.info? e = some i) (hz : i.zero = some z)
    (hsize : i.size = size) (hby : i.bytes = bytes) (hzs : z.cells.size = size) (hsz : 0 < size) (hbz : 0 < bytes)
    (v : Value) (n : Nat) (xs : List Value) (hown : W.ownsRow base e size v n xs)
    (news : Array Value) (hl : news.size = size) (h1 : ∀ u ∈ news.toList, u.oneCell' = true) (hb : (n + 1) * bytes ≤ 140737488355328) (hbase : base ≤ W.heap.size) :
    ∃ g cap w', (Builtin.append_ #[t, t] ty #[v, .slice (some ⟨W.heap.size, 0, none⟩) 1 1]).run P (W.alloc (.cells news e')) = .ok (.slice (some ⟨g, 0, none⟩) (n + 1) cap) w' ∧
      w'.ownsRow base e size (.slice (some ⟨g, 0, none⟩) (n + 1) cap) (n + 1) (xs ++ news.toList) ∧ W.grownBy w' v.ownBlock ∧ (v.ownBlock = some g ∨ W.heap.size < g) ∧ g < w'.heap.size ∧ W.heap.size < w'.heap.size := by
  have h63 : n + 1 ≤ maxLen := by
    have := Nat.le_mul_of_pos_right (n + 1) hbz
    simp only [maxLen]; omega
  obtain ⟨g, cap, w', hr, h2, h3, h4, h5⟩ := run_append_lies (P := P) (W.alloc (.cells news e')) t ty base e i z size bytes ht hi hz hsize hby hzs hsz v n xs (hown.alloc _) ⟨W.heap.size, 0, none⟩ 1 1 news.toList (by simpa using hl)
    (fun j u hj => by
      rw [add_head]
      simp only [World.cell?, heap_alloc_new]
      simpa using hj) h1 (by omega) h63 hb (by simp; omega) (W.heap.size + 1) (by simp)
  refine ⟨g, cap, w', hr, h2, ⟨h3.os.trans rfl, h3.tape.trans rfl, h3.output.trans rfl, by have := h3.size; simp at this; omega, fun k hk hne => ?_⟩, h4.imp id (fun h => by omega), h5, by have := h3.size; simp at this; omega⟩
  rw [h3.block k (by simp; omega) hne, Below.heap_alloc _ _ _ hk]
theorem wpList_app {P : Program} (W : World) {ops : Array Oper} {rest : List Oper} {o : Oper} {a : Act} {Q : Exit → Act → World → Prop} (hgd : o.guard = none) (s x : Operand) (t : TypeId)
    (ho : o.op = .call { callee := .builtin .append, args := #[s, x], argTypes := #[t, t] })
    (base : Nat) (e e' : TypeId) (i : TypeInfo) (z : Value) (size bytes : Nat) (ht : P.underlying t = some (.slice e)) (hi : P.info? e = some i) (hz : i.zero = some z)
    (hsize : i.size = size) (hby : i.bytes = bytes) (hzs : z.cells.size = size) (hsz : 0 < size) (hbz : 0 < bytes)
    (v : Value) (n : Nat) (xs : List Value) (hs : a.eval s = v) (hown : W.ownsRow base e size v n xs)
    (news : Array Value) (hx : a.eval x = .slice (some ⟨W.heap.size, 0, none⟩) 1 1) (hl : news.size = size) (h1 : ∀ u ∈ news.toList, u.oneCell' = true)
    (hb : (n + 1) * bytes ≤ 140737488355328) (hbase : base ≤ W.heap.size)
    (h : ∀ g cap w', w'.ownsRow base e size (.slice (some ⟨g, 0, none⟩) (n + 1) cap) (n + 1) (xs ++ news.toList) → W.grownBy w' v.ownBlock → (v.ownBlock = some g ∨ W.heap.size < g) → g < w'.heap.size → W.heap.size < w'.heap.size →
      wpList P ops Q rest (a.put o.dst (.slice (some ⟨g, 0, none⟩) (n + 1) cap)) w') : wpList P ops Q (o :: rest) a (W.alloc (.cells news e')) := by
  obtain ⟨g, cap, w', hr, h2, h3, h4, h5, h6⟩ := run_app (P := P) W t o.type base e e' i z size bytes ht hi hz hsize hby hzs hsz hbz v n xs hown news hl h1 hb hbase
  refine wpList_plain hgd fun _ hK => ?_
  unfold Oper.wp execOp
  simp only [ho, resolve, invoke, builtin, Sem.run_bind, Sem.run_pure, Result.andThen_ok, List.map_toArray, List.map_cons, List.map_nil, hs, hx, hr]
  exact hK _ _ (h g cap w' h2 h3 h4 h5 h6)
theorem grown_below {B base : Nat} {w0 W w' : World} {v : Value} {e : TypeId} {size n : Nat} {xs : List Value} (hb : Below B w0 W) (hown : W.ownsRow base e size v n xs) (hg : W.grownBy w' v.ownBlock) (hB : B ≤ base) (hW : B ≤ W.heap.size) : Below B w0 w' :=
  hb.grown hg hW (fun k hk => by have := (hown.lt k hk).1; omega)
theorem grown_cell {base : Nat} {W w' : World} {v : Value} {e : TypeId} {size n : Nat} {xs : List Value} (hown : W.ownsRow base e size v n xs) (hg : W.grownBy w' v.ownBlock) {p : Addr} {u : Value} (hp : p.block < base) (hc : W.cell? p = some u) : w'.cell? p = some u :=
  hg.cell hc (fun h => by have := (hown.lt p.block h.symm).1; omega)
theorem owns_value {w : World} {base : Nat} {e : TypeId} {size : Nat} {v : Value} {n : Nat} {xs : List Value} (h : w.ownsRow base e size v n xs) : ∃ a cap, v = .slice a n cap ∧ (0 < n → ∃ g, a = some ⟨g, 0, none⟩) := by
  rcases h.2 with ⟨rfl, rfl⟩ | ⟨g, cap, cur, rfl, _⟩
  · exact ⟨none, 0, rfl, fun h => by omega⟩
  · exact ⟨_, cap, rfl, fun _ => ⟨g, rfl⟩⟩
theorem ownsRow_below {w w' : World} {base : Nat} {e : TypeId} {size : Nat} {v : Value} {n : Nat} {xs : List Value} (h : w.ownsRow base e size v n xs) (hb : Below w.heap.size w w') : w'.ownsRow base e size v n xs :=
  h.kept (row := none) ⟨hb.os, hb.tape, hb.output, hb.size, fun k hk _ => hb.block k hk⟩ (by cases v.ownBlock <;> simp)
theorem bytes_extract (s : List UInt8) (a b : Nat) : ({ data := s.toArray } : ByteArray).extract a b = ⟨((s.drop a).take (b - a)).toArray⟩ := by
  apply ByteArray.ext
  rw [ByteArray.data_extract]
  simp [List.take_drop]
theorem bytes_drop (s : List UInt8) (a : Nat) : ({ data := s.toArray } : ByteArray).extract a s.length = ⟨(s.drop a).toArray⟩ := by
  rw [bytes_extract, List.take_of_length_le (by rw [List.length_drop]; omega)]
theorem bytes_take (s : List UInt8) (a : Nat) : ({ data := s.toArray } : ByteArray).extract 0 a = ⟨(s.take a).toArray⟩ := by
  rw [bytes_extract]; simp
theorem bytes_append (a b : List UInt8) : ({ data := a.toArray } : ByteArray) ++ { data := b.toArray } = ⟨(a ++ b).toArray⟩ := by
  apply ByteArray.ext
  simp
end
end Go.Proofs.YtnmijegmbomfdaaGreatDoor
