/- Joined texts of one proof: what is needed of Keep7, Ply7d, WKeeps. -/
import Derived.Test.YtnmijegmbomfdaaGreatDoorJStt7
import Derived.Test.YtnmijegmbomfdaaGreatDoorJSto2
import Derived.Test.YtnmijegmbomfdaaGreatDoorJWFrmD
set_option linter.unusedSimpArgs false
set_option linter.unusedVariables false
set_option linter.unnecessarySimpa false
set_option maxRecDepth 100000
set_option maxHeartbeats 16000000
namespace Go.Proofs.YtnmijegmbomfdaaGreatDoor
section
open Go.RowKit
def DAt (w0 w : World) (wb sb b : Nat) (d : DevL) : Prop := ∃ F : Nat → Prop, (∀ k, F k → w0.heap.size ≤ k) ∧ (∀ k, F k → k < w.heap.size) ∧ ¬ F wb ∧ DevAt w F b d ∧ Blk w wb 35 #[ptrV b, ptrV sb] ∧ Q w0 w
theorem Bools.o {w0 w : World} {v : Value} {l : List Bool} (h : Bools w0 v l) (q : Q w0 w) (F : Nat → Prop) (hF : ∀ k, F k → w0.heap.size ≤ k) : SlO w F v l.length 1 (l.map .bool) := by
  refine ⟨h.stays q, fun hn => ?_⟩
  obtain ⟨_, a, cap, rfl, hc⟩ := h
  obtain ⟨b, off, rfl, hcell⟩ := hc hn
  have h0 := hcell 0 (.bool (l[0]'hn)) (by simp)
  have hlt := cell_lt h0
  exact ⟨b, off, ⟨_, rfl⟩, Nat.lt_of_lt_of_le hlt q.size, fun hf => by have := hF _ hf; simp at hlt; omega⟩
section
variable {w0 w : World} {wb sb b : Nat} {d : DevL}
theorem WAt.dv {σ : StL} {K : Nat} (h : WAt w0 w wb sb b σ K) : DAt w0 w wb sb b σ.j.d := by
  obtain ⟨F, hF, hwb, hs, hb, q⟩ := h
  obtain ⟨G, hG, hsub⟩ := hs.dev
  exact ⟨G, fun k hk => hF k (hsub k hk), fun k hk => hs.lt k (hsub k hk), fun hk => hwb (hsub _ hk), hG, hb, q⟩
theorem DAt.q (h : DAt w0 w wb sb b d) : Q w0 w := by
  obtain ⟨F, hF, hlt, hwb, hd, hb, q⟩ := h
  exact q
theorem DAt.cell (h : DAt w0 w wb sb b d) : w.cell? ⟨wb, 0, none⟩ = some (ptrV b) := by
  obtain ⟨F, hF, hlt, hwb, hd, hb, q⟩ := h
  exact hb.cell 0 _ rfl
theorem DAt.close {F : Nat → Prop} (hF : ∀ k, F k → w0.heap.size ≤ k) (hwb : ¬ F wb) (hb : Blk w wb 35 #[ptrV b, ptrV sb]) (q : Q w0 w) {W w' : World} {G : Nat → Prop} {d' : DevL} (qW : Q w W) (t : Turn F W w') (hd : DevAt w' G b d') (hG : ∀ k, G k → grow F W w' k) (hlt : ∀ k, F k → k < w.heap.size) : DAt w0 w' wb sb b d' ∧ Keeps w0 wb w w' := by
  have hq := qW.size; have hq0 := q.size; have hbl := hb.lt
  refine ⟨⟨grow F W w', fun k hk => hk.elim (hF k) (fun hk => by omega), fun k hk => hk.elim (fun hk => Nat.lt_of_lt_of_le (hlt k hk) (Nat.le_trans hq t.size)) (fun hk => hk.2), fun hk => hk.elim hwb (fun hk => by omega), hd.mono hG, t.blk (hb.stays qW) hwb, t.low hF (q.trans qW)⟩, fun a v hn hc => t.cell (cell_stays qW hc) (fun hf => ?_)⟩
  rcases hn with hn | hn
  · rw [hn] at hf; exact hwb hf
  · have := hF _ hf; omega
theorem DAt.fuse (h : DAt w0 w wb sb b d) (n : Int) : ∀ W, Q w W → Calls Tryz.prog 12 #[ptrV b, .int .i64 n] W fun e w' => e = .returned (.tuple #[]) ∧ DAt w0 w' wb sb b (d.setFuse n) ∧ Keeps w0 wb w w' := by
  intro W qW
  obtain ⟨F, hF, hlt, hwb, hd, hb, q⟩ := h
  refine (Fuse_set W F b d n (hd.keep qW)).mono ?_
  rintro e w' ⟨rfl, rfl⟩
  obtain ⟨g, cap, pv, hg⟩ := hd.keep qW
  obtain ⟨h1, t⟩ := hg.fuse (max n (-1))
  exact ⟨rfl, DAt.close hF hwb hb q qW t (⟨g, cap, pv, h1⟩ : DevAt _ F b (d.setFuse n)) (fun k hk => .inl hk) hlt⟩
theorem DAt.crash (h : DAt w0 w wb sb b d) (hok : d.Ok) (hp : d.p.length ≤ 1000000) (kv : Value) (kl : List Bool) (hkb : Bools w0 kv kl) (hkl : kl.length ≤ 1000000) (torn cut : Int) : ∀ W, Q w W → Calls Tryz.prog 16 #[ptrV b, kv, .int .i64 torn, .int .i64 cut] W fun e w' => e = .returned (.tuple #[]) ∧ DAt w0 w' wb sb b (d.crash kl torn cut) ∧ Keeps w0 wb w w' := by
  intro W qW
  obtain ⟨F, hF, hlt, hwb, hd, hb, q⟩ := h
  refine (Crash_any W F b d kv kl torn cut (hd.keep qW) hok (hkb.o (q.trans qW) F hF) hp hkl).mono ?_
  rintro e w' ⟨rfl, h1, t⟩
  exact ⟨rfl, DAt.close hF hwb hb q qW t h1 (fun k hk => .inl hk) hlt⟩
theorem DAt.openBad (h : DAt w0 w wb sb b d) (hok : d.Ok) (hn : 128 ≤ d.l.length) (hp : d.p.length ≤ 800000) (most : Nat) (hm : 64 ≤ most ∧ most ≤ 1024) (hbad : (openJ d).2 ≠ 0) : ∀ W, Q w W → Calls Tryz.prog 17 #[ptrV b, .int .i64 (most : Nat)] W fun e w' => e = .returned (.tuple #[.pointer none, .int .i64 (openJ d).2]) ∧ DAt w0 w' wb sb b (openJ d).1.d ∧ Keeps w0 wb w w' := by
  intro W qW
  obtain ⟨F, hF, hlt, hwb, hd, hb, q⟩ := h
  refine (SOpen_bad W F b d most (hd.keep qW) (fun k hk => Nat.lt_of_lt_of_le (hlt k hk) qW.size) hok hn (fun _ => hp) hm hbad).mono ?_
  rintro e w' ⟨rfl, h1, t⟩
  exact ⟨rfl, DAt.close hF hwb hb q qW t h1 (fun k hk => hk) hlt⟩
theorem DAt.openOk (h : DAt w0 w wb sb b d) (hok : d.Ok) (hp : d.p.length ≤ 800000) (hop : OpenOk d) (most : Nat) (hm : 64 ≤ most ∧ most ≤ 1024) : ∀ W, Q w W → Calls Tryz.prog 17 #[ptrV b, .int .i64 (most : Nat)] W fun e w' => ∃ sb2, e = .returned (.tuple #[ptrV sb2, .int .i64 0]) ∧ SAt w0 w' sb2 b (openedS d) 0 := by
  intro W qW
  obtain ⟨F, hF, hlt, hwb, hd, hb, q⟩ := h
  have hq := qW.size; have hq0 := q.size
  refine (SOpen_ok W F b d most (hd.keep qW) (fun k hk => Nat.lt_of_lt_of_le (hlt k hk) qW.size) hok (fun _ => hp) hm hop).mono ?_
  rintro e w' ⟨sb2, rfl, h1, t⟩
  exact ⟨sb2, rfl, _, fun k hk => hk.elim (hF k) (fun hk => by omega), h1, t.low hF (q.trans qW)⟩
end
theorem WAt.fuseK {w0 w : World} {wb sb b : Nat} {σ : StL} {K : Nat} (h : WAt w0 w wb sb b σ K) (n : Int) : ∀ W, Q w W →
    Calls Tryz.prog 12 #[ptrV b, .int .i64 n] W fun e w' => e = .returned (.tuple #[]) ∧ WAt w0 w' wb sb b (σ.fuse n) K ∧ Keeps w0 wb w w' := by
  intro W qW
  obtain ⟨F, hF, hwb, hs, hb, q0⟩ := h
  obtain ⟨G, hG, _⟩ := hs.dev
  refine (Fuse_set W G b _ n (hG.keep qW)).mono ?_
  rintro e w' ⟨rfl, rfl⟩
  obtain ⟨h1, t, hfb⟩ := (hs.keep qW).fuse (max n (-1))
  have t' : Turn F W (W.setCell ⟨b, 2, none⟩ (.int .i64 (max n (-1)))) := t.mono (fun k e => by rw [e]; exact hfb)
  refine ⟨rfl, ⟨F, hF, hwb, h1, t'.blk (hb.stays qW) hwb, t'.low hF (q0.trans qW)⟩, fun a v hn hc => t'.cell (cell_stays qW hc) (fun hf => ?_)⟩
  rcases hn with hn | hn
  · rw [hn] at hf; exact hwb hf
  · have := hF _ hf; omega
end
section
theorem write_plen (d : DevL) (i : Int) (s : Bytes) : (d.write i s).1.p.length ≤ d.p.length + 1 := DevL.write_p d i s
theorem writes_plen (ws : List WrL) : ∀ (d : DevL), (d.writes ws).1.p.length ≤ d.p.length + ws.length := by
  induction ws with
  | nil => intro d; exact Nat.le_refl _
  | cons w ws ih =>
    intro d
    rw [DevL.writes]
    have h1 := write_plen d w.1 w.2
    split
    · have h2 := ih (d.write w.1 w.2).1
      rw [List.length_cons]; omega
    · rw [List.length_cons]; omega
theorem flush_plen (d : DevL) : d.flush.1.p.length ≤ d.p.length := by
  unfold DevL.flush
  split
  · exact Nat.le_refl _
  · split
    · rw [(DevL.turn_l d).2]; omega
    · exact Nat.zero_le _
theorem lays_plen (d : DevL) (ws : List WrL) : (d.lays ws).1.p.length ≤ d.p.length + ws.length := by
  have h1 := writes_plen ws d
  unfold DevL.lays
  split
  · have h2 := flush_plen (d.writes ws).1; omega
  · exact h1
theorem ckpt_plen (j : JL) : j.ckpt.1.d.p.length ≤ j.d.p.length + 2 := by
  have h1 := lays_plen j.d [(j.place 0, noughtsL)]
  have h2 := lays_plen j.ckpt1.1 [(1 - j.k, slotT j.nextSlot)]
  have e1 : j.ckpt1.1.p.length ≤ j.d.p.length + 1 := h1
  have e2 : j.ckpt2.1.p.length ≤ j.ckpt1.1.p.length + 1 := h2
  unfold JL.ckpt
  split
  · show j.ckpt1.1.p.length ≤ _; omega
  · split
    · show j.ckpt2.1.p.length ≤ _; omega
    · show j.ckpt2.1.p.length ≤ _; omega
theorem logW_len7 (j : JL) (ws : List WrL) : (j.logW ws).length = ws.length + 1 := by unfold JL.logW; simp
theorem com_plen (j : JL) (ws : List WrL) : (j.com ws).1.d.p.length ≤ j.d.p.length + 2 * ws.length + 2 := by
  have h1 : (j.com1 ws).1.p.length ≤ j.d.p.length + (ws.length + 1) := by have := lays_plen j.d (j.logW ws); rw [logW_len7] at this; exact this
  have h2 : (j.com2 ws).1.p.length ≤ (j.com1 ws).1.p.length + 1 := lays_plen (j.com1 ws).1 [(j.place 0, headL j.next ws)]
  have h3 : (j.com3 ws).1.p.length ≤ (j.com2 ws).1.p.length + ws.length := writes_plen ws (j.com2 ws).1
  unfold JL.com
  split
  · show (j.com1 ws).1.p.length ≤ _; omega
  · split
    · show (j.com2 ws).1.p.length ≤ _; omega
    · show (j.com3 ws).1.p.length ≤ _; omega
theorem jcommit_plen (j : JL) (ws : List WrL) : (j.commit ws).1.d.p.length ≤ j.d.p.length + 2 * ws.length + 4 := by
  have h1 := ckpt_plen j
  unfold JL.commit
  split
  · split
    · omega
    · have h2 := com_plen j.ckpt.1 ws; omega
  · have h2 := com_plen j ws; omega
theorem does_plen {K : Nat} {σ : StL} {fr : List (List WrL)} {C : Nat → Bytes} (h : StInv K σ fr C) (a : Act7) (hk : a.k = 6) : (doesS a σ).j.d.p.length ≤ 1000 := by
  have hp := h.inv.plen
  have hs := h.short
  have hc := jcommit_plen σ.j σ.tx
  unfold doesS
  rw [if_neg (by omega), if_neg (by omega), if_neg (by omega), if_neg (by omega), if_pos hk]
  unfold StL.commit
  split
  · show σ.j.d.p.length ≤ _; omega
  · split
    · show σ.j.d.p.length ≤ _; omega
    · split
      · show (σ.j.commit σ.tx).1.d.p.length ≤ _; omega
      · show (σ.j.commit σ.tx).1.d.p.length ≤ _; omega
theorem replay_plen (L : Nat) (m : Nat) : ∀ (j : JL), j.s.log ≤ L → (JL.replay m j).1.d.p.length ≤ j.d.p.length + m * L := by
  induction m with
  | zero => intro j _; show j.d.p.length ≤ _; omega
  | succ m ih =>
    intro j hl
    rw [JL.replay]
    cases hf : j.frame with
    | none => show j.d.p.length ≤ _; omega
    | some ws =>
      simp only []
      obtain ⟨f1, _, _⟩ := frame_some hf
      have h1 := writes_plen ws j.d
      have hm : (m + 1) * L = m * L + L := Nat.succ_mul m L
      split
      · have h2 := ih ({ j with d := (j.d.writes ws).1 }.advance ws.length) hl
        have h3 : ({ j with d := (j.d.writes ws).1 }.advance ws.length).d.p.length = (j.d.writes ws).1.p.length := rfl
        omega
      · show (j.d.writes ws).1.p.length ≤ _; omega
theorem openJ_plen {K : Nat} {d : DevL} {s : SlotL} {k : Nat} {fr : List (List WrL)} {C : Nat → Bytes} (h : OpenPre 60 K d s k fr C) (hp : d.p.length ≤ 100) : (openJ d).1.d.p.length ≤ 10000 := by
  have hlog := h.hlog
  have hg0 : d.get 0 = at' d.l 0 := get_low (fun w hw => (h.pend w hw).1) 0 (by omega)
  have hg1 : d.get 1 = at' d.l 1 := get_low (fun w hw => (h.pend w hw).1) 1 (by omega)
  have hr := replay_plen 60 (s.log + 1) ⟨d, s, k, s.s, 0⟩ (by show s.log ≤ 60; omega)
  rw [hlog] at hr
  have hr' : (JL.replay (60 + 1) ⟨d, s, k, s.s, 0⟩).1.d.p.length ≤ d.p.length + 61 * 60 := hr
  unfold openJ
  rw [h.live, if_neg (by decide), hg0, hg1, h.hrec.pick]
  simp only []
  rw [hlog]
  split
  · have := ckpt_plen (JL.replay (60 + 1) ⟨d, s, k, s.s, 0⟩).1; omega
  · omega
end
section
open Go.RowKit
structure Kept7 (k : Nat) (σ : StL) (C : Nat → Bytes) (was op : Bytes) : Prop where
  inv : ∃ fr, StInv (5 + 2 * k) σ fr C
  n : σ.n = 132
  was : was = tellC 132 C
  op : op = σ.tell
theorem DAt.hold {w0 w : World} {wb sb b : Nat} {d : DevL} (h : DAt w0 w wb sb b d) {a1 a2 a3 : Addr} {v1 v2 v3 : Value} (z1 : w0.cell? a1 = some v1) (z2 : w0.cell? a2 = some v2) (z3 : w0.cell? a3 = some v3) : w.cell? ⟨wb, 0, none⟩ = some (ptrV b) ∧ w.cell? a1 = some v1 ∧ w.cell? a2 = some v2 ∧ w.cell? a3 = some v3 :=
  ⟨h.cell, cell_stays h.q z1, cell_stays h.q z2, cell_stays h.q z3⟩
theorem four {w w' : World} (q : Q w w') {a0 a1 a2 a3 : Addr} {v0 v1 v2 v3 : Value} (h : w.cell? a0 = some v0 ∧ w.cell? a1 = some v1 ∧ w.cell? a2 = some v2 ∧ w.cell? a3 = some v3) :
    w'.cell? a0 = some v0 ∧ w'.cell? a1 = some v1 ∧ w'.cell? a2 = some v2 ∧ w'.cell? a3 = some v3 := ⟨cell_stays q h.1, cell_stays q h.2.1, cell_stays q h.2.2.1, cell_stays q h.2.2.2⟩
structure Last7 (N : Nat) (d : DevL) (W1 W2 : Bytes) : Prop where
  ex : ∃ K C D, K ≤ N ∧ Two K 132 d C D ∧ W1 = tellC 132 C ∧ W2 = tellC 132 D
  p : d.p.length ≤ 1000000
theorem Last7.ok {N : Nat} {d : DevL} {W1 W2 : Bytes} (h : Last7 N d W1 W2) : d.Ok := by
  obtain ⟨⟨K, C, D, hK, ht, e1, e2⟩, hp⟩ := h
  exact ht.1
theorem Kept7.step {k : Nat} {σ : StL} {C : Nat → Bytes} {was op : Bytes} (h : Kept7 k σ C was op) (a : Act7) (hk : a.k < 9) (hk2 : k ≤ 1000) :
    (doesE a σ ≠ 4 ∧ ∃ C', Kept7 (k + 1) (doesS a σ) C' (if a.k = 6 ∧ doesE a σ = 0 then op else was) (doesS a σ).tell) ∨
    (doesE a σ = 4 ∧ a.k = 6 ∧ Last7 100000 (doesS a σ).j.d was op) := by
  obtain ⟨⟨fr, hi⟩, hn, hw, ho⟩ := h
  have ht := hi.tell
  rw [hn] at ht
  rcases does_run hi a hk (by omega) with ⟨e, b, _, fr', d⟩ | ⟨e, e6, _, d⟩
  · refine .inl ⟨e, _, ⟨⟨fr', by rw [show 5 + 2 * (k + 1) = 5 + 2 * k + 2 by omega]; exact d⟩, by rw [b]; exact hn, ?_, rfl⟩⟩
    split
    · rw [ho, ht]
    · exact hw
  · rw [hn] at d
    exact .inr ⟨e, e6, ⟨_, _, _, by omega, d, hw, by rw [ho, ht]⟩, Nat.le_trans (does_plen hi a e6) (by decide)⟩
theorem Kept7.more {k : Nat} {σ : StL} {C : Nat → Bytes} {was op : Bytes} (h : Kept7 k σ C was op) : Kept7 (k + 1) σ C was op := by
  obtain ⟨⟨fr, hi⟩, hn, hw, ho⟩ := h
  exact ⟨⟨fr, stinv_mono hi (by omega)⟩, hn, hw, ho⟩
theorem Kept7.last {k : Nat} {σ : StL} {C : Nat → Bytes} {was op : Bytes} (h : Kept7 k σ C was op) (hk2 : k ≤ 1000) : Last7 100000 σ.j.d was was := by
  obtain ⟨⟨fr, hi⟩, hn, hw, ho⟩ := h
  have ht := hi.two
  rw [hn] at ht
  exact ⟨⟨_, C, C, by omega, ht, hw, hw⟩, Nat.le_trans hi.inv.plen (by decide)⟩
theorem Kept7.num {k : Nat} {σ : StL} {C : Nat → Bytes} {was op : Bytes} (h : Kept7 k σ C was op) (hk : k ≤ 1000) : StNum σ := by
  obtain ⟨⟨fr, hi⟩, hn, hw, ho⟩ := h
  exact hi.num (by omega)
theorem Kept7.pre {k : Nat} {σ : StL} {C : Nat → Bytes} {was op : Bytes} (h : Kept7 k σ C was op) (hk : k ≤ 1000) : σ.state true = 0 → σ.tx ≠ [] → ComPre σ := by
  obtain ⟨⟨fr, hi⟩, hn, hw, ho⟩ := h
  exact commit_pre hi (by omega)
theorem Kept7.live {k : Nat} {σ : StL} {C : Nat → Bytes} {was op : Bytes} (h : Kept7 k σ C was op) : σ.dead = false ∧ ∀ i, i < firstD σ.n → bit σ.map1 i = true := by
  obtain ⟨⟨fr, hi⟩, hn, hw, ho⟩ := h
  exact ⟨hi.inv.live, hi.map.low⟩
theorem startS_open (n : Nat) (f : Int) : ((startS n).fuse f).open_ = false := rfl
theorem startS_fn (n : Nat) (f : Int) : ((startS n).fuse f).n = (startS n).n := rfl
theorem kept7_start (f : Int) (hf : f ≤ 1000) : ∃ C, Kept7 0 ((startS 132).fuse f) C ((startS 132).fuse f).tell ((startS 132).fuse f).tell := by
  obtain ⟨_, _, i0, n0, f0, _⟩ := start_all 132 (by decide) (by decide)
  have i1 := fuse_inv i0 f (by omega)
  refine ⟨_, ⟨_, i1⟩, (startS_fn 132 f).trans n0, ?_, rfl⟩
  rw [i1.tell_closed (startS_open 132 f), startS_fn, n0]
def Whole7 (d : DevL) (x : Bytes) : Prop := OpenOk d ∧ StNum (openedS d) ∧ (openedS d).dead = false ∧ (∀ i, i < firstD (openedS d).n → bit (openedS d).map1 i = true) ∧ (openedS d).tell = x
theorem Last7.open {N : Nat} {d : DevL} {W1 W2 : Bytes} (h : Last7 N d W1 W2) (hN : N ≤ 200000) (kl : List Bool) (torn cut f : Int) (d2 : DevL) (hd : d2 = { d.crash kl torn cut with fuse := f }) (hf : -1 ≤ f) (hf2 : f ≤ 1000) :
    d2.Ok ∧ d2.p.length ≤ 800000 ∧ d2.l.length = 132 ∧ ∃ x, (x = W1 ∨ x = W2) ∧ (Whole7 d2 x ∨ ((openJ d2).2 = 4 ∧ Last7 (N + 1) (openJ d2).1.d x x ∧ f ≠ -1)) := by
  obtain ⟨⟨K, C, D, hK, ht, e1, e2⟩, hp⟩ := h
  obtain ⟨E, hE, hg, s, k, fr, hpre⟩ := two_open ht kl torn cut f (by omega) (by omega)
  rw [← hd] at hpre
  have hln : d2.l.length = 132 := by
    rw [hd]; show (DevL.crashL kl torn _ 0 d.l d.p).length = 132
    rw [DevL.crashL_length]; exact ht.2.1
  have hpl : d2.p.length ≤ 100 := by rw [hd]; exact Nat.zero_le _
  refine ⟨hpre.ok, by omega, hln, tellC 132 E, hE.elim (fun e => by rw [e, e1]; exact .inl rfl) (fun e => by rw [e, e2]; exact .inr rfl), ?_⟩
  rcases open_code hpre (by omega) with hz | ⟨hz, h2, h3, h4, h5⟩
  · obtain ⟨o1, o2, o3⟩ := open_good hpre (by rw [hln]; exact hg) (by omega) (by omega) hz
    refine .inl ⟨o1, o2.num (by omega), o2.inv.live, o2.map.low, ?_⟩
    show (openedS d2).tell = _
    rw [o2.tell_closed rfl, o3, hln]
  · refine .inr ⟨hz, ⟨⟨K + 1, E, E, by omega, ⟨h3, by rw [openJ_len, hln], hg, hg, h4.mono (Nat.le_refl _) (fun _ h => .inl h)⟩, rfl, rfl⟩, ?_⟩, ?_⟩
    · have := openJ_plen hpre hpl
      omega
    · rw [hd] at h5; exact h5
theorem Keeps_walk (v : Value) (l : List Act7) (tn : Int) (yv : Value) (y : Act7) (ag : Int) (rv : Value) (r : Act7) (w : World) (hv : Acts7 w v l) (hyv : ActA w yv y) (hrv : ActA w rv r) (hl : Acts7Wf l) (tn0 : -9223372036854775808 ≤ tn) (tn1 : tn ≤ 9223372036854775807) (hyw : y.Wf) (ag0 : -9223372036854775808 ≤ ag) (ag1 : ag ≤ 9223372036854775807) (hrw : r.Wf) :
    Calls Tryz.prog 3 #[v, .int .i64 tn, yv, .int .i64 ag, rv] w fun e w' => e = .returned (.bool true) ∧ Below w.heap.size w w' := by
  obtain ⟨kv, rfl, hkb⟩ := hyv
  obtain ⟨ya, yc, rfl⟩ := hkb.len
  obtain ⟨kv, rfl, hrb⟩ := hrv
  obtain ⟨ra, rc, rfl⟩ := hrb.len
  obtain ⟨wa, hwa⟩ : ∃ wa, wa = w.alloc (.cells #[.int .i64 y.op, .int .i64 y.at_, .int .i64 y.n, .slice ya y.keep.length yc, .int .u8 (y.byte.toNat : Nat)] 25) := ⟨_, rfl⟩
  obtain ⟨wc, hwc⟩ : ∃ wc, wc = wa.alloc (.cells #[.int .i64 r.op, .int .i64 r.at_, .int .i64 r.n, .slice ra r.keep.length rc, .int .u8 (r.byte.toNat : Nat)] 25) := ⟨_, rfl⟩
  have qa : Q w wa := by rw [hwa]; exact Q.alloc _ _
  have qc : Q wa wc := by rw [hwc]; exact Q.alloc _ _
  have hbx : Blk wa w.heap.size 25 (actCs ya y.keep.length yc y) := by rw [hwa]; exact Blk.new w _ _
  have hbr : Blk wc wa.heap.size 25 (actCs ra r.keep.length rc r) := by rw [hwc]; exact Blk.new wa _ _
  have hsz : wa.heap.size = w.heap.size + 1 := by rw [hwa]; exact Array.size_push _
  have hbx2 := hbx.stays qc
  have hsh := fun (W : World) => Shown7_any W
  have hsm := fun (W : World) (q : Q w W) => Small7_any v l W (hv.stays q) hl
  have hbg := fun (W : World) => Begin7_any W 64 (by decide)
  obtain ⟨va, vc, rfl, hcell⟩ := hv.value
  have hwf := hl.2
  obtain ⟨_, b1, b2, b3, _⟩ := hbx2.c5
  obtain ⟨_, d1, d2, d3, _⟩ := hbr.c5
  have HSH := Lib.hid hsh; have HSM := Lib.hid hsm; have HBG := Lib.hid hbg; have HCE := Lib.hid hcell; have HWF := Lib.hid hwf; have QA := Lib.hid (qa.trans qc)
  have hl0 := hl.1
  have hyl := hyw.keep
  have hrl := hrw.keep
  have hpt : ∀ W, Calls Tryz.prog 13 #[.int .i64 tn, .int .i64 300] W fun e w' => e = .returned (.int .i64 (pickZ tn 300 : Nat)) ∧ W = w' := fun W => Pick7_any tn 300 W tn0 tn1 (by decide) (by decide)
  have hpa : ∀ W, Calls Tryz.prog 13 #[.int .i64 ag, .int .i64 120] W fun e w' => e = .returned (.int .i64 (pickZ ag 120 : Nat)) ∧ W = w' := fun W => Pick7_any ag 120 W ag0 ag1 (by decide) (by decide)
  have HPT := Lib.hid hpt; have HPA := Lib.hid hpa
  have hpt2 := pickZ_lt tn 300 (by decide)
  have hpa2 := pickZ_lt ag 120 (by decide)
  clear hpt hpa
  generalize pickZ tn 300 = pt at *
  generalize pickZ ag 120 = pa at *
  have HKY := Lib.hid hkb; have HKR := Lib.hid hrb
  clear hsh hsm hbg hcell hwf qa qc hbx hbx2 hbr hv hl hkb hrb hyw hrw
  unfold actV
  go_enter Tryz.func3, Tryz.ntmps3
  go_wp2_with fail
  rw [← hwa]
  first | rw [← hwc] | skip
  clear hwa hwc
  refine (HSH.out _).mono ?_
  rintro e w1 ⟨rfl, q1⟩
  have Q1 := Lib.hid (QA.out.trans q1)
  have y1 := Lib.hid (cellQ q1 b1); have y2 := Lib.hid (cellQ q1 b2); have y3 := Lib.hid (cellQ q1 b3)
  have r1 := Lib.hid (cellQ q1 d1); have r2 := Lib.hid (cellQ q1 d2); have r3 := Lib.hid (cellQ q1 d3)
  have ly := cellQ q1 b3
  have lr := cellQ q1 d3
  have KY := Lib.hid (HKY.out.stays Q1.out)
  have KR := Lib.hid (HKR.out.stays Q1.out)
  rw [hsz] at r1 r2 r3 lr
  clear q1 b1 b2 b3 d1 d2 d3 HKY HKR
  go_wp2_with fail
  refine (HSM.out _ Q1.out).mono ?_
  rintro e w2 ⟨rfl, rfl⟩
  cases hsb : small7B l with
  | false =>
    go_wp2_with fail
    go_ret
    exact ⟨rfl, Q1.out⟩
  | true =>
    obtain ⟨hl80, hkeep⟩ := small7_wf hsb
    by_cases hy200 : y.keep.length ≤ 200
    · have hy2 : ¬ (200 : Int) < (y.keep.length : Int) := by omega
      by_cases hr200 : r.keep.length ≤ 200
      · have hr2 : ¬ (200 : Int) < (r.keep.length : Int) := by omega
        clear hsb hkeep
        have HBG1 := Lib.hid (HBG.out w1)
        rw [show ((64 : Nat) : Int) = 64 from rfl] at HBG1
        go_wp2_with fail
        refine HBG1.out.mono ?_
        rintro e w3 ⟨wb, sb, b, mb, rs, rb, rfl, hB⟩
        have HW0 := Lib.hid (show WAt w1 w3 wb sb b (startS 132) (2 * 0) from hB.w)
        have hfu := fun (V : World) (q : Q w3 V) => HW0.out.fuseK pt V q
        have HFU := Lib.hid hfu
        obtain ⟨C0, hk0⟩ := kept7_start pt (by omega)
        have hst := fun (V V' : World) (h : WAt w1 V wb sb b ((startS 132).fuse pt) (2 * 0)) (q : Q V V') => h.stateK (hk0.num (by omega)) hk0.live.1 hk0.live.2 (by decide) V' q
        have HST := Lib.hid hst; have HK0 := Lib.hid hk0
        have c0 := HW0.out.cells.1
        have KK := Lib.hid (Q.refl w3)
        clear hB hfu hk0 hst HW0
        generalize (startS 132).fuse pt = σ0 at *
        go_wp2_with fail
        (go_region_held3 (fun w' => w'.cell? ⟨wb, 0, none⟩ = some (ptrV b))
          (first | exact g0 | exact c0 | exact cellQ (by repeat (first | with_reducible exact KK.out | with_reducible exact Q.refl _ | with_reducible apply Qs.dr | with_reducible apply Qs.al)) c0)
          (first
            | (go_at_call 13; with_reducible refine (HPT.out _).mono ?_; rintro e w3x ⟨rfl, rfl⟩)
            | (go_at_call 12; with_reducible refine (HFU.out _ (by repeat (first | with_reducible exact KK.out | with_reducible exact Q.refl _ | with_reducible apply Qs.dr | with_reducible apply Qs.al))).mono ?_; rintro e w4 ⟨rfl, h4, k4⟩; have g0 := h4.cells.1; have HW := Lib.hid h4; clear h4 k4)))
        all_goals
          clear c0 KK HFU
          try clear g0
          have c1 := HW.out.cells.2
          go_wp2_with fail
          refine (HST.out _ _ HW.out (Q.refl _)).mono ?_
          rintro e w5 ⟨rfl, h5, k5⟩
          have HW5 := Lib.hid (h5.mono (show 2 * 0 + 17000000 ≤ 17000002 * (0 + 1) by decide))
          clear h5 k5 c1 HW HST
          generalize σ0.tell = st0 at *
          go_wp2_with fail
          go_loopw [16, 17, 18, 19] (fun v16 v17 v18 i wr => ∃ (k : Nat) (σ : StL) (C : Nat → Bytes) (W1 W2 : Bytes), i = .int .i64 (k : Nat) ∧ k ≤ l.length ∧ v16 = strV W1 ∧ v17 = strV W1 ∧ v18 = strV W2 ∧ Hid (WAt w1 wr wb sb b σ (17000002 * (k + 1))) ∧ Hid (Kept7 k σ C W1 W2)) (fun _ _ _ i _ => l.length - (intOf i).toNat)
          case atStart => exact ⟨0, σ0, C0, st0, st0, rfl, Nat.zero_le _, rfl, rfl, rfl, HW5, HK0⟩
          case round =>
            clear HW5 HK0
            obtain ⟨k, σ, C, W1, W2, rfl, hk, rfl, rfl, rfl, HW, HG⟩ := hrel
            by_cases hlt : k < l.length
            · have hki : (k : Int) < (l.length : Int) := by omega
              have hk0 : (0 : Int) ≤ (k : Int) := by omega
              obtain ⟨g, off, rfl, hc⟩ := HCE.out (by omega)
              obtain ⟨kv, x0, x1, x2, x3, x4, hbs⟩ := hc k hlt
              obtain ⟨ka2, kc2, rfl⟩ := hbs.len
              have hqw := Q1.out.trans HW.out.q
              obtain ⟨x0, x1, x2, x3, x4⟩ := five hqw x0 x1 x2 x3 x4
              have hwk := HWF.out _ (List.getElem_mem hlt)
              have hst := fun (h9 : l[k].k < 9) => Does7_any w1 wr wb sb b σ (17000002 * (k + 1)) HW.out (HG.out.num (by omega)) (HG.out.pre (by omega)) (by omega) ka2 l[k].keep.length kc2 l[k] hwk 64 h9
              have hsp := fun (h9 : l[k].k < 9) => HG.out.step l[k] h9 (by omega)
              have hpk := fun (W : World) => Pick7_any l[k].op 11 W hwk.op.1 hwk.op.2 (by decide) (by decide)
              have HST := Lib.hid hst; have HPK := Lib.hid hpk; have HSP := Lib.hid hsp
              clear hc hbs hqw hwk hst hpk hsp
              unfold actV at HST
              generalize l[k] = ac at *
              have hkk : ac.k = pickZ ac.op 11 := rfl
              rw [hkk] at HST HSP
              clear hkk
              generalize hpz : pickZ ac.op 11 = pz at *
              clear hpz
              by_cases h9 : pz < 9
              · have h9i : (pz : Int) < 9 := by omega
                have HST2 := Lib.hid (HST.out h9)
                have hs2 := HSP.out h9
                clear HST HSP
                generalize doesE ac σ = E at *
                generalize hσ : doesS ac σ = σ2 at *
                clear hσ
                go_wp2_with fail
                refine (HPK.out _).mono ?_
                rintro e w4 ⟨rfl, rfl⟩
                go_wp2_with fail
                refine HST2.out.mono ?_
                rintro e w5 ⟨rfl, h5⟩
                have H5 := Lib.hid h5
                clear h5
                have c1 := H5.out.cells.2
                rcases hs2 with ⟨e4, C', hk2⟩ | ⟨rfl, e6, hL⟩
                · have HK2 := Lib.hid hk2
                  have hst := fun (V : World) (q : Q w5 V) => H5.out.stateK (hk2.num (by omega)) hk2.live.1 hk2.live.2 (by omega) V q
                  have HS3 := Lib.hid hst
                  clear hst hk2
                  generalize σ2.tell = W3 at *
                  by_cases h6 : pz = 6
                  · by_cases h0 : E = 0
                    · subst h6; subst h0
                      rw [if_pos ⟨rfl, rfl⟩] at HK2
                      go_wp2_with fail
                      refine (HS3.out _ (Q.refl _)).mono ?_
                      rintro e w6 ⟨rfl, h6, k6⟩
                      have H6 := Lib.hid (h6.mono (show 17000002 * (k + 1) + 2 + 17000000 ≤ 17000002 * (k + 1 + 1) by omega))
                      clear h6 k6
                      go_wp2_with fail
                      go_roundw
                      case rel => exact ⟨k + 1, _, _, _, _, by go_num, by omega, rfl, rfl, rfl, H6, HK2⟩
                      case measure => simp [intOf]; omega
                    · have h6i : (pz : Int) = 6 := by omega
                      rw [if_neg (fun h => h0 h.2)] at HK2
                      go_wp2_with fail
                      refine (HS3.out _ (Q.refl _)).mono ?_
                      rintro e w6 ⟨rfl, h6, k6⟩
                      have H6 := Lib.hid (h6.mono (show 17000002 * (k + 1) + 2 + 17000000 ≤ 17000002 * (k + 1 + 1) by omega))
                      clear h6 k6
                      go_wp2_with fail
                      go_roundw
                      case rel => exact ⟨k + 1, _, _, _, _, by go_num, by omega, rfl, rfl, rfl, H6, HK2⟩
                      case measure => simp [intOf]; omega
                  · have h6i : ¬ (pz : Int) = 6 := by omega
                    rw [if_neg (fun h => h6 h.1)] at HK2
                    go_wp2_with fail
                    refine (HS3.out _ (Q.refl _)).mono ?_
                    rintro e w6 ⟨rfl, h6, k6⟩
                    have H6 := Lib.hid (h6.mono (show 17000002 * (k + 1) + 2 + 17000000 ≤ 17000002 * (k + 1 + 1) by omega))
                    clear h6 k6
                    go_wp2_with fail
                    go_roundw
                    case rel => exact ⟨k + 1, _, _, _, _, by go_num, by omega, rfl, rfl, rfl, H6, HK2⟩
                    case measure => simp [intOf]; omega
                · subst e6
                  have HL := Lib.hid hL
                  have HD := Lib.hid H5.out.dv
                  clear H5 hL c1 HW HG HST2
                  generalize σ2.j.d = d at *
                  have hcr := fun (V : World) (q : Q w5 V) => HD.out.crash HL.out.ok HL.out.p _ y.keep KY.out (by omega) y.at_ y.n V q
                  have HCR := Lib.hid hcr
                  obtain ⟨o1, o2, o3, x, hx, ho⟩ := HL.out.open (by decide) y.keep y.at_ y.n pa ((d.crash y.keep y.at_ y.n).setFuse pa) (by unfold DevL.setFuse; rw [show max (pa : Int) (-1) = (pa : Int) by omega]) (by omega) (by omega)
                  have HO := Lib.hid (show _ ∧ _ ∧ _ ∧ _ from ⟨o1, o2, o3, ho⟩)
                  have hcl := HD.out.hold y3.out y1.out y2.out
                  clear hcr o1 o2 o3 ho HL
                  generalize d.crash y.keep y.at_ y.n = d1 at *
                  obtain ⟨c0, c3, c1, c2⟩ := hcl
                  have c0 := show _ ∧ _ ∧ _ ∧ _ from ⟨c0, c3, c1, c2⟩
                  have KK := Lib.hid (Q.refl w5)
                  clear HD
                  go_wp2_with fail
                  (go_region_held3 (fun w' => w'.cell? ⟨wb, 0, none⟩ = some (ptrV b) ∧ w'.cell? ⟨w.heap.size, 3, none⟩ = some (.slice ya y.keep.length yc) ∧ w'.cell? ⟨w.heap.size, 1, none⟩ = some (.int .i64 y.at_) ∧ w'.cell? ⟨w.heap.size, 2, none⟩ = some (.int .i64 y.n))
                    (first | exact g0 | exact c0 | exact four (by repeat (first | with_reducible exact KK.out | with_reducible exact Q.refl _ | with_reducible apply Qs.dr | with_reducible apply Qs.al)) c0)
                    (first | (go_at_call 16; with_reducible refine (HCR.out _ (by repeat (first | with_reducible exact KK.out | with_reducible exact Q.refl _ | with_reducible apply Qs.dr | with_reducible apply Qs.al))).mono ?_; rintro e w6 ⟨rfl, h6, k6⟩; have g0 := DAt.hold h6 y3.out y1.out y2.out; have DC := Lib.hid h6; clear h6 k6)))
                  all_goals
                    clear c0 KK c1 c2 c3 HCR
                    try clear g0
                    have c0 := DC.out.cell
                    have KK := Lib.hid (Q.refl w6)
                    have hfu := fun (V : World) (q : Q w6 V) => DC.out.fuse pa V q
                    have HFU := Lib.hid hfu
                    clear hfu DC
                    generalize d1.setFuse pa = d2 at *
                    go_wp2_with fail
                    (go_region_held3 (fun w' => w'.cell? ⟨wb, 0, none⟩ = some (ptrV b))
                      (first | exact g0 | exact c0 | exact cellQ (by repeat (first | with_reducible exact KK.out | with_reducible exact Q.refl _ | with_reducible apply Qs.dr | with_reducible apply Qs.al)) c0)
                      (first
                        | (go_at_call 13; with_reducible refine (HPA.out _).mono ?_; rintro e w3x ⟨rfl, rfl⟩)
                        | (go_at_call 12; with_reducible refine (HFU.out _ (by repeat (first | with_reducible exact KK.out | with_reducible exact Q.refl _ | with_reducible apply Qs.dr | with_reducible apply Qs.al))).mono ?_; rintro e w7 ⟨rfl, h7, k7⟩; have g0 := h7.cell; have DO := Lib.hid h7; clear h7 k7)))
                    all_goals
                      clear c0 KK HFU
                      try clear g0
                      obtain ⟨o1, o2, o3, ho⟩ := HO.out
                      clear HO
                      rcases ho with ⟨x1, x2, x3, x4, x5⟩ | ⟨z, L2, _⟩
                      · have hop := fun (W : World) (q : Q w7 W) => (DO.out.openOk o1 (by omega) x1 64 (by decide) W q)
                        rw [show ((64 : Nat) : Int) = 64 from rfl] at hop
                        have HOP := Lib.hid hop
                        have hst := fun (W : World) (sb2 : Nat) (h : SAt w1 W sb2 b (openedS d2) 0) => h.state x2 x3 x4 (by decide)
                        rw [x5] at hst
                        have HST := Lib.hid hst
                        clear hop hst x1 x2 x3 x4 x5 o1 o2 o3
                        generalize openedS d2 = s2 at *
                        have c0 := DO.out.cell
                        go_wp2_with fail
                        refine (HOP.out _ (Q.refl _)).mono ?_
                        rintro e w8 ⟨sb2, rfl, h8⟩
                        have S8 := Lib.hid h8
                        clear h8
                        go_wp2_with fail
                        refine (HST.out _ _ S8.out).mono ?_
                        rintro e w9 ⟨rfl, h9⟩
                        have Q9 := Lib.hid h9.q
                        clear h9
                        rcases hx with hx | hx
                        · go_wp2_with fail
                          go_ret
                          exact ⟨rfl, Q1.out.trans Q9.out⟩
                        · by_cases hb : W2 = W1
                          · go_wp2_with fail
                            go_ret
                            exact ⟨rfl, Q1.out.trans Q9.out⟩
                          · go_wp2_with fail
                            go_ret
                            exact ⟨rfl, Q1.out.trans Q9.out⟩
                      · have hop := fun (W : World) (q : Q w7 W) => (DO.out.openBad o1 (by omega) (by omega) 64 (by decide) (by rw [z]; decide) W q)
                        rw [show ((64 : Nat) : Int) = 64 from rfl, z] at hop
                        have HOP := Lib.hid hop
                        have c0 := DO.out.cell
                        have L2' := L2
                        clear hop z o1 o2 o3 L2
                        have HL2 := Lib.hid L2'
                        clear L2'
                        generalize (openJ d2).1.d = d3 at *
                        go_wp2_with fail
                        refine (HOP.out _ (Q.refl _)).mono ?_
                        rintro e w8 ⟨rfl, h8, k8⟩
                        have HD := Lib.hid h8
                        clear h8 k8 HOP DO c0
                        have hcr := fun (V : World) (q : Q w8 V) => HD.out.crash HL2.out.ok HL2.out.p _ r.keep KR.out (by omega) r.at_ r.n V q
                        have HCR := Lib.hid hcr
                        obtain ⟨o1, o2, o3, x', hx', ho⟩ := HL2.out.open (by decide) r.keep r.at_ r.n (-1) (d3.crash r.keep r.at_ r.n) rfl (by omega) (by omega)
                        obtain rfl : x' = x := hx'.elim id id
                        have HO := Lib.hid (show _ ∧ _ ∧ _ ∧ _ from ⟨o1, o2, o3, ho⟩)
                        have c0 := HD.out.hold r3.out r1.out r2.out
                        clear hcr o1 o2 o3 ho HL2
                        generalize d3.crash r.keep r.at_ r.n = d4 at *
                        have KK := Lib.hid (Q.refl w8)
                        clear HD hx'
                        obtain ⟨c0, c3, c1, c2⟩ := c0
                        have c0 := show _ ∧ _ ∧ _ ∧ _ from ⟨c0, c3, c1, c2⟩
                        go_wp2_with fail
                        (go_region_held3 (fun w' => w'.cell? ⟨wb, 0, none⟩ = some (ptrV b) ∧ w'.cell? ⟨w.heap.size + 1, 3, none⟩ = some (.slice ra r.keep.length rc) ∧ w'.cell? ⟨w.heap.size + 1, 1, none⟩ = some (.int .i64 r.at_) ∧ w'.cell? ⟨w.heap.size + 1, 2, none⟩ = some (.int .i64 r.n))
                          (first | exact g0 | exact c0 | exact four (by repeat (first | with_reducible exact KK.out | with_reducible exact Q.refl _ | with_reducible apply Qs.dr | with_reducible apply Qs.al)) c0)
                          (first | (go_at_call 16; with_reducible refine (HCR.out _ (by repeat (first | with_reducible exact KK.out | with_reducible exact Q.refl _ | with_reducible apply Qs.dr | with_reducible apply Qs.al))).mono ?_; rintro e w7b ⟨rfl, h6, k6⟩; have g0 := DAt.hold h6 r3.out r1.out r2.out; have DC := Lib.hid h6; clear h6 k6)))
                        all_goals
                          clear c0 c1 c2 c3 KK HCR
                          try clear g0
                          have DO := DC
                          clear DC
                          obtain ⟨o1, o2, o3, ho⟩ := HO.out
                          clear HO
                          rcases ho with ⟨x1, x2, x3, x4, x5⟩ | ⟨_, _, z⟩
                          · have hop := fun (W : World) (q : Q w7b W) => (DO.out.openOk o1 (by omega) x1 64 (by decide) W q)
                            rw [show ((64 : Nat) : Int) = 64 from rfl] at hop
                            have HOP := Lib.hid hop
                            have hst := fun (W : World) (sb2 : Nat) (h : SAt w1 W sb2 b (openedS d4) 0) => h.state x2 x3 x4 (by decide)
                            rw [x5] at hst
                            have HST := Lib.hid hst
                            clear hop hst x1 x2 x3 x4 x5 o1 o2 o3
                            generalize openedS d4 = s2 at *
                            have c0 := DO.out.cell
                            go_wp2_with fail
                            refine (HOP.out _ (Q.refl _)).mono ?_
                            rintro e w8 ⟨sb2, rfl, h8⟩
                            have S8 := Lib.hid h8
                            clear h8
                            go_wp2_with fail
                            refine (HST.out _ _ S8.out).mono ?_
                            rintro e w9 ⟨rfl, h9⟩
                            have Q9 := Lib.hid h9.q
                            clear h9
                            rcases hx with hx | hx
                            · go_wp2_with fail
                              go_ret
                              exact ⟨rfl, Q1.out.trans Q9.out⟩
                            · by_cases hb : W2 = W1
                              · go_wp2_with fail
                                go_ret
                                exact ⟨rfl, Q1.out.trans Q9.out⟩
                              · go_wp2_with fail
                                go_ret
                                exact ⟨rfl, Q1.out.trans Q9.out⟩
                          · exact absurd rfl z
              · have h9i : ¬ (pz : Int) < 9 := by omega
                have HWM := Lib.hid (HW.out.mono (show 17000002 * (k + 1) ≤ 17000002 * (k + 1 + 1) by omega)); have HGM := Lib.hid HG.out.more
                clear HST HSP
                go_wp2_with fail
                refine (HPK.out _).mono ?_
                rintro e w4 ⟨rfl, rfl⟩
                go_wp2_with fail
                go_roundw
                case rel => exact ⟨k + 1, _, _, _, _, by go_num, by omega, rfl, rfl, rfl, HWM, HGM⟩
                case measure => simp [intOf]; omega
            · have hki : ¬ (k : Int) < (l.length : Int) := by omega
              obtain rfl : k = l.length := by omega
              clear hki hlt hk HCE HWF
              have HL := Lib.hid (HG.out.last (by omega))
              have HD := Lib.hid HW.out.dv
              clear HW HG
              generalize σ.j.d = d at *
              obtain ⟨W2', hW2⟩ : ∃ W2' : Bytes, W2' = W1 := ⟨_, rfl⟩
              have hcr := fun (V : World) (q : Q wr V) => HD.out.crash HL.out.ok HL.out.p _ y.keep KY.out (by omega) y.at_ y.n V q
              have HCR := Lib.hid hcr
              obtain ⟨o1, o2, o3, x, hx, ho⟩ := HL.out.open (by decide) y.keep y.at_ y.n pa ((d.crash y.keep y.at_ y.n).setFuse pa) (by unfold DevL.setFuse; rw [show max (pa : Int) (-1) = (pa : Int) by omega]) (by omega) (by omega)
              have HO := Lib.hid (show _ ∧ _ ∧ _ ∧ _ from ⟨o1, o2, o3, ho⟩)
              have hcl := HD.out.hold y3.out y1.out y2.out
              clear hcr o1 o2 o3 ho HL
              generalize d.crash y.keep y.at_ y.n = d1 at *
              obtain ⟨c0, c3, c1, c2⟩ := hcl
              have c0 := show _ ∧ _ ∧ _ ∧ _ from ⟨c0, c3, c1, c2⟩
              have KK := Lib.hid (Q.refl wr)
              clear HD
              go_wp2_with fail
              (go_region_held3 (fun w' => w'.cell? ⟨wb, 0, none⟩ = some (ptrV b) ∧ w'.cell? ⟨w.heap.size, 3, none⟩ = some (.slice ya y.keep.length yc) ∧ w'.cell? ⟨w.heap.size, 1, none⟩ = some (.int .i64 y.at_) ∧ w'.cell? ⟨w.heap.size, 2, none⟩ = some (.int .i64 y.n))
                (first | exact g0 | exact c0 | exact four (by repeat (first | with_reducible exact KK.out | with_reducible exact Q.refl _ | with_reducible apply Qs.dr | with_reducible apply Qs.al)) c0)
                (first | (go_at_call 16; with_reducible refine (HCR.out _ (by repeat (first | with_reducible exact KK.out | with_reducible exact Q.refl _ | with_reducible apply Qs.dr | with_reducible apply Qs.al))).mono ?_; rintro e w6 ⟨rfl, h6, k6⟩; have g0 := DAt.hold h6 y3.out y1.out y2.out; have DC := Lib.hid h6; clear h6 k6)))
              all_goals
                clear c0 KK c1 c2 c3 HCR
                try clear g0
                have c0 := DC.out.cell
                have KK := Lib.hid (Q.refl w6)
                have hfu := fun (V : World) (q : Q w6 V) => DC.out.fuse pa V q
                have HFU := Lib.hid hfu
                clear hfu DC
                generalize d1.setFuse pa = d2 at *
                go_wp2_with fail
                (go_region_held3 (fun w' => w'.cell? ⟨wb, 0, none⟩ = some (ptrV b))
                  (first | exact g0 | exact c0 | exact cellQ (by repeat (first | with_reducible exact KK.out | with_reducible exact Q.refl _ | with_reducible apply Qs.dr | with_reducible apply Qs.al)) c0)
                  (first
                    | (go_at_call 13; with_reducible refine (HPA.out _).mono ?_; rintro e w3x ⟨rfl, rfl⟩)
                    | (go_at_call 12; with_reducible refine (HFU.out _ (by repeat (first | with_reducible exact KK.out | with_reducible exact Q.refl _ | with_reducible apply Qs.dr | with_reducible apply Qs.al))).mono ?_; rintro e w7 ⟨rfl, h7, k7⟩; have g0 := h7.cell; have DO := Lib.hid h7; clear h7 k7)))
                all_goals
                  clear c0 KK HFU
                  try clear g0
                  obtain ⟨o1, o2, o3, ho⟩ := HO.out
                  clear HO
                  rcases ho with ⟨x1, x2, x3, x4, x5⟩ | ⟨z, L2, _⟩
                  · have hop := fun (W : World) (q : Q w7 W) => (DO.out.openOk o1 (by omega) x1 64 (by decide) W q)
                    rw [show ((64 : Nat) : Int) = 64 from rfl] at hop
                    have HOP := Lib.hid hop
                    have hst := fun (W : World) (sb2 : Nat) (h : SAt w1 W sb2 b (openedS d2) 0) => h.state x2 x3 x4 (by decide)
                    rw [x5] at hst
                    have HST := Lib.hid hst
                    clear hop hst x1 x2 x3 x4 x5 o1 o2 o3
                    generalize openedS d2 = s2 at *
                    have c0 := DO.out.cell
                    go_wp2_with fail
                    refine (HOP.out _ (Q.refl _)).mono ?_
                    rintro e w8 ⟨sb2, rfl, h8⟩
                    have S8 := Lib.hid h8
                    clear h8
                    go_wp2_with fail
                    refine (HST.out _ _ S8.out).mono ?_
                    rintro e w9 ⟨rfl, h9⟩
                    have Q9 := Lib.hid h9.q
                    clear h9
                    have hx1 := hx.elim id id
                    clear hx
                    go_wp2_with fail
                    go_ret
                    exact ⟨rfl, Q1.out.trans Q9.out⟩
                  · have hop := fun (W : World) (q : Q w7 W) => (DO.out.openBad o1 (by omega) (by omega) 64 (by decide) (by rw [z]; decide) W q)
                    rw [show ((64 : Nat) : Int) = 64 from rfl, z] at hop
                    have HOP := Lib.hid hop
                    have c0 := DO.out.cell
                    have L2' := L2
                    clear hop z o1 o2 o3 L2
                    have HL2 := Lib.hid L2'
                    clear L2'
                    generalize (openJ d2).1.d = d3 at *
                    go_wp2_with fail
                    refine (HOP.out _ (Q.refl _)).mono ?_
                    rintro e w8 ⟨rfl, h8, k8⟩
                    have HD := Lib.hid h8
                    clear h8 k8 HOP DO c0
                    have hcr := fun (V : World) (q : Q w8 V) => HD.out.crash HL2.out.ok HL2.out.p _ r.keep KR.out (by omega) r.at_ r.n V q
                    have HCR := Lib.hid hcr
                    obtain ⟨o1, o2, o3, x', hx', ho⟩ := HL2.out.open (by decide) r.keep r.at_ r.n (-1) (d3.crash r.keep r.at_ r.n) rfl (by omega) (by omega)
                    obtain rfl : x' = x := hx'.elim id id
                    have HO := Lib.hid (show _ ∧ _ ∧ _ ∧ _ from ⟨o1, o2, o3, ho⟩)
                    have c0 := HD.out.hold r3.out r1.out r2.out
                    clear hcr o1 o2 o3 ho HL2
                    generalize d3.crash r.keep r.at_ r.n = d4 at *
                    have KK := Lib.hid (Q.refl w8)
                    clear HD hx'
                    obtain ⟨c0, c3, c1, c2⟩ := c0
                    have c0 := show _ ∧ _ ∧ _ ∧ _ from ⟨c0, c3, c1, c2⟩
                    go_wp2_with fail
                    (go_region_held3 (fun w' => w'.cell? ⟨wb, 0, none⟩ = some (ptrV b) ∧ w'.cell? ⟨w.heap.size + 1, 3, none⟩ = some (.slice ra r.keep.length rc) ∧ w'.cell? ⟨w.heap.size + 1, 1, none⟩ = some (.int .i64 r.at_) ∧ w'.cell? ⟨w.heap.size + 1, 2, none⟩ = some (.int .i64 r.n))
                      (first | exact g0 | exact c0 | exact four (by repeat (first | with_reducible exact KK.out | with_reducible exact Q.refl _ | with_reducible apply Qs.dr | with_reducible apply Qs.al)) c0)
                      (first | (go_at_call 16; with_reducible refine (HCR.out _ (by repeat (first | with_reducible exact KK.out | with_reducible exact Q.refl _ | with_reducible apply Qs.dr | with_reducible apply Qs.al))).mono ?_; rintro e w7b ⟨rfl, h6, k6⟩; have g0 := DAt.hold h6 r3.out r1.out r2.out; have DC := Lib.hid h6; clear h6 k6)))
                    all_goals
                      clear c0 c1 c2 c3 KK HCR
                      try clear g0
                      have DO := DC
                      clear DC
                      obtain ⟨o1, o2, o3, ho⟩ := HO.out
                      clear HO
                      rcases ho with ⟨x1, x2, x3, x4, x5⟩ | ⟨_, _, z⟩
                      · have hop := fun (W : World) (q : Q w7b W) => (DO.out.openOk o1 (by omega) x1 64 (by decide) W q)
                        rw [show ((64 : Nat) : Int) = 64 from rfl] at hop
                        have HOP := Lib.hid hop
                        have hst := fun (W : World) (sb2 : Nat) (h : SAt w1 W sb2 b (openedS d4) 0) => h.state x2 x3 x4 (by decide)
                        rw [x5] at hst
                        have HST := Lib.hid hst
                        clear hop hst x1 x2 x3 x4 x5 o1 o2 o3
                        generalize openedS d4 = s2 at *
                        have c0 := DO.out.cell
                        go_wp2_with fail
                        refine (HOP.out _ (Q.refl _)).mono ?_
                        rintro e w8 ⟨sb2, rfl, h8⟩
                        have S8 := Lib.hid h8
                        clear h8
                        go_wp2_with fail
                        refine (HST.out _ _ S8.out).mono ?_
                        rintro e w9 ⟨rfl, h9⟩
                        have Q9 := Lib.hid h9.q
                        clear h9
                        have hx1 := hx.elim id id
                        clear hx
                        go_wp2_with fail
                        go_ret
                        exact ⟨rfl, Q1.out.trans Q9.out⟩
                      · exact absurd rfl z
      · have hr2 : (200 : Int) < (r.keep.length : Int) := by omega
        go_wp2_with fail
        go_ret
        exact ⟨rfl, Q1.out⟩
    · have hy2 : (200 : Int) < (y.keep.length : Int) := by omega
      go_wp2_with fail
      go_ret
      exact ⟨rfl, Q1.out⟩
end
end Go.Proofs.YtnmijegmbomfdaaGreatDoor
