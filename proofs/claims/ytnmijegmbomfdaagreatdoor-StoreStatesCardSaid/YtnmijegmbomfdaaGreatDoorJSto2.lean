/- Joined texts of one proof: what is needed of Sto2, Sto3, Sto4, Ply7, Ply7c, Mem. -/
import Derived.Test.YtnmijegmbomfdaaGreatDoorJBase
import Derived.Test.YtnmijegmbomfdaaGreatDoorJJrn3
set_option linter.unusedSimpArgs false
set_option linter.unusedVariables false
set_option linter.unnecessarySimpa false
set_option maxRecDepth 100000
set_option maxHeartbeats 16000000
namespace Go.Proofs.YtnmijegmbomfdaaGreatDoor
section
namespace DevL
def Free (d : DevL) : Prop := d.fuse = -1 ∧ d.dead = false
theorem turn_free {d : DevL} (h : d.Free) : d.turn.Free := by
  have : d.fuse ≠ 0 := by rw [h.1]; decide
  unfold turn; rw [if_neg this]
  exact ⟨by simp only [h.1]; decide, h.2⟩
theorem write_free {d : DevL} (h : d.Free) (i : Int) (s : Bytes) : (d.write i s).1.Free := by
  unfold write
  split
  · exact h
  · split
    · exact h
    · split
      · exact turn_free h
      · exact turn_free h
theorem flush_free' {d : DevL} (h : d.Free) : d.flush.1.Free := by
  unfold flush
  split
  · exact h
  · split
    · exact turn_free h
    · exact turn_free h
theorem writes_free' (ws : List WrL) : ∀ {d : DevL}, d.Free → (d.writes ws).1.Free := by
  induction ws with
  | nil => intro d h; exact h
  | cons w ws ih =>
    intro d h
    rw [writes]
    split
    · exact ih (write_free h _ _)
    · exact write_free h _ _
theorem lays_free' {d : DevL} (h : d.Free) (ws : List WrL) : (d.lays ws).1.Free := by
  unfold lays
  split
  · exact flush_free' (writes_free' ws h)
  · exact writes_free' ws h
end DevL
namespace JL
theorem ckpt_free {j : JL} (h : j.d.Free) : j.ckpt.1.d.Free := by
  unfold ckpt ckpt2 ckpt1
  split
  · exact DevL.lays_free' h _
  · split
    · exact DevL.lays_free' (DevL.lays_free' h _) _
    · exact DevL.lays_free' (DevL.lays_free' h _) _
theorem com_free {j : JL} (h : j.d.Free) (ws : List WrL) : (j.com ws).1.d.Free := by
  unfold com com3 com2 com1
  split
  · exact DevL.lays_free' h _
  · split
    · exact DevL.lays_free' (DevL.lays_free' h _) _
    · exact DevL.writes_free' _ (DevL.lays_free' (DevL.lays_free' h _) _)
theorem commit_free {j : JL} (h : j.d.Free) (ws : List WrL) : (j.commit ws).1.d.Free := by
  unfold commit
  split
  · split
    · exact ckpt_free h
    · exact com_free (ckpt_free h) ws
  · exact com_free h ws
theorem replay_len (m : Nat) : ∀ (j : JL), (replay m j).1.d.l.length = j.d.l.length := by
  induction m with
  | zero => intro j; rfl
  | succ m ih =>
    intro j
    rw [replay]
    cases j.frame with
    | none => rfl
    | some ws =>
      simp only []
      split
      · rw [ih]; exact DevL.writes_len _ _
      · exact DevL.writes_len _ _
end JL
theorem openJ_len (d : DevL) : (openJ d).1.d.l.length = d.l.length := by
  unfold openJ
  split
  · rfl
  · split
    · rfl
    · split
      · rw [JL.ckpt_len, JL.replay_len]
      · exact JL.replay_len _ _
theorem alloc_fit {n : Nat} {b : Bytes} (h : GoodMap n b) (c a : Nat) (hc : 1 ≤ c) (hn : n ≤ 8 * b.length) (he : fitN b c n = some a) : firstD n ≤ a ∧ a + c ≤ n ∧ ∀ j, a ≤ j → j < a + c → bit b j = false := by
  obtain ⟨h1, h2, _⟩ := fit_some b c n a he
  have hf : ∀ j, a ≤ j → j < a + c → bit b j = false := fun j hj1 hj2 => tail_free b (a + c) j (by rw [h1]; omega) hj2
  refine ⟨?_, h2, hf⟩
  rcases Nat.lt_or_ge a (firstD n) with hlt | hge
  · have := h.low a hlt
    rw [hf a (Nat.le_refl _) (by omega)] at this
    exact absurd this (by decide)
  · exact hge
theorem StInv.bits {K : Nat} {σ : StL} {fr : List (List WrL)} {C : Nat → Bytes} (h : StInv K σ fr C) : σ.n ≤ 8 * σ.map1.length := by
  have := partsN_pos σ.n (by have := h.big; omega)
  rw [h.map.len]; omega
theorem alloc_inv {K : Nat} {σ : StL} {fr : List (List WrL)} {C : Nat → Bytes} (h : StInv K σ fr C) (c : Int) : StInv K (σ.alloc c).1 fr C := by
  unfold StL.alloc
  split
  · exact h
  · rename_i hs
    obtain ⟨_, ho⟩ := state_open (by simpa using hs : σ.state true = 0)
    split
    · exact h
    · cases hf : fitN σ.map1 c.toNat σ.n with
      | none => exact h
      | some a =>
        obtain ⟨h1, h2, _⟩ := alloc_fit h.map c.toNat a (by omega) h.bits hf
        simp only []
        rcases turn_inv h ho a c.toNat true h1 h2 with ⟨e1, e2⟩ | ⟨e1, _, e2⟩
        · rw [if_pos (by rw [e2]; decide)]
          show StInv K (σ.turn a c.toNat true).1 fr C
          rw [e1]; exact h
        · rw [if_neg (by rw [e1]; simp)]
          exact e2
theorem release_inv {K : Nat} {σ : StL} {fr : List (List WrL)} {C : Nat → Bytes} (h : StInv K σ fr C) (a c : Int) : StInv K (σ.release a c).1 fr C := by
  unfold StL.release
  split
  · exact h
  · rename_i hs
    obtain ⟨_, ho⟩ := state_open (by simpa using hs : σ.state true = 0)
    split
    · exact h
    · rename_i hr
      split
      · exact h
      · have hd : (firstD σ.n : Int) ≤ a ∧ a < σ.n := by
          have := (not_or.1 (not_or.1 hr).2).1
          simpa [StL.isData] using this
        have hc := (not_or.1 hr).1
        have hle := (not_or.1 (not_or.1 hr).2).2
        rcases turn_inv h ho a.toNat c.toNat false (by omega) (by omega) with ⟨e1, e2⟩ | ⟨e1, _, e2⟩
        · rw [e1]; exact h
        · exact e2
theorem good_upd {n : Nat} {C : Nat → Bytes} {tx : List WrL} {b : Bytes} (hC : GoodC n C) (hb : GoodMap n b) (hm : b = mapC n (updC C tx)) (ht : ∀ w ∈ tx, 63 ≤ w.1) : GoodC n (updC C tx) := by
  refine ⟨?_, by rw [← hm]; exact hb⟩
  unfold updC
  rw [lastP_none _ _ _ (fun w hw e => by have := ht w hw; omega)]
  exact hC.title
theorem scommit_run {K : Nat} {σ : StL} {fr : List (List WrL)} {C : Nat → Bytes} (h : StInv K σ fr C) (hK : K + 4 < 18446744073709551616) :
    ((σ.commit).2 = 0 ∧ (∃ fr' , StInv (K + 2) σ.commit.1 fr' (updC C σ.tx)) ∧ σ.commit.1.open_ = false ∧ σ.state true = 0 ∧ σ.commit.1.map1 = σ.map1) ∨
    ((σ.commit).2 = 15 ∧ σ.commit.1 = σ ∧ σ.open_ = false) ∨
    ((σ.commit).2 = 4 ∧ σ.commit.1.dead = true ∧ σ.commit.1.j.d.Ok ∧ σ.commit.1.n = σ.n ∧ GoodC σ.n (updC C σ.tx) ∧ ¬ σ.j.d.Free ∧ Safe 60 (K + 2) σ.commit.1.j.d (fun D => D = C ∨ D = updC C σ.tx)) := by
  have hlive : σ.dead = false := h.inv.live
  unfold StL.commit
  cases ho : σ.open_ with
  | false =>
    right; left
    have e : σ.state true = 15 := by
      unfold StL.state
      rw [hlive, ho]; rfl
    rw [if_pos (by rw [e]; decide)]
    exact ⟨e, rfl, rfl⟩
  | true =>
    have e : σ.state true = 0 := by unfold StL.state; rw [hlive, ho]; rfl
    rw [if_neg (by rw [e]; simp)]
    have hgood := good_upd h.good h.map h.now (fun w hw => (h.txok w hw).1)
    by_cases ht : σ.tx = []
    · rw [if_pos ht]
      left
      refine ⟨rfl, ⟨fr, ?_⟩, rfl, e, rfl⟩
      have hu : updC C σ.tx = C := by rw [ht]; rfl
      have hn := h.now
      rw [hu] at hgood hn ⊢
      exact ⟨h.inv.mono (by omega), h.big, h.good, h.map, hn, List.Pairwise.nil, fun w hw => by simp [StL.close] at hw, by simp [StL.close], fun hc => by simp [StL.close] at hc, fun _ => rfl⟩
    · rw [if_neg ht]
      have hm := h.max
      have hw : WrOk σ.tx := ⟨by have := List.length_pos_iff.2 ht; omega, h.short, fun w hw => by have := h.txok w hw; exact ⟨by omega, this.2.2⟩⟩
      have hh : ∀ w ∈ σ.tx, 2 + 60 ≤ w.1 ∧ w.1 < σ.j.d.l.length := fun w hw => by have := h.txok w hw; exact ⟨by omega, this.2.1⟩
      rcases commit_run h.inv σ.tx hw hh hK with ⟨a, fr', b⟩ | ⟨a, b, c, d⟩
      · rw [if_pos a]
        left
        have hn : (σ.j.commit σ.tx).1.d.l.length = σ.n := JL.commit_len _ _
        refine ⟨rfl, ⟨fr', ?_⟩, rfl, e, rfl⟩
        refine ⟨b, ?_, ?_, ?_, ?_, List.Pairwise.nil, fun w hw => by simp [StL.close] at hw, by simp [StL.close], fun hc => by simp [StL.close] at hc, fun _ => rfl⟩
        · show 128 ≤ (σ.j.commit σ.tx).1.d.l.length
          rw [hn]; exact h.big
        · show GoodC (σ.j.commit σ.tx).1.d.l.length _
          rw [hn]; exact hgood
        · show GoodMap (σ.j.commit σ.tx).1.d.l.length σ.map1
          rw [hn]; exact h.map
        · show σ.map1 = mapC (σ.j.commit σ.tx).1.d.l.length (updC (updC C σ.tx) [])
          rw [hn]; exact h.now
      · rw [if_neg (by rw [a]; decide)]
        right; right
        refine ⟨a, b, c, JL.commit_len _ _, hgood, fun hf => ?_, d⟩
        have := (JL.commit_free hf σ.tx).2
        rw [b] at this; exact absurd this (by decide)
def mapD (d : DevL) : Bytes := ((List.range (partsN d.l.length)).map fun i => d.get (63 + i)).flatten
def openS (d : DevL) : StL × Int :=
  if (openJ d).2 ≠ 0 then (⟨(openJ d).1, [], [], false, []⟩, (openJ d).2) else
  if (openJ d).1.home ≠ 62 ∨ d.l.length < firstD d.l.length then (⟨(openJ d).1, [], [], false, []⟩, 7) else
  if (openJ d).1.d.get 62 ≠ titleL d.l.length ∨ 0 < cnt (mapD (openJ d).1.d) (firstD d.l.length) ∨
    cnt (mapD (openJ d).1.d) (2048 * partsN d.l.length) - cnt (mapD (openJ d).1.d) d.l.length ≠ 2048 * partsN d.l.length - d.l.length then (⟨(openJ d).1, [], [], false, []⟩, 7)
  else (⟨(openJ d).1, mapD (openJ d).1.d, [], false, []⟩, 0)
theorem cnt_zero (b : Bytes) (k : Nat) (h : ∀ i, i < k → bit b i = true) : cnt b k = 0 := by
  induction k with
  | zero => rfl
  | succ k ih => rw [cnt, ih (fun i hi => h i (by omega)), h k (by omega)]; rfl
theorem cnt_high (b : Bytes) (n k : Nat) (h : ∀ i, n ≤ i → bit b i = false) : cnt b (n + k) = cnt b n + k := by
  induction k with
  | zero => rfl
  | succ k ih => rw [← Nat.add_assoc, cnt, ih, h (n + k) (by omega)]; simp; omega
theorem sopen_run {K : Nat} {d : DevL} {s : SlotL} {k : Nat} {fr : List (List WrL)} {C : Nat → Bytes} (h : OpenPre 60 K d s k fr C) (hg : GoodC d.l.length C) (hn : 128 ≤ d.l.length) (hK : K + 3 < 18446744073709551616) :
    ((openS d).2 = 0 ∧ StInv (K + 1) (openS d).1 [] C ∧ (openS d).1.open_ = false ∧ (openS d).1.n = d.l.length ∧ (d.fuse = -1 → (openS d).1.j.d.Free)) ∨
    ((openS d).2 = 4 ∧ (openS d).1.dead = true ∧ (openS d).1.j.d.Ok ∧ (openS d).1.n = d.l.length ∧ Safe 60 (K + 1) (openS d).1.j.d (· = C) ∧ d.fuse ≠ -1) := by
  have hlen := openJ_len d
  have hm := h.ok.max
  unfold openS
  rcases open_run h hK with ⟨a, b, c, e⟩ | ⟨a, b, c, e, f⟩
  · rw [if_neg (by rw [a]; simp)]
    have hf := firstD_lt d.l.length hn hm
    have hp := partsN_pos d.l.length (by omega)
    have hh : (openJ d).1.home = 62 := by unfold JL.home; rw [b.hlog]
    rw [if_neg (by rw [hh]; simp; omega)]
    have hmap : mapD (openJ d).1.d = mapC d.l.length C := by
      unfold mapD mapC
      rw [hlen]
      congr 1
      exact List.map_congr_left (fun i hi => b.get _ (by omega) (by rw [hlen]; have := List.mem_range.1 hi; unfold firstD at hf; omega))
    rw [if_neg, hmap]
    · left
      have hnn : (⟨(openJ d).1, mapC d.l.length C, [], false, []⟩ : StL).n = d.l.length := hlen
      refine ⟨rfl, ⟨b, by rw [hnn]; exact hn, by rw [hnn]; exact hg, by rw [hnn]; exact hg.map, by rw [hnn]; rfl, List.Pairwise.nil, fun w hw => by simp at hw, by simp, fun hc => by simp at hc, fun _ => rfl⟩, rfl, hnn, fun hf => ⟨e hf, b.live⟩⟩
    · rw [hmap, b.get 62 (by omega) (by rw [hlen]; omega), hg.title]
      rintro (hc | hc | hc)
      · exact hc rfl
      · rw [cnt_zero _ _ hg.map.low] at hc; omega
      · refine hc ?_
        have := cnt_high (mapC d.l.length C) d.l.length (2048 * partsN d.l.length - d.l.length) hg.map.high
        rw [show d.l.length + (2048 * partsN d.l.length - d.l.length) = 2048 * partsN d.l.length by omega] at this
        rw [this]; omega
  · rw [if_pos (by rw [a]; decide)]
    exact .inr ⟨a, b, c, hlen, e, f⟩
def formatW (log : Nat) : List WrL := (List.range (log + 1)).map (fun i => (i + 1, noughtsL)) ++ [(0, slotT ⟨1, 1, log, 0⟩)]
def formatJ (d : DevL) (log : Nat) : DevL × Int := d.lays (formatW log)
def bits0 (n : Nat) : Bytes := setTo (zerosL (256 * partsN n)) 0 true (firstD n)
def formatT (n : Nat) : List WrL := (62, titleL n) :: (List.range (partsN n)).map fun i => (63 + i, partL (bits0 n) i)
def formatS (d : DevL) : DevL × Int :=
  if d.l.length < 128 then (d, 2) else if (formatJ d 60).2 ≠ 0 then formatJ d 60 else
  if (openJ (formatJ d 60).1).2 ≠ 0 then ((openJ (formatJ d 60).1).1.d, (openJ (formatJ d 60).1).2) else
  (((openJ (formatJ d 60).1).1.commit (formatT d.l.length)).1.d, ((openJ (formatJ d 60).1).1.commit (formatT d.l.length)).2)
theorem bits0_good (n : Nat) (h : 128 ≤ n) (hm : n ≤ 4096) : GoodMap n (bits0 n) := by
  have hp := partsN_pos n (by omega)
  have hf := firstD_lt n h hm
  have hz : ∀ i, bit (zerosL (256 * partsN n)) i = false := fun i => by
    unfold bit zerosL
    rw [List.getD_eq_getElem?_getD, List.getElem?_replicate]
    split <;> simp
  have hb := fun j => bit_setTo (zerosL (256 * partsN n)) 0 (firstD n) j true (by rw [zerosL_length]; omega)
  refine ⟨by unfold bits0; rw [length_setTo, zerosL_length], fun i hi => ?_, fun i hi => ?_⟩
  · unfold bits0; rw [hb, if_pos (by omega)]
  · unfold bits0; rw [hb, if_neg (by omega), hz]
theorem formatT_map (n : Nat) (h : 128 ≤ n) (hm : n ≤ 4096) (C : Nat → Bytes) : mapC n (updC C (formatT n)) = bits0 n ∧ updC C (formatT n) 62 = titleL n ∧ (∀ w ∈ formatT n, 62 ≤ w.1 ∧ w.1 < n ∧ w.2.length = 256) ∧ (formatT n).length ≤ 3 := by
  have hf := firstD_lt n h hm
  have hb := (bits0_good n h hm).len
  have hmem : ∀ w ∈ formatT n, w = (62, titleL n) ∨ ∃ i, i < partsN n ∧ w = (63 + i, partL (bits0 n) i) := fun w hw => by
    rcases List.mem_cons.1 hw with rfl | hw
    · exact .inl rfl
    · obtain ⟨i, hi, rfl⟩ := List.mem_map.1 hw
      exact .inr ⟨i, List.mem_range.1 hi, rfl⟩
  refine ⟨?_, ?_, fun w hw => ?_, ?_⟩
  · have e : mapC n (updC C (formatT n)) = ((List.range (partsN n)).map (partL (bits0 n))).flatten := by
      unfold mapC
      congr 1
      refine List.map_congr_left (fun i hi => ?_)
      unfold updC
      refine lastP_only (formatT n) (63 + i, partL (bits0 n) i) _ (List.mem_cons_of_mem _ (List.mem_map.2 ⟨i, hi, rfl⟩)) (fun x hx e => ?_)
      rcases hmem x hx with rfl | ⟨i2, _, rfl⟩
      · simp only at e; omega
      · simp only at e; rw [show i2 = i by omega]
    rw [e]
    exact flat_parts _ _ hb
  · unfold updC
    refine lastP_only (formatT n) (62, titleL n) _ (List.mem_cons_self ..) (fun x hx e => ?_)
    rcases hmem x hx with rfl | ⟨i2, _, rfl⟩
    · rfl
    · simp only at e; omega
  · rcases hmem w hw with rfl | ⟨i, hi, rfl⟩
    · exact ⟨Nat.le_refl _, by simp only; omega, titleL_length n⟩
    · refine ⟨by simp only; omega, by simp only [firstD] at hf ⊢; omega, ?_⟩
      show (partL (bits0 n) i).length = 256
      unfold partL
      rw [List.length_take, List.length_drop, hb]; omega
  · simp only [formatT, List.length_cons, List.length_map, List.length_range]; omega
theorem format_mid (n : Nat) (h : 128 ≤ n) (hm : n ≤ 4096) :
    (formatJ (DevL.new n) 60).2 = 0 ∧ (formatJ (DevL.new n) 60).1.l.length = n ∧ (formatJ (DevL.new n) 60).1.p = [] ∧ (formatJ (DevL.new n) 60).1.Ok ∧ (openJ (formatJ (DevL.new n) 60).1).2 = 0 ∧ JInv 60 2 (openJ (formatJ (DevL.new n) 60).1).1 [] (fun _ => noughtsL) ∧ (openJ (formatJ (DevL.new n) 60).1).1.d.l.length = n ∧ (openJ (formatJ (DevL.new n) 60).1).1.d.Free := by
  have hl : (DevL.new n).l.length = n := List.length_replicate
  have hok := DevL.new_ok n (by omega) hm
  have hfree : (DevL.new n).Free := ⟨rfl, rfl⟩
  have hw : ∀ w ∈ formatW 60, w.1 < (DevL.new n).l.length ∧ w.2.length = 256 := fun w hw => by
    rw [hl]
    rcases List.mem_append.1 hw with hw | hw
    · obtain ⟨i, hi, rfl⟩ := List.mem_map.1 hw
      have := List.mem_range.1 hi
      exact ⟨by simp only; omega, noughts_len⟩
    · rw [List.mem_singleton] at hw; subst hw
      exact ⟨by simp only; omega, slotT_length _⟩
  obtain ⟨a, b, c, e⟩ : (formatJ (DevL.new n) 60).2 = 0 ∧ (formatJ (DevL.new n) 60).1.dead = false ∧ (formatJ (DevL.new n) 60).1.l = layP (DevL.new n).l ((DevL.new n).p ++ formatW 60) ∧ (formatJ (DevL.new n) 60).1.p = [] := by
    rcases DevL.lays_run (formatW 60) (DevL.new n) rfl hw with h1 | ⟨_, h2, _⟩
    · exact h1
    · exfalso
      have := (DevL.lays_free' hfree (formatW 60)).2
      rw [h2] at this; exact absurd this (by decide)
  have hfj : (formatJ (DevL.new n) 60).1.Free := DevL.lays_free' hfree _
  have hlj : (formatJ (DevL.new n) 60).1.l.length = n := by rw [c, layP_length, hl]
  have hnew : ∀ i, i < n → at' (DevL.new n).l i = noughtsL := fun i hi => by
    simp only [DevL.new, at', List.getD_eq_getElem?_getD, List.getElem?_replicate, if_pos hi, Option.getD_some]
  have hg : ∀ i, i < n → at' (formatJ (DevL.new n) 60).1.l i = if i = 0 then slotT ⟨1, 1, 60, 0⟩ else noughtsL := fun i hi => by
    rw [c, layP_at _ _ _ (by rw [hl]; exact hi), hnew i hi]
    show lastP ([] ++ formatW 60) i noughtsL = _
    rw [List.nil_append]
    unfold formatW
    rw [lastP_snoc]
    by_cases h0 : i = 0
    · rw [if_pos h0, if_pos h0.symm]
    · rw [if_neg h0, if_neg (Ne.symm h0)]
      by_cases hx : ∃ w ∈ (List.range (60 + 1)).map (fun i => (i + 1, noughtsL)), w.1 = i
      · obtain ⟨w, hw, _, e⟩ := lastP_mem _ i noughtsL hx
        obtain ⟨m, _, rfl⟩ := List.mem_map.1 hw
        exact e
      · exact lastP_none _ _ _ (fun w hw e => hx ⟨w, hw, e⟩)
  have hso : (⟨1, 1, 60, 0⟩ : SlotL).Ok := ⟨by decide, by decide, by decide, by decide⟩
  have hrec : RecS (formatJ (DevL.new n) 60).1.l ⟨1, 1, 60, 0⟩ 0 [] (fun _ => noughtsL) := by
    refine ⟨by rw [hlj]; exact hm, (DevL.lays_ok hok _).l, by decide, by rw [hlj]; show 60 + 3 ≤ n; omega, by decide, by decide, by decide, by decide, ?_, ?_, ⟨by decide, ?_⟩, fun i h1 h2 => ?_⟩
    · rw [hg 0 (by omega), if_pos rfl]
    · refine OldX.other ?_ ⟨by decide, by decide, by decide, by decide⟩ (by decide)
      rw [hg _ (by omega), if_neg (by decide)]
      exact .inl rfl
    · rw [show logAt ⟨1, 1, 60, 0⟩ 0 = 2 from rfl, hg 2 (by omega), if_neg (by decide)]
      exact noughts_end
    · rw [hlj] at h2
      show at' _ i = _
      rw [hg i h2, if_neg (by have : 2 + 60 ≤ i := h1; omega)]
  have hpre : OpenPre 60 1 (formatJ (DevL.new n) 60).1 ⟨1, 1, 60, 0⟩ 0 [] (fun _ => noughtsL) :=
    ⟨DevL.lays_ok hok _, b, hrec, rfl, by decide, by decide, fun w hw => by rw [e] at hw; simp at hw⟩
  obtain ⟨o1, o2, o3, o4⟩ : (openJ (formatJ (DevL.new n) 60).1).2 = 0 ∧ JInv 60 2 (openJ (formatJ (DevL.new n) 60).1).1 [] (fun _ => noughtsL) ∧ (openJ (formatJ (DevL.new n) 60).1).1.d.p = [] ∧ (openJ (formatJ (DevL.new n) 60).1).1.d.fuse = -1 := by
    rcases open_run hpre (by decide) with ⟨x1, x2, x3, x4⟩ | ⟨_, _, _, _, x5⟩
    · exact ⟨x1, x2, x3, x4 hfj.1⟩
    · exact absurd hfj.1 x5
  have hol : (openJ (formatJ (DevL.new n) 60).1).1.d.l.length = n := by rw [openJ_len, hlj]
  exact ⟨a, hlj, e, DevL.lays_ok hok _, o1, o2, hol, ⟨o4, o2.live⟩⟩
theorem format_run (n : Nat) (h : 128 ≤ n) (hm : n ≤ 4096) :
    (formatS (DevL.new n)).2 = 0 ∧ (formatS (DevL.new n)).1.Free ∧ (formatS (DevL.new n)).1.l.length = n ∧ ∃ s k fr C, OpenPre 60 4 (formatS (DevL.new n)).1 s k fr C ∧ GoodC n C := by
  have hl : (DevL.new n).l.length = n := List.length_replicate
  obtain ⟨a, hlj, _, _, o1, o2, hol, hof⟩ := format_mid n h hm
  obtain ⟨t1, t2, t3, t4⟩ := formatT_map n h hm (fun _ => noughtsL)
  have hwo : WrOk (formatT n) := ⟨by simp [formatT], by omega, fun w hw => by have := t3 w hw; exact ⟨by omega, this.2.2⟩⟩
  obtain ⟨q1, fr, q2⟩ : ((openJ (formatJ (DevL.new n) 60).1).1.commit (formatT n)).2 = 0 ∧ ∃ fr', JInv 60 4 ((openJ (formatJ (DevL.new n) 60).1).1.commit (formatT n)).1 fr' (updC (fun _ => noughtsL) (formatT n)) := by
    rcases commit_run o2 (formatT n) hwo (fun w hw => by rw [hol]; have := t3 w hw; exact ⟨by omega, this.2.1⟩) (by decide) with x | ⟨_, x, _⟩
    · exact x
    · exfalso
      have := (JL.commit_free hof (formatT n)).2
      rw [x] at this; exact absurd this (by decide)
  have hfs : formatS (DevL.new n) = (((openJ (formatJ (DevL.new n) 60).1).1.commit (formatT n)).1.d, 0) := by
    unfold formatS
    rw [if_neg (by rw [hl]; omega), if_neg (by rw [a]; simp), if_neg (by rw [o1]; simp), hl, q1]
  rw [hfs]
  refine ⟨rfl, JL.commit_free hof _, by rw [JL.commit_len, hol], _, _, fr, _, q2.toJPre.open, ?_⟩
  exact ⟨t2, by rw [t1]; exact bits0_good n h hm⟩
def tellL (n : Nat) (b : Bytes) (f : Nat → Bytes) : Bytes :=
  ((List.range n).filter fun k => decide (firstD n ≤ k) && bit b k).flatMap fun k => UInt8.ofNat (k % 256) :: UInt8.ofNat (k / 256 % 256) :: f k
def StL.tell (σ : StL) : Bytes := tellL σ.n σ.map1 σ.get
def tellC (n : Nat) (C : Nat → Bytes) : Bytes := tellL n (mapC n C) C
theorem tellL_ext {n : Nat} {b : Bytes} {f g : Nat → Bytes} (h : ∀ k, firstD n ≤ k → k < n → f k = g k) : tellL n b f = tellL n b g := by
  unfold tellL
  rw [List.flatMap_eq_foldl, List.flatMap_eq_foldl]
  have hm : ∀ k ∈ (List.range n).filter (fun k => decide (firstD n ≤ k) && bit b k), f k = g k := fun k hk => by
    obtain ⟨h1, h2⟩ := List.mem_filter.1 hk
    have h3 := List.mem_range.1 h1
    simp only [Bool.and_eq_true, decide_eq_true_eq] at h2
    exact h k h2.1 h3
  generalize (List.range n).filter (fun k => decide (firstD n ≤ k) && bit b k) = l at *
  generalize ([] : Bytes) = acc
  induction l generalizing acc with
  | nil => rfl
  | cons k l ih =>
    rw [List.foldl_cons, List.foldl_cons, hm k (List.mem_cons_self ..)]
    exact ih (fun x hx => hm x (List.mem_cons_of_mem _ hx)) _
theorem StInv.tell {K : Nat} {σ : StL} {fr : List (List WrL)} {C : Nat → Bytes} (h : StInv K σ fr C) : σ.tell = tellC σ.n (updC C σ.tx) := by
  unfold StL.tell tellC
  rw [← h.now]
  exact tellL_ext (fun k h1 h2 => h.get k (by unfold firstD at h1; omega) h2)
theorem StInv.tell_closed {K : Nat} {σ : StL} {fr : List (List WrL)} {C : Nat → Bytes} (h : StInv K σ fr C) (ho : σ.open_ = false) : σ.tell = tellC σ.n C := by
  rw [h.tell, h.closed ho]; rfl
theorem abort_open (σ : StL) : σ.abort.open_ = false := by
  unfold StL.abort
  cases h : σ.open_ with
  | true => rfl
  | false => rw [if_neg (by decide)]; exact h
theorem abort_n (σ : StL) : σ.abort.n = σ.n := by
  unfold StL.abort
  split <;> rfl
theorem abort_tell {K : Nat} {σ : StL} {fr : List (List WrL)} {C : Nat → Bytes} (h : StInv K σ fr C) : σ.abort.tell = tellC σ.n C := by
  rw [(abort_inv h).tell_closed (abort_open σ), abort_n]
theorem begin_tell {K : Nat} {σ : StL} {fr : List (List WrL)} {C : Nat → Bytes} (h : StInv K σ fr C) : σ.begin.1.tell = σ.tell := by
  unfold StL.begin
  split
  · rfl
  · rfl
theorem commit_tell {K : Nat} {σ : StL} {fr : List (List WrL)} {C : Nat → Bytes} (h : StInv K σ fr C) {K' : Nat} {fr' : List (List WrL)} (h' : StInv K' σ.commit.1 fr' (updC C σ.tx)) (ho : σ.commit.1.open_ = false) (hn : σ.commit.1.n = σ.n) : σ.commit.1.tell = σ.tell := by
  rw [h'.tell_closed ho, h.tell, hn]
theorem commit_n (σ : StL) : σ.commit.1.n = σ.n := by
  unfold StL.commit
  split
  · rfl
  · split
    · rfl
    · split
      · exact JL.commit_len _ _
      · exact JL.commit_len _ _
def usedL (b : Bytes) (lo : Nat) : Nat → List (Nat × Nat)
  | 0 => []
  | k + 1 =>
    if bit b (lo + k) then
      (match (usedL b lo k).getLast? with
      | some r => if r.1 + r.2 = lo + k then (usedL b lo k).dropLast ++ [(r.1, r.2 + 1)] else usedL b lo k ++ [(lo + k, 1)]
      | none => [(lo + k, 1)])
    else usedL b lo k
theorem used_flat (b : Bytes) (lo k : Nat) : (usedL b lo k).flatMap (fun r => List.range' r.1 r.2) = (List.range' lo k).filter (fun i => bit b i) := by
  induction k with
  | zero => rfl
  | succ k ih =>
    rw [List.range'_1_concat, List.filter_append, ← ih, usedL]
    cases hb : bit b (lo + k) with
    | false => simp [hb]
    | true =>
      simp only [if_true]
      cases hl : (usedL b lo k).getLast? with
      | none =>
        have : usedL b lo k = [] := List.getLast?_eq_none_iff.1 hl
        simp [this, hb]
      | some r =>
        obtain ⟨ys, hys⟩ := List.getLast?_eq_some_iff.1 hl
        simp only []
        split
        · rename_i he
          have hu : usedL b lo k = (usedL b lo k).dropLast ++ [r] := by
            rw [hys, List.dropLast_concat]
          conv => rhs; rw [hu]
          rw [List.flatMap_append, List.flatMap_append, List.append_assoc]
          congr 1
          simp only [List.flatMap_cons, List.flatMap_nil, List.append_nil, List.filter_cons, hb, if_true, List.filter_nil]
          rw [List.range'_1_concat, he]
        · simp [List.flatMap_append, hb]
theorem used_last (b : Bytes) (lo k : Nat) : ∀ r ∈ usedL b lo k, 1 ≤ r.2 ∧ r.1 + r.2 ≤ lo + k ∧ lo ≤ r.1 ∧ bit b (r.1 + r.2 - 1) = true := by
  induction k with
  | zero => intro r h; simp [usedL] at h
  | succ k ih =>
    intro r h
    rw [usedL] at h
    cases hb : bit b (lo + k) with
    | false =>
      rw [hb] at h
      simp only [Bool.false_eq_true, if_false] at h
      obtain ⟨h1, h2, h3, h4⟩ := ih r h
      exact ⟨h1, by omega, h3, h4⟩
    | true =>
      rw [hb] at h
      simp only [if_true] at h
      cases hl : (usedL b lo k).getLast? with
      | none =>
        rw [hl] at h
        simp only [List.mem_singleton] at h
        subst h
        exact ⟨by omega, by simp only; omega, by simp only; omega, by simp only [Nat.add_sub_cancel]; exact hb⟩
      | some q =>
        rw [hl] at h
        simp only [] at h
        have hq := ih q (List.mem_of_getLast? hl)
        split at h
        · rename_i he
          rcases List.mem_append.1 h with h | h
          · obtain ⟨h1, h2, h3, h4⟩ := ih r (List.dropLast_subset _ h)
            exact ⟨h1, by omega, h3, h4⟩
          · simp only [List.mem_singleton] at h
            subst h
            refine ⟨by simp only; omega, by simp only; omega, hq.2.2.1, ?_⟩
            show bit b (q.1 + (q.2 + 1) - 1) = true
            rw [show q.1 + (q.2 + 1) - 1 = lo + k by omega]; exact hb
        · rcases List.mem_append.1 h with h | h
          · obtain ⟨h1, h2, h3, h4⟩ := ih r h
            exact ⟨h1, by omega, h3, h4⟩
          · simp only [List.mem_singleton] at h
            subst h
            exact ⟨by omega, by simp only; omega, by simp only; omega, by simp only [Nat.add_sub_cancel]; exact hb⟩
theorem used_skip (b : Bytes) (lo m t : Nat) (h : ∀ i, i < t → bit b (lo + m + i) = false) : usedL b lo (m + t) = usedL b lo m := by
  induction t with
  | zero => rfl
  | succ t ih =>
    rw [← Nat.add_assoc, usedL, ← Nat.add_assoc, h t (by omega), if_neg (by decide)]
    exact ih (fun i hi => h i (by omega))
theorem used_run (b : Bytes) (lo m t : Nat) (ht : 0 < t) (h : ∀ i, i < t → bit b (lo + m + i) = true) (hm : m = 0 ∨ bit b (lo + m - 1) = false) : usedL b lo (m + t) = usedL b lo m ++ [(lo + m, t)] := by
  induction t with
  | zero => omega
  | succ t ih =>
    rw [← Nat.add_assoc, usedL, ← Nat.add_assoc, h t (by omega), if_pos rfl]
    rcases Nat.eq_zero_or_pos t with rfl | htp
    · rw [Nat.add_zero]
      cases hl : (usedL b lo m).getLast? with
      | none =>
        rw [List.getLast?_eq_none_iff.1 hl]; rfl
      | some q =>
        obtain ⟨q1, q2, q3, q4⟩ := used_last b lo m q (List.mem_of_getLast? hl)
        simp only []
        rw [if_neg]
        · rfl
        · intro he
          rcases hm with rfl | hm
          · simp [usedL] at hl
          · rw [he, Nat.add_zero] at q4
            rw [q4] at hm; exact absurd hm (by decide)
    · rw [ih htp (fun i hi => h i (by omega)), List.getLast?_append]
      simp only [List.getLast?_singleton, Option.some_or, List.dropLast_concat]
      rw [if_pos trivial]
def usedStep (st : List (Nat × Nat) × Nat) (r : Nat × Nat) : List (Nat × Nat) × Nat := (if st.2 < r.1 then st.1 ++ [(st.2, r.1 - st.2)] else st.1, r.1 + r.2)
theorem used_fold (b : Bytes) (lo k : Nat) (hlow : ∀ i, i < lo → bit b i = true) (hk : lo ≤ k) :
    ∃ at_, (runsTo b k).foldl usedStep ([], lo) = (usedL b lo (at_ - lo), at_) ∧ lo ≤ at_ ∧ at_ ≤ k ∧ (∀ i, at_ ≤ i → i < k → bit b i = true) ∧ (at_ = lo ∨ bit b (at_ - 1) = false) ∧ (lo < k → bit b (k - 1) = false → at_ = k) := by
  obtain ⟨d, rfl⟩ : ∃ d, k = lo + d := ⟨k - lo, by omega⟩
  clear hk
  have h0 : ∀ j, j ≤ lo → runsTo b j = [] := fun j hj => by
    induction j with
    | zero => rfl
    | succ j ih => rw [runsTo, hlow j (by omega), if_pos rfl]; exact ih (by omega)
  induction d with
  | zero => exact ⟨lo, by rw [Nat.add_zero, h0 lo (Nat.le_refl _), Nat.sub_self]; rfl, Nat.le_refl _, by omega, fun i h1 h2 => by omega, .inl rfl, fun h => by omega⟩
  | succ d ih =>
    obtain ⟨a, e, h1, h2, h3, h4, h5⟩ := ih
    rw [← Nat.add_assoc]
    cases hb : bit b (lo + d) with
    | true =>
      refine ⟨a, by rw [runs_stay b _ hb]; exact e, h1, by omega, fun i hi1 hi2 => ?_, h4, fun _ hc => ?_⟩
      · by_cases hi : i = lo + d
        · rw [hi]; exact hb
        · exact h3 i hi1 (by omega)
      · rw [Nat.add_sub_cancel, hb] at hc; exact absurd hc (by decide)
    | false =>
      refine ⟨lo + d + 1, ?_, by omega, Nat.le_refl _, fun i hi1 hi2 => by omega, .inr (by rw [Nat.add_sub_cancel]; exact hb), fun _ _ => rfl⟩
      rw [runsTo, hb, if_neg (by decide)]
      have hskip : usedL b lo (d + 1) = usedL b lo d := used_skip b lo d 1 (fun i hi => by rw [show lo + d + i = lo + d by omega]; exact hb)
      rw [show lo + d + 1 - lo = d + 1 by omega, hskip]
      by_cases hc : 0 < lo + d ∧ bit b (lo + d - 1) = false
      · rw [if_pos hc]
        have hd : 0 < d := by
          rcases Nat.eq_zero_or_pos d with rfl | hd
          · have := hlow (lo - 1) (by omega)
            rw [Nat.add_zero] at hc; rw [this] at hc; exact absurd hc.2 (by decide)
          · exact hd
        obtain rfl := h5 (by omega) hc.2
        have hne : runsTo b (lo + d) ≠ [] := fun hn => by
          rw [hn] at e
          simp only [List.foldl_nil, Prod.mk.injEq] at e
          omega
        obtain ⟨rs, r, hrs⟩ : ∃ rs r, runsTo b (lo + d) = rs ++ [r] := ⟨_, _, (List.dropLast_concat_getLast hne).symm⟩
        rw [hrs] at e ⊢
        rw [bump_snoc, List.foldl_append]
        rw [List.foldl_append] at e
        simp only [List.foldl_cons, List.foldl_nil, usedStep, Prod.mk.injEq] at e ⊢
        rw [show lo + d - lo = d by omega] at e
        exact ⟨e.1, by omega⟩
      · rw [if_neg hc, List.foldl_append, e]
        simp only [List.foldl_cons, List.foldl_nil, usedStep, Prod.mk.injEq]
        refine ⟨?_, trivial⟩
        by_cases ha : a < lo + d
        · rw [if_pos ha]
          have := used_run b lo (a - lo) (lo + d - a) (by omega) (fun i hi => h3 _ (by omega) (by omega)) (by
            rcases h4 with h4 | h4
            · exact .inl (by omega)
            · exact .inr (by rw [show lo + (a - lo) - 1 = a - 1 by omega]; exact h4))
          rw [show a - lo + (lo + d - a) = d by omega, show lo + (a - lo) = a by omega] at this
          exact this.symm
        · rw [if_neg ha, show a - lo = d by omega]
def usedR (b : Bytes) (lo n : Nat) : List (Nat × Nat) := ((runsTo b n ++ [(n, 0)]).foldl usedStep ([], lo)).1
theorem usedR_eq (b : Bytes) (lo n : Nat) (hlow : ∀ i, i < lo → bit b i = true) (hk : lo ≤ n) : usedR b lo n = usedL b lo (n - lo) := by
  obtain ⟨a, e, h1, h2, h3, h4, _⟩ := used_fold b lo n hlow hk
  unfold usedR
  rw [List.foldl_append, e]
  simp only [List.foldl_cons, List.foldl_nil, usedStep]
  by_cases ha : a < n
  · rw [if_pos ha]
    have := used_run b lo (a - lo) (n - a) (by omega) (fun i hi => h3 _ (by omega) (by omega)) (by
      rcases h4 with h4 | h4
      · exact .inl (by omega)
      · exact .inr (by rw [show lo + (a - lo) - 1 = a - 1 by omega]; exact h4))
    rw [show a - lo + (n - a) = n - lo by omega, show lo + (a - lo) = a by omega] at this
    exact this.symm
  · rw [if_neg ha, show a - lo = n - lo by omega]
theorem used_total (b : Bytes) (lo k : Nat) : total (usedL b lo k) = ((List.range' lo k).filter fun i => bit b i).length := by
  rw [← used_flat, total]
  generalize usedL b lo k = l
  induction l with
  | nil => rfl
  | cons r l ih => rw [List.map_cons, List.sum_cons, ih, List.flatMap_cons, List.length_append, List.length_range']
theorem cnt_used (b : Bytes) (lo k : Nat) (hlow : ∀ i, i < lo → bit b i = true) : ((List.range' lo k).filter fun i => bit b i).length + cnt b (lo + k) = k := by
  induction k with
  | zero => rw [Nat.add_zero, cnt_zero b lo hlow]; rfl
  | succ k ih =>
    rw [List.range'_1_concat, List.filter_append, ← Nat.add_assoc, cnt, List.length_append]
    cases hb : bit b (lo + k) with
    | true => simp [hb]; omega
    | false => simp [hb]; omega
theorem GoodMap.many {n : Nat} {b : Bytes} (h : GoodMap n b) (hn : firstD n ≤ n) : total (usedL b (firstD n) (n - firstD n)) + cnt b n = n - firstD n := by
  have := cnt_used b (firstD n) (n - firstD n) h.low
  rw [show firstD n + (n - firstD n) = n by omega] at this
  rw [used_total]; exact this
def pickZ (c : Int) (n : Nat) : Nat := (if c < 0 then -(c + 1) else c).toNat % n
theorem pickZ_lt (c : Int) (n : Nat) (h : 0 < n) : pickZ c n < n := Nat.mod_lt _ h
structure Act7 where
  op : Int
  at_ : Int
  n : Int
  keep : List Bool
  byte : UInt8
def Act7.k (a : Act7) : Nat := pickZ a.op 11
def fullL (c : UInt8) : Bytes := List.replicate 256 c
theorem fullL_len (c : UInt8) : (fullL c).length = 256 := List.length_replicate
def Act7.at7 (a : Act7) : Int := if a.at_.tmod 29 = 0 then a.at_ else 60 + (pickZ a.at_ 72 : Nat)
def Act7.data (a : Act7) : Bytes := if a.n.tmod 31 = 0 ∧ a.n ≠ 0 then [120] else fullL a.byte
theorem Act7.data_len (a : Act7) : a.data.length ≤ 256 := by
  unfold Act7.data
  split
  · decide
  · rw [fullL_len]; exact Nat.le_refl _
def doesS (a : Act7) (σ : StL) : StL :=
  if a.k ≤ 1 then (σ.write a.at7 a.data).1 else if a.k ≤ 3 then (σ.alloc a.n).1 else if a.k = 4 then (σ.release a.at7 a.n).1 else if a.k = 5 then σ.begin.1 else if a.k = 6 then σ.commit.1 else if a.k = 7 then σ.abort else σ
def doesE (a : Act7) (σ : StL) : Int :=
  if a.k ≤ 1 then (σ.write a.at7 a.data).2 else if a.k ≤ 3 then (σ.alloc a.n).2.2 else if a.k = 4 then (σ.release a.at7 a.n).2 else if a.k = 5 then σ.begin.2 else if a.k = 6 then σ.commit.2 else if a.k = 7 then 0 else (σ.read a.at7).2
def doesN (a : Act7) (σ : StL) : Int := if 2 ≤ a.k ∧ a.k ≤ 3 then (σ.alloc a.n).2.1 else 0
def doesT (a : Act7) (σ : StL) : Bytes := if a.k = 8 then (σ.read a.at7).1 else []
def StL.fuse (σ : StL) (f : Int) : StL := { σ with j := { σ.j with d := σ.j.d.setFuse f } }
theorem setFuse_ok {d : DevL} (h : d.Ok) (f : Int) (hf : f ≤ 9223372036854775807) : (d.setFuse f).Ok := ⟨h.pos, h.max, h.l, h.p, by simp only [DevL.setFuse]; omega, by simp only [DevL.setFuse]; omega⟩
theorem fuse_inv {K : Nat} {σ : StL} {fr : List (List WrL)} {C : Nat → Bytes} (h : StInv K σ fr C) (f : Int) (hf : f ≤ 9223372036854775807) : StInv K (σ.fuse f) fr C := by
  have i := h.inv
  exact ⟨⟨⟨setFuse_ok i.ok f hf, i.live, i.hrec, i.hlog, i.he, i.hnext, i.hnextK, i.hused, i.pend, i.get⟩, i.old, i.hend, i.plen⟩, h.big, h.good, h.map, h.now, h.rise, h.txok, h.short, h.hwas, h.closed⟩
theorem touch_e (σ : StL) (l : List WrL) : ((σ.touch l).2 = 0 ∨ (σ.touch l).2 = 6) ∧ (σ.touch l).1.j = σ.j := by
  unfold StL.touch
  split
  · exact ⟨.inr rfl, rfl⟩
  · exact ⟨.inl rfl, rfl⟩
theorem write_e {σ : StL} (h : σ.dead = false) (i : Int) (s : Bytes) : (σ.write i s).2 ≠ 4 ∧ (σ.write i s).1.j = σ.j := by
  have hs : σ.state true ≠ 4 := by unfold StL.state; rw [h]; simp only [Bool.false_eq_true, if_false]; split <;> decide
  unfold StL.write
  split
  · exact ⟨hs, rfl⟩
  · split
    · exact ⟨by simp, rfl⟩
    · split
      · exact ⟨by simp, rfl⟩
      · split
        · exact ⟨by simp, rfl⟩
        · obtain ⟨e, f⟩ := touch_e σ [(i.toNat, s)]
          exact ⟨by rcases e with e | e <;> rw [e] <;> decide, f⟩
theorem turn_e (σ : StL) (a c : Nat) (on : Bool) : (σ.turn a c on).2 ≠ 4 ∧ (σ.turn a c on).1.j = σ.j := by
  obtain ⟨e, f⟩ := touch_e σ (σ.turned (setTo σ.map1 a on c))
  unfold StL.turn
  split
  · exact ⟨by rcases e with e | e <;> rw [e] <;> decide, f⟩
  · exact ⟨by simp, f⟩
theorem alloc_e {σ : StL} (h : σ.dead = false) (c : Int) : (σ.alloc c).2.2 ≠ 4 ∧ (σ.alloc c).1.j = σ.j := by
  have hs : σ.state true ≠ 4 := by unfold StL.state; rw [h]; simp only [Bool.false_eq_true, if_false]; split <;> decide
  unfold StL.alloc
  split
  · exact ⟨hs, rfl⟩
  · split
    · exact ⟨by simp, rfl⟩
    · split
      · exact ⟨by simp, rfl⟩
      · split
        · exact turn_e _ _ _ _
        · exact ⟨by simp, (turn_e _ _ _ _).2⟩
theorem release_e {σ : StL} (h : σ.dead = false) (a c : Int) : (σ.release a c).2 ≠ 4 ∧ (σ.release a c).1.j = σ.j := by
  have hs : σ.state true ≠ 4 := by unfold StL.state; rw [h]; simp only [Bool.false_eq_true, if_false]; split <;> decide
  unfold StL.release
  split
  · exact ⟨hs, rfl⟩
  · split
    · exact ⟨by simp, rfl⟩
    · split
      · exact ⟨by simp, rfl⟩
      · exact turn_e _ _ _ _
theorem begin_e {σ : StL} (h : σ.dead = false) : σ.begin.2 ≠ 4 ∧ σ.begin.1.j = σ.j := by
  have hs : σ.state false ≠ 4 := by unfold StL.state; rw [h]; simp only [Bool.false_eq_true, if_false]; split <;> decide
  unfold StL.begin
  split
  · exact ⟨hs, rfl⟩
  · exact ⟨by simp, rfl⟩
theorem abort_j (σ : StL) : σ.abort.j = σ.j := by unfold StL.abort; split <;> rfl
theorem read_e {σ : StL} (h : σ.dead = false) (i : Int) : (σ.read i).2 ≠ 4 := by
  unfold StL.read
  rw [h, if_neg (by decide)]
  split
  · simp
  · simp
def Two (K n : Nat) (d : DevL) (C D : Nat → Bytes) : Prop := d.Ok ∧ d.l.length = n ∧ GoodC n C ∧ GoodC n D ∧ Safe 60 K d (fun E => E = C ∨ E = D)
theorem StInv.two {K : Nat} {σ : StL} {fr : List (List WrL)} {C : Nat → Bytes} (h : StInv K σ fr C) : Two K σ.n σ.j.d C C :=
  ⟨h.inv.ok, rfl, h.good, h.good, h.inv.safe.mono (Nat.le_refl _) (fun _ h => .inl h)⟩
theorem Two.mono {K K' n : Nat} {d : DevL} {C D : Nat → Bytes} (h : Two K n d C D) (hk : K ≤ K') : Two K' n d C D := ⟨h.1, h.2.1, h.2.2.1, h.2.2.2.1, h.2.2.2.2.mono hk (fun _ h => h)⟩
theorem stinv_mono {K K' : Nat} {σ : StL} {fr : List (List WrL)} {C : Nat → Bytes} (h : StInv K σ fr C) (hk : K ≤ K') : StInv K' σ fr C :=
  ⟨h.inv.mono hk, h.big, h.good, h.map, h.now, h.rise, h.txok, h.short, h.hwas, h.closed⟩
theorem does_run {K : Nat} {σ : StL} {fr : List (List WrL)} {C : Nat → Bytes} (h : StInv K σ fr C) (a : Act7) (hk : a.k < 9) (hK : K + 4 < 18446744073709551616) :
    (doesE a σ ≠ 4 ∧ (doesS a σ).n = σ.n ∧ (σ.j.d.Free → (doesS a σ).j.d.Free) ∧ ∃ fr', StInv (K + 2) (doesS a σ) fr' (if a.k = 6 ∧ doesE a σ = 0 then updC C σ.tx else C)) ∨
    (doesE a σ = 4 ∧ a.k = 6 ∧ ¬ σ.j.d.Free ∧ Two (K + 2) σ.n (doesS a σ).j.d C (updC C σ.tx)) := by
  have hl : σ.dead = false := h.inv.live
  unfold doesE doesS
  by_cases h1 : a.k ≤ 1
  · left
    rw [if_pos h1, if_pos h1, if_neg (by omega)]
    have e := write_e hl a.at7 a.data
    exact ⟨e.1, by unfold StL.n; rw [e.2], fun hf => by rw [e.2]; exact hf, fr, stinv_mono (write_inv h _ _) (by omega)⟩
  · rw [if_neg h1, if_neg h1]
    by_cases h2 : a.k ≤ 3
    · left
      rw [if_pos h2, if_pos h2, if_neg (by omega)]
      have e := alloc_e hl a.n
      exact ⟨e.1, by unfold StL.n; rw [e.2], fun hf => by rw [e.2]; exact hf, fr, stinv_mono (alloc_inv h _) (by omega)⟩
    · rw [if_neg h2, if_neg h2]
      by_cases h3 : a.k = 4
      · left
        rw [if_pos h3, if_pos h3, if_neg (by omega)]
        have e := release_e hl a.at7 a.n
        exact ⟨e.1, by unfold StL.n; rw [e.2], fun hf => by rw [e.2]; exact hf, fr, stinv_mono (release_inv h _ _) (by omega)⟩
      · rw [if_neg h3, if_neg h3]
        by_cases h4 : a.k = 5
        · left
          rw [if_pos h4, if_pos h4, if_neg (by omega)]
          have e := begin_e hl
          exact ⟨e.1, by unfold StL.n; rw [e.2], fun hf => by rw [e.2]; exact hf, fr, stinv_mono (begin_inv h) (by omega)⟩
        · rw [if_neg h4, if_neg h4]
          by_cases h5 : a.k = 6
          · rw [if_pos h5, if_pos h5]
            have hfree : σ.j.d.Free → σ.commit.1.j.d.Free := fun hf => by
              unfold StL.commit
              split
              · exact hf
              · split
                · exact hf
                · split <;> exact JL.commit_free hf _
            rcases scommit_run h hK with ⟨e, ⟨fr', i⟩, _⟩ | ⟨e, i, _⟩ | ⟨e, _, i1, i2, i3, i4, i5⟩
            · left
              rw [e]
              refine ⟨by decide, commit_n σ, hfree, fr', ?_⟩
              rw [if_pos ⟨h5, rfl⟩]; exact i
            · left
              rw [e]
              refine ⟨by decide, commit_n σ, hfree, fr, ?_⟩
              rw [if_neg (by rintro ⟨_, h⟩; exact absurd h (by decide)), i]
              exact stinv_mono h (by omega)
            · right
              exact ⟨e, h5, i4, i1, i2, h.good, i3, i5⟩
          · left
            rw [if_neg h5, if_neg h5]
            by_cases h6 : a.k = 7
            · rw [if_pos h6, if_pos h6, if_neg (by omega)]
              exact ⟨by decide, abort_n σ, fun hf => by rw [abort_j]; exact hf, fr, stinv_mono (abort_inv h) (by omega)⟩
            · rw [if_neg h6, if_neg h6, if_neg (by omega)]
              exact ⟨read_e hl _, rfl, fun hf => hf, fr, stinv_mono h (by omega)⟩
theorem two_open {K n : Nat} {d : DevL} {C D : Nat → Bytes} (h : Two K n d C D) (keep : List Bool) (torn cut f : Int) (hf : -1 ≤ f) (hf2 : f ≤ 9223372036854775807) :
    ∃ E, (E = C ∨ E = D) ∧ GoodC n E ∧ ∃ s k fr, OpenPre 60 K { d.crash keep torn cut with fuse := f } s k fr E := by
  obtain ⟨E, hE, x⟩ := crash_open h.1 h.2.2.2.2 keep torn cut f hf hf2
  exact ⟨E, hE, hE.elim (fun e => by rw [e]; exact h.2.2.1) (fun e => by rw [e]; exact h.2.2.2.1), x⟩
theorem with_length (l : List WrL) (w : WrL) : (withL l w).length ≤ l.length + 1 := by
  induction l with
  | nil => simp [withL]
  | cons x l ih =>
    unfold withL
    split
    · simp only [List.length_cons]; omega
    · split <;> simp only [List.length_cons] <;> omega
theorem touch_length (l : List WrL) : ∀ (tx : List WrL), (touchL tx l).length ≤ tx.length + l.length := by
  unfold touchL
  induction l with
  | nil => intro tx; exact Nat.le_refl _
  | cons w l ih => intro tx; rw [List.foldl_cons, List.length_cons]; have h1 := ih (withL tx w); have h2 := with_length tx w; omega
theorem turned_length (σ : StL) (b : Bytes) : (σ.turned b).length ≤ partsN σ.n := by
  unfold StL.turned
  rw [List.length_map]
  exact Nat.le_trans (List.length_filter_le _ _) (by rw [List.length_range]; exact Nat.le_refl _)
theorem turn_ok {K : Nat} {σ : StL} {fr : List (List WrL)} {C : Nat → Bytes} (h : StInv K σ fr C) (ho : σ.open_ = true) (hs : σ.tx.length + 2 ≤ 48) (a c : Nat) (on : Bool) (h1 : firstD σ.n ≤ a) (h2 : a + c ≤ σ.n) :
    (σ.turn a c on).2 = 0 ∧ (σ.turn a c on).1.map1 = setTo σ.map1 a on c ∧ StInv K (σ.turn a c on).1 fr C ∧ (σ.turn a c on).1.tx.length ≤ σ.tx.length + 2 ∧ (σ.turn a c on).1.open_ = true ∧ (σ.turn a c on).1.j = σ.j ∧ ∀ w ∈ (σ.turn a c on).1.tx, w ∈ σ.tx ∨ w.1 < firstD σ.n := by
  have hm := h.max
  have hp := (firstD_lt σ.n h.big hm).2
  have hl := touch_length (σ.turned (setTo σ.map1 a on c)) σ.tx
  have ht := turned_length σ (setTo σ.map1 a on c)
  have ht2 := (turned_map h (setTo σ.map1 a on c) (length_setTo _ _ _ _)).2
  have e : σ.touch (σ.turned (setTo σ.map1 a on c)) = ({ σ with tx := touchL σ.tx (σ.turned (setTo σ.map1 a on c)) }, 0) := by
    unfold StL.touch; rw [if_neg (by omega)]
  have e2 : σ.turn a c on = ({ σ with tx := touchL σ.tx (σ.turned (setTo σ.map1 a on c)), map1 := setTo σ.map1 a on c }, 0) := by
    unfold StL.turn; rw [e, if_neg (by simp)]
  rcases turn_inv h ho a c on h1 h2 with ⟨_, x⟩ | ⟨_, x, y⟩
  · rw [e2] at x; exact absurd x (by simp)
  · refine ⟨by rw [e2], x, y, ?_, ?_, ?_, ?_⟩
    · rw [e2]; show (touchL _ _).length ≤ _; omega
    · rw [e2]; exact ho
    · rw [e2]
    · rw [e2]
      intro w hw
      rcases touch_mem _ _ _ hw with hw | hw
      · exact .inr (ht2 w hw).2.1
      · exact .inl hw
theorem live_state {K : Nat} {σ : StL} {fr : List (List WrL)} {C : Nat → Bytes} (h : StInv K σ fr C) (o : Bool) : σ.state o = if σ.open_ = o then 0 else 15 := by
  unfold StL.state
  rw [show σ.dead = false from h.inv.live]; rfl
theorem fresh_alloc {K : Nat} {σ : StL} {fr : List (List WrL)} {C : Nat → Bytes} (h : StInv K σ fr C) (ho : σ.open_ = true) (ht : σ.tx = []) (c : Nat) (hc : 1 ≤ c) :
    (∃ a : Nat, (σ.alloc c).2 = ((a : Int), 0) ∧ firstD σ.n ≤ a ∧ a + c ≤ σ.n ∧ (∀ j, a ≤ j → j < a + c → bit σ.map1 j = false) ∧ (σ.alloc c).1.map1 = setTo σ.map1 a true c ∧ StInv K (σ.alloc c).1 fr C ∧ (σ.alloc c).1.tx.length ≤ 2 ∧ (σ.alloc c).1.open_ = true ∧ (σ.alloc c).1.j = σ.j ∧ (σ.alloc c).1.free + c = σ.free ∧ ∀ w ∈ (σ.alloc c).1.tx, w.1 < firstD σ.n) ∨
    σ.alloc c = (σ, 0, 9) := by
  have hz : ¬ σ.state true ≠ 0 := by rw [live_state h, if_pos ho]; simp
  cases hf : fitN σ.map1 c σ.n with
  | none =>
    right
    unfold StL.alloc
    rw [if_neg hz, if_neg (by omega), Int.toNat_natCast, hf]
  | some a =>
    left
    obtain ⟨h1, h2, h3⟩ := alloc_fit h.map c a hc h.bits hf
    obtain ⟨t0, t1, t2, t3, t4, t5, t6⟩ := turn_ok h ho (by rw [ht]; decide) a c true h1 h2
    have e : σ.alloc c = ((σ.turn a c true).1, (a : Int), 0) := by
      unfold StL.alloc
      rw [if_neg hz, if_neg (by omega), Int.toNat_natCast, hf]
      simp only []
      rw [if_neg (by rw [t0]; simp)]
    rw [e]
    refine ⟨a, rfl, h1, h2, h3, t1, t2, by rw [ht] at t3; simpa using t3, t4, t5, ?_, fun w hw => ?_⟩
    · show cnt (σ.turn a c true).1.map1 (σ.turn a c true).1.n + c = cnt σ.map1 σ.n
      have hn : (σ.turn a c true).1.n = σ.n := by unfold StL.n; rw [t5]
      rw [t1, hn]
      have hb := fun j => bit_setTo σ.map1 a c j true (by have := h.bits; omega)
      have := cnt_set σ.map1 (setTo σ.map1 a true c) a c hb h3 σ.n
      omega
    · rcases t6 w hw with hw | hw
      · rw [ht] at hw; simp at hw
      · exact hw
theorem fresh_release {K : Nat} {σ : StL} {fr : List (List WrL)} {C : Nat → Bytes} (h : StInv K σ fr C) (ho : σ.open_ = true) (hs : σ.tx.length ≤ 2) (b : Bytes) (a c : Nat) (hc : 1 ≤ c) (h1 : firstD σ.n ≤ a) (h2 : a + c ≤ σ.n) (hb : σ.map1 = setTo b a true c) (hl : b.length = σ.map1.length) (hf : ∀ j, a ≤ j → j < a + c → bit b j = false) :
    (σ.release a c).2 = 0 ∧ (σ.release a c).1.map1 = b ∧ StInv K (σ.release a c).1 fr C ∧ (σ.release a c).1.j = σ.j := by
  have hz : ¬ σ.state true ≠ 0 := by rw [live_state h, if_pos ho]; simp
  have hbit := fun j => bit_setTo b a c j true (by have := h.bits; omega)
  obtain ⟨t0, t1, t2, t3, t4, t5, t6⟩ := turn_ok h ho (by omega) a c false h1 h2
  have hd : σ.isData a = true := by unfold StL.isData; simp; omega
  have e : σ.release a c = σ.turn a c false := by
    unfold StL.release
    rw [if_neg hz, if_neg, if_neg, Int.toNat_natCast, Int.toNat_natCast]
    · rintro ⟨i, hi, hx⟩
      rw [Int.toNat_natCast] at hi hx
      rw [hb, hbit, if_pos (by omega)] at hx
      exact absurd hx (by decide)
    · rintro (x | x | x)
      · omega
      · rw [hd] at x; exact absurd x (by decide)
      · omega
  rw [e]
  refine ⟨t0, ?_, t2, t5⟩
  rw [t1, hb]
  exact setTo_back b a c (by have := h.bits; omega) hf
theorem fresh_write {K : Nat} {σ : StL} {fr : List (List WrL)} {C : Nat → Bytes} (h : StInv K σ fr C) (ho : σ.open_ = true) (hs : σ.tx.length ≤ 2) (i : Nat) (s : Bytes) (hl : s.length = 256) (h1 : firstD σ.n ≤ i) (h2 : i < σ.n) (hb : bit σ.map1 i = true) :
    σ.write i s = ({ σ with tx := touchL σ.tx [(i, s)] }, 0) ∧ StInv K { σ with tx := touchL σ.tx [(i, s)] } fr C ∧ ({ σ with tx := touchL σ.tx [(i, s)] } : StL).get i = s ∧ ∀ k, k ≠ i → ({ σ with tx := touchL σ.tx [(i, s)] } : StL).get k = σ.get k := by
  have hz : ¬ σ.state true ≠ 0 := by rw [live_state h, if_pos ho]; simp
  have hd : ¬ σ.isData i = false := by unfold StL.isData; simp; omega
  have ht := touch_length [(i, s)] σ.tx
  rw [List.length_singleton] at ht
  have e : σ.write i s = ({ σ with tx := touchL σ.tx [(i, s)] }, 0) := by
    unfold StL.write
    rw [if_neg hz, if_neg hd, Int.toNat_natCast, if_neg (by rw [hb]; decide), if_neg (by simpa using hl)]
    unfold StL.touch
    rw [if_neg (by omega)]
  have hi := write_inv h i s
  rw [e] at hi
  refine ⟨e, hi, ?_, fun k hk => ?_⟩
  · unfold StL.get
    show lastP (touchL σ.tx [(i, s)]) i _ = s
    rw [touch_lastP _ _ h.rise, lastP, lastP, if_pos rfl]
  · unfold StL.get
    show lastP (touchL σ.tx [(i, s)]) k _ = _
    rw [touch_lastP _ _ h.rise, lastP, lastP, if_neg (fun e => hk e.symm)]
theorem get_home {K : Nat} {σ : StL} {fr : List (List WrL)} {C : Nat → Bytes} (h : StInv K σ fr C) (i : Nat) (h1 : firstD σ.n ≤ i) (h2 : i < σ.n) (ht : ∀ w ∈ σ.tx, w.1 < firstD σ.n) : σ.get i = C i := by
  rw [h.get i (by unfold firstD at h1; omega) h2]
  unfold updC
  exact lastP_none _ _ _ (fun w hw e => by have := ht w hw; omega)
theorem read_data {K : Nat} {σ : StL} {fr : List (List WrL)} {C : Nat → Bytes} (h : StInv K σ fr C) (i : Nat) (h1 : firstD σ.n ≤ i) (h2 : i < σ.n) : σ.read i = (σ.get i, 0) := by
  unfold StL.read
  have hd : σ.isData i = true := by unfold StL.isData; simp; omega
  rw [show σ.dead = false from h.inv.live, if_neg (by decide), if_pos hd, Int.toNat_natCast]
theorem abort_get {K : Nat} {σ : StL} {fr : List (List WrL)} {C : Nat → Bytes} (h : StInv K σ fr C) (i : Nat) (h1 : firstD σ.n ≤ i) (h2 : i < σ.n) : σ.abort.read i = (C i, 0) := by
  have hn := abort_n σ
  rw [read_data (abort_inv h) i (by rw [hn]; exact h1) (by rw [hn]; exact h2)]
  have ht := (abort_inv h).closed (abort_open σ)
  rw [get_home (abort_inv h) i (by rw [hn]; exact h1) (by rw [hn]; exact h2) (by rw [ht]; simp)]
def usedK (n : Nat) (b : Bytes) : List Nat := (List.range n).filter fun k => decide (firstD n ≤ k) && bit b k
def chunk (f : Nat → Bytes) (k : Nat) : Bytes := UInt8.ofNat (k % 256) :: UInt8.ofNat (k / 256 % 256) :: f k
theorem tell_chunks (n : Nat) (b : Bytes) (f : Nat → Bytes) : tellL n b f = (usedK n b).flatMap (chunk f) := rfl
theorem usedK_lt {n : Nat} {b : Bytes} {k : Nat} (h : k ∈ usedK n b) : firstD n ≤ k ∧ k < n ∧ bit b k = true := by
  unfold usedK at h
  obtain ⟨h1, h2⟩ := List.mem_filter.1 h
  have h3 := List.mem_range.1 h1
  simp only [Bool.and_eq_true, decide_eq_true_eq] at h2
  exact ⟨h2.1, h3, h2.2⟩
theorem chunks_len (f : Nat → Bytes) (l : List Nat) (h : ∀ k ∈ l, (f k).length = 256) : (l.flatMap (chunk f)).length = 258 * l.length := by
  induction l with
  | nil => rfl
  | cons k l ih =>
    rw [List.flatMap_cons, List.length_append, ih (fun x hx => h x (List.mem_cons_of_mem _ hx)), chunk, List.length_cons, List.length_cons, h k (List.mem_cons_self ..), List.length_cons]; omega
theorem chunks_at (f : Nat → Bytes) (l : List Nat) : ∀ (j : Nat) (hj : j < l.length), (∀ k ∈ l, (f k).length = 256) → ((l.flatMap (chunk f)).drop (258 * j)).take 258 = chunk f l[j] := by
  induction l with
  | nil => intro j hj; simp at hj
  | cons k l ih =>
    intro j hj h
    have hc : (chunk f k).length = 258 := by rw [chunk, List.length_cons, List.length_cons, h k (List.mem_cons_self ..)]
    rw [List.flatMap_cons]
    cases j with
    | zero =>
      rw [Nat.mul_zero, List.drop_zero, List.take_append_of_le_length (by omega), List.take_of_length_le (by omega)]; rfl
    | succ j =>
      rw [show 258 * (j + 1) = (chunk f k).length + 258 * j by omega, List.drop_append, List.drop_of_length_le (l := chunk f k) (by omega), List.nil_append, Nat.add_sub_cancel_left]
      exact ih j (by simpa using hj) (fun x hx => h x (List.mem_cons_of_mem _ hx))
end
section
open Go.RowKit
def Sl (w : World) (v : Value) (n size : Nat) (xs : List Value) : Prop :=
  xs.length = n * size ∧ ∃ a cap, v = .slice a n cap ∧ (0 < n → ∃ b off, a = some ⟨b, off, none⟩ ∧ ∀ j u, xs[j]? = some u → w.cell? ⟨b, off + j, none⟩ = some u)
theorem cell_lt {w : World} {a : Addr} {u : Value} (h : w.cell? a = some u) : a.block < w.heap.size := World.block_lt_of_cell? w a h
theorem cell_stays {w w' : World} (hb : Below w.heap.size w w') {a : Addr} {u : Value} (h : w.cell? a = some u) : w'.cell? a = some u :=
  (hb.cell (cell_lt h)).trans h
theorem Sl.stays {w w' : World} {v : Value} {n size : Nat} {xs : List Value} (h : Sl w v n size xs) (hb : Below w.heap.size w w') : Sl w' v n size xs := by
  obtain ⟨h1, a, cap, h2, h3⟩ := h
  refine ⟨h1, a, cap, h2, fun hn => ?_⟩
  obtain ⟨b, off, h4, h5⟩ := h3 hn
  exact ⟨b, off, h4, fun j u hj => cell_stays hb (h5 j u hj)⟩
theorem Sl.nil (w : World) (size : Nat) : Sl w (.slice none 0 0) 0 size [] := ⟨by simp, none, 0, rfl, fun h => by omega⟩
theorem Sl.of_owns {w : World} {base : Nat} {e : TypeId} {size : Nat} {v : Value} {n : Nat} {xs : List Value} (h : w.ownsRow base e size v n xs) : Sl w v n size xs := by
  obtain ⟨a, cap, rfl, hs⟩ := owns_value h
  refine ⟨h.1, a, cap, rfl, fun hn => ?_⟩
  obtain ⟨g, rfl⟩ := hs hn
  refine ⟨g, 0, rfl, fun j u hj => ?_⟩
  have hlt : j < n * size := by rw [← h.1]; exact (List.getElem?_eq_some_iff.1 hj).1
  rw [Nat.zero_add, h.cellAt j hlt]; exact hj
theorem Sl.lit (w : World) (cs : Array Value) (e : TypeId) (n size : Nat) (h : cs.size = n * size) : Sl (w.alloc (.cells cs e)) (.slice (some ⟨w.heap.size, 0, none⟩) n n) n size cs.toList := by
  refine ⟨by simpa using h, _, n, rfl, fun hn => ⟨w.heap.size, 0, rfl, fun j u hj => ?_⟩⟩
  rw [Nat.zero_add]
  simp only [World.cell?, heap_alloc_new]
  simpa using hj
theorem Sl.value {w : World} {v : Value} {n size : Nat} {xs : List Value} (h : Sl w v n size xs) : ∃ a cap, v = .slice a n cap ∧ (0 < n → ∃ b off, a = some ⟨b, off, none⟩ ∧ ∀ j u, xs[j]? = some u → w.cell? ⟨b, off + j, none⟩ = some u) := h.2
abbrev strV (l : List UInt8) : Value := .string ⟨l.toArray⟩
def Strs (w : World) (v : Value) (ps : List (List UInt8)) : Prop := Sl w v ps.length 1 (ps.map strV)
def U64s (w : World) (v : Value) (ns : List Nat) : Prop := Sl w v ns.length 1 (ns.map fun n : Nat => .int .u64 (n : Int))
theorem Strs.stays {w w' : World} {v : Value} {ps : List (List UInt8)} (h : Strs w v ps) (hb : Below w.heap.size w w') : Strs w' v ps := Sl.stays h hb
theorem U64s.stays {w w' : World} {v : Value} {ns : List Nat} (h : U64s w v ns) (hb : Below w.heap.size w w') : U64s w' v ns := Sl.stays h hb
theorem Strs.value {w : World} {v : Value} {ps : List (List UInt8)} (h : Strs w v ps) : ∃ a cap, v = .slice a ps.length cap ∧ (0 < ps.length → ∃ b off, a = some ⟨b, off, none⟩ ∧ ∀ j (hj : j < ps.length), w.cell? ⟨b, off + j, none⟩ = some (.string ⟨ps[j].toArray⟩)) := by
  obtain ⟨_, a, cap, h2, h3⟩ := h
  refine ⟨a, cap, h2, fun hn => ?_⟩
  obtain ⟨b, off, h4, h5⟩ := h3 hn
  exact ⟨b, off, h4, fun j hj => h5 j _ (by simp [hj])⟩
theorem U64s.value {w : World} {v : Value} {ns : List Nat} (h : U64s w v ns) : ∃ a cap, v = .slice a ns.length cap ∧ (0 < ns.length → ∃ b off, a = some ⟨b, off, none⟩ ∧ ∀ j (hj : j < ns.length), w.cell? ⟨b, off + j, none⟩ = some (.int .u64 (ns[j] : Nat))) := by
  obtain ⟨_, a, cap, h2, h3⟩ := h
  refine ⟨a, cap, h2, fun hn => ?_⟩
  obtain ⟨b, off, h4, h5⟩ := h3 hn
  exact ⟨b, off, h4, fun j hj => h5 j _ (by simp [hj])⟩
def Q (w w' : World) : Prop := Below w.heap.size w w'
theorem Q.refl (w : World) : Q w w := Below.refl _ _
theorem Q.trans {a b c : World} (h1 : Q a b) (h2 : Q b c) : Q a c := Below.trans h1 (Below.mono h2 h1.size)
theorem Q.of {w w' : World} (h : Below w.heap.size w w') : Q w w' := h
theorem Q.alloc (w : World) (o : Obj) : Q w (w.alloc o) := (Below.refl _ _).alloc (Nat.le_refl _) _
theorem Q.drewN (w : World) (n : Nat) : Q w (w.drewN n) := ⟨rfl, rfl, rfl, Nat.le_refl _, fun _ _ => rfl⟩
theorem Q.drew (w : World) : Q w w.drew := ⟨rfl, rfl, rfl, Nat.le_refl _, fun _ _ => rfl⟩
end
end Go.Proofs.YtnmijegmbomfdaaGreatDoor
