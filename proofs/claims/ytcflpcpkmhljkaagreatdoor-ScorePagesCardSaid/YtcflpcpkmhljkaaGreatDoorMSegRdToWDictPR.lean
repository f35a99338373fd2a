/- Joined texts of one proof: SegRd, WPostP, WDictPR. -/
import Derived.Test.YtcflpcpkmhljkaaGreatDoorMWDictNToWDictE
import Derived.Test.YtcflpcpkmhljkaaGreatDoorMIxWToIdxEq
import Derived.Test.YtcflpcpkmhljkaaGreatDoorMPostRdToBase
import Derived.Test.YtcflpcpkmhljkaaGreatDoorMWFoldedToWWordsR
import Derived.Test.YtcflpcpkmhljkaaGreatDoorMWPostBToIx
import Derived.Test.YtcflpcpkmhljkaaGreatDoorMTokToWDictR
import Derived.Deep.RegionHeld3
set_option linter.unusedSimpArgs false
set_option linter.unusedVariables false
set_option linter.unnecessarySimpa false
/- (SegRd) Plain: what is read of the dictionary of right documents. No program in sight. -/
section
namespace Go.Proofs.YtcflpcpkmhljkaaGreatDoor
set_option linter.unusedVariables false

/-! ### words and tokens -/
theorem chunksF_ne (n : Nat) (s : Bytes) : ∀ c ∈ chunksF n s, c.2 ≠ [] := by
  induction n generalizing s with
  | zero => simp [chunksF]
  | succ n ih =>
    rw [chunksF]
    split
    · simp
    · rename_i h
      have hs := rune1_size s h
      intro c hc
      rcases List.mem_cons.1 hc with rfl | hc
      · intro e
        have := congrArg List.length e
        rw [List.length_take, List.length_nil] at this
        omega
      · exact ih _ c hc
theorem wordsF_ne (cs : List (Int × Bytes)) (st : Option Bytes) (h : ∀ c ∈ cs, c.2 ≠ []) (hst : ∀ w, st = some w → w ≠ []) : ∀ w ∈ wordsF cs st, w ≠ [] := by
  induction cs generalizing st with
  | nil =>
    cases st with
    | none => simp [wordsF]
    | some w => intro x hx; simp [wordsF] at hx; subst hx; exact hst _ rfl
  | cons c cs ih =>
    have hc := h c (by simp)
    have hcs : ∀ c ∈ cs, c.2 ≠ [] := fun x hx => h x (by simp [hx])
    cases st with
    | none =>
      rw [wordsF]
      split
      · exact ih _ hcs (fun w e => by cases e; exact hc)
      · exact ih _ hcs (fun w e => by cases e)
    | some v =>
      rw [wordsF]
      split
      · exact ih _ hcs (fun w e => by cases e; simp [hc])
      · intro w hw
        rcases List.mem_cons.1 hw with rfl | hw
        · exact hst _ rfl
        · exact ih _ hcs (fun w e => by cases e) w hw
theorem wordsL_ne (s : Bytes) : ∀ w ∈ wordsL s, w ≠ [] := wordsF_ne _ _ (chunksF_ne _ _) (fun w e => by cases e)
theorem flat_len (l : List Bytes) (h : ∀ w ∈ l, w ≠ []) : l.length ≤ l.flatten.length := by
  induction l with
  | nil => simp
  | cons a l ih =>
    have := ih (fun w hw => h w (by simp [hw]))
    have ha := List.length_pos_iff.2 (h a (by simp))
    rw [List.flatten_cons, List.length_append, List.length_cons]; omega
theorem wordsL_count (s : Bytes) : (wordsL s).length ≤ s.length := by
  have h1 := (wordsF_len (chunks s) none).1
  have h2 := flat_len _ (wordsL_ne s)
  have h4 := chunks_bytes s.length s (Nat.le_refl _)
  rw [show chunksF s.length s = chunks s from rfl] at h4
  rw [h4] at h1
  unfold wordsL at h2 ⊢
  rw [show (none : Option Bytes).getD [] = [] from rfl, List.length_nil, Nat.zero_add] at h1
  omega
theorem foldC_ne (c : Int × Bytes) (h : c.2 ≠ []) : foldC c ≠ [] := by
  unfold foldC
  split
  · intro e
    have := congrArg List.length e
    have hp := List.length_pos_iff.2 h
    rw [List.length_take, List.length_nil] at this
    omega
  · intro e
    have := Lib.encodeRuneZ_length (runeOfL (foldL c.1))
    have e2 := congrArg List.length e
    unfold Lib.encodeRune at e2
    rw [List.length_map, List.length_nil] at e2
    omega
theorem foldedL_ne (s : Bytes) (h : s ≠ []) : foldedL s ≠ [] := by
  have hc := chunks_cons s h
  have hne : ∀ c ∈ chunks s, c.2 ≠ [] := chunksF_ne _ _
  unfold foldedL
  rw [hc] at hne ⊢
  rw [List.flatMap_cons]
  intro e
  exact foldC_ne _ (hne _ (by simp)) (List.append_eq_nil_iff.1 e).1
/-- tokens: their terms are short, their places rise -/
theorem tokensF_rise (ws : List Bytes) (k : Nat) (h : ∀ w ∈ ws, w ≠ []) : ((tokensF ws k).map (·.2)).Pairwise (· < ·) ∧ ∀ x ∈ tokensF ws k, x.1 ≠ [] ∧ x.1.length ≤ 40 ∧ k ≤ x.2 ∧ x.2 < k + ws.length := by
  induction ws generalizing k with
  | nil => simp [tokensF]
  | cons w ws ih =>
    obtain ⟨i1, i2⟩ := ih (k + 1) (fun x hx => h x (by simp [hx]))
    have hw := h w (by simp)
    rw [tokensF]
    simp only [List.length_cons]
    split
    · rename_i hc
      refine ⟨?_, fun x hx => ?_⟩
      · rw [List.map_cons, List.pairwise_cons]
        refine ⟨fun y hy => ?_, i1⟩
        obtain ⟨z, hz, rfl⟩ := List.mem_map.1 hy
        have := (i2 z hz).2.2.1
        simp only; omega
      · rcases List.mem_cons.1 hx with rfl | hx
        · exact ⟨foldedL_ne w hw, hc.1, by simp, by simp⟩
        · have := i2 x hx
          exact ⟨this.1, this.2.1, by omega, by omega⟩
    · exact ⟨i1, fun x hx => by have := i2 x hx; exact ⟨this.1, this.2.1, by omega, by omega⟩⟩
theorem tokensL_rise (s : Bytes) : ((tokensL s).map (·.2)).Pairwise (· < ·) ∧ ∀ x ∈ tokensL s, x.1 ≠ [] ∧ x.1.length ≤ 40 ∧ x.2 < s.length := by
  obtain ⟨a, b⟩ := tokensF_rise (wordsL s) 0 (wordsL_ne s)
  have := wordsL_count s
  exact ⟨a, fun x hx => ⟨(b x hx).1, (b x hx).2.1, by have := (b x hx).2.2.2; omega⟩⟩
theorem rising_of (last : Int) (l : List Int) (m : Int) (h1 : l.Pairwise (· < ·)) (h2 : ∀ x ∈ l, last < x ∧ x < m) : risingI last l m = true := by
  induction l generalizing last with
  | nil => rfl
  | cons a l ih =>
    rw [List.pairwise_cons] at h1
    have ha := h2 a (by simp)
    rw [risingI, decide_eq_true ha.1, decide_eq_true ha.2, ih a h1.2 (fun x hx => ⟨h1.1 x hx, (h2 x (by simp [hx])).2⟩)]
    rfl
theorem placesIn_rise (s t : Bytes) : (placesIn s t).Pairwise (· < ·) ∧ ∀ x ∈ placesIn s t, -1 < x ∧ x < s.length := by
  obtain ⟨a, b⟩ := tokensL_rise s
  unfold placesIn
  refine ⟨?_, fun x hx => ?_⟩
  · refine List.Pairwise.filterMap _ (fun x y hxy => ?_) (List.Pairwise.of_map (S := (· < ·)) (·.2) (fun _ _ h => h) a)
    intro p hp q hq
    split at hp
    · split at hq
      · cases hp; cases hq; omega
      · cases hq
    · cases hp
  · obtain ⟨y, hy, hx⟩ := List.mem_filterMap.1 hx
    split at hx
    · cases hx; have := (b y hy).2.2; omega
    · cases hx
theorem postsF_right (t : Bytes) (l : List DocL) (i : Nat) (hn : i + l.length ≤ 500) (hl : ∀ d ∈ l, d.2.length ≤ 2000) (last : Int) (hi : last < i) : postsRight last (postsF t l i) = true := by
  induction l generalizing i last with
  | nil => simp [postsF, postsRight]
  | cons d l ih =>
    rw [List.length_cons] at hn
    have hl' : ∀ d ∈ l, d.2.length ≤ 2000 := fun x hx => hl x (by simp [hx])
    rw [postsF]
    split
    · exact ih (i + 1) (by omega) hl' last (by omega)
    · rename_i hne
      rw [postsRight, ih (i + 1) (by omega) hl' (i : Nat) (by omega)]
      obtain ⟨a, b⟩ := placesIn_rise d.2 t
      have hd := hl d (by simp)
      rw [rising_of (-1) _ 2000 a (fun x hx => by have := b x hx; omega)]
      cases hp : placesIn d.2 t with
      | nil => exact absurd hp hne
      | cons _ _ => simp; omega
/-! ### how long -/
theorem varE_two (v : Nat) (h : v < 16384) : (varE v).length ≤ 2 := by
  unfold varE
  rw [varF]
  split
  · simp
  · rw [varF]
    split
    · simp
    · omega
theorem varE_five (v : Nat) (h : v < 34359738368) : (varE v).length ≤ 5 := by
  unfold varE
  rw [varF]; split
  · simp
  · rw [varF]; split
    · simp
    · rw [varF]; split
      · simp
      · rw [varF]; split
        · simp
        · rw [varF]; split
          · simp
          · omega
theorem varsE_two (l : List Nat) (c : Nat) (hc : ∀ v ∈ l, (varE v).length ≤ c) : (varsE l).length ≤ c * l.length := by
  induction l with
  | nil => simp [varsE]
  | cons a l ih =>
    have h1 := hc a (by simp)
    have h2 := ih (fun v hv => hc v (by simp [hv]))
    simp only [varsE, List.flatMap_cons, List.length_append, List.length_cons] at h2 ⊢
    rw [Nat.mul_add]; omega
theorem gapsL_small (at_ : Int) (l : List Int) (m : Int) (h : risingI at_ l m = true) (h0 : -1 ≤ at_) (hm : m ≤ 2000) : ∀ v ∈ gapsL at_ l, v < 16384 := by
  induction l generalizing at_ with
  | nil => simp [gapsL]
  | cons a l ih =>
    rw [risingI] at h
    simp only [Bool.and_eq_true, decide_eq_true_eq] at h
    intro v hv
    rw [gapsL] at hv
    rcases List.mem_cons.1 hv with rfl | hv
    · omega
    · exact ih a h.2 (by omega) v hv
theorem oneE_two (p : PostL) (last : Int) (h0 : -1 ≤ last) (h1 : p.1 < 500) (h2 : risingI (-1) p.2 2000 = true) (h3 : p.2.length ≤ 2000) : (oneE p last).length ≤ 4004 := by
  have := varsE_two ((p.1 - last).toNat :: p.2.length :: gapsL (-1) p.2) 2 (fun v hv => by
    refine varE_two v ?_
    rcases List.mem_cons.1 hv with rfl | hv
    · omega
    · rcases List.mem_cons.1 hv with rfl | hv
      · omega
      · exact gapsL_small _ _ _ h2 (by omega) (by omega) v hv)
  rw [List.length_cons, List.length_cons, gapsL_length] at this
  unfold oneE
  omega
theorem bodyF_two (last : Int) (l : List PostL) (h0 : -1 ≤ last) (h : postsRight last l = true) (hl : last < 500) : (bodyF last l).length ≤ 4004 * l.length := by
  induction l generalizing last with
  | nil => simp [bodyF]
  | cons p l ih =>
    obtain ⟨a, b, c, d, e⟩ := postsRight_cons h
    have h1 := oneE_two p last h0 b d (by have := risingI_len (-1) p.2 2000 d (by omega); omega)
    have h2 := ih p.1 (by omega) e b
    rw [bodyF, List.length_append, List.length_cons, Nat.mul_add]
    omega
theorem skipsTo_small (l : List PostL) (h : postsRight (-1) l = true) (m : Nat) : ∀ v ∈ skipsTo l m, v < 34359738368 := by
  have hb := (posts_small l h).2.2
  induction m with
  | zero => simp [skipsTo]
  | succ m ih =>
    intro v hv
    rw [skipsTo] at hv
    have h1 := dAt_bounds l h (8 * (m + 1))
    have h2 := dAt_bounds l h (8 * m)
    have h3 := sAt_le l (8 * (m + 1))
    rcases List.mem_append.1 hv with hv | hv
    · exact ih v hv
    · simp only [List.mem_cons, List.not_mem_nil, or_false] at hv
      rcases hv with rfl | rfl
      · omega
      · omega
theorem postsE_len (l : List PostL) (h : postsRight (-1) l = true) : (postsE l).length ≤ 2100000 := by
  have h1 := posts_small l h
  have h2 := varE_len l.length
  have h3 := varsE_two (skipsTo l ((l.length - 1) / 8)) 5 (fun v hv => varE_five v (skipsTo_small l h _ v hv))
  rw [skipsTo_length] at h3
  have h4 := bodyF_two (-1) l (by omega) h (by omega)
  rw [postsE_parts, List.length_append, List.length_append]
  omega
theorem packL_right (l : List PostL) (h : postsRight (-1) l = true) : packL l = postsE l := by unfold packL; rw [if_pos h]
/-! ### the dictionary of documents -/
theorem termsL_rise (l : List DocL) : (termsL l).Pairwise (· < ·) := foldPutL_rise _ _ List.Pairwise.nil
theorem mem_termsL (l : List DocL) (t : Bytes) : t ∈ termsL l ↔ t ∈ l.flatMap fun d => (tokensL d.2).map (·.1) := by
  unfold termsL; rw [mem_foldPutL]; simp
theorem mem_termsL_posts (l : List DocL) (t : Bytes) : t ∈ termsL l ↔ postsF t l 0 ≠ [] := by rw [mem_termsL, ← posts_some t l 0]
theorem termsL_term (l : List DocL) : ∀ t ∈ termsL l, [] < t ∧ t.length ≤ 40 := by
  intro t ht
  rw [mem_termsL] at ht
  obtain ⟨d, hd, ht⟩ := List.mem_flatMap.1 ht
  obtain ⟨x, hx, rfl⟩ := List.mem_map.1 ht
  have := (tokensL_rise d.2).2 x hx
  refine ⟨?_, this.2.1⟩
  cases hx1 : x.1 with
  | nil => exact absurd hx1 this.1
  | cons a b => simp
theorem putL_len (t : Bytes) (l : List Bytes) : (putL t l).length ≤ l.length + 1 := by
  induction l with
  | nil => simp [putL]
  | cons x l ih =>
    rw [putL]
    split
    · simp
    · split
      · simp
      · rw [List.length_cons, List.length_cons]; omega
theorem foldPutL_len (ts l : List Bytes) : (ts.foldl (fun a t => putL t a) l).length ≤ l.length + ts.length := by
  induction ts generalizing l with
  | nil => simp
  | cons t ts ih =>
    have := ih (putL t l)
    have := putL_len t l
    rw [List.foldl_cons, List.length_cons]; omega
theorem tokens_all (l : List DocL) (hl : ∀ d ∈ l, d.2.length ≤ 2000) : (l.flatMap fun d => (tokensL d.2).map (·.1)).length ≤ 2000 * l.length := by
  induction l with
  | nil => simp
  | cons d l ih =>
    have h1 := ih (fun x hx => hl x (by simp [hx]))
    have h2 := tokensF_len (wordsL d.2) 0
    have h3 := wordsL_count d.2
    have h4 := hl d (by simp)
    rw [List.flatMap_cons, List.length_append, List.length_map, List.length_cons, Nat.mul_add]
    have : (tokensL d.2).length ≤ 2000 := by unfold tokensL; omega
    omega
theorem termsL_len (l : List DocL) (hn : l.length ≤ 500) (hl : ∀ d ∈ l, d.2.length ≤ 2000) : (termsL l).length ≤ 1000000 := by
  have h1 := tokens_all l hl
  have h2 := foldPutL_len (l.flatMap fun d => (tokensL d.2).map (·.1)) []
  unfold termsL
  rw [List.length_nil] at h2
  omega
/-- the dictionary's entries -/
def entsL (l : List DocL) : List EntryL := (termsL l).map fun t => (t, packL (postsF t l 0))
theorem entsL_fst (l : List DocL) : (entsL l).map (·.1) = termsL l := by unfold entsL; rw [List.map_map]; exact (List.map_congr_left (fun _ _ => rfl)).trans (List.map_id _)
theorem entsL_right (l : List DocL) (hn : l.length ≤ 500) (hl : ∀ d ∈ l, d.2.length ≤ 2000) : entriesRight [] (entsL l) = true := by
  refine entriesRight_of _ _ (by rw [entsL_fst]; exact termsL_rise l) (fun e he => ?_)
  obtain ⟨t, ht, rfl⟩ := List.mem_map.1 he
  have h1 := termsL_term l t ht
  have h2 := postsF_right t l 0 (by omega) hl (-1) (by omega)
  refine ⟨h1.1, h1.2, ?_⟩
  have := postsE_len _ h2
  simp only [packL_right _ h2]
  omega
theorem idx_dict (l : List DocL) (hn : l.length ≤ 500) (hl : ∀ d ∈ l, d.2.length ≤ 2000) : idxS l = dictE (entsL l) := by
  have h := termsL_len l hn hl
  have hln : (entsL l).length ≤ 1048576 := by unfold entsL; rw [List.length_map]; omega
  rw [idx_eq]
  unfold idxL dictL
  rw [show (termsL l).map (fun t => (t, packL (postsF t l 0))) = entsL l from rfl, entsL_right l hn hl, decide_eq_true hln]
  rfl
theorem entsL_find (l : List DocL) (t : Bytes) : findE (entsL l) t = if t ∈ termsL l then some (packL (postsF t l 0)) else none := by
  unfold entsL findE
  generalize hx : termsL l = ts
  clear hx
  induction ts with
  | nil => rfl
  | cons a ts ih =>
    rw [List.map_cons, List.find?_cons]
    by_cases h : a = t
    · subst h; simp
    · have h2 : (a == t) = false := by simpa using h
      simp only [h2]
      rw [ih]
      simp only [List.mem_cons, Ne.symm h, false_or]
theorem entsL_prefix (l : List DocL) (p : Bytes) : ((entsL l).filter (fun e => p.isPrefixOf e.1)).map (·.1) = (termsL l).filter (fun t => p.isPrefixOf t) := by
  unfold entsL
  rw [List.filter_map, List.map_map]
  exact (List.map_congr_left (fun _ _ => rfl)).trans (List.map_id _)
end Go.Proofs.YtcflpcpkmhljkaaGreatDoor
end

/- (WPostP) postings.Pack: walked. -/
section
namespace Go.Proofs.YtcflpcpkmhljkaaGreatDoor
open Go.RowKit
set_option linter.unusedVariables false

theorem ret_str_int {k : IntKind} {x : ByteArray} {y : Bytes} {n : Int} (h : x = ⟨y.toArray⟩) : Ending.returned (.tuple #[.string x, .int k n]) = .returned (.tuple #[.string ⟨y.toArray⟩, .int k n]) := by rw [h]
def packTo (l : List PostL) (k : Nat) : PackSt := packF ⟨[], [], -1, -1, 0⟩ 0 (l.take k)
theorem packF_snoc (st : PackSt) (i : Nat) (l : List PostL) (p : PostL) : packF st i (l ++ [p]) = packStep (packF st i l) (i + l.length) p := by
  induction l generalizing st i with
  | nil => simp [packF]
  | cons q l ih => rw [List.cons_append, packF, packF, ih, List.length_cons]; congr 1; omega
theorem packTo_succ (l : List PostL) (k : Nat) (h : k < l.length) : packTo l (k + 1) = packStep (packTo l k) k l[k] := by
  unfold packTo
  rw [List.take_succ_eq_append_getElem h, packF_snoc, List.length_take, Nat.min_eq_left (by omega), Nat.zero_add]
/-- what holds behind k postings of right ones -/
structure PackOk (l : List PostL) (k : Nat) : Prop where
  doc : (packTo l k).doc = if k = 0 then -1 else (l.getD (k - 1) (0, [])).1
  last : -1 ≤ (packTo l k).last ∧ (packTo l k).last ≤ (packTo l k).doc
  from_ : (packTo l k).from_ ≤ (packTo l k).body.length
  body : (packTo l k).body.length ≤ k * 21000
  skips : (packTo l k).skips.length ≤ 2 * k
  small : ∀ n ∈ (packTo l k).skips, n < 18446744073709551616
theorem postsRight_at (last : Int) (l : List PostL) (h : postsRight last l = true) (k : Nat) (hk : k < l.length) : (if k = 0 then last else (l.getD (k - 1) (0, [])).1) < l[k].1 ∧ l[k].1 < 500 ∧ l[k].2.isEmpty = false ∧ risingI (-1) l[k].2 2000 = true ∧ last ≤ (if k = 0 then last else (l.getD (k - 1) (0, [])).1) := by
  induction l generalizing last k with
  | nil => simp at hk
  | cons p l ih =>
    simp only [postsRight, Bool.and_eq_true, decide_eq_true_eq, Bool.not_eq_true'] at h
    obtain ⟨⟨⟨⟨h1, h2⟩, h3⟩, h4⟩, h5⟩ := h
    cases k with
    | zero => exact ⟨by simpa using h1, h2, h3, h4, by simp⟩
    | succ k =>
      have := ih p.1 h5 k (by simpa using hk)
      cases k with
      | zero => simp at this ⊢; exact ⟨this.1, this.2.1, this.2.2.1, this.2.2.2, by omega⟩
      | succ k => simp at this ⊢; exact ⟨this.1, this.2.1, this.2.2.1, this.2.2.2.1, by omega⟩
theorem rises_len (a : Int) (l : List Int) (h : Rises a l) : (l.length : Int) ≤ 2000 - a ∨ l = [] := by
  induction l generalizing a with
  | nil => exact .inr rfl
  | cons x l ih =>
    left
    obtain ⟨h1, h2, h3⟩ := h
    rcases ih x h3 with h4 | h4
    · simp only [List.length_cons]; omega
    · subst h4; simp; omega
theorem oneE_len (p : PostL) (last : Int) (h : Rises (-1) p.2) : (oneE p last).length ≤ 21000 := by
  have := varsE_len ((p.1 - last).toNat :: p.2.length :: gapsL (-1) p.2)
  have hr := rises_len _ _ h
  unfold oneE
  simp only [List.length_cons, length_gaps] at this
  rcases hr with hr | hr
  · omega
  · rw [hr] at this ⊢; simp at this ⊢; omega
theorem postsRight_len (last : Int) (l : List PostL) (h : postsRight last l = true) (h0 : -1 ≤ last) : (l.length : Int) ≤ 500 - last ∨ l = [] := by
  induction l generalizing last with
  | nil => exact .inr rfl
  | cons p l ih =>
    left
    simp only [postsRight, Bool.and_eq_true, decide_eq_true_eq, Bool.not_eq_true'] at h
    obtain ⟨⟨⟨⟨h1, h2⟩, h3⟩, h4⟩, h5⟩ := h
    rcases ih p.1 h5 (by omega) with h6 | h6
    · simp only [List.length_cons]; omega
    · subst h6; simp; omega
theorem packOk (l : List PostL) (h : postsRight (-1) l = true) (hl : l.length ≤ 1000) (k : Nat) (hk : k ≤ l.length) : PackOk l k := by
  induction k with
  | zero => exact ⟨rfl, ⟨Int.le_refl _, Int.le_refl _⟩, Nat.le_refl _, Nat.le_refl _, Nat.le_refl _, by simp [packTo, packF]⟩
  | succ k ih =>
    have hlt : k < l.length := by omega
    obtain ⟨a1, a2, a3, a4, a5, a6⟩ := ih (by omega)
    obtain ⟨b1, b2, b3, b4, b5⟩ := postsRight_at _ _ h k hlt
    have hr := rises_of _ _ b4
    have ho := oneE_len l[k] (packTo l k).doc hr
    rw [← a1] at b1 b5
    have hd : (l.getD (k + 1 - 1) (0, [])).1 = l[k].1 := by rw [List.getD_eq_getElem?_getD, show k + 1 - 1 = k by omega, List.getElem?_eq_getElem hlt]; rfl
    have e0 : (if k + 1 = 0 then (-1 : Int) else (l.getD (k + 1 - 1) (0, [])).1) = l[k].1 := by rw [if_neg (by omega), hd]
    refine ⟨?_, ?_, ?_, ?_, ?_, ?_⟩ <;> rw [packTo_succ l k hlt] <;> unfold packStep
    · rw [e0]; split <;> rfl
    · split
      · exact ⟨by simp only; omega, by simp only; omega⟩
      · exact ⟨by simp only; omega, by simp only; omega⟩
    · split
      · simp
      · simp; omega
    · split
      · simp only [List.length_append]; omega
      · simp only [List.length_append]; omega
    · split
      · simp only [List.length_append, List.length_cons, List.length_nil]; omega
      · simp only; omega
    · split
      · intro n hn
        simp only [List.mem_append, List.mem_cons, List.not_mem_nil, or_false] at hn
        rcases hn with hn | hn | hn
        · exact a6 n hn
        · have : (packTo l k).doc < 500 := by omega
          omega
        · omega
      · exact a6
set_option maxRecDepth 100000 in
set_option maxHeartbeats 2000000 in
theorem PPack_bad (v : Value) (l : List PostR) (w : World) (hv : Posts w v l) (hn : l.length ≤ 1000) (hl : ∀ p ∈ l, p.2.2.length ≤ 1000000) (hr : postsRight (-1) (postsOf l) = false) :
    Calls Tryz.prog 173 #[v] w fun e w' => e = .returned (.tuple #[.string ⟨([] : Bytes).toArray⟩, .int .i64 1]) ∧ Q w w' := by
  have c := PRight_any v l w hv (by omega) (fun p hp => by have := hl p hp; omega)
  rw [hr] at c
  obtain ⟨a, cap, rfl, hcell⟩ := hv.value
  have C := Lib.hid c
  clear c hv hl hcell hr
  go_enter Tryz.func173, Tryz.ntmps173
  go_wp2_with fail
  refine C.out.mono ?_
  rintro e w1 ⟨rfl, q1⟩
  go_wp2_with fail
  go_ret2
  exact ⟨rfl, q1⟩
set_option maxRecDepth 100000 in
set_option maxHeartbeats 4000000 in
theorem PPack_ok (v : Value) (l : List PostR) (w : World) (hv : Posts w v l) (hn : l.length ≤ 1000) (hl : ∀ p ∈ l, p.2.2.length ≤ 1000000) (hr : postsRight (-1) (postsOf l) = true) :
    Calls Tryz.prog 173 #[v] w fun e w' => e = .returned (.tuple #[.string ⟨(postsE (postsOf l)).toArray⟩, .int .i64 0]) ∧ Q w w' := by
  have c := PRight_any v l w hv (by omega) (fun p hp => by have := hl p hp; omega)
  rw [hr] at c
  obtain ⟨a, cap, rfl, hcell⟩ := hv.value
  obtain ⟨i0, hi, hz0, hz1, hz2⟩ := info_parts tinfo132
  have hin := hv.2
  have C := Lib.hid c; have HC := Lib.hid hcell; have HIN := Lib.hid hin; have HL := Lib.hid hl; have HR := Lib.hid hr
  clear c hv hl hcell hin hr
  go_enter Tryz.func173, Tryz.ntmps173
  go_wp2_with fail
  refine C.out.mono ?_
  rintro e w1 ⟨rfl, q1⟩
  have hsz1 := q1.size
  have HQ1 := Lib.hid q1; clear q1
  go_wp2_with fail
  go_loopw [4, 6, 7, 8, 16] (fun sv lv dv fv iv wr => ∃ k : Nat, k ≤ l.length ∧ iv = .int .i64 k ∧ lv = .int .i64 (packTo (postsOf l) k).last ∧ dv = .int .i64 (packTo (postsOf l) k).doc ∧ fv = .int .i64 ((packTo (postsOf l) k).from_ : Nat) ∧
      Hid (wr.ownsRow w.heap.size 132 1 sv (packTo (postsOf l) k).skips.length (u64Vs (packTo (postsOf l) k).skips)) ∧ Hid (∃ r, Bld wr w.heap.size w1.heap.size r (packTo (postsOf l) k).body) ∧ Hid (Below w.heap.size w wr)) (fun _ _ _ _ iv _ => l.length - (intOf iv).toNat)
  case atStart => exact ⟨0, by omega, rfl, rfl, rfl, rfl, World.ownsRow_nil _ _ _ _, ⟨none, Bld.new w1 w.heap.size hsz1⟩, (show Below w.heap.size w w1 from HQ1.out).alloc hsz1 _⟩
  case round =>
    obtain ⟨k, hk, rfl, rfl, rfl, rfl, HO, HBL, HB⟩ := hrel
    obtain ⟨wo, rfl⟩ : ∃ wo : World, wo = wr := ⟨_, rfl⟩
    have hpk := packOk (postsOf l) HR.out (by simpa using hn) k (by simpa using hk)
    obtain ⟨a1, a2, a3, a4, a5, a6⟩ := hpk
    have hszw := HB.out.size
    obtain ⟨r, hbld⟩ := HBL.out
    by_cases hlt : k < l.length
    · obtain ⟨b, off, rfl, hc⟩ := HC.out (by omega)
      obtain ⟨hc1, hc2⟩ := hc k hlt
      have hw1 := cell_stays HB.out hc1
      have hw2 := cell_stays HB.out hc2
      have hlt' : k < (postsOf l).length := by simpa using hlt
      obtain ⟨b1, b2, b3, b4, b5⟩ := postsRight_at _ _ HR.out k hlt'
      rw [← a1] at b1 b5
      have hel : (postsOf l)[k] = (l[k].1, l[k].2.2) := by simp
      have hs := packTo_succ (postsOf l) k hlt'
      rw [hel] at hs b1 b2 b3 b4
      have hints := (HIN.out _ (List.getElem_mem hlt)).stays HB.out
      have hpl := HL.out _ (List.getElem_mem hlt)
      have hge := List.getElem?_eq_getElem hlt
      have HGE := Lib.hid hge; clear hge
      clear hc hc1 hc2 hel hlt'
      generalize l[k] = p at *
      obtain ⟨d, pv, ps⟩ := p
      simp only at hw1 hw2 b1 b2 b3 b4 hs hints hpl
      have hri := rises_of _ _ b4
      have hol := oneE_len (d, ps) (packTo (postsOf l) k).doc hri
      obtain ⟨pa, pcap, hpv⟩ : ∃ pa pcap, pv = .slice pa ps.length pcap := by obtain ⟨x, y, h, _⟩ := hints.value; exact ⟨x, y, h⟩
      subst hpv
      have HS := Lib.hid hs; have HA6 := Lib.hid a6; have HRI := Lib.hid hri; have HIN2 := Lib.hid hints; have HBD := Lib.hid hbld
      clear hs a6 hri hints hbld a1 b3 b4
      generalize packTo (postsOf l) k = st at *
      obtain ⟨sk, bd, la, dc, fr⟩ := st
      simp only at a2 a3 a4 a5 b1 b5 hol HS HA6 HO HBD
      have hinw := HIN.out _ (List.mem_of_getElem? HGE.out)
      have HINW := Lib.hid hinw; clear hinw
      by_cases hg : 0 < k ∧ k % 8 = 0
      · have hstep : packStep ⟨sk, bd, la, dc, fr⟩ k (d, ps) = ⟨sk ++ [(dc - la).toNat, bd.length - fr], bd ++ oneE (d, ps) dc, dc, d, bd.length⟩ := by unfold packStep; rw [if_pos hg]
        rw [hstep] at HS
        obtain ⟨hg1, hg2⟩ := hg
        have hk8 : ((k : Int) % 8 == 0) = true := by simp; omega
        have hbx := (HBD.out.alloc (.cells #[.int .i64 d, .slice pa ps.length pcap] 211))
        have hox := (HO.out.alloc (.cells #[.int .i64 d, .slice pa ps.length pcap] 211))
        have hxx := heap_alloc_new wo (.cells #[.int .i64 d, .slice pa ps.length pcap] 211)
        have hbw := HB.out.alloc hszw (.cells #[.int .i64 d, .slice pa ps.length pcap] 211)
        have hxs : (wo.alloc (.cells #[.int .i64 d, .slice pa ps.length pcap] 211)).heap.size = wo.heap.size + 1 := by simp
        have cl := Len_any _ _ _ _ _ hbx
        have CL := Lib.hid cl; clear cl hstep
        go_wp2_with fail
        refine CL.out.mono ?_
        rintro e w2 ⟨rfl, rfl⟩
        obtain ⟨wx, hwx⟩ : ∃ wx, wo.alloc (.cells #[.int .i64 d, .slice pa ps.length pcap] 211) = wx := ⟨_, rfl⟩
        rw [hwx] at hbx hox hxx hbw hxs ⊢
        clear hwx CL
        have HBX := Lib.hid hbx; have HXX := Lib.hid hxx; have HBW := Lib.hid hbw; have HXS := Lib.hid hxs
        clear hbx hxx hbw hxs
        have hsz2 : w.heap.size ≤ wx.heap.size := HBW.out.size
        have hll : (sk.length + 2) * 8 ≤ 140737488355328 := by omega
        go_wp2_with (at_builtin; go_must (refine wpList_appN wx (by rfl) _ _ 258 (by rfl) w.heap.size 132 _ i0 (.int .u64 0) 1 8 Tryz.underlying258 hi hz0 hz1 hz2 rfl (by decide) (by decide) _ _ _ (by rfl) hox 2 (by decide) #[.int .u64 (dc - la), .int .u64 ((bd.length : Int) - fr)] (by rfl) rfl ?c1 ?c2 hsz2 ?_))
        case c1 => simp [Value.oneCell']
        try (case c2 => exact hll)
        intro g cp w4 hown1 hg1' hat hlt1 hsz1'
        have e1 : u64Vs sk ++ (#[.int .u64 (dc - la), .int .u64 ((bd.length : Int) - fr)] : Array Value).toList = u64Vs (sk ++ [(dc - la).toNat, bd.length - fr]) := by
          have h1 : ((dc - la).toNat : Int) = dc - la := by omega
          have h2 : ((bd.length - fr : Nat) : Int) = (bd.length : Int) - fr := by omega
          simp [u64Vs, h1, h2]
        have e2 : sk.length + 2 = (sk ++ [(dc - la).toNat, bd.length - fr]).length := by simp
        rw [e1, e2] at hown1
        have xx4 := (hg1'.block wo.heap.size (by rw [HXS.out]; omega) (fun e => by have := (HO.out.lt _ e.symm).2; omega)).trans HXX.out
        have bl4 := HBX.out.grown hox (by decide) (by decide) hg1'
        have hb4 := HBW.out.grown hg1' hsz2 (fun k hk => by have := (hox.lt k hk).1; omega)
        have E2 := Lib.hid e2; have OW4 := Lib.hid hown1; have X4 := Lib.hid xx4; have BL4 := Lib.hid bl4; have HB4 := Lib.hid hb4
        have cl := Len_any _ _ _ _ _ bl4
        have CL := Lib.hid cl
        clear e1 e2 hown1 xx4 bl4 hb4 hg1' hat hox cl
        rw [E2.out]
        go_wp2_with fail
        refine CL.out.mono ?_
        rintro e w2 ⟨rfl, rfl⟩
        · skip
          have co := one_any d dc (.slice pa ps.length pcap) ps w4 ((HINW.out).stays HB4.out) b1 b5 b2 HRI.out hpl
          obtain ⟨x0, x1⟩ := cells2 X4.out
          have CO := Lib.hid co; clear co
          go_wp2_with fail
          refine CO.out.mono ?_
          rintro e w5 ⟨rfl, q5⟩
          have bl5 := BL4.out.q q5
          have ow5 := ownsRow_below OW4.out q5
          have xx5 := block_stays' q5 X4.out
          have hb5 := HB4.out.trans (Below.mono q5 HB4.out.size)
          have cw := WriteString_any w.heap.size w1.heap.size r bd (oneE (d, ps) dc) w5 bl5 (by omega) hb5.size
          have CW := Lib.hid cw; have BL5 := Lib.hid bl5; have OW5 := Lib.hid ow5; have X5 := Lib.hid xx5; have HB5 := Lib.hid hb5
          clear cw bl5 ow5 xx5 hb5 q5 x0 x1
          go_wp2_with fail
          refine CW.out.mono ?_
          rintro e w6 ⟨rfl, hs6, r', hbld', hfr⟩
          have ow6 := hs6.owns BL5.out OW5.out (by decide) (by decide)
          have xx6 := hs6.cells BL5.out X5.out (by decide) (by decide)
          have hb6 := HB5.out.trans (BL5.out.below hs6 HB5.out.size)
          obtain ⟨x0, x1⟩ := cells2 xx6
          have BL6 := Lib.hid hbld'; have OW6 := Lib.hid ow6; have HB6 := Lib.hid hb6
          clear hs6 hbld' hfr ow6 xx6 hb6
          go_wp2_with fail
          go_roundw
          case rel => exact ⟨k + 1, by omega, by go_num, by rw [HS.out], by rw [HS.out], by rw [HS.out], by have h := OW6.out; rw [← E2.out] at h; show World.ownsRow _ _ _ _ _ _ _; rw [HS.out]; show World.ownsRow _ _ _ _ _ (sk ++ [(dc - la).toNat, bd.length - fr]).length (u64Vs (sk ++ [(dc - la).toNat, bd.length - fr])); rw [← E2.out]; exact h, by show ∃ r, _; rw [HS.out]; exact ⟨r', BL6.out⟩, HB6⟩
          case measure => simp [intOf]; omega
      · have hstep : packStep ⟨sk, bd, la, dc, fr⟩ k (d, ps) = ⟨sk, bd ++ oneE (d, ps) dc, la, d, fr⟩ := by unfold packStep; rw [if_neg hg]
        rw [hstep] at HS
        clear hstep
        have hbx := (HBD.out.alloc (.cells #[.int .i64 d, .slice pa ps.length pcap] 211))
        have hox := (HO.out.alloc (.cells #[.int .i64 d, .slice pa ps.length pcap] 211))
        have hxx := heap_alloc_new wo (.cells #[.int .i64 d, .slice pa ps.length pcap] 211)
        have hbw := HB.out.alloc hszw (.cells #[.int .i64 d, .slice pa ps.length pcap] 211)
        have HBX := Lib.hid hbx; have HOX := Lib.hid hox; have HXX := Lib.hid hxx; have HBW := Lib.hid hbw
        clear hbx hox hxx hbw
        by_cases hk0 : k = 0
        · subst hk0
          clear hg
          simp only [Nat.zero_mul, Nat.add_zero] at hw1 hw2
          have co := one_any d dc (.slice pa ps.length pcap) ps _ ((HINW.out).stays HBW.out) b1 b5 b2 HRI.out hpl
          have CO := Lib.hid co; clear co
          go_wp2_with fail
          revert CO HBX HOX HXX HBW
          generalize wo.alloc (.cells #[.int .i64 d, .slice pa ps.length pcap] 211) = w4
          intro BL4 OW4 X4 HB4 CO
          refine CO.out.mono ?_
          rintro e w5 ⟨rfl, q5⟩
          have bl5 := BL4.out.q q5
          have ow5 := ownsRow_below OW4.out q5
          have xx5 := block_stays' q5 X4.out
          have hb5 := HB4.out.trans (Below.mono q5 HB4.out.size)
          have cw := WriteString_any w.heap.size w1.heap.size r bd (oneE (d, ps) dc) w5 bl5 (by omega) hb5.size
          have CW := Lib.hid cw; have BL5 := Lib.hid bl5; have OW5 := Lib.hid ow5; have X5 := Lib.hid xx5; have HB5 := Lib.hid hb5
          clear cw bl5 ow5 xx5 hb5 q5
          go_wp2_with fail
          refine CW.out.mono ?_
          rintro e w6 ⟨rfl, hs6, r', hbld', hfr⟩
          have ow6 := hs6.owns BL5.out OW5.out (by decide) (by decide)
          have xx6 := hs6.cells BL5.out X5.out (by decide) (by decide)
          have hb6 := HB5.out.trans (BL5.out.below hs6 HB5.out.size)
          obtain ⟨x0, x1⟩ := cells2 xx6
          have BL6 := Lib.hid hbld'; have OW6 := Lib.hid ow6; have HB6 := Lib.hid hb6
          clear hs6 hbld' hfr ow6 xx6 hb6
          go_wp2_with fail
          go_roundw
          case rel => exact ⟨0 + 1, by omega, by go_num, by rw [HS.out], by rw [HS.out], by rw [HS.out], by show World.ownsRow _ _ _ _ _ _ _; rw [HS.out]; exact OW6.out, by show ∃ r, _; rw [HS.out]; exact ⟨r', BL6.out⟩, HB6⟩
          case measure => simp [intOf]; omega
        · have hk8 : ((k : Int) % 8 == 0) = false := by simp; omega
          have hkp : 0 < k := by omega
          clear hg hk0
          have co := one_any d dc (.slice pa ps.length pcap) ps _ ((HINW.out).stays HBW.out) b1 b5 b2 HRI.out hpl
          have CO := Lib.hid co; clear co
          go_wp2_with fail
          revert CO HBX HOX HXX HBW
          generalize wo.alloc (.cells #[.int .i64 d, .slice pa ps.length pcap] 211) = w4
          intro BL4 OW4 X4 HB4 CO
          refine CO.out.mono ?_
          rintro e w5 ⟨rfl, q5⟩
          have bl5 := BL4.out.q q5
          have ow5 := ownsRow_below OW4.out q5
          have xx5 := block_stays' q5 X4.out
          have hb5 := HB4.out.trans (Below.mono q5 HB4.out.size)
          have cw := WriteString_any w.heap.size w1.heap.size r bd (oneE (d, ps) dc) w5 bl5 (by omega) hb5.size
          have CW := Lib.hid cw; have BL5 := Lib.hid bl5; have OW5 := Lib.hid ow5; have X5 := Lib.hid xx5; have HB5 := Lib.hid hb5
          clear cw bl5 ow5 xx5 hb5 q5
          go_wp2_with fail
          refine CW.out.mono ?_
          rintro e w6 ⟨rfl, hs6, r', hbld', hfr⟩
          have ow6 := hs6.owns BL5.out OW5.out (by decide) (by decide)
          have xx6 := hs6.cells BL5.out X5.out (by decide) (by decide)
          have hb6 := HB5.out.trans (BL5.out.below hs6 HB5.out.size)
          obtain ⟨x0, x1⟩ := cells2 xx6
          have BL6 := Lib.hid hbld'; have OW6 := Lib.hid ow6; have HB6 := Lib.hid hb6
          clear hs6 hbld' hfr ow6 xx6 hb6
          go_wp2_with fail
          go_roundw
          case rel => exact ⟨k + 1, by omega, by go_num, by rw [HS.out], by rw [HS.out], by rw [HS.out], by show World.ownsRow _ _ _ _ _ _ _; rw [HS.out]; exact OW6.out, by show ∃ r, _; rw [HS.out]; exact ⟨r', BL6.out⟩, HB6⟩
          case measure => simp [intOf]; omega
    · have hkk : k = l.length := by omega
      subst hkk
      have hfull : packTo (postsOf l) l.length = packF ⟨[], [], -1, -1, 0⟩ 0 (postsOf l) := by unfold packTo; rw [List.take_of_length_le (by simp)]
      have hfin : postsE (postsOf l) = varE l.length ++ (varsE (packTo (postsOf l) l.length).skips ++ (packTo (postsOf l) l.length).body) := by rw [hfull]; simp [postsE]
      have HF := Lib.hid hfin; clear hfin hfull a1
      generalize packTo (postsOf l) l.length = st at *
      obtain ⟨sk, bd, la, dc, fr⟩ := st
      simp only at a2 a3 a4 a5 a6 HF HO hbld
      have c1 := Var_any (.slice (some ⟨wo.heap.size, 0, none⟩) 1 1) [l.length] (wo.alloc (.cells #[.int .u64 (l.length : Nat)] 132)) (Sl.lit wo #[.int .u64 (l.length : Nat)] 132 1 1 rfl) (by simp) (by intro n hn'; simp at hn'; omega)
      have hve : varsE [l.length] = varE l.length := by simp [varsE]
      rw [hve] at c1
      have hvl1 := varE_len l.length
      have hvl2 := varsE_len sk
      have C1 := Lib.hid c1; have HBD := Lib.hid hbld; have HA6 := Lib.hid a6
      clear hve
      clear c1 hbld a6
      go_wp2_with fail
      refine C1.out.mono ?_
      rintro e w3 ⟨rfl, q3⟩
      have hq3 : Q wo w3 := (Q.alloc _ _).trans q3
      have hb3 := HB.out.trans (Below.mono hq3 hszw)
      have c2 := Var_any _ sk w3 (Sl.of_owns (ownsRow_below HO.out hq3)) (by omega) HA6.out
      have bl3 := HBD.out.q hq3
      have C2 := Lib.hid c2; have HB3 := Lib.hid hb3; have BL3 := Lib.hid bl3
      clear c2 hb3 bl3 hq3 q3
      go_wp2_with fail
      refine C2.out.mono ?_
      rintro e w4 ⟨rfl, q4⟩
      have hb4 := HB3.out.trans (Below.mono q4 HB3.out.size)
      have bl4 := BL3.out.q q4
      have c3 := String_step _ _ _ _ _ bl4
      have C3 := Lib.hid c3; have HB4 := Lib.hid hb4; have BL4 := Lib.hid bl4
      clear c3 hb4 bl4 q4
      go_wp2_with fail
      refine C3.out.mono ?_
      rintro e w5 ⟨rfl, hs5⟩
      have hb5 := HB4.out.trans (BL4.out.below hs5 HB4.out.size)
      have HB5 := Lib.hid hb5
      clear hb5 hs5
      go_wp2_with fail
      go_ret2
      exact ⟨ret_str_int (by rw [bytes_append, bytes_append, HF.out, List.append_assoc]), HB5.out⟩
theorem PPack_any (v : Value) (l : List PostR) (w : World) (hv : Posts w v l) (hn : l.length ≤ 1000) (hl : ∀ p ∈ l, p.2.2.length ≤ 1000000) :
    Calls Tryz.prog 173 #[v] w fun e w' => e = .returned (.tuple #[.string ⟨(packL (postsOf l)).toArray⟩, .int .i64 (if postsRight (-1) (postsOf l) then 0 else 1)]) ∧ Q w w' := by
  unfold packL
  cases hr : postsRight (-1) (postsOf l) with
  | true => exact PPack_ok v l w hv hn hl hr
  | false => exact PPack_bad v l w hv hn hl hr
end Go.Proofs.YtcflpcpkmhljkaaGreatDoor
end

/- (WDictPR) dict.Pack: the region of an entry. -/
section
namespace Go.Proofs.YtcflpcpkmhljkaaGreatDoor
open Go.RowKit
set_option linter.unusedVariables false
/-! ### three builders -/
def Far (r r' : Option Nat) : Prop := r = none ∨ r ≠ r'
theorem Far.fresh {w : World} {r r2 r2' : Option Nat} (h : Far r r2) (hf : Fresh w r2 r2') (hl : ∀ k, r = some k → k < w.heap.size) : Far r r2' := by
  rcases hf with e | ⟨g, e, hg⟩
  · rw [e]; exact h
  · cases r with
    | none => exact .inl rfl
    | some k => right; rw [e]; intro e2; cases e2; have := hl _ rfl; omega
theorem Far.fresh' {w : World} {r r' r2 : Option Nat} (h : Far r r2) (hf : Fresh w r r') (hl : ∀ k, r2 = some k → k < w.heap.size) : Far r' r2 := by
  rcases hf with e | ⟨g, e, hg⟩
  · rw [e]; exact h
  · right; rw [e]; intro e2; have := hl _ e2.symm; omega
theorem Far.new {r : Option Nat} : Far r none := by
  cases r with
  | none => exact .inl rfl
  | some k => right; simp
theorem Bld.row_ne {w : World} {B b b2 : Nat} {r r2 : Option Nat} {l l2 : Bytes} (h : Bld w B b r l) (h2 : Bld w B b2 r2 l2) : r ≠ some b2 ∧ some b2 ≠ r := by
  obtain ⟨_, p, v, h3, _⟩ := h2
  have hne : some b2 ≠ r := by
    intro e
    obtain ⟨cs, fz, hc⟩ := h.cellsRow b2 e.symm
    rw [h3] at hc
    injection hc with h4
    injection h4 with _ h4 _
    revert h4; decide
  exact ⟨fun e => hne e.symm, hne⟩
/-- a step of one builder keeps another -/
theorem Bld.aside {w w' : World} {B b b2 : Nat} {r r2 : Option Nat} {l l2 : Bytes} (h : Bld w B b r l) (h2 : Bld w B b2 r2 l2) (hs : Step2 w w' b2 r2) (hb : b ≠ b2) (hf : Far r r2) : Bld w' B b r l :=
  h.step hs hb (h2.row_ne h).2 (h.row_ne h2).1 hf

/-- the two great builders behind m groups -/
def Bs2 (W : World) (B b1 b2 : Nat) (l1 l2 : Bytes) : Prop := ∃ r1 r2, Bld W B b1 r1 l1 ∧ Bld W B b2 r2 l2 ∧ Far r1 r2
/-- three builders -/
def Bs3 (W : World) (B b1 b2 b3 : Nat) (l1 l2 l3 : Bytes) : Prop := ∃ r1 r2 r3, Bld W B b1 r1 l1 ∧ Bld W B b2 r2 l2 ∧ Bld W B b3 r3 l3 ∧ Far r1 r2 ∧ Far r1 r3 ∧ Far r2 r3
theorem Bs3.q {W W' : World} {B b1 b2 b3 : Nat} {l1 l2 l3 : Bytes} (h : Bs3 W B b1 b2 b3 l1 l2 l3) (hq : Q W W') : Bs3 W' B b1 b2 b3 l1 l2 l3 := by
  obtain ⟨r1, r2, r3, h1, h2, h3, f⟩ := h
  exact ⟨r1, r2, r3, h1.q hq, h2.q hq, h3.q hq, f⟩
def PK (w0 w : World) (base b1 b2 b3 X : Nat) (l1 l2 l3 t v : Bytes) : Prop :=
  Bs3 w base b1 b2 b3 l1 l2 l3 ∧ w.heap[X]? = some (.cells #[.string ⟨t.toArray⟩, .string ⟨v.toArray⟩] 240 (0, 0)) ∧ Below base w0 w ∧ base ≤ w0.heap.size
theorem PK.q {w0 w w' : World} {base b1 b2 b3 X : Nat} {l1 l2 l3 t v : Bytes} (h : PK w0 w base b1 b2 b3 X l1 l2 l3 t v) (hq : Q w w') : PK w0 w' base b1 b2 b3 X l1 l2 l3 t v :=
  ⟨h.1.q hq, block_stays' hq h.2.1, h.2.2.1.trans (Below.mono hq (Nat.le_trans h.2.2.2 h.2.2.1.size)), h.2.2.2⟩
theorem PK.al {w0 w : World} {base b1 b2 b3 X : Nat} {l1 l2 l3 t v : Bytes} {o : Obj} (h : PK w0 w base b1 b2 b3 X l1 l2 l3 t v) : PK w0 (w.alloc o) base b1 b2 b3 X l1 l2 l3 t v := h.q (Q.alloc w o)
theorem PK.dr {w0 w : World} {base b1 b2 b3 X : Nat} {l1 l2 l3 t v : Bytes} (h : PK w0 w base b1 b2 b3 X l1 l2 l3 t v) : PK w0 w.drew base b1 b2 b3 X l1 l2 l3 t v := h.q (Q.drew w)
theorem PK_write (x : ByteArray) (w0 w : World) (base b1 b2 b3 X : Nat) (l1 l2 l3 t v s : Bytes) (hx : x = ⟨s.toArray⟩) (h : PK w0 w base b1 b2 b3 X l1 l2 l3 t v) (h13 : b1 ≠ b3) (h23 : b2 ≠ b3) (hl : l3.length + s.length ≤ 140737488355328) :
    Calls Tryz.prog 135 #[.pointer (some ⟨b3, 0, none⟩), .string x] w fun e w' => e = .returned (.tuple #[.int .i64 s.length, .nilIface]) ∧ PK w0 w' base b1 b2 b3 X l1 l2 (l3 ++ s) t v := by
  subst hx
  obtain ⟨⟨r1, r2, r3, h1, h2, h3, f12, f13, f23⟩, hX, hB, hb⟩ := h
  have hsz := Nat.le_trans hb hB.size
  refine (WriteString_any base b3 r3 l3 s w h3 hl hsz).mono ?_
  rintro e w' ⟨rfl, hs, r', hb', hfr⟩
  refine ⟨rfl, ⟨r1, r2, r', h1.aside h3 hs h13 f13, h2.aside h3 hs h23 f23, hb', f12, f13.fresh hfr (fun k hk => (h1.row k hk).2), f23.fresh hfr (fun k hk => (h2.row k hk).2)⟩, hs.cells h3 hX (by decide) (by decide), hB.trans (h3.below hs hsz), hb⟩
noncomputable def packRow : Code := ((Tryz.f174.body.bind (findRegion 14)).getD .skip)
theorem Strs.two (w : World) (x : ByteArray) (a b : Bytes) (e : TypeId) (hx : x = ⟨a.toArray⟩) : Strs (w.alloc (.cells #[.string x, .string ⟨b.toArray⟩] e)) (.slice (some ⟨w.heap.size, 0, none⟩) 2 2) [a, b] := by
  subst hx; exact Sl.lit w #[.string ⟨a.toArray⟩, .string ⟨b.toArray⟩] e 2 1 rfl
theorem U64s.one (w : World) (n : Nat) (e : TypeId) : U64s (w.alloc (.cells #[.int .u64 (n : Nat)] e)) (.slice (some ⟨w.heap.size, 0, none⟩) 1 1) [n] := Sl.lit w #[.int .u64 (n : Nat)] e 1 1 rfl
theorem Strs.two' (w : World) (x : ByteArray) (a b : Bytes) (e : TypeId) (g : Nat) (hx : x = ⟨a.toArray⟩) (hg : g = w.heap.size) : Strs (w.alloc (.cells #[.string x, .string ⟨b.toArray⟩] e)) (.slice (some ⟨g, 0, none⟩) 2 2) [a, b] := hg ▸ Strs.two w x a b e hx
theorem U64s.one' (w : World) (n : Nat) (e : TypeId) (g : Nat) (hg : g = w.heap.size) : U64s (w.alloc (.cells #[.int .u64 (n : Nat)] e)) (.slice (some ⟨g, 0, none⟩) 1 1) [n] := hg ▸ U64s.one w n e
theorem U64s.stq {w w' : World} {v : Value} {ns : List Nat} (h : U64s w v ns) (q : Q w w') : U64s w' v ns := h.stays q
theorem Strs.stq {w w' : World} {v : Value} {ns : List Bytes} (h : Strs w v ns) (q : Q w w') : Strs w' v ns := h.stays q
theorem World.drew_size (w : World) : w.drew.heap.size = w.heap.size := rfl
theorem PK.cells {w0 w : World} {base b1 b2 b3 X : Nat} {l1 l2 l3 t v : Bytes} (h : PK w0 w base b1 b2 b3 X l1 l2 l3 t v) : w.cell? ⟨X, 0, none⟩ = some (.string ⟨t.toArray⟩) ∧ w.cell? ⟨X, 1, none⟩ = some (.string ⟨v.toArray⟩) := cells2 h.2.1
theorem U64s.al {w : World} {v : Value} {ns : List Nat} {o : Obj} (h : U64s w v ns) : U64s (w.alloc o) v ns := h.stays (Q.alloc w o)
theorem U64s.dr {w : World} {v : Value} {ns : List Nat} (h : U64s w v ns) : U64s w.drew v ns := h.stays (Q.drew w)
theorem Strs.al {w : World} {v : Value} {ns : List Bytes} {o : Obj} (h : Strs w v ns) : Strs (w.alloc o) v ns := h.stays (Q.alloc w o)
theorem Strs.dr {w : World} {v : Value} {ns : List Bytes} (h : Strs w v ns) : Strs w.drew v ns := h.stays (Q.drew w)
set_option maxRecDepth 100000 in
set_option maxHeartbeats 1000000 in
theorem pack_row (base b1 b2 b3 X n : Nat) (l1 l2 l3 t v : Bytes) (w0 w : World) (hK : PK w0 w base b1 b2 b3 X l1 l2 l3 t v) (h13 : b1 ≠ b3) (h23 : b2 ≠ b3) (hnt : n ≤ t.length) (ht : t.length ≤ 40) (hv : v.length ≤ 4194304) (hl3 : l3.length ≤ 100000000)
    (Qx : Exit → Act → World → Prop) (x0 x1 x2 x3 x4 x5 x6 x8 x9 x12 x13 x14 x15 x16 x17 x18 x19 x20 x21 x22 x23 x24 x25 x26 x27 x28 x29 x30 x31 x32 x33 x34 x35 x36 x37 x38 x39 x40 x41 x42 x43 x44 x45 x46 x47 x48 x49 x50 x51 x52 x53 x54 x55 x56 x57 x58 x59 x60 x61 x62 x63 x64 x65 x66 x67 x68 x69 x70 x71 x72 x73 x74 x75 x76 x77 x78 : Value)
    (hQ : ∀ w4 z44 z45 z46 z47 z48 z49 z50 z51 z52 z53 z54 z55 z56 z57, PK w0 w4 base b1 b2 b3 X l1 l2 (l3 ++ (varE n ++ (textE (t.drop n) ++ textE v))) t v → Qx .normal ⟨#[x0, x1, x2, x3, x4, x5, x6, .pointer (some ⟨b3, 0, none⟩), x8, x9, .pointer (some ⟨X, 0, none⟩), .int .i64 (n : Nat), x12, x13, x14, x15, x16, x17, x18, x19, x20, x21, x22, x23, x24, x25, x26, x27, x28, x29, x30, x31, x32, x33, x34, x35, x36, x37, x38, x39, x40, x41, x42, x43, z44, z45, z46, z47, z48, z49, z50, z51, z52, z53, z54, z55, z56, z57, x58, x59, x60, x61, x62, x63, x64, x65, x66, x67, x68, x69, x70, x71, x72, x73, x74, x75, x76, x77, x78], []⟩ w4) :
    packRow.wp Tryz.prog Qx ⟨#[x0, x1, x2, x3, x4, x5, x6, .pointer (some ⟨b3, 0, none⟩), x8, x9, .pointer (some ⟨X, 0, none⟩), .int .i64 (n : Nat), x12, x13, x14, x15, x16, x17, x18, x19, x20, x21, x22, x23, x24, x25, x26, x27, x28, x29, x30, x31, x32, x33, x34, x35, x36, x37, x38, x39, x40, x41, x42, x43, x44, x45, x46, x47, x48, x49, x50, x51, x52, x53, x54, x55, x56, x57, x58, x59, x60, x61, x62, x63, x64, x65, x66, x67, x68, x69, x70, x71, x72, x73, x74, x75, x76, x77, x78], []⟩ w := by
  conv => arg 2; whnf
  have hmx : Tryz.prog.follows .mixedOrders = true := by kernel_rfl
  have HQX := Lib.hid hQ; clear hQ
  have KK := Lib.hid hK
  obtain ⟨c0, c1⟩ := cells2 hK.2.1
  clear hK
  have hni : (0 : Int) ≤ (n : Int) ∧ (n : Int) ≤ (t.length : Int) := by omega
  obtain ⟨hn0, hn1⟩ := hni
  have hdr := bytes_drop t n
  have hwr : IntKind.u64.wrap (n : Int) = n := IntWalk.u64_in _ (by omega)
  have hve : varsE [n] = varE n := by simp [varsE]
  have hte : textsE [t.drop n, v] = textE (t.drop n) ++ textE v := by simp [textsE]
  have hone : [n].length ≤ 1000000000000 := by simp
  have hn64 : ∀ m ∈ [n], m < 18446744073709551616 := by intro m hm; simp at hm; omega
  have htwo : [t.drop n, v].length ≤ 1000 := by simp
  have hps : ∀ p ∈ [t.drop n, v], p.length ≤ 100000000000 := by intro p hp; simp at hp; rcases hp with rfl | rfl <;> (try rw [List.length_drop]) <;> omega
  have hvl := varE_len n
  have htl : (textE (t.drop n) ++ textE v).length ≤ 5000000 := by have := textE_len (t.drop n); have := textE_len v; rw [List.length_append]; rw [List.length_drop] at *; omega
  generalize varE n = vn at *
  generalize textE (t.drop n) ++ textE v = tv at *
  have hlen : l3.length + (vn ++ tv).length ≤ 140737488355328 := by rw [List.length_append]; omega
  have hadd : vn.length + tv.length ≤ 9223372036854775807 := by omega
  have hsum : ∀ W : World, (Op.stringOp .add ⟨vn.toArray⟩ ⟨tv.toArray⟩).run Tryz.prog W = .ok (.string (⟨vn.toArray⟩ ++ ⟨tv.toArray⟩)) W := fun W => run_string_add_sum W _ _ (by simpa [ByteArray.size] using hadd)
  go_region_held3 (fun w' => w'.cell? ⟨X, 0, none⟩ = some (.string ⟨t.toArray⟩) ∧ w'.cell? ⟨X, 1, none⟩ = some (.string ⟨v.toArray⟩)) (first | exact PK.cells (by repeat (first | with_reducible exact KK.out | with_reducible apply PK.al | with_reducible apply PK.dr)) | exact PK.cells KZ.out)
    (first
      | (go_at_call 136; refine (Var_any _ [n] _ (by repeat (first | (with_reducible refine U64s.one' _ _ _ _ ?_; simp only [World.size_alloc, World.drew_size]; done) | with_reducible apply U64s.al | with_reducible apply U64s.dr | with_reducible refine U64s.stq ?_ q)) hone hn64).mono ?_; rw [hve]; rintro e w' ⟨rfl, q⟩; have k' : PK w0 w' base b1 b2 b3 X l1 l2 l3 t v := PK.q (by repeat (first | with_reducible exact KK.out | with_reducible apply PK.al | with_reducible apply PK.dr)) q; clear KK; have KK := Lib.hid k'; clear k')
      | (go_at_call 137; refine (Text_any _ [t.drop n, v] _ (by repeat (first | (with_reducible refine Strs.two' _ _ _ _ _ _ rfl ?_; simp only [World.size_alloc, World.drew_size]; done) | with_reducible apply Strs.al | with_reducible apply Strs.dr | with_reducible refine Strs.stq ?_ q)) htwo hps).mono ?_; rw [hte]; rintro e w' ⟨rfl, q⟩; have k' : PK w0 w' base b1 b2 b3 X l1 l2 l3 t v := PK.q (by repeat (first | with_reducible exact KK.out | with_reducible apply PK.al | with_reducible apply PK.dr)) q; clear KK; have KK := Lib.hid k'; clear k')
      | (go_at_call 135; refine (PK_write _ w0 _ base b1 b2 b3 X l1 l2 l3 t v _ (bytes_append _ _) KK.out h13 h23 hlen).mono ?_; rintro e w' ⟨rfl, k'⟩; have KZ := Lib.hid k'; clear k'))
  all_goals exact HQX.out _ _ _ _ _ _ _ _ _ _ _ _ _ _ _ KZ.out
end Go.Proofs.YtcflpcpkmhljkaaGreatDoor
end
