/- Joined texts of one proof: Ix2, IdxEq, SegRd. -/
import Derived.Test.YtcblmcbpnakphaaGreatDoorMIxMemToMaps2
import Derived.Test.YtcblmcbpnakphaaGreatDoorMMapsToLive
import Derived.Test.YtcblmcbpnakphaaGreatDoorMWDictNToWDictE
import Derived.Test.YtcblmcbpnakphaaGreatDoorMPostRdToRange2
set_option linter.unusedSimpArgs false
set_option linter.unusedVariables false
set_option linter.unnecessarySimpa false
/- (Ix2) segment.index: what it answers, plain. -/
section
namespace Go.Proofs.YtcblmcbpnakphaaGreatDoor
open Go.RowKit
set_option linter.unusedVariables false

def ixF : List DocL → Nat → IxA → IxA
  | [], _, A => A
  | d :: l, i, A => ixF l (i + 1) ((tokensL d.2).foldl (addTok (i : Nat)) A)
theorem ixF_snoc (l : List DocL) (d : DocL) (i : Nat) (A : IxA) : ixF (l ++ [d]) i A = (tokensL d.2).foldl (addTok ((i + l.length : Nat) : Int)) (ixF l i A) := by
  induction l generalizing i A with
  | nil => simp [ixF]
  | cons a l ih => rw [List.cons_append, ixF, ixF, ih]; congr 2; simp; omega
def ixTo (l : List DocL) (k : Nat) : IxA := ixF (l.take k) 0 []
/-- after j tokens of the document k -/
def ixIn (l : List DocL) (k : Nat) (ts : List (Bytes × Nat)) (j : Nat) : IxA := (ts.take j).foldl (addTok (k : Nat)) (ixTo l k)
theorem ixTo_succ (l : List DocL) (k : Nat) (h : k < l.length) : ixTo l (k + 1) = ixIn l k (tokensL l[k].2) (tokensL l[k].2).length := by
  unfold ixTo ixIn ixTo
  rw [List.take_succ_eq_append_getElem h, ixF_snoc, List.length_take, Nat.min_eq_left (by omega), List.take_length, Nat.zero_add]
theorem ixIn_zero (l : List DocL) (k : Nat) (ts : List (Bytes × Nat)) : ixIn l k ts 0 = ixTo l k := rfl
theorem ixIn_succ (l : List DocL) (k : Nat) (ts : List (Bytes × Nat)) (j : Nat) (h : j < ts.length) : ixIn l k ts (j + 1) = addTok (k : Nat) (ixIn l k ts j) ts[j] := by
  unfold ixIn
  rw [List.take_succ_eq_append_getElem h, List.foldl_append]
  rfl
theorem tokensF_small (ws : List Bytes) (k : Nat) : ∀ x ∈ tokensF ws k, x.1.length ≤ 40 ∧ x.2 < k + ws.length := by
  induction ws generalizing k with
  | nil => simp [tokensF]
  | cons w ws ih =>
    intro x hx
    rw [tokensF] at hx
    simp only [List.length_cons]
    split at hx
    · rename_i h
      rcases List.mem_cons.1 hx with rfl | hx
      · exact ⟨h.1, by simp⟩
      · have := ih (k + 1) x hx; exact ⟨this.1, by omega⟩
    · have := ih (k + 1) x hx; exact ⟨this.1, by omega⟩
theorem tokensL_facts (s : Bytes) (hs : s.length ≤ 2000) : (tokensL s).length ≤ 2001 ∧ ∀ x ∈ tokensL s, x.1.length ≤ 40 ∧ x.2 ≤ 2001 := by
  have h1 := (wordsL_len s).1
  have h2 := tokensF_len (wordsL s) 0
  refine ⟨by unfold tokensL; omega, fun x hx => ?_⟩
  have := tokensF_small _ _ x hx
  exact ⟨this.1, by omega⟩
theorem ixIn_wf (l : List DocL) (k : Nat) (ts : List (Bytes × Nat)) (h : AWf (ixTo l k) k 0) (ht : ts.length ≤ 2001) (hx : ∀ x ∈ ts, x.1.length ≤ 40) (j : Nat) (hj : j ≤ ts.length) : AWf (ixIn l k ts j) k j := by
  induction j with
  | zero => exact h
  | succ j ih =>
    rw [ixIn_succ l k ts j (by omega)]
    exact (ih (by omega)).add (by omega) (by omega) _ (hx _ (List.getElem_mem _))
theorem ixTo_wf (l : List DocL) (hl : ∀ d ∈ l, d.2.length ≤ 2000) (k : Nat) (hk : k ≤ l.length) : AWf (ixTo l k) k 0 := by
  induction k with
  | zero => exact AWf.nil
  | succ k ih =>
    have hf := tokensL_facts l[k].2 (hl _ (List.getElem_mem _))
    rw [ixTo_succ l k (by omega)]
    have := (ixIn_wf l k _ (ih (by omega)) hf.1 (fun x hx => (hf.2 x hx).1) _ (Nat.le_refl _)).next hf.1
    simpa using this
def ixAll (l : List DocL) : IxA := ixTo l l.length
def entS (A : IxA) (t : Bytes) : EntryL := (t, packL ((getM t A).getD []))
def idxS (l : List DocL) : Bytes := dictL ((sortL ((ixAll l).map (·.1))).map (entS (ixAll l)))
end Go.Proofs.YtcblmcbpnakphaaGreatDoor
end

/- (IdxEq) Plain: the index that is walked is that of the document (idxS = idxL). -/
section
namespace Go.Proofs.YtcblmcbpnakphaaGreatDoor
set_option linter.unusedVariables false

theorem snoc_ind {α : Type} {P : List α → Prop} (h0 : P []) (h1 : ∀ l a, P l → P (l ++ [a])) (l : List α) : P l := by
  have : ∀ n (l : List α), l.length = n → P l := by
    intro n
    induction n with
    | zero => intro l hl; rw [List.eq_nil_of_length_eq_zero hl]; exact h0
    | succ n ih =>
      intro l hl
      have hne : l ≠ [] := by intro e; simp [e] at hl
      rw [← List.dropLast_concat_getLast hne]
      exact h1 _ _ (ih _ (by simp; omega))
  exact this _ l rfl
def placesOf (ts : List (Bytes × Nat)) (t : Bytes) : List Int := ts.filterMap fun x => if x.1 = t then some (x.2 : Int) else none
theorem placesOf_snoc (ts : List (Bytes × Nat)) (x : Bytes × Nat) (t : Bytes) : placesOf (ts ++ [x]) t = placesOf ts t ++ (if x.1 = t then [(x.2 : Int)] else []) := by
  unfold placesOf
  rw [List.filterMap_append]
  by_cases h : x.1 = t <;> simp [h]
theorem get_foldTok (i : Int) (t : Bytes) (A : IxA) (hlt : ∀ l, getM t A = some l → ∀ x ∈ l, x.1 ≠ i) (ts : List (Bytes × Nat)) :
    getM t (ts.foldl (addTok i) A) = if placesOf ts t = [] then getM t A else some ((getM t A).getD [] ++ [(i, placesOf ts t)]) := by
  induction ts using snoc_ind with
  | h0 => simp [placesOf]
  | h1 ts x ih =>
    rw [List.foldl_append, List.foldl_cons, List.foldl_nil, placesOf_snoc]
    rw [show addTok i (ts.foldl (addTok i) A) x = putM x.1 (addP i x.2 ((getM x.1 (ts.foldl (addTok i) A)).getD [])) (ts.foldl (addTok i) A) from rfl, get_put]
    by_cases hx : x.1 = t
    · rw [if_pos hx, if_pos hx, hx, ih]
      have hne : ∀ y ∈ (getM t A).getD [], y.1 ≠ i := by
        intro y hy
        cases hg : getM t A with
        | none => rw [hg] at hy; simp at hy
        | some l => rw [hg] at hy; exact hlt l hg y hy
      by_cases hp : placesOf ts t = []
      · rw [if_pos hp, hp, addP_new i _ _ hne]; simp
      · rw [if_neg hp]
        simp only [Option.getD_some]
        rw [addP_old]; simp
    · rw [if_neg hx, if_neg hx, List.append_nil]; exact ih
theorem postsF_snoc (t : Bytes) (l : List DocL) (d : DocL) (i : Nat) : postsF t (l ++ [d]) i = postsF t l i ++ (if placesIn d.2 t = [] then [] else [(((i + l.length : Nat) : Int), placesIn d.2 t)]) := by
  induction l generalizing i with
  | nil => simp [postsF]
  | cons a l ih =>
    rw [List.cons_append, postsF, postsF, ih, List.length_cons, show i + 1 + l.length = i + (l.length + 1) by omega]
    by_cases h : placesIn a.2 t = []
    · rw [if_pos h, if_pos h]
    · rw [if_neg h, if_neg h, List.cons_append]
theorem postsF_docs (t : Bytes) (l : List DocL) (i : Nat) : ∀ x ∈ postsF t l i, (i : Int) ≤ x.1 ∧ x.1 < ((i + l.length : Nat) : Int) := by
  induction l generalizing i with
  | nil => simp [postsF]
  | cons a l ih =>
    intro x hx
    rw [postsF] at hx
    rw [List.length_cons]
    split at hx
    · have := ih (i + 1) x hx; omega
    · rcases List.mem_cons.1 hx with rfl | hx
      · simp only; omega
      · have := ih (i + 1) x hx; omega
theorem get_ixTo (l : List DocL) (t : Bytes) (k : Nat) (hk : k ≤ l.length) : getM t (ixTo l k) = if postsF t (l.take k) 0 = [] then none else some (postsF t (l.take k) 0) := by
  induction k with
  | zero => simp [ixTo, ixF, getM, postsF]
  | succ k ih =>
    have hlt : k < l.length := by omega
    have ih := ih (by omega)
    have hd : ∀ x ∈ postsF t (l.take k) 0, x.1 < (k : Int) := by
      intro x hx
      have := (postsF_docs t (l.take k) 0 x hx).2
      rw [List.length_take, Nat.min_eq_left (by omega)] at this
      omega
    rw [ixTo_succ l k hlt]
    unfold ixIn
    rw [List.take_length, get_foldTok (k : Nat) t (ixTo l k) (fun m hm x hx => by
      rw [ih] at hm
      split at hm
      · cases hm
      · cases hm; have := hd x hx; omega), ih, List.take_succ_eq_append_getElem hlt, postsF_snoc, List.length_take, Nat.min_eq_left (by omega), Nat.zero_add]
    have he : placesOf (tokensL l[k].2) t = placesIn l[k].2 t := rfl
    rw [he]
    by_cases hp : placesIn l[k].2 t = []
    · rw [if_pos hp, if_pos hp, List.append_nil]
    · rw [if_neg hp, if_neg hp, if_neg (show ¬ (postsF t (l.take k) 0 ++ [((k : Int), placesIn l[k].2 t)] = []) by simp)]
      by_cases hq : postsF t (l.take k) 0 = []
      · rw [if_pos hq, hq]; rfl
      · rw [if_neg hq]; rfl
theorem get_ixAll (l : List DocL) (t : Bytes) : (getM t (ixAll l)).getD [] = postsF t l 0 := by
  unfold ixAll
  rw [get_ixTo l t l.length (Nat.le_refl _), List.take_length]
  by_cases h : postsF t l 0 = []
  · rw [if_pos h, h]; rfl
  · rw [if_neg h]; rfl
theorem places_some (s t : Bytes) : placesIn s t ≠ [] ↔ t ∈ (tokensL s).map (·.1) := by
  unfold placesIn
  rw [ne_eq, List.filterMap_eq_nil_iff]
  simp only [List.mem_map]
  constructor
  · intro h
    apply Classical.byContradiction
    intro hn
    exact h (fun x hx => by rw [if_neg (fun e => hn ⟨x, hx, e⟩)])
  · rintro ⟨x, hx, e⟩ h
    have := h x hx
    rw [if_pos e] at this
    cases this
theorem posts_some (t : Bytes) (l : List DocL) (i : Nat) : postsF t l i ≠ [] ↔ t ∈ l.flatMap fun d => (tokensL d.2).map (·.1) := by
  induction l generalizing i with
  | nil => simp [postsF]
  | cons a l ih =>
    rw [postsF, List.flatMap_cons, List.mem_append, ← places_some, ← ih (i + 1)]
    by_cases h : placesIn a.2 t = []
    · rw [if_pos h]; simp [h]
    · rw [if_neg h]; simp [h]
theorem keys_ixAll (l : List DocL) (t : Bytes) : t ∈ (ixAll l).map (·.1) ↔ t ∈ l.flatMap fun d => (tokensL d.2).map (·.1) := by
  have h := getM_some t (ixAll l)
  rw [← posts_some t l 0]
  unfold ixAll at h ⊢
  rw [get_ixTo l t l.length (Nat.le_refl _), List.take_length] at h
  by_cases hp : postsF t l 0 = []
  · rw [if_pos hp] at h
    have : ¬ t ∈ (ixTo l l.length).map (·.1) := fun e => by rw [decide_eq_true e] at h; cases h
    simp only [this, hp, ne_eq, not_true]
  · rw [if_neg hp] at h
    have : t ∈ (ixTo l l.length).map (·.1) := of_decide_eq_true h.symm
    simp only [this, hp, ne_eq, not_false_eq_true]
theorem nodup_put {α : Type} (k : Bytes) (v : α) (m : List (Bytes × α)) (h : (m.map (·.1)).Nodup) : ((putM k v m).map (·.1)).Nodup := by
  rw [keys_put]
  split
  · exact h
  · rename_i hn
    rw [List.nodup_append]
    exact ⟨h, by simp, fun a ha b hb => by simp at hb; subst hb; exact fun e => hn (e ▸ ha)⟩
theorem nodup_foldTok (i : Int) (ts : List (Bytes × Nat)) (A : IxA) (h : (A.map (·.1)).Nodup) : ((ts.foldl (addTok i) A).map (·.1)).Nodup := by
  induction ts generalizing A with
  | nil => exact h
  | cons x ts ih => exact ih _ (nodup_put _ _ _ h)
theorem nodup_ixAll (l : List DocL) : ((ixAll l).map (·.1)).Nodup := by
  unfold ixAll
  have : ∀ k, k ≤ l.length → ((ixTo l k).map (·.1)).Nodup := by
    intro k
    induction k with
    | zero => intro _; simp [ixTo, ixF]
    | succ k ih =>
      intro hk
      rw [ixTo_succ l k (by omega)]
      exact nodup_foldTok _ _ _ (ih (by omega))
  exact this _ (Nat.le_refl _)
/-! ### the order of texts -/
theorem mem_putL (t : Bytes) (l : List Bytes) (x : Bytes) : x ∈ putL t l ↔ x = t ∨ x ∈ l := by
  induction l with
  | nil => simp [putL]
  | cons y l ih =>
    rw [putL]
    split
    · rename_i h
      subst h
      simp
    · split
      · simp
      · simp only [List.mem_cons, ih]
        constructor
        · rintro (h | h | h)
          · exact .inr (.inl h)
          · exact .inl h
          · exact .inr (.inr h)
        · rintro (h | h | h)
          · exact .inr (.inl h)
          · exact .inl h
          · exact .inr (.inr h)
theorem putL_rise (t : Bytes) (l : List Bytes) (h : l.Pairwise (· < ·)) : (putL t l).Pairwise (· < ·) := by
  induction l with
  | nil => simp [putL]
  | cons y l ih =>
    rw [List.pairwise_cons] at h
    rw [putL]
    split
    · exact List.pairwise_cons.2 h
    · rename_i hne
      split
      · rename_i hl
        have hl := (lessL_iff _ _).1 hl
        refine List.pairwise_cons.2 ⟨fun z hz => ?_, List.pairwise_cons.2 h⟩
        rcases List.mem_cons.1 hz with rfl | hz
        · exact hl
        · exact List.lt_trans hl (h.1 z hz)
      · rename_i hl
        refine List.pairwise_cons.2 ⟨fun z hz => ?_, ih h.2⟩
        rcases (mem_putL _ _ _).1 hz with rfl | hz
        · exact less_total (fun e => hl ((lessL_iff _ _).2 e)) (fun e => hne e.symm)
        · exact h.1 z hz
theorem foldPutL_rise (ts l : List Bytes) (h : l.Pairwise (· < ·)) : (ts.foldl (fun a t => putL t a) l).Pairwise (· < ·) := by
  induction ts generalizing l with
  | nil => exact h
  | cons t ts ih => exact ih _ (putL_rise t l h)
theorem mem_foldPutL (ts l : List Bytes) (x : Bytes) : x ∈ ts.foldl (fun a t => putL t a) l ↔ x ∈ ts ∨ x ∈ l := by
  induction ts generalizing l with
  | nil => simp
  | cons t ts ih =>
    rw [List.foldl_cons, ih, mem_putL, List.mem_cons]
    constructor
    · rintro (h | h | h)
      · exact .inl (.inr h)
      · exact .inl (.inl h)
      · exact .inr h
    · rintro ((h | h) | h)
      · exact .inr (.inl h)
      · exact .inl h
      · exact .inr (.inr h)
theorem rise_ext (a b : List Bytes) (ha : a.Pairwise (· < ·)) (hb : b.Pairwise (· < ·)) (h : ∀ x, x ∈ a ↔ x ∈ b) : a = b := by
  have na : a.Nodup := ha.imp (fun h e => by subst e; exact List.lt_irrefl _ h)
  have nb : b.Nodup := hb.imp (fun h e => by subst e; exact List.lt_irrefl _ h)
  have hp : a.Perm b := (List.perm_ext_iff_of_nodup na nb).2 h
  exact List.Perm.eq_of_pairwise (le := fun x y => x < y) (fun x y _ _ h1 h2 => absurd h2 (List.lt_asymm h1)) ha hb hp
theorem sortL_rise (l : List Bytes) (h : l.Nodup) : (sortL l).Pairwise (· < ·) := by
  have h1 : (sortL l).Pairwise (fun x y => leB x y = true) := List.pairwise_mergeSort leB_trans leB_total l
  have h2 : (sortL l).Nodup := (List.mergeSort_perm l leL).nodup_iff.2 h
  refine (h1.and h2).imp fun {x y} hxy => ?_
  have h3 : x ≤ y := by simpa [leB] using hxy.1
  rcases List.le_iff_lt_or_eq.1 h3 with h4 | h4
  · exact h4
  · exact absurd h4 hxy.2
theorem terms_eq (l : List DocL) : sortL ((ixAll l).map (·.1)) = termsL l := by
  refine rise_ext _ _ (sortL_rise _ (nodup_ixAll l)) (foldPutL_rise _ _ List.Pairwise.nil) (fun x => ?_)
  unfold termsL
  rw [mem_foldPutL]
  unfold sortL
  rw [List.mem_mergeSort, keys_ixAll]
  simp
theorem idx_eq (l : List DocL) : idxS l = idxL l := by
  unfold idxS idxL
  rw [terms_eq]
  congr 1
  refine List.map_congr_left fun t _ => ?_
  unfold entS
  rw [get_ixAll]
end Go.Proofs.YtcblmcbpnakphaaGreatDoor
end

/- (SegRd) Plain: what is read of the dictionary of right documents. No program in sight. -/
section
namespace Go.Proofs.YtcblmcbpnakphaaGreatDoor
set_option linter.unusedVariables false

/-! ### words and tokens -/
theorem chunksF_ne (n : Nat) (s : Bytes) : ∀ c ∈ chunksF n s, c.2 ≠ [] := by
  induction n generalizing s with
  | zero => simp [chunksF]
  | succ n ih =>
    rw [chunksF]
    split
    · simp
    · rename_i h
      have hs := rune1_size s h
      intro c hc
      rcases List.mem_cons.1 hc with rfl | hc
      · intro e
        have := congrArg List.length e
        rw [List.length_take, List.length_nil] at this
        omega
      · exact ih _ c hc
theorem wordsF_ne (cs : List (Int × Bytes)) (st : Option Bytes) (h : ∀ c ∈ cs, c.2 ≠ []) (hst : ∀ w, st = some w → w ≠ []) : ∀ w ∈ wordsF cs st, w ≠ [] := by
  induction cs generalizing st with
  | nil =>
    cases st with
    | none => simp [wordsF]
    | some w => intro x hx; simp [wordsF] at hx; subst hx; exact hst _ rfl
  | cons c cs ih =>
    have hc := h c (by simp)
    have hcs : ∀ c ∈ cs, c.2 ≠ [] := fun x hx => h x (by simp [hx])
    cases st with
    | none =>
      rw [wordsF]
      split
      · exact ih _ hcs (fun w e => by cases e; exact hc)
      · exact ih _ hcs (fun w e => by cases e)
    | some v =>
      rw [wordsF]
      split
      · exact ih _ hcs (fun w e => by cases e; simp [hc])
      · intro w hw
        rcases List.mem_cons.1 hw with rfl | hw
        · exact hst _ rfl
        · exact ih _ hcs (fun w e => by cases e) w hw
theorem wordsL_ne (s : Bytes) : ∀ w ∈ wordsL s, w ≠ [] := wordsF_ne _ _ (chunksF_ne _ _) (fun w e => by cases e)
theorem flat_len (l : List Bytes) (h : ∀ w ∈ l, w ≠ []) : l.length ≤ l.flatten.length := by
  induction l with
  | nil => simp
  | cons a l ih =>
    have := ih (fun w hw => h w (by simp [hw]))
    have ha := List.length_pos_iff.2 (h a (by simp))
    rw [List.flatten_cons, List.length_append, List.length_cons]; omega
theorem wordsL_count (s : Bytes) : (wordsL s).length ≤ s.length := by
  have h1 := (wordsF_len (chunks s) none).1
  have h2 := flat_len _ (wordsL_ne s)
  have h4 := chunks_bytes s.length s (Nat.le_refl _)
  rw [show chunksF s.length s = chunks s from rfl] at h4
  rw [h4] at h1
  unfold wordsL at h2 ⊢
  rw [show (none : Option Bytes).getD [] = [] from rfl, List.length_nil, Nat.zero_add] at h1
  omega
theorem foldC_ne (c : Int × Bytes) (h : c.2 ≠ []) : foldC c ≠ [] := by
  unfold foldC
  split
  · intro e
    have := congrArg List.length e
    have hp := List.length_pos_iff.2 h
    rw [List.length_take, List.length_nil] at this
    omega
  · intro e
    have := Lib.encodeRuneZ_length (runeOfL (foldL c.1))
    have e2 := congrArg List.length e
    unfold Lib.encodeRune at e2
    rw [List.length_map, List.length_nil] at e2
    omega
theorem foldedL_ne (s : Bytes) (h : s ≠ []) : foldedL s ≠ [] := by
  have hc := chunks_cons s h
  have hne : ∀ c ∈ chunks s, c.2 ≠ [] := chunksF_ne _ _
  unfold foldedL
  rw [hc] at hne ⊢
  rw [List.flatMap_cons]
  intro e
  exact foldC_ne _ (hne _ (by simp)) (List.append_eq_nil_iff.1 e).1
/-- tokens: their terms are short, their places rise -/
theorem tokensF_rise (ws : List Bytes) (k : Nat) (h : ∀ w ∈ ws, w ≠ []) : ((tokensF ws k).map (·.2)).Pairwise (· < ·) ∧ ∀ x ∈ tokensF ws k, x.1 ≠ [] ∧ x.1.length ≤ 40 ∧ k ≤ x.2 ∧ x.2 < k + ws.length := by
  induction ws generalizing k with
  | nil => simp [tokensF]
  | cons w ws ih =>
    obtain ⟨i1, i2⟩ := ih (k + 1) (fun x hx => h x (by simp [hx]))
    have hw := h w (by simp)
    rw [tokensF]
    simp only [List.length_cons]
    split
    · rename_i hc
      refine ⟨?_, fun x hx => ?_⟩
      · rw [List.map_cons, List.pairwise_cons]
        refine ⟨fun y hy => ?_, i1⟩
        obtain ⟨z, hz, rfl⟩ := List.mem_map.1 hy
        have := (i2 z hz).2.2.1
        simp only; omega
      · rcases List.mem_cons.1 hx with rfl | hx
        · exact ⟨foldedL_ne w hw, hc.1, by simp, by simp⟩
        · have := i2 x hx
          exact ⟨this.1, this.2.1, by omega, by omega⟩
    · exact ⟨i1, fun x hx => by have := i2 x hx; exact ⟨this.1, this.2.1, by omega, by omega⟩⟩
theorem tokensL_rise (s : Bytes) : ((tokensL s).map (·.2)).Pairwise (· < ·) ∧ ∀ x ∈ tokensL s, x.1 ≠ [] ∧ x.1.length ≤ 40 ∧ x.2 < s.length := by
  obtain ⟨a, b⟩ := tokensF_rise (wordsL s) 0 (wordsL_ne s)
  have := wordsL_count s
  exact ⟨a, fun x hx => ⟨(b x hx).1, (b x hx).2.1, by have := (b x hx).2.2.2; omega⟩⟩
theorem rising_of (last : Int) (l : List Int) (m : Int) (h1 : l.Pairwise (· < ·)) (h2 : ∀ x ∈ l, last < x ∧ x < m) : risingI last l m = true := by
  induction l generalizing last with
  | nil => rfl
  | cons a l ih =>
    rw [List.pairwise_cons] at h1
    have ha := h2 a (by simp)
    rw [risingI, decide_eq_true ha.1, decide_eq_true ha.2, ih a h1.2 (fun x hx => ⟨h1.1 x hx, (h2 x (by simp [hx])).2⟩)]
    rfl
theorem placesIn_rise (s t : Bytes) : (placesIn s t).Pairwise (· < ·) ∧ ∀ x ∈ placesIn s t, -1 < x ∧ x < s.length := by
  obtain ⟨a, b⟩ := tokensL_rise s
  unfold placesIn
  refine ⟨?_, fun x hx => ?_⟩
  · refine List.Pairwise.filterMap _ (fun x y hxy => ?_) (List.Pairwise.of_map (S := (· < ·)) (·.2) (fun _ _ h => h) a)
    intro p hp q hq
    split at hp
    · split at hq
      · cases hp; cases hq; omega
      · cases hq
    · cases hp
  · obtain ⟨y, hy, hx⟩ := List.mem_filterMap.1 hx
    split at hx
    · cases hx; have := (b y hy).2.2; omega
    · cases hx
theorem postsF_right (t : Bytes) (l : List DocL) (i : Nat) (hn : i + l.length ≤ 500) (hl : ∀ d ∈ l, d.2.length ≤ 2000) (last : Int) (hi : last < i) : postsRight last (postsF t l i) = true := by
  induction l generalizing i last with
  | nil => simp [postsF, postsRight]
  | cons d l ih =>
    rw [List.length_cons] at hn
    have hl' : ∀ d ∈ l, d.2.length ≤ 2000 := fun x hx => hl x (by simp [hx])
    rw [postsF]
    split
    · exact ih (i + 1) (by omega) hl' last (by omega)
    · rename_i hne
      rw [postsRight, ih (i + 1) (by omega) hl' (i : Nat) (by omega)]
      obtain ⟨a, b⟩ := placesIn_rise d.2 t
      have hd := hl d (by simp)
      rw [rising_of (-1) _ 2000 a (fun x hx => by have := b x hx; omega)]
      cases hp : placesIn d.2 t with
      | nil => exact absurd hp hne
      | cons _ _ => simp; omega
/-! ### how long -/
theorem varE_two (v : Nat) (h : v < 16384) : (varE v).length ≤ 2 := by
  unfold varE
  rw [varF]
  split
  · simp
  · rw [varF]
    split
    · simp
    · omega
theorem varE_five (v : Nat) (h : v < 34359738368) : (varE v).length ≤ 5 := by
  unfold varE
  rw [varF]; split
  · simp
  · rw [varF]; split
    · simp
    · rw [varF]; split
      · simp
      · rw [varF]; split
        · simp
        · rw [varF]; split
          · simp
          · omega
theorem varsE_two (l : List Nat) (c : Nat) (hc : ∀ v ∈ l, (varE v).length ≤ c) : (varsE l).length ≤ c * l.length := by
  induction l with
  | nil => simp [varsE]
  | cons a l ih =>
    have h1 := hc a (by simp)
    have h2 := ih (fun v hv => hc v (by simp [hv]))
    simp only [varsE, List.flatMap_cons, List.length_append, List.length_cons] at h2 ⊢
    rw [Nat.mul_add]; omega
theorem gapsL_small (at_ : Int) (l : List Int) (m : Int) (h : risingI at_ l m = true) (h0 : -1 ≤ at_) (hm : m ≤ 2000) : ∀ v ∈ gapsL at_ l, v < 16384 := by
  induction l generalizing at_ with
  | nil => simp [gapsL]
  | cons a l ih =>
    rw [risingI] at h
    simp only [Bool.and_eq_true, decide_eq_true_eq] at h
    intro v hv
    rw [gapsL] at hv
    rcases List.mem_cons.1 hv with rfl | hv
    · omega
    · exact ih a h.2 (by omega) v hv
theorem oneE_two (p : PostL) (last : Int) (h0 : -1 ≤ last) (h1 : p.1 < 500) (h2 : risingI (-1) p.2 2000 = true) (h3 : p.2.length ≤ 2000) : (oneE p last).length ≤ 4004 := by
  have := varsE_two ((p.1 - last).toNat :: p.2.length :: gapsL (-1) p.2) 2 (fun v hv => by
    refine varE_two v ?_
    rcases List.mem_cons.1 hv with rfl | hv
    · omega
    · rcases List.mem_cons.1 hv with rfl | hv
      · omega
      · exact gapsL_small _ _ _ h2 (by omega) (by omega) v hv)
  rw [List.length_cons, List.length_cons, gapsL_length] at this
  unfold oneE
  omega
theorem bodyF_two (last : Int) (l : List PostL) (h0 : -1 ≤ last) (h : postsRight last l = true) (hl : last < 500) : (bodyF last l).length ≤ 4004 * l.length := by
  induction l generalizing last with
  | nil => simp [bodyF]
  | cons p l ih =>
    obtain ⟨a, b, c, d, e⟩ := postsRight_cons h
    have h1 := oneE_two p last h0 b d (by have := risingI_len (-1) p.2 2000 d (by omega); omega)
    have h2 := ih p.1 (by omega) e b
    rw [bodyF, List.length_append, List.length_cons, Nat.mul_add]
    omega
theorem skipsTo_small (l : List PostL) (h : postsRight (-1) l = true) (m : Nat) : ∀ v ∈ skipsTo l m, v < 34359738368 := by
  have hb := (posts_small l h).2.2
  induction m with
  | zero => simp [skipsTo]
  | succ m ih =>
    intro v hv
    rw [skipsTo] at hv
    have h1 := dAt_bounds l h (8 * (m + 1))
    have h2 := dAt_bounds l h (8 * m)
    have h3 := sAt_le l (8 * (m + 1))
    rcases List.mem_append.1 hv with hv | hv
    · exact ih v hv
    · simp only [List.mem_cons, List.not_mem_nil, or_false] at hv
      rcases hv with rfl | rfl
      · omega
      · omega
theorem postsE_len (l : List PostL) (h : postsRight (-1) l = true) : (postsE l).length ≤ 2100000 := by
  have h1 := posts_small l h
  have h2 := varE_len l.length
  have h3 := varsE_two (skipsTo l ((l.length - 1) / 8)) 5 (fun v hv => varE_five v (skipsTo_small l h _ v hv))
  rw [skipsTo_length] at h3
  have h4 := bodyF_two (-1) l (by omega) h (by omega)
  rw [postsE_parts, List.length_append, List.length_append]
  omega
theorem packL_right (l : List PostL) (h : postsRight (-1) l = true) : packL l = postsE l := by unfold packL; rw [if_pos h]
/-! ### the dictionary of documents -/
theorem termsL_rise (l : List DocL) : (termsL l).Pairwise (· < ·) := foldPutL_rise _ _ List.Pairwise.nil
theorem mem_termsL (l : List DocL) (t : Bytes) : t ∈ termsL l ↔ t ∈ l.flatMap fun d => (tokensL d.2).map (·.1) := by
  unfold termsL; rw [mem_foldPutL]; simp
theorem mem_termsL_posts (l : List DocL) (t : Bytes) : t ∈ termsL l ↔ postsF t l 0 ≠ [] := by rw [mem_termsL, ← posts_some t l 0]
theorem termsL_term (l : List DocL) : ∀ t ∈ termsL l, [] < t ∧ t.length ≤ 40 := by
  intro t ht
  rw [mem_termsL] at ht
  obtain ⟨d, hd, ht⟩ := List.mem_flatMap.1 ht
  obtain ⟨x, hx, rfl⟩ := List.mem_map.1 ht
  have := (tokensL_rise d.2).2 x hx
  refine ⟨?_, this.2.1⟩
  cases hx1 : x.1 with
  | nil => exact absurd hx1 this.1
  | cons a b => simp
theorem putL_len (t : Bytes) (l : List Bytes) : (putL t l).length ≤ l.length + 1 := by
  induction l with
  | nil => simp [putL]
  | cons x l ih =>
    rw [putL]
    split
    · simp
    · split
      · simp
      · rw [List.length_cons, List.length_cons]; omega
theorem foldPutL_len (ts l : List Bytes) : (ts.foldl (fun a t => putL t a) l).length ≤ l.length + ts.length := by
  induction ts generalizing l with
  | nil => simp
  | cons t ts ih =>
    have := ih (putL t l)
    have := putL_len t l
    rw [List.foldl_cons, List.length_cons]; omega
theorem tokens_all (l : List DocL) (hl : ∀ d ∈ l, d.2.length ≤ 2000) : (l.flatMap fun d => (tokensL d.2).map (·.1)).length ≤ 2000 * l.length := by
  induction l with
  | nil => simp
  | cons d l ih =>
    have h1 := ih (fun x hx => hl x (by simp [hx]))
    have h2 := tokensF_len (wordsL d.2) 0
    have h3 := wordsL_count d.2
    have h4 := hl d (by simp)
    rw [List.flatMap_cons, List.length_append, List.length_map, List.length_cons, Nat.mul_add]
    have : (tokensL d.2).length ≤ 2000 := by unfold tokensL; omega
    omega
theorem termsL_len (l : List DocL) (hn : l.length ≤ 500) (hl : ∀ d ∈ l, d.2.length ≤ 2000) : (termsL l).length ≤ 1000000 := by
  have h1 := tokens_all l hl
  have h2 := foldPutL_len (l.flatMap fun d => (tokensL d.2).map (·.1)) []
  unfold termsL
  rw [List.length_nil] at h2
  omega
/-- the dictionary's entries -/
def entsL (l : List DocL) : List EntryL := (termsL l).map fun t => (t, packL (postsF t l 0))
theorem entsL_fst (l : List DocL) : (entsL l).map (·.1) = termsL l := by unfold entsL; rw [List.map_map]; exact (List.map_congr_left (fun _ _ => rfl)).trans (List.map_id _)
theorem entsL_right (l : List DocL) (hn : l.length ≤ 500) (hl : ∀ d ∈ l, d.2.length ≤ 2000) : entriesRight [] (entsL l) = true := by
  refine entriesRight_of _ _ (by rw [entsL_fst]; exact termsL_rise l) (fun e he => ?_)
  obtain ⟨t, ht, rfl⟩ := List.mem_map.1 he
  have h1 := termsL_term l t ht
  have h2 := postsF_right t l 0 (by omega) hl (-1) (by omega)
  refine ⟨h1.1, h1.2, ?_⟩
  have := postsE_len _ h2
  simp only [packL_right _ h2]
  omega
theorem idx_dict (l : List DocL) (hn : l.length ≤ 500) (hl : ∀ d ∈ l, d.2.length ≤ 2000) : idxS l = dictE (entsL l) := by
  have h := termsL_len l hn hl
  have hln : (entsL l).length ≤ 1048576 := by unfold entsL; rw [List.length_map]; omega
  rw [idx_eq]
  unfold idxL dictL
  rw [show (termsL l).map (fun t => (t, packL (postsF t l 0))) = entsL l from rfl, entsL_right l hn hl, decide_eq_true hln]
  rfl
theorem entsL_find (l : List DocL) (t : Bytes) : findE (entsL l) t = if t ∈ termsL l then some (packL (postsF t l 0)) else none := by
  unfold entsL findE
  generalize hx : termsL l = ts
  clear hx
  induction ts with
  | nil => rfl
  | cons a ts ih =>
    rw [List.map_cons, List.find?_cons]
    by_cases h : a = t
    · subst h; simp
    · have h2 : (a == t) = false := by simpa using h
      simp only [h2]
      rw [ih]
      simp only [List.mem_cons, Ne.symm h, false_or]
theorem entsL_prefix (l : List DocL) (p : Bytes) : ((entsL l).filter (fun e => p.isPrefixOf e.1)).map (·.1) = (termsL l).filter (fun t => p.isPrefixOf t) := by
  unfold entsL
  rw [List.filter_map, List.map_map]
  exact (List.map_congr_left (fun _ _ => rfl)).trans (List.map_id _)
end Go.Proofs.YtcblmcbpnakphaaGreatDoor
end
