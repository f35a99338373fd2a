/- Joined texts of one proof: PostRd, SegRd, AppSl. -/
import Derived.Test.YtoabhcfmdkhmgaaGreatDoorPTokToWDictR
import Derived.Test.YtoabhcfmdkhmgaaGreatDoorPLessToWPostA
import Derived.Test.YtoabhcfmdkhmgaaGreatDoorPIxWToIdxEq
import Derived.Test.YtoabhcfmdkhmgaaGreatDoorPKitToSegSpec
import Derived.Test.YtoabhcfmdkhmgaaGreatDoorPMem3ToBld
import Derived.Maps.AppendAt
import Derived.Deep.AppendLies
import Derived.Lib.AppendZeros
set_option linter.unusedSimpArgs false
set_option linter.unusedVariables false
set_option linter.unnecessarySimpa false
/- (PostRd) Plain: postings read again (postings.From). No program in sight. -/
section
namespace Go.Proofs.YtoabhcfmdkhmgaaGreatDoor
set_option linter.unusedVariables false

/-- the bytes of postings behind a document -/
def bodyF : Int → List PostL → Bytes
  | _, [] => []
  | last, p :: l => oneE p last ++ bodyF p.1 l
/-- the last document of postings behind a document -/
def endF : Int → List PostL → Int
  | last, [] => last
  | _, p :: l => endF p.1 l
theorem endF_append (last : Int) (a b : List PostL) : endF last (a ++ b) = endF (endF last a) b := by
  induction a generalizing last with
  | nil => rfl
  | cons p a ih => exact ih p.1
theorem bodyF_append (last : Int) (a b : List PostL) : bodyF last (a ++ b) = bodyF last a ++ bodyF (endF last a) b := by
  induction a generalizing last with
  | nil => rfl
  | cons p a ih => rw [List.cons_append, bodyF, bodyF, ih, endF, List.append_assoc]
def dAt (l : List PostL) (k : Nat) : Int := endF (-1) (l.take k)
def sAt (l : List PostL) (k : Nat) : Nat := (bodyF (-1) (l.take k)).length
def skipsTo (l : List PostL) : Nat → List Nat
  | 0 => []
  | m + 1 => skipsTo l m ++ [(dAt l (8 * (m + 1)) - dAt l (8 * m)).toNat, sAt l (8 * (m + 1)) - sAt l (8 * m)]
theorem skipsTo_length (l : List PostL) (m : Nat) : (skipsTo l m).length = 2 * m := by
  induction m with
  | zero => rfl
  | succ m ih => rw [skipsTo, List.length_append, ih]; simp; omega
theorem skipsTo_drop (l : List PostL) (m M : Nat) (h : m < M) : (skipsTo l M).drop (2 * m) = (dAt l (8 * (m + 1)) - dAt l (8 * m)).toNat :: (sAt l (8 * (m + 1)) - sAt l (8 * m)) :: (skipsTo l M).drop (2 * (m + 1)) := by
  induction M with
  | zero => omega
  | succ M ih =>
    have hl := skipsTo_length l M
    rw [skipsTo]
    by_cases e : m = M
    · subst e
      rw [List.drop_append_of_le_length (by omega), List.drop_eq_nil_of_le (by omega), List.drop_eq_nil_of_le (by simp; omega)]
      rfl
    · rw [List.drop_append_of_le_length (by omega), List.drop_append_of_le_length (by omega), ih (by omega)]
      rfl
def stAt (l : List PostL) (k : Nat) : PackSt :=
  { skips := skipsTo l ((k - 1) / 8), body := bodyF (-1) (l.take k), last := dAt l (8 * ((k - 1) / 8)), doc := dAt l k, from_ := sAt l (8 * ((k - 1) / 8)) }
theorem stAt_step (l : List PostL) (k : Nat) (h : k < l.length) : packStep (stAt l k) k l[k] = stAt l (k + 1) := by
  have hb : bodyF (-1) (l.take (k + 1)) = bodyF (-1) (l.take k) ++ oneE l[k] (dAt l k) := by
    rw [List.take_succ_eq_append_getElem h, bodyF_append]
    simp [bodyF, dAt]
  have hd : dAt l (k + 1) = l[k].1 := by
    unfold dAt
    rw [List.take_succ_eq_append_getElem h, endF_append]; rfl
  unfold packStep
  by_cases hk : 0 < k ∧ k % 8 = 0
  · rw [if_pos hk]
    unfold stAt
    simp only [hb, hd]
    rw [show k + 1 - 1 = k by omega, show k / 8 = (k - 1) / 8 + 1 by omega, show 8 * ((k - 1) / 8 + 1) = k by omega, skipsTo, show 8 * ((k - 1) / 8 + 1) = k by omega]
    rfl
  · rw [if_neg hk]
    unfold stAt
    simp only [hb, hd]
    rw [show k + 1 - 1 = k by omega, show k / 8 = (k - 1) / 8 by omega]
theorem packF_at (l : List PostL) (k : Nat) (h : k ≤ l.length) : packF (stAt l k) k (l.drop k) = stAt l l.length := by
  obtain ⟨n, hn⟩ : ∃ n, n = l.length - k := ⟨_, rfl⟩
  induction n generalizing k with
  | zero => rw [show k = l.length by omega, List.drop_length]; rfl
  | succ n ih =>
    rw [List.drop_eq_getElem_cons (by omega), packF, stAt_step l k (by omega)]
    exact ih (k + 1) (by omega) (by omega)
theorem postsE_parts (l : List PostL) : postsE l = varE l.length ++ (varsE (skipsTo l ((l.length - 1) / 8)) ++ bodyF (-1) l) := by
  have h := packF_at l 0 (by omega)
  rw [List.drop_zero, show stAt l 0 = ⟨[], [], -1, -1, 0⟩ by simp [stAt, skipsTo, dAt, sAt, bodyF, endF]] at h
  unfold postsE
  rw [h]
  simp only [stAt, List.take_length]
/-! ### right postings -/
theorem risingI_len (last : Int) (l : List Int) (m : Int) (h : risingI last l m = true) (hm : last < m) : (l.length : Int) ≤ m - 1 - last ∧ ∀ x ∈ l, last < x ∧ x < m := by
  induction l generalizing last with
  | nil => simp; omega
  | cons a l ih =>
    rw [risingI] at h
    simp only [Bool.and_eq_true, decide_eq_true_eq] at h
    obtain ⟨i1, i2⟩ := ih a h.2 h.1.2
    refine ⟨by simp; omega, fun x hx => ?_⟩
    rcases List.mem_cons.1 hx with rfl | hx
    · exact h.1
    · have := i2 x hx; omega
theorem postsRight_cons {last : Int} {p : PostL} {l : List PostL} (h : postsRight last (p :: l) = true) : last < p.1 ∧ p.1 < 500 ∧ p.2 ≠ [] ∧ risingI (-1) p.2 2000 = true ∧ postsRight p.1 l = true := by
  rw [postsRight] at h
  simp only [Bool.and_eq_true, decide_eq_true_eq, Bool.not_eq_true', List.isEmpty_eq_false_iff] at h
  obtain ⟨⟨⟨⟨a, b⟩, c⟩, d⟩, e⟩ := h
  exact ⟨a, b, c, d, e⟩
theorem postsRd_len (last : Int) (l : List PostL) (h : postsRight last l = true) (hl : last < 500) : (l.length : Int) ≤ 499 - last ∧ ∀ p ∈ l, last < p.1 ∧ p.1 < 500 ∧ p.2 ≠ [] ∧ risingI (-1) p.2 2000 = true := by
  induction l generalizing last with
  | nil => simp; omega
  | cons p l ih =>
    obtain ⟨a, b, c, d, e⟩ := postsRight_cons h
    obtain ⟨i1, i2⟩ := ih p.1 e b
    refine ⟨by simp; omega, fun x hx => ?_⟩
    rcases List.mem_cons.1 hx with rfl | hx
    · exact ⟨a, b, c, d⟩
    · have := i2 x hx
      exact ⟨by omega, this.2⟩
theorem postsRight_drop (last : Int) (l : List PostL) (k : Nat) (h : postsRight last l = true) : postsRight (endF last (l.take k)) (l.drop k) = true := by
  induction l generalizing last k with
  | nil => simp [postsRight]
  | cons p l ih =>
    cases k with
    | zero => simpa [endF] using h
    | succ k =>
      obtain ⟨_, _, _, _, e⟩ := postsRight_cons h
      rw [List.take_succ_cons, List.drop_succ_cons, endF]
      exact ih p.1 k e
theorem postsRight_end (last : Int) (l : List PostL) (h : postsRight last l = true) (hl : last < 500) : last ≤ endF last l ∧ endF last l < 500 ∧ ∀ p ∈ l, p.1 ≤ endF last l := by
  induction l generalizing last with
  | nil => simp [endF]; omega
  | cons p l ih =>
    obtain ⟨a, b, _, _, e⟩ := postsRight_cons h
    obtain ⟨i1, i2, i3⟩ := ih p.1 e b
    rw [endF]
    refine ⟨by omega, i2, fun x hx => ?_⟩
    rcases List.mem_cons.1 hx with rfl | hx
    · exact i1
    · exact i3 x hx
theorem postsRight_take (last : Int) (l : List PostL) (k : Nat) (h : postsRight last l = true) : postsRight last (l.take k) = true := by
  induction l generalizing last k with
  | nil => simp [postsRight]
  | cons p l ih =>
    cases k with
    | zero => simp [postsRight]
    | succ k =>
      obtain ⟨a, b, c, d, e⟩ := postsRight_cons h
      rw [List.take_succ_cons, postsRight, ih p.1 k e, d, decide_eq_true a, decide_eq_true b]
      cases hp : p.2 with
      | nil => exact absurd hp c
      | cons _ _ => rfl
theorem dAt_bounds (l : List PostL) (h : postsRight (-1) l = true) (k : Nat) : -1 ≤ dAt l k ∧ dAt l k < 500 ∧ ∀ p ∈ l.take k, p.1 ≤ dAt l k := postsRight_end (-1) (l.take k) (postsRight_take _ l k h) (by omega)
theorem dAt_mono (l : List PostL) (h : postsRight (-1) l = true) (j k : Nat) (hjk : j ≤ k) : dAt l j ≤ dAt l k := by
  unfold dAt
  rw [show l.take k = l.take j ++ (l.drop j).take (k - j) by
    rw [← List.take_add, Nat.add_sub_cancel' hjk], endF_append]
  have h1 := postsRight_drop (-1) l j h
  have h2 := (dAt_bounds l h j).2.1
  exact (postsRight_end _ _ (postsRight_take _ _ (k - j) h1) h2).1
theorem gapsL_length (at_ : Int) (l : List Int) : (gapsL at_ l).length = l.length := by
  induction l generalizing at_ with
  | nil => rfl
  | cons a l ih => simp [gapsL, ih]
theorem oneRd_len (p : PostL) (last : Int) : (oneE p last).length ≤ 10 * (p.2.length + 2) := by
  have := varsE_len ((p.1 - last).toNat :: p.2.length :: gapsL (-1) p.2)
  rw [List.length_cons, List.length_cons, gapsL_length] at this
  exact this
theorem bodyF_len (last : Int) (l : List PostL) (h : ∀ p ∈ l, p.2.length ≤ 2000) : (bodyF last l).length ≤ l.length * 20020 := by
  induction l generalizing last with
  | nil => simp [bodyF]
  | cons p l ih =>
    rw [bodyF, List.length_append, List.length_cons, Nat.add_mul]
    have h1 := oneRd_len p last
    have h2 := h p (by simp)
    have h3 := ih p.1 (fun x hx => h x (by simp [hx]))
    omega
theorem posts_small (l : List PostL) (h : postsRight (-1) l = true) : l.length ≤ 500 ∧ (∀ p ∈ l, p.2.length ≤ 2000 ∧ p.2 ≠ [] ∧ -1 < p.1 ∧ p.1 < 500 ∧ risingI (-1) p.2 2000 = true) ∧ (bodyF (-1) l).length ≤ 10010000 := by
  obtain ⟨a, b⟩ := postsRd_len (-1) l h (by omega)
  have hp : ∀ p ∈ l, p.2.length ≤ 2000 := fun p hp => by
    have := risingI_len (-1) p.2 2000 (b p hp).2.2.2 (by omega)
    omega
  refine ⟨by omega, fun p hp' => ⟨hp p hp', (b p hp').2.2.1, (b p hp').1, (b p hp').2.1, (b p hp').2.2.2⟩, ?_⟩
  have := bodyF_len (-1) l hp
  have h5 : l.length * 20020 ≤ 500 * 20020 := Nat.mul_le_mul_right _ (by omega)
  omega
theorem sAt_mono (l : List PostL) (j k : Nat) (h : j ≤ k) : sAt l j ≤ sAt l k := by
  unfold sAt
  rw [show l.take k = l.take j ++ (l.drop j).take (k - j) by
    rw [← List.take_add, Nat.add_sub_cancel' h], bodyF_append]
  simp
theorem sAt_le (l : List PostL) (j : Nat) : sAt l j ≤ (bodyF (-1) l).length := by
  unfold sAt
  conv => rhs; rw [← List.take_append_drop j l, bodyF_append]
  simp
/-- behind the groups that are skipped: the bytes of those that are left -/
theorem body_drop (l : List PostL) (j : Nat) : (bodyF (-1) l).drop (sAt l j) = bodyF (dAt l j) (l.drop j) := by
  conv => lhs; rw [← List.take_append_drop j l, bodyF_append]
  unfold sAt dAt
  rw [List.take_append_drop]
  simp
def fromP (l : List PostL) (doc : Int) : List PostL := l.filter fun p => decide (doc ≤ p.1)
theorem fromP_drop (l : List PostL) (h : postsRight (-1) l = true) (j : Nat) (doc : Int) (hd : j = 0 ∨ dAt l j < doc) : fromP (l.drop j) doc = fromP l doc := by
  conv => rhs; rw [← List.take_append_drop j l]
  unfold fromP
  rw [List.filter_append]
  have : (l.take j).filter (fun p => decide (doc ≤ p.1)) = [] := by
    rw [List.filter_eq_nil_iff]
    intro p hp
    rcases hd with rfl | hd
    · simp at hp
    · have := (dAt_bounds l h j).2.2 p hp
      simp; omega
  rw [this, List.nil_append]
theorem fromP_take (L : List PostL) (doc : Int) (k : Nat) (hk : k < L.length) : fromP (L.take (k + 1)) doc = fromP (L.take k) doc ++ (if doc ≤ L[k].1 then [L[k]] else []) := by
  unfold fromP
  rw [List.take_succ_eq_append_getElem hk, List.filter_append]
  congr 1
  by_cases h : doc ≤ L[k].1
  · rw [if_pos h]; simp [h]
  · rw [if_neg h]; simp [h]
theorem fromP_at (L : List PostL) (doc : Int) (k : Nat) (hk : k < L.length) (h : doc ≤ L[k].1) : ∃ hi : (fromP (L.take k) doc).length < (fromP L doc).length, (fromP L doc)[(fromP (L.take k) doc).length] = L[k] := by
  have e : fromP L doc = fromP (L.take k) doc ++ (L[k] :: fromP (L.drop (k + 1)) doc) := by
    conv => lhs; rw [← List.take_append_drop k L]
    unfold fromP
    rw [List.filter_append, List.drop_eq_getElem_cons hk, List.filter_cons, if_pos (by simpa using h)]
  refine ⟨by rw [e, List.length_append, List.length_cons]; omega, ?_⟩
  have : (fromP L doc)[(fromP (L.take k) doc).length]? = some L[k] := by
    rw [e, List.getElem?_append_right (by omega), Nat.sub_self]; rfl
  exact (List.getElem?_eq_some_iff.1 this).2
theorem fromP_le (L : List PostL) (doc : Int) (k : Nat) : (fromP (L.take k) doc).length ≤ (fromP L doc).length := by
  have : fromP L doc = fromP (L.take k) doc ++ fromP (L.drop k) doc := by
    conv => lhs; rw [← List.take_append_drop k L]
    unfold fromP
    rw [List.filter_append]
  rw [this, List.length_append]; omega
end Go.Proofs.YtoabhcfmdkhmgaaGreatDoor
end

/- (SegRd) Plain: what is read of the dictionary of right documents. No program in sight. -/
section
namespace Go.Proofs.YtoabhcfmdkhmgaaGreatDoor
set_option linter.unusedVariables false

/-! ### words and tokens -/
theorem chunksF_ne (n : Nat) (s : Bytes) : ∀ c ∈ chunksF n s, c.2 ≠ [] := by
  induction n generalizing s with
  | zero => simp [chunksF]
  | succ n ih =>
    rw [chunksF]
    split
    · simp
    · rename_i h
      have hs := rune1_size s h
      intro c hc
      rcases List.mem_cons.1 hc with rfl | hc
      · intro e
        have := congrArg List.length e
        rw [List.length_take, List.length_nil] at this
        omega
      · exact ih _ c hc
theorem wordsF_ne (cs : List (Int × Bytes)) (st : Option Bytes) (h : ∀ c ∈ cs, c.2 ≠ []) (hst : ∀ w, st = some w → w ≠ []) : ∀ w ∈ wordsF cs st, w ≠ [] := by
  induction cs generalizing st with
  | nil =>
    cases st with
    | none => simp [wordsF]
    | some w => intro x hx; simp [wordsF] at hx; subst hx; exact hst _ rfl
  | cons c cs ih =>
    have hc := h c (by simp)
    have hcs : ∀ c ∈ cs, c.2 ≠ [] := fun x hx => h x (by simp [hx])
    cases st with
    | none =>
      rw [wordsF]
      split
      · exact ih _ hcs (fun w e => by cases e; exact hc)
      · exact ih _ hcs (fun w e => by cases e)
    | some v =>
      rw [wordsF]
      split
      · exact ih _ hcs (fun w e => by cases e; simp [hc])
      · intro w hw
        rcases List.mem_cons.1 hw with rfl | hw
        · exact hst _ rfl
        · exact ih _ hcs (fun w e => by cases e) w hw
theorem wordsL_ne (s : Bytes) : ∀ w ∈ wordsL s, w ≠ [] := wordsF_ne _ _ (chunksF_ne _ _) (fun w e => by cases e)
theorem flat_len (l : List Bytes) (h : ∀ w ∈ l, w ≠ []) : l.length ≤ l.flatten.length := by
  induction l with
  | nil => simp
  | cons a l ih =>
    have := ih (fun w hw => h w (by simp [hw]))
    have ha := List.length_pos_iff.2 (h a (by simp))
    rw [List.flatten_cons, List.length_append, List.length_cons]; omega
theorem wordsL_count (s : Bytes) : (wordsL s).length ≤ s.length := by
  have h1 := (wordsF_len (chunks s) none).1
  have h2 := flat_len _ (wordsL_ne s)
  have h4 := chunks_bytes s.length s (Nat.le_refl _)
  rw [show chunksF s.length s = chunks s from rfl] at h4
  rw [h4] at h1
  unfold wordsL at h2 ⊢
  rw [show (none : Option Bytes).getD [] = [] from rfl, List.length_nil, Nat.zero_add] at h1
  omega
theorem foldC_ne (c : Int × Bytes) (h : c.2 ≠ []) : foldC c ≠ [] := by
  unfold foldC
  split
  · intro e
    have := congrArg List.length e
    have hp := List.length_pos_iff.2 h
    rw [List.length_take, List.length_nil] at this
    omega
  · intro e
    have := Lib.encodeRuneZ_length (runeOfL (foldL c.1))
    have e2 := congrArg List.length e
    unfold Lib.encodeRune at e2
    rw [List.length_map, List.length_nil] at e2
    omega
theorem foldedL_ne (s : Bytes) (h : s ≠ []) : foldedL s ≠ [] := by
  have hc := chunks_cons s h
  have hne : ∀ c ∈ chunks s, c.2 ≠ [] := chunksF_ne _ _
  unfold foldedL
  rw [hc] at hne ⊢
  rw [List.flatMap_cons]
  intro e
  exact foldC_ne _ (hne _ (by simp)) (List.append_eq_nil_iff.1 e).1
/-- tokens: their terms are short, their places rise -/
theorem tokensF_rise (ws : List Bytes) (k : Nat) (h : ∀ w ∈ ws, w ≠ []) : ((tokensF ws k).map (·.2)).Pairwise (· < ·) ∧ ∀ x ∈ tokensF ws k, x.1 ≠ [] ∧ x.1.length ≤ 40 ∧ k ≤ x.2 ∧ x.2 < k + ws.length := by
  induction ws generalizing k with
  | nil => simp [tokensF]
  | cons w ws ih =>
    obtain ⟨i1, i2⟩ := ih (k + 1) (fun x hx => h x (by simp [hx]))
    have hw := h w (by simp)
    rw [tokensF]
    simp only [List.length_cons]
    split
    · rename_i hc
      refine ⟨?_, fun x hx => ?_⟩
      · rw [List.map_cons, List.pairwise_cons]
        refine ⟨fun y hy => ?_, i1⟩
        obtain ⟨z, hz, rfl⟩ := List.mem_map.1 hy
        have := (i2 z hz).2.2.1
        simp only; omega
      · rcases List.mem_cons.1 hx with rfl | hx
        · exact ⟨foldedL_ne w hw, hc.1, by simp, by simp⟩
        · have := i2 x hx
          exact ⟨this.1, this.2.1, by omega, by omega⟩
    · exact ⟨i1, fun x hx => by have := i2 x hx; exact ⟨this.1, this.2.1, by omega, by omega⟩⟩
theorem tokensL_rise (s : Bytes) : ((tokensL s).map (·.2)).Pairwise (· < ·) ∧ ∀ x ∈ tokensL s, x.1 ≠ [] ∧ x.1.length ≤ 40 ∧ x.2 < s.length := by
  obtain ⟨a, b⟩ := tokensF_rise (wordsL s) 0 (wordsL_ne s)
  have := wordsL_count s
  exact ⟨a, fun x hx => ⟨(b x hx).1, (b x hx).2.1, by have := (b x hx).2.2.2; omega⟩⟩
theorem rising_of (last : Int) (l : List Int) (m : Int) (h1 : l.Pairwise (· < ·)) (h2 : ∀ x ∈ l, last < x ∧ x < m) : risingI last l m = true := by
  induction l generalizing last with
  | nil => rfl
  | cons a l ih =>
    rw [List.pairwise_cons] at h1
    have ha := h2 a (by simp)
    rw [risingI, decide_eq_true ha.1, decide_eq_true ha.2, ih a h1.2 (fun x hx => ⟨h1.1 x hx, (h2 x (by simp [hx])).2⟩)]
    rfl
theorem placesIn_rise (s t : Bytes) : (placesIn s t).Pairwise (· < ·) ∧ ∀ x ∈ placesIn s t, -1 < x ∧ x < s.length := by
  obtain ⟨a, b⟩ := tokensL_rise s
  unfold placesIn
  refine ⟨?_, fun x hx => ?_⟩
  · refine List.Pairwise.filterMap _ (fun x y hxy => ?_) (List.Pairwise.of_map (S := (· < ·)) (·.2) (fun _ _ h => h) a)
    intro p hp q hq
    split at hp
    · split at hq
      · cases hp; cases hq; omega
      · cases hq
    · cases hp
  · obtain ⟨y, hy, hx⟩ := List.mem_filterMap.1 hx
    split at hx
    · cases hx; have := (b y hy).2.2; omega
    · cases hx
theorem postsF_right (t : Bytes) (l : List DocL) (i : Nat) (hn : i + l.length ≤ 500) (hl : ∀ d ∈ l, d.2.length ≤ 2000) (last : Int) (hi : last < i) : postsRight last (postsF t l i) = true := by
  induction l generalizing i last with
  | nil => simp [postsF, postsRight]
  | cons d l ih =>
    rw [List.length_cons] at hn
    have hl' : ∀ d ∈ l, d.2.length ≤ 2000 := fun x hx => hl x (by simp [hx])
    rw [postsF]
    split
    · exact ih (i + 1) (by omega) hl' last (by omega)
    · rename_i hne
      rw [postsRight, ih (i + 1) (by omega) hl' (i : Nat) (by omega)]
      obtain ⟨a, b⟩ := placesIn_rise d.2 t
      have hd := hl d (by simp)
      rw [rising_of (-1) _ 2000 a (fun x hx => by have := b x hx; omega)]
      cases hp : placesIn d.2 t with
      | nil => exact absurd hp hne
      | cons _ _ => simp; omega
/-! ### how long -/
theorem varE_two (v : Nat) (h : v < 16384) : (varE v).length ≤ 2 := by
  unfold varE
  rw [varF]
  split
  · simp
  · rw [varF]
    split
    · simp
    · omega
theorem varE_five (v : Nat) (h : v < 34359738368) : (varE v).length ≤ 5 := by
  unfold varE
  rw [varF]; split
  · simp
  · rw [varF]; split
    · simp
    · rw [varF]; split
      · simp
      · rw [varF]; split
        · simp
        · rw [varF]; split
          · simp
          · omega
theorem varsE_two (l : List Nat) (c : Nat) (hc : ∀ v ∈ l, (varE v).length ≤ c) : (varsE l).length ≤ c * l.length := by
  induction l with
  | nil => simp [varsE]
  | cons a l ih =>
    have h1 := hc a (by simp)
    have h2 := ih (fun v hv => hc v (by simp [hv]))
    simp only [varsE, List.flatMap_cons, List.length_append, List.length_cons] at h2 ⊢
    rw [Nat.mul_add]; omega
theorem gapsL_small (at_ : Int) (l : List Int) (m : Int) (h : risingI at_ l m = true) (h0 : -1 ≤ at_) (hm : m ≤ 2000) : ∀ v ∈ gapsL at_ l, v < 16384 := by
  induction l generalizing at_ with
  | nil => simp [gapsL]
  | cons a l ih =>
    rw [risingI] at h
    simp only [Bool.and_eq_true, decide_eq_true_eq] at h
    intro v hv
    rw [gapsL] at hv
    rcases List.mem_cons.1 hv with rfl | hv
    · omega
    · exact ih a h.2 (by omega) v hv
theorem oneE_two (p : PostL) (last : Int) (h0 : -1 ≤ last) (h1 : p.1 < 500) (h2 : risingI (-1) p.2 2000 = true) (h3 : p.2.length ≤ 2000) : (oneE p last).length ≤ 4004 := by
  have := varsE_two ((p.1 - last).toNat :: p.2.length :: gapsL (-1) p.2) 2 (fun v hv => by
    refine varE_two v ?_
    rcases List.mem_cons.1 hv with rfl | hv
    · omega
    · rcases List.mem_cons.1 hv with rfl | hv
      · omega
      · exact gapsL_small _ _ _ h2 (by omega) (by omega) v hv)
  rw [List.length_cons, List.length_cons, gapsL_length] at this
  unfold oneE
  omega
theorem bodyF_two (last : Int) (l : List PostL) (h0 : -1 ≤ last) (h : postsRight last l = true) (hl : last < 500) : (bodyF last l).length ≤ 4004 * l.length := by
  induction l generalizing last with
  | nil => simp [bodyF]
  | cons p l ih =>
    obtain ⟨a, b, c, d, e⟩ := postsRight_cons h
    have h1 := oneE_two p last h0 b d (by have := risingI_len (-1) p.2 2000 d (by omega); omega)
    have h2 := ih p.1 (by omega) e b
    rw [bodyF, List.length_append, List.length_cons, Nat.mul_add]
    omega
theorem skipsTo_small (l : List PostL) (h : postsRight (-1) l = true) (m : Nat) : ∀ v ∈ skipsTo l m, v < 34359738368 := by
  have hb := (posts_small l h).2.2
  induction m with
  | zero => simp [skipsTo]
  | succ m ih =>
    intro v hv
    rw [skipsTo] at hv
    have h1 := dAt_bounds l h (8 * (m + 1))
    have h2 := dAt_bounds l h (8 * m)
    have h3 := sAt_le l (8 * (m + 1))
    rcases List.mem_append.1 hv with hv | hv
    · exact ih v hv
    · simp only [List.mem_cons, List.not_mem_nil, or_false] at hv
      rcases hv with rfl | rfl
      · omega
      · omega
theorem postsE_len (l : List PostL) (h : postsRight (-1) l = true) : (postsE l).length ≤ 2100000 := by
  have h1 := posts_small l h
  have h2 := varE_len l.length
  have h3 := varsE_two (skipsTo l ((l.length - 1) / 8)) 5 (fun v hv => varE_five v (skipsTo_small l h _ v hv))
  rw [skipsTo_length] at h3
  have h4 := bodyF_two (-1) l (by omega) h (by omega)
  rw [postsE_parts, List.length_append, List.length_append]
  omega
theorem packL_right (l : List PostL) (h : postsRight (-1) l = true) : packL l = postsE l := by unfold packL; rw [if_pos h]
/-! ### the dictionary of documents -/
theorem termsL_rise (l : List DocL) : (termsL l).Pairwise (· < ·) := foldPutL_rise _ _ List.Pairwise.nil
theorem mem_termsL (l : List DocL) (t : Bytes) : t ∈ termsL l ↔ t ∈ l.flatMap fun d => (tokensL d.2).map (·.1) := by
  unfold termsL; rw [mem_foldPutL]; simp
theorem mem_termsL_posts (l : List DocL) (t : Bytes) : t ∈ termsL l ↔ postsF t l 0 ≠ [] := by rw [mem_termsL, ← posts_some t l 0]
theorem termsL_term (l : List DocL) : ∀ t ∈ termsL l, [] < t ∧ t.length ≤ 40 := by
  intro t ht
  rw [mem_termsL] at ht
  obtain ⟨d, hd, ht⟩ := List.mem_flatMap.1 ht
  obtain ⟨x, hx, rfl⟩ := List.mem_map.1 ht
  have := (tokensL_rise d.2).2 x hx
  refine ⟨?_, this.2.1⟩
  cases hx1 : x.1 with
  | nil => exact absurd hx1 this.1
  | cons a b => simp
theorem putL_len (t : Bytes) (l : List Bytes) : (putL t l).length ≤ l.length + 1 := by
  induction l with
  | nil => simp [putL]
  | cons x l ih =>
    rw [putL]
    split
    · simp
    · split
      · simp
      · rw [List.length_cons, List.length_cons]; omega
theorem foldPutL_len (ts l : List Bytes) : (ts.foldl (fun a t => putL t a) l).length ≤ l.length + ts.length := by
  induction ts generalizing l with
  | nil => simp
  | cons t ts ih =>
    have := ih (putL t l)
    have := putL_len t l
    rw [List.foldl_cons, List.length_cons]; omega
theorem tokens_all (l : List DocL) (hl : ∀ d ∈ l, d.2.length ≤ 2000) : (l.flatMap fun d => (tokensL d.2).map (·.1)).length ≤ 2000 * l.length := by
  induction l with
  | nil => simp
  | cons d l ih =>
    have h1 := ih (fun x hx => hl x (by simp [hx]))
    have h2 := tokensF_len (wordsL d.2) 0
    have h3 := wordsL_count d.2
    have h4 := hl d (by simp)
    rw [List.flatMap_cons, List.length_append, List.length_map, List.length_cons, Nat.mul_add]
    have : (tokensL d.2).length ≤ 2000 := by unfold tokensL; omega
    omega
theorem termsL_len (l : List DocL) (hn : l.length ≤ 500) (hl : ∀ d ∈ l, d.2.length ≤ 2000) : (termsL l).length ≤ 1000000 := by
  have h1 := tokens_all l hl
  have h2 := foldPutL_len (l.flatMap fun d => (tokensL d.2).map (·.1)) []
  unfold termsL
  rw [List.length_nil] at h2
  omega
/-- the dictionary's entries -/
def entsL (l : List DocL) : List EntryL := (termsL l).map fun t => (t, packL (postsF t l 0))
theorem entsL_fst (l : List DocL) : (entsL l).map (·.1) = termsL l := by unfold entsL; rw [List.map_map]; exact (List.map_congr_left (fun _ _ => rfl)).trans (List.map_id _)
theorem entsL_right (l : List DocL) (hn : l.length ≤ 500) (hl : ∀ d ∈ l, d.2.length ≤ 2000) : entriesRight [] (entsL l) = true := by
  refine entriesRight_of _ _ (by rw [entsL_fst]; exact termsL_rise l) (fun e he => ?_)
  obtain ⟨t, ht, rfl⟩ := List.mem_map.1 he
  have h1 := termsL_term l t ht
  have h2 := postsF_right t l 0 (by omega) hl (-1) (by omega)
  refine ⟨h1.1, h1.2, ?_⟩
  have := postsE_len _ h2
  simp only [packL_right _ h2]
  omega
theorem idx_dict (l : List DocL) (hn : l.length ≤ 500) (hl : ∀ d ∈ l, d.2.length ≤ 2000) : idxS l = dictE (entsL l) := by
  have h := termsL_len l hn hl
  have hln : (entsL l).length ≤ 1048576 := by unfold entsL; rw [List.length_map]; omega
  rw [idx_eq]
  unfold idxL dictL
  rw [show (termsL l).map (fun t => (t, packL (postsF t l 0))) = entsL l from rfl, entsL_right l hn hl, decide_eq_true hln]
  rfl
theorem entsL_find (l : List DocL) (t : Bytes) : findE (entsL l) t = if t ∈ termsL l then some (packL (postsF t l 0)) else none := by
  unfold entsL findE
  generalize hx : termsL l = ts
  clear hx
  induction ts with
  | nil => rfl
  | cons a ts ih =>
    rw [List.map_cons, List.find?_cons]
    by_cases h : a = t
    · subst h; simp
    · have h2 : (a == t) = false := by simpa using h
      simp only [h2]
      rw [ih]
      simp only [List.mem_cons, Ne.symm h, false_or]
theorem entsL_prefix (l : List DocL) (p : Bytes) : ((entsL l).filter (fun e => p.isPrefixOf e.1)).map (·.1) = (termsL l).filter (fun t => p.isPrefixOf t) := by
  unfold entsL
  rw [List.filter_map, List.map_map]
  exact (List.map_congr_left (fun _ _ => rfl)).trans (List.map_id _)
end Go.Proofs.YtoabhcfmdkhmgaaGreatDoor
end

/- (AppSl) append of whatever slice that reads as a list onto a row of the call's own; slices cut. Over any program. -/
section
namespace Go.Proofs.YtoabhcfmdkhmgaaGreatDoor
open Go.RowKit
set_option linter.unusedVariables false

section
variable {P : Program} (w : World)
theorem run_append_no (base : Nat) (t ty e : TypeId) (i : TypeInfo) (size : Nat) (ht : P.underlying t = some (.slice e)) (hi : P.info? e = some i)
    (v : Value) (n : Nat) (xs : List Value) (hown : w.ownsRow base e size v n xs) (c : Nat) : (Builtin.append_ #[t, t] ty #[v, .slice none 0 c]).run P w = .ok v w := by
  rcases hown.2 with ⟨rfl, rfl⟩ | ⟨g, cap, cur, rfl, _, _, hnc, _⟩
  · simp [Builtin.append_, run_underlying ht, sizeOf, typeInfo, hi, Builtin.lenOf, Builtin.firstCells]
  · simp [Builtin.append_, run_underlying ht, sizeOf, typeInfo, hi, Builtin.lenOf, Builtin.firstCells, hnc, storeCells]
theorem run_append_sl (base : Nat) (t ty e : TypeId) (i : TypeInfo) (z : Value) (size bytes : Nat) (ht : P.underlying t = some (.slice e)) (hi : P.info? e = some i) (hz : i.zero = some z)
    (hsize : i.size = size) (hby : i.bytes = bytes) (hzs : z.cells.size = size) (hsz : 0 < size)
    (v : Value) (n : Nat) (xs : List Value) (hown : w.ownsRow base e size v n xs)
    (vx : Value) (m : Nat) (news : List Value) (hr : Sl w vx m size news) (h1 : ∀ u ∈ news, u.oneCell' = true)
    (h63 : n + m ≤ maxLen) (hbytes : (n + m) * bytes ≤ 140737488355328) (hbase : base ≤ w.heap.size) :
    ∃ v' w', (Builtin.append_ #[t, t] ty #[v, vx]).run P w = .ok v' w' ∧ w'.ownsRow base e size v' (n + m) (xs ++ news) ∧ w.grownBy w' v.ownBlock ∧ (v'.ownBlock = v.ownBlock ∨ v'.ownBlock = some w.heap.size) := by
  obtain ⟨hl, A, c, rfl, hc⟩ := hr
  rcases A with _ | ad
  · have hm : m = 0 := by
      rcases Nat.eq_zero_or_pos m with h0 | h0
      · exact h0
      · obtain ⟨b, off, h, _⟩ := hc h0; cases h
    subst hm
    have hn : news = [] := List.eq_nil_of_length_eq_zero (by simpa using hl)
    subst hn
    exact ⟨v, w, run_append_no w base t ty e i size ht hi v n xs hown c, by simpa using hown, World.grownBy.refl w _, .inl rfl⟩
  · have hcells : ∀ j u, news[j]? = some u → w.cell? (ad.add j) = some u := by
      intro j u hu
      rcases Nat.eq_zero_or_pos m with h0 | h0
      · subst h0
        have hn : news = [] := List.eq_nil_of_length_eq_zero (by simpa using hl)
        subst hn
        simp at hu
      · obtain ⟨b, off, h, h2⟩ := hc h0
        cases h
        rw [add_off]
        exact h2 j u hu
    obtain ⟨v', w', hrun, h2, h3, _, h5⟩ := run_append_own_at (P := P) w base t ty e i z size bytes ht hi hz hsize hby hzs hsz v n xs hown ad m c news hl hcells h1 h63 hbytes hbase
    exact ⟨v', w', hrun, h2, h3, h5⟩
theorem wp_append_sl {o : Oper} {a : Act} {K : Act → World → Prop} {Q : Exit → Act → World → Prop} (s x : Operand) (t : TypeId)
    (ho : o.op = .call { callee := .builtin .append, args := #[s, x], argTypes := #[t, t] })
    (base : Nat) (e : TypeId) (i : TypeInfo) (z : Value) (size bytes : Nat) (ht : P.underlying t = some (.slice e)) (hi : P.info? e = some i) (hz : i.zero = some z)
    (hsize : i.size = size) (hby : i.bytes = bytes) (hzs : z.cells.size = size) (hsz : 0 < size)
    (v : Value) (n : Nat) (xs : List Value) (hs : a.eval s = v) (hown : w.ownsRow base e size v n xs)
    (vx : Value) (m : Nat) (news : List Value) (hx : a.eval x = vx) (hr : Sl w vx m size news) (h1 : ∀ u ∈ news, u.oneCell' = true)
    (h63 : n + m ≤ maxLen) (hbytes : (n + m) * bytes ≤ 140737488355328) (hbase : base ≤ w.heap.size)
    (h : ∀ v' w', w'.ownsRow base e size v' (n + m) (xs ++ news) → w.grownBy w' v.ownBlock → (v'.ownBlock = v.ownBlock ∨ v'.ownBlock = some w.heap.size) → K (a.put o.dst v') w') : o.wp P a w K Q := by
  obtain ⟨v', w', hrun, h2, h3, h4⟩ := run_append_sl (P := P) w base t o.type e i z size bytes ht hi hz hsize hby hzs hsz v n xs hown vx m news hr h1 h63 hbytes hbase
  unfold Oper.wp execOp
  simp only [ho, resolve, invoke, builtin, Sem.run_bind, Sem.run_pure, Result.andThen_ok, List.map_toArray, List.map_cons, List.map_nil, hs, hx, hrun]
  exact h v' w' h2 h3 h4
theorem wpList_append_sl {ops : Array Oper} {rest : List Oper} {o : Oper} {a : Act} {Q : Exit → Act → World → Prop} (hgd : o.guard = none) (s x : Operand) (t : TypeId)
    (ho : o.op = .call { callee := .builtin .append, args := #[s, x], argTypes := #[t, t] })
    (base : Nat) (e : TypeId) (i : TypeInfo) (z : Value) (size bytes : Nat) (ht : P.underlying t = some (.slice e)) (hi : P.info? e = some i) (hz : i.zero = some z)
    (hsize : i.size = size) (hby : i.bytes = bytes) (hzs : z.cells.size = size) (hsz : 0 < size)
    (v : Value) (n : Nat) (xs : List Value) (hs : a.eval s = v) (hown : w.ownsRow base e size v n xs)
    (vx : Value) (m : Nat) (news : List Value) (hx : a.eval x = vx) (hr : Sl w vx m size news) (h1 : ∀ u ∈ news, u.oneCell' = true)
    (h63 : n + m ≤ maxLen) (hbytes : (n + m) * bytes ≤ 140737488355328) (hbase : base ≤ w.heap.size)
    (h : ∀ v' w', w'.ownsRow base e size v' (n + m) (xs ++ news) → w.grownBy w' v.ownBlock → (v'.ownBlock = v.ownBlock ∨ v'.ownBlock = some w.heap.size) → wpList P ops Q rest (a.put o.dst v') w') : wpList P ops Q (o :: rest) a w :=
  wpList_plain hgd fun _ hK => wp_append_sl w s x t ho base e i z size bytes ht hi hz hsize hby hzs hsz v n xs hs hown vx m news hx hr h1 h63 hbytes hbase fun v' w' h2 h3 h4 => hK _ _ (h v' w' h2 h3 h4)
end
/-- a slice cut -/
theorem Sl.cut {w : World} {a : Option Addr} {n cap size : Nat} {xs : List Value} (h : Sl w (.slice a n cap) n size xs) (lo hi : Nat) (h1 : lo ≤ hi) (h2 : hi ≤ n) (h3 : n ≤ cap) :
    Sl w (.slice (if cap = lo then a else a.map (·.add (lo * size))) (hi - lo) (cap - lo)) (hi - lo) size ((xs.take (hi * size)).drop (lo * size)) := by
  obtain ⟨hl, a', c', hv, hc⟩ := h
  cases hv
  refine ⟨?_, _, _, rfl, fun hp => ?_⟩
  · rw [List.length_drop, List.length_take, hl, Nat.min_eq_left (Nat.mul_le_mul_right _ h2), Nat.sub_mul]
  · obtain ⟨b, off, rfl, hcc⟩ := hc (by omega)
    rw [if_neg (by omega)]
    refine ⟨b, off + lo * size, by simp [add_off], fun j u hj => ?_⟩
    rw [Nat.add_assoc]
    rw [List.getElem?_drop, List.getElem?_take] at hj
    split at hj
    · exact hcc _ u hj
    · cases hj
end Go.Proofs.YtoabhcfmdkhmgaaGreatDoor
end
