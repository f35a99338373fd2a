/- Joined texts of one proof: Less, TermsJ, DictRd, WPostA. -/
import Derived.Test.YtoabhcfmdkhmgaaGreatDoorPTokToWDictR
import Derived.Test.YtoabhcfmdkhmgaaGreatDoorProg
import Derived.Test.YtoabhcfmdkhmgaaGreatDoorPKitToSegSpec
import Derived.WalkKit
import Derived.WalkSpells
import Derived.WalkLawsBesides
import Derived.Outline
set_option linter.unusedSimpArgs false
set_option linter.unusedVariables false
set_option linter.unnecessarySimpa false
/- (Less) Plain: the order of texts, byte by byte. -/
section
namespace Go.Proofs.YtoabhcfmdkhmgaaGreatDoor

theorem lessL_iff (a b : Bytes) : lessL a b = true ↔ a < b := by
  induction a generalizing b with
  | nil => cases b <;> simp [lessL]
  | cons x a ih =>
    cases b with
    | nil => simp [lessL]
    | cons y b =>
      rw [lessL, List.cons_lt_cons_iff]
      by_cases h : x = y
      · subst h
        rw [if_pos rfl, ih]
        constructor
        · exact fun h => .inr ⟨rfl, h⟩
        · rintro (h | ⟨_, h⟩)
          · exact absurd h (UInt8.lt_irrefl _)
          · exact h
      · rw [if_neg h, decide_eq_true_eq, ← UInt8.lt_iff_toNat_lt]
        exact ⟨.inl, fun h' => h'.elim id (fun e => absurd e.1 h)⟩
theorem less_total {a b : Bytes} (h : ¬ a < b) (hne : a ≠ b) : b < a := by
  have h1 : b ≤ a := List.not_lt.1 h
  rcases List.le_iff_lt_or_eq.1 h1 with h2 | h2
  · exact h2
  · exact absurd h2.symm hne
end Go.Proofs.YtoabhcfmdkhmgaaGreatDoor
end

/- (TermsJ) Plain: the terms of all documents' texts together, a blank behind each, are the documents' terms. No program in sight. -/
section
namespace Go.Proofs.YtoabhcfmdkhmgaaGreatDoor
set_option linter.unusedVariables false

theorem decodeN_cut (n m b0 b1 b2 b3 c1 c2 c3 : Nat) (hn : 0 < n) (hm : n < m)
    (h1 : 1 < n → c1 = b1) (h2 : 2 < n → c2 = b2) (h3 : 3 < n → c3 = b3)
    (k1 : n = 1 → c1 = 32) (k2 : n = 2 → c2 = 32) (k3 : n = 3 → c3 = 32) : Lib.decodeN m b0 c1 c2 c3 = Lib.decodeN n b0 b1 b2 b3 := by
  rcases Nat.lt_or_ge 3 n with h | h
  · have e1 := h1 (by omega); have e2 := h2 (by omega); have e3 := h3 (by omega)
    subst e1; subst e2; subst e3
    have a1 : (1 < m) = (1 < n) := propext ⟨fun _ => by omega, fun _ => by omega⟩
    have a2 : (2 < m) = (2 < n) := propext ⟨fun _ => by omega, fun _ => by omega⟩
    have a3 : (3 < m) = (3 < n) := propext ⟨fun _ => by omega, fun _ => by omega⟩
    simp only [Lib.decodeN, a1, a2, a3]
  · rcases Nat.lt_or_ge 2 n with h' | h'
    · have hn3 : n = 3 := by omega
      subst hn3
      have e1 := h1 (by omega); have e2 := h2 (by omega); have e3 := k3 rfl
      subst e1; subst e2; subst e3
      have a1 : (1 < m) = True := by simp; omega
      have a2 : (2 < m) = True := by simp; omega
      simp [Lib.decodeN, a1, a2]
    · rcases Nat.lt_or_ge 1 n with h'' | h''
      · have hn2 : n = 2 := by omega
        subst hn2
        have e1 := h1 (by omega); have e2 := k2 rfl
        subst e1; subst e2
        have a1 : (1 < m) = True := by simp; omega
        simp [Lib.decodeN, a1]
      · have hn1 : n = 1 := by omega
        subst hn1
        have e1 := k1 rfl
        subst e1
        simp [Lib.decodeN]
theorem rune1_cut (a b : Bytes) (h : a ≠ []) : rune1 (a ++ 32 :: b) = rune1 a := by
  have hl : 0 < a.length := List.length_pos_iff.2 h
  have hd : ∀ i, i < a.length → (a ++ 32 :: b).getD i 0 = a.getD i 0 := by
    intro i hi
    simp [List.getD, List.getElem?_append_left hi]
  have hk : (a ++ 32 :: b).getD a.length 0 = 32 := by
    simp [List.getD, List.getElem?_append_right (Nat.le_refl _)]
  have hm : (a ++ 32 :: b).length = a.length + (b.length + 1) := by simp
  have key : Lib.decodeN (a ++ 32 :: b).length ((a ++ 32 :: b).getD 0 0).toNat ((a ++ 32 :: b).getD 1 0).toNat ((a ++ 32 :: b).getD 2 0).toNat ((a ++ 32 :: b).getD 3 0).toNat
      = Lib.decodeN a.length (a.getD 0 0).toNat (a.getD 1 0).toNat (a.getD 2 0).toNat (a.getD 3 0).toNat := by
    rw [hd 0 hl]
    refine decodeN_cut _ _ _ _ _ _ _ _ _ hl (by omega) (fun h1 => by rw [hd 1 h1]) (fun h1 => by rw [hd 2 h1]) (fun h1 => by rw [hd 3 h1]) (fun h1 => ?_) (fun h1 => ?_) (fun h1 => ?_)
    all_goals (rw [h1] at hk; rw [hk]; rfl)
  cases a with
  | nil => exact absurd rfl h
  | cons x a =>
    simp only [rune1, List.cons_append]
    rw [List.cons_append] at key
    rw [key]
theorem chunks_cut (n : Nat) (a b : Bytes) (hn : a.length ≤ n) : chunks (a ++ 32 :: b) = chunks a ++ (32, [32]) :: chunks b := by
  induction n generalizing a with
  | zero =>
    have : a = [] := List.eq_nil_of_length_eq_zero (by omega)
    subst this
    rw [List.nil_append, chunks_cons _ (by simp), chunks_nil, List.nil_append]
    have hr : rune1 (32 :: b) = (32, 1) := by
      simp [rune1, Lib.decodeN, List.getD]
    rw [hr]; rfl
  | succ n ih =>
    by_cases h : a = []
    · subst h; exact ih [] (by simp)
    · have h1 := rune1_size a h
      rw [chunks_cons _ (by simp), chunks_cons a h, rune1_cut a b h, List.take_append_of_le_length h1.2, List.drop_append_of_le_length h1.2, ih _ (by rw [List.length_drop]; omega)]
      rfl
theorem wordsF_cut (x y : List (Int × Bytes)) (c : Int × Bytes) (st : Option Bytes) (hc : wordRune c.1 = false) : wordsF (x ++ c :: y) st = wordsF x st ++ wordsF y none := by
  induction x generalizing st with
  | nil => cases st <;> simp [wordsF, hc]
  | cons z x ih =>
    cases st with
    | none =>
      rw [List.cons_append, wordsF, wordsF]
      split <;> exact ih _
    | some w =>
      rw [List.cons_append, wordsF, wordsF]
      split
      · exact ih _
      · rw [ih]; rfl
theorem wordsL_cut (a b : Bytes) : wordsL (a ++ 32 :: b) = wordsL a ++ wordsL b := by
  unfold wordsL
  rw [chunks_cut a.length a b (Nat.le_refl _), wordsF_cut _ _ _ _ (by decide)]
theorem tokensF_fst (ws : List Bytes) (k m : Nat) : (tokensF ws k).map (·.1) = (tokensF ws m).map (·.1) := by
  induction ws generalizing k m with
  | nil => rfl
  | cons w ws ih =>
    rw [tokensF, tokensF]
    split
    · rw [List.map_cons, List.map_cons, ih (k + 1) (m + 1)]
    · exact ih _ _
theorem tokensF_app (a b : List Bytes) (k : Nat) : (tokensF (a ++ b) k).map (·.1) = (tokensF a k).map (·.1) ++ (tokensF b 0).map (·.1) := by
  induction a generalizing k with
  | nil => rw [List.nil_append]; exact tokensF_fst b k 0
  | cons w a ih =>
    rw [List.cons_append, tokensF, tokensF]
    split
    · rw [List.map_cons, List.map_cons, ih, List.cons_append]
    · exact ih _
/-- the terms of a text, as they stand there -/
def termsIn (s : Bytes) : List Bytes := (tokensL s).map (·.1)
theorem termsIn_cut (a b : Bytes) : termsIn (a ++ 32 :: b) = termsIn a ++ termsIn b := by
  unfold termsIn tokensL
  rw [wordsL_cut, tokensF_app]
theorem termsIn_nil : termsIn [] = [] := rfl
/-- all texts, a blank behind each -/
def allL (l : List DocL) : Bytes := l.flatMap fun d => d.2 ++ [32]
theorem allL_nil : allL [] = [] := rfl
theorem allL_snoc (l : List DocL) (d : DocL) : allL (l ++ [d]) = allL l ++ (d.2 ++ [32]) := by unfold allL; simp
theorem allL_take (l : List DocL) (k : Nat) (h : k < l.length) : allL (l.take (k + 1)) = allL (l.take k) ++ (l[k].2 ++ [32]) := by
  rw [List.take_succ_eq_append_getElem h, allL_snoc]
theorem allL_len (l : List DocL) (h : ∀ d ∈ l, d.2.length ≤ 2100) : (allL l).length ≤ 2101 * l.length := by
  induction l with
  | nil => simp [allL]
  | cons d l ih =>
    have h1 := h d (by simp)
    have h2 := ih (fun x hx => h x (by simp [hx]))
    have e : allL (d :: l) = d.2 ++ [32] ++ allL l := by unfold allL; rw [List.flatMap_cons]
    rw [e, List.length_append, List.length_append, List.length_cons, List.length_nil, List.length_cons]
    omega
theorem termsIn_all (l : List DocL) : termsIn (allL l) = l.flatMap fun d => termsIn d.2 := by
  induction l with
  | nil => rfl
  | cons d l ih =>
    have e : allL (d :: l) = d.2 ++ 32 :: allL l := by unfold allL; rw [List.flatMap_cons]; simp
    rw [e, termsIn_cut, ih, List.flatMap_cons]
/-- the terms of a text, rising, each once -/
def termsT (s : Bytes) : List Bytes := (termsIn s).foldl (fun a t => putL t a) []
theorem termsT_all (l : List DocL) : termsT (allL l) = termsL l := by
  unfold termsT
  rw [termsIn_all]
  rfl
/-- a term put in: behind those below it -/
theorem putL_cut (t : Bytes) (l : List Bytes) (k : Nat) (hk : k ≤ l.length) (h1 : ∀ x ∈ l.take k, lessL x t = true) (h2 : ∀ x, l[k]? = some x → lessL x t = false)
    (hr : l.Pairwise (· < ·)) : putL t l = if l[k]? = some t then l else l.take k ++ t :: l.drop k := by
  induction l generalizing k with
  | nil => simp [putL]
  | cons x l ih =>
    rw [putL]
    obtain ⟨hr1, hr2⟩ := List.pairwise_cons.1 hr
    cases k with
    | zero =>
      have h3 : lessL x t = false := h2 x rfl
      simp only [List.take_zero, List.nil_append, List.drop_zero, List.getElem?_cons_zero, Option.some.injEq]
      by_cases hx : x = t
      · rw [if_pos hx, if_pos hx]
      · rw [if_neg hx, if_neg hx]
        have h4 : lessL t x = true := by
          rw [lessL_iff]
          have h5 : ¬ (x < t) := by rw [← lessL_iff]; simp [h3]
          rcases List.le_iff_lt_or_eq.1 (List.not_lt.1 h5) with h | h
          · exact h
          · exact absurd h.symm hx
        rw [if_pos h4]
    | succ k =>
      have h3 : lessL x t = true := h1 x (by simp)
      have h4 : ¬ x = t := by
        intro e; subst e
        rw [lessL_iff] at h3
        exact absurd h3 (List.lt_irrefl _)
      have h5 : ¬ lessL t x = true := by
        rw [lessL_iff]; rw [lessL_iff] at h3
        intro h6
        exact absurd (List.lt_trans h3 h6) (List.lt_irrefl _)
      rw [if_neg h4, if_neg h5, ih k (by simpa using hk) (fun y hy => h1 y (by simp [hy])) (fun y hy => h2 y (by simpa using hy)) hr2]
      simp only [List.getElem?_cons_succ, List.take_succ_cons, List.drop_succ_cons, List.cons_append]
      split <;> rfl
end Go.Proofs.YtoabhcfmdkhmgaaGreatDoor
end

/- (DictRd) Plain: a dictionary's bytes read again (dict.Get, dict.Prefix). No program in sight. -/
section
namespace Go.Proofs.YtoabhcfmdkhmgaaGreatDoor
set_option linter.unusedVariables false

/-- a block: its first term, its bytes, how many entries it has -/
abbrev PartD := Bytes × Bytes × Nat
def partD (g : List EntryL) : PartD := ((g.headD ([], [])).1, blockE [] g, g.length)
def partsD (l : List EntryL) : List PartD := (groupsF l.length l).map partD
def idxD (ps : List PartD) : Bytes := ps.flatMap fun p => textE p.1 ++ varE p.2.1.length
def allD (ps : List PartD) : Bytes := ps.flatMap fun p => p.2.1
theorem dictE_parts (l : List EntryL) : dictE l = varE l.length ++ (idxD (partsD l) ++ allD (partsD l)) := by
  unfold dictE partsD idxD allD
  rw [List.flatMap_map, List.flatMap_map]
  rfl
theorem groupsF_get (n : Nat) (l : List EntryL) (h : l.length ≤ n) (i : Nat) : (groupsF n l)[i]? = if 16 * i < l.length then some ((l.drop (16 * i)).take 16) else none := by
  induction n generalizing l i with
  | zero =>
    have : l = [] := List.eq_nil_of_length_eq_zero (by omega)
    subst this
    simp [groupsF]
  | succ n ih =>
    rw [groupsF]
    by_cases hl : l = []
    · subst hl; simp
    · rw [if_neg hl]
      have hp : 0 < l.length := List.length_pos_iff.2 hl
      cases i with
      | zero => simp [hp]
      | succ i =>
        rw [List.getElem?_cons_succ, ih _ (by rw [List.length_drop]; omega), List.length_drop, List.drop_drop]
        by_cases hlt : 16 * (i + 1) < l.length
        · rw [if_pos (by omega), if_pos hlt, show 16 + 16 * i = 16 * (i + 1) by omega]
        · rw [if_neg (by omega), if_neg hlt]
theorem groupsF_length (n : Nat) (l : List EntryL) (h : l.length ≤ n) : (groupsF n l).length = (l.length + 15) / 16 := by
  have hg := groupsF_get n l h
  have h1 : ∀ i, i < (groupsF n l).length ↔ 16 * i < l.length := by
    intro i
    have hgi := hg i
    by_cases hi : 16 * i < l.length
    · rw [if_pos hi] at hgi
      exact ⟨fun _ => hi, fun _ => (List.getElem?_eq_some_iff.1 hgi).1⟩
    · rw [if_neg hi] at hgi
      exact ⟨fun h => absurd (List.getElem?_eq_none_iff.1 hgi) (by omega), fun h => absurd h hi⟩
  have a := h1 ((l.length + 15) / 16)
  have b := h1 ((groupsF n l).length)
  by_cases hz : (groupsF n l).length = 0
  · have := h1 0; omega
  · have c := h1 ((groupsF n l).length - 1); omega
theorem partsD_get (l : List EntryL) (i : Nat) : (partsD l)[i]? = if 16 * i < l.length then some (partD ((l.drop (16 * i)).take 16)) else none := by
  unfold partsD
  rw [List.getElem?_map, groupsF_get _ l (Nat.le_refl _) i]
  split <;> rfl
theorem partsD_length (l : List EntryL) : (partsD l).length = (l.length + 15) / 16 := by
  unfold partsD; rw [List.length_map, groupsF_length _ _ (Nat.le_refl _)]
/-- what a reader finds of an entry -/
theorem alike_take (a b : Bytes) : a.take (alikeN a b) = b.take (alikeN a b) := by
  induction a generalizing b with
  | nil => cases b <;> simp [alikeN]
  | cons x a ih =>
    cases b with
    | nil => simp [alikeN]
    | cons y b =>
      rw [alikeN]
      by_cases h : x = y
      · rw [if_pos h, List.take_succ_cons, List.take_succ_cons, ih b, h]
      · rw [if_neg h]; simp
theorem alike_le (a b : Bytes) : alikeN a b ≤ a.length ∧ alikeN a b ≤ b.length := by
  induction a generalizing b with
  | nil => cases b <;> simp [alikeN]
  | cons x a ih =>
    cases b with
    | nil => simp [alikeN]
    | cons y b =>
      rw [alikeN]
      split
      · have := ih b; simp; omega
      · simp
theorem alike_join (a b : Bytes) : a.take (alikeN a b) ++ b.drop (alikeN a b) = b := by rw [alike_take, List.take_append_drop]

theorem entriesRight_pair (last : Bytes) (l : List EntryL) (h : entriesRight last l = true) : (l.map (·.1)).Pairwise (· < ·) ∧ (∀ e ∈ l, last < e.1 ∧ e.1.length ≤ 40 ∧ e.2.length ≤ 4194304) := by
  induction l generalizing last with
  | nil => simp
  | cons e l ih =>
    rw [entriesRight] at h
    simp only [Bool.and_eq_true, decide_eq_true_eq] at h
    obtain ⟨⟨⟨h1, h2⟩, h3⟩, h4⟩ := h
    have h1 := (lessL_iff _ _).1 h1
    obtain ⟨i1, i2⟩ := ih e.1 h4
    refine ⟨?_, ?_⟩
    · rw [List.map_cons, List.pairwise_cons]
      refine ⟨fun x hx => ?_, i1⟩
      obtain ⟨y, hy, rfl⟩ := List.mem_map.1 hx
      exact (i2 y hy).1
    · intro x hx
      rcases List.mem_cons.1 hx with rfl | hx
      · exact ⟨h1, h2, h3⟩
      · exact ⟨List.lt_trans h1 (i2 x hx).1, (i2 x hx).2⟩
theorem entriesRight_of (last : Bytes) (l : List EntryL) (h1 : (l.map (·.1)).Pairwise (· < ·)) (h2 : ∀ e ∈ l, last < e.1 ∧ e.1.length ≤ 40 ∧ e.2.length ≤ 4194304) : entriesRight last l = true := by
  induction l generalizing last with
  | nil => rfl
  | cons e l ih =>
    rw [List.map_cons, List.pairwise_cons] at h1
    rw [entriesRight]
    have he := h2 e (by simp)
    rw [(lessL_iff _ _).2 he.1, decide_eq_true he.2.1, decide_eq_true he.2.2, ih e.1 h1.2 (fun x hx => ⟨h1.1 x.1 (List.mem_map.2 ⟨x, hx, rfl⟩), (h2 x (by simp [hx])).2⟩)]
    rfl
/-! ### texts that begin so -/
theorem prefix_ge (p t : Bytes) (h : p <+: t) : ¬ t < p := by
  obtain ⟨s, rfl⟩ := h
  induction p with
  | nil => simp
  | cons a p ih =>
    rw [List.cons_append, List.cons_lt_cons_iff]
    rintro (h | ⟨_, h⟩)
    · exact UInt8.lt_irrefl _ h
    · exact ih h
theorem prefix_gone (p x t : Bytes) (h1 : p < x) (h2 : ¬ p <+: x) (h3 : x < t) : ¬ p <+: t := by
  induction p generalizing x t with
  | nil => exact absurd (List.nil_prefix) h2
  | cons a p ih =>
    cases x with
    | nil => simp at h1
    | cons b x =>
      cases t with
      | nil => simp at h3
      | cons c t =>
        rw [List.cons_lt_cons_iff] at h1 h3
        rw [List.cons_prefix_cons] at h2 ⊢
        rintro ⟨rfl, h⟩
        rcases h1 with h1 | ⟨rfl, h1⟩
        · rcases h3 with h3 | ⟨rfl, _⟩
          · exact absurd (UInt8.lt_trans h1 h3) (UInt8.lt_irrefl _)
          · exact UInt8.lt_irrefl _ h1
        · rcases h3 with h3 | ⟨_, h3⟩
          · exact UInt8.lt_irrefl _ h3
          · exact ih x t h1 (fun h' => h2 ⟨rfl, h'⟩) h3 h
/-! ### the blocks of a right list -/
theorem groups_all (n : Nat) (l : List EntryL) (h : l.length ≤ n) : (groupsF n l).flatten = l := by
  induction n generalizing l with
  | zero => have : l = [] := List.eq_nil_of_length_eq_zero (by omega); subst this; rfl
  | succ n ih =>
    rw [groupsF]
    split
    · rename_i e; subst e; rfl
    · rename_i e
      have hp : 0 < l.length := List.length_pos_iff.2 e
      rw [List.flatten_cons, ih _ (by rw [List.length_drop]; omega), List.take_append_drop]
abbrev groupsD (l : List EntryL) : List (List EntryL) := groupsF l.length l
theorem groupsD_ne (l : List EntryL) : ∀ g ∈ groupsD l, g ≠ [] ∧ g.length ≤ 16 := by
  intro g hg
  obtain ⟨i, hi⟩ := List.mem_iff_getElem?.1 hg
  rw [groupsF_get _ l (Nat.le_refl _) i] at hi
  split at hi
  · cases hi
    refine ⟨?_, by rw [List.length_take]; omega⟩
    intro e
    have := congrArg List.length e
    rw [List.length_take, List.length_drop, List.length_nil] at this
    omega
  · cases hi
def headT (g : List EntryL) : Bytes := (g.headD ([], [])).1
/-- groups whose entries rise, none empty -/
def GrpsUp (gs : List (List EntryL)) : Prop := (∀ g ∈ gs, g ≠ []) ∧ (gs.flatten.map (·.1)).Pairwise (· < ·)
theorem grps_of (l : List EntryL) (h : (l.map (·.1)).Pairwise (· < ·)) : GrpsUp (groupsD l) := ⟨fun g hg => (groupsD_ne l g hg).1, by rw [groups_all _ _ (Nat.le_refl _)]; exact h⟩
theorem GrpsUp.tail {g : List EntryL} {gs : List (List EntryL)} (h : GrpsUp (g :: gs)) : GrpsUp gs := by
  refine ⟨fun x hx => h.1 x (by simp [hx]), ?_⟩
  have := h.2
  rw [List.flatten_cons, List.map_append, List.pairwise_append] at this
  exact this.2.1
theorem GrpsUp.drop {gs : List (List EntryL)} (h : GrpsUp gs) (k : Nat) : GrpsUp (gs.drop k) := by
  induction k with
  | zero => simpa using h
  | succ k ih =>
    by_cases hk : k < gs.length
    · rw [List.drop_eq_getElem_cons hk] at ih
      exact ih.tail
    · rw [List.drop_eq_nil_of_le (by omega)]
      exact ⟨by simp, by simp⟩
theorem GrpsUp.head_le {g : List EntryL} {gs : List (List EntryL)} (h : GrpsUp (g :: gs)) : (∀ e ∈ g, e.1 = headT g ∨ headT g < e.1) ∧ (∀ e ∈ gs.flatten, headT g < e.1) ∧ (∀ e ∈ g, ∀ f ∈ gs.flatten, e.1 < f.1) ∧ headT g ∈ g.map (·.1) := by
  have hne := h.1 g (by simp)
  have hp := h.2
  rw [List.flatten_cons, List.map_append, List.pairwise_append] at hp
  obtain ⟨p1, p2, p3⟩ := hp
  cases g with
  | nil => exact absurd rfl hne
  | cons a g =>
    rw [List.map_cons, List.pairwise_cons] at p1
    refine ⟨fun e he => ?_, fun e he => p3 _ (by simp [headT]) _ (List.mem_map.2 ⟨e, he, rfl⟩), fun e he f hf => p3 _ (List.mem_map.2 ⟨e, he, rfl⟩) _ (List.mem_map.2 ⟨f, hf, rfl⟩), by simp [headT]⟩
    rcases List.mem_cons.1 he with rfl | he
    · exact .inl rfl
    · exact .inr (p1.1 _ (List.mem_map.2 ⟨e, he, rfl⟩))
/-- the firsts of the groups rise -/
theorem GrpsUp.firsts {gs : List (List EntryL)} (h : GrpsUp gs) : (gs.map headT).Pairwise (· < ·) := by
  induction gs with
  | nil => simp
  | cons g gs ih =>
    rw [List.map_cons, List.pairwise_cons]
    refine ⟨fun x hx => ?_, ih h.tail⟩
    obtain ⟨y, hy, rfl⟩ := List.mem_map.1 hx
    obtain ⟨a, b, c, d⟩ := h.head_le
    have hyne := h.1 y (by simp [hy])
    cases y with
    | nil => exact absurd rfl hyne
    | cons z y => exact b z (List.mem_flatten.2 ⟨_, hy, by simp⟩)
/-- where a term may stand: the last group whose first term is not greater -/
def fromJ (gs : List (List EntryL)) (t : Bytes) : Nat := gs.findIdx (fun g => lessL t (headT g)) - 1
def findE (l : List EntryL) (t : Bytes) : Option Bytes := (l.find? (fun e => e.1 == t)).map (·.2)
theorem find_none {l : List EntryL} {t : Bytes} (h : ∀ e ∈ l, e.1 ≠ t) : findE l t = none := by
  unfold findE
  rw [List.find?_eq_none.2 (fun e he => by simpa using h e he)]
  rfl
theorem findE_append (a b : List EntryL) (t : Bytes) : findE (a ++ b) t = (findE a t).or (findE b t) := by
  unfold findE
  rw [List.find?_append]
  cases List.find? (fun e => e.1 == t) a <;> rfl
theorem lt_ne {a b : Bytes} (h : a < b) : a ≠ b := fun e => by subst e; exact List.lt_irrefl _ h
theorem findIdx_drop (gs : List (List EntryL)) (t : Bytes) (h : GrpsUp gs) : ∀ i, gs.findIdx (fun g => lessL t (headT g)) ≤ i → ∀ g, gs[i]? = some g → t < headT g := by
  intro i hi g hg
  have hf := h.firsts
  obtain ⟨hlt, he⟩ := List.getElem?_eq_some_iff.1 hg
  have hlt' : gs.findIdx (fun g => lessL t (headT g)) < gs.length := by omega
  have h1 := List.findIdx_getElem (p := fun g => lessL t (headT g)) (xs := gs) (w := hlt')
  have h1 := (lessL_iff _ _).1 h1
  rcases Nat.eq_or_lt_of_le hi with e | e
  · subst he
    simp only [e] at h1
    exact h1
  · rw [List.pairwise_iff_getElem] at hf
    have := hf _ _ (by rw [List.length_map]; omega) (by rw [List.length_map]; omega) e
    rw [List.getElem_map, List.getElem_map, he] at this
    exact List.lt_trans h1 this
/-- what stands ahead of group j is less than what begins it -/
theorem ahead_lt (gs : List (List EntryL)) (h : GrpsUp gs) (j : Nat) (g : List EntryL) (hg : gs[j]? = some g) : ∀ e ∈ (gs.take j).flatten, e.1 < headT g := by
  induction gs generalizing j with
  | nil => simp at hg
  | cons a gs ih =>
    cases j with
    | zero => simp
    | succ j =>
      rw [List.getElem?_cons_succ] at hg
      rw [List.take_succ_cons, List.flatten_cons]
      intro e he
      rcases List.mem_append.1 he with he | he
      · obtain ⟨_, _, c, _⟩ := h.head_le
        have hm := List.mem_of_getElem? hg
        have hne := h.1 g (by simp [hm])
        cases g with
        | nil => exact absurd rfl hne
        | cons z y => exact c e he z (List.mem_flatten.2 ⟨_, hm, by simp⟩)
      · exact ih h.tail j hg e he
theorem fromJ_le (gs : List (List EntryL)) (t : Bytes) (j : Nat) (hj : j = fromJ gs t) (g : List EntryL) (hg : gs[j]? = some g) : j = 0 ∨ ¬ t < headT g := by
  by_cases h0 : j = 0
  · exact .inl h0
  · refine .inr fun h => ?_
    unfold fromJ at hj
    have := List.not_of_lt_findIdx (p := fun g => lessL t (headT g)) (xs := gs) (i := j) (by omega)
    obtain ⟨hlt, he⟩ := List.getElem?_eq_some_iff.1 hg
    rw [he] at this
    rw [(lessL_iff _ _).2 h] at this
    cases this
theorem flatten_at (gs : List (List EntryL)) (j : Nat) (g : List EntryL) (hg : gs[j]? = some g) : gs.flatten = (gs.take j).flatten ++ (g ++ (gs.drop (j + 1)).flatten) := by
  obtain ⟨hlt, he⟩ := List.getElem?_eq_some_iff.1 hg
  conv => lhs; rw [← List.take_append_drop j gs, List.flatten_append, List.drop_eq_getElem_cons hlt, List.flatten_cons, he]
/-- a term stands in its group, or nowhere -/
theorem get_group (gs : List (List EntryL)) (h : GrpsUp gs) (t : Bytes) (g : List EntryL) (hg : gs[fromJ gs t]? = some g) : findE gs.flatten t = findE g t := by
  rw [flatten_at gs _ g hg, findE_append, findE_append]
  have h1 : findE (gs.take (fromJ gs t)).flatten t = none := by
    rcases fromJ_le gs t _ rfl g hg with h0 | h0
    · rw [h0]; rfl
    · refine find_none fun e he e2 => ?_
      have := ahead_lt gs h _ g hg e he
      rw [e2] at this
      exact h0 this
  have h2 : findE (gs.drop (fromJ gs t + 1)).flatten t = none := by
    refine find_none fun e he e2 => ?_
    have hle : gs.findIdx (fun g => lessL t (headT g)) ≤ fromJ gs t + 1 := by unfold fromJ; omega
    obtain ⟨y, hy, hye⟩ := List.mem_flatten.1 he
    obtain ⟨i, hi⟩ := List.mem_iff_getElem?.1 hy
    rw [List.getElem?_drop] at hi
    have hlt := findIdx_drop gs t h _ (by omega) y hi
    have hyup := h.drop (fromJ gs t + 1 + i)
    obtain ⟨hl2, he2⟩ := List.getElem?_eq_some_iff.1 hi
    rw [List.drop_eq_getElem_cons hl2, he2] at hyup
    rcases hyup.head_le.1 e hye with h3 | h3
    · rw [← h3, e2] at hlt; exact List.lt_irrefl _ hlt
    · rw [e2] at h3; exact List.lt_irrefl _ (List.lt_trans hlt h3)
  rw [h1, h2]
  simp
/-- the groups that are read for a prefix -/
def preG (p : Bytes) : List (List EntryL) → List EntryL
  | [] => []
  | g :: gs => if lessL p (headT g) && !p.isPrefixOf (headT g) then [] else g.filter (fun e => p.isPrefixOf e.1) ++ preG p gs
theorem filter_none {l : List EntryL} {p : Bytes} (h : ∀ e ∈ l, ¬ p <+: e.1) : l.filter (fun e => p.isPrefixOf e.1) = [] := by
  rw [List.filter_eq_nil_iff]
  intro e he h2
  exact h e he (List.isPrefixOf_iff_prefix.1 h2)
theorem preG_eq (p : Bytes) (gs : List (List EntryL)) (h : GrpsUp gs) : preG p gs = gs.flatten.filter (fun e => p.isPrefixOf e.1) := by
  induction gs with
  | nil => rfl
  | cons g gs ih =>
    rw [preG, List.flatten_cons, List.filter_append]
    by_cases hb : lessL p (headT g) && !p.isPrefixOf (headT g)
    · rw [if_pos hb]
      simp only [Bool.and_eq_true, Bool.not_eq_true'] at hb
      have h1 := (lessL_iff _ _).1 hb.1
      have h2 : ¬ p <+: headT g := fun h => by rw [List.isPrefixOf_iff_prefix.2 h] at hb; exact absurd hb.2 (by simp)
      obtain ⟨a, b, _, _⟩ := h.head_le
      rw [filter_none (fun e he => ?_), filter_none (fun e he => prefix_gone p _ _ h1 h2 (b e he))]
      · rfl
      · rcases a e he with h3 | h3
        · rw [h3]; exact h2
        · exact prefix_gone p _ _ h1 h2 h3
    · rw [if_neg hb, ih h.tail]
theorem prefix_from (p : Bytes) (gs : List (List EntryL)) (h : GrpsUp gs) : preG p (gs.drop (fromJ gs p)) = gs.flatten.filter (fun e => p.isPrefixOf e.1) := by
  rw [preG_eq p _ (h.drop _)]
  conv => rhs; rw [← List.take_append_drop (fromJ gs p) gs, List.flatten_append, List.filter_append]
  rw [filter_none (l := (gs.take (fromJ gs p)).flatten), List.nil_append]
  intro e he
  cases hg : gs[fromJ gs p]? with
  | none =>
    -- there is no such group: the list is empty
    have hl : gs.length ≤ fromJ gs p := by simpa using hg
    have := List.findIdx_le_length (p := fun g => lessL p (headT g)) (xs := gs)
    unfold fromJ at hl he
    have : gs = [] := List.eq_nil_of_length_eq_zero (by omega)
    subst this
    simp at he
  | some g =>
    rcases fromJ_le gs p _ rfl g hg with h0 | h0
    · rw [h0] at he; simp at he
    · have h1 := ahead_lt gs h _ g hg e he
      intro h2
      rcases Classical.em (headT g < p) with h3 | h3
      · exact prefix_ge _ _ h2 (List.lt_trans h1 h3)
      · rcases Classical.em (headT g = p) with h4 | h4
        · rw [h4] at h1; exact prefix_ge _ _ h2 h1
        · exact h0 (less_total h3 h4)
end Go.Proofs.YtoabhcfmdkhmgaaGreatDoor
end

/- (WPostA) postings.rising: walked. -/
section
namespace Go.Proofs.YtoabhcfmdkhmgaaGreatDoor
open Go.RowKit
set_option linter.unusedVariables false

theorem rising_any (a n b : Int) (w : World) :
    Calls Tryz.prog 144 #[.int .i64 a, .int .i64 n, .int .i64 b] w fun e w' => e = .returned (.bool (decide (a < n) && decide (n < b))) ∧ w = w' := by
  by_cases h1 : a < n
  · by_cases h2 : n < b
    · go_enter Tryz.func144, Tryz.ntmps144
      go_wp2
      go_ret
      exact ⟨ret_bool (by simp [h1, h2]), rfl⟩
    · go_enter Tryz.func144, Tryz.ntmps144
      go_wp2
      go_ret
      exact ⟨ret_bool (by simp [h1, h2]), rfl⟩
  · go_enter Tryz.func144, Tryz.ntmps144
    go_wp2
    go_ret
    exact ⟨ret_bool (by rw [decide_eq_false (by omega)]; rfl), rfl⟩
end Go.Proofs.YtoabhcfmdkhmgaaGreatDoor
end
