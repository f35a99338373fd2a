/- Joined texts of one proof: WDictN, Less, DictRd, WDictE. -/
import Derived.Test.YtcflpcpkmhljkaaGreatDoorMWire2ToMem3
import Derived.Handy
import Derived.Test.YtcflpcpkmhljkaaGreatDoorMTokToWDictR
import Derived.StillTailTactics
set_option linter.unusedSimpArgs false
set_option linter.unusedVariables false
set_option linter.unnecessarySimpa false
/- (WDictN) dict.number, text, entry: walked, at what is there. -/
section
namespace Go.Proofs.YtcflpcpkmhljkaaGreatDoor
open Go.RowKit
set_option linter.unusedVariables false

set_option maxHeartbeats 1000000 in
theorem DNumber_ok (s : Bytes) (v : Nat) (r : Bytes) (most : Nat) (w : World) (hs : s.length ≤ 9223372036854775807) (h : IsVar s v r) (hv : v ≤ most) (hm : most ≤ 9223372036854775807) :
    Calls Tryz.prog 224 #[.string ⟨s.toArray⟩, .int .i64 most] w fun e w' => e = .returned (.agg #[.int .i64 v, strV r, .bool true]) ∧ Q w w' := by
  have c := fun w => ToVar_some s v r w hs h
  have C := Lib.hid c
  clear c h
  go_enter Tryz.func224, Tryz.ntmps224
  go_wp2_with fail
  refine (C.out _).mono ?_
  rintro e w1 ⟨rfl, q1⟩
  have q2 := (Q.alloc w _).trans q1
  have hb := (Blk.new w _ _).stays q1
  have HQ := Lib.hid q2; have HB := Lib.hid hb
  obtain ⟨c0, c1, c2, f0, f1, f2⟩ := hb.c3
  obtain ⟨s0, s1, s2⟩ := hb.s3
  have S0 := Lib.hid s0; have S1 := Lib.hid s1; have S2 := Lib.hid s2; clear s0 s1 s2
  have hlt : ¬ most < v := by omega
  clear q1 q2
  go_wp2_with fail
  refine bodyPost_ret (v := .agg #[.int .i64 v, strV r, .bool true]) ?_ rfl ?_
  · simp [results, Tryz.results224, go_sem, S0.out, S1.out, S2.out]
  exact ⟨rfl, ((HQ.out.setCell (by simp) _).setCell (by simp) _).setCell (by simp) _⟩
set_option maxHeartbeats 1000000 in
theorem DText_ok (s t r : Bytes) (w : World) (hs : s.length ≤ 9223372036854775807) (h : IsText s t r) :
    Calls Tryz.prog 225 #[.string ⟨s.toArray⟩] w fun e w' => e = .returned (.agg #[strV t, strV r, .bool true]) ∧ Q w w' := by
  have c := fun w => ToText_some s t r w hs h
  have C := Lib.hid c
  clear c h
  go_enter Tryz.func225, Tryz.ntmps225
  go_wp2_with fail
  refine (C.out _).mono ?_
  rintro e w1 ⟨rfl, q1⟩
  have q2 := (Q.alloc w _).trans q1
  have hb := (Blk.new w _ _).stays q1
  have HQ := Lib.hid q2; have HB := Lib.hid hb
  obtain ⟨c0, c1, c2, f0, f1, f2⟩ := hb.c3
  obtain ⟨s0, s1, s2⟩ := hb.s3
  have S0 := Lib.hid s0; have S1 := Lib.hid s1; have S2 := Lib.hid s2; clear s0 s1 s2
  clear q1 q2
  go_wp2_with fail
  refine bodyPost_ret (v := .agg #[strV t, strV r, .bool true]) ?_ rfl ?_
  · simp [results, Tryz.results225, go_sem, S0.out, S1.out, S2.out]
  exact ⟨rfl, ((HQ.out.setCell (by simp) _).setCell (by simp) _).setCell (by simp) _⟩
end Go.Proofs.YtcflpcpkmhljkaaGreatDoor
end

/- (Less) Plain: the order of texts, byte by byte. -/
section
namespace Go.Proofs.YtcflpcpkmhljkaaGreatDoor

theorem lessL_iff (a b : Bytes) : lessL a b = true ↔ a < b := by
  induction a generalizing b with
  | nil => cases b <;> simp [lessL]
  | cons x a ih =>
    cases b with
    | nil => simp [lessL]
    | cons y b =>
      rw [lessL, List.cons_lt_cons_iff]
      by_cases h : x = y
      · subst h
        rw [if_pos rfl, ih]
        constructor
        · exact fun h => .inr ⟨rfl, h⟩
        · rintro (h | ⟨_, h⟩)
          · exact absurd h (UInt8.lt_irrefl _)
          · exact h
      · rw [if_neg h, decide_eq_true_eq, ← UInt8.lt_iff_toNat_lt]
        exact ⟨.inl, fun h' => h'.elim id (fun e => absurd e.1 h)⟩
theorem less_total {a b : Bytes} (h : ¬ a < b) (hne : a ≠ b) : b < a := by
  have h1 : b ≤ a := List.not_lt.1 h
  rcases List.le_iff_lt_or_eq.1 h1 with h2 | h2
  · exact h2
  · exact absurd h2.symm hne
end Go.Proofs.YtcflpcpkmhljkaaGreatDoor
end

/- (DictRd) Plain: a dictionary's bytes read again (dict.Get, dict.Prefix). No program in sight. -/
section
namespace Go.Proofs.YtcflpcpkmhljkaaGreatDoor
set_option linter.unusedVariables false

/-- a block: its first term, its bytes, how many entries it has -/
abbrev PartD := Bytes × Bytes × Nat
def partD (g : List EntryL) : PartD := ((g.headD ([], [])).1, blockE [] g, g.length)
def partsD (l : List EntryL) : List PartD := (groupsF l.length l).map partD
def idxD (ps : List PartD) : Bytes := ps.flatMap fun p => textE p.1 ++ varE p.2.1.length
def allD (ps : List PartD) : Bytes := ps.flatMap fun p => p.2.1
theorem dictE_parts (l : List EntryL) : dictE l = varE l.length ++ (idxD (partsD l) ++ allD (partsD l)) := by
  unfold dictE partsD idxD allD
  rw [List.flatMap_map, List.flatMap_map]
  rfl
theorem groupsF_get (n : Nat) (l : List EntryL) (h : l.length ≤ n) (i : Nat) : (groupsF n l)[i]? = if 16 * i < l.length then some ((l.drop (16 * i)).take 16) else none := by
  induction n generalizing l i with
  | zero =>
    have : l = [] := List.eq_nil_of_length_eq_zero (by omega)
    subst this
    simp [groupsF]
  | succ n ih =>
    rw [groupsF]
    by_cases hl : l = []
    · subst hl; simp
    · rw [if_neg hl]
      have hp : 0 < l.length := List.length_pos_iff.2 hl
      cases i with
      | zero => simp [hp]
      | succ i =>
        rw [List.getElem?_cons_succ, ih _ (by rw [List.length_drop]; omega), List.length_drop, List.drop_drop]
        by_cases hlt : 16 * (i + 1) < l.length
        · rw [if_pos (by omega), if_pos hlt, show 16 + 16 * i = 16 * (i + 1) by omega]
        · rw [if_neg (by omega), if_neg hlt]
theorem groupsF_length (n : Nat) (l : List EntryL) (h : l.length ≤ n) : (groupsF n l).length = (l.length + 15) / 16 := by
  have hg := groupsF_get n l h
  have h1 : ∀ i, i < (groupsF n l).length ↔ 16 * i < l.length := by
    intro i
    have hgi := hg i
    by_cases hi : 16 * i < l.length
    · rw [if_pos hi] at hgi
      exact ⟨fun _ => hi, fun _ => (List.getElem?_eq_some_iff.1 hgi).1⟩
    · rw [if_neg hi] at hgi
      exact ⟨fun h => absurd (List.getElem?_eq_none_iff.1 hgi) (by omega), fun h => absurd h hi⟩
  have a := h1 ((l.length + 15) / 16)
  have b := h1 ((groupsF n l).length)
  by_cases hz : (groupsF n l).length = 0
  · have := h1 0; omega
  · have c := h1 ((groupsF n l).length - 1); omega
theorem partsD_get (l : List EntryL) (i : Nat) : (partsD l)[i]? = if 16 * i < l.length then some (partD ((l.drop (16 * i)).take 16)) else none := by
  unfold partsD
  rw [List.getElem?_map, groupsF_get _ l (Nat.le_refl _) i]
  split <;> rfl
theorem partsD_length (l : List EntryL) : (partsD l).length = (l.length + 15) / 16 := by
  unfold partsD; rw [List.length_map, groupsF_length _ _ (Nat.le_refl _)]
/-- what a reader finds of an entry -/
theorem alike_take (a b : Bytes) : a.take (alikeN a b) = b.take (alikeN a b) := by
  induction a generalizing b with
  | nil => cases b <;> simp [alikeN]
  | cons x a ih =>
    cases b with
    | nil => simp [alikeN]
    | cons y b =>
      rw [alikeN]
      by_cases h : x = y
      · rw [if_pos h, List.take_succ_cons, List.take_succ_cons, ih b, h]
      · rw [if_neg h]; simp
theorem alike_le (a b : Bytes) : alikeN a b ≤ a.length ∧ alikeN a b ≤ b.length := by
  induction a generalizing b with
  | nil => cases b <;> simp [alikeN]
  | cons x a ih =>
    cases b with
    | nil => simp [alikeN]
    | cons y b =>
      rw [alikeN]
      split
      · have := ih b; simp; omega
      · simp
theorem alike_join (a b : Bytes) : a.take (alikeN a b) ++ b.drop (alikeN a b) = b := by rw [alike_take, List.take_append_drop]

theorem entriesRight_pair (last : Bytes) (l : List EntryL) (h : entriesRight last l = true) : (l.map (·.1)).Pairwise (· < ·) ∧ (∀ e ∈ l, last < e.1 ∧ e.1.length ≤ 40 ∧ e.2.length ≤ 4194304) := by
  induction l generalizing last with
  | nil => simp
  | cons e l ih =>
    rw [entriesRight] at h
    simp only [Bool.and_eq_true, decide_eq_true_eq] at h
    obtain ⟨⟨⟨h1, h2⟩, h3⟩, h4⟩ := h
    have h1 := (lessL_iff _ _).1 h1
    obtain ⟨i1, i2⟩ := ih e.1 h4
    refine ⟨?_, ?_⟩
    · rw [List.map_cons, List.pairwise_cons]
      refine ⟨fun x hx => ?_, i1⟩
      obtain ⟨y, hy, rfl⟩ := List.mem_map.1 hx
      exact (i2 y hy).1
    · intro x hx
      rcases List.mem_cons.1 hx with rfl | hx
      · exact ⟨h1, h2, h3⟩
      · exact ⟨List.lt_trans h1 (i2 x hx).1, (i2 x hx).2⟩
theorem entriesRight_of (last : Bytes) (l : List EntryL) (h1 : (l.map (·.1)).Pairwise (· < ·)) (h2 : ∀ e ∈ l, last < e.1 ∧ e.1.length ≤ 40 ∧ e.2.length ≤ 4194304) : entriesRight last l = true := by
  induction l generalizing last with
  | nil => rfl
  | cons e l ih =>
    rw [List.map_cons, List.pairwise_cons] at h1
    rw [entriesRight]
    have he := h2 e (by simp)
    rw [(lessL_iff _ _).2 he.1, decide_eq_true he.2.1, decide_eq_true he.2.2, ih e.1 h1.2 (fun x hx => ⟨h1.1 x.1 (List.mem_map.2 ⟨x, hx, rfl⟩), (h2 x (by simp [hx])).2⟩)]
    rfl
/-! ### texts that begin so -/
theorem prefix_ge (p t : Bytes) (h : p <+: t) : ¬ t < p := by
  obtain ⟨s, rfl⟩ := h
  induction p with
  | nil => simp
  | cons a p ih =>
    rw [List.cons_append, List.cons_lt_cons_iff]
    rintro (h | ⟨_, h⟩)
    · exact UInt8.lt_irrefl _ h
    · exact ih h
theorem prefix_gone (p x t : Bytes) (h1 : p < x) (h2 : ¬ p <+: x) (h3 : x < t) : ¬ p <+: t := by
  induction p generalizing x t with
  | nil => exact absurd (List.nil_prefix) h2
  | cons a p ih =>
    cases x with
    | nil => simp at h1
    | cons b x =>
      cases t with
      | nil => simp at h3
      | cons c t =>
        rw [List.cons_lt_cons_iff] at h1 h3
        rw [List.cons_prefix_cons] at h2 ⊢
        rintro ⟨rfl, h⟩
        rcases h1 with h1 | ⟨rfl, h1⟩
        · rcases h3 with h3 | ⟨rfl, _⟩
          · exact absurd (UInt8.lt_trans h1 h3) (UInt8.lt_irrefl _)
          · exact UInt8.lt_irrefl _ h1
        · rcases h3 with h3 | ⟨_, h3⟩
          · exact UInt8.lt_irrefl _ h3
          · exact ih x t h1 (fun h' => h2 ⟨rfl, h'⟩) h3 h
/-! ### the blocks of a right list -/
theorem groups_all (n : Nat) (l : List EntryL) (h : l.length ≤ n) : (groupsF n l).flatten = l := by
  induction n generalizing l with
  | zero => have : l = [] := List.eq_nil_of_length_eq_zero (by omega); subst this; rfl
  | succ n ih =>
    rw [groupsF]
    split
    · rename_i e; subst e; rfl
    · rename_i e
      have hp : 0 < l.length := List.length_pos_iff.2 e
      rw [List.flatten_cons, ih _ (by rw [List.length_drop]; omega), List.take_append_drop]
abbrev groupsD (l : List EntryL) : List (List EntryL) := groupsF l.length l
theorem groupsD_ne (l : List EntryL) : ∀ g ∈ groupsD l, g ≠ [] ∧ g.length ≤ 16 := by
  intro g hg
  obtain ⟨i, hi⟩ := List.mem_iff_getElem?.1 hg
  rw [groupsF_get _ l (Nat.le_refl _) i] at hi
  split at hi
  · cases hi
    refine ⟨?_, by rw [List.length_take]; omega⟩
    intro e
    have := congrArg List.length e
    rw [List.length_take, List.length_drop, List.length_nil] at this
    omega
  · cases hi
def headT (g : List EntryL) : Bytes := (g.headD ([], [])).1
/-- groups whose entries rise, none empty -/
def GrpsUp (gs : List (List EntryL)) : Prop := (∀ g ∈ gs, g ≠ []) ∧ (gs.flatten.map (·.1)).Pairwise (· < ·)
theorem grps_of (l : List EntryL) (h : (l.map (·.1)).Pairwise (· < ·)) : GrpsUp (groupsD l) := ⟨fun g hg => (groupsD_ne l g hg).1, by rw [groups_all _ _ (Nat.le_refl _)]; exact h⟩
theorem GrpsUp.tail {g : List EntryL} {gs : List (List EntryL)} (h : GrpsUp (g :: gs)) : GrpsUp gs := by
  refine ⟨fun x hx => h.1 x (by simp [hx]), ?_⟩
  have := h.2
  rw [List.flatten_cons, List.map_append, List.pairwise_append] at this
  exact this.2.1
theorem GrpsUp.drop {gs : List (List EntryL)} (h : GrpsUp gs) (k : Nat) : GrpsUp (gs.drop k) := by
  induction k with
  | zero => simpa using h
  | succ k ih =>
    by_cases hk : k < gs.length
    · rw [List.drop_eq_getElem_cons hk] at ih
      exact ih.tail
    · rw [List.drop_eq_nil_of_le (by omega)]
      exact ⟨by simp, by simp⟩
theorem GrpsUp.head_le {g : List EntryL} {gs : List (List EntryL)} (h : GrpsUp (g :: gs)) : (∀ e ∈ g, e.1 = headT g ∨ headT g < e.1) ∧ (∀ e ∈ gs.flatten, headT g < e.1) ∧ (∀ e ∈ g, ∀ f ∈ gs.flatten, e.1 < f.1) ∧ headT g ∈ g.map (·.1) := by
  have hne := h.1 g (by simp)
  have hp := h.2
  rw [List.flatten_cons, List.map_append, List.pairwise_append] at hp
  obtain ⟨p1, p2, p3⟩ := hp
  cases g with
  | nil => exact absurd rfl hne
  | cons a g =>
    rw [List.map_cons, List.pairwise_cons] at p1
    refine ⟨fun e he => ?_, fun e he => p3 _ (by simp [headT]) _ (List.mem_map.2 ⟨e, he, rfl⟩), fun e he f hf => p3 _ (List.mem_map.2 ⟨e, he, rfl⟩) _ (List.mem_map.2 ⟨f, hf, rfl⟩), by simp [headT]⟩
    rcases List.mem_cons.1 he with rfl | he
    · exact .inl rfl
    · exact .inr (p1.1 _ (List.mem_map.2 ⟨e, he, rfl⟩))
/-- the firsts of the groups rise -/
theorem GrpsUp.firsts {gs : List (List EntryL)} (h : GrpsUp gs) : (gs.map headT).Pairwise (· < ·) := by
  induction gs with
  | nil => simp
  | cons g gs ih =>
    rw [List.map_cons, List.pairwise_cons]
    refine ⟨fun x hx => ?_, ih h.tail⟩
    obtain ⟨y, hy, rfl⟩ := List.mem_map.1 hx
    obtain ⟨a, b, c, d⟩ := h.head_le
    have hyne := h.1 y (by simp [hy])
    cases y with
    | nil => exact absurd rfl hyne
    | cons z y => exact b z (List.mem_flatten.2 ⟨_, hy, by simp⟩)
/-- where a term may stand: the last group whose first term is not greater -/
def fromJ (gs : List (List EntryL)) (t : Bytes) : Nat := gs.findIdx (fun g => lessL t (headT g)) - 1
def findE (l : List EntryL) (t : Bytes) : Option Bytes := (l.find? (fun e => e.1 == t)).map (·.2)
theorem find_none {l : List EntryL} {t : Bytes} (h : ∀ e ∈ l, e.1 ≠ t) : findE l t = none := by
  unfold findE
  rw [List.find?_eq_none.2 (fun e he => by simpa using h e he)]
  rfl
theorem findE_append (a b : List EntryL) (t : Bytes) : findE (a ++ b) t = (findE a t).or (findE b t) := by
  unfold findE
  rw [List.find?_append]
  cases List.find? (fun e => e.1 == t) a <;> rfl
theorem lt_ne {a b : Bytes} (h : a < b) : a ≠ b := fun e => by subst e; exact List.lt_irrefl _ h
theorem findIdx_drop (gs : List (List EntryL)) (t : Bytes) (h : GrpsUp gs) : ∀ i, gs.findIdx (fun g => lessL t (headT g)) ≤ i → ∀ g, gs[i]? = some g → t < headT g := by
  intro i hi g hg
  have hf := h.firsts
  obtain ⟨hlt, he⟩ := List.getElem?_eq_some_iff.1 hg
  have hlt' : gs.findIdx (fun g => lessL t (headT g)) < gs.length := by omega
  have h1 := List.findIdx_getElem (p := fun g => lessL t (headT g)) (xs := gs) (w := hlt')
  have h1 := (lessL_iff _ _).1 h1
  rcases Nat.eq_or_lt_of_le hi with e | e
  · subst he
    simp only [e] at h1
    exact h1
  · rw [List.pairwise_iff_getElem] at hf
    have := hf _ _ (by rw [List.length_map]; omega) (by rw [List.length_map]; omega) e
    rw [List.getElem_map, List.getElem_map, he] at this
    exact List.lt_trans h1 this
/-- what stands ahead of group j is less than what begins it -/
theorem ahead_lt (gs : List (List EntryL)) (h : GrpsUp gs) (j : Nat) (g : List EntryL) (hg : gs[j]? = some g) : ∀ e ∈ (gs.take j).flatten, e.1 < headT g := by
  induction gs generalizing j with
  | nil => simp at hg
  | cons a gs ih =>
    cases j with
    | zero => simp
    | succ j =>
      rw [List.getElem?_cons_succ] at hg
      rw [List.take_succ_cons, List.flatten_cons]
      intro e he
      rcases List.mem_append.1 he with he | he
      · obtain ⟨_, _, c, _⟩ := h.head_le
        have hm := List.mem_of_getElem? hg
        have hne := h.1 g (by simp [hm])
        cases g with
        | nil => exact absurd rfl hne
        | cons z y => exact c e he z (List.mem_flatten.2 ⟨_, hm, by simp⟩)
      · exact ih h.tail j hg e he
theorem fromJ_le (gs : List (List EntryL)) (t : Bytes) (j : Nat) (hj : j = fromJ gs t) (g : List EntryL) (hg : gs[j]? = some g) : j = 0 ∨ ¬ t < headT g := by
  by_cases h0 : j = 0
  · exact .inl h0
  · refine .inr fun h => ?_
    unfold fromJ at hj
    have := List.not_of_lt_findIdx (p := fun g => lessL t (headT g)) (xs := gs) (i := j) (by omega)
    obtain ⟨hlt, he⟩ := List.getElem?_eq_some_iff.1 hg
    rw [he] at this
    rw [(lessL_iff _ _).2 h] at this
    cases this
theorem flatten_at (gs : List (List EntryL)) (j : Nat) (g : List EntryL) (hg : gs[j]? = some g) : gs.flatten = (gs.take j).flatten ++ (g ++ (gs.drop (j + 1)).flatten) := by
  obtain ⟨hlt, he⟩ := List.getElem?_eq_some_iff.1 hg
  conv => lhs; rw [← List.take_append_drop j gs, List.flatten_append, List.drop_eq_getElem_cons hlt, List.flatten_cons, he]
/-- a term stands in its group, or nowhere -/
theorem get_group (gs : List (List EntryL)) (h : GrpsUp gs) (t : Bytes) (g : List EntryL) (hg : gs[fromJ gs t]? = some g) : findE gs.flatten t = findE g t := by
  rw [flatten_at gs _ g hg, findE_append, findE_append]
  have h1 : findE (gs.take (fromJ gs t)).flatten t = none := by
    rcases fromJ_le gs t _ rfl g hg with h0 | h0
    · rw [h0]; rfl
    · refine find_none fun e he e2 => ?_
      have := ahead_lt gs h _ g hg e he
      rw [e2] at this
      exact h0 this
  have h2 : findE (gs.drop (fromJ gs t + 1)).flatten t = none := by
    refine find_none fun e he e2 => ?_
    have hle : gs.findIdx (fun g => lessL t (headT g)) ≤ fromJ gs t + 1 := by unfold fromJ; omega
    obtain ⟨y, hy, hye⟩ := List.mem_flatten.1 he
    obtain ⟨i, hi⟩ := List.mem_iff_getElem?.1 hy
    rw [List.getElem?_drop] at hi
    have hlt := findIdx_drop gs t h _ (by omega) y hi
    have hyup := h.drop (fromJ gs t + 1 + i)
    obtain ⟨hl2, he2⟩ := List.getElem?_eq_some_iff.1 hi
    rw [List.drop_eq_getElem_cons hl2, he2] at hyup
    rcases hyup.head_le.1 e hye with h3 | h3
    · rw [← h3, e2] at hlt; exact List.lt_irrefl _ hlt
    · rw [e2] at h3; exact List.lt_irrefl _ (List.lt_trans hlt h3)
  rw [h1, h2]
  simp
/-- the groups that are read for a prefix -/
def preG (p : Bytes) : List (List EntryL) → List EntryL
  | [] => []
  | g :: gs => if lessL p (headT g) && !p.isPrefixOf (headT g) then [] else g.filter (fun e => p.isPrefixOf e.1) ++ preG p gs
theorem filter_none {l : List EntryL} {p : Bytes} (h : ∀ e ∈ l, ¬ p <+: e.1) : l.filter (fun e => p.isPrefixOf e.1) = [] := by
  rw [List.filter_eq_nil_iff]
  intro e he h2
  exact h e he (List.isPrefixOf_iff_prefix.1 h2)
theorem preG_eq (p : Bytes) (gs : List (List EntryL)) (h : GrpsUp gs) : preG p gs = gs.flatten.filter (fun e => p.isPrefixOf e.1) := by
  induction gs with
  | nil => rfl
  | cons g gs ih =>
    rw [preG, List.flatten_cons, List.filter_append]
    by_cases hb : lessL p (headT g) && !p.isPrefixOf (headT g)
    · rw [if_pos hb]
      simp only [Bool.and_eq_true, Bool.not_eq_true'] at hb
      have h1 := (lessL_iff _ _).1 hb.1
      have h2 : ¬ p <+: headT g := fun h => by rw [List.isPrefixOf_iff_prefix.2 h] at hb; exact absurd hb.2 (by simp)
      obtain ⟨a, b, _, _⟩ := h.head_le
      rw [filter_none (fun e he => ?_), filter_none (fun e he => prefix_gone p _ _ h1 h2 (b e he))]
      · rfl
      · rcases a e he with h3 | h3
        · rw [h3]; exact h2
        · exact prefix_gone p _ _ h1 h2 h3
    · rw [if_neg hb, ih h.tail]
theorem prefix_from (p : Bytes) (gs : List (List EntryL)) (h : GrpsUp gs) : preG p (gs.drop (fromJ gs p)) = gs.flatten.filter (fun e => p.isPrefixOf e.1) := by
  rw [preG_eq p _ (h.drop _)]
  conv => rhs; rw [← List.take_append_drop (fromJ gs p) gs, List.flatten_append, List.filter_append]
  rw [filter_none (l := (gs.take (fromJ gs p)).flatten), List.nil_append]
  intro e he
  cases hg : gs[fromJ gs p]? with
  | none =>
    -- there is no such group: the list is empty
    have hl : gs.length ≤ fromJ gs p := by simpa using hg
    have := List.findIdx_le_length (p := fun g => lessL p (headT g)) (xs := gs)
    unfold fromJ at hl he
    have : gs = [] := List.eq_nil_of_length_eq_zero (by omega)
    subst this
    simp at he
  | some g =>
    rcases fromJ_le gs p _ rfl g hg with h0 | h0
    · rw [h0] at he; simp at he
    · have h1 := ahead_lt gs h _ g hg e he
      intro h2
      rcases Classical.em (headT g < p) with h3 | h3
      · exact prefix_ge _ _ h2 (List.lt_trans h1 h3)
      · rcases Classical.em (headT g = p) with h4 | h4
        · rw [h4] at h1; exact prefix_ge _ _ h2 h1
        · exact h0 (less_total h3 h4)
end Go.Proofs.YtcflpcpkmhljkaaGreatDoor
end

/- (WDictE) dict.entry: walked, at what is there. -/
section
namespace Go.Proofs.YtcflpcpkmhljkaaGreatDoor
open Go.RowKit
set_option linter.unusedVariables false

set_option maxRecDepth 100000 in
set_option maxHeartbeats 2000000 in
theorem DEntry_ok (s last : Bytes) (e : EntryL) (r : Bytes) (w : World) (hs : s.length ≤ 9223372036854775807) (hl : last.length ≤ 1000000) (he : e.1.length ≤ 1000000 ∧ e.2.length ≤ 1000000000)
    (h : s = varE (alikeN last e.1) ++ (textE (e.1.drop (alikeN last e.1)) ++ (textE e.2 ++ r))) :
    Calls Tryz.prog 216 #[.string ⟨s.toArray⟩, .string ⟨last.toArray⟩] w fun e' w' => e' = .returned (.agg #[strV e.1, strV e.2, strV r, .bool true]) ∧ Q w w' := by
  obtain ⟨t, x⟩ := e
  simp only at h he ⊢
  have ha := alike_le last t
  have hj := alike_join last t
  generalize alikeN last t = n at *
  have hlen := congrArg List.length h
  simp only [List.length_append] at hlen
  have c := fun w => DNumber_ok s n (textE (t.drop n) ++ (textE x ++ r)) last.length w hs ⟨by omega, h⟩ ha.1 (by omega)
  have hr1 : (textE (t.drop n) ++ (textE x ++ r)).length ≤ 9223372036854775807 := by simp only [List.length_append]; omega
  have hr2 : (textE x ++ r).length ≤ 9223372036854775807 := by simp only [List.length_append]; omega
  have htd : (t.drop n).length ≤ 1000000 := by rw [List.length_drop]; omega
  have c2 := fun w => DText_ok (textE (t.drop n) ++ (textE x ++ r)) (t.drop n) (textE x ++ r) w hr1 ⟨by omega, rfl⟩
  have c3 := fun w => DText_ok (textE x ++ r) x r w hr2 ⟨by omega, rfl⟩
  generalize textE (t.drop n) ++ (textE x ++ r) = r1 at *
  generalize textE x ++ r = r2 at *
  have hx : ({ data := last.toArray } : ByteArray).extract 0 n = ⟨(last.take n).toArray⟩ := bytes_take last n
  have hcat : ({ data := (last.take n).toArray } : ByteArray) ++ { data := (t.drop n).toArray } = ⟨t.toArray⟩ := by rw [bytes_append, hj]
  have hrl : r.length ≤ 9223372036854775807 := by omega
  have C := Lib.hid c; have C2 := Lib.hid c2; have C3 := Lib.hid c3; have HX := Lib.hid hx; have HCAT := Lib.hid hcat
  have hn := ha.1
  have htk : (last.take n).length = n := by rw [List.length_take]; omega
  generalize hq : t.drop n = q at *
  generalize hq2 : last.take n = lt at *
  clear c c2 c3 h hj hx hcat hlen ha hq hq2
  go_enter Tryz.func216, Tryz.ntmps216
  go_wp2_with fail
  refine (C.out _).mono ?_
  rintro e w1 ⟨rfl, q1⟩
  have b1 := (Blk.new w _ _).stays q1
  have q1' := (Q.alloc w _).trans q1
  have B1 := Lib.hid b1; have Q1 := Lib.hid q1'
  clear b1 q1' q1
  go_wp2_with fail
  refine (C2.out _).mono ?_
  rintro e w2 ⟨rfl, q2⟩
  have n2 := (Blk.new w1 _ _).stays q2
  have b2 := (B1.out.alloc _).stays q2
  have q2' := (Q1.out.trans (Q.alloc _ _)).trans q2
  have B2 := Lib.hid b2; have Q2 := Lib.hid q2'; have N2 := Lib.hid n2
  obtain ⟨nc0, nc1, nc2, _⟩ := n2.c3
  clear b2 q2' q2 B1 Q1 n2
  go_wp2_with fail
  refine (C3.out _).mono ?_
  rintro e w3 ⟨rfl, q3⟩
  have t3 := (Blk.new w2 _ _).stays q3
  have n3 := (N2.out.alloc _).stays q3
  have b3 := (B2.out.alloc _).stays q3
  have q3' := (Q2.out.trans (Q.alloc _ _)).trans q3
  have B3 := Lib.hid b3; have Q3 := Lib.hid q3'
  obtain ⟨nc0, nc1, nc2, _⟩ := n3.c3
  obtain ⟨tc0, tc1, tc2, _⟩ := t3.c3
  have N3 := Lib.hid n3; have T3 := Lib.hid t3
  clear b3 q3' q3 B2 Q2 n3 t3 N2
  go_wp2_with fail
  have v4 := Blk.new w3 310 #[.string ⟨x.toArray⟩, .string ⟨r.toArray⟩, .bool true]
  have b4 := B3.out.alloc (.cells #[.string ⟨x.toArray⟩, .string ⟨r.toArray⟩, .bool true] 310)
  have q4 := Q3.out.trans (Q.alloc w3 (.cells #[.string ⟨x.toArray⟩, .string ⟨r.toArray⟩, .bool true] 310))
  have n4 := N3.out.alloc (.cells #[.string ⟨x.toArray⟩, .string ⟨r.toArray⟩, .bool true] 310)
  have t4 := T3.out.alloc (.cells #[.string ⟨x.toArray⟩, .string ⟨r.toArray⟩, .bool true] 310)
  generalize w3.alloc (.cells #[.string ⟨x.toArray⟩, .string ⟨r.toArray⟩, .bool true] 310) = w4 at *
  obtain ⟨c0, c1, c2, c3, f0, f1, f2, f3⟩ := b4.c4
  obtain ⟨nc0, nc1, nc2, _⟩ := n4.c3
  obtain ⟨tc0, tc1, tc2, _⟩ := t4.c3
  obtain ⟨vc0, vc1, vc2, _⟩ := v4.c3
  have B4 := Lib.hid b4; have Q4 := Lib.hid q4
  clear b4 q4 n4 t4 v4 B3 Q3 N3 T3
  have hx := HX.out; have hcat := HCAT.out
  have hn2 : (n : Int) ≤ (last.length : Int) := by omega
  have hsum : ∀ W : World, (Op.stringOp .add ⟨lt.toArray⟩ ⟨q.toArray⟩).run Tryz.prog W = .ok (.string (⟨lt.toArray⟩ ++ ⟨q.toArray⟩)) W := fun W => run_string_add_sum W _ _ (by simp [ByteArray.size]; omega)
  rw [hcat] at hsum
  go_still_tail 23, (by kernel_rfl)
  change wpList _ _ _ _ _ w4.drew
  have B5 := Lib.hid (B4.out.stays (Q.drew _))
  have Q5 := Lib.hid (Q4.out.trans (Q.drew _))
  generalize w4.drew = w5 at *
  obtain ⟨d0, d1, d2, d3, g0, g1, g2, g3⟩ := B5.out.c4
  go_wp2_with fail
  obtain ⟨s0, s1, s2, s3⟩ := B5.out.s4
  refine bodyPost_ret (v := .agg #[strV t, strV x, strV r, .bool true]) ?_ rfl ?_
  · simp [results, Tryz.results216, go_sem, s0, s1, s2, s3]
  exact ⟨rfl, (((Q5.out.setCell (by simp) _).setCell (by simp) _).setCell (by simp) _).setCell (by simp) _⟩
end Go.Proofs.YtcflpcpkmhljkaaGreatDoor
end
