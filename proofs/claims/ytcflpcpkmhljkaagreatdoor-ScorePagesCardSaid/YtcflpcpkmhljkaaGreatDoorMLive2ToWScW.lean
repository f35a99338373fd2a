/- Joined texts of one proof: Live2, Qry, Qry4, WScW. -/
import Derived.Test.YtcflpcpkmhljkaaGreatDoorMMapsToLive
import Derived.Lib.BitFns
import Derived.Test.YtcflpcpkmhljkaaGreatDoorShelf
import Derived.Test.YtcflpcpkmhljkaaGreatDoorMKitToSegSpec
import Derived.Deep.QuietTactic
set_option linter.unusedSimpArgs false
set_option linter.unusedVariables false
set_option linter.unnecessarySimpa false
/- (Live2) Plain laws of chapter 15, second part: merges, what is told of an ID, how many there are; the laws of the statements. No program in sight. -/
section
namespace Go.Proofs.YtcflpcpkmhljkaaGreatDoor
open Go.Sort
set_option linter.unusedVariables false

theorem live_perm (ps : List PartL) (h : ((liveL ps).map (·.1)).Nodup) : (docsL ps).Perm (liveL ps) :=
  (List.perm_ext_iff_of_nodup (nodup_of_map (nodup_docsL ps h)) (nodup_of_map h)).2 (fun d => mem_docsL ps h d)
theorem many_eq (ps : List PartL) (h : ((liveL ps).map (·.1)).Nodup) : (liveM ps).length = (docsL ps).length := by
  rw [liveM_eq ps h]; exact (live_perm ps h).length_eq.symm
theorem right_of_live (ps : List PartL) (h : ∀ p ∈ ps, PartOk p) (d : DocL) (hd : d ∈ liveL ps) : rightB d.1 d.2 = true := by
  obtain ⟨p, hp, hd⟩ := List.mem_flatMap.1 hd
  exact (h p hp).1.1 d ((liveF_sub _ _ _).subset hd)
theorem docs_ok (ps : List PartL) (h : PartsOk ps) : docsOk (docsL ps) :=
  ⟨fun d hd => right_of_live ps h.1 d ((mem_docsL ps h.2 d).1 hd), nodup_docsL ps h.2⟩
theorem slice_split (ps : List PartL) (i n : Nat) (h : i ≤ n) : ps = ps.take i ++ ((ps.take n).drop i ++ ps.drop n) := by
  have h1 : (ps.take n).drop i ++ ps.drop n = ps.drop i := by
    by_cases hn : n ≤ ps.length
    · have h2 : ps.drop i = ((ps.take n) ++ ps.drop n).drop i := by rw [List.take_append_drop]
      rw [h2, List.drop_append_of_le_length (by rw [List.length_take]; omega)]
    · rw [List.drop_eq_nil_of_le (by omega : ps.length ≤ n), List.take_of_length_le (by omega : ps.length ≤ n), List.append_nil]
  rw [h1, List.take_append_drop]
theorem slice_ok (ps : List PartL) (i n : Nat) (h : PartsOk ps) : PartsOk ((ps.take n).drop i) := by
  have hs : ((ps.take n).drop i).Sublist ps := (List.drop_sublist _ _).trans (List.take_sublist _ _)
  refine ⟨fun p hp => h.1 p (hs.subset hp), (List.Sublist.map _ ?_).nodup h.2⟩
  unfold liveL
  exact sub_flatMap hs _
/-- the parts behind a merge -/
def mergedL (ps : List PartL) (i n : Nat) : List PartL := ps.take i ++ ((freshL (docsL ((ps.take n).drop i))).1 ++ ps.drop n)
theorem merged_perm (ps : List PartL) (i n : Nat) (hin : i ≤ n) (h : PartsOk ps) : (liveL (mergedL ps i n)).Perm (liveL ps) := by
  have e := slice_split ps i n hin
  unfold mergedL
  conv => rhs; rw [e]
  rw [liveL_append, liveL_append, liveL_append, liveL_append, live_fresh]
  exact List.Perm.append_left _ (List.Perm.append_right _ (live_perm _ (slice_ok ps i n h).2))
theorem merged_ok (ps : List PartL) (i n : Nat) (hin : i ≤ n) (h : PartsOk ps) (hl : (docsL ((ps.take n).drop i)).length ≤ 500) : PartsOk (mergedL ps i n) := by
  refine ⟨fun p hp => ?_, ((merged_perm ps i n hin h).map _).nodup_iff.2 h.2⟩
  unfold mergedL at hp
  rcases List.mem_append.1 hp with hp | hp
  · exact h.1 p (List.mem_of_mem_take hp)
  · rcases List.mem_append.1 hp with hp | hp
    · exact fresh_ok _ (docs_ok _ (slice_ok ps i n h)) hl p hp
    · exact h.1 p (List.mem_of_mem_drop hp)
theorem merge_ok (ps : List PartL) (a b : Int) (h : PartsOk ps) : PartsOk (mergeL ps a b).1 := by
  unfold mergeL
  split
  · exact h
  · rename_i hc
    simp only
    split
    · exact h
    · rename_i hl
      exact merged_ok ps a.toNat (b.toNat + 1) (by omega) h (by omega)
theorem merge_length (ps : List PartL) (a b : Int) : (mergeL ps a b).1.length ≤ ps.length := by
  unfold mergeL
  split
  · simp
  · rename_i hc
    simp only
    split
    · simp
    · have := fresh_length (docsL ((ps.take (b.toNat + 1)).drop a.toNat))
      simp only [List.length_append, List.length_take, List.length_drop]
      omega
theorem perm_docs (ps qs : List PartL) (h : PartsOk ps) (k : PartsOk qs) (hp : (liveL qs).Perm (liveL ps)) : docsL qs = docsL ps := docsL_ext qs ps k.2 h.2 (fun d => hp.mem_iff)
theorem merge_docs (ps : List PartL) (a b : Int) (h : PartsOk ps) : docsL (mergeL ps a b).1 = docsL ps := by
  unfold mergeL
  split
  · rfl
  · rename_i hc
    simp only
    split
    · rfl
    · rename_i hl
      exact perm_docs ps _ h (merged_ok ps a.toNat (b.toNat + 1) (by omega) h (by omega)) (merged_perm ps a.toNat (b.toNat + 1) (by omega) h)

theorem getL_iff (ps : List PartL) (h : PartsOk ps) (id t : Bytes) : getL ps id = some t ↔ (id, t) ∈ liveL ps := by
  induction ps with
  | nil => simp [getL, liveL]
  | cons p ps ih =>
    have hok := h.1 p (by simp)
    have hs : PartsOk ps := by
      refine ⟨fun q hq => h.1 q (by simp [hq]), ?_⟩
      have := h.2
      rw [liveL, List.flatMap_cons, List.map_append, List.nodup_append] at this
      exact this.2.1
    have hdis : ∀ t1 t2, (id, t1) ∈ liveOf p → (id, t2) ∈ liveL ps → False := by
      intro t1 t2 h1 h2
      have := h.2
      rw [liveL, List.flatMap_cons, List.map_append, List.nodup_append] at this
      exact this.2.2 _ (List.mem_map.2 ⟨_, h1, rfl⟩) _ (List.mem_map.2 ⟨_, h2, rfl⟩) rfl
    have hcons : (id, t) ∈ liveL (p :: ps) ↔ (id, t) ∈ liveOf p ∨ (id, t) ∈ liveL ps := by
      rw [liveL, List.flatMap_cons, List.mem_append]; rfl
    have hlive : ∀ t, (id, t) ∈ liveOf p ↔ ∃ i, p.1[i]? = some (id, t) ∧ bit p.2 (0 + i) = false := fun t => mem_liveF _ _ _ _
    rw [hcons, getL]
    cases hf : findL p.1 id with
    | none =>
      simp only
      rw [ih hs]
      constructor
      · exact Or.inr
      · rintro (h1 | h1)
        · obtain ⟨i, h2, _⟩ := (hlive t).1 h1
          exact absurd (List.mem_map.2 ⟨_, List.mem_of_getElem? h2, rfl⟩) (findL_none _ _ hf)
        · exact h1
    | some k =>
      obtain ⟨d, hd, hid⟩ := findL_some _ _ _ hf
      have hone : ∀ i t, p.1[i]? = some (id, t) → i = k ∧ t = d.2 := by
        intro i t hi
        have e : i = k := at_one hok.1.2 hi hd hid.symm
        subst e
        rw [hd] at hi
        cases hi
        exact ⟨rfl, rfl⟩
      have hdd : d = (id, d.2) := by rw [← hid]
      simp only
      cases hb : bit p.2 k with
      | true =>
        rw [if_pos rfl, ih hs]
        constructor
        · exact Or.inr
        · rintro (h1 | h1)
          · obtain ⟨i, h2, h3⟩ := (hlive t).1 h1
            obtain ⟨e, _⟩ := hone i t h2
            rw [Nat.zero_add, e, hb] at h3; cases h3
          · exact h1
      | false =>
        have hin : (id, d.2) ∈ liveOf p := (hlive _).2 ⟨k, by rw [hd, ← hdd], by rw [Nat.zero_add]; exact hb⟩
        have hg : p.1.getD k ([], []) = d := by rw [List.getD_eq_getElem?_getD, hd]; rfl
        rw [if_neg (by simp), hg]
        constructor
        · intro e; cases e; exact .inl hin
        · rintro (h1 | h1)
          · obtain ⟨i, h2, h3⟩ := (hlive t).1 h1
            rw [(hone i t h2).2]
          · exact (hdis _ _ hin h1).elim
theorem getL_ext (ps qs : List PartL) (h : PartsOk ps) (k : PartsOk qs) (id id' : Bytes) (hm : ∀ t, (id, t) ∈ liveL ps ↔ (id', t) ∈ liveL qs) : getL ps id = getL qs id' := by
  cases h1 : getL ps id with
  | some t => exact ((getL_iff qs k id' t).2 ((hm t).1 ((getL_iff ps h id t).1 h1))).symm
  | none =>
    cases h2 : getL qs id' with
    | none => rfl
    | some t =>
      have := (getL_iff ps h id t).2 ((hm t).2 ((getL_iff qs k id' t).1 h2))
      rw [h1] at this; cases this
theorem getL_docs (ps qs : List PartL) (h : PartsOk ps) (k : PartsOk qs) (e : docsL ps = docsL qs) (id : Bytes) : getL ps id = getL qs id :=
  getL_ext ps qs h k id id (fun t => by rw [← mem_docsL ps h.2, ← mem_docsL qs k.2, e])
theorem many_docs (ps qs : List PartL) (h : PartsOk ps) (k : PartsOk qs) (e : docsL ps = docsL qs) : (liveM ps).length = (liveM qs).length := by
  rw [many_eq ps h.2, many_eq qs k.2, e]

/-! ### the laws -/
theorem apply_err (ps qs : List PartL) (ops : List OpL) : (applyL ps ops).2 = (applyL qs ops).2 := by
  unfold applyL
  split
  · rfl
  · split <;> rfl
theorem twice_docs (ps : List PartL) (ops : List OpL) (h : PartsOk ps) : docsL (applyL (applyL ps ops).1 ops).1 = docsL (applyL ps ops).1 := by
  have h1 := apply_ok ps ops h
  have h2 := apply_ok _ ops h1
  by_cases hl : ops.length < 1 ∨ 50 < ops.length
  · have : ∀ qs, (applyL qs ops).1 = qs := fun qs => by unfold applyL; rw [if_pos hl]
    rw [this]
  · by_cases hr : ops.all opRight = true
    · have e : ∀ qs, (applyL qs ops).1 = goneAll (idsL ops) qs ++ (freshL (moreL ops)).1 := fun qs => by unfold applyL; rw [if_neg hl, if_pos hr]
      refine docsL_ext _ _ h2.2 h1.2 (fun d => ?_)
      rw [e (applyL ps ops).1, mem_apply _ _ h1.1, e ps, mem_apply _ _ h.1]
      constructor
      · rintro (⟨a, b⟩ | a)
        · exact a
        · exact .inr a
      · rintro (⟨a, b⟩ | a)
        · exact .inl ⟨.inl ⟨a, b⟩, b⟩
        · exact .inr a
    · have : ∀ qs, (applyL qs ops).1 = qs := fun qs => by unfold applyL; rw [if_neg hl, if_neg hr]
      rw [this]
theorem lastL_append (a b : List OpL) (h : ∀ x ∈ a, ∀ y ∈ b, x.2.1 ≠ y.2.1) : lastL (a ++ b) = lastL a ++ lastL b := by
  induction a with
  | nil => rfl
  | cons o a ih =>
    have ih' := ih (fun x hx y hy => h x (by simp [hx]) y hy)
    rw [List.cons_append, lastL, lastL, ih']
    have hb : o.2.1 ∉ b.map (fun p => p.2.1) := by
      intro hm
      obtain ⟨y, hy, e⟩ := List.mem_map.1 hm
      exact h o (by simp) y hy e.symm
    by_cases ha : o.2.1 ∈ a.map (fun p => p.2.1)
    · rw [if_pos ha, if_pos (by rw [List.map_append]; exact List.mem_append_left _ ha)]
    · rw [if_neg ha, if_neg (by rw [List.map_append, List.mem_append]; exact fun e => e.elim ha hb)]; rfl
theorem mem_apply' (ps : List PartL) (ops : List OpL) (h : ∀ p ∈ ps, PartOk p) (he : (applyL ps ops).2.2 = 0) (d : DocL) :
    d ∈ liveL (applyL ps ops).1 ↔ (d ∈ liveL ps ∧ d.1 ∉ ops.map (fun o => o.2.1)) ∨ d ∈ moreL ops := by
  unfold applyL at he ⊢
  split at he
  · cases he
  · rename_i hl
    rw [if_neg hl]
    split at he
    · rename_i hr
      rw [if_pos hr, mem_apply _ _ h, lastL_ids]
    · cases he
theorem more_in (l : List OpL) (d : DocL) (h : d ∈ moreL l) : d.1 ∈ l.map (fun o => o.2.1) :=
  (lastL_ids l d.1).1 ((more_ids l).subset (List.mem_map.2 ⟨d, h, rfl⟩))
theorem apply_ok_of (ps : List PartL) (ops : List OpL) : (applyL ps ops).2.2 = 0 ↔ ¬ (ops.length < 1 ∨ 50 < ops.length) ∧ ops.all opRight = true := by
  unfold applyL
  split
  · simp_all
  · split
    · simp_all
    · simp_all
theorem swaps_docs (ps : List PartL) (a b : List OpL) (h : PartsOk ps) (ea : (applyL ps a).2.2 = 0) (eb : (applyL ps b).2.2 = 0) (hd : ∀ x ∈ a, ∀ y ∈ b, x.2.1 ≠ y.2.1) :
    docsL (applyL (applyL ps a).1 b).1 = docsL (applyL (applyL ps b).1 a).1 ∧
      (50 < a.length + b.length → (applyL ps (a ++ b)).2.2 = 6) ∧ (¬ 50 < a.length + b.length → (applyL ps (a ++ b)).2.2 = 0 ∧ docsL (applyL ps (a ++ b)).1 = docsL (applyL (applyL ps a).1 b).1) := by
  have oa := apply_ok ps a h
  have ob := apply_ok ps b h
  have oab := apply_ok _ b oa
  have oba := apply_ok _ a ob
  have eab : (applyL (applyL ps a).1 b).2.2 = 0 := by rw [apply_err _ ps]; exact eb
  have eba : (applyL (applyL ps b).1 a).2.2 = 0 := by rw [apply_err _ ps]; exact ea
  have na : ∀ d, d ∈ moreL a → d.1 ∉ b.map (fun o => o.2.1) := by
    intro d h1 h2
    obtain ⟨x, hx, e1⟩ := List.mem_map.1 (more_in a d h1)
    obtain ⟨y, hy, e2⟩ := List.mem_map.1 h2
    exact hd x hx y hy (e1.trans e2.symm)
  have nb : ∀ d, d ∈ moreL b → d.1 ∉ a.map (fun o => o.2.1) := by
    intro d h1 h2
    obtain ⟨x, hx, e1⟩ := List.mem_map.1 (more_in b d h1)
    obtain ⟨y, hy, e2⟩ := List.mem_map.1 h2
    exact hd y hy x hx (e2.trans e1.symm)
  have m1 : ∀ d, d ∈ liveL (applyL (applyL ps a).1 b).1 ↔ (d ∈ liveL ps ∧ d.1 ∉ a.map (fun o => o.2.1) ∧ d.1 ∉ b.map (fun o => o.2.1)) ∨ d ∈ moreL a ∨ d ∈ moreL b := by
    intro d
    rw [mem_apply' _ _ oa.1 eab, mem_apply' _ _ h.1 ea]
    constructor
    · rintro (⟨⟨x, y⟩ | x, z⟩ | x)
      · exact .inl ⟨x, y, z⟩
      · exact .inr (.inl x)
      · exact .inr (.inr x)
    · rintro (⟨x, y, z⟩ | x | x)
      · exact .inl ⟨.inl ⟨x, y⟩, z⟩
      · exact .inl ⟨.inr x, na d x⟩
      · exact .inr x
  have m2 : ∀ d, d ∈ liveL (applyL (applyL ps b).1 a).1 ↔ (d ∈ liveL ps ∧ d.1 ∉ a.map (fun o => o.2.1) ∧ d.1 ∉ b.map (fun o => o.2.1)) ∨ d ∈ moreL a ∨ d ∈ moreL b := by
    intro d
    rw [mem_apply' _ _ ob.1 eba, mem_apply' _ _ h.1 eb]
    constructor
    · rintro (⟨⟨x, y⟩ | x, z⟩ | x)
      · exact .inl ⟨x, z, y⟩
      · exact .inr (.inr x)
      · exact .inr (.inl x)
    · rintro (⟨x, y, z⟩ | x | x)
      · exact .inl ⟨.inl ⟨x, z⟩, y⟩
      · exact .inr x
      · exact .inl ⟨.inr x, nb d x⟩
  refine ⟨docsL_ext _ _ oab.2 oba.2 (fun d => by rw [m1, m2]), fun hl => ?_, fun hl => ?_⟩
  · unfold applyL; rw [if_pos (by right; simpa using hl)]
  · have ha := (apply_ok_of ps a).1 ea
    have hb := (apply_ok_of ps b).1 eb
    have eab' : (applyL ps (a ++ b)).2.2 = 0 := (apply_ok_of ps (a ++ b)).2 ⟨by rw [List.length_append]; omega, by rw [List.all_append, ha.2, hb.2]; rfl⟩
    refine ⟨eab', docsL_ext _ _ (apply_ok ps (a ++ b) h).2 oab.2 (fun d => ?_)⟩
    rw [m1, mem_apply' _ _ h.1 eab']
    have hm : moreL (a ++ b) = moreL a ++ moreL b := by unfold moreL; rw [lastL_append a b hd, List.filter_append, List.map_append]
    rw [hm, List.map_append, List.mem_append, List.mem_append, not_or]
/-- behind a bulk: what is told of an ID -/
theorem says_other (ps : List PartL) (ops : List OpL) (h : PartsOk ps) (he : (applyL ps ops).2.2 = 0) (id : Bytes) (hid : id ∉ ops.map (fun o => o.2.1)) : getL (applyL ps ops).1 id = getL ps id :=
  getL_ext _ _ (apply_ok ps ops h) h id id (fun t => by
    rw [mem_apply' _ _ h.1 he]
    constructor
    · rintro (⟨a, _⟩ | a)
      · exact a
      · exact absurd (more_in ops _ a) hid
    · exact fun a => .inl ⟨a, hid⟩)
theorem lastL_snoc (a : List OpL) (o : OpL) (b : List OpL) (hb : o.2.1 ∉ b.map (fun p => p.2.1)) : o ∈ lastL (a ++ o :: b) := by
  induction a with
  | nil => rw [List.nil_append, lastL, if_neg hb]; simp
  | cons x a ih =>
    rw [List.cons_append, lastL]
    split
    · exact ih
    · exact List.mem_cons_of_mem _ ih
theorem says_last (ps : List PartL) (a : List OpL) (o : OpL) (b : List OpL) (h : PartsOk ps) (he : (applyL ps (a ++ o :: b)).2.2 = 0) (hb : o.2.1 ∉ b.map (fun p => p.2.1)) :
    getL (applyL ps (a ++ o :: b)).1 o.2.1 = if o.1 then none else some o.2.2 := by
  have hin := lastL_snoc a o b hb
  have hone : ∀ d, d ∈ moreL (a ++ o :: b) → d.1 = o.2.1 → o.1 = false ∧ d = o.2 := by
    intro d hd e
    unfold moreL at hd
    obtain ⟨x, hx, rfl⟩ := List.mem_map.1 hd
    rw [List.mem_filter] at hx
    obtain ⟨i, hi⟩ := List.getElem?_of_mem hx.1
    obtain ⟨j, hj⟩ := List.getElem?_of_mem hin
    have hn := lastL_nodup (a ++ o :: b)
    unfold idsL at hn
    have h1 : ((lastL (a ++ o :: b)).map (fun o => o.2.1))[i]? = some o.2.1 := by simp [hi, e]
    have h2 : ((lastL (a ++ o :: b)).map (fun o => o.2.1))[j]? = some o.2.1 := by simp [hj]
    obtain ⟨a1, b1⟩ := List.getElem?_eq_some_iff.1 h1
    obtain ⟨a2, b2⟩ := List.getElem?_eq_some_iff.1 h2
    have : i = j := (List.getElem_inj hn).1 (b1.trans b2.symm)
    subst this
    rw [hi] at hj
    cases hj
    exact ⟨by simpa using hx.2, rfl⟩
  have hmem : o.2.1 ∈ (a ++ o :: b).map (fun o => o.2.1) := by simp
  cases hg : getL (applyL ps (a ++ o :: b)).1 o.2.1 with
  | none =>
    cases hd : o.1 with
    | true => rfl
    | false =>
      have : (o.2.1, o.2.2) ∈ liveL (applyL ps (a ++ o :: b)).1 := (mem_apply' _ _ h.1 he _).2 (.inr (by
        unfold moreL
        exact List.mem_map.2 ⟨o, List.mem_filter.2 ⟨hin, by simp [hd]⟩, rfl⟩))
      rw [← getL_iff _ (apply_ok ps _ h), hg] at this
      cases this
  | some t =>
    have := (mem_apply' _ _ h.1 he _).1 ((getL_iff _ (apply_ok ps _ h) _ _).1 hg)
    rcases this with ⟨_, h2⟩ | h2
    · exact absurd hmem h2
    · obtain ⟨h3, h4⟩ := hone _ h2 rfl
      rw [h3, ← h4]; simp
/-- one document deleted -/
theorem delete_one (ps : List PartL) (d : DocL) (h : PartsOk ps) (hd : d ∈ liveL ps) : (applyL ps [(true, (d.1, []))]).2 = ([], 0) ∧ (applyL ps [(true, (d.1, []))]).1.length = ps.length ∧
    ∀ x, x ∈ liveL (applyL ps [(true, (d.1, []))]).1 ↔ x ∈ liveL ps ∧ x.1 ≠ d.1 := by
  have hr := right_of_live ps h.1 d hd
  have ho : opRight (true, (d.1, [])) = true := by
    unfold rightB at hr
    simp only [Bool.and_eq_true] at hr
    simp [opRight, hr.1.1.1.1, hr.1.1.1.2, hr.1.2]
  have hm : moreL [(true, (d.1, []))] = [] := rfl
  have hi : idsL [(true, (d.1, []))] = [d.1] := rfl
  have e : applyL ps [(true, (d.1, []))] = (goneAll [d.1] ps ++ [], [], 0) := by
    unfold applyL
    rw [if_neg (by simp), if_pos (by simp [ho]), hm, hi]; rfl
  rw [e]
  refine ⟨rfl, by simp [goneAll_length], fun x => ?_⟩
  simp only [List.append_nil]
  rw [mem_goneAll _ _ h.1]
  simp
theorem delete_many (ps : List PartL) (d : DocL) (h : PartsOk ps) (hd : d ∈ liveL ps) : (liveM (applyL ps [(true, (d.1, []))]).1).length + 1 = (liveM ps).length := by
  have ho := apply_ok ps [(true, (d.1, []))] h
  obtain ⟨_, _, hm⟩ := delete_one ps d h hd
  rw [liveM_eq _ ho.2, liveM_eq _ h.2]
  have hp : (d :: liveL (applyL ps [(true, (d.1, []))]).1).Perm (liveL ps) := by
    have hn : (d :: liveL (applyL ps [(true, (d.1, []))]).1).Nodup := List.nodup_cons.2 ⟨fun hx => ((hm d).1 hx).2 rfl, nodup_of_map ho.2⟩
    refine (List.perm_ext_iff_of_nodup hn (nodup_of_map h.2)).2 (fun x => ?_)
    rw [List.mem_cons, hm]
    constructor
    · rintro (e | ⟨a, _⟩)
      · rw [e]; exact hd
      · exact a
    · intro hx
      by_cases e : x.1 = d.1
      · left
        have g1 := (getM_mem x.1 x.2 _ h.2).2 hx
        have g2 := (getM_mem d.1 d.2 _ h.2).2 hd
        rw [e, g2] at g1
        exact Prod.ext e (Option.some.inj g1).symm
      · exact .inr ⟨hx, e⟩
  exact hp.length_eq
theorem docs_nil (ps : List PartL) (h : PartsOk ps) (e : (liveM ps).length = 0) : docsL ps = [] := List.eq_nil_of_length_eq_zero (by rw [← many_eq ps h.2]; exact e)
/-- all parts together -/
theorem merge_all (ps : List PartL) (h : PartsOk ps) (hn : 2 ≤ ps.length) : mergeL ps 0 ((ps.length : Int) - 1) = if 500 < (docsL ps).length then (ps, [], 6) else ((freshL (docsL ps)).1, (freshL (docsL ps)).2, 0) := by
  have e : ((ps.length : Int) - 1).toNat + 1 = ps.length := by omega
  unfold mergeL
  rw [if_neg (by omega), e]
  simp
end Go.Proofs.YtcflpcpkmhljkaaGreatDoor
end

/- (Qry) Plain laws of chapters 17 and 18: queries, what they match, what it scores; what walks over documents. No program in sight. -/
section
namespace Go.Proofs.YtcflpcpkmhljkaaGreatDoor
set_option linter.unusedVariables false

/-- a query: its kind, its text, and its three lists -/
inductive QL where
  | mk (kind : Int) (text : Bytes) (must should nt : List QL)
abbrev TokL := List (Bytes × Nat)
/-- a text's tokens, their places from the first one on -/
def shiftL (l : TokL) : TokL := l.map fun t => (t.1, t.2 - (l.headD ([], 0)).2)
def phraseL (s : Bytes) : TokL := shiftL (tokensL s)
def standsT (l : TokL) (t : Bytes) (k : Nat) : Bool := l.any fun x => x.1 == t && x.2 == k
/-- at how many places a phrase stands -/
def countL (p l : TokL) : Nat := match p with
  | [] => 0
  | x :: r => (l.filter fun y => y.1 == x.1 && r.all fun t => standsT l t.1 (y.2 + t.2)).length
def beginsL (f : Bytes) (l : TokL) : Nat := if f = [] then 0 else (l.filter fun y => f.isPrefixOf y.1).length
def sumW (wt : Bytes → Nat) (p : TokL) : Nat := (p.map fun t => wt t.1).sum
/-- what a term weighs that so many of n documents have -/
def weightN (n k : Nat) : Nat := if n < 1 ∨ k < 1 then 0 else Lib.bitLen (n / k)

mutual
def matchT : QL → TokL → Bool
  | .mk k s m sh n, l =>
    if k = 1 then true
    else if k = 2 then decide (0 < countL ((phraseL s).take 1) l)
    else if k = 3 then decide (0 < countL (phraseL s) l)
    else if k = 4 then decide (0 < beginsL (foldedL s) l)
    else if k = 5 then allT m l && !anyT n l && (!m.isEmpty || sh.isEmpty || anyT sh l)
    else false
def allT : List QL → TokL → Bool
  | [], _ => true
  | q :: qs, l => matchT q l && allT qs l
def anyT : List QL → TokL → Bool
  | [], _ => false
  | q :: qs, l => matchT q l || anyT qs l
end
mutual
def scoreT (wt : Bytes → Nat) : QL → TokL → Nat
  | .mk k s m sh n, l =>
    if k = 1 then 1
    else if k = 2 then sumW wt ((phraseL s).take 1) * countL ((phraseL s).take 1) l
    else if k = 3 then sumW wt (phraseL s) * countL (phraseL s) l
    else if k = 4 then beginsL (foldedL s) l
    else sumT wt m l + mayT wt sh l
def sumT (wt : Bytes → Nat) : List QL → TokL → Nat
  | [], _ => 0
  | q :: qs, l => scoreT wt q l + sumT wt qs l
def mayT (wt : Bytes → Nat) : List QL → TokL → Nat
  | [], _ => 0
  | q :: qs, l => (if matchT q l then scoreT wt q l else 0) + mayT wt qs l
end
mutual
/-- are all nodes of a kind that there is? -/
def kindsOk : QL → Bool
  | .mk k s m sh n => (decide (1 ≤ k) && decide (k ≤ 5)) && (kindsAll m && kindsAll sh && kindsAll n)
def kindsAll : List QL → Bool
  | [] => true
  | q :: qs => kindsOk q && kindsAll qs
end

/-! ### what walks over a segment's documents -/
/-- of a document's number: is it there, and its score -/
abbrev DF := Nat → Option Nat
def everyF (n : Nat) : DF := fun i => if i < n then some 1 else none
def noneF : DF := fun _ => none
def freeF (F : DF) : DF := fun i => (F i).map fun _ => 0
def sumO : List (Option Nat) → Nat
  | [] => 0
  | o :: l => o.getD 0 + sumO l
def someF (Fs : List DF) : DF := fun i => if (Fs.any fun F => (F i).isSome) then some (sumO (Fs.map fun F => F i)) else none
def bothF (M S N : List DF) : DF := fun i => if (M.all fun F => (F i).isSome) && !(N.any fun F => (F i).isSome) then some (sumO (M.map fun F => F i) + sumO (S.map fun F => F i)) else none
def mustF (n : Nat) (M S : List DF) : List DF := if M = [] then (if S = [] then [freeF (everyF n)] else [freeF (someF S)]) else M
/-- at how many places a phrase stands, by the places of its terms -/
def countP (p : TokL) (s : Bytes) : Nat := ((placesIn s (p.headD ([], 0)).1).filter fun x => p.all fun t => decide (x + (t.2 : Int) ∈ placesIn s t.1)).length
def phraseF (l : List DocL) (p : TokL) (w : Nat) : DF := fun i => match l[i]? with
  | some d => if 0 < countP p d.2 then some (countP p d.2 * w) else none
  | none => none
def termF (l : List DocL) (t : Bytes) : DF := fun i => match l[i]? with
  | some d => if placesIn d.2 t = [] then none else some (placesIn d.2 t).length
  | none => none
def prefixF (ts : List Bytes) (l : List DocL) (f : Bytes) : DF := if f = [] then noneF else someF ((ts.filter fun t => f.isPrefixOf t).map (termF l))
mutual
def walkF (l : List DocL) (wt : Bytes → Nat) : QL → DF
  | .mk k s m sh n =>
    if k = 1 then everyF l.length
    else if k = 4 then prefixF (termsL l) l (foldedL s)
    else if k = 5 then bothF (mustF l.length (walksF l wt m) (walksF l wt sh)) (walksF l wt sh) (walksF l wt n)
    else if phraseL s = [] then noneF
    else if k = 2 then phraseF l ((phraseL s).take 1) (sumW wt ((phraseL s).take 1))
    else phraseF l (phraseL s) (sumW wt (phraseL s))
def walksF (l : List DocL) (wt : Bytes → Nat) : List QL → List DF
  | [] => []
  | q :: qs => walkF l wt q :: walksF l wt qs
end
/-- the first document from one on -/
def NextIs (F : DF) (doc : Nat) (r : Option (Nat × Nat)) : Prop := match r with
  | some (d, s) => doc ≤ d ∧ F d = some s ∧ ∀ j, doc ≤ j → j < d → F j = none
  | none => ∀ j, doc ≤ j → F j = none

/-! ### a phrase's places, and its tokens -/
theorem mem_places (s t : Bytes) (x : Int) : x ∈ placesIn s t ↔ ∃ k : Nat, x = k ∧ (t, k) ∈ tokensL s := by
  unfold placesIn
  rw [List.mem_filterMap]
  constructor
  · rintro ⟨y, hy, h⟩
    by_cases e : y.1 = t
    · rw [if_pos e] at h
      exact ⟨y.2, by simpa using h.symm, by rw [← e]; exact hy⟩
    · rw [if_neg e] at h; cases h
  · rintro ⟨k, rfl, h⟩
    exact ⟨(t, k), h, by simp⟩
theorem standsT_iff (l : TokL) (t : Bytes) (k : Nat) : standsT l t k = true ↔ (t, k) ∈ l := by
  unfold standsT
  rw [List.any_eq_true]
  constructor
  · rintro ⟨⟨a, b⟩, hx, h⟩
    simp only [Bool.and_eq_true, beq_iff_eq] at h
    rw [← h.1, ← h.2]; exact hx
  · intro h
    exact ⟨(t, k), h, by simp⟩
theorem filter_places {α : Type} (l : TokL) (t : Bytes) (f : Int → Bool) : ((l.filterMap fun x => if x.1 = t then some (x.2 : Int) else none).filter f).length = (l.filter fun y => y.1 == t && f (y.2 : Int)).length := by
  induction l with
  | nil => rfl
  | cons y l ih =>
    by_cases e : y.1 = t
    · have e' : (y.1 == t) = true := by simpa using e
      rw [List.filterMap_cons_some (b := (y.2 : Int)) (by rw [if_pos e]), List.filter_cons, List.filter_cons, e']
      cases f (y.2 : Int) <;> simp [ih]
    · have e' : (y.1 == t) = false := by simpa using e
      rw [List.filterMap_cons_none (by rw [if_neg e]), List.filter_cons, e', ih]
      simp
theorem countP_eq (p : TokL) (s : Bytes) (hp : p ≠ []) (h0 : (p.headD ([], 0)).2 = 0) : countP p s = countL p (tokensL s) := by
  cases p with
  | nil => exact absurd rfl hp
  | cons x r =>
    unfold countP countL
    rw [show placesIn s ((x :: r).headD ([], 0)).1 = (tokensL s).filterMap fun y => if y.1 = x.1 then some (y.2 : Int) else none from rfl, filter_places (α := Unit)]
    congr 1
    refine List.filter_congr fun y hy => ?_
    by_cases e : y.1 = x.1
    · simp only [beq_iff_eq.2 e, Bool.true_and, List.all_cons]
      have h1 : decide ((y.2 : Int) + (x.2 : Int) ∈ placesIn s x.1) = true := by
        rw [decide_eq_true_eq, mem_places]
        refine ⟨y.2, ?_, by rw [← e]; exact hy⟩
        have : x.2 = 0 := h0
        omega
      rw [h1, Bool.true_and]
      refine List.all_congr rfl fun t => ?_
      rw [Bool.eq_iff_iff, decide_eq_true_eq, mem_places, standsT_iff]
      constructor
      · rintro ⟨k, hk, h⟩
        rw [show y.2 + t.2 = k by omega]; exact h
      · intro h
        exact ⟨y.2 + t.2, by omega, h⟩
    · rw [beq_false_of_ne e]; simp
theorem phrase_head (s : Bytes) : ((phraseL s).headD ([], 0)).2 = 0 ∧ (((phraseL s).take 1).headD ([], 0)).2 = 0 := by
  unfold phraseL shiftL
  cases tokensL s with
  | nil => exact ⟨rfl, rfl⟩
  | cons x r => simp
theorem countP_none (p : TokL) (s : Bytes) (t : Bytes × Nat) (ht : t ∈ p) (h : placesIn s t.1 = []) : countP p s = 0 := by
  unfold countP
  rw [List.length_eq_zero_iff, List.filter_eq_nil_iff]
  intro x hx ha
  have := List.all_eq_true.1 ha t ht
  rw [h] at this
  simp at this
end Go.Proofs.YtcflpcpkmhljkaaGreatDoor
end

/- (Qry4) Plain laws of chapter 18: what a term weighs. No program in sight. -/
section
namespace Go.Proofs.YtcflpcpkmhljkaaGreatDoor

theorem bitAux_mono (f x y : Nat) (h : x ≤ y) : Lib.bitLenAux f x ≤ Lib.bitLenAux f y := by
  induction f generalizing x y with
  | zero => exact Nat.le_refl _
  | succ f ih =>
    rw [Lib.bitLenAux, Lib.bitLenAux]
    by_cases hx : x = 0
    · rw [if_pos hx]; exact Nat.zero_le _
    · rw [if_neg hx, if_neg (by omega)]
      have := ih (x / 2) (y / 2) (by omega)
      omega
theorem bitAux_le (f x k : Nat) (h : x < 2 ^ k) : Lib.bitLenAux f x ≤ k := by
  induction f generalizing x k with
  | zero => exact Nat.zero_le _
  | succ f ih =>
    rw [Lib.bitLenAux]
    by_cases hx : x = 0
    · rw [if_pos hx]; exact Nat.zero_le _
    · rw [if_neg hx]
      cases k with
      | zero => simp at h; omega
      | succ k =>
        have := ih (x / 2) k (by rw [Nat.pow_succ] at h; omega)
        omega
theorem bitLen_mono {x y : Nat} (h : x ≤ y) : Lib.bitLen x ≤ Lib.bitLen y := bitAux_mono 64 x y h
theorem bitLen_le {x : Nat} (k : Nat) (h : x < 2 ^ k) : Lib.bitLen x ≤ k := bitAux_le 64 x k h
theorem bitLen_pos {x : Nat} (h : 1 ≤ x) : 1 ≤ Lib.bitLen x := Nat.le_trans (by decide) (bitLen_mono h)
theorem bitLen_half {x : Nat} (h : x < 2 ^ 64) : Lib.bitLen x = if x = 0 then 0 else 1 + Lib.bitLen (x / 2) := by
  have hf : ∀ f y, y < 2 ^ f → Lib.bitLenAux (f + 1) y = Lib.bitLenAux f y := by
    intro f
    induction f with
    | zero => intro y hy; have : y = 0 := by simpa using hy
              subst this; rfl
    | succ f ih =>
      intro y hy
      rw [show Lib.bitLenAux (f + 1 + 1) y = if y = 0 then 0 else 1 + Lib.bitLenAux (f + 1) (y / 2) from rfl, show Lib.bitLenAux (f + 1) y = if y = 0 then 0 else 1 + Lib.bitLenAux f (y / 2) from rfl]
      by_cases h0 : y = 0
      · rw [if_pos h0, if_pos h0]
      · rw [if_neg h0, if_neg h0, ih (y / 2) (by rw [Nat.pow_succ] at hy; omega)]
  have e : Lib.bitLen x = Lib.bitLenAux 65 x := (hf 64 x h).symm
  rw [e, Lib.bitLenAux]
  rfl
theorem weight_le (n k : Nat) (hn : n < 2 ^ 63) : weightN n k ≤ 63 := by
  unfold weightN
  split
  · omega
  · exact bitLen_le 63 (Nat.lt_of_le_of_lt (Nat.div_le_self _ _) hn)
theorem weight_less (n k : Nat) (hn : 1 ≤ n) (hk : 1 ≤ k) : weightN n (k + 1) ≤ weightN n k := by
  unfold weightN
  rw [if_neg (by omega), if_neg (by omega)]
  exact bitLen_mono (Nat.div_le_div_left (by omega) (by omega))
theorem weight_pos (n k : Nat) (hk : 1 ≤ k) (h : k ≤ n) : 1 ≤ weightN n k := by
  unfold weightN
  rw [if_neg (by omega)]
  exact bitLen_pos ((Nat.le_div_iff_mul_le (by omega)).2 (by omega))
theorem weight_same (n : Nat) (h : 1 ≤ n) : weightN n n = 1 := by
  unfold weightN
  rw [if_neg (by omega), Nat.div_self (by omega)]
  rfl
theorem weight_none (n k : Nat) (h : n < k) : weightN n k = 0 := by
  unfold weightN
  split
  · rfl
  · rw [Nat.div_eq_of_lt h]; rfl
end Go.Proofs.YtcflpcpkmhljkaaGreatDoor
end

/- (WScW) score.Weight: walked. -/
section
namespace Go.Proofs.YtcflpcpkmhljkaaGreatDoor
open Go.RowKit
set_option linter.unusedVariables false

/-- what a term weighs, at whatever numbers -/
def weightZ (n k : Int) : Nat := if n < 1 ∨ k < 1 then 0 else Lib.bitLen (n / k).toNat
theorem weightZ_nat (n k : Nat) : weightZ (n : Int) (k : Int) = weightN n k := by
  unfold weightZ weightN
  by_cases h : n < 1 ∨ k < 1
  · rw [if_pos h, if_pos (by omega)]
  · rw [if_neg h, if_neg (by omega), ← Int.natCast_ediv, Int.toNat_natCast]
theorem BitsLen_any (n : Nat) (w : World) (h : n < 9223372036854775808) : Calls Tryz.prog 34 #[.int .u64 (n : Nat)] w fun e w' => e = .returned (.int .i64 (Lib.bitLen n : Nat)) ∧ w = w' :=
  (Tryz.bits_Len (n : Int) w (by omega) (by omega)).mono fun e w' h => ⟨by rw [h.1, Int.toNat_natCast], h.2.symm⟩
set_option maxHeartbeats 1000000 in
theorem Weight_any (n k : Int) (w : World) (hn : n < 9223372036854775808) (hn0 : -9223372036854775808 ≤ n) (hk : k < 9223372036854775808) (hk0 : -9223372036854775808 ≤ k) :
    Calls Tryz.prog 12 #[.int .i64 n, .int .i64 k] w fun e w' => e = .returned (.int .i64 (weightZ n k : Nat)) ∧ w = w' := by
  by_cases h1 : n < 1
  · have hb : decide (n < 1) = true := decide_eq_true h1
    have hz : weightZ n k = 0 := by unfold weightZ; rw [if_pos (.inl h1)]
    rw [hz]
    clear hz h1
    go_enter Tryz.func12, Tryz.ntmps12
    go_wp2_with fail
    go_ret
    exact ⟨rfl, rfl⟩
  · have hb : decide (n < 1) = false := decide_eq_false h1
    by_cases h2 : k < 1
    · have hb2 : decide (k < 1) = true := decide_eq_true h2
      have hz : weightZ n k = 0 := by unfold weightZ; rw [if_pos (.inr h2)]
      rw [hz]
      clear hz h1 h2
      go_enter Tryz.func12, Tryz.ntmps12
      go_wp2_with fail
      go_ret
      exact ⟨rfl, rfl⟩
    · have hb2 : decide (k < 1) = false := decide_eq_false h2
      have hz : weightZ n k = Lib.bitLen (n / k).toNat := by unfold weightZ; rw [if_neg (by omega)]
      obtain ⟨a, rfl⟩ : ∃ a : Nat, n = a := ⟨n.toNat, by omega⟩
      obtain ⟨b, rfl⟩ : ∃ b : Nat, k = b := ⟨k.toNat, by omega⟩
      rw [← Int.natCast_ediv, Int.toNat_natCast] at hz
      rw [hz]
      have hdl : a / b < 9223372036854775808 := Nat.lt_of_le_of_lt (Nat.div_le_self _ _) (by omega)
      have hq : (a : Int).tdiv (b : Int) = ((a / b : Nat) : Int) := by rw [Int.natCast_ediv]; exact Int.tdiv_eq_ediv_of_nonneg (by omega)
      clear hz
      generalize a / b = d at *
      have hw1 : IntKind.i64.wrap (d : Int) = (d : Int) := IntWalk.i64_in _ (by omega)
      have hw2 : IntKind.u64.wrap (d : Int) = (d : Int) := by simp [IntKind.wrap, IntKind.bits, IntKind.signed]; omega
      have c := fun W => BitsLen_any d W hdl
      have C := Lib.hid c
      clear c hdl
      have hb0 : ((b : Int) == 0) = false := beq_eq_false_iff_ne.2 (by omega)
      have hb1 : ¬ (b : Int) = 0 := by omega
      go_enter Tryz.func12, Tryz.ntmps12
      go_wp2_with fail
      refine (C.out _).mono ?_
      rintro e w1 ⟨rfl, rfl⟩
      go_wp2_with fail
      go_ret
      exact ⟨rfl, rfl⟩
end Go.Proofs.YtcflpcpkmhljkaaGreatDoor
end
