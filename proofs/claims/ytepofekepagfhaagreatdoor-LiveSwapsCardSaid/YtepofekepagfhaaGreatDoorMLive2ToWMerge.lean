/- Joined texts of one proof: Live2, WMerge. -/
import Derived.Test.YtepofekepagfhaaGreatDoorMLive
import Derived.Test.YtepofekepagfhaaGreatDoorMWApplyToWConcat
import Derived.Outline
set_option linter.unusedSimpArgs false
set_option linter.unusedVariables false
set_option linter.unnecessarySimpa false
/- (Live2) Plain laws of chapter 15, second part: merges, what is told of an ID, how many there are; the laws of the statements. No program in sight. -/
section
namespace Go.Proofs.YtepofekepagfhaaGreatDoor
open Go.Sort
set_option linter.unusedVariables false

theorem live_perm (ps : List PartL) (h : ((liveL ps).map (·.1)).Nodup) : (docsL ps).Perm (liveL ps) :=
  (List.perm_ext_iff_of_nodup (nodup_of_map (nodup_docsL ps h)) (nodup_of_map h)).2 (fun d => mem_docsL ps h d)
theorem many_eq (ps : List PartL) (h : ((liveL ps).map (·.1)).Nodup) : (liveM ps).length = (docsL ps).length := by
  rw [liveM_eq ps h]; exact (live_perm ps h).length_eq.symm
theorem right_of_live (ps : List PartL) (h : ∀ p ∈ ps, PartOk p) (d : DocL) (hd : d ∈ liveL ps) : rightB d.1 d.2 = true := by
  obtain ⟨p, hp, hd⟩ := List.mem_flatMap.1 hd
  exact (h p hp).1.1 d ((liveF_sub _ _ _).subset hd)
theorem docs_ok (ps : List PartL) (h : PartsOk ps) : docsOk (docsL ps) :=
  ⟨fun d hd => right_of_live ps h.1 d ((mem_docsL ps h.2 d).1 hd), nodup_docsL ps h.2⟩
theorem slice_split (ps : List PartL) (i n : Nat) (h : i ≤ n) : ps = ps.take i ++ ((ps.take n).drop i ++ ps.drop n) := by
  have h1 : (ps.take n).drop i ++ ps.drop n = ps.drop i := by
    by_cases hn : n ≤ ps.length
    · have h2 : ps.drop i = ((ps.take n) ++ ps.drop n).drop i := by rw [List.take_append_drop]
      rw [h2, List.drop_append_of_le_length (by rw [List.length_take]; omega)]
    · rw [List.drop_eq_nil_of_le (by omega : ps.length ≤ n), List.take_of_length_le (by omega : ps.length ≤ n), List.append_nil]
  rw [h1, List.take_append_drop]
theorem slice_ok (ps : List PartL) (i n : Nat) (h : PartsOk ps) : PartsOk ((ps.take n).drop i) := by
  have hs : ((ps.take n).drop i).Sublist ps := (List.drop_sublist _ _).trans (List.take_sublist _ _)
  refine ⟨fun p hp => h.1 p (hs.subset hp), (List.Sublist.map _ ?_).nodup h.2⟩
  unfold liveL
  exact sub_flatMap hs _
/-- the parts behind a merge -/
def mergedL (ps : List PartL) (i n : Nat) : List PartL := ps.take i ++ ((freshL (docsL ((ps.take n).drop i))).1 ++ ps.drop n)
theorem merged_perm (ps : List PartL) (i n : Nat) (hin : i ≤ n) (h : PartsOk ps) : (liveL (mergedL ps i n)).Perm (liveL ps) := by
  have e := slice_split ps i n hin
  unfold mergedL
  conv => rhs; rw [e]
  rw [liveL_append, liveL_append, liveL_append, liveL_append, live_fresh]
  exact List.Perm.append_left _ (List.Perm.append_right _ (live_perm _ (slice_ok ps i n h).2))
theorem merged_ok (ps : List PartL) (i n : Nat) (hin : i ≤ n) (h : PartsOk ps) (hl : (docsL ((ps.take n).drop i)).length ≤ 500) : PartsOk (mergedL ps i n) := by
  refine ⟨fun p hp => ?_, ((merged_perm ps i n hin h).map _).nodup_iff.2 h.2⟩
  unfold mergedL at hp
  rcases List.mem_append.1 hp with hp | hp
  · exact h.1 p (List.mem_of_mem_take hp)
  · rcases List.mem_append.1 hp with hp | hp
    · exact fresh_ok _ (docs_ok _ (slice_ok ps i n h)) hl p hp
    · exact h.1 p (List.mem_of_mem_drop hp)
theorem merge_ok (ps : List PartL) (a b : Int) (h : PartsOk ps) : PartsOk (mergeL ps a b).1 := by
  unfold mergeL
  split
  · exact h
  · rename_i hc
    simp only
    split
    · exact h
    · rename_i hl
      exact merged_ok ps a.toNat (b.toNat + 1) (by omega) h (by omega)
theorem merge_length (ps : List PartL) (a b : Int) : (mergeL ps a b).1.length ≤ ps.length := by
  unfold mergeL
  split
  · simp
  · rename_i hc
    simp only
    split
    · simp
    · have := fresh_length (docsL ((ps.take (b.toNat + 1)).drop a.toNat))
      simp only [List.length_append, List.length_take, List.length_drop]
      omega
theorem perm_docs (ps qs : List PartL) (h : PartsOk ps) (k : PartsOk qs) (hp : (liveL qs).Perm (liveL ps)) : docsL qs = docsL ps := docsL_ext qs ps k.2 h.2 (fun d => hp.mem_iff)
theorem merge_docs (ps : List PartL) (a b : Int) (h : PartsOk ps) : docsL (mergeL ps a b).1 = docsL ps := by
  unfold mergeL
  split
  · rfl
  · rename_i hc
    simp only
    split
    · rfl
    · rename_i hl
      exact perm_docs ps _ h (merged_ok ps a.toNat (b.toNat + 1) (by omega) h (by omega)) (merged_perm ps a.toNat (b.toNat + 1) (by omega) h)

theorem getL_iff (ps : List PartL) (h : PartsOk ps) (id t : Bytes) : getL ps id = some t ↔ (id, t) ∈ liveL ps := by
  induction ps with
  | nil => simp [getL, liveL]
  | cons p ps ih =>
    have hok := h.1 p (by simp)
    have hs : PartsOk ps := by
      refine ⟨fun q hq => h.1 q (by simp [hq]), ?_⟩
      have := h.2
      rw [liveL, List.flatMap_cons, List.map_append, List.nodup_append] at this
      exact this.2.1
    have hdis : ∀ t1 t2, (id, t1) ∈ liveOf p → (id, t2) ∈ liveL ps → False := by
      intro t1 t2 h1 h2
      have := h.2
      rw [liveL, List.flatMap_cons, List.map_append, List.nodup_append] at this
      exact this.2.2 _ (List.mem_map.2 ⟨_, h1, rfl⟩) _ (List.mem_map.2 ⟨_, h2, rfl⟩) rfl
    have hcons : (id, t) ∈ liveL (p :: ps) ↔ (id, t) ∈ liveOf p ∨ (id, t) ∈ liveL ps := by
      rw [liveL, List.flatMap_cons, List.mem_append]; rfl
    have hlive : ∀ t, (id, t) ∈ liveOf p ↔ ∃ i, p.1[i]? = some (id, t) ∧ bit p.2 (0 + i) = false := fun t => mem_liveF _ _ _ _
    rw [hcons, getL]
    cases hf : findL p.1 id with
    | none =>
      simp only
      rw [ih hs]
      constructor
      · exact Or.inr
      · rintro (h1 | h1)
        · obtain ⟨i, h2, _⟩ := (hlive t).1 h1
          exact absurd (List.mem_map.2 ⟨_, List.mem_of_getElem? h2, rfl⟩) (findL_none _ _ hf)
        · exact h1
    | some k =>
      obtain ⟨d, hd, hid⟩ := findL_some _ _ _ hf
      have hone : ∀ i t, p.1[i]? = some (id, t) → i = k ∧ t = d.2 := by
        intro i t hi
        have e : i = k := at_one hok.1.2 hi hd hid.symm
        subst e
        rw [hd] at hi
        cases hi
        exact ⟨rfl, rfl⟩
      have hdd : d = (id, d.2) := by rw [← hid]
      simp only
      cases hb : bit p.2 k with
      | true =>
        rw [if_pos rfl, ih hs]
        constructor
        · exact Or.inr
        · rintro (h1 | h1)
          · obtain ⟨i, h2, h3⟩ := (hlive t).1 h1
            obtain ⟨e, _⟩ := hone i t h2
            rw [Nat.zero_add, e, hb] at h3; cases h3
          · exact h1
      | false =>
        have hin : (id, d.2) ∈ liveOf p := (hlive _).2 ⟨k, by rw [hd, ← hdd], by rw [Nat.zero_add]; exact hb⟩
        have hg : p.1.getD k ([], []) = d := by rw [List.getD_eq_getElem?_getD, hd]; rfl
        rw [if_neg (by simp), hg]
        constructor
        · intro e; cases e; exact .inl hin
        · rintro (h1 | h1)
          · obtain ⟨i, h2, h3⟩ := (hlive t).1 h1
            rw [(hone i t h2).2]
          · exact (hdis _ _ hin h1).elim
theorem getL_ext (ps qs : List PartL) (h : PartsOk ps) (k : PartsOk qs) (id id' : Bytes) (hm : ∀ t, (id, t) ∈ liveL ps ↔ (id', t) ∈ liveL qs) : getL ps id = getL qs id' := by
  cases h1 : getL ps id with
  | some t => exact ((getL_iff qs k id' t).2 ((hm t).1 ((getL_iff ps h id t).1 h1))).symm
  | none =>
    cases h2 : getL qs id' with
    | none => rfl
    | some t =>
      have := (getL_iff ps h id t).2 ((hm t).2 ((getL_iff qs k id' t).1 h2))
      rw [h1] at this; cases this
theorem getL_docs (ps qs : List PartL) (h : PartsOk ps) (k : PartsOk qs) (e : docsL ps = docsL qs) (id : Bytes) : getL ps id = getL qs id :=
  getL_ext ps qs h k id id (fun t => by rw [← mem_docsL ps h.2, ← mem_docsL qs k.2, e])
theorem many_docs (ps qs : List PartL) (h : PartsOk ps) (k : PartsOk qs) (e : docsL ps = docsL qs) : (liveM ps).length = (liveM qs).length := by
  rw [many_eq ps h.2, many_eq qs k.2, e]

/-! ### the laws -/
theorem apply_err (ps qs : List PartL) (ops : List OpL) : (applyL ps ops).2 = (applyL qs ops).2 := by
  unfold applyL
  split
  · rfl
  · split <;> rfl
theorem twice_docs (ps : List PartL) (ops : List OpL) (h : PartsOk ps) : docsL (applyL (applyL ps ops).1 ops).1 = docsL (applyL ps ops).1 := by
  have h1 := apply_ok ps ops h
  have h2 := apply_ok _ ops h1
  by_cases hl : ops.length < 1 ∨ 50 < ops.length
  · have : ∀ qs, (applyL qs ops).1 = qs := fun qs => by unfold applyL; rw [if_pos hl]
    rw [this]
  · by_cases hr : ops.all opRight = true
    · have e : ∀ qs, (applyL qs ops).1 = goneAll (idsL ops) qs ++ (freshL (moreL ops)).1 := fun qs => by unfold applyL; rw [if_neg hl, if_pos hr]
      refine docsL_ext _ _ h2.2 h1.2 (fun d => ?_)
      rw [e (applyL ps ops).1, mem_apply _ _ h1.1, e ps, mem_apply _ _ h.1]
      constructor
      · rintro (⟨a, b⟩ | a)
        · exact a
        · exact .inr a
      · rintro (⟨a, b⟩ | a)
        · exact .inl ⟨.inl ⟨a, b⟩, b⟩
        · exact .inr a
    · have : ∀ qs, (applyL qs ops).1 = qs := fun qs => by unfold applyL; rw [if_neg hl, if_neg hr]
      rw [this]
theorem lastL_append (a b : List OpL) (h : ∀ x ∈ a, ∀ y ∈ b, x.2.1 ≠ y.2.1) : lastL (a ++ b) = lastL a ++ lastL b := by
  induction a with
  | nil => rfl
  | cons o a ih =>
    have ih' := ih (fun x hx y hy => h x (by simp [hx]) y hy)
    rw [List.cons_append, lastL, lastL, ih']
    have hb : o.2.1 ∉ b.map (fun p => p.2.1) := by
      intro hm
      obtain ⟨y, hy, e⟩ := List.mem_map.1 hm
      exact h o (by simp) y hy e.symm
    by_cases ha : o.2.1 ∈ a.map (fun p => p.2.1)
    · rw [if_pos ha, if_pos (by rw [List.map_append]; exact List.mem_append_left _ ha)]
    · rw [if_neg ha, if_neg (by rw [List.map_append, List.mem_append]; exact fun e => e.elim ha hb)]; rfl
theorem mem_apply' (ps : List PartL) (ops : List OpL) (h : ∀ p ∈ ps, PartOk p) (he : (applyL ps ops).2.2 = 0) (d : DocL) :
    d ∈ liveL (applyL ps ops).1 ↔ (d ∈ liveL ps ∧ d.1 ∉ ops.map (fun o => o.2.1)) ∨ d ∈ moreL ops := by
  unfold applyL at he ⊢
  split at he
  · cases he
  · rename_i hl
    rw [if_neg hl]
    split at he
    · rename_i hr
      rw [if_pos hr, mem_apply _ _ h, lastL_ids]
    · cases he
theorem more_in (l : List OpL) (d : DocL) (h : d ∈ moreL l) : d.1 ∈ l.map (fun o => o.2.1) :=
  (lastL_ids l d.1).1 ((more_ids l).subset (List.mem_map.2 ⟨d, h, rfl⟩))
theorem apply_ok_of (ps : List PartL) (ops : List OpL) : (applyL ps ops).2.2 = 0 ↔ ¬ (ops.length < 1 ∨ 50 < ops.length) ∧ ops.all opRight = true := by
  unfold applyL
  split
  · simp_all
  · split
    · simp_all
    · simp_all
theorem swaps_docs (ps : List PartL) (a b : List OpL) (h : PartsOk ps) (ea : (applyL ps a).2.2 = 0) (eb : (applyL ps b).2.2 = 0) (hd : ∀ x ∈ a, ∀ y ∈ b, x.2.1 ≠ y.2.1) :
    docsL (applyL (applyL ps a).1 b).1 = docsL (applyL (applyL ps b).1 a).1 ∧
      (50 < a.length + b.length → (applyL ps (a ++ b)).2.2 = 6) ∧ (¬ 50 < a.length + b.length → (applyL ps (a ++ b)).2.2 = 0 ∧ docsL (applyL ps (a ++ b)).1 = docsL (applyL (applyL ps a).1 b).1) := by
  have oa := apply_ok ps a h
  have ob := apply_ok ps b h
  have oab := apply_ok _ b oa
  have oba := apply_ok _ a ob
  have eab : (applyL (applyL ps a).1 b).2.2 = 0 := by rw [apply_err _ ps]; exact eb
  have eba : (applyL (applyL ps b).1 a).2.2 = 0 := by rw [apply_err _ ps]; exact ea
  have na : ∀ d, d ∈ moreL a → d.1 ∉ b.map (fun o => o.2.1) := by
    intro d h1 h2
    obtain ⟨x, hx, e1⟩ := List.mem_map.1 (more_in a d h1)
    obtain ⟨y, hy, e2⟩ := List.mem_map.1 h2
    exact hd x hx y hy (e1.trans e2.symm)
  have nb : ∀ d, d ∈ moreL b → d.1 ∉ a.map (fun o => o.2.1) := by
    intro d h1 h2
    obtain ⟨x, hx, e1⟩ := List.mem_map.1 (more_in b d h1)
    obtain ⟨y, hy, e2⟩ := List.mem_map.1 h2
    exact hd y hy x hx (e2.trans e1.symm)
  have m1 : ∀ d, d ∈ liveL (applyL (applyL ps a).1 b).1 ↔ (d ∈ liveL ps ∧ d.1 ∉ a.map (fun o => o.2.1) ∧ d.1 ∉ b.map (fun o => o.2.1)) ∨ d ∈ moreL a ∨ d ∈ moreL b := by
    intro d
    rw [mem_apply' _ _ oa.1 eab, mem_apply' _ _ h.1 ea]
    constructor
    · rintro (⟨⟨x, y⟩ | x, z⟩ | x)
      · exact .inl ⟨x, y, z⟩
      · exact .inr (.inl x)
      · exact .inr (.inr x)
    · rintro (⟨x, y, z⟩ | x | x)
      · exact .inl ⟨.inl ⟨x, y⟩, z⟩
      · exact .inl ⟨.inr x, na d x⟩
      · exact .inr x
  have m2 : ∀ d, d ∈ liveL (applyL (applyL ps b).1 a).1 ↔ (d ∈ liveL ps ∧ d.1 ∉ a.map (fun o => o.2.1) ∧ d.1 ∉ b.map (fun o => o.2.1)) ∨ d ∈ moreL a ∨ d ∈ moreL b := by
    intro d
    rw [mem_apply' _ _ ob.1 eba, mem_apply' _ _ h.1 eb]
    constructor
    · rintro (⟨⟨x, y⟩ | x, z⟩ | x)
      · exact .inl ⟨x, z, y⟩
      · exact .inr (.inr x)
      · exact .inr (.inl x)
    · rintro (⟨x, y, z⟩ | x | x)
      · exact .inl ⟨.inl ⟨x, z⟩, y⟩
      · exact .inr x
      · exact .inl ⟨.inr x, nb d x⟩
  refine ⟨docsL_ext _ _ oab.2 oba.2 (fun d => by rw [m1, m2]), fun hl => ?_, fun hl => ?_⟩
  · unfold applyL; rw [if_pos (by right; simpa using hl)]
  · have ha := (apply_ok_of ps a).1 ea
    have hb := (apply_ok_of ps b).1 eb
    have eab' : (applyL ps (a ++ b)).2.2 = 0 := (apply_ok_of ps (a ++ b)).2 ⟨by rw [List.length_append]; omega, by rw [List.all_append, ha.2, hb.2]; rfl⟩
    refine ⟨eab', docsL_ext _ _ (apply_ok ps (a ++ b) h).2 oab.2 (fun d => ?_)⟩
    rw [m1, mem_apply' _ _ h.1 eab']
    have hm : moreL (a ++ b) = moreL a ++ moreL b := by unfold moreL; rw [lastL_append a b hd, List.filter_append, List.map_append]
    rw [hm, List.map_append, List.mem_append, List.mem_append, not_or]
/-- behind a bulk: what is told of an ID -/
theorem says_other (ps : List PartL) (ops : List OpL) (h : PartsOk ps) (he : (applyL ps ops).2.2 = 0) (id : Bytes) (hid : id ∉ ops.map (fun o => o.2.1)) : getL (applyL ps ops).1 id = getL ps id :=
  getL_ext _ _ (apply_ok ps ops h) h id id (fun t => by
    rw [mem_apply' _ _ h.1 he]
    constructor
    · rintro (⟨a, _⟩ | a)
      · exact a
      · exact absurd (more_in ops _ a) hid
    · exact fun a => .inl ⟨a, hid⟩)
theorem lastL_snoc (a : List OpL) (o : OpL) (b : List OpL) (hb : o.2.1 ∉ b.map (fun p => p.2.1)) : o ∈ lastL (a ++ o :: b) := by
  induction a with
  | nil => rw [List.nil_append, lastL, if_neg hb]; simp
  | cons x a ih =>
    rw [List.cons_append, lastL]
    split
    · exact ih
    · exact List.mem_cons_of_mem _ ih
theorem says_last (ps : List PartL) (a : List OpL) (o : OpL) (b : List OpL) (h : PartsOk ps) (he : (applyL ps (a ++ o :: b)).2.2 = 0) (hb : o.2.1 ∉ b.map (fun p => p.2.1)) :
    getL (applyL ps (a ++ o :: b)).1 o.2.1 = if o.1 then none else some o.2.2 := by
  have hin := lastL_snoc a o b hb
  have hone : ∀ d, d ∈ moreL (a ++ o :: b) → d.1 = o.2.1 → o.1 = false ∧ d = o.2 := by
    intro d hd e
    unfold moreL at hd
    obtain ⟨x, hx, rfl⟩ := List.mem_map.1 hd
    rw [List.mem_filter] at hx
    obtain ⟨i, hi⟩ := List.getElem?_of_mem hx.1
    obtain ⟨j, hj⟩ := List.getElem?_of_mem hin
    have hn := lastL_nodup (a ++ o :: b)
    unfold idsL at hn
    have h1 : ((lastL (a ++ o :: b)).map (fun o => o.2.1))[i]? = some o.2.1 := by simp [hi, e]
    have h2 : ((lastL (a ++ o :: b)).map (fun o => o.2.1))[j]? = some o.2.1 := by simp [hj]
    obtain ⟨a1, b1⟩ := List.getElem?_eq_some_iff.1 h1
    obtain ⟨a2, b2⟩ := List.getElem?_eq_some_iff.1 h2
    have : i = j := (List.getElem_inj hn).1 (b1.trans b2.symm)
    subst this
    rw [hi] at hj
    cases hj
    exact ⟨by simpa using hx.2, rfl⟩
  have hmem : o.2.1 ∈ (a ++ o :: b).map (fun o => o.2.1) := by simp
  cases hg : getL (applyL ps (a ++ o :: b)).1 o.2.1 with
  | none =>
    cases hd : o.1 with
    | true => rfl
    | false =>
      have : (o.2.1, o.2.2) ∈ liveL (applyL ps (a ++ o :: b)).1 := (mem_apply' _ _ h.1 he _).2 (.inr (by
        unfold moreL
        exact List.mem_map.2 ⟨o, List.mem_filter.2 ⟨hin, by simp [hd]⟩, rfl⟩))
      rw [← getL_iff _ (apply_ok ps _ h), hg] at this
      cases this
  | some t =>
    have := (mem_apply' _ _ h.1 he _).1 ((getL_iff _ (apply_ok ps _ h) _ _).1 hg)
    rcases this with ⟨_, h2⟩ | h2
    · exact absurd hmem h2
    · obtain ⟨h3, h4⟩ := hone _ h2 rfl
      rw [h3, ← h4]; simp
/-- one document deleted -/
theorem delete_one (ps : List PartL) (d : DocL) (h : PartsOk ps) (hd : d ∈ liveL ps) : (applyL ps [(true, (d.1, []))]).2 = ([], 0) ∧ (applyL ps [(true, (d.1, []))]).1.length = ps.length ∧
    ∀ x, x ∈ liveL (applyL ps [(true, (d.1, []))]).1 ↔ x ∈ liveL ps ∧ x.1 ≠ d.1 := by
  have hr := right_of_live ps h.1 d hd
  have ho : opRight (true, (d.1, [])) = true := by
    unfold rightB at hr
    simp only [Bool.and_eq_true] at hr
    simp [opRight, hr.1.1.1.1, hr.1.1.1.2, hr.1.2]
  have hm : moreL [(true, (d.1, []))] = [] := rfl
  have hi : idsL [(true, (d.1, []))] = [d.1] := rfl
  have e : applyL ps [(true, (d.1, []))] = (goneAll [d.1] ps ++ [], [], 0) := by
    unfold applyL
    rw [if_neg (by simp), if_pos (by simp [ho]), hm, hi]; rfl
  rw [e]
  refine ⟨rfl, by simp [goneAll_length], fun x => ?_⟩
  simp only [List.append_nil]
  rw [mem_goneAll _ _ h.1]
  simp
theorem delete_many (ps : List PartL) (d : DocL) (h : PartsOk ps) (hd : d ∈ liveL ps) : (liveM (applyL ps [(true, (d.1, []))]).1).length + 1 = (liveM ps).length := by
  have ho := apply_ok ps [(true, (d.1, []))] h
  obtain ⟨_, _, hm⟩ := delete_one ps d h hd
  rw [liveM_eq _ ho.2, liveM_eq _ h.2]
  have hp : (d :: liveL (applyL ps [(true, (d.1, []))]).1).Perm (liveL ps) := by
    have hn : (d :: liveL (applyL ps [(true, (d.1, []))]).1).Nodup := List.nodup_cons.2 ⟨fun hx => ((hm d).1 hx).2 rfl, nodup_of_map ho.2⟩
    refine (List.perm_ext_iff_of_nodup hn (nodup_of_map h.2)).2 (fun x => ?_)
    rw [List.mem_cons, hm]
    constructor
    · rintro (e | ⟨a, _⟩)
      · rw [e]; exact hd
      · exact a
    · intro hx
      by_cases e : x.1 = d.1
      · left
        have g1 := (getM_mem x.1 x.2 _ h.2).2 hx
        have g2 := (getM_mem d.1 d.2 _ h.2).2 hd
        rw [e, g2] at g1
        exact Prod.ext e (Option.some.inj g1).symm
      · exact .inr ⟨hx, e⟩
  exact hp.length_eq
theorem docs_nil (ps : List PartL) (h : PartsOk ps) (e : (liveM ps).length = 0) : docsL ps = [] := List.eq_nil_of_length_eq_zero (by rw [← many_eq ps h.2]; exact e)
/-- all parts together -/
theorem merge_all (ps : List PartL) (h : PartsOk ps) (hn : 2 ≤ ps.length) : mergeL ps 0 ((ps.length : Int) - 1) = if 500 < (docsL ps).length then (ps, [], 6) else ((freshL (docsL ps)).1, (freshL (docsL ps)).2, 0) := by
  have e : ((ps.length : Int) - 1).toNat + 1 = ps.length := by omega
  unfold mergeL
  rw [if_neg (by omega), e]
  simp
end Go.Proofs.YtepofekepagfhaaGreatDoor
end

/- (WMerge) live.Merge: walked. -/
section
namespace Go.Proofs.YtepofekepagfhaaGreatDoor
open Go.RowKit
set_option linter.unusedVariables false

theorem partVs_take (l : List PartR) (k : Nat) : (partVs l).take (k * 2) = partVs (l.take k) := by
  induction l generalizing k with
  | nil => simp [partVs]
  | cons d l ih =>
    have e : ∀ (d : PartR) l, partVs (d :: l) = .pointer (some ⟨d.1, 0, none⟩) :: strV d.2 :: partVs l := by intros; simp [partVs]
    cases k with
    | zero => simp [partVs]
    | succ k =>
      have h2 : (k + 1) * 2 = k * 2 + 1 + 1 := by omega
      rw [h2, e, List.take_succ_cons, List.take_succ_cons, List.take_succ_cons, e, ih]
theorem partVs_drop (l : List PartR) (k : Nat) : (partVs l).drop (k * 2) = partVs (l.drop k) := by
  induction l generalizing k with
  | nil => simp [partVs]
  | cons d l ih =>
    have e : ∀ (d : PartR) l, partVs (d :: l) = .pointer (some ⟨d.1, 0, none⟩) :: strV d.2 :: partVs l := by intros; simp [partVs]
    cases k with
    | zero => simp
    | succ k =>
      have h2 : (k + 1) * 2 = k * 2 + 1 + 1 := by omega
      rw [h2, e, List.drop_succ_cons, List.drop_succ_cons, List.drop_succ_cons, ih]
theorem rowPs_cut (segs : List Nat) (gs : List Bytes) (lo hi : Nat) : ((rowPs segs gs).take (hi * 2)).drop (lo * 2) = rowPs ((segs.take hi).drop lo) ((gs.take hi).drop lo) := by
  unfold rowPs
  rw [partVs_take, partVs_drop, List.zip_eq_zipWith, List.take_zipWith, List.drop_zipWith]; rfl
theorem SegsAt.cut {w : World} {segs : List Nat} {ps : List PartL} (h : SegsAt w segs ps) (lo hi : Nat) : SegsAt w ((segs.take hi).drop lo) ((ps.take hi).drop lo) := by
  intro i p q hp hq
  rw [List.getElem?_drop, List.getElem?_take] at hp hq
  split at hp
  · rename_i hlt
    rw [if_pos hlt] at hq
    exact h _ p q hp hq
  · cases hp
theorem cut_length {α : Type} (l : List α) (lo hi : Nat) (h2 : hi ≤ l.length) : ((l.take hi).drop lo).length = hi - lo := by
  rw [List.length_drop, List.length_take, Nat.min_eq_left h2]
theorem PartsAt.cut {w : World} {a : Option Addr} {cap : Nat} {ps : List PartL} (h : PartsAt w (.slice a ps.length cap) ps) (lo hi : Nat) (h1 : lo ≤ hi) (h2 : hi ≤ ps.length) :
    PartsAt w (.slice (if cap = lo then a else a.map (·.add (lo * 2))) (hi - lo) (cap - lo)) ((ps.take hi).drop lo) := by
  obtain ⟨segs, hl, hs, hr, hc⟩ := h.segs
  have hcap := hc _ _ _ rfl
  refine PartsAt.of ((segs.take hi).drop lo) ?_ (hs.cut lo hi) ?_ (fun x n c e => by cases e; omega)
  · rw [cut_length _ _ _ (by omega), cut_length _ _ _ h2]
  · have := Sl.cut hr lo hi h1 h2 hcap
    rw [rowPs_cut, ← List.map_take, ← List.map_drop] at this
    rw [cut_length _ _ _ h2]; exact this
set_option maxRecDepth 100000 in
set_option maxHeartbeats 1000000 in
theorem Merge_arg (a : Option Addr) (n cap : Nat) (i j : Int) (w : World) (h : i < 0 ∨ j ≤ i ∨ (n : Int) ≤ j) :
    Calls Tryz.prog 24 #[liveV (.slice a n cap), .int .i64 i, .int .i64 j] w fun e w' => e = .returned (.tuple #[liveV (.slice a n cap), strV [], .int .i64 1]) ∧ Q w w' := by
  by_cases h1 : i < 0
  · go_enter Tryz.func24, Tryz.ntmps24
    go_wp2_with fail
    refine bodyPost_ret (v := .tuple #[liveV (.slice a n cap), strV [], .int .i64 1]) (by simp [results, Tryz.results24, go_sem]) rfl ⟨rfl, (Q.alloc _ _).trans (Q.alloc _ _)⟩
  · by_cases h2 : j ≤ i
    · clear h
      go_enter Tryz.func24, Tryz.ntmps24
      go_wp2_with fail
      refine bodyPost_ret (v := .tuple #[liveV (.slice a n cap), strV [], .int .i64 1]) (by simp [results, Tryz.results24, go_sem]) rfl ⟨rfl, (Q.alloc _ _).trans (Q.alloc _ _)⟩
    · have h3 : (n : Int) ≤ j := by omega
      clear h
      go_enter Tryz.func24, Tryz.ntmps24
      go_wp2_with fail
      refine bodyPost_ret (v := .tuple #[liveV (.slice a n cap), strV [], .int .i64 1]) (by simp [results, Tryz.results24, go_sem]) rfl ⟨rfl, (Q.alloc _ _).trans (Q.alloc _ _)⟩
theorem Sl.take {w : World} {a : Option Addr} {n cap size : Nat} {xs : List Value} (h : Sl w (.slice a n cap) n size xs) (i : Nat) (h1 : i ≤ n) : Sl w (.slice a i cap) i size (xs.take (i * size)) := by
  obtain ⟨hl, a', c', hv, hc⟩ := h
  cases hv
  refine ⟨by rw [List.length_take, hl, Nat.min_eq_left (Nat.mul_le_mul_right _ h1)], _, _, rfl, fun hp => ?_⟩
  obtain ⟨b, off, rfl, hcc⟩ := hc (by omega)
  refine ⟨b, off, rfl, fun j u hj => ?_⟩
  rw [List.getElem?_take] at hj
  split at hj
  · exact hcc _ u hj
  · cases hj
theorem PartsAt.take {w : World} {a : Option Addr} {cap : Nat} {ps : List PartL} (h : PartsAt w (.slice a ps.length cap) ps) (i : Nat) (h2 : i ≤ ps.length) : PartsAt w (.slice a i cap) (ps.take i) := by
  obtain ⟨segs, hl, hs, hr, hc⟩ := h.segs
  have hcap := hc _ _ _ rfl
  have h0 := hs.cut 0 i
  rw [List.drop_zero, List.drop_zero] at h0
  refine PartsAt.of (segs.take i) (by simp [hl]) h0 ?_ (fun x n c e => by cases e; omega)
  have := Sl.take hr i h2
  have e := rowPs_cut segs (ps.map (·.2)) 0 i
  simp only [Nat.zero_mul, List.drop_zero] at e
  rw [e, ← List.map_take] at this
  rw [List.length_take, Nat.min_eq_left h2]; exact this
theorem PartsAt.drop {w : World} {a : Option Addr} {cap : Nat} {ps : List PartL} (h : PartsAt w (.slice a ps.length cap) ps) (lo : Nat) (h1 : lo ≤ ps.length) :
    PartsAt w (.slice (if cap = lo then a else a.map (·.add (lo * 2))) (ps.length - lo) (cap - lo)) (ps.drop lo) := by
  have := h.cut lo ps.length h1 (Nat.le_refl _)
  rwa [List.take_length] at this
theorem SegsAt.append {w : World} {s1 s2 : List Nat} {p1 p2 : List PartL} (h1 : SegsAt w s1 p1) (h2 : SegsAt w s2 p2) (hl : s1.length = p1.length) : SegsAt w (s1 ++ s2) (p1 ++ p2) := by
  intro i x q hx hq
  by_cases hi : i < s1.length
  · rw [List.getElem?_append_left hi] at hx
    rw [List.getElem?_append_left (by omega)] at hq
    exact h1 i x q hx hq
  · rw [List.getElem?_append_right (by omega)] at hx
    rw [List.getElem?_append_right (by omega), ← hl] at hq
    exact h2 _ x q hx hq
theorem Fresh_any (v : Value) (l : List DocL) (w : World) (hv : Docs w v l) (h : l.length ≤ 500) (hok : docsOk l) (hT : Tabs w) (hSp : Spans w) :
    Calls Tryz.prog 62 #[v] w fun e w' => (∃ pa pc, e = .returned (.tuple #[.slice pa (freshL l).1.length pc, .string ⟨(freshL l).2.toArray⟩]) ∧ PartsAt w' (.slice pa (freshL l).1.length pc) (freshL l).1) ∧ Q w w' := by
  by_cases hem : l = []
  · subst hem
    obtain ⟨a, cap, rfl, _⟩ := hv.value
    refine (Fresh_none a cap w).mono ?_
    rintro e w' ⟨rfl, rfl⟩
    exact ⟨⟨none, 0, rfl, PartsAt.of [] rfl (fun i p q hp => by simp at hp) (Sl.nil _ _) (fun a n c e => by cases e; exact Nat.le_refl _)⟩, Q.refl _⟩
  · have hl1 : ¬ (l.length < 1 ∨ 500 < l.length) := by have := List.length_pos_iff.2 hem; omega
    have hfl : freshL l = ([(l, makeL l.length)], segE l (idxS l)) := by unfold freshL; rw [if_neg hem, idx_eq]
    refine (Fresh_some v l w hv hl1 hok hT hSp).mono ?_
    rintro e w' ⟨⟨g, p, rfl, hp, hs⟩, q⟩
    rw [hfl]
    refine ⟨⟨some ⟨g, 0, none⟩, 1, rfl, PartsAt.of [p] rfl (fun i x y hx hy => ?_) hp (fun a n c e => by cases e; exact Nat.le_refl _)⟩, q⟩
    cases i with
    | zero => simp at hx hy; subst hx; subst hy; exact hs
    | succ i => simp at hx
set_option maxRecDepth 100000 in
set_option maxHeartbeats 4000000 in
theorem Merge_runB (a : Option Addr) (cap : Nat) (ps : List PartL) (i j : Nat) (w : World) (hv : PartsAt w (.slice a ps.length cap) ps) (hcj : ¬ cap = j + 1) (hij : i < j) (hj : j < ps.length) (hn : ps.length ≤ 1000000) (hpo : PartsOk ps) (hT : Tabs w) (hSp : Spans w) :
    Calls Tryz.prog 24 #[liveV (.slice a ps.length cap), .int .i64 (i : Nat), .int .i64 (j : Nat)] w fun e w' => (∃ v', e = .returned (.tuple #[liveV v', strV (mergeL ps i j).2.1, .int .i64 (mergeL ps i j).2.2]) ∧ PartsAt w' v' (mergeL ps i j).1) ∧ Q w w' := by
  have h1 : ¬ ((i : Int) < 0) := by omega
  have h2 : ¬ ((j : Int) ≤ (i : Int)) := by omega
  have h3 : ¬ ((ps.length : Int) ≤ (j : Int)) := by omega
  obtain ⟨segs, hsl, hsg, hrow, hcp⟩ := hv.segs
  have hcap := hcp _ _ _ rfl
  have hq0 : Q w ((w.alloc (.cells #[.slice a ps.length cap] 30)).alloc (.cells #[.slice none 0 0] 30)) := (Q.alloc _ _).trans (Q.alloc _ _)
  have hbx : Boxed ((w.alloc (.cells #[.slice a ps.length cap] 30)).alloc (.cells #[.slice none 0 0] 30)) (w.heap.size + 1) 30 (.slice none 0 0) := by
    have := Boxed.new (w.alloc (.cells #[.slice a ps.length cap] 30)) 30 (.slice none 0 0)
    simpa using this
  have hb0 : Boxed ((w.alloc (.cells #[.slice a ps.length cap] 30)).alloc (.cells #[.slice none 0 0] 30)) w.heap.size 30 (.slice a ps.length cap) := (Boxed.new w _ _).alloc _
  have hs0 : w.heap.size + 1 < ((w.alloc (.cells #[.slice a ps.length cap] 30)).alloc (.cells #[.slice none 0 0] 30)).heap.size := by simp
  have hcut := (hv.cut i (j + 1) (by omega) (by omega)).stays hq0
  have hsok := slice_ok ps i (j + 1) hpo
  have cd := LDocs_any _ ((ps.take (j + 1)).drop i) _ hcut (by rw [cut_length _ _ _ (by omega)]; omega) hsok.1
  have hne : ¬ cap = i := by omega
  have hmg : mergeL ps (i : Nat) (j : Nat) = if 500 < (docsL ((ps.take (j + 1)).drop i)).length then (ps, [], 6) else (ps.take i ++ ((freshL (docsL ((ps.take (j + 1)).drop i))).1 ++ ps.drop (j + 1)), (freshL (docsL ((ps.take (j + 1)).drop i))).2, 0) := by
    unfold mergeL
    rw [if_neg (by omega)]
    simp only [Int.toNat_natCast]
  have hdok := docs_ok _ hsok
  rw [if_neg hne] at cd
  have CD := Lib.hid cd; have HBX := Lib.hid hbx; have HB0 := Lib.hid hb0; have HV := Lib.hid hv; have HSG := Lib.hid hsg; have HROW := Lib.hid hrow; have HT := Lib.hid hT; have HSP := Lib.hid hSp; have HQ0 := Lib.hid hq0; have HMG := Lib.hid hmg; have HDOK := Lib.hid hdok; have HPO := Lib.hid hpo
  clear cd hbx hb0 hv hsg hrow hcp hT hSp hcut hsok hmg hdok hq0 hpo
  go_enter Tryz.func24, Tryz.ntmps24
  go_wp2_with fail
  refine CD.out.mono ?_
  rintro e w1 ⟨dv, rfl, hd, q1⟩
  have hdl : Docs w1 dv (docsL ((ps.take (j + 1)).drop i)) := Sl.of_owns hd
  have hq1 := HQ0.out.trans q1
  have b1 : Boxed w1 (w.heap.size + 1) 30 (.slice none 0 0) := block_stays' q1 HBX.out
  have b0 : Boxed w1 w.heap.size 30 (.slice a ps.length cap) := block_stays' q1 HB0.out
  have hs1 : w.heap.size + 1 < w1.heap.size := Nat.lt_of_lt_of_le hs0 q1.size
  obtain ⟨da, dcap, rfl, _⟩ := hdl.value
  obtain ⟨all, hall⟩ : ∃ all, all = docsL ((ps.take (j + 1)).drop i) := ⟨_, rfl⟩
  have hidx := idx_eq all
  have hfl : freshL all = if all = [] then ([], []) else ([(all, makeL all.length)], segE all (idxS all)) := by unfold freshL; rw [hidx]
  clear hidx
  rw [← hall] at hdl HMG HDOK ⊢
  have HALL := Lib.hid hall; have HDL := Lib.hid hdl; have HQ1 := Lib.hid hq1; have B1 := Lib.hid b1; have B0 := Lib.hid b0; have HFL := Lib.hid hfl
  clear hd q1 hq1 b1 b0 hall hdl hfl CD HBX HB0 HQ0 hs0
  have c0 := B0.out.cell; have c1 := B1.out.cell; have f1 := B1.out.frozen
  by_cases h5 : 500 < all.length
  · have hmg := HMG.out
    rw [if_pos h5] at hmg
    have HMG2 := Lib.hid hmg
    have r1 := (B1.out.set (.slice a ps.length cap)).cell
    have R1 := Lib.hid r1
    clear hmg r1
    have h5i : (500 : Int) < (all.length : Int) := by omega
    go_wp2_with fail
    have hpa := PartsAt.setBox B1.out (.slice a ps.length cap) (HV.out.stays HQ1.out) (by decide)
    refine bodyPost_ret (v := .tuple #[liveV (.slice a ps.length cap), strV [], .int .i64 6]) (by simp [results, Tryz.results24, go_sem, R1.out]) rfl ⟨⟨_, by rw [HMG2.out], by rw [HMG2.out]; exact hpa⟩, HQ1.out.setCell (by simp) _⟩
  · have hmg := HMG.out
    rw [if_neg h5] at hmg
    have HMG2 := Lib.hid hmg
    clear hmg
    have h5i : ¬ (500 : Int) < (all.length : Int) := by omega
    have cf := Fresh_any _ all w1 HDL.out (by omega) HDOK.out (HT.out.stays HQ1.out) (HSP.out.stays HQ1.out)
    have CF := Lib.hid cf; clear cf
    go_wp2_with fail
    refine CF.out.mono ?_
    rintro e w2 ⟨⟨pa, pc, rfl, hpp⟩, q2⟩
    have b2 : Boxed w2 (w.heap.size + 1) 30 (.slice none 0 0) := block_stays' q2 B1.out
    have b20 : Boxed w2 w.heap.size 30 (.slice a ps.length cap) := block_stays' q2 B0.out
    have hq2 := HQ1.out.trans q2
    have hv2 := HV.out.stays hq2
    have hs2 : w.heap.size + 1 < w2.heap.size := Nat.lt_of_lt_of_le hs1 q2.size
    have HPP := Lib.hid hpp; have HQ2 := Lib.hid hq2; have HV2 := Lib.hid hv2; have B2 := Lib.hid b2; have B20 := Lib.hid b20
    clear hpp q2 hq2 hv2 b2 b20 CF B0 B1 c0 c1 f1
    have c0 := B20.out.cell; have c1 := B2.out.cell; have f1 := B2.out.frozen
    have hmx : Tryz.prog.follows .mixedOrders = true := by kernel_rfl
    have hne2 : ¬ cap = 0 := by omega
    have hw1 : IntKind.i64.wrap ((j : Int) + 1) = (j : Int) + 1 := IntWalk.i64_in _ (by omega)
    have hi0 : (0 : Int) ≤ (i : Int) := by omega
    have hi1 : (i : Int) ≤ (cap : Int) := by omega
    have hi2 : (0 : Int) ≤ (j : Int) + 1 := by omega
    have hi3 : (j : Int) + 1 ≤ (ps.length : Int) := by omega
    go_wp2_with fail
    have hv1 := HV2.out.take i (by omega)
    have hv3 := HV2.out.drop (j + 1) (by omega)
    rw [if_neg hcj] at hv3
    obtain ⟨s1, hl1, hg1, hr1, _⟩ := hv1.segs
    obtain ⟨s2, hl2, hg2, hr2, _⟩ := HPP.out.segs
    obtain ⟨s3, hl3, hg3, hr3, _⟩ := hv3.segs
    have hk1 : (ps.take i).length = i := by rw [List.length_take, Nat.min_eq_left (by omega)]
    have hk3 : (ps.drop (j + 1)).length = ps.length - (j + 1) := by rw [List.length_drop]
    have hfr := fresh_length all
    rw [hk1] at hr1 hl1
    rw [hk3] at hr3 hl3
    obtain ⟨XS, hXS⟩ : ∃ XS : List CatX, XS = [(.slice a i cap, i, rowPs s1 ((ps.take i).map (·.2))), (.slice pa (freshL all).1.length pc, (freshL all).1.length, rowPs s2 ((freshL all).1.map (·.2))), (.slice (Option.map (fun x => x.add ((j + 1) * 2)) a) (ps.length - (j + 1)) (cap - (j + 1)), ps.length - (j + 1), rowPs s3 ((ps.drop (j + 1)).map (·.2)))] := ⟨_, rfl⟩
    have hcat : ∀ W, Q (w2.alloc (.cells #[.slice a i cap, .slice pa (freshL all).1.length pc, .slice (Option.map (fun x => x.add ((j + 1) * 2)) a) (ps.length - (j + 1)) (cap - (j + 1))] 28)) W → ∀ k (h : k < XS.length), W.cell? ⟨w2.heap.size, 0 + k, none⟩ = some XS[k].1 ∧ Sl W XS[k].1 XS[k].2.1 2 XS[k].2.2 ∧ ∀ u ∈ XS[k].2.2, u.oneCell' = true := by
      intro W hq k hk
      subst hXS
      have hq2 := (Q.alloc w2 (.cells #[.slice a i cap, .slice pa (freshL all).1.length pc, .slice (Option.map (fun x => x.add ((j + 1) * 2)) a) (ps.length - (j + 1)) (cap - (j + 1))] 28)).trans hq
      obtain ⟨d0, d1, d2⟩ := cells3 (block_stays' hq (heap_alloc_new w2 (.cells #[.slice a i cap, .slice pa (freshL all).1.length pc, .slice (Option.map (fun x => x.add ((j + 1) * 2)) a) (ps.length - (j + 1)) (cap - (j + 1))] 28)))
      match k, hk with
      | 0, _ => exact ⟨d0, hr1.stays hq2, partVs_one _⟩
      | 1, _ => exact ⟨d1, hr2.stays hq2, partVs_one _⟩
      | 2, _ => exact ⟨d2, hr3.stays hq2, partVs_one _⟩
    have hxl : XS.length = 3 := by rw [hXS]; rfl
    have hcl : catLen XS XS.length = i + ((freshL all).1.length + (ps.length - (j + 1))) := by rw [hXS]; simp [catLen]
    have hcc : catCells XS XS.length = rowPs (s1 ++ (s2 ++ s3)) ((ps.take i ++ ((freshL all).1 ++ ps.drop (j + 1))).map (·.2)) := by
      rw [hXS, List.map_append, List.map_append, rowPs_append _ _ _ _ (by rw [hl1, List.length_map, hk1]), rowPs_append _ _ _ _ (by rw [hl2, List.length_map])]
      simp [catCells]
    have hsegs := hg1.append (hg2.append hg3 hl2) (by omega)
    have hsum : catLen XS XS.length ≤ 1000000000 := by omega
    have hx1000 : XS.length ≤ 1000 := by omega
    have ccat := fun W hq => Concat_any w2.heap.size 0 3 XS W (hcat W hq) hx1000 hsum
    rw [hxl] at ccat
    have CCAT := Lib.hid ccat; have HCL := Lib.hid hcl; have HCC := Lib.hid hcc; have HSEGS := Lib.hid hsegs; have HXL := Lib.hid hxl
    have hsl9 : (s1 ++ (s2 ++ s3)).length = (ps.take i ++ ((freshL all).1 ++ ps.drop (j + 1))).length := by simp only [List.length_append]; omega
    have hln9 : catLen XS 3 = (ps.take i ++ ((freshL all).1 ++ ps.drop (j + 1))).length := by simp only [List.length_append]; rw [← hxl, hcl]; omega
    rw [hxl] at hcc
    have HCC3 := Lib.hid hcc; have HSL9 := Lib.hid hsl9; have HLN9 := Lib.hid hln9
    clear hcat ccat hcl hcc hsegs hsum hx1000 hv1 hv3 hg1 hg2 hg3 hr1 hr2 hr3 hl1 hl2 hl3 hk1 hk3 hXS hsl9 hln9 hxl
    have hs20 : w.heap.size < w2.heap.size := by omega
    go_region_held3 (fun w' => w'.cell? ⟨w.heap.size, 0, none⟩ = some (.slice a ps.length cap)) (first | exact c0 | exact cell_stays ((Q.alloc _ _).trans (Q.drew _)) c0 | exact cell_stays qz c0 | exact (World.cell?_setCell_other _ _ _ _ (by simp)).trans (cell_stays qz c0))
      (first
        | (go_at_call 65; refine (CCAT.out _ (by first | exact Q.refl _ | exact Q.drew _)).mono ?_; rintro e w' ⟨v', rfl, ho, q⟩; obtain ⟨xa, xcap, rfl, _⟩ := owns_value ho; have qz := ((Q.alloc w2 (.cells #[.slice a i cap, .slice pa (freshL all).1.length pc, .slice (Option.map (fun x => x.add ((j + 1) * 2)) a) (ps.length - (j + 1)) (cap - (j + 1))] 28)).trans (Q.drew _)).trans q; have HOO := Lib.hid ho; have c9 := cell_stays qz c1; have f9 := (frozen_stays qz hs2).trans f1; clear ho q))
    all_goals
      have b9 : Boxed w' (w.heap.size + 1) 30 (.slice none 0 0) := block_stays' qz B2.out
      have hsg9 : SegsAt w' (s1 ++ (s2 ++ s3)) (ps.take i ++ ((freshL all).1 ++ ps.drop (j + 1))) := HSEGS.out.stays qz
      have hoo := HOO.out
      rw [HCC3.out, HLN9.out] at hoo
      have hpa : PartsAt w' (.slice xa (ps.take i ++ ((freshL all).1 ++ ps.drop (j + 1))).length xcap) (ps.take i ++ ((freshL all).1 ++ ps.drop (j + 1))) := PartsAt.owns _ HSL9.out hsg9 hoo
      rw [← HLN9.out] at hpa
      have hpb := PartsAt.setBox b9 (.slice xa (catLen XS 3) xcap) hpa (by decide)
      have r9 := (b9.set (.slice xa (catLen XS 3) xcap)).cell
      have hq9 := HQ2.out.trans qz
      have HPB := Lib.hid hpb; have R9 := Lib.hid r9; have HQ9 := Lib.hid hq9
      clear b9 hsg9 hoo hpa hpb r9 hq9
      go_wp2_with fail
      refine bodyPost_ret (v := .tuple #[liveV (.slice xa (catLen XS 3) xcap), strV (freshL all).2, .int .i64 0]) (by simp [results, Tryz.results24, go_sem, R9.out]) rfl ⟨⟨_, by rw [HMG2.out], by rw [HMG2.out]; exact HPB.out⟩, HQ9.out.setCell (by simp) _⟩
set_option maxRecDepth 100000 in
set_option maxHeartbeats 4000000 in
theorem Merge_runA (a : Option Addr) (ps : List PartL) (i j : Nat) (w : World) (hv : PartsAt w (.slice a ps.length (j + 1)) ps) (hij : i < j) (hj : j < ps.length) (hn : ps.length ≤ 1000000) (hpo : PartsOk ps) (hT : Tabs w) (hSp : Spans w) :
    Calls Tryz.prog 24 #[liveV (.slice a ps.length (j + 1)), .int .i64 (i : Nat), .int .i64 (j : Nat)] w fun e w' => (∃ v', e = .returned (.tuple #[liveV v', strV (mergeL ps i j).2.1, .int .i64 (mergeL ps i j).2.2]) ∧ PartsAt w' v' (mergeL ps i j).1) ∧ Q w w' := by
  have h1 : ¬ ((i : Int) < 0) := by omega
  have h2 : ¬ ((j : Int) ≤ (i : Int)) := by omega
  have h3 : ¬ ((ps.length : Int) ≤ (j : Int)) := by omega
  obtain ⟨segs, hsl, hsg, hrow, hcp⟩ := hv.segs
  have hcap := hcp _ _ _ rfl
  have hq0 : Q w ((w.alloc (.cells #[.slice a ps.length (j + 1)] 30)).alloc (.cells #[.slice none 0 0] 30)) := (Q.alloc _ _).trans (Q.alloc _ _)
  have hbx : Boxed ((w.alloc (.cells #[.slice a ps.length (j + 1)] 30)).alloc (.cells #[.slice none 0 0] 30)) (w.heap.size + 1) 30 (.slice none 0 0) := by
    have := Boxed.new (w.alloc (.cells #[.slice a ps.length (j + 1)] 30)) 30 (.slice none 0 0)
    simpa using this
  have hb0 : Boxed ((w.alloc (.cells #[.slice a ps.length (j + 1)] 30)).alloc (.cells #[.slice none 0 0] 30)) w.heap.size 30 (.slice a ps.length (j + 1)) := (Boxed.new w _ _).alloc _
  have hs0 : w.heap.size + 1 < ((w.alloc (.cells #[.slice a ps.length (j + 1)] 30)).alloc (.cells #[.slice none 0 0] 30)).heap.size := by simp
  have hcut := (hv.cut i (j + 1) (by omega) (by omega)).stays hq0
  have hsok := slice_ok ps i (j + 1) hpo
  have cd := LDocs_any _ ((ps.take (j + 1)).drop i) _ hcut (by rw [cut_length _ _ _ (by omega)]; omega) hsok.1
  have hne : ¬ (j + 1) = i := by omega
  have hmg : mergeL ps (i : Nat) (j : Nat) = if 500 < (docsL ((ps.take (j + 1)).drop i)).length then (ps, [], 6) else (ps.take i ++ ((freshL (docsL ((ps.take (j + 1)).drop i))).1 ++ ps.drop (j + 1)), (freshL (docsL ((ps.take (j + 1)).drop i))).2, 0) := by
    unfold mergeL
    rw [if_neg (by omega)]
    simp only [Int.toNat_natCast]
  have hdok := docs_ok _ hsok
  rw [if_neg hne] at cd
  have CD := Lib.hid cd; have HBX := Lib.hid hbx; have HB0 := Lib.hid hb0; have HV := Lib.hid hv; have HSG := Lib.hid hsg; have HROW := Lib.hid hrow; have HT := Lib.hid hT; have HSP := Lib.hid hSp; have HQ0 := Lib.hid hq0; have HMG := Lib.hid hmg; have HDOK := Lib.hid hdok; have HPO := Lib.hid hpo
  clear cd hbx hb0 hv hsg hrow hcp hT hSp hcut hsok hmg hdok hq0 hpo
  go_enter Tryz.func24, Tryz.ntmps24
  go_wp2_with fail
  refine CD.out.mono ?_
  rintro e w1 ⟨dv, rfl, hd, q1⟩
  have hdl : Docs w1 dv (docsL ((ps.take (j + 1)).drop i)) := Sl.of_owns hd
  have hq1 := HQ0.out.trans q1
  have b1 : Boxed w1 (w.heap.size + 1) 30 (.slice none 0 0) := block_stays' q1 HBX.out
  have b0 : Boxed w1 w.heap.size 30 (.slice a ps.length (j + 1)) := block_stays' q1 HB0.out
  have hs1 : w.heap.size + 1 < w1.heap.size := Nat.lt_of_lt_of_le hs0 q1.size
  obtain ⟨da, dcap, rfl, _⟩ := hdl.value
  obtain ⟨all, hall⟩ : ∃ all, all = docsL ((ps.take (j + 1)).drop i) := ⟨_, rfl⟩
  have hidx := idx_eq all
  have hfl : freshL all = if all = [] then ([], []) else ([(all, makeL all.length)], segE all (idxS all)) := by unfold freshL; rw [hidx]
  clear hidx
  rw [← hall] at hdl HMG HDOK ⊢
  have HALL := Lib.hid hall; have HDL := Lib.hid hdl; have HQ1 := Lib.hid hq1; have B1 := Lib.hid b1; have B0 := Lib.hid b0; have HFL := Lib.hid hfl
  clear hd q1 hq1 b1 b0 hall hdl hfl CD HBX HB0 HQ0 hs0
  have c0 := B0.out.cell; have c1 := B1.out.cell; have f1 := B1.out.frozen
  by_cases h5 : 500 < all.length
  · have hmg := HMG.out
    rw [if_pos h5] at hmg
    have HMG2 := Lib.hid hmg
    have r1 := (B1.out.set (.slice a ps.length (j + 1))).cell
    have R1 := Lib.hid r1
    clear hmg r1
    have h5i : (500 : Int) < (all.length : Int) := by omega
    go_wp2_with fail
    have hpa := PartsAt.setBox B1.out (.slice a ps.length (j + 1)) (HV.out.stays HQ1.out) (by decide)
    refine bodyPost_ret (v := .tuple #[liveV (.slice a ps.length (j + 1)), strV [], .int .i64 6]) (by simp [results, Tryz.results24, go_sem, R1.out]) rfl ⟨⟨_, by rw [HMG2.out], by rw [HMG2.out]; exact hpa⟩, HQ1.out.setCell (by simp) _⟩
  · have hmg := HMG.out
    rw [if_neg h5] at hmg
    have HMG2 := Lib.hid hmg
    clear hmg
    have h5i : ¬ (500 : Int) < (all.length : Int) := by omega
    have cf := Fresh_any _ all w1 HDL.out (by omega) HDOK.out (HT.out.stays HQ1.out) (HSP.out.stays HQ1.out)
    have CF := Lib.hid cf; clear cf
    go_wp2_with fail
    refine CF.out.mono ?_
    rintro e w2 ⟨⟨pa, pc, rfl, hpp⟩, q2⟩
    have b2 : Boxed w2 (w.heap.size + 1) 30 (.slice none 0 0) := block_stays' q2 B1.out
    have b20 : Boxed w2 w.heap.size 30 (.slice a ps.length (j + 1)) := block_stays' q2 B0.out
    have hq2 := HQ1.out.trans q2
    have hv2 := HV.out.stays hq2
    have hs2 : w.heap.size + 1 < w2.heap.size := Nat.lt_of_lt_of_le hs1 q2.size
    have HPP := Lib.hid hpp; have HQ2 := Lib.hid hq2; have HV2 := Lib.hid hv2; have B2 := Lib.hid b2; have B20 := Lib.hid b20
    clear hpp q2 hq2 hv2 b2 b20 CF B0 B1 c0 c1 f1
    have c0 := B20.out.cell; have c1 := B2.out.cell; have f1 := B2.out.frozen
    have hmx : Tryz.prog.follows .mixedOrders = true := by kernel_rfl
    have hne2 : ¬ (j + 1) = 0 := by omega
    have hw1 : IntKind.i64.wrap ((j : Int) + 1) = (j : Int) + 1 := IntWalk.i64_in _ (by omega)
    have hi0 : (0 : Int) ≤ (i : Int) := by omega
    have hi1 : (i : Int) ≤ ((j + 1) : Int) := by omega
    have hi2 : (0 : Int) ≤ (j : Int) + 1 := by omega
    have hi3 : (j : Int) + 1 ≤ (ps.length : Int) := by omega
    go_wp2_with fail
    have hv1 := HV2.out.take i (by omega)
    have hv3 := HV2.out.drop (j + 1) (by omega)
    rw [if_pos rfl, Nat.sub_self, show ps.length - (j + 1) = 0 by omega] at hv3
    obtain ⟨s1, hl1, hg1, hr1, _⟩ := hv1.segs
    obtain ⟨s2, hl2, hg2, hr2, _⟩ := HPP.out.segs
    obtain ⟨s3, hl3, hg3, hr3, _⟩ := hv3.segs
    have hk1 : (ps.take i).length = i := by rw [List.length_take, Nat.min_eq_left (by omega)]
    have hk3 : (ps.drop (j + 1)).length = 0 := by rw [List.length_drop]; omega
    have hfr := fresh_length all
    rw [hk1] at hr1 hl1
    rw [hk3] at hr3 hl3
    obtain ⟨XS, hXS⟩ : ∃ XS : List CatX, XS = [(.slice a i (j + 1), i, rowPs s1 ((ps.take i).map (·.2))), (.slice pa (freshL all).1.length pc, (freshL all).1.length, rowPs s2 ((freshL all).1.map (·.2))), (.slice a 0 0, 0, rowPs s3 ((ps.drop (j + 1)).map (·.2)))] := ⟨_, rfl⟩
    have hcat : ∀ W, Q (w2.alloc (.cells #[.slice a i (j + 1), .slice pa (freshL all).1.length pc, .slice a 0 0] 28)) W → ∀ k (h : k < XS.length), W.cell? ⟨w2.heap.size, 0 + k, none⟩ = some XS[k].1 ∧ Sl W XS[k].1 XS[k].2.1 2 XS[k].2.2 ∧ ∀ u ∈ XS[k].2.2, u.oneCell' = true := by
      intro W hq k hk
      subst hXS
      have hq2 := (Q.alloc w2 (.cells #[.slice a i (j + 1), .slice pa (freshL all).1.length pc, .slice a 0 0] 28)).trans hq
      obtain ⟨d0, d1, d2⟩ := cells3 (block_stays' hq (heap_alloc_new w2 (.cells #[.slice a i (j + 1), .slice pa (freshL all).1.length pc, .slice a 0 0] 28)))
      match k, hk with
      | 0, _ => exact ⟨d0, hr1.stays hq2, partVs_one _⟩
      | 1, _ => exact ⟨d1, hr2.stays hq2, partVs_one _⟩
      | 2, _ => exact ⟨d2, hr3.stays hq2, partVs_one _⟩
    have hxl : XS.length = 3 := by rw [hXS]; rfl
    have hcl : catLen XS XS.length = i + ((freshL all).1.length + 0) := by rw [hXS]; simp [catLen]
    have hcc : catCells XS XS.length = rowPs (s1 ++ (s2 ++ s3)) ((ps.take i ++ ((freshL all).1 ++ ps.drop (j + 1))).map (·.2)) := by
      rw [hXS, List.map_append, List.map_append, rowPs_append _ _ _ _ (by rw [hl1, List.length_map, hk1]), rowPs_append _ _ _ _ (by rw [hl2, List.length_map])]
      simp [catCells]
    have hsegs := hg1.append (hg2.append hg3 hl2) (by omega)
    have hsum : catLen XS XS.length ≤ 1000000000 := by omega
    have hx1000 : XS.length ≤ 1000 := by omega
    have ccat := fun W hq => Concat_any w2.heap.size 0 3 XS W (hcat W hq) hx1000 hsum
    rw [hxl] at ccat
    have CCAT := Lib.hid ccat; have HCL := Lib.hid hcl; have HCC := Lib.hid hcc; have HSEGS := Lib.hid hsegs; have HXL := Lib.hid hxl
    have hsl9 : (s1 ++ (s2 ++ s3)).length = (ps.take i ++ ((freshL all).1 ++ ps.drop (j + 1))).length := by simp only [List.length_append]; omega
    have hln9 : catLen XS 3 = (ps.take i ++ ((freshL all).1 ++ ps.drop (j + 1))).length := by simp only [List.length_append]; rw [← hxl, hcl]; omega
    rw [hxl] at hcc
    have HCC3 := Lib.hid hcc; have HSL9 := Lib.hid hsl9; have HLN9 := Lib.hid hln9
    clear hcat ccat hcl hcc hsegs hsum hx1000 hv1 hv3 hg1 hg2 hg3 hr1 hr2 hr3 hl1 hl2 hl3 hk1 hk3 hXS hsl9 hln9 hxl
    have hs20 : w.heap.size < w2.heap.size := by omega
    go_region_held3 (fun w' => w'.cell? ⟨w.heap.size, 0, none⟩ = some (.slice a ps.length (j + 1))) (first | exact c0 | exact cell_stays ((Q.alloc _ _).trans (Q.drew _)) c0 | exact cell_stays qz c0 | exact (World.cell?_setCell_other _ _ _ _ (by simp)).trans (cell_stays qz c0))
      (first
        | (go_at_call 65; refine (CCAT.out _ (by first | exact Q.refl _ | exact Q.drew _)).mono ?_; rintro e w' ⟨v', rfl, ho, q⟩; obtain ⟨xa, xcap, rfl, _⟩ := owns_value ho; have qz := ((Q.alloc w2 (.cells #[.slice a i (j + 1), .slice pa (freshL all).1.length pc, .slice a 0 0] 28)).trans (Q.drew _)).trans q; have HOO := Lib.hid ho; have c9 := cell_stays qz c1; have f9 := (frozen_stays qz hs2).trans f1; clear ho q))
    all_goals
      have b9 : Boxed w' (w.heap.size + 1) 30 (.slice none 0 0) := block_stays' qz B2.out
      have hsg9 : SegsAt w' (s1 ++ (s2 ++ s3)) (ps.take i ++ ((freshL all).1 ++ ps.drop (j + 1))) := HSEGS.out.stays qz
      have hoo := HOO.out
      rw [HCC3.out, HLN9.out] at hoo
      have hpa : PartsAt w' (.slice xa (ps.take i ++ ((freshL all).1 ++ ps.drop (j + 1))).length xcap) (ps.take i ++ ((freshL all).1 ++ ps.drop (j + 1))) := PartsAt.owns _ HSL9.out hsg9 hoo
      rw [← HLN9.out] at hpa
      have hpb := PartsAt.setBox b9 (.slice xa (catLen XS 3) xcap) hpa (by decide)
      have r9 := (b9.set (.slice xa (catLen XS 3) xcap)).cell
      have hq9 := HQ2.out.trans qz
      have HPB := Lib.hid hpb; have R9 := Lib.hid r9; have HQ9 := Lib.hid hq9
      clear b9 hsg9 hoo hpa hpb r9 hq9
      go_wp2_with fail
      refine bodyPost_ret (v := .tuple #[liveV (.slice xa (catLen XS 3) xcap), strV (freshL all).2, .int .i64 0]) (by simp [results, Tryz.results24, go_sem, R9.out]) rfl ⟨⟨_, by rw [HMG2.out], by rw [HMG2.out]; exact HPB.out⟩, HQ9.out.setCell (by simp) _⟩
theorem Merge_any (v : Value) (ps : List PartL) (i j : Int) (w : World) (hv : PartsAt w v ps) (hn : ps.length ≤ 1000000) (hpo : PartsOk ps) (hT : Tabs w) (hSp : Spans w) :
    Calls Tryz.prog 24 #[liveV v, .int .i64 i, .int .i64 j] w fun e w' => (∃ v', e = .returned (.tuple #[liveV v', strV (mergeL ps i j).2.1, .int .i64 (mergeL ps i j).2.2]) ∧ PartsAt w' v' (mergeL ps i j).1) ∧ Q w w' := by
  obtain ⟨a, cap, rfl, _⟩ := hv.value
  by_cases h : i < 0 ∨ j ≤ i ∨ (ps.length : Int) ≤ j
  · have e : mergeL ps i j = (ps, [], 1) := by unfold mergeL; rw [if_pos h]
    rw [e]
    refine (Merge_arg a ps.length cap i j w h).mono ?_
    rintro e w' ⟨rfl, q⟩
    exact ⟨⟨_, rfl, hv.stays q⟩, q⟩
  · obtain ⟨i', rfl⟩ := Int.eq_ofNat_of_zero_le (show 0 ≤ i by omega)
    obtain ⟨j', rfl⟩ := Int.eq_ofNat_of_zero_le (show 0 ≤ j by omega)
    by_cases hcj : cap = j' + 1
    · subst hcj
      exact Merge_runA a ps i' j' w hv (by omega) (by omega) hn hpo hT hSp
    · exact Merge_runB a cap ps i' j' w hv hcj (by omega) (by omega) hn hpo hT hSp
end Go.Proofs.YtepofekepagfhaaGreatDoor
end
