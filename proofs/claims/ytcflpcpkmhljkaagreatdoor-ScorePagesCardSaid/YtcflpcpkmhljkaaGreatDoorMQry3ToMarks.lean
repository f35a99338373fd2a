/- Joined texts of one proof: Qry3, Qry6, QryH, Marks. -/
import Derived.Test.YtcflpcpkmhljkaaGreatDoorMQryMToWSk1
import Derived.Test.YtcflpcpkmhljkaaGreatDoorMSegRdToWDictPR
import Derived.Test.YtcflpcpkmhljkaaGreatDoorMWSegPToPlc
import Derived.Test.YtcflpcpkmhljkaaGreatDoorMLive2ToWScW
import Derived.Test.YtcflpcpkmhljkaaGreatDoorMIxWToIdxEq
import Derived.Test.YtcflpcpkmhljkaaGreatDoorMWCrcToRange2
set_option linter.unusedSimpArgs false
set_option linter.unusedVariables false
set_option linter.unnecessarySimpa false
/- (Qry3) Plain laws of chapter 18: what walks over documents finds what is matched; searches. No program in sight. -/
section
namespace Go.Proofs.YtcflpcpkmhljkaaGreatDoor
set_option linter.unusedVariables false

def someO (os : List (Option Nat)) : Option Nat := if os.any (fun o => o.isSome) then some (sumO os) else none
def bothO (M S N : List (Option Nat)) : Option Nat := if M.all (fun o => o.isSome) && !(N.any fun o => o.isSome) then some (sumO M + sumO S) else none
theorem someF_at (Fs : List DF) (i : Nat) : someF Fs i = someO (Fs.map fun F => F i) := by
  unfold someF someO; rw [List.any_map]; rfl
theorem bothF_at (M S N : List DF) (i : Nat) : bothF M S N i = bothO (M.map fun F => F i) (S.map fun F => F i) (N.map fun F => F i) := by
  unfold bothF bothO; rw [List.any_map, List.all_map]; rfl
/-- what a query has of a document -/
def hasT (wt : Bytes → Nat) (t : TokL) (q : QL) : Option Nat := if matchT q t then some (scoreT wt q t) else none
def hasAt (l : List DocL) (wt : Bytes → Nat) (q : QL) : DF := fun i => match l[i]? with
  | some d => hasT wt (tokensL d.2) q
  | none => none
theorem has_any (wt : Bytes → Nat) (t : TokL) (qs : List QL) : (qs.map (hasT wt t)).any (fun o => o.isSome) = anyT qs t := by
  induction qs with
  | nil => rfl
  | cons q qs ih =>
    rw [List.map_cons, List.any_cons, ih, anyT]
    unfold hasT
    cases matchT q t <;> simp
theorem has_all (wt : Bytes → Nat) (t : TokL) (qs : List QL) : (qs.map (hasT wt t)).all (fun o => o.isSome) = allT qs t := by
  induction qs with
  | nil => rfl
  | cons q qs ih =>
    rw [List.map_cons, List.all_cons, ih, allT]
    unfold hasT
    cases matchT q t <;> simp
theorem has_may (wt : Bytes → Nat) (t : TokL) (qs : List QL) : sumO (qs.map (hasT wt t)) = mayT wt qs t := by
  induction qs with
  | nil => rfl
  | cons q qs ih =>
    rw [List.map_cons, sumO, ih, mayT]
    unfold hasT
    cases matchT q t <;> simp
theorem may_all (wt : Bytes → Nat) (t : TokL) (qs : List QL) (h : allT qs t = true) : mayT wt qs t = sumT wt qs t := by
  induction qs with
  | nil => rfl
  | cons q qs ih =>
    rw [allT, Bool.and_eq_true] at h
    rw [mayT, sumT, ih h.2, if_pos h.1]
theorem phrase_at (l : List DocL) (wt : Bytes → Nat) (p : TokL) (hp : p ≠ []) (h0 : (p.headD ([], 0)).2 = 0) (i : Nat) :
    phraseF l p (sumW wt p) i = match l[i]? with
      | some d => if 0 < countL p (tokensL d.2) then some (sumW wt p * countL p (tokensL d.2)) else none
      | none => none := by
  unfold phraseF
  cases l[i]? with
  | none => rfl
  | some d => simp only [countP_eq p d.2 hp h0, Nat.mul_comm]
theorem begins_sum (s : Bytes) (ts : List Bytes) (f : Bytes) (hn : ts.Nodup) (hm : ∀ x ∈ tokensL s, x.1 ∈ ts) (hf : f ≠ []) :
    sumL ((ts.filter fun t => f.isPrefixOf t).map fun t => (placesIn s t).length) = beginsL f (tokensL s) := by
  unfold beginsL
  rw [if_neg hf]
  have h := tokens_places ((tokensL s).filter fun y => f.isPrefixOf y.1) (ts.filter fun t => f.isPrefixOf t) (hn.sublist List.filter_sublist)
    (fun x hx => by
      obtain ⟨h1, h2⟩ := List.mem_filter.1 hx
      exact List.mem_filter.2 ⟨hm x h1, h2⟩)
  rw [← h]
  congr 1
  refine List.map_congr_left fun t ht => ?_
  have hft := (List.mem_filter.1 ht).2
  congr 1
  unfold placesIn
  generalize tokensL s = ts
  clear h hm
  induction ts with
  | nil => rfl
  | cons x ts ih =>
    by_cases e : x.1 = t
    · rw [List.filter_cons_of_pos (by rw [e]; exact hft), List.filterMap_cons_some (b := (x.2 : Int)) (by rw [if_pos e]), List.filterMap_cons_some (b := (x.2 : Int)) (by rw [if_pos e]), ih]
    · rw [List.filterMap_cons_none (by rw [if_neg e]), ih]
      by_cases hx : f.isPrefixOf x.1 = true
      · rw [List.filter_cons_of_pos (p := fun y : Bytes × Nat => f.isPrefixOf y.1) hx, List.filterMap_cons_none (by rw [if_neg e])]
      · rw [List.filter_cons_of_neg (p := fun y : Bytes × Nat => f.isPrefixOf y.1) hx]
theorem sumO_terms (l : List DocL) (i : Nat) (d : DocL) (hd : l[i]? = some d) (ts : List Bytes) : sumO (ts.map fun t => termF l t i) = sumL (ts.map fun t => (placesIn d.2 t).length) := by
  induction ts with
  | nil => rfl
  | cons t ts ih =>
    rw [List.map_cons, List.map_cons, sumO, sumL, ih]
    unfold termF
    rw [hd]
    by_cases e : placesIn d.2 t = []
    · simp [e]
    · simp [e]
theorem any_terms (l : List DocL) (i : Nat) (d : DocL) (hd : l[i]? = some d) (ts : List Bytes) : (ts.map fun t => termF l t i).any (fun o => o.isSome) = decide (0 < sumL (ts.map fun t => (placesIn d.2 t).length)) := by
  induction ts with
  | nil => rfl
  | cons t ts ih =>
    rw [List.map_cons, List.map_cons, List.any_cons, sumL, ih]
    unfold termF
    rw [hd]
    by_cases e : placesIn d.2 t = []
    · simp only [if_pos e]; rw [e]; simp
    · have : 0 < (placesIn d.2 t).length := List.length_pos_iff.2 e
      simp only [if_neg e, Option.isSome_some, Bool.true_or]
      exact (decide_eq_true (by omega)).symm
theorem prefix_at (l : List DocL) (f : Bytes) (i : Nat) : prefixF (termsL l) l f i = match l[i]? with
    | some d => if 0 < beginsL f (tokensL d.2) then some (beginsL f (tokensL d.2)) else none
    | none => none := by
  unfold prefixF
  by_cases hf : f = []
  · rw [if_pos hf]
    cases l[i]? with
    | none => rfl
    | some d => simp [noneF, beginsL, hf]
  · rw [if_neg hf, someF_at, List.map_map]
    cases hd : l[i]? with
    | none =>
      unfold someO
      rw [if_neg]
      intro h
      obtain ⟨o, ho, hs⟩ := List.any_eq_true.1 h
      obtain ⟨t, _, rfl⟩ := List.mem_map.1 ho
      simp [termF, hd] at hs
    | some d =>
      have hn : (termsL l).Nodup := (termsL_rise l).imp (fun h => by intro e; subst e; exact absurd h (List.lt_irrefl _))
      have hm : ∀ x ∈ tokensL d.2, x.1 ∈ termsL l := fun x hx => (mem_termsL l x.1).2 (List.mem_flatMap.2 ⟨d, List.mem_of_getElem? hd, List.mem_map.2 ⟨x, hx, rfl⟩⟩)
      have hb := begins_sum d.2 (termsL l) f hn hm hf
      show someO (((termsL l).filter fun t => f.isPrefixOf t).map fun t => termF l t i) = _
      unfold someO
      rw [any_terms l i d hd, sumO_terms l i d hd, hb]
      simp
mutual
theorem walk_has (l : List DocL) (wt : Bytes → Nat) (i : Nat) : ∀ q : QL, kindsOk q = true → walkF l wt q i = hasAt l wt q i
  | .mk k s m sh n, hk => by
    rw [kindsOk, Bool.and_eq_true, Bool.and_eq_true, Bool.and_eq_true, Bool.and_eq_true, decide_eq_true_eq, decide_eq_true_eq] at hk
    obtain ⟨⟨k1, k2⟩, ⟨km, ks⟩, kn⟩ := hk
    have hM := walks_has l wt i m km
    have hS := walks_has l wt i sh ks
    have hN := walks_has l wt i n kn
    unfold hasAt
    by_cases e1 : k = 1
    · subst e1
      rw [walkF, if_pos rfl]
      unfold everyF
      by_cases hi : i < l.length
      · rw [if_pos hi, List.getElem?_eq_getElem hi]; simp [hasT, matchT, scoreT]
      · rw [if_neg hi, List.getElem?_eq_none (by omega)]
    · by_cases e4 : k = 4
      · subst e4
        rw [walkF, if_neg e1, if_pos rfl, prefix_at]
        cases l[i]? with
        | none => rfl
        | some d => simp only [hasT, matchT, scoreT]; simp
      · by_cases e5 : k = 5
        · subst e5
          rw [walkF, if_neg e1, if_neg e4, if_pos rfl, bothF_at, hS, hN]
          cases hd : l[i]? with
          | none =>
            have hnone : ∀ (q : QL), hasAt l wt q i = none := fun q => by unfold hasAt; rw [hd]
            unfold mustF
            cases m with
            | nil =>
              simp only [walksF, if_pos]
              cases sh with
              | nil =>
                have : everyF l.length i = none := by unfold everyF; rw [if_neg (by have := List.getElem?_eq_none_iff.1 hd; omega)]
                simp [walksF, bothO, freeF, this]
              | cons a b =>
                have : someF (walksF l wt (a :: b)) i = none := by
                  rw [someF_at, hS]; unfold someO
                  rw [if_neg]
                  intro h
                  obtain ⟨o, ho, hs⟩ := List.any_eq_true.1 h
                  obtain ⟨t, _, rfl⟩ := List.mem_map.1 ho
                  rw [hnone] at hs; cases hs
                rw [if_neg (by simp [walksF])]
                simp [bothO, freeF, this]
            | cons a b =>
              rw [if_neg (by simp [walksF]), hM]
              simp [bothO, hnone]
          | some d =>
            have hsome : ∀ qs : List QL, (qs.map fun q => hasAt l wt q i) = qs.map (hasT wt (tokensL d.2)) := fun qs => List.map_congr_left fun q _ => by unfold hasAt; rw [hd]
            rw [hsome] at hM hS hN
            rw [hsome, hsome]
            have hi : i < l.length := (List.getElem?_eq_some_iff.1 hd).1
            simp only [hasT, matchT, scoreT, if_neg e1, show ¬ (5 : Int) = 2 by decide, show ¬ (5 : Int) = 3 by decide, show ¬ (5 : Int) = 4 by decide, if_pos, if_false]
            unfold mustF
            cases m with
            | nil =>
              simp only [walksF, if_pos]
              cases sh with
              | nil =>
                have he : everyF l.length i = some 1 := by unfold everyF; rw [if_pos hi]
                unfold bothO
                rw [has_any]
                simp [walksF, freeF, he, allT, sumT, mayT, sumO]
              | cons a b =>
                rw [if_neg (by simp [walksF])]
                have hs : someF (walksF l wt (a :: b)) i = if anyT (a :: b) (tokensL d.2) then some (mayT wt (a :: b) (tokensL d.2)) else none := by
                  rw [someF_at, hS]; unfold someO; rw [has_any, has_may]
                unfold bothO
                rw [has_any, has_may]
                simp only [List.map_cons, List.map_nil, List.all_cons, List.all_nil, Bool.and_true, freeF, hs]
                cases anyT (a :: b) (tokensL d.2) <;> simp [allT, sumT, sumO]
            | cons a b =>
              rw [if_neg (by simp [walksF]), hM]
              unfold bothO
              rw [has_all, has_any, has_may, has_may]
              by_cases ha : allT (a :: b) (tokensL d.2) = true
              · rw [ha, may_all _ _ _ ha]; simp
              · rw [Bool.eq_false_iff.2 ha]; simp
        · have e23 : k = 2 ∨ k = 3 := by omega
          by_cases hp : phraseL s = []
          · rw [walkF, if_neg e1, if_neg e4, if_neg e5, if_pos hp]
            cases l[i]? with
            | none => rfl
            | some d =>
              have : matchT (.mk k s m sh n) (tokensL d.2) = false := by
                rw [matchT, if_neg e1, hp]
                rcases e23 with rfl | rfl <;> simp [countL]
              simp [noneF, hasT, this]
          · have hh := phrase_head s
            rcases e23 with rfl | rfl
            · rw [walkF, if_neg e1, if_neg e4, if_neg e5, if_neg hp, if_pos rfl, phrase_at l wt _ (by intro h; rw [List.take_eq_nil_iff] at h; simp [hp] at h) hh.2]
              cases l[i]? with
              | none => rfl
              | some d => simp only [hasT, matchT, scoreT]; simp
            · rw [walkF, if_neg e1, if_neg e4, if_neg e5, if_neg hp, if_neg (by decide), phrase_at l wt _ hp hh.1]
              cases l[i]? with
              | none => rfl
              | some d => simp only [hasT, matchT, scoreT]; simp
theorem walks_has (l : List DocL) (wt : Bytes → Nat) (i : Nat) : ∀ qs : List QL, kindsAll qs = true → (walksF l wt qs).map (fun F => F i) = qs.map fun q => hasAt l wt q i
  | [], _ => rfl
  | q :: qs, hk => by
    rw [kindsAll, Bool.and_eq_true] at hk
    rw [walksF, List.map_cons, List.map_cons, walk_has l wt i q hk.1, walks_has l wt i qs hk.2]
end

/-! ### searches -/
def haveN (ds : List DocL) (t : Bytes) : Nat := (ds.filter fun d => !(placesIn d.2 t).isEmpty).length
def wtL (ds : List DocL) (t : Bytes) : Nat := weightN ds.length (haveN ds t)
abbrev HitL := Bytes × Nat
def hitOf (wt : Bytes → Nat) (q : QL) (d : DocL) : Option HitL := (hasT wt (tokensL d.2) q).map fun s => (d.1, s)
/-- greater scores first; of alike ones the lesser ID -/
def hitLe (a b : HitL) : Bool := decide (b.2 < a.2) || (a.2 == b.2 && leB a.1 b.1)
def hitsL (ds : List DocL) (q : QL) : List HitL := ds.filterMap (hitOf (wtL ds) q)
def searchL (ds : List DocL) (q : QL) : List HitL := (hitsL ds q).mergeSort hitLe
theorem wtL_perm {a b : List DocL} (h : a.Perm b) : wtL a = wtL b := by
  funext t
  unfold wtL haveN
  rw [h.length_eq, (h.filter _).length_eq]
theorem leB_antisymm (a b : Bytes) (h1 : leB a b = true) (h2 : leB b a = true) : a = b := by
  simp only [leB, decide_eq_true_eq] at h1 h2
  exact List.le_antisymm h1 h2
theorem hitLe_trans (a b c : HitL) (h1 : hitLe a b = true) (h2 : hitLe b c = true) : hitLe a c = true := by
  unfold hitLe at h1 h2 ⊢
  simp only [Bool.or_eq_true, decide_eq_true_eq, Bool.and_eq_true, beq_iff_eq] at h1 h2 ⊢
  rcases h1 with h1 | ⟨h1, g1⟩ <;> rcases h2 with h2 | ⟨h2, g2⟩
  · left; omega
  · left; omega
  · left; omega
  · right; exact ⟨by omega, List.le_trans g1 g2⟩
theorem hitLe_total (a b : HitL) : (hitLe a b || hitLe b a) = true := by
  unfold hitLe
  simp only [Bool.or_eq_true, decide_eq_true_eq, Bool.and_eq_true, beq_iff_eq]
  rcases Nat.lt_trichotomy a.2 b.2 with h | h | h
  · right; left; exact h
  · rcases List.le_total a.1 b.1 with g | g
    · left; right; exact ⟨h, g⟩
    · right; right; exact ⟨h.symm, g⟩
  · left; left; exact h
theorem hitLe_antisymm (a b : HitL) (h1 : hitLe a b = true) (h2 : hitLe b a = true) : a = b := by
  unfold hitLe at h1 h2
  simp only [Bool.or_eq_true, decide_eq_true_eq, Bool.and_eq_true, beq_iff_eq] at h1 h2
  rcases h1 with h1 | ⟨h1, g1⟩ <;> rcases h2 with h2 | ⟨h2, g2⟩
  · omega
  · omega
  · omega
  · exact Prod.ext (List.le_antisymm g1 g2) h1
theorem sorted_hits (a b : List HitL) (h : a.Perm b) (ha : a.Pairwise (fun x y => hitLe x y = true)) (hb : b.Pairwise (fun x y => hitLe x y = true)) : a = b :=
  h.eq_of_pairwise (fun x y _ _ h1 h2 => hitLe_antisymm x y h1 h2) ha hb
theorem search_sorted (ds : List DocL) (q : QL) : (searchL ds q).Pairwise (fun x y => hitLe x y = true) := List.pairwise_mergeSort hitLe_trans hitLe_total _
theorem search_perm (ds : List DocL) (q : QL) : (searchL ds q).Perm (hitsL ds q) := List.mergeSort_perm _ _
/-- in whatever order documents lie, what is found is the same -/
theorem search_ext {a b : List DocL} (q : QL) (h : a.Perm b) : searchL a q = searchL b q := by
  refine sorted_hits _ _ ((search_perm a q).trans (List.Perm.trans ?_ (search_perm b q).symm)) (search_sorted a q) (search_sorted b q)
  unfold hitsL
  rw [wtL_perm h]
  exact h.filterMap _
/-! ### what a part's walk finds -/
def foundL (F : DF) (n : Nat) : List (Nat × Nat) := (List.range n).filterMap fun i => (F i).map fun s => (i, s)
theorem found_none (F : DF) (doc n : Nat) (h : doc ≤ n) (h0 : ∀ j, doc ≤ j → j < n → F j = none) : foundL F n = foundL F doc := by
  unfold foundL
  obtain ⟨k, rfl⟩ : ∃ k, n = doc + k := ⟨n - doc, by omega⟩
  rw [List.range_add, List.filterMap_append]
  rw [show ((List.range k).map (doc + ·)).filterMap (fun i => (F i).map fun s => (i, s)) = [] from List.filterMap_eq_nil_iff.2 (fun x hx => by
    obtain ⟨j, hj, rfl⟩ := List.mem_map.1 hx
    rw [h0 _ (by omega) (by have := List.mem_range.1 hj; omega)]; rfl), List.append_nil]
theorem found_next (F : DF) (doc d s : Nat) (h : NextIs F doc (some (d, s))) : foundL F (d + 1) = foundL F doc ++ [(d, s)] := by
  obtain ⟨h1, h2, h3⟩ := h
  rw [show foundL F (d + 1) = foundL F d ++ [(d, s)] by unfold foundL; rw [List.range_succ, List.filterMap_append]; simp [h2], found_none F doc d h1 h3]
theorem part_hits (l : List DocL) (g : Bytes) (wt : Bytes → Nat) (q : QL) (k n : Nat) : ((List.range n).filterMap fun i => (hasAt l wt q i).map fun s => (i, s)).filterMap (fun x => if bit g (k + x.1) then none else (l[x.1]?).map fun d => (d.1, x.2)) =
    (liveF g (l.take n) k).filterMap (hitOf wt q) := by
  induction n with
  | zero => rfl
  | succ n ih =>
    rw [List.range_succ, List.filterMap_append, List.filterMap_append, ih]
    by_cases hn : n < l.length
    · rw [List.take_succ_eq_append_getElem hn, liveF_snoc, List.filterMap_append]
      congr 1
      have : (l.take n).length = n := by simp; omega
      rw [this]
      simp only [List.filterMap_cons, List.filterMap_nil, hasAt, List.getElem?_eq_getElem hn]
      unfold hitOf
      cases hh : hasT wt (tokensL l[n].2) q with
      | none => cases bit g (k + n) <;> simp [hh]
      | some s => cases hb : bit g (k + n) <;> simp [hh, hb, List.getElem?_eq_getElem hn]
    · have e1 : (l.take (n + 1)) = l.take n := by rw [List.take_of_length_le (by omega), List.take_of_length_le (by omega)]
      rw [e1]
      simp [hasAt, List.getElem?_eq_none (show l.length ≤ n by omega)]
end Go.Proofs.YtcflpcpkmhljkaaGreatDoor
end

/- (Qry6) Plain laws of chapters 17 and 18: how large queries are, which are right, how much scores can be. No program in sight. -/
section
namespace Go.Proofs.YtcflpcpkmhljkaaGreatDoor
set_option linter.unusedVariables false

mutual
def sizeQ : QL → Nat
  | .mk k s m sh n => 1 + sizeQs m + sizeQs sh + sizeQs n
def sizeQs : List QL → Nat
  | [] => 0
  | q :: qs => sizeQ q + sizeQs qs
end
mutual
def deepQ : QL → Nat
  | .mk k s m sh n => max (max (deepQs m) (deepQs sh)) (deepQs n) + 1
def deepQs : List QL → Nat
  | [] => 0
  | q :: qs => max (deepQ q) (deepQs qs)
end
/-- is a node right by itself? -/
def nodeQ (k : Int) (s : Bytes) (n : Nat) : Bool :=
  if k = 1 then s.isEmpty && decide (n = 0)
  else if k = 2 ∨ k = 3 ∨ k = 4 then Lib.validD s && decide (s.length ≤ 200) && decide (n = 0)
  else if k = 5 then s.isEmpty
  else false
mutual
def nodesQ : QL → Bool
  | .mk k s m sh n => nodeQ k s (m.length + sh.length + n.length) && (nodesQs m && nodesQs sh && nodesQs n)
def nodesQs : List QL → Bool
  | [] => true
  | q :: qs => nodesQ q && nodesQs qs
end
def rightQ (q : QL) : Bool := decide (sizeQ q ≤ 100) && decide (deepQ q ≤ 20) && nodesQ q
theorem sizeQ_pos (q : QL) : 1 ≤ sizeQ q := by cases q; rw [sizeQ]; omega
theorem sizeQs_len (qs : List QL) : qs.length ≤ sizeQs qs := by
  induction qs with
  | nil => exact Nat.zero_le _
  | cons q qs ih => rw [sizeQs, List.length_cons]; have := sizeQ_pos q; omega
theorem sizeQs_mem {qs : List QL} {q : QL} (h : q ∈ qs) : sizeQ q ≤ sizeQs qs := by
  induction qs with
  | nil => simp at h
  | cons x qs ih =>
    rw [sizeQs]
    rcases List.mem_cons.1 h with rfl | h
    · omega
    · have := ih h; omega
theorem nodesQs_mem {qs : List QL} {q : QL} (hn : nodesQs qs = true) (h : q ∈ qs) : nodesQ q = true := by
  induction qs with
  | nil => simp at h
  | cons x qs ih =>
    rw [nodesQs, Bool.and_eq_true] at hn
    rcases List.mem_cons.1 h with rfl | h
    · exact hn.1
    · exact ih hn.2 h
theorem nodesQs_append (a b : List QL) : nodesQs (a ++ b) = (nodesQs a && nodesQs b) := by
  induction a with
  | nil => simp [nodesQs]
  | cons x a ih => rw [List.cons_append, nodesQs, nodesQs, ih, Bool.and_assoc]
theorem sizeQs_append (a b : List QL) : sizeQs (a ++ b) = sizeQs a + sizeQs b := by
  induction a with
  | nil => simp [sizeQs]
  | cons x a ih => rw [List.cons_append, sizeQs, sizeQs, ih]; omega
theorem deepQs_append (a b : List QL) : deepQs (a ++ b) = max (deepQs a) (deepQs b) := by
  induction a with
  | nil => simp [deepQs]
  | cons x a ih => rw [List.cons_append, deepQs, deepQs, ih]; omega
theorem deepQ_kids (k : Int) (s : Bytes) (m sh n : List QL) : deepQ (.mk k s m sh n) = deepQs (m ++ sh ++ n) + 1 := by rw [deepQ, deepQs_append, deepQs_append]
theorem nodeQ_kind {k : Int} {s : Bytes} {n : Nat} (h : nodeQ k s n = true) : 1 ≤ k ∧ k ≤ 5 ∧ s.length ≤ 200 := by
  unfold nodeQ at h
  split at h
  · rename_i e; rw [Bool.and_eq_true, List.isEmpty_iff] at h; rw [h.1]; simp only [List.length_nil]; omega
  · split at h
    · rename_i e
      rw [Bool.and_eq_true, Bool.and_eq_true, decide_eq_true_eq, decide_eq_true_eq] at h
      omega
    · split at h
      · rename_i e; rw [List.isEmpty_iff] at h; rw [h]; simp only [List.length_nil]; omega
      · cases h
theorem nodesQ_mk {k : Int} {s : Bytes} {m sh n : List QL} (h : nodesQ (.mk k s m sh n) = true) : (1 ≤ k ∧ k ≤ 5 ∧ s.length ≤ 200) ∧ nodesQs m = true ∧ nodesQs sh = true ∧ nodesQs n = true := by
  rw [nodesQ, Bool.and_eq_true, Bool.and_eq_true, Bool.and_eq_true] at h
  exact ⟨nodeQ_kind h.1, h.2.1.1, h.2.1.2, h.2.2⟩
mutual
theorem nodes_kinds : ∀ q : QL, nodesQ q = true → kindsOk q = true
  | .mk k s m sh n, h => by
    obtain ⟨⟨h1, h2, _⟩, h3, h4, h5⟩ := nodesQ_mk h
    rw [kindsOk, decide_eq_true h1, decide_eq_true h2, nodes_kinds' m h3, nodes_kinds' sh h4, nodes_kinds' n h5]; rfl
theorem nodes_kinds' : ∀ qs : List QL, nodesQs qs = true → kindsAll qs = true
  | [], _ => by rw [kindsAll]
  | q :: qs, h => by
    rw [nodesQs, Bool.and_eq_true] at h
    rw [kindsAll, nodes_kinds q h.1, nodes_kinds' qs h.2]; rfl
end
/-! ### how much scores can be -/
theorem phraseL_len (s : Bytes) (h : s.length ≤ 2000) : (phraseL s).length ≤ 2001 := by
  unfold phraseL shiftL; rw [List.length_map]; exact (tokensL_facts s h).1
theorem sumW_le (wt : Bytes → Nat) (hw : ∀ t, wt t ≤ 63) (p : TokL) : sumW wt p ≤ 63 * p.length := by
  unfold sumW
  induction p with
  | nil => simp
  | cons x p ih => rw [List.map_cons, List.sum_cons, List.length_cons]; have := hw x.1; omega
theorem countL_le (p l : TokL) : countL p l ≤ l.length := by
  unfold countL; split
  · exact Nat.zero_le _
  · exact List.length_filter_le _ _
theorem beginsL_le (f : Bytes) (l : TokL) : beginsL f l ≤ l.length := by
  unfold beginsL; split
  · exact Nat.zero_le _
  · exact List.length_filter_le _ _
def leafB : Nat := 63 * 2001 * 2001
theorem prod_le {a b : Nat} (ha : a ≤ 63 * 2001) (hb : b ≤ 2001) : a * b ≤ leafB := Nat.mul_le_mul ha hb
mutual
theorem score_le (wt : Bytes → Nat) (hw : ∀ t, wt t ≤ 63) (t : TokL) (ht : t.length ≤ 2001) : ∀ q : QL, nodesQ q = true → scoreT wt q t ≤ sizeQ q * leafB
  | .mk k s m sh n, h => by
    obtain ⟨⟨h1, h2, h6⟩, h3, h4, h5⟩ := nodesQ_mk h
    have e1 := score_sum wt hw t ht m h3
    have e2 := score_may wt hw t ht sh h4
    have hp := phraseL_len s (by omega)
    have hp1 : ((phraseL s).take 1).length ≤ 2001 := by rw [List.length_take]; omega
    have b1 := prod_le (Nat.le_trans (sumW_le wt hw (phraseL s)) (Nat.mul_le_mul_left 63 hp)) (Nat.le_trans (countL_le (phraseL s) t) ht)
    have b2 := prod_le (Nat.le_trans (sumW_le wt hw ((phraseL s).take 1)) (Nat.mul_le_mul_left 63 hp1)) (Nat.le_trans (countL_le ((phraseL s).take 1) t) ht)
    have b3 := Nat.le_trans (beginsL_le (foldedL s) t) ht
    have hl : 2001 ≤ leafB := by decide
    have hsz : leafB ≤ sizeQ (.mk k s m sh n) * leafB := Nat.le_mul_of_pos_left _ (sizeQ_pos _)
    rw [scoreT]
    split
    · omega
    · split
      · omega
      · split
        · omega
        · split
          · omega
          · rw [sizeQ, Nat.add_mul, Nat.add_mul, Nat.add_mul]; omega
theorem score_sum (wt : Bytes → Nat) (hw : ∀ t, wt t ≤ 63) (t : TokL) (ht : t.length ≤ 2001) : ∀ qs : List QL, nodesQs qs = true → sumT wt qs t ≤ sizeQs qs * leafB
  | [], _ => by rw [sumT]; exact Nat.zero_le _
  | q :: qs, h => by
    rw [nodesQs, Bool.and_eq_true] at h
    have := score_le wt hw t ht q h.1
    have := score_sum wt hw t ht qs h.2
    rw [sumT, sizeQs, Nat.add_mul]; omega
theorem score_may (wt : Bytes → Nat) (hw : ∀ t, wt t ≤ 63) (t : TokL) (ht : t.length ≤ 2001) : ∀ qs : List QL, nodesQs qs = true → mayT wt qs t ≤ sizeQs qs * leafB
  | [], _ => by rw [mayT]; exact Nat.zero_le _
  | q :: qs, h => by
    rw [nodesQs, Bool.and_eq_true] at h
    have := score_le wt hw t ht q h.1
    have := score_may wt hw t ht qs h.2
    rw [mayT, sizeQs, Nat.add_mul]
    split <;> omega
end
/-- whatever walker there is of a right query tells scores that are not too large -/
def topB : Nat := 1000000000000
theorem walkF_le (l : List DocL) (wt : Bytes → Nat) (hw : ∀ t, wt t ≤ 63) (hl : ∀ d ∈ l, d.2.length ≤ 2000) (q : QL) (hn : nodesQ q = true) (hs : sizeQ q ≤ 1000) (i s : Nat) (h : walkF l wt q i = some s) : i < l.length ∧ s ≤ topB := by
  rw [walk_has l wt i q (nodes_kinds q hn)] at h
  unfold hasAt at h
  cases hd : l[i]? with
  | none => rw [hd] at h; cases h
  | some d =>
    rw [hd] at h
    refine ⟨(List.getElem?_eq_some_iff.1 hd).1, ?_⟩
    unfold hasT at h
    simp only at h
    split at h
    · cases h
      have h1 := score_le wt hw (tokensL d.2) (tokensL_facts d.2 (hl d (List.mem_of_getElem? hd))).1 q hn
      have h2 : sizeQ q * leafB ≤ 1000 * leafB := Nat.mul_le_mul_right _ hs
      have h3 : 1000 * leafB ≤ topB := by decide
      omega
    · cases h
theorem wtL_le (ds : List DocL) (h : ds.length < 2 ^ 63) (t : Bytes) : wtL ds t ≤ 63 := weight_le _ _ h
end Go.Proofs.YtcflpcpkmhljkaaGreatDoor
end

/- (QryH) Plain laws of chapter 18: of how many documents a term has places, part by part; what a part's walk puts to the hits. No program in sight. -/
section
namespace Go.Proofs.YtcflpcpkmhljkaaGreatDoor
set_option linter.unusedVariables false

/-- of how many postings the document is not gone -/
def haveP (g : Bytes) (xs : List PostL) : Nat := (xs.filter fun x => !bit g x.1.toNat).length
theorem haveN_append (a b : List DocL) (t : Bytes) : haveN (a ++ b) t = haveN a t + haveN b t := by unfold haveN; rw [List.filter_append, List.length_append]
theorem haveN_cons (d : DocL) (l : List DocL) (t : Bytes) : haveN (d :: l) t = (if placesIn d.2 t = [] then 0 else 1) + haveN l t := by
  unfold haveN
  by_cases h : placesIn d.2 t = []
  · rw [if_pos h, List.filter_cons_of_neg (by simp [h])]; omega
  · rw [if_neg h, List.filter_cons_of_pos (by simp [h]), List.length_cons]; omega
theorem haveP_cons (g : Bytes) (x : PostL) (xs : List PostL) : haveP g (x :: xs) = (if bit g x.1.toNat then 0 else 1) + haveP g xs := by
  unfold haveP
  cases h : bit g x.1.toNat with
  | true => rw [List.filter_cons_of_neg (by simp [h])]; simp
  | false => rw [List.filter_cons_of_pos (by simp [h]), List.length_cons]; simp; omega
theorem haveP_take (g : Bytes) (xs : List PostL) (k : Nat) (h : k < xs.length) : haveP g (xs.take (k + 1)) = haveP g (xs.take k) + (if bit g xs[k].1.toNat then 0 else 1) := by
  unfold haveP
  rw [List.take_succ_eq_append_getElem h, List.filter_append, List.length_append]
  cases hb : bit g xs[k].1.toNat <;> simp [hb]
theorem haveP_le (g : Bytes) (xs : List PostL) : haveP g xs ≤ xs.length := List.length_filter_le _ _
theorem have_part (t g : Bytes) (l : List DocL) (i : Nat) : haveP g (postsF t l i) = haveN (liveF g l i) t := by
  induction l generalizing i with
  | nil => rfl
  | cons d l ih =>
    rw [postsF, liveF]
    by_cases hp : placesIn d.2 t = []
    · rw [if_pos hp, ih]
      by_cases hb : bit g i = true
      · rw [if_pos hb]
      · rw [if_neg hb, haveN_cons, if_pos hp, Nat.zero_add]
    · rw [if_neg hp, haveP_cons, ih]
      simp only [Int.toNat_natCast]
      by_cases hb : bit g i = true
      · rw [if_pos hb, if_pos hb, Nat.zero_add]
      · rw [if_neg hb, if_neg hb, haveN_cons, if_neg hp]
theorem posts_from (t : Bytes) (l : List DocL) (i : Nat) : ∀ x ∈ postsF t l i, (i : Int) ≤ x.1 := by
  induction l generalizing i with
  | nil => intro x h; simp [postsF] at h
  | cons d l ih =>
    intro x h
    rw [postsF] at h
    split at h
    · have := ih (i + 1) x h; omega
    · rcases List.mem_cons.1 h with rfl | h
      · exact Int.le_refl _
      · have := ih (i + 1) x h; omega
theorem fromP_all (t : Bytes) (l : List DocL) : fromP (postsF t l 0) 0 = postsF t l 0 := by
  unfold fromP
  rw [List.filter_eq_self]
  intro x hx
  have := posts_from t l 0 x hx
  exact decide_eq_true (by omega)
theorem live_take (ps : List PartL) (k : Nat) (h : k < ps.length) : liveL (ps.take (k + 1)) = liveL (ps.take k) ++ liveOf ps[k] := by
  rw [List.take_succ_eq_append_getElem h, liveL_append]
  simp [liveL]
/-- of so many documents of the first parts -/
theorem have_step (ps : List PartL) (t : Bytes) (k : Nat) (h : k < ps.length) : haveN (liveL (ps.take (k + 1))) t = haveN (liveL (ps.take k)) t + haveP ps[k].2 (postsF t ps[k].1 0) := by
  rw [live_take ps k h, haveN_append, have_part]; rfl
theorem haveN_le (l : List DocL) (t : Bytes) : haveN l t ≤ l.length := List.length_filter_le _ _
theorem live_len (ps : List PartL) (h : ∀ p ∈ ps, p.1.length ≤ 500) : (liveL ps).length ≤ 500 * ps.length := by
  induction ps with
  | nil => exact Nat.zero_le _
  | cons p ps ih =>
    rw [show liveL (p :: ps) = liveOf p ++ liveL ps from rfl, List.length_append, List.length_cons]
    have h1 := ih (fun q hq => h q (by simp [hq]))
    have h2 := (liveF_sub p.2 p.1 0).length_le
    have h3 := h p (by simp)
    have h4 : (liveOf p).length ≤ p.1.length := h2
    omega

/-! ### hits -/
/-- what a part's walk finds, as far as the documents below n -/
def partHits (l : List DocL) (g : Bytes) (F : DF) (n : Nat) : List HitL := (foundL F n).filterMap fun x => if bit g x.1 then none else (l[x.1]?).map fun d => (d.1, x.2)
theorem partHits_none (l : List DocL) (g : Bytes) (F : DF) (doc n : Nat) (h : doc ≤ n) (hx : NextIs F doc none) : partHits l g F n = partHits l g F doc := by
  unfold partHits; rw [found_none F doc n h (fun j h1 _ => hx j h1)]
theorem partHits_next (l : List DocL) (g : Bytes) (F : DF) (doc d s : Nat) (hx : NextIs F doc (some (d, s))) (e : DocL) (he : l[d]? = some e) : partHits l g F (d + 1) = partHits l g F doc ++ (if bit g d then [] else [(e.1, s)]) := by
  unfold partHits
  rw [found_next F doc d s hx, List.filterMap_append]
  congr 1
  cases h : bit g d <;> simp [h, he]
theorem partHits_zero (l : List DocL) (g : Bytes) (F : DF) : partHits l g F 0 = [] := rfl
theorem partHits_all (l : List DocL) (g : Bytes) (wt : Bytes → Nat) (q : QL) (hq : kindsOk q = true) : partHits l g (walkF l wt q) l.length = (liveF g l 0).filterMap (hitOf wt q) := by
  have h := part_hits l g wt q 0 l.length
  rw [List.take_length] at h
  rw [← h]
  unfold partHits foundL
  have e : walkF l wt q = hasAt l wt q := funext fun i => walk_has l wt i q hq
  rw [e]
  simp
theorem hits_step (ps : List PartL) (wt : Bytes → Nat) (q : QL) (k : Nat) (h : k < ps.length) (hq : kindsOk q = true) :
    (liveL (ps.take (k + 1))).filterMap (hitOf wt q) = (liveL (ps.take k)).filterMap (hitOf wt q) ++ partHits ps[k].1 ps[k].2 (walkF ps[k].1 wt q) ps[k].1.length := by
  rw [live_take ps k h, List.filterMap_append, partHits_all _ _ _ _ hq]; rfl
theorem partHits_len (l : List DocL) (g : Bytes) (F : DF) (n : Nat) : (partHits l g F n).length ≤ n := by
  unfold partHits foundL
  refine Nat.le_trans (List.length_filterMap_le _ _) (Nat.le_trans (List.length_filterMap_le _ _) ?_)
  simp
end Go.Proofs.YtcflpcpkmhljkaaGreatDoor
end

/- (Marks) Marks that ranges over functions leave among a function's deferred calls: all of them are shut. Over any program. -/
section
namespace Go.Proofs.YtcflpcpkmhljkaaGreatDoor
open Go.RowKit
set_option linter.unusedVariables false

def markD (D : Nat) : Deferred := { target := .collected D, args := #[] }
/-- marks of ranges over functions, each at a block of its own, from n₀ on -/
def Marks (n₀ : Nat) (W : World) (ds : List Nat) : Prop := ds.Nodup ∧ ∀ D ∈ ds, n₀ ≤ D ∧ W.heap[D]? = some (.deferred (some []))
theorem Marks.nil (n₀ : Nat) (W : World) : Marks n₀ W [] := ⟨List.nodup_nil, fun D h => by simp at h⟩
theorem Marks.lt {n₀ : Nat} {W : World} {ds : List Nat} (h : Marks n₀ W ds) : ∀ D ∈ ds, D < W.heap.size := fun D hD => lt_of_get (h.2 D hD).2
theorem Marks.keeps {n₀ : Nat} {W W' : World} {ds : List Nat} (h : Marks n₀ W ds) (hk : ∀ D ∈ ds, W'.heap[D]? = W.heap[D]?) : Marks n₀ W' ds :=
  ⟨h.1, fun D hD => ⟨(h.2 D hD).1, (hk D hD).trans (h.2 D hD).2⟩⟩
theorem Marks.cons {n₀ : Nat} {W : World} {ds : List Nat} {D : Nat} (h : Marks n₀ W ds) (hD : W.heap[D]? = some (.deferred (some []))) (hn : n₀ ≤ D) (hnot : D ∉ ds) : Marks n₀ W (D :: ds) :=
  ⟨List.nodup_cons.2 ⟨hnot, h.1⟩, fun E hE => by
    rcases List.mem_cons.1 hE with rfl | hE
    · exact ⟨hn, hD⟩
    · exact h.2 E hE⟩
theorem leaves_marks {P : Program} {F : Fence} {n : Nat} {fn : Func} {tmps : Array Value} {R : Ending → World → Prop} {u : FrameMode} (n₀ : Nat) (hu : u ≠ .run) : ∀ (ds : List Nat) (W : World), Marks n₀ W ds →
    (∀ W', Itk (fun _ => False) n₀ W W' → LeavesInM F n P fn tmps R [] u W') → LeavesInM F n P fn tmps R (ds.map markD) u W
  | [], W, _, h => h W (Itk.refl _ _ _)
  | D :: ds, W, hm, h => by
    obtain ⟨h1, h2⟩ := List.nodup_cons.1 hm.1
    obtain ⟨h3, h4⟩ := hm.2 D (by simp)
    refine ⟨hu, .inl ⟨D, W.putObj D (.deferred none), rfl, run_takeDeferred h4, ?_⟩⟩
    refine leaves_marks n₀ hu ds _ ⟨h2, fun E hE => ⟨(hm.2 E (by simp [hE])).1, ?_⟩⟩ (fun W' q => h W' ((Itk.put _ h4 rfl h3).trans q))
    rw [World.putObj_heap_other (fun e => h1 (by rw [← e]; exact hE))]
    exact (hm.2 E (by simp [hE])).2
end Go.Proofs.YtcflpcpkmhljkaaGreatDoor
end
