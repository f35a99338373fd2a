/- Joined texts of one proof: RLive, RLive2. -/
import Derived.Test.YtoabhcfmdkhmgaaGreatDoorPWLastToLive2
import Derived.Test.YtoabhcfmdkhmgaaGreatDoorPLessToWPostA
set_option linter.unusedSimpArgs false
set_option linter.unusedVariables false
set_option linter.unnecessarySimpa false
/- (RLive) Plain: the document's answer to chapter 15: parts as documents and flags. No program in sight. -/
section
namespace Go.Proofs.YtoabhcfmdkhmgaaGreatDoor
open Go.Sort
set_option linter.unusedVariables false

/-- documents, and which of them are gone -/
abbrev RPart := List DocL × List Bool
/-- a bitmap of flags -/
def bmpTo (gs : List Bool) : Nat → Bytes
  | 0 => makeL gs.length
  | k + 1 => setTo (bmpTo gs k) k (gs.getD k false) 1
def bmpL (gs : List Bool) : Bytes := bmpTo gs gs.length
theorem makeL_len (n : Nat) (h : n ≤ 500) : (makeL n).length = (n + 7) / 8 ∧ ∀ j, bit (makeL n) j = false := by
  unfold makeL
  split
  · refine ⟨by rw [List.length_replicate]; omega, fun j => bit_zeros _ _⟩
  · have : n = 0 := by omega
    subst this
    exact ⟨rfl, fun j => bit_of_ge _ _ (by simp)⟩
theorem bmpTo_len (gs : List Bool) (h : gs.length ≤ 500) (k : Nat) : (bmpTo gs k).length = (gs.length + 7) / 8 := by
  induction k with
  | zero => exact (makeL_len _ h).1
  | succ k ih => rw [bmpTo, length_setTo, ih]
theorem bmpTo_bit (gs : List Bool) (h : gs.length ≤ 500) (k : Nat) (hk : k ≤ gs.length) (j : Nat) : bit (bmpTo gs k) j = if j < k then gs.getD j false else false := by
  induction k with
  | zero => rw [if_neg (by omega)]; exact (makeL_len _ h).2 j
  | succ k ih =>
    rw [bmpTo, bit_setTo _ _ _ _ _ (by rw [bmpTo_len gs h]; omega), ih (by omega)]
    by_cases h1 : k ≤ j ∧ j < k + 1
    · have : j = k := by omega
      subst this
      rw [if_pos h1, if_pos (by omega)]
    · rw [if_neg h1]
      by_cases h2 : j < k
      · rw [if_pos h2, if_pos (by omega)]
      · rw [if_neg h2, if_neg (by omega)]
theorem bmpL_bit (gs : List Bool) (h : gs.length ≤ 500) (j : Nat) : bit (bmpL gs) j = gs.getD j false := by
  unfold bmpL
  rw [bmpTo_bit gs h _ (Nat.le_refl _)]
  split
  · rfl
  · rw [List.getD_eq_getElem?_getD, List.getElem?_eq_none (by omega)]; rfl
theorem bmpL_len (gs : List Bool) (h : gs.length ≤ 500) : (bmpL gs).length = (gs.length + 7) / 8 := bmpTo_len gs h _
def toP (r : RPart) : PartL := (r.1, bmpL r.2)
def goneR (ids : List Bytes) (r : RPart) : RPart := (r.1, (r.1.zip r.2).map fun x => x.2 || ids.contains x.1.1)
def RPartOk (r : RPart) : Prop := r.2.length = r.1.length ∧ PartOk (toP r)
theorem RPartOk.len {r : RPart} (h : RPartOk r) : r.1.length ≤ 500 ∧ r.2.length ≤ 500 ∧ (r.1.map (·.1)).Nodup := by
  have h1 : r.1.length ≤ 500 := h.2.2.2.1
  have h2 := h.1
  exact ⟨h1, by omega, h.2.1.2⟩
theorem goneOne_bit (id : Bytes) (p : PartL) (hn : (p.1.map (·.1)).Nodup) (hl : p.2.length = (p.1.length + 7) / 8) (j : Nat) : bit (goneOne id p).2 j = (bit p.2 j || decide (∃ d, p.1[j]? = some d ∧ d.1 = id)) := by
  unfold goneOne
  cases hf : findL p.1 id with
  | none =>
    have hno : ¬ ∃ d, p.1[j]? = some d ∧ d.1 = id := by
      rintro ⟨d, hd, he⟩
      exact findL_none p.1 id hf (List.mem_map.2 ⟨d, List.mem_of_getElem? hd, he⟩)
    rw [decide_eq_false hno, Bool.or_false]
  | some k =>
    obtain ⟨d, hd, he⟩ := findL_some p.1 id k hf
    obtain ⟨hk, _⟩ := List.getElem?_eq_some_iff.1 hd
    show bit (setTo p.2 k true 1) j = _
    rw [bit_setTo _ _ _ _ _ (by omega)]
    by_cases hj : k ≤ j ∧ j < k + 1
    · have : j = k := by omega
      subst this
      rw [if_pos hj, decide_eq_true ⟨d, hd, he⟩, Bool.or_true]
    · have hno : ¬ ∃ d, p.1[j]? = some d ∧ d.1 = id := by
        rintro ⟨d', hd', he'⟩
        have := at_one hn hd' hd (by rw [he, he'])
        omega
      rw [if_neg hj, decide_eq_false hno, Bool.or_false]
theorem goneFold_docs (ids : List Bytes) (p : PartL) : (ids.foldl (fun p id => goneOne id p) p).1 = p.1 := by
  induction ids generalizing p with
  | nil => rfl
  | cons id ids ih => rw [List.foldl_cons, ih, goneOne_docs]
theorem goneFold_len (ids : List Bytes) (p : PartL) : (ids.foldl (fun p id => goneOne id p) p).2.length = p.2.length := by
  induction ids generalizing p with
  | nil => rfl
  | cons id ids ih => rw [List.foldl_cons, ih, goneOne_len]
theorem goneFold_bit (ids : List Bytes) (p : PartL) (hn : (p.1.map (·.1)).Nodup) (hl : p.2.length = (p.1.length + 7) / 8) (j : Nat) : bit (ids.foldl (fun p id => goneOne id p) p).2 j = (bit p.2 j || decide (∃ d, p.1[j]? = some d ∧ d.1 ∈ ids)) := by
  induction ids generalizing p with
  | nil => simp
  | cons id ids ih =>
    rw [List.foldl_cons, ih _ (by rw [goneOne_docs]; exact hn) (by rw [goneOne_docs, goneOne_len]; exact hl), goneOne_bit id p hn hl, goneOne_docs, Bool.or_assoc]
    congr 1
    rw [Bool.eq_iff_iff]
    simp only [Bool.or_eq_true, decide_eq_true_eq, List.mem_cons]
    constructor
    · rintro (⟨d, h1, h2⟩ | ⟨d, h1, h2⟩)
      · exact ⟨d, h1, .inl h2⟩
      · exact ⟨d, h1, .inr h2⟩
    · rintro ⟨d, h1, h2 | h2⟩
      · exact .inl ⟨d, h1, h2⟩
      · exact .inr ⟨d, h1, h2⟩
theorem goneAll_map (ids : List Bytes) (ps : List PartL) : goneAll ids ps = ps.map fun p => ids.foldl (fun p id => goneOne id p) p := by
  induction ids generalizing ps with
  | nil => rw [goneAll_nil]; simp
  | cons id ids ih => rw [goneAll_cons, ih, List.map_map]; rfl
theorem goneR_len (ids : List Bytes) (r : RPart) (h : r.2.length = r.1.length) : (goneR ids r).2.length = r.1.length := by
  unfold goneR; simp [h]
theorem goneR_toP (ids : List Bytes) (r : RPart) (h : RPartOk r) : ids.foldl (fun p id => goneOne id p) (toP r) = toP (goneR ids r) := by
  obtain ⟨h1, h2, h3⟩ := h.len
  have hgl := goneR_len ids r h.1
  have hpl : (toP r).2.length = ((toP r).1.length + 7) / 8 := h.2.2.2.2
  refine Prod.ext (goneFold_docs ids _) ?_
  refine bits_ext _ _ ?_ (fun j _ => ?_)
  · rw [goneFold_len, hpl]
    show _ = (bmpL (goneR ids r).2).length
    rw [bmpL_len _ (by omega), hgl]; rfl
  · rw [goneFold_bit ids (toP r) h3 hpl j]
    show (bit (bmpL r.2) j || decide (∃ d, r.1[j]? = some d ∧ d.1 ∈ ids)) = bit (bmpL (goneR ids r).2) j
    rw [bmpL_bit _ h2, bmpL_bit _ (by omega)]
    unfold goneR
    simp only [List.getD_eq_getElem?_getD, List.getElem?_map, List.getElem?_zip_eq_some]
    by_cases hj : j < r.1.length
    · have e1 : r.1[j]? = some r.1[j] := List.getElem?_eq_getElem hj
      have e2 : r.2[j]? = some (r.2[j]'(by have := h.1; omega)) := List.getElem?_eq_getElem (by have := h.1; omega)
      have e3 : (r.1.zip r.2)[j]? = some (r.1[j], r.2[j]'(by have := h.1; omega)) := List.getElem?_zip_eq_some.2 ⟨e1, e2⟩
      rw [e2, e3, e1]
      simp
    · have e1 : r.1[j]? = none := List.getElem?_eq_none (by omega)
      have e2 : r.2[j]? = none := List.getElem?_eq_none (by have := h.1; omega)
      have e3 : (r.1.zip r.2)[j]? = none := List.getElem?_eq_none (by simp; omega)
      rw [e2, e3, e1]
      simp
def freshR (l : List DocL) : List RPart := if l = [] then [] else [(l, List.replicate l.length false)]
theorem freshR_toP (l : List DocL) (h : l.length ≤ 500) : (freshL l).1 = (freshR l).map toP := by
  unfold freshL freshR
  by_cases he : l = []
  · rw [if_pos he, if_pos he]; rfl
  · rw [if_neg he, if_neg he]
    have hm := makeL_len l.length h
    have : makeL l.length = bmpL (List.replicate l.length false) := by
      refine bits_ext _ _ (by rw [hm.1, bmpL_len _ (by simpa using h)]; simp) (fun j _ => ?_)
      rw [hm.2, bmpL_bit _ (by simpa using h), List.getD_eq_getElem?_getD, List.getElem?_replicate]
      split <;> rfl
    simp only [List.map_cons, List.map_nil, toP]
    rw [this]
def applyR (rs : List RPart) (ops : List OpL) : List RPart × Bytes × Int :=
  if ops.length < 1 ∨ 50 < ops.length then (rs, [], 6)
  else if ops.all opRight then (rs.map (goneR (idsL ops)) ++ freshR (moreL ops), (if moreL ops = [] then [] else segE (moreL ops) (idxL (moreL ops))), 0) else (rs, [], 1)
theorem apply_R (rs : List RPart) (ops : List OpL) (h : ∀ r ∈ rs, RPartOk r) : applyL (rs.map toP) ops = ((applyR rs ops).1.map toP, (applyR rs ops).2) := by
  unfold applyL applyR
  split
  · rfl
  · rename_i h1
    split
    · have hm : (moreL ops).length ≤ 500 := by
        have h2 : (moreL ops).length ≤ (lastL ops).length := by unfold moreL; rw [List.length_map]; exact List.length_filter_le _ _
        have h3 := (lastL_sub ops).length_le
        omega
      rw [goneAll_map, freshR_toP _ hm, List.map_map, List.map_append, List.map_map]
      have e : rs.map ((fun p => (idsL ops).foldl (fun p id => goneOne id p) p) ∘ toP) = rs.map (toP ∘ goneR (idsL ops)) := List.map_congr_left (fun r hr => goneR_toP _ r (h r hr))
      rw [e]
      unfold freshL
      split <;> rfl
    · rfl
end Go.Proofs.YtoabhcfmdkhmgaaGreatDoor
end

/- (RLive2) Plain: the document's answer to chapter 15, second part: documents by their IDs, merges. No program in sight. -/
section
namespace Go.Proofs.YtoabhcfmdkhmgaaGreatDoor
open Go.Sort
set_option linter.unusedVariables false

def liveR (r : RPart) : List DocL := ((r.1.zip r.2).filter fun x => !x.2).map (·.1)
theorem liveF_flags (g : Bytes) (l : List DocL) (gs : List Bool) (k : Nat) (hl : gs.length = l.length) (h : ∀ i, bit g (k + i) = gs.getD i false) : liveF g l k = ((l.zip gs).filter fun x => !x.2).map (·.1) := by
  induction l generalizing gs k with
  | nil => simp [liveF]
  | cons d l ih =>
    cases gs with
    | nil => simp at hl
    | cons b gs =>
      have h0 := h 0
      simp only [Nat.add_zero, List.getD_cons_zero] at h0
      have h1 := ih gs (k + 1) (by simpa using hl) (fun i => by have := h (i + 1); rw [show k + 1 + i = k + (i + 1) by omega, this]; simp)
      rw [liveF, h0, h1, List.zip_cons_cons, List.filter_cons]
      cases b <;> simp
theorem live_toP (r : RPart) (h : RPartOk r) : liveOf (toP r) = liveR r := by
  obtain ⟨h1, h2, h3⟩ := h.len
  unfold liveOf liveR toP
  exact liveF_flags _ _ _ 0 h.1 (fun i => by rw [Nat.zero_add]; exact bmpL_bit _ h2 i)
theorem liveL_toP (rs : List RPart) (h : ∀ r ∈ rs, RPartOk r) : liveL (rs.map toP) = rs.flatMap liveR := by
  unfold liveL
  rw [List.flatMap_map]
  induction rs with
  | nil => rfl
  | cons r rs ih => rw [List.flatMap_cons, List.flatMap_cons, ih (fun x hx => h x (by simp [hx])), live_toP r (h r (by simp))]
/-- a document put where it belongs, or in the place of that of its ID -/
def withR (d : DocL) : List DocL → List DocL
  | [] => [d]
  | x :: l => if lessL x.1 d.1 then x :: withR d l else if x.1 = d.1 then d :: l else d :: x :: l
def SortedD (l : List DocL) : Prop := l.Pairwise fun a b => a.1 < b.1
theorem withR_facts (d : DocL) (l : List DocL) (hs : SortedD l) : SortedD (withR d l) ∧ ∀ x, x ∈ withR d l ↔ x = d ∨ (x ∈ l ∧ x.1 ≠ d.1) := by
  induction l with
  | nil => exact ⟨by simp [withR, SortedD], fun x => by simp [withR]⟩
  | cons y l ih =>
    obtain ⟨h1, h2⟩ := List.pairwise_cons.1 hs
    obtain ⟨h3, h4⟩ := ih h2
    rw [withR]
    by_cases hl : lessL y.1 d.1 = true
    · rw [if_pos hl]
      have hlt := (lessL_iff _ _).1 hl
      refine ⟨List.pairwise_cons.2 ⟨fun x hx => ?_, h3⟩, fun x => ?_⟩
      · rcases (h4 x).1 hx with rfl | ⟨hx, _⟩
        · exact hlt
        · exact h1 x hx
      · simp only [List.mem_cons]
        rw [h4]
        constructor
        · rintro (rfl | rfl | ⟨h, hn⟩)
          · exact .inr ⟨.inl rfl, fun e => by rw [e] at hlt; exact List.lt_irrefl _ hlt⟩
          · exact .inl rfl
          · exact .inr ⟨.inr h, hn⟩
        · rintro (rfl | ⟨rfl | h, hn⟩)
          · exact .inr (.inl rfl)
          · exact .inl rfl
          · exact .inr (.inr ⟨h, hn⟩)
    · rw [if_neg hl]
      have hge : ¬ y.1 < d.1 := fun h => hl ((lessL_iff _ _).2 h)
      by_cases he : y.1 = d.1
      · rw [if_pos he]
        refine ⟨List.pairwise_cons.2 ⟨fun x hx => by rw [← he]; exact h1 x hx, h2⟩, fun x => ?_⟩
        simp only [List.mem_cons]
        constructor
        · rintro (rfl | h)
          · exact .inl rfl
          · exact .inr ⟨.inr h, fun e => by have := h1 x h; rw [e, he] at this; exact List.lt_irrefl _ this⟩
        · rintro (rfl | ⟨rfl | h, hn⟩)
          · exact .inl rfl
          · exact absurd he hn
          · exact .inr h
      · rw [if_neg he]
        have hgt : d.1 < y.1 := by
          rcases List.le_iff_lt_or_eq.1 (List.not_lt.1 hge) with h | h
          · exact h
          · exact absurd h.symm he
        refine ⟨List.pairwise_cons.2 ⟨fun x hx => ?_, hs⟩, fun x => ?_⟩
        · rcases List.mem_cons.1 hx with rfl | hx
          · exact hgt
          · exact List.lt_trans hgt (h1 x hx)
        · simp only [List.mem_cons]
          constructor
          · rintro (rfl | rfl | h)
            · exact .inl rfl
            · exact .inr ⟨.inl rfl, he⟩
            · exact .inr ⟨.inr h, fun e => by have := List.lt_trans hgt (h1 x h); rw [e] at this; exact List.lt_irrefl _ this⟩
          · rintro (rfl | ⟨h, hn⟩)
            · exact .inl rfl
            · exact .inr h
def docsR (rs : List RPart) : List DocL := (rs.flatMap liveR).foldl (fun a d => withR d a) []
theorem foldWith_facts (ds a : List DocL) (ha : SortedD a) (hn : ((a ++ ds).map (·.1)).Nodup) : SortedD (ds.foldl (fun a d => withR d a) a) ∧ ∀ x, x ∈ ds.foldl (fun a d => withR d a) a ↔ x ∈ a ∨ x ∈ ds := by
  induction ds generalizing a with
  | nil => exact ⟨ha, fun x => by simp⟩
  | cons d ds ih =>
    obtain ⟨h1, h2⟩ := withR_facts d a ha
    have hd : ∀ x ∈ a, x.1 ≠ d.1 := fun x hx e => by
      rw [List.map_append, List.nodup_append] at hn
      exact hn.2.2 x.1 (List.mem_map_of_mem hx) d.1 (by simp) e
    have hmem : ∀ x, x ∈ withR d a ↔ x = d ∨ x ∈ a := fun x => by
      rw [h2]
      constructor
      · rintro (h | ⟨h, _⟩)
        · exact .inl h
        · exact .inr h
      · rintro (h | h)
        · exact .inl h
        · exact .inr ⟨h, hd x h⟩
    have hnd : ((withR d a).map (·.1)).Nodup := (List.pairwise_map.2 (h1.imp (fun h e => by rw [e] at h; exact List.lt_irrefl _ h)) : _)
    have hn2 : ((withR d a ++ ds).map (·.1)).Nodup := by
      rw [List.map_append, List.nodup_append] at hn ⊢
      refine ⟨hnd, (List.nodup_cons.1 (by simpa using hn.2.1)).2, fun u hu v hv e => ?_⟩
      obtain ⟨x, hx, rfl⟩ := List.mem_map.1 hu
      rcases (hmem x).1 hx with rfl | hx
      · subst e
        have h5 := (List.nodup_cons.1 (show (x.1 :: ds.map (·.1)).Nodup by simpa using hn.2.1)).1
        exact h5 hv
      · exact hn.2.2 x.1 (List.mem_map_of_mem hx) v (by simp only [List.map_cons, List.mem_cons]; exact .inr hv) e
    obtain ⟨h3, h4⟩ := ih (withR d a) h1 hn2
    rw [List.foldl_cons]
    refine ⟨h3, fun x => ?_⟩
    rw [h4, hmem, List.mem_cons]
    constructor
    · rintro ((h | h) | h)
      · exact .inr (.inl h)
      · exact .inl h
      · exact .inr (.inr h)
    · rintro (h | h | h)
      · exact .inl (.inr h)
      · exact .inl (.inl h)
      · exact .inr h
theorem docsR_eq (rs : List RPart) (h : ∀ r ∈ rs, RPartOk r) (hn : ((liveL (rs.map toP)).map (·.1)).Nodup) : docsR rs = docsL (rs.map toP) := by
  have e := liveL_toP rs h
  obtain ⟨h1, h2⟩ := foldWith_facts (rs.flatMap liveR) [] (by simp [SortedD]) (by rw [List.nil_append, ← e]; exact hn)
  refine sorted_ext _ _ ?_ ?_ ?_ (nodup_docsL _ hn) (fun d => ?_)
  · exact List.pairwise_map.2 (h1.imp (fun h => by simp only [leB, decide_eq_true_eq]; exact List.le_of_lt h))
  · rw [ids_docsL]; exact List.pairwise_mergeSort leB_trans leB_total _
  · exact List.pairwise_map.2 (h1.imp (fun h e => by rw [e] at h; exact List.lt_irrefl _ h))
  · rw [mem_docsL _ hn, e]
    show d ∈ docsR rs ↔ _
    unfold docsR
    rw [h2]; simp
def mergeR (rs : List RPart) (a b : Int) : List RPart × Bytes × Int :=
  if a < 0 ∨ b ≤ a ∨ (rs.length : Int) ≤ b then (rs, [], 1)
  else
    if 500 < (docsR ((rs.take (b.toNat + 1)).drop a.toNat)).length then (rs, [], 6)
    else (rs.take a.toNat ++ (freshR (docsR ((rs.take (b.toNat + 1)).drop a.toNat)) ++ rs.drop (b.toNat + 1)), (if docsR ((rs.take (b.toNat + 1)).drop a.toNat) = [] then [] else segE (docsR ((rs.take (b.toNat + 1)).drop a.toNat)) (idxL (docsR ((rs.take (b.toNat + 1)).drop a.toNat)))), 0)
theorem merge_R (rs : List RPart) (a b : Int) (h : ∀ r ∈ rs, RPartOk r) (hn : ((liveL (rs.map toP)).map (·.1)).Nodup) : mergeL (rs.map toP) a b = ((mergeR rs a b).1.map toP, (mergeR rs a b).2) := by
  unfold mergeL mergeR
  rw [List.length_map]
  split
  · rfl
  · have hsub : ((rs.take (b.toNat + 1)).drop a.toNat).Sublist rs := (List.drop_sublist _ _).trans (List.take_sublist _ _)
    have hd : docsL (((rs.map toP).take (b.toNat + 1)).drop a.toNat) = docsR ((rs.take (b.toNat + 1)).drop a.toNat) := by
      rw [← List.map_take, ← List.map_drop]
      refine (docsR_eq _ (fun r hr => h r (hsub.subset hr)) ?_).symm
      exact ((sub_flatMap (hsub.map toP) liveOf).map _).nodup hn
    simp only [hd]
    split
    · rfl
    · rename_i h5
      rw [freshR_toP _ (by omega)]
      unfold freshL
      simp only [List.map_append, List.map_take, List.map_drop]
      split <;> rfl
def getR (ds : List DocL) (id : Bytes) : Option Bytes := (ds.find? fun d => d.1 == id).map (·.2)
end Go.Proofs.YtoabhcfmdkhmgaaGreatDoor
end
