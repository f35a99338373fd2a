/- Joined texts of one proof: IxW, Maps2, Ix2, IdxEq. -/
import Derived.Test.YtcflpcpkmhljkaaGreatDoorMWPostBToIx
import Derived.Test.YtcflpcpkmhljkaaGreatDoorMMapsToLive
import Derived.Sort.KeysCollected
import Derived.StringKeys
import Derived.Test.YtcflpcpkmhljkaaGreatDoorMWDictNToWDictE
set_option linter.unusedSimpArgs false
set_option linter.unusedVariables false
set_option linter.unnecessarySimpa false
/- (IxW) segment.index: the postings under way, in memory: what each step of a token leaves. -/
section
namespace Go.Proofs.YtcflpcpkmhljkaaGreatDoor
open Go.RowKit
set_option linter.unusedVariables false

abbrev IxV := List (Bytes × (Value × List PostR))
abbrev absM (m : IxV) : IxA := m.map fun e => (e.1, postsOf e.2.2)
abbrev valM (m : IxV) : List (Bytes × Value) := m.map fun e => (e.1, e.2.1)
abbrev rowP (v : Value) (l : List PostR) : RowS := ⟨211, 2, v, l.length, postVs l⟩
abbrev rowI (v : Value) (ps : List Int) : RowS := ⟨3, 1, v, ps.length, intVs ps⟩
def Held (F : KeyX → Option RowS) (t : Bytes) (v : Value) (l : List PostR) : Prop := F (t, none) = some (rowP v l) ∧ ∀ x ∈ l, F (t, some x.1) = some (rowI x.2.1 x.2.2)
structure IxW (W : World) (base mb : Nat) (m : IxV) (F : KeyX → Option RowS) : Prop where
  map : MapS W mb (valM m)
  fam : Fam W base F
  held : ∀ t v l, getM t m = some (v, l) → Held F t v l
/-- a term's postings are out of the map, to be put back -/
structure IxT (W : World) (base mb : Nat) (m : IxV) (F : KeyX → Option RowS) (t : Bytes) (i : Int) (g cap : Nat) (l0 : List PostR) (pv : Value) (ps : List Int) : Prop where
  map : MapS W mb (valM m)
  fam : Fam W base F
  row : F (t, none) = some (rowP (.slice (some ⟨g, 0, none⟩) (l0.length + 1) cap) (l0 ++ [(i, pv, ps)]))
  last : F (t, some i) = some (rowI pv ps)
  init : ∀ x ∈ l0, x.1 ≠ i ∧ F (t, some x.1) = some (rowI x.2.1 x.2.2)
  other : ∀ t' v l, t' ≠ t → getM t' m = some (v, l) → Held F t' v l
theorem getM_abs (t : Bytes) (m : IxV) : getM t (absM m) = (getM t m).map fun e => postsOf e.2 := getM_map (fun e : Value × List PostR => postsOf e.2) t m
theorem getM_val (t : Bytes) (m : IxV) : getM t (valM m) = (getM t m).map fun e => e.1 := getM_map (fun e : Value × List PostR => e.1) t m
theorem putM_abs (t : Bytes) (v : Value × List PostR) (m : IxV) : absM (putM t v m) = putM t (postsOf v.2) (absM m) := putM_map (fun e : Value × List PostR => postsOf e.2) t v m
theorem putM_val (t : Bytes) (v : Value × List PostR) (m : IxV) : valM (putM t v m) = putM t v.1 (valM m) := putM_map (fun e : Value × List PostR => e.1) t v m
theorem IxW.start {W : World} {base mb : Nat} (h : MapS W mb []) : IxW W base mb [] fun _ => none := ⟨h, Fam.empty _ _, fun _ _ _ h => (by cases h)⟩
theorem IxW.q {W W' : World} {base mb : Nat} {m : IxV} {F : KeyX → Option RowS} (h : IxW W base mb m F) (q : Q W W') : IxW W' base mb m F := ⟨h.map.stays q, h.fam.q q, h.held⟩
theorem IxT.q {W W' : World} {base mb : Nat} {m : IxV} {F : KeyX → Option RowS} {t : Bytes} {i : Int} {g cap : Nat} {l0 : List PostR} {pv : Value} {ps : List Int} (h : IxT W base mb m F t i g cap l0 pv ps) (q : Q W W') : IxT W' base mb m F t i g cap l0 pv ps :=
  ⟨h.map.stays q, h.fam.q q, h.row, h.last, h.init, h.other⟩
/-- what is looked up -/
def curOf (m : IxV) (t : Bytes) : Value × List PostR := (getM t m).getD (.slice none 0 0, [])
theorem IxW.cur {W : World} {base mb : Nat} {m : IxV} {F : KeyX → Option RowS} (h : IxW W base mb m F) (t : Bytes) : W.ownsRow base 211 2 (curOf m t).1 (curOf m t).2.length (postVs (curOf m t).2) ∧ (∀ g, (curOf m t).1.ownBlock = some g → ∃ r, F (t, none) = some r ∧ r.v.ownBlock = some g) ∧ (getM t (valM m)).getD (.slice none 0 0) = (curOf m t).1 := by
  unfold curOf
  rw [getM_val]
  cases hg : getM t m with
  | none => exact ⟨World.ownsRow_nil _ _ _ _, fun g hg => by simp [Value.ownBlock] at hg, rfl⟩
  | some e =>
    obtain ⟨v, l⟩ := e
    have := h.held t v l hg
    exact ⟨h.fam.owns _ _ this.1, fun g hg => ⟨_, this.1, hg⟩, rfl⟩
theorem map_no_row {W : World} {base mb : Nat} {e : TypeId} {size : Nat} {v : Value} {n : Nat} {xs : List Value} {m : List (Bytes × Value)} (h : MapS W mb m) (ho : W.ownsRow base e size v n xs) : v.ownBlock ≠ some mb := by
  intro hb
  obtain ⟨cs, hc⟩ := owns_kind ho mb hb
  obtain ⟨es, clock, h1, _⟩ := h
  rw [hc] at h1
  cases h1
theorem MapS.grown {W W' : World} {mb : Nat} {m : List (Bytes × Value)} {row : Option Nat} (h : MapS W mb m) (hg : W.grownBy W' row) (hne : row ≠ some mb) : MapS W' mb m := h.same (hg.block mb h.lt (fun e => hne e.symm))
/-- no posting of the document yet: one is put behind the others -/
theorem IxW.new {W w4 : World} {base mb : Nat} {m : IxV} {F : KeyX → Option RowS} (h : IxW W base mb m F) (t : Bytes) (i : Int) {g cap : Nat} (hlt : ∀ x ∈ (curOf m t).2, x.1 ≠ i)
    (ho : w4.ownsRow base 211 2 (.slice (some ⟨g, 0, none⟩) ((curOf m t).2.length + 1) cap) ((curOf m t).2.length + 1) (postVs (curOf m t).2 ++ [.int .i64 i, .slice none 0 0]))
    (hg : W.grownBy w4 (curOf m t).1.ownBlock) (hat : (curOf m t).1.ownBlock = some g ∨ W.heap.size < g) :
    IxT w4 base mb m (updF (updF F (t, none) (rowP (.slice (some ⟨g, 0, none⟩) ((curOf m t).2.length + 1) cap) ((curOf m t).2 ++ [(i, .slice none 0 0, [])]))) (t, some i) (rowI (.slice none 0 0) [])) t i g cap (curOf m t).2 (.slice none 0 0) [] := by
  obtain ⟨c1, c2, c3⟩ := h.cur t
  have e1 : postVs ((curOf m t).2 ++ [(i, .slice none 0 0, [])]) = postVs (curOf m t).2 ++ [.int .i64 i, .slice none 0 0] := by simp [postVs]
  have hl : ((curOf m t).2 ++ [((i, .slice none 0 0, []) : PostR)]).length = (curOf m t).2.length + 1 := by simp
  have f1 : Fam w4 base (updF F (t, none) (rowP (.slice (some ⟨g, 0, none⟩) ((curOf m t).2.length + 1) cap) ((curOf m t).2 ++ [(i, .slice none 0 0, [])]))) := by
    refine h.fam.put hg c2 _ ?_ (fun k hk => ?_)
    · show w4.ownsRow base _ 2 (.slice (some ⟨g, 0, none⟩) ((curOf m t).2.length + 1) cap) ((curOf m t).2 ++ [((i, .slice none 0 0, []) : PostR)]).length (postVs ((curOf m t).2 ++ [((i, .slice none 0 0, []) : PostR)]))
      rw [e1, hl]; exact ho
    · simp only [Value.ownBlock, Option.some.injEq] at hk
      subst hk
      exact hat.imp id (fun h => by omega)
  have f2 : Fam w4 base (updF (updF F (t, none) (rowP (.slice (some ⟨g, 0, none⟩) ((curOf m t).2.length + 1) cap) ((curOf m t).2 ++ [(i, .slice none 0 0, [])]))) (t, some i) (rowI (.slice none 0 0) [])) :=
    f1.put (row := none) (World.grownBy.mk rfl rfl rfl (Nat.le_refl _) (fun _ _ _ => rfl)) (fun g h => by cases h) _ (World.ownsRow_nil _ _ _ _) (fun k hk => by simp [Value.ownBlock] at hk)
  refine ⟨h.map.grown hg (map_no_row h.map c1), f2, ?_, updF_same _ _ _, fun x hx => ⟨hlt x hx, ?_⟩, fun t' v l hne hgm => ?_⟩
  · rw [updF_other (by simp), updF_same]
  · rw [updF_other (by simp; exact hlt x hx), updF_other (by simp)]
    unfold curOf at hx
    cases hgm : getM t m with
    | none => rw [hgm] at hx; simp at hx
    | some e => rw [hgm] at hx; exact (h.held t e.1 e.2 hgm).2 x hx
  · have := h.held t' v l hgm
    refine ⟨?_, fun x hx => ?_⟩
    · rw [updF_other (by simp), updF_other (by simp; exact hne)]; exact this.1
    · rw [updF_other (by simp; exact fun h => absurd h hne), updF_other (by simp)]; exact this.2 x hx
/-- a posting of the document is there -/
theorem IxW.old {W : World} {base mb : Nat} {m : IxV} {F : KeyX → Option RowS} (h : IxW W base mb m F) (t : Bytes) (i : Int) {l0 : List PostR} {pv : Value} {ps : List Int} (hc : (curOf m t).2 = l0 ++ [(i, pv, ps)]) (hlt : ∀ x ∈ l0, x.1 ≠ i) :
    ∃ g cap, (curOf m t).1 = .slice (some ⟨g, 0, none⟩) (l0.length + 1) cap ∧ IxT W base mb m F t i g cap l0 pv ps := by
  obtain ⟨c1, _, _⟩ := h.cur t
  rw [hc] at c1
  obtain ⟨g, cap, hv⟩ := ownsRow_succ (k := l0.length) (by simpa using c1)
  refine ⟨g, cap, hv, h.map, h.fam, ?_, ?_, ?_, fun t' v l _ hgm => h.held t' v l hgm⟩
  all_goals
    unfold curOf at hc hv
    cases hgm : getM t m with
    | none => rw [hgm] at hc; simp at hc
    | some e =>
      obtain ⟨v, l⟩ := e
      rw [hgm] at hc hv
      simp only [Option.getD_some] at hc hv
      have := h.held t v l hgm
      rw [hc, hv] at this
      first
      | exact this.1
      | exact this.2 (i, pv, ps) (by simp)
      | exact fun x hx => ⟨hlt x hx, this.2 x (List.mem_append_left _ hx)⟩
theorem postVs_snoc_set (l0 : List PostR) (i : Int) (pv pv' : Value) (ps ps' : List Int) : (postVs (l0 ++ [(i, pv, ps)])).set (l0.length * 2 + 1) pv' = postVs (l0 ++ [(i, pv', ps')]) := by
  have h : (postVs l0).length = l0.length * 2 := by
    induction l0 with
    | nil => rfl
    | cons x l ih => simp [postVs] at ih ⊢; omega
  have e : ∀ (p : PostR), postVs (l0 ++ [p]) = postVs l0 ++ [.int .i64 p.1, p.2.1] := by intro p; simp [postVs]
  rw [e, e, List.set_append_right _ _ (by omega), h]
  rw [show l0.length * 2 + 1 - l0.length * 2 = 1 by omega]
  rfl
/-- the place is behind the posting's others -/
theorem IxT.place {W wa : World} {base mb : Nat} {m : IxV} {F : KeyX → Option RowS} {t : Bytes} {i : Int} {g cap : Nat} {l0 : List PostR} {pv : Value} {ps : List Int} (h : IxT W base mb m F t i g cap l0 pv ps) (q : Int) {g2 cap2 : Nat}
    (ho : wa.ownsRow base 3 1 (.slice (some ⟨g2, 0, none⟩) (ps.length + 1) cap2) (ps.length + 1) (intVs (ps ++ [q]))) (hg : W.grownBy wa pv.ownBlock) (hat : pv.ownBlock = some g2 ∨ W.heap.size < g2) :
    ∃ F', IxT (wa.setCell ⟨g, l0.length * 2 + 1, none⟩ (.slice (some ⟨g2, 0, none⟩) (ps.length + 1) cap2)) base mb m F' t i g cap l0 (.slice (some ⟨g2, 0, none⟩) (ps.length + 1) cap2) (ps ++ [q]) := by
  have hl : (ps ++ [q]).length = ps.length + 1 := by simp
  have f1 : Fam wa base (updF F (t, some i) (rowI (.slice (some ⟨g2, 0, none⟩) (ps.length + 1) cap2) (ps ++ [q]))) := by
    refine h.fam.put hg (fun k hk => ⟨_, h.last, hk⟩) _ ?_ (fun k hk => ?_)
    · show wa.ownsRow base _ 1 (.slice (some ⟨g2, 0, none⟩) (ps.length + 1) cap2) (ps ++ [q]).length (intVs (ps ++ [q]))
      rw [hl]; exact ho
    · simp only [Value.ownBlock, Option.some.injEq] at hk
      subst hk
      exact hat.imp id (fun h => by omega)
  have hrow1 : updF F (t, some i) (rowI (.slice (some ⟨g2, 0, none⟩) (ps.length + 1) cap2) (ps ++ [q])) (t, none) = some (rowP (.slice (some ⟨g, 0, none⟩) (l0.length + 1) cap) (l0 ++ [(i, pv, ps)])) := by
    rw [updF_other (by simp)]; exact h.row
  have o1 := f1.owns _ _ hrow1
  have hl1 : ∀ pv ps, (l0 ++ [((i, pv, ps) : PostR)]).length = l0.length + 1 := by intro pv ps; simp
  have o1' : wa.ownsRow base 211 2 (.slice (some ⟨g, 0, none⟩) (l0.length + 1) cap) (l0.length + 1) (postVs (l0 ++ [(i, pv, ps)])) := by
    have h : wa.ownsRow base 211 2 (.slice (some ⟨g, 0, none⟩) (l0.length + 1) cap) (l0 ++ [((i, pv, ps) : PostR)]).length (postVs (l0 ++ [(i, pv, ps)])) := o1
    rw [hl1] at h; exact h
  have hlen : (postVs (l0 ++ [(i, pv, ps)])).length = (l0.length + 1) * 2 := by
    exact o1'.1
  have o2 := owns_setAt (n := l0.length + 1) o1' (l0.length * 2 + 1) (by rw [hlen]; omega) (.slice (some ⟨g2, 0, none⟩) (ps.length + 1) cap2)
  rw [postVs_snoc_set l0 i pv _ ps (ps ++ [q])] at o2
  have f2 := f1.put (κ := (t, none)) (grownBy_setCellAt wa g (l0.length * 2 + 1) (.slice (some ⟨g2, 0, none⟩) (ps.length + 1) cap2)) (fun k hk => ⟨_, hrow1, by simpa [Value.ownBlock] using hk⟩)
    (rowP (.slice (some ⟨g, 0, none⟩) (l0.length + 1) cap) (l0 ++ [(i, .slice (some ⟨g2, 0, none⟩) (ps.length + 1) cap2, ps ++ [q])])) (by show World.ownsRow _ _ _ 2 (.slice (some ⟨g, 0, none⟩) (l0.length + 1) cap) (l0 ++ [((i, _, ps ++ [q]) : PostR)]).length _; rw [hl1]; exact o2) (fun k hk => .inl (by simpa [Value.ownBlock] using hk))
  have hmap : MapS (wa.setCell ⟨g, l0.length * 2 + 1, none⟩ (.slice (some ⟨g2, 0, none⟩) (ps.length + 1) cap2)) mb (valM m) := by
    have m1 := h.map.grown hg (map_no_row h.map (h.fam.owns _ _ h.last))
    have hne := map_no_row m1 o1
    exact m1.grown (grownBy_setCellAt _ _ _ _) (by simpa [Value.ownBlock] using hne)
  refine ⟨_, hmap, f2, updF_same _ _ _, ?_, fun x hx => ⟨(h.init x hx).1, ?_⟩, fun t' v l hne hgm => ?_⟩
  · rw [updF_other (by simp), updF_same]
  · rw [updF_other (by simp), updF_other (by simp; exact (h.init x hx).1)]; exact (h.init x hx).2
  · have := h.other t' v l hne hgm
    refine ⟨?_, fun x hx => ?_⟩
    · rw [updF_other (by simp; exact hne), updF_other (by simp)]; exact this.1
    · rw [updF_other (by simp), updF_other (by simp; exact fun h => absurd h hne)]; exact this.2 x hx
/-- the term's postings are back in the map -/
theorem IxT.put {W w' : World} {base mb : Nat} {m : IxV} {F : KeyX → Option RowS} {t : Bytes} {i : Int} {g cap : Nat} {l0 : List PostR} {pv : Value} {ps : List Int} (h : IxT W base mb m F t i g cap l0 pv ps)
    (hm : MapS w' mb (putM t (.slice (some ⟨g, 0, none⟩) (l0.length + 1) cap) (valM m))) (hg : W.grownBy w' (some mb)) :
    IxW w' base mb (putM t (.slice (some ⟨g, 0, none⟩) (l0.length + 1) cap, l0 ++ [(i, pv, ps)]) m) F := by
  refine ⟨by rw [putM_val]; exact hm, h.fam.kept hg (fun k hk κ r hr => by cases hk; exact map_no_row h.map (h.fam.owns κ r hr)), fun t' v l hgm => ?_⟩
  rw [get_put] at hgm
  split at hgm
  · rename_i e; subst e
    cases hgm
    refine ⟨h.row, fun x hx => ?_⟩
    rcases List.mem_append.1 hx with hx | hx
    · exact (h.init x hx).2
    · rw [List.mem_singleton] at hx; subst hx; exact h.last
  · rename_i hne
    exact h.other t' v l (fun e => hne e.symm) hgm
end Go.Proofs.YtcflpcpkmhljkaaGreatDoor
end

/- (Maps2) From a map of strings to the kit's words for maps: for 'slices.Sorted(maps.Keys(m))'. Over any program. -/
section
namespace Go.Proofs.YtcflpcpkmhljkaaGreatDoor
open Go.RowKit Go.MapKept Go.Maps Go.Sort Go.WideShapes Go.WideMaps
set_option linter.unusedVariables false

abbrev noR : Value → Option (DataW Unit × List MemPlace) := fun _ => some (.nil, [])
theorem MapS.owns {P : Program} {w : World} {b : Nat} {m : List (List UInt8 × Value)} (h : MapS w b m) (k : TypeId) (hk : P.underlying k = some .string) (hlen : m.length ≤ maxLen) (hkeys : ∀ x ∈ m, x.1.length ≤ maxLen) :
    ∃ D : DataW Unit, w.ownsMap P k noR b m.length D ∧ Maps.size D = m.length ∧ (strKeys D).Perm (m.map (·.1)) := by
  obtain ⟨es, clock, hb, hs, he⟩ := h
  have hsz : es.size = m.length := by have := congrArg List.length he; simpa using this
  have hrd : ∀ x ∈ es.toList, ∃ y ∈ m, WideElems.rd P k noR x = some (.string y.1, .nil) := by
    intro x hx
    have h1 : kvE x ∈ es.toList.map kvE := List.mem_map_of_mem hx
    rw [he] at h1
    obtain ⟨y, hy, e⟩ := List.mem_map.1 h1
    refine ⟨y, hy, ?_⟩
    have hkey : x.key = strV y.1 := (congrArg Prod.fst e).symm
    unfold WideElems.rd
    rw [hkey, keyOf_string_mk hk (by show y.1.toArray.size ≤ maxLen; simpa using hkeys y hy)]
    rfl
  have hmap : es.toList.map (WideElems.rg P k noR) = m.map (fun x => ((.string x.1 : Lit), (.nil : DataW Unit))) := by
    apply List.ext_getElem?
    intro i
    have hi := congrArg (fun l => l[i]?) he
    simp only [List.getElem?_map] at hi ⊢
    cases hx : es.toList[i]? with
    | none =>
      rw [hx] at hi
      cases hm : m[i]? with
      | none => rfl
      | some y => rw [hm] at hi; simp at hi
    | some x =>
      rw [hx] at hi
      cases hm : m[i]? with
      | none => rw [hm] at hi; simp at hi
      | some y =>
        rw [hm] at hi
        simp only [Option.map_some, Option.some.injEq] at hi ⊢
        have hkey : x.key = strV y.1 := congrArg Prod.fst hi
        unfold WideElems.rg WideElems.rd
        rw [hkey, keyOf_string_mk hk (by show y.1.toArray.size ≤ maxLen; simpa using hkeys y (List.mem_of_getElem? hm))]
        rfl
  refine ⟨.map ((es.toList.map (WideElems.rg P k noR)).foldr DataW.insert []), ⟨es, clock, hb, ⟨by omega, hs, fun x hx => ?_⟩, by omega, rfl⟩, ?_, ?_⟩
  · obtain ⟨y, _, h⟩ := hrd x hx
    exact ⟨_, h⟩
  · rw [size_eq, (sorted_perm _).length_eq, hmap, List.length_map]
  · have := (sorted_perm (es.toList.map (WideElems.rg P k noR))).map (fun p => strOf p.1)
    rw [hmap] at this ⊢
    unfold strKeys
    refine this.trans ?_
    rw [List.map_map]
    exact List.Perm.of_eq (List.map_congr_left fun x _ => rfl)
/-- Go's order of texts -/
abbrev leL (x y : List UInt8) : Bool := decide (x ≤ y)
def sortL (l : List (List UInt8)) : List (List UInt8) := l.mergeSort leL
theorem sortL_perm {l l' : List (List UInt8)} (h : l.Perm l') : sortL l = sortL l' := mergeSort_of_perm h
end Go.Proofs.YtcflpcpkmhljkaaGreatDoor
end

/- (Ix2) segment.index: what it answers, plain. -/
section
namespace Go.Proofs.YtcflpcpkmhljkaaGreatDoor
open Go.RowKit
set_option linter.unusedVariables false

def ixF : List DocL → Nat → IxA → IxA
  | [], _, A => A
  | d :: l, i, A => ixF l (i + 1) ((tokensL d.2).foldl (addTok (i : Nat)) A)
theorem ixF_snoc (l : List DocL) (d : DocL) (i : Nat) (A : IxA) : ixF (l ++ [d]) i A = (tokensL d.2).foldl (addTok ((i + l.length : Nat) : Int)) (ixF l i A) := by
  induction l generalizing i A with
  | nil => simp [ixF]
  | cons a l ih => rw [List.cons_append, ixF, ixF, ih]; congr 2; simp; omega
def ixTo (l : List DocL) (k : Nat) : IxA := ixF (l.take k) 0 []
/-- after j tokens of the document k -/
def ixIn (l : List DocL) (k : Nat) (ts : List (Bytes × Nat)) (j : Nat) : IxA := (ts.take j).foldl (addTok (k : Nat)) (ixTo l k)
theorem ixTo_succ (l : List DocL) (k : Nat) (h : k < l.length) : ixTo l (k + 1) = ixIn l k (tokensL l[k].2) (tokensL l[k].2).length := by
  unfold ixTo ixIn ixTo
  rw [List.take_succ_eq_append_getElem h, ixF_snoc, List.length_take, Nat.min_eq_left (by omega), List.take_length, Nat.zero_add]
theorem ixIn_zero (l : List DocL) (k : Nat) (ts : List (Bytes × Nat)) : ixIn l k ts 0 = ixTo l k := rfl
theorem ixIn_succ (l : List DocL) (k : Nat) (ts : List (Bytes × Nat)) (j : Nat) (h : j < ts.length) : ixIn l k ts (j + 1) = addTok (k : Nat) (ixIn l k ts j) ts[j] := by
  unfold ixIn
  rw [List.take_succ_eq_append_getElem h, List.foldl_append]
  rfl
theorem tokensF_small (ws : List Bytes) (k : Nat) : ∀ x ∈ tokensF ws k, x.1.length ≤ 40 ∧ x.2 < k + ws.length := by
  induction ws generalizing k with
  | nil => simp [tokensF]
  | cons w ws ih =>
    intro x hx
    rw [tokensF] at hx
    simp only [List.length_cons]
    split at hx
    · rename_i h
      rcases List.mem_cons.1 hx with rfl | hx
      · exact ⟨h.1, by simp⟩
      · have := ih (k + 1) x hx; exact ⟨this.1, by omega⟩
    · have := ih (k + 1) x hx; exact ⟨this.1, by omega⟩
theorem tokensL_facts (s : Bytes) (hs : s.length ≤ 2000) : (tokensL s).length ≤ 2001 ∧ ∀ x ∈ tokensL s, x.1.length ≤ 40 ∧ x.2 ≤ 2001 := by
  have h1 := (wordsL_len s).1
  have h2 := tokensF_len (wordsL s) 0
  refine ⟨by unfold tokensL; omega, fun x hx => ?_⟩
  have := tokensF_small _ _ x hx
  exact ⟨this.1, by omega⟩
theorem ixIn_wf (l : List DocL) (k : Nat) (ts : List (Bytes × Nat)) (h : AWf (ixTo l k) k 0) (ht : ts.length ≤ 2001) (hx : ∀ x ∈ ts, x.1.length ≤ 40) (j : Nat) (hj : j ≤ ts.length) : AWf (ixIn l k ts j) k j := by
  induction j with
  | zero => exact h
  | succ j ih =>
    rw [ixIn_succ l k ts j (by omega)]
    exact (ih (by omega)).add (by omega) (by omega) _ (hx _ (List.getElem_mem _))
theorem ixTo_wf (l : List DocL) (hl : ∀ d ∈ l, d.2.length ≤ 2000) (k : Nat) (hk : k ≤ l.length) : AWf (ixTo l k) k 0 := by
  induction k with
  | zero => exact AWf.nil
  | succ k ih =>
    have hf := tokensL_facts l[k].2 (hl _ (List.getElem_mem _))
    rw [ixTo_succ l k (by omega)]
    have := (ixIn_wf l k _ (ih (by omega)) hf.1 (fun x hx => (hf.2 x hx).1) _ (Nat.le_refl _)).next hf.1
    simpa using this
def ixAll (l : List DocL) : IxA := ixTo l l.length
def entS (A : IxA) (t : Bytes) : EntryL := (t, packL ((getM t A).getD []))
def idxS (l : List DocL) : Bytes := dictL ((sortL ((ixAll l).map (·.1))).map (entS (ixAll l)))
end Go.Proofs.YtcflpcpkmhljkaaGreatDoor
end

/- (IdxEq) Plain: the index that is walked is that of the document (idxS = idxL). -/
section
namespace Go.Proofs.YtcflpcpkmhljkaaGreatDoor
set_option linter.unusedVariables false

theorem snoc_ind {α : Type} {P : List α → Prop} (h0 : P []) (h1 : ∀ l a, P l → P (l ++ [a])) (l : List α) : P l := by
  have : ∀ n (l : List α), l.length = n → P l := by
    intro n
    induction n with
    | zero => intro l hl; rw [List.eq_nil_of_length_eq_zero hl]; exact h0
    | succ n ih =>
      intro l hl
      have hne : l ≠ [] := by intro e; simp [e] at hl
      rw [← List.dropLast_concat_getLast hne]
      exact h1 _ _ (ih _ (by simp; omega))
  exact this _ l rfl
def placesOf (ts : List (Bytes × Nat)) (t : Bytes) : List Int := ts.filterMap fun x => if x.1 = t then some (x.2 : Int) else none
theorem placesOf_snoc (ts : List (Bytes × Nat)) (x : Bytes × Nat) (t : Bytes) : placesOf (ts ++ [x]) t = placesOf ts t ++ (if x.1 = t then [(x.2 : Int)] else []) := by
  unfold placesOf
  rw [List.filterMap_append]
  by_cases h : x.1 = t <;> simp [h]
theorem get_foldTok (i : Int) (t : Bytes) (A : IxA) (hlt : ∀ l, getM t A = some l → ∀ x ∈ l, x.1 ≠ i) (ts : List (Bytes × Nat)) :
    getM t (ts.foldl (addTok i) A) = if placesOf ts t = [] then getM t A else some ((getM t A).getD [] ++ [(i, placesOf ts t)]) := by
  induction ts using snoc_ind with
  | h0 => simp [placesOf]
  | h1 ts x ih =>
    rw [List.foldl_append, List.foldl_cons, List.foldl_nil, placesOf_snoc]
    rw [show addTok i (ts.foldl (addTok i) A) x = putM x.1 (addP i x.2 ((getM x.1 (ts.foldl (addTok i) A)).getD [])) (ts.foldl (addTok i) A) from rfl, get_put]
    by_cases hx : x.1 = t
    · rw [if_pos hx, if_pos hx, hx, ih]
      have hne : ∀ y ∈ (getM t A).getD [], y.1 ≠ i := by
        intro y hy
        cases hg : getM t A with
        | none => rw [hg] at hy; simp at hy
        | some l => rw [hg] at hy; exact hlt l hg y hy
      by_cases hp : placesOf ts t = []
      · rw [if_pos hp, hp, addP_new i _ _ hne]; simp
      · rw [if_neg hp]
        simp only [Option.getD_some]
        rw [addP_old]; simp
    · rw [if_neg hx, if_neg hx, List.append_nil]; exact ih
theorem postsF_snoc (t : Bytes) (l : List DocL) (d : DocL) (i : Nat) : postsF t (l ++ [d]) i = postsF t l i ++ (if placesIn d.2 t = [] then [] else [(((i + l.length : Nat) : Int), placesIn d.2 t)]) := by
  induction l generalizing i with
  | nil => simp [postsF]
  | cons a l ih =>
    rw [List.cons_append, postsF, postsF, ih, List.length_cons, show i + 1 + l.length = i + (l.length + 1) by omega]
    by_cases h : placesIn a.2 t = []
    · rw [if_pos h, if_pos h]
    · rw [if_neg h, if_neg h, List.cons_append]
theorem postsF_docs (t : Bytes) (l : List DocL) (i : Nat) : ∀ x ∈ postsF t l i, (i : Int) ≤ x.1 ∧ x.1 < ((i + l.length : Nat) : Int) := by
  induction l generalizing i with
  | nil => simp [postsF]
  | cons a l ih =>
    intro x hx
    rw [postsF] at hx
    rw [List.length_cons]
    split at hx
    · have := ih (i + 1) x hx; omega
    · rcases List.mem_cons.1 hx with rfl | hx
      · simp only; omega
      · have := ih (i + 1) x hx; omega
theorem get_ixTo (l : List DocL) (t : Bytes) (k : Nat) (hk : k ≤ l.length) : getM t (ixTo l k) = if postsF t (l.take k) 0 = [] then none else some (postsF t (l.take k) 0) := by
  induction k with
  | zero => simp [ixTo, ixF, getM, postsF]
  | succ k ih =>
    have hlt : k < l.length := by omega
    have ih := ih (by omega)
    have hd : ∀ x ∈ postsF t (l.take k) 0, x.1 < (k : Int) := by
      intro x hx
      have := (postsF_docs t (l.take k) 0 x hx).2
      rw [List.length_take, Nat.min_eq_left (by omega)] at this
      omega
    rw [ixTo_succ l k hlt]
    unfold ixIn
    rw [List.take_length, get_foldTok (k : Nat) t (ixTo l k) (fun m hm x hx => by
      rw [ih] at hm
      split at hm
      · cases hm
      · cases hm; have := hd x hx; omega), ih, List.take_succ_eq_append_getElem hlt, postsF_snoc, List.length_take, Nat.min_eq_left (by omega), Nat.zero_add]
    have he : placesOf (tokensL l[k].2) t = placesIn l[k].2 t := rfl
    rw [he]
    by_cases hp : placesIn l[k].2 t = []
    · rw [if_pos hp, if_pos hp, List.append_nil]
    · rw [if_neg hp, if_neg hp, if_neg (show ¬ (postsF t (l.take k) 0 ++ [((k : Int), placesIn l[k].2 t)] = []) by simp)]
      by_cases hq : postsF t (l.take k) 0 = []
      · rw [if_pos hq, hq]; rfl
      · rw [if_neg hq]; rfl
theorem get_ixAll (l : List DocL) (t : Bytes) : (getM t (ixAll l)).getD [] = postsF t l 0 := by
  unfold ixAll
  rw [get_ixTo l t l.length (Nat.le_refl _), List.take_length]
  by_cases h : postsF t l 0 = []
  · rw [if_pos h, h]; rfl
  · rw [if_neg h]; rfl
theorem places_some (s t : Bytes) : placesIn s t ≠ [] ↔ t ∈ (tokensL s).map (·.1) := by
  unfold placesIn
  rw [ne_eq, List.filterMap_eq_nil_iff]
  simp only [List.mem_map]
  constructor
  · intro h
    apply Classical.byContradiction
    intro hn
    exact h (fun x hx => by rw [if_neg (fun e => hn ⟨x, hx, e⟩)])
  · rintro ⟨x, hx, e⟩ h
    have := h x hx
    rw [if_pos e] at this
    cases this
theorem posts_some (t : Bytes) (l : List DocL) (i : Nat) : postsF t l i ≠ [] ↔ t ∈ l.flatMap fun d => (tokensL d.2).map (·.1) := by
  induction l generalizing i with
  | nil => simp [postsF]
  | cons a l ih =>
    rw [postsF, List.flatMap_cons, List.mem_append, ← places_some, ← ih (i + 1)]
    by_cases h : placesIn a.2 t = []
    · rw [if_pos h]; simp [h]
    · rw [if_neg h]; simp [h]
theorem keys_ixAll (l : List DocL) (t : Bytes) : t ∈ (ixAll l).map (·.1) ↔ t ∈ l.flatMap fun d => (tokensL d.2).map (·.1) := by
  have h := getM_some t (ixAll l)
  rw [← posts_some t l 0]
  unfold ixAll at h ⊢
  rw [get_ixTo l t l.length (Nat.le_refl _), List.take_length] at h
  by_cases hp : postsF t l 0 = []
  · rw [if_pos hp] at h
    have : ¬ t ∈ (ixTo l l.length).map (·.1) := fun e => by rw [decide_eq_true e] at h; cases h
    simp only [this, hp, ne_eq, not_true]
  · rw [if_neg hp] at h
    have : t ∈ (ixTo l l.length).map (·.1) := of_decide_eq_true h.symm
    simp only [this, hp, ne_eq, not_false_eq_true]
theorem nodup_put {α : Type} (k : Bytes) (v : α) (m : List (Bytes × α)) (h : (m.map (·.1)).Nodup) : ((putM k v m).map (·.1)).Nodup := by
  rw [keys_put]
  split
  · exact h
  · rename_i hn
    rw [List.nodup_append]
    exact ⟨h, by simp, fun a ha b hb => by simp at hb; subst hb; exact fun e => hn (e ▸ ha)⟩
theorem nodup_foldTok (i : Int) (ts : List (Bytes × Nat)) (A : IxA) (h : (A.map (·.1)).Nodup) : ((ts.foldl (addTok i) A).map (·.1)).Nodup := by
  induction ts generalizing A with
  | nil => exact h
  | cons x ts ih => exact ih _ (nodup_put _ _ _ h)
theorem nodup_ixAll (l : List DocL) : ((ixAll l).map (·.1)).Nodup := by
  unfold ixAll
  have : ∀ k, k ≤ l.length → ((ixTo l k).map (·.1)).Nodup := by
    intro k
    induction k with
    | zero => intro _; simp [ixTo, ixF]
    | succ k ih =>
      intro hk
      rw [ixTo_succ l k (by omega)]
      exact nodup_foldTok _ _ _ (ih (by omega))
  exact this _ (Nat.le_refl _)
/-! ### the order of texts -/
theorem mem_putL (t : Bytes) (l : List Bytes) (x : Bytes) : x ∈ putL t l ↔ x = t ∨ x ∈ l := by
  induction l with
  | nil => simp [putL]
  | cons y l ih =>
    rw [putL]
    split
    · rename_i h
      subst h
      simp
    · split
      · simp
      · simp only [List.mem_cons, ih]
        constructor
        · rintro (h | h | h)
          · exact .inr (.inl h)
          · exact .inl h
          · exact .inr (.inr h)
        · rintro (h | h | h)
          · exact .inr (.inl h)
          · exact .inl h
          · exact .inr (.inr h)
theorem putL_rise (t : Bytes) (l : List Bytes) (h : l.Pairwise (· < ·)) : (putL t l).Pairwise (· < ·) := by
  induction l with
  | nil => simp [putL]
  | cons y l ih =>
    rw [List.pairwise_cons] at h
    rw [putL]
    split
    · exact List.pairwise_cons.2 h
    · rename_i hne
      split
      · rename_i hl
        have hl := (lessL_iff _ _).1 hl
        refine List.pairwise_cons.2 ⟨fun z hz => ?_, List.pairwise_cons.2 h⟩
        rcases List.mem_cons.1 hz with rfl | hz
        · exact hl
        · exact List.lt_trans hl (h.1 z hz)
      · rename_i hl
        refine List.pairwise_cons.2 ⟨fun z hz => ?_, ih h.2⟩
        rcases (mem_putL _ _ _).1 hz with rfl | hz
        · exact less_total (fun e => hl ((lessL_iff _ _).2 e)) (fun e => hne e.symm)
        · exact h.1 z hz
theorem foldPutL_rise (ts l : List Bytes) (h : l.Pairwise (· < ·)) : (ts.foldl (fun a t => putL t a) l).Pairwise (· < ·) := by
  induction ts generalizing l with
  | nil => exact h
  | cons t ts ih => exact ih _ (putL_rise t l h)
theorem mem_foldPutL (ts l : List Bytes) (x : Bytes) : x ∈ ts.foldl (fun a t => putL t a) l ↔ x ∈ ts ∨ x ∈ l := by
  induction ts generalizing l with
  | nil => simp
  | cons t ts ih =>
    rw [List.foldl_cons, ih, mem_putL, List.mem_cons]
    constructor
    · rintro (h | h | h)
      · exact .inl (.inr h)
      · exact .inl (.inl h)
      · exact .inr h
    · rintro ((h | h) | h)
      · exact .inr (.inl h)
      · exact .inl h
      · exact .inr (.inr h)
theorem rise_ext (a b : List Bytes) (ha : a.Pairwise (· < ·)) (hb : b.Pairwise (· < ·)) (h : ∀ x, x ∈ a ↔ x ∈ b) : a = b := by
  have na : a.Nodup := ha.imp (fun h e => by subst e; exact List.lt_irrefl _ h)
  have nb : b.Nodup := hb.imp (fun h e => by subst e; exact List.lt_irrefl _ h)
  have hp : a.Perm b := (List.perm_ext_iff_of_nodup na nb).2 h
  exact List.Perm.eq_of_pairwise (le := fun x y => x < y) (fun x y _ _ h1 h2 => absurd h2 (List.lt_asymm h1)) ha hb hp
theorem sortL_rise (l : List Bytes) (h : l.Nodup) : (sortL l).Pairwise (· < ·) := by
  have h1 : (sortL l).Pairwise (fun x y => leB x y = true) := List.pairwise_mergeSort leB_trans leB_total l
  have h2 : (sortL l).Nodup := (List.mergeSort_perm l leL).nodup_iff.2 h
  refine (h1.and h2).imp fun {x y} hxy => ?_
  have h3 : x ≤ y := by simpa [leB] using hxy.1
  rcases List.le_iff_lt_or_eq.1 h3 with h4 | h4
  · exact h4
  · exact absurd h4 hxy.2
theorem terms_eq (l : List DocL) : sortL ((ixAll l).map (·.1)) = termsL l := by
  refine rise_ext _ _ (sortL_rise _ (nodup_ixAll l)) (foldPutL_rise _ _ List.Pairwise.nil) (fun x => ?_)
  unfold termsL
  rw [mem_foldPutL]
  unfold sortL
  rw [List.mem_mergeSort, keys_ixAll]
  simp
theorem idx_eq (l : List DocL) : idxS l = idxL l := by
  unfold idxS idxL
  rw [terms_eq]
  congr 1
  refine List.map_congr_left fun t _ => ?_
  unfold entS
  rw [get_ixAll]
end Go.Proofs.YtcflpcpkmhljkaaGreatDoor
end
