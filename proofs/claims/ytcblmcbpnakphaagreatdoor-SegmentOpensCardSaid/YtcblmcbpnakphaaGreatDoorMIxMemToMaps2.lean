/- Joined texts of one proof: IxMem, Ix, IxW, Maps2. -/
import Derived.Test.YtcblmcbpnakphaaGreatDoorMMapsToLive
import Derived.Test.YtcblmcbpnakphaaGreatDoorMWTokensToWIdxR
import Derived.Sort.KeysCollected
import Derived.StringKeys
set_option linter.unusedSimpArgs false
set_option linter.unusedVariables false
set_option linter.unnecessarySimpa false
/- (IxMem) A family of rows that lie apart; the postings under way in segment.index: in memory, and plain. No program is walked. -/
section
namespace Go.Proofs.YtcblmcbpnakphaaGreatDoor
open Go.RowKit
set_option linter.unusedVariables false

structure RowS where
  e : TypeId
  size : Nat
  v : Value
  n : Nat
  xs : List Value
abbrev KeyX := Bytes × Option Int
/-- rows, each under a key, each owned, no two in one block -/
structure Fam (W : World) (base : Nat) (F : KeyX → Option RowS) : Prop where
  owns : ∀ κ r, F κ = some r → W.ownsRow base r.e r.size r.v r.n r.xs
  apart : ∀ κ κ' r r' g, F κ = some r → F κ' = some r' → r.v.ownBlock = some g → r'.v.ownBlock = some g → κ = κ'
def updF (F : KeyX → Option RowS) (κ : KeyX) (r : RowS) : KeyX → Option RowS := fun x => if x = κ then some r else F x
theorem updF_same (F : KeyX → Option RowS) (κ : KeyX) (r : RowS) : updF F κ r κ = some r := by simp [updF]
theorem updF_other {F : KeyX → Option RowS} {κ κ' : KeyX} {r : RowS} (h : κ' ≠ κ) : updF F κ r κ' = F κ' := by simp [updF, h]
theorem Fam.q {W W' : World} {base : Nat} {F : KeyX → Option RowS} (h : Fam W base F) (q : Q W W') : Fam W' base F := ⟨fun κ r hr => ownsRow_below (h.owns κ r hr) q, h.apart⟩
theorem Fam.empty (W : World) (base : Nat) : Fam W base fun _ => none := ⟨fun _ _ h => (by cases h), fun _ _ _ _ _ h => (by cases h)⟩
/-- one row turns: in its block, or to a new one -/
theorem Fam.put {W W' : World} {base : Nat} {F : KeyX → Option RowS} (h : Fam W base F) {κ : KeyX} {row : Option Nat} (hg : W.grownBy W' row) (hrow : ∀ g, row = some g → ∃ r, F κ = some r ∧ r.v.ownBlock = some g)
    (r : RowS) (ho : W'.ownsRow base r.e r.size r.v r.n r.xs) (hat : ∀ g, r.v.ownBlock = some g → row = some g ∨ W.heap.size ≤ g) : Fam W' base (updF F κ r) := by
  have key : ∀ κ' s, κ' ≠ κ → F κ' = some s → ∀ g, s.v.ownBlock = some g → row ≠ some g := by
    intro κ' s hne hs g hg' e
    obtain ⟨r0, h0, h1⟩ := hrow g e
    exact hne (h.apart κ' κ s r0 g hs h0 hg' h1)
  have lt : ∀ κ' s, F κ' = some s → ∀ g, s.v.ownBlock = some g → g < W.heap.size := fun κ' s hs g hg' => ((h.owns κ' s hs).lt g hg').2
  refine ⟨fun κ' s hs => ?_, fun κ1 κ2 r1 r2 g h1 h2 b1 b2 => ?_⟩
  · by_cases hk : κ' = κ
    · rw [hk, updF_same] at hs; cases hs; exact ho
    · rw [updF_other hk] at hs
      refine (h.owns κ' s hs).kept hg ?_
      cases hb : s.v.ownBlock with
      | none => exact .inl rfl
      | some g => exact .inr (fun e => key κ' s hk hs g hb e.symm)
  · by_cases hk1 : κ1 = κ
    · by_cases hk2 : κ2 = κ
      · rw [hk1, hk2]
      · exfalso
        rw [hk1, updF_same] at h1; cases h1
        rw [updF_other hk2] at h2
        rcases hat g b1 with e | e
        · exact key κ2 r2 hk2 h2 g b2 e
        · have := lt κ2 r2 h2 g b2; omega
    · by_cases hk2 : κ2 = κ
      · exfalso
        rw [hk2, updF_same] at h2; cases h2
        rw [updF_other hk1] at h1
        rcases hat g b2 with e | e
        · exact key κ1 r1 hk1 h1 g b1 e
        · have := lt κ1 r1 h1 g b1; omega
      · rw [updF_other hk1] at h1; rw [updF_other hk2] at h2
        exact h.apart κ1 κ2 r1 r2 g h1 h2 b1 b2
/-- a block that is no row turns -/
theorem Fam.kept {W W' : World} {base : Nat} {F : KeyX → Option RowS} (h : Fam W base F) {row : Option Nat} (hg : W.grownBy W' row) (hrow : ∀ g, row = some g → ∀ κ r, F κ = some r → r.v.ownBlock ≠ some g) : Fam W' base F := by
  refine ⟨fun κ r hr => (h.owns κ r hr).kept hg ?_, h.apart⟩
  cases hb : r.v.ownBlock with
  | none => exact .inl rfl
  | some g => exact .inr (fun e => hrow g e.symm κ r hr hb)
theorem grownBy_setCellAt (W : World) (b i : Nat) (v : Value) : W.grownBy (W.setCell ⟨b, i, none⟩ v) (some b) :=
  ⟨rfl, rfl, rfl, (KeepsWalks.setCell W _ v).size, fun k _ hk => Below.heap_setCell _ _ _ k (fun e => hk (by rw [e]))⟩
/-- a store into an owned row -/
theorem owns_setAt {W : World} {base : Nat} {e : TypeId} {size g n cap : Nat} {xs : List Value} (h : W.ownsRow base e size (.slice (some ⟨g, 0, none⟩) n cap) n xs) (i : Nat) (hi : i < xs.length) (u : Value) :
    (W.setCell ⟨g, i, none⟩ u).ownsRow base e size (.slice (some ⟨g, 0, none⟩) n cap) n (xs.set i u) := by
  obtain ⟨h1, h2⟩ := h
  refine ⟨by rw [List.length_set]; exact h1, ?_⟩
  rcases h2 with ⟨hv, _⟩ | ⟨g', cap', cur, hv, hb, hg, hc1, hc2, hc3, ht⟩
  · cases hv
  · injection hv with e1 e2 e3
    injection e1 with e1
    injection e1 with e1
    subst e1; subst e3
    refine .inr ⟨g, cap, cur.setIfInBounds i u, rfl, hb, ?_, hc1, hc2, by simpa using hc3, ?_⟩
    · simp [World.setCell, Array.getElem?_modify, hg]
    · have hxs : xs.length ≤ cur.size := by rw [h1, hc3]; exact Nat.mul_le_mul_right _ hc1
      rw [Array.toList_setIfInBounds, ← ht, List.take_set]
/-- what is no row of places, no row of postings and no map lies as it lay -/
structure Ki (A B : World) : Prop where
  size : A.heap.size ≤ B.heap.size
  get : ∀ (k : Nat) (cs : Array Value) (t : TypeId) (fz : Nat × Nat), A.heap[k]? = some (.cells cs t fz) → t ≠ 3 → t ≠ 74 → B.heap[k]? = some (.cells cs t fz)
theorem Ki.refl (A : World) : Ki A A := ⟨Nat.le_refl _, fun _ _ _ _ h _ _ => h⟩
theorem Ki.trans {A B C : World} (h : Ki A B) (k : Ki B C) : Ki A C := ⟨Nat.le_trans h.size k.size, fun i cs t fz h1 h2 h3 => k.get i cs t fz (h.get i cs t fz h1 h2 h3) h2 h3⟩
theorem Ki.of_q {A B : World} (q : Q A B) : Ki A B := ⟨q.size, fun k cs t fz h _ _ => (q.block k (lt_of_get h)).trans h⟩
theorem Ki.grown {A B : World} {row : Option Nat} (hg : A.grownBy B row) (hrow : ∀ g, row = some g → ∀ (cs : Array Value) (t : TypeId) (fz : Nat × Nat), A.heap[g]? = some (.cells cs t fz) → t = 3 ∨ t = 74) : Ki A B :=
  ⟨hg.size, fun k cs t fz h h1 h2 => (hg.block k (lt_of_get h) (fun e => by
    rcases hrow k e.symm cs t fz h with h3 | h3
    · exact h1 h3
    · exact h2 h3)).trans h⟩
theorem Ki.boxed {A B : World} (h : Ki A B) {k : Nat} {t : TypeId} {v : Value} (hb : Boxed A k t v) (h1 : t ≠ 3) (h2 : t ≠ 74) : Boxed B k t v := h.get _ _ _ _ hb h1 h2
theorem Ki.owns {A B : World} (h : Ki A B) {base : Nat} {e : TypeId} {size : Nat} {v : Value} {n : Nat} {xs : List Value} (hr : A.ownsRow base e size v n xs) (h1 : e ≠ 3) (h2 : e ≠ 74) : B.ownsRow base e size v n xs := by
  obtain ⟨a, b⟩ := hr
  refine ⟨a, ?_⟩
  rcases b with b | ⟨g, cap, cur, hv, hb, hg, rest⟩
  · exact .inl b
  · exact .inr ⟨g, cap, cur, hv, hb, h.get _ _ _ _ hg h1 h2, rest⟩
end Go.Proofs.YtcblmcbpnakphaaGreatDoor
end

/- (Ix) segment.index: the postings under way, plain and in memory. -/
section
namespace Go.Proofs.YtcblmcbpnakphaaGreatDoor
open Go.RowKit
set_option linter.unusedVariables false

/-! ### plain -/
abbrev IxA := List (Bytes × List PostL)
def addP (i q : Int) (l : List PostL) : List PostL :=
  match l.getLast? with
  | some x => if x.1 = i then l.dropLast ++ [(i, x.2 ++ [q])] else l ++ [(i, [q])]
  | none => [(i, [q])]
def addTok (i : Int) (A : IxA) (x : Bytes × Nat) : IxA := putM x.1 (addP i x.2 ((getM x.1 A).getD [])) A
theorem addP_old (i q : Int) (l : List PostL) (ps : List Int) : addP i q (l ++ [(i, ps)]) = l ++ [(i, ps ++ [q])] := by
  unfold addP; rw [List.getLast?_concat]; simp
theorem addP_new (i q : Int) (l : List PostL) (h : ∀ x ∈ l, x.1 ≠ i) : addP i q l = l ++ [(i, [q])] := by
  unfold addP
  cases hl : l.getLast? with
  | none => rw [List.getLast?_eq_none_iff.1 hl]; rfl
  | some x => simp [h x (List.mem_of_getLast? hl)]
theorem getM_map {α β : Type} (f : α → β) (k : Bytes) (m : List (Bytes × α)) : getM k (m.map fun e => (e.1, f e.2)) = (getM k m).map f := by
  induction m with
  | nil => rfl
  | cons x m ih => simp only [List.map_cons, getM]; split <;> simp [ih]
theorem putM_map {α β : Type} (f : α → β) (k : Bytes) (v : α) (m : List (Bytes × α)) : (putM k v m).map (fun e => (e.1, f e.2)) = putM k (f v) (m.map fun e => (e.1, f e.2)) := by
  induction m with
  | nil => rfl
  | cons x m ih => simp only [List.map_cons, putM]; split <;> simp [ih]
theorem putM_length {α : Type} (k : Bytes) (v : α) (m : List (Bytes × α)) : (putM k v m).length ≤ m.length + 1 := by
  induction m with
  | nil => simp [putM]
  | cons x m ih => simp only [putM]; split <;> simp; omega
/-- the postings of one term, in the document i after j of its tokens -/
structure PWf (l : List PostL) (i : Int) (j : Nat) : Prop where
  some : l ≠ []
  rise : (l.map (·.1)).Pairwise (· < ·)
  doc : ∀ x ∈ l, 0 ≤ x.1 ∧ x.1 ≤ i
  long : ∀ x ∈ l, x.2.length ≤ 2001
  last : ∀ x ∈ l, x.1 = i → x.2.length ≤ j
structure AWf (A : IxA) (i : Int) (j : Nat) : Prop where
  keys : (A.map (·.1)).Nodup
  small : ∀ x ∈ A, x.1.length ≤ 40
  count : (A.length : Int) ≤ 2001 * i + j
  posts : ∀ t l, getM t A = some l → PWf l i j
theorem AWf.nil : AWf [] 0 0 := ⟨by simp, by simp, by simp, fun _ _ h => (by cases h)⟩
theorem PWf.more {l : List PostL} {i : Int} {j : Nat} (h : PWf l i j) : PWf l i (j + 1) := ⟨h.some, h.rise, h.doc, h.long, fun x hx e => by have := h.last x hx e; omega⟩
theorem AWf.next {A : IxA} {i : Int} {j : Nat} (h : AWf A i j) (hj : j ≤ 2001) : AWf A (i + 1) 0 :=
  ⟨h.keys, h.small, by have := h.count; omega, fun t l hl => by
    have p := h.posts t l hl
    exact ⟨p.some, p.rise, fun x hx => by have := p.doc x hx; omega, p.long, fun x hx e => by have := (p.doc x hx).2; omega⟩⟩
/-- the last posting is of the document i, or none is -/
theorem PWf.parts {l : List PostL} {i : Int} {j : Nat} (h : PWf l i j) : (∃ l0 ps, l = l0 ++ [(i, ps)] ∧ (∀ x ∈ l0, x.1 < i) ∧ ps.length ≤ j) ∨ (∀ x ∈ l, x.1 < i) := by
  obtain ⟨l0, x, rfl⟩ : ∃ l0 x, l = l0 ++ [x] := ⟨l.dropLast, l.getLast h.some, (List.dropLast_concat_getLast h.some).symm⟩
  have hr := h.rise
  rw [List.map_append, List.pairwise_append] at hr
  have hlt : ∀ y ∈ l0, y.1 < x.1 := fun y hy => hr.2.2 _ (List.mem_map_of_mem hy) _ (by simp)
  have hx := (h.doc x (by simp)).2
  by_cases e : x.1 = i
  · refine .inl ⟨l0, x.2, by rw [← e], fun y hy => by have := hlt y hy; omega, h.last x (by simp) e⟩
  · refine .inr fun y hy => ?_
    rcases List.mem_append.1 hy with hy | hy
    · have := hlt y hy; omega
    · rw [List.mem_singleton] at hy; subst hy; omega
theorem PWf.add {l : List PostL} {i : Int} {j : Nat} (h : l = [] ∨ PWf l i j) (hi : 0 ≤ i) (hj : j < 2001) (q : Int) : PWf (addP i q l) i (j + 1) := by
  have new : ∀ l : List PostL, (∀ x ∈ l, x.1 < i) → (l = [] ∨ PWf l i j) → PWf (addP i q l) i (j + 1) := by
    intro l hlt hl
    rw [addP_new i q l (fun x hx e => by have := hlt x hx; omega)]
    have hrise : (l.map (·.1)).Pairwise (· < ·) := by (rcases hl with rfl | p <;> first | exact p.rise | simp)
    have hdoc : ∀ x ∈ l, 0 ≤ x.1 ∧ x.1 ≤ i := by (rcases hl with rfl | p <;> first | exact p.doc | simp)
    have hlong : ∀ x ∈ l, x.2.length ≤ 2001 := by (rcases hl with rfl | p <;> first | exact p.long | simp)
    refine ⟨by simp, ?_, ?_, ?_, ?_⟩
    · rw [List.map_append, List.pairwise_append]
      refine ⟨hrise, by simp, fun a ha b hb => ?_⟩
      obtain ⟨x, hx, rfl⟩ := List.mem_map.1 ha
      simp at hb; subst hb
      exact hlt x hx
    · intro x hx
      rcases List.mem_append.1 hx with hx | hx
      · exact hdoc x hx
      · rw [List.mem_singleton] at hx; subst hx; exact ⟨hi, Int.le_refl _⟩
    · intro x hx
      rcases List.mem_append.1 hx with hx | hx
      · exact hlong x hx
      · rw [List.mem_singleton] at hx; subst hx; simp
    · intro x hx e
      rcases List.mem_append.1 hx with hx | hx
      · have := hlt x hx; omega
      · rw [List.mem_singleton] at hx; subst hx; simp
  rcases h with rfl | p
  · exact new [] (by simp) (.inl rfl)
  · rcases p.parts with ⟨l0, ps, rfl, hlt, hps⟩ | hlt
    · rw [addP_old]
      have hr := p.rise
      refine ⟨by simp, ?_, ?_, ?_, ?_⟩
      · rw [List.map_append] at hr ⊢; exact hr
      · intro x hx
        rcases List.mem_append.1 hx with hx | hx
        · exact p.doc x (List.mem_append_left _ hx)
        · rw [List.mem_singleton] at hx; subst hx; exact ⟨hi, Int.le_refl _⟩
      · intro x hx
        rcases List.mem_append.1 hx with hx | hx
        · exact p.long x (List.mem_append_left _ hx)
        · rw [List.mem_singleton] at hx; subst hx; simp; omega
      · intro x hx e
        rcases List.mem_append.1 hx with hx | hx
        · have := hlt x hx; omega
        · rw [List.mem_singleton] at hx; subst hx; simp; omega
    · exact new l hlt (.inr p)
theorem AWf.add {A : IxA} {i : Int} {j : Nat} (h : AWf A i j) (hi : 0 ≤ i) (hj : j < 2001) (x : Bytes × Nat) (hx : x.1.length ≤ 40) : AWf (addTok i A x) i (j + 1) := by
  refine ⟨?_, ?_, ?_, ?_⟩
  · unfold addTok
    rw [keys_put]
    split
    · exact h.keys
    · rename_i hn
      rw [List.nodup_append]
      exact ⟨h.keys, by simp, fun a ha b hb => by simp at hb; subst hb; exact fun e => hn (e ▸ ha)⟩
  · intro y hy
    have : y.1 ∈ (addTok i A x).map (·.1) := List.mem_map_of_mem hy
    unfold addTok at this
    rw [keys_put] at this
    split at this
    · obtain ⟨z, hz, e⟩ := List.mem_map.1 this; rw [← e]; exact h.small z hz
    · rcases List.mem_append.1 this with this | this
      · obtain ⟨z, hz, e⟩ := List.mem_map.1 this; rw [← e]; exact h.small z hz
      · rw [List.mem_singleton] at this; rw [this]; exact hx
  · have := putM_length x.1 (addP i x.2 ((getM x.1 A).getD [])) A
    have := h.count
    unfold addTok; omega
  · intro t l hl
    unfold addTok at hl
    rw [get_put] at hl
    split at hl
    · cases hl
      refine PWf.add ?_ hi hj x.2
      cases hg : getM x.1 A with
      | none => exact .inl rfl
      | some l => exact .inr (h.posts _ _ hg)
    · exact (h.posts t l hl).more
theorem rise_len (l : List Int) (k i : Int) (hr : l.Pairwise (· < ·)) (h : ∀ x ∈ l, k ≤ x ∧ x ≤ i) (hk : k ≤ i + 1) : (l.length : Int) + k ≤ i + 1 := by
  induction l generalizing k with
  | nil => simp; omega
  | cons a l ih =>
    rw [List.pairwise_cons] at hr
    have ha := h a (List.mem_cons_self ..)
    have := ih (k + 1) hr.2 (fun x hx => by have := hr.1 x hx; have := h x (List.mem_cons_of_mem _ hx); omega) (by omega)
    simp only [List.length_cons]; omega
theorem PWf.length {l : List PostL} {i : Int} {j : Nat} (h : PWf l i j) (hi : 0 ≤ i) : (l.length : Int) ≤ i + 1 := by
  have := rise_len (l.map (·.1)) 0 i h.rise (fun x hx => by obtain ⟨y, hy, rfl⟩ := List.mem_map.1 hx; exact h.doc y hy) (by omega)
  rw [List.length_map] at this; omega
end Go.Proofs.YtcblmcbpnakphaaGreatDoor
end

/- (IxW) segment.index: the postings under way, in memory: what each step of a token leaves. -/
section
namespace Go.Proofs.YtcblmcbpnakphaaGreatDoor
open Go.RowKit
set_option linter.unusedVariables false

abbrev IxV := List (Bytes × (Value × List PostR))
abbrev absM (m : IxV) : IxA := m.map fun e => (e.1, postsOf e.2.2)
abbrev valM (m : IxV) : List (Bytes × Value) := m.map fun e => (e.1, e.2.1)
abbrev rowP (v : Value) (l : List PostR) : RowS := ⟨74, 2, v, l.length, postVs l⟩
abbrev rowI (v : Value) (ps : List Int) : RowS := ⟨3, 1, v, ps.length, intVs ps⟩
def Held (F : KeyX → Option RowS) (t : Bytes) (v : Value) (l : List PostR) : Prop := F (t, none) = some (rowP v l) ∧ ∀ x ∈ l, F (t, some x.1) = some (rowI x.2.1 x.2.2)
structure IxW (W : World) (base mb : Nat) (m : IxV) (F : KeyX → Option RowS) : Prop where
  map : MapS W mb (valM m)
  fam : Fam W base F
  held : ∀ t v l, getM t m = some (v, l) → Held F t v l
/-- a term's postings are out of the map, to be put back -/
structure IxT (W : World) (base mb : Nat) (m : IxV) (F : KeyX → Option RowS) (t : Bytes) (i : Int) (g cap : Nat) (l0 : List PostR) (pv : Value) (ps : List Int) : Prop where
  map : MapS W mb (valM m)
  fam : Fam W base F
  row : F (t, none) = some (rowP (.slice (some ⟨g, 0, none⟩) (l0.length + 1) cap) (l0 ++ [(i, pv, ps)]))
  last : F (t, some i) = some (rowI pv ps)
  init : ∀ x ∈ l0, x.1 ≠ i ∧ F (t, some x.1) = some (rowI x.2.1 x.2.2)
  other : ∀ t' v l, t' ≠ t → getM t' m = some (v, l) → Held F t' v l
theorem getM_abs (t : Bytes) (m : IxV) : getM t (absM m) = (getM t m).map fun e => postsOf e.2 := getM_map (fun e : Value × List PostR => postsOf e.2) t m
theorem getM_val (t : Bytes) (m : IxV) : getM t (valM m) = (getM t m).map fun e => e.1 := getM_map (fun e : Value × List PostR => e.1) t m
theorem putM_abs (t : Bytes) (v : Value × List PostR) (m : IxV) : absM (putM t v m) = putM t (postsOf v.2) (absM m) := putM_map (fun e : Value × List PostR => postsOf e.2) t v m
theorem putM_val (t : Bytes) (v : Value × List PostR) (m : IxV) : valM (putM t v m) = putM t v.1 (valM m) := putM_map (fun e : Value × List PostR => e.1) t v m
theorem IxW.start {W : World} {base mb : Nat} (h : MapS W mb []) : IxW W base mb [] fun _ => none := ⟨h, Fam.empty _ _, fun _ _ _ h => (by cases h)⟩
theorem IxW.q {W W' : World} {base mb : Nat} {m : IxV} {F : KeyX → Option RowS} (h : IxW W base mb m F) (q : Q W W') : IxW W' base mb m F := ⟨h.map.stays q, h.fam.q q, h.held⟩
theorem IxT.q {W W' : World} {base mb : Nat} {m : IxV} {F : KeyX → Option RowS} {t : Bytes} {i : Int} {g cap : Nat} {l0 : List PostR} {pv : Value} {ps : List Int} (h : IxT W base mb m F t i g cap l0 pv ps) (q : Q W W') : IxT W' base mb m F t i g cap l0 pv ps :=
  ⟨h.map.stays q, h.fam.q q, h.row, h.last, h.init, h.other⟩
/-- what is looked up -/
def curOf (m : IxV) (t : Bytes) : Value × List PostR := (getM t m).getD (.slice none 0 0, [])
theorem IxW.cur {W : World} {base mb : Nat} {m : IxV} {F : KeyX → Option RowS} (h : IxW W base mb m F) (t : Bytes) : W.ownsRow base 74 2 (curOf m t).1 (curOf m t).2.length (postVs (curOf m t).2) ∧ (∀ g, (curOf m t).1.ownBlock = some g → ∃ r, F (t, none) = some r ∧ r.v.ownBlock = some g) ∧ (getM t (valM m)).getD (.slice none 0 0) = (curOf m t).1 := by
  unfold curOf
  rw [getM_val]
  cases hg : getM t m with
  | none => exact ⟨World.ownsRow_nil _ _ _ _, fun g hg => by simp [Value.ownBlock] at hg, rfl⟩
  | some e =>
    obtain ⟨v, l⟩ := e
    have := h.held t v l hg
    exact ⟨h.fam.owns _ _ this.1, fun g hg => ⟨_, this.1, hg⟩, rfl⟩
theorem map_no_row {W : World} {base mb : Nat} {e : TypeId} {size : Nat} {v : Value} {n : Nat} {xs : List Value} {m : List (Bytes × Value)} (h : MapS W mb m) (ho : W.ownsRow base e size v n xs) : v.ownBlock ≠ some mb := by
  intro hb
  obtain ⟨cs, hc⟩ := owns_kind ho mb hb
  obtain ⟨es, clock, h1, _⟩ := h
  rw [hc] at h1
  cases h1
theorem MapS.grown {W W' : World} {mb : Nat} {m : List (Bytes × Value)} {row : Option Nat} (h : MapS W mb m) (hg : W.grownBy W' row) (hne : row ≠ some mb) : MapS W' mb m := h.same (hg.block mb h.lt (fun e => hne e.symm))
/-- no posting of the document yet: one is put behind the others -/
theorem IxW.new {W w4 : World} {base mb : Nat} {m : IxV} {F : KeyX → Option RowS} (h : IxW W base mb m F) (t : Bytes) (i : Int) {g cap : Nat} (hlt : ∀ x ∈ (curOf m t).2, x.1 ≠ i)
    (ho : w4.ownsRow base 74 2 (.slice (some ⟨g, 0, none⟩) ((curOf m t).2.length + 1) cap) ((curOf m t).2.length + 1) (postVs (curOf m t).2 ++ [.int .i64 i, .slice none 0 0]))
    (hg : W.grownBy w4 (curOf m t).1.ownBlock) (hat : (curOf m t).1.ownBlock = some g ∨ W.heap.size < g) :
    IxT w4 base mb m (updF (updF F (t, none) (rowP (.slice (some ⟨g, 0, none⟩) ((curOf m t).2.length + 1) cap) ((curOf m t).2 ++ [(i, .slice none 0 0, [])]))) (t, some i) (rowI (.slice none 0 0) [])) t i g cap (curOf m t).2 (.slice none 0 0) [] := by
  obtain ⟨c1, c2, c3⟩ := h.cur t
  have e1 : postVs ((curOf m t).2 ++ [(i, .slice none 0 0, [])]) = postVs (curOf m t).2 ++ [.int .i64 i, .slice none 0 0] := by simp [postVs]
  have hl : ((curOf m t).2 ++ [((i, .slice none 0 0, []) : PostR)]).length = (curOf m t).2.length + 1 := by simp
  have f1 : Fam w4 base (updF F (t, none) (rowP (.slice (some ⟨g, 0, none⟩) ((curOf m t).2.length + 1) cap) ((curOf m t).2 ++ [(i, .slice none 0 0, [])]))) := by
    refine h.fam.put hg c2 _ ?_ (fun k hk => ?_)
    · show w4.ownsRow base _ 2 (.slice (some ⟨g, 0, none⟩) ((curOf m t).2.length + 1) cap) ((curOf m t).2 ++ [((i, .slice none 0 0, []) : PostR)]).length (postVs ((curOf m t).2 ++ [((i, .slice none 0 0, []) : PostR)]))
      rw [e1, hl]; exact ho
    · simp only [Value.ownBlock, Option.some.injEq] at hk
      subst hk
      exact hat.imp id (fun h => by omega)
  have f2 : Fam w4 base (updF (updF F (t, none) (rowP (.slice (some ⟨g, 0, none⟩) ((curOf m t).2.length + 1) cap) ((curOf m t).2 ++ [(i, .slice none 0 0, [])]))) (t, some i) (rowI (.slice none 0 0) [])) :=
    f1.put (row := none) (World.grownBy.mk rfl rfl rfl (Nat.le_refl _) (fun _ _ _ => rfl)) (fun g h => by cases h) _ (World.ownsRow_nil _ _ _ _) (fun k hk => by simp [Value.ownBlock] at hk)
  refine ⟨h.map.grown hg (map_no_row h.map c1), f2, ?_, updF_same _ _ _, fun x hx => ⟨hlt x hx, ?_⟩, fun t' v l hne hgm => ?_⟩
  · rw [updF_other (by simp), updF_same]
  · rw [updF_other (by simp; exact hlt x hx), updF_other (by simp)]
    unfold curOf at hx
    cases hgm : getM t m with
    | none => rw [hgm] at hx; simp at hx
    | some e => rw [hgm] at hx; exact (h.held t e.1 e.2 hgm).2 x hx
  · have := h.held t' v l hgm
    refine ⟨?_, fun x hx => ?_⟩
    · rw [updF_other (by simp), updF_other (by simp; exact hne)]; exact this.1
    · rw [updF_other (by simp; exact fun h => absurd h hne), updF_other (by simp)]; exact this.2 x hx
/-- a posting of the document is there -/
theorem IxW.old {W : World} {base mb : Nat} {m : IxV} {F : KeyX → Option RowS} (h : IxW W base mb m F) (t : Bytes) (i : Int) {l0 : List PostR} {pv : Value} {ps : List Int} (hc : (curOf m t).2 = l0 ++ [(i, pv, ps)]) (hlt : ∀ x ∈ l0, x.1 ≠ i) :
    ∃ g cap, (curOf m t).1 = .slice (some ⟨g, 0, none⟩) (l0.length + 1) cap ∧ IxT W base mb m F t i g cap l0 pv ps := by
  obtain ⟨c1, _, _⟩ := h.cur t
  rw [hc] at c1
  obtain ⟨g, cap, hv⟩ := ownsRow_succ (k := l0.length) (by simpa using c1)
  refine ⟨g, cap, hv, h.map, h.fam, ?_, ?_, ?_, fun t' v l _ hgm => h.held t' v l hgm⟩
  all_goals
    unfold curOf at hc hv
    cases hgm : getM t m with
    | none => rw [hgm] at hc; simp at hc
    | some e =>
      obtain ⟨v, l⟩ := e
      rw [hgm] at hc hv
      simp only [Option.getD_some] at hc hv
      have := h.held t v l hgm
      rw [hc, hv] at this
      first
      | exact this.1
      | exact this.2 (i, pv, ps) (by simp)
      | exact fun x hx => ⟨hlt x hx, this.2 x (List.mem_append_left _ hx)⟩
theorem postVs_snoc_set (l0 : List PostR) (i : Int) (pv pv' : Value) (ps ps' : List Int) : (postVs (l0 ++ [(i, pv, ps)])).set (l0.length * 2 + 1) pv' = postVs (l0 ++ [(i, pv', ps')]) := by
  have h : (postVs l0).length = l0.length * 2 := by
    induction l0 with
    | nil => rfl
    | cons x l ih => simp [postVs] at ih ⊢; omega
  have e : ∀ (p : PostR), postVs (l0 ++ [p]) = postVs l0 ++ [.int .i64 p.1, p.2.1] := by intro p; simp [postVs]
  rw [e, e, List.set_append_right _ _ (by omega), h]
  rw [show l0.length * 2 + 1 - l0.length * 2 = 1 by omega]
  rfl
/-- the place is behind the posting's others -/
theorem IxT.place {W wa : World} {base mb : Nat} {m : IxV} {F : KeyX → Option RowS} {t : Bytes} {i : Int} {g cap : Nat} {l0 : List PostR} {pv : Value} {ps : List Int} (h : IxT W base mb m F t i g cap l0 pv ps) (q : Int) {g2 cap2 : Nat}
    (ho : wa.ownsRow base 3 1 (.slice (some ⟨g2, 0, none⟩) (ps.length + 1) cap2) (ps.length + 1) (intVs (ps ++ [q]))) (hg : W.grownBy wa pv.ownBlock) (hat : pv.ownBlock = some g2 ∨ W.heap.size < g2) :
    ∃ F', IxT (wa.setCell ⟨g, l0.length * 2 + 1, none⟩ (.slice (some ⟨g2, 0, none⟩) (ps.length + 1) cap2)) base mb m F' t i g cap l0 (.slice (some ⟨g2, 0, none⟩) (ps.length + 1) cap2) (ps ++ [q]) := by
  have hl : (ps ++ [q]).length = ps.length + 1 := by simp
  have f1 : Fam wa base (updF F (t, some i) (rowI (.slice (some ⟨g2, 0, none⟩) (ps.length + 1) cap2) (ps ++ [q]))) := by
    refine h.fam.put hg (fun k hk => ⟨_, h.last, hk⟩) _ ?_ (fun k hk => ?_)
    · show wa.ownsRow base _ 1 (.slice (some ⟨g2, 0, none⟩) (ps.length + 1) cap2) (ps ++ [q]).length (intVs (ps ++ [q]))
      rw [hl]; exact ho
    · simp only [Value.ownBlock, Option.some.injEq] at hk
      subst hk
      exact hat.imp id (fun h => by omega)
  have hrow1 : updF F (t, some i) (rowI (.slice (some ⟨g2, 0, none⟩) (ps.length + 1) cap2) (ps ++ [q])) (t, none) = some (rowP (.slice (some ⟨g, 0, none⟩) (l0.length + 1) cap) (l0 ++ [(i, pv, ps)])) := by
    rw [updF_other (by simp)]; exact h.row
  have o1 := f1.owns _ _ hrow1
  have hl1 : ∀ pv ps, (l0 ++ [((i, pv, ps) : PostR)]).length = l0.length + 1 := by intro pv ps; simp
  have o1' : wa.ownsRow base 74 2 (.slice (some ⟨g, 0, none⟩) (l0.length + 1) cap) (l0.length + 1) (postVs (l0 ++ [(i, pv, ps)])) := by
    have h : wa.ownsRow base 74 2 (.slice (some ⟨g, 0, none⟩) (l0.length + 1) cap) (l0 ++ [((i, pv, ps) : PostR)]).length (postVs (l0 ++ [(i, pv, ps)])) := o1
    rw [hl1] at h; exact h
  have hlen : (postVs (l0 ++ [(i, pv, ps)])).length = (l0.length + 1) * 2 := by
    exact o1'.1
  have o2 := owns_setAt (n := l0.length + 1) o1' (l0.length * 2 + 1) (by rw [hlen]; omega) (.slice (some ⟨g2, 0, none⟩) (ps.length + 1) cap2)
  rw [postVs_snoc_set l0 i pv _ ps (ps ++ [q])] at o2
  have f2 := f1.put (κ := (t, none)) (grownBy_setCellAt wa g (l0.length * 2 + 1) (.slice (some ⟨g2, 0, none⟩) (ps.length + 1) cap2)) (fun k hk => ⟨_, hrow1, by simpa [Value.ownBlock] using hk⟩)
    (rowP (.slice (some ⟨g, 0, none⟩) (l0.length + 1) cap) (l0 ++ [(i, .slice (some ⟨g2, 0, none⟩) (ps.length + 1) cap2, ps ++ [q])])) (by show World.ownsRow _ _ _ 2 (.slice (some ⟨g, 0, none⟩) (l0.length + 1) cap) (l0 ++ [((i, _, ps ++ [q]) : PostR)]).length _; rw [hl1]; exact o2) (fun k hk => .inl (by simpa [Value.ownBlock] using hk))
  have hmap : MapS (wa.setCell ⟨g, l0.length * 2 + 1, none⟩ (.slice (some ⟨g2, 0, none⟩) (ps.length + 1) cap2)) mb (valM m) := by
    have m1 := h.map.grown hg (map_no_row h.map (h.fam.owns _ _ h.last))
    have hne := map_no_row m1 o1
    exact m1.grown (grownBy_setCellAt _ _ _ _) (by simpa [Value.ownBlock] using hne)
  refine ⟨_, hmap, f2, updF_same _ _ _, ?_, fun x hx => ⟨(h.init x hx).1, ?_⟩, fun t' v l hne hgm => ?_⟩
  · rw [updF_other (by simp), updF_same]
  · rw [updF_other (by simp), updF_other (by simp; exact (h.init x hx).1)]; exact (h.init x hx).2
  · have := h.other t' v l hne hgm
    refine ⟨?_, fun x hx => ?_⟩
    · rw [updF_other (by simp; exact hne), updF_other (by simp)]; exact this.1
    · rw [updF_other (by simp), updF_other (by simp; exact fun h => absurd h hne)]; exact this.2 x hx
/-- the term's postings are back in the map -/
theorem IxT.put {W w' : World} {base mb : Nat} {m : IxV} {F : KeyX → Option RowS} {t : Bytes} {i : Int} {g cap : Nat} {l0 : List PostR} {pv : Value} {ps : List Int} (h : IxT W base mb m F t i g cap l0 pv ps)
    (hm : MapS w' mb (putM t (.slice (some ⟨g, 0, none⟩) (l0.length + 1) cap) (valM m))) (hg : W.grownBy w' (some mb)) :
    IxW w' base mb (putM t (.slice (some ⟨g, 0, none⟩) (l0.length + 1) cap, l0 ++ [(i, pv, ps)]) m) F := by
  refine ⟨by rw [putM_val]; exact hm, h.fam.kept hg (fun k hk κ r hr => by cases hk; exact map_no_row h.map (h.fam.owns κ r hr)), fun t' v l hgm => ?_⟩
  rw [get_put] at hgm
  split at hgm
  · rename_i e; subst e
    cases hgm
    refine ⟨h.row, fun x hx => ?_⟩
    rcases List.mem_append.1 hx with hx | hx
    · exact (h.init x hx).2
    · rw [List.mem_singleton] at hx; subst hx; exact h.last
  · rename_i hne
    exact h.other t' v l (fun e => hne e.symm) hgm
end Go.Proofs.YtcblmcbpnakphaaGreatDoor
end

/- (Maps2) From a map of strings to the kit's words for maps: for 'slices.Sorted(maps.Keys(m))'. Over any program. -/
section
namespace Go.Proofs.YtcblmcbpnakphaaGreatDoor
open Go.RowKit Go.MapKept Go.Maps Go.Sort Go.WideShapes Go.WideMaps
set_option linter.unusedVariables false

abbrev noR : Value → Option (DataW Unit × List MemPlace) := fun _ => some (.nil, [])
theorem MapS.owns {P : Program} {w : World} {b : Nat} {m : List (List UInt8 × Value)} (h : MapS w b m) (k : TypeId) (hk : P.underlying k = some .string) (hlen : m.length ≤ maxLen) (hkeys : ∀ x ∈ m, x.1.length ≤ maxLen) :
    ∃ D : DataW Unit, w.ownsMap P k noR b m.length D ∧ Maps.size D = m.length ∧ (strKeys D).Perm (m.map (·.1)) := by
  obtain ⟨es, clock, hb, hs, he⟩ := h
  have hsz : es.size = m.length := by have := congrArg List.length he; simpa using this
  have hrd : ∀ x ∈ es.toList, ∃ y ∈ m, WideElems.rd P k noR x = some (.string y.1, .nil) := by
    intro x hx
    have h1 : kvE x ∈ es.toList.map kvE := List.mem_map_of_mem hx
    rw [he] at h1
    obtain ⟨y, hy, e⟩ := List.mem_map.1 h1
    refine ⟨y, hy, ?_⟩
    have hkey : x.key = strV y.1 := (congrArg Prod.fst e).symm
    unfold WideElems.rd
    rw [hkey, keyOf_string_mk hk (by show y.1.toArray.size ≤ maxLen; simpa using hkeys y hy)]
    rfl
  have hmap : es.toList.map (WideElems.rg P k noR) = m.map (fun x => ((.string x.1 : Lit), (.nil : DataW Unit))) := by
    apply List.ext_getElem?
    intro i
    have hi := congrArg (fun l => l[i]?) he
    simp only [List.getElem?_map] at hi ⊢
    cases hx : es.toList[i]? with
    | none =>
      rw [hx] at hi
      cases hm : m[i]? with
      | none => rfl
      | some y => rw [hm] at hi; simp at hi
    | some x =>
      rw [hx] at hi
      cases hm : m[i]? with
      | none => rw [hm] at hi; simp at hi
      | some y =>
        rw [hm] at hi
        simp only [Option.map_some, Option.some.injEq] at hi ⊢
        have hkey : x.key = strV y.1 := congrArg Prod.fst hi
        unfold WideElems.rg WideElems.rd
        rw [hkey, keyOf_string_mk hk (by show y.1.toArray.size ≤ maxLen; simpa using hkeys y (List.mem_of_getElem? hm))]
        rfl
  refine ⟨.map ((es.toList.map (WideElems.rg P k noR)).foldr DataW.insert []), ⟨es, clock, hb, ⟨by omega, hs, fun x hx => ?_⟩, by omega, rfl⟩, ?_, ?_⟩
  · obtain ⟨y, _, h⟩ := hrd x hx
    exact ⟨_, h⟩
  · rw [size_eq, (sorted_perm _).length_eq, hmap, List.length_map]
  · have := (sorted_perm (es.toList.map (WideElems.rg P k noR))).map (fun p => strOf p.1)
    rw [hmap] at this ⊢
    unfold strKeys
    refine this.trans ?_
    rw [List.map_map]
    exact List.Perm.of_eq (List.map_congr_left fun x _ => rfl)
/-- Go's order of texts -/
abbrev leL (x y : List UInt8) : Bool := decide (x ≤ y)
def sortL (l : List (List UInt8)) : List (List UInt8) := l.mergeSort leL
theorem sortL_perm {l l' : List (List UInt8)} (h : l.Perm l') : sortL l = sortL l' := mergeSort_of_perm h
end Go.Proofs.YtcblmcbpnakphaaGreatDoor
end
