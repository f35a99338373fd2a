/- Joined texts of one proof: BitC, IdxEq, WApply0. -/
import Derived.Test.YtepofekepagfhaaGreatDoorProg
import Derived.Test.YtepofekepagfhaaGreatDoorMMapsToBase3
import Derived.WalkKit
import Derived.WalkSpells
import Derived.WalkLawsBesides
import Derived.Outline
import Derived.Test.YtepofekepagfhaaGreatDoorMIx2ToWDictPR
import Derived.Test.YtepofekepagfhaaGreatDoorMLive
import Derived.Test.YtepofekepagfhaaGreatDoorMWLiveQToWLiveC
set_option linter.unusedSimpArgs false
set_option linter.unusedVariables false
set_option linter.unnecessarySimpa false
/- (BitC) trial -/
section
namespace Go.Proofs.YtepofekepagfhaaGreatDoor
open Go.RowKit
set_option linter.unusedVariables false

/-- what a round of 'Set' does to the row -/
theorem set_rel_on {w0 wr : World} {B : Nat} {l m : List UInt8} (s k x : Nat) (hr : ByteRow wr B m) (hm : setTo l s true k = m) (hx : x < 256) (hv : (m.getD ((s + k) / 8) 0).toNat = x) :
    ByteRow ((wr.setCell ⟨B, (s + k) / 8, none⟩ (.int .u8 (bits BinOp.andNot .u8 x (2 ^ ((s + k) % 8) % 256)))).setCell ⟨B, (s + k) / 8, none⟩
      (.int .u8 (bits BinOp.or .u8 (bits BinOp.andNot .u8 x (2 ^ ((s + k) % 8) % 256)) (2 ^ ((s + k) % 8) % 256)))) B (setTo l s true (k + 1)) := by
  have hk : (s + k) % 8 < 8 := Nat.mod_lt _ (by omega)
  rw [walk_turn x _ hx hk, walk_clear x _ hx hk]
  have h1 := hr.set ((s + k) / 8) _ (UInt8.ofNat (byteSet x ((s + k) % 8) false)) (ofNat_toNat _ (byteSet_lt _ _ _ hx hk)).symm
  have h2 := h1.set ((s + k) / 8) _ (UInt8.ofNat (byteSet x ((s + k) % 8) true)) (ofNat_toNat _ (byteSet_lt _ _ _ hx hk)).symm
  rw [set_set] at h2
  rw [setTo, hm, setBit, hv]
  exact h2
theorem set_rel_off {w0 wr : World} {B : Nat} {l m : List UInt8} (s k x : Nat) (hr : ByteRow wr B m) (hm : setTo l s false k = m) (hx : x < 256) (hv : (m.getD ((s + k) / 8) 0).toNat = x) :
    ByteRow (wr.setCell ⟨B, (s + k) / 8, none⟩ (.int .u8 (bits BinOp.andNot .u8 x (2 ^ ((s + k) % 8) % 256)))) B (setTo l s false (k + 1)) := by
  have hk : (s + k) % 8 < 8 := Nat.mod_lt _ (by omega)
  rw [walk_clear x _ hx hk]
  have h1 := hr.set ((s + k) / 8) _ (UInt8.ofNat (byteSet x ((s + k) % 8) false)) (ofNat_toNat _ (byteSet_lt _ _ _ hx hk)).symm
  rw [setTo, hm, setBit, hv]
  exact h1

set_option maxHeartbeats 400000 in
theorem set_ok (l : List UInt8) (s c : Nat) (on : Bool) (w : World) (hs : l.length ≤ 9223372036854775807 / 8) (h2 : c + s ≤ 8 * l.length) :
    Calls Tryz.prog 61 #[.string ⟨l.toArray⟩, .int .i64 s, .int .i64 c, .bool on] w fun e w' => e = .returned (.tuple #[.string ⟨(setTo l s on c).toArray⟩, .bool true]) ∧ Below w.heap.size w w' := by
  have kc := fun (w : World) (s : ByteArray) => run_bytes_of_string (P := Tryz.prog) w 9 68 5 s Tryz.underlying9 Tryz.underlying68 Tryz.underlying5
  have H1 : ¬ (8 * (l.length : Int)) < s := by omega
  have H2 : ¬ (8 * (l.length : Int) - s) < c := by omega
  go_enter Tryz.func61, Tryz.ntmps61
  go_wp2
  go_loopw [38] (fun i wr => ∃ k : Nat, k ≤ c ∧ i = .int .i64 k ∧ Below w.heap.size w wr ∧ ByteRow wr w.heap.size (setTo l s on k)) (fun i _ => c - (intOf i).toNat)
  case atStart => exact ⟨0, by omega, rfl, (Below.refl _ _).alloc (Nat.le_refl _) _ |>.drew, ByteRow.made _ _ _ _⟩
  case round =>
    obtain ⟨k, hk, rfl, hb, hr⟩ := hrel
    have hl := length_setTo l s on k
    generalize hm : setTo l s on k = m at *
    have HL := Lib.hid hl; clear hl
    have HM := Lib.hid hm; clear hm
    by_cases hlt : k < c
    · have hi2 : (s + k) / 8 < l.length := by omega
      obtain ⟨x, hx, HV, hc, hf⟩ := hr.at ((s + k) / 8) (by rw [HL.out]; omega)
      have HR := Lib.hid hr; clear hr
      have HB := Lib.hid hb; clear hb
      cases on
      · go_wp2
        go_region
        go_wp2
        refine ⟨⟨k + 1, by omega, by go_num, ((HB.out.setCell (Nat.le_refl _) _).drew), ?_⟩, by simp [intOf]; omega⟩
        exact set_rel_off (w0 := w) s k x HR.out HM.out hx HV.out
      · go_wp2
        go_region
        go_wp2
        go_region
        go_wp2
        refine ⟨⟨k + 1, by omega, by go_num, (((HB.out.setCell (Nat.le_refl _) _).setCell (Nat.le_refl _) _).drew).drew, ?_⟩, by simp [intOf]; omega⟩
        exact set_rel_on (w0 := w) s k x HR.out HM.out hx HV.out
    · have hk2 : k = c := by omega
      have hkc := hr.back (P := Tryz.prog) 68 9 5 (grownCap w l.length 0 5) Tryz.underlying68 Tryz.underlying5 Tryz.underlying9
      rw [HL.out] at hkc
      have HR := Lib.hid hr; clear hr
      have HB := Lib.hid hb; clear hb
      have HK := Lib.hid hk2; clear hk2
      go_wp2
      go_ret2
      exact ⟨by rw [← HK.out, HM.out]; rfl, HB.out⟩
end Go.Proofs.YtepofekepagfhaaGreatDoor
end

/- (IdxEq) Plain: the index that is walked is that of the document (idxS = idxL). -/
section
namespace Go.Proofs.YtepofekepagfhaaGreatDoor
set_option linter.unusedVariables false

theorem snoc_ind {α : Type} {P : List α → Prop} (h0 : P []) (h1 : ∀ l a, P l → P (l ++ [a])) (l : List α) : P l := by
  have : ∀ n (l : List α), l.length = n → P l := by
    intro n
    induction n with
    | zero => intro l hl; rw [List.eq_nil_of_length_eq_zero hl]; exact h0
    | succ n ih =>
      intro l hl
      have hne : l ≠ [] := by intro e; simp [e] at hl
      rw [← List.dropLast_concat_getLast hne]
      exact h1 _ _ (ih _ (by simp; omega))
  exact this _ l rfl
def placesOf (ts : List (Bytes × Nat)) (t : Bytes) : List Int := ts.filterMap fun x => if x.1 = t then some (x.2 : Int) else none
theorem placesOf_snoc (ts : List (Bytes × Nat)) (x : Bytes × Nat) (t : Bytes) : placesOf (ts ++ [x]) t = placesOf ts t ++ (if x.1 = t then [(x.2 : Int)] else []) := by
  unfold placesOf
  rw [List.filterMap_append]
  by_cases h : x.1 = t <;> simp [h]
theorem get_foldTok (i : Int) (t : Bytes) (A : IxA) (hlt : ∀ l, getM t A = some l → ∀ x ∈ l, x.1 ≠ i) (ts : List (Bytes × Nat)) :
    getM t (ts.foldl (addTok i) A) = if placesOf ts t = [] then getM t A else some ((getM t A).getD [] ++ [(i, placesOf ts t)]) := by
  induction ts using snoc_ind with
  | h0 => simp [placesOf]
  | h1 ts x ih =>
    rw [List.foldl_append, List.foldl_cons, List.foldl_nil, placesOf_snoc]
    rw [show addTok i (ts.foldl (addTok i) A) x = putM x.1 (addP i x.2 ((getM x.1 (ts.foldl (addTok i) A)).getD [])) (ts.foldl (addTok i) A) from rfl, get_put]
    by_cases hx : x.1 = t
    · rw [if_pos hx, if_pos hx, hx, ih]
      have hne : ∀ y ∈ (getM t A).getD [], y.1 ≠ i := by
        intro y hy
        cases hg : getM t A with
        | none => rw [hg] at hy; simp at hy
        | some l => rw [hg] at hy; exact hlt l hg y hy
      by_cases hp : placesOf ts t = []
      · rw [if_pos hp, hp, addP_new i _ _ hne]; simp
      · rw [if_neg hp]
        simp only [Option.getD_some]
        rw [addP_old]; simp
    · rw [if_neg hx, if_neg hx, List.append_nil]; exact ih
theorem postsF_snoc (t : Bytes) (l : List DocL) (d : DocL) (i : Nat) : postsF t (l ++ [d]) i = postsF t l i ++ (if placesIn d.2 t = [] then [] else [(((i + l.length : Nat) : Int), placesIn d.2 t)]) := by
  induction l generalizing i with
  | nil => simp [postsF]
  | cons a l ih =>
    rw [List.cons_append, postsF, postsF, ih, List.length_cons, show i + 1 + l.length = i + (l.length + 1) by omega]
    by_cases h : placesIn a.2 t = []
    · rw [if_pos h, if_pos h]
    · rw [if_neg h, if_neg h, List.cons_append]
theorem postsF_docs (t : Bytes) (l : List DocL) (i : Nat) : ∀ x ∈ postsF t l i, (i : Int) ≤ x.1 ∧ x.1 < ((i + l.length : Nat) : Int) := by
  induction l generalizing i with
  | nil => simp [postsF]
  | cons a l ih =>
    intro x hx
    rw [postsF] at hx
    rw [List.length_cons]
    split at hx
    · have := ih (i + 1) x hx; omega
    · rcases List.mem_cons.1 hx with rfl | hx
      · simp only; omega
      · have := ih (i + 1) x hx; omega
theorem get_ixTo (l : List DocL) (t : Bytes) (k : Nat) (hk : k ≤ l.length) : getM t (ixTo l k) = if postsF t (l.take k) 0 = [] then none else some (postsF t (l.take k) 0) := by
  induction k with
  | zero => simp [ixTo, ixF, getM, postsF]
  | succ k ih =>
    have hlt : k < l.length := by omega
    have ih := ih (by omega)
    have hd : ∀ x ∈ postsF t (l.take k) 0, x.1 < (k : Int) := by
      intro x hx
      have := (postsF_docs t (l.take k) 0 x hx).2
      rw [List.length_take, Nat.min_eq_left (by omega)] at this
      omega
    rw [ixTo_succ l k hlt]
    unfold ixIn
    rw [List.take_length, get_foldTok (k : Nat) t (ixTo l k) (fun m hm x hx => by
      rw [ih] at hm
      split at hm
      · cases hm
      · cases hm; have := hd x hx; omega), ih, List.take_succ_eq_append_getElem hlt, postsF_snoc, List.length_take, Nat.min_eq_left (by omega), Nat.zero_add]
    have he : placesOf (tokensL l[k].2) t = placesIn l[k].2 t := rfl
    rw [he]
    by_cases hp : placesIn l[k].2 t = []
    · rw [if_pos hp, if_pos hp, List.append_nil]
    · rw [if_neg hp, if_neg hp, if_neg (show ¬ (postsF t (l.take k) 0 ++ [((k : Int), placesIn l[k].2 t)] = []) by simp)]
      by_cases hq : postsF t (l.take k) 0 = []
      · rw [if_pos hq, hq]; rfl
      · rw [if_neg hq]; rfl
theorem get_ixAll (l : List DocL) (t : Bytes) : (getM t (ixAll l)).getD [] = postsF t l 0 := by
  unfold ixAll
  rw [get_ixTo l t l.length (Nat.le_refl _), List.take_length]
  by_cases h : postsF t l 0 = []
  · rw [if_pos h, h]; rfl
  · rw [if_neg h]; rfl
theorem places_some (s t : Bytes) : placesIn s t ≠ [] ↔ t ∈ (tokensL s).map (·.1) := by
  unfold placesIn
  rw [ne_eq, List.filterMap_eq_nil_iff]
  simp only [List.mem_map]
  constructor
  · intro h
    apply Classical.byContradiction
    intro hn
    exact h (fun x hx => by rw [if_neg (fun e => hn ⟨x, hx, e⟩)])
  · rintro ⟨x, hx, e⟩ h
    have := h x hx
    rw [if_pos e] at this
    cases this
theorem posts_some (t : Bytes) (l : List DocL) (i : Nat) : postsF t l i ≠ [] ↔ t ∈ l.flatMap fun d => (tokensL d.2).map (·.1) := by
  induction l generalizing i with
  | nil => simp [postsF]
  | cons a l ih =>
    rw [postsF, List.flatMap_cons, List.mem_append, ← places_some, ← ih (i + 1)]
    by_cases h : placesIn a.2 t = []
    · rw [if_pos h]; simp [h]
    · rw [if_neg h]; simp [h]
theorem keys_ixAll (l : List DocL) (t : Bytes) : t ∈ (ixAll l).map (·.1) ↔ t ∈ l.flatMap fun d => (tokensL d.2).map (·.1) := by
  have h := getM_some t (ixAll l)
  rw [← posts_some t l 0]
  unfold ixAll at h ⊢
  rw [get_ixTo l t l.length (Nat.le_refl _), List.take_length] at h
  by_cases hp : postsF t l 0 = []
  · rw [if_pos hp] at h
    have : ¬ t ∈ (ixTo l l.length).map (·.1) := fun e => by rw [decide_eq_true e] at h; cases h
    simp only [this, hp, ne_eq, not_true]
  · rw [if_neg hp] at h
    have : t ∈ (ixTo l l.length).map (·.1) := of_decide_eq_true h.symm
    simp only [this, hp, ne_eq, not_false_eq_true]
theorem nodup_put {α : Type} (k : Bytes) (v : α) (m : List (Bytes × α)) (h : (m.map (·.1)).Nodup) : ((putM k v m).map (·.1)).Nodup := by
  rw [keys_put]
  split
  · exact h
  · rename_i hn
    rw [List.nodup_append]
    exact ⟨h, by simp, fun a ha b hb => by simp at hb; subst hb; exact fun e => hn (e ▸ ha)⟩
theorem nodup_foldTok (i : Int) (ts : List (Bytes × Nat)) (A : IxA) (h : (A.map (·.1)).Nodup) : ((ts.foldl (addTok i) A).map (·.1)).Nodup := by
  induction ts generalizing A with
  | nil => exact h
  | cons x ts ih => exact ih _ (nodup_put _ _ _ h)
theorem nodup_ixAll (l : List DocL) : ((ixAll l).map (·.1)).Nodup := by
  unfold ixAll
  have : ∀ k, k ≤ l.length → ((ixTo l k).map (·.1)).Nodup := by
    intro k
    induction k with
    | zero => intro _; simp [ixTo, ixF]
    | succ k ih =>
      intro hk
      rw [ixTo_succ l k (by omega)]
      exact nodup_foldTok _ _ _ (ih (by omega))
  exact this _ (Nat.le_refl _)
/-! ### the order of texts -/
theorem lessL_iff (a b : Bytes) : lessL a b = true ↔ a < b := by
  induction a generalizing b with
  | nil => cases b <;> simp [lessL]
  | cons x a ih =>
    cases b with
    | nil => simp [lessL]
    | cons y b =>
      rw [lessL, List.cons_lt_cons_iff]
      by_cases h : x = y
      · subst h
        rw [if_pos rfl, ih]
        constructor
        · exact fun h => .inr ⟨rfl, h⟩
        · rintro (h | ⟨_, h⟩)
          · exact absurd h (UInt8.lt_irrefl _)
          · exact h
      · rw [if_neg h, decide_eq_true_eq, ← UInt8.lt_iff_toNat_lt]
        exact ⟨.inl, fun h' => h'.elim id (fun e => absurd e.1 h)⟩
theorem mem_putL (t : Bytes) (l : List Bytes) (x : Bytes) : x ∈ putL t l ↔ x = t ∨ x ∈ l := by
  induction l with
  | nil => simp [putL]
  | cons y l ih =>
    rw [putL]
    split
    · rename_i h
      subst h
      simp
    · split
      · simp
      · simp only [List.mem_cons, ih]
        constructor
        · rintro (h | h | h)
          · exact .inr (.inl h)
          · exact .inl h
          · exact .inr (.inr h)
        · rintro (h | h | h)
          · exact .inr (.inl h)
          · exact .inl h
          · exact .inr (.inr h)
theorem less_total {a b : Bytes} (h : ¬ a < b) (hne : a ≠ b) : b < a := by
  have h1 : b ≤ a := List.not_lt.1 h
  rcases List.le_iff_lt_or_eq.1 h1 with h2 | h2
  · exact h2
  · exact absurd h2.symm hne
theorem putL_rise (t : Bytes) (l : List Bytes) (h : l.Pairwise (· < ·)) : (putL t l).Pairwise (· < ·) := by
  induction l with
  | nil => simp [putL]
  | cons y l ih =>
    rw [List.pairwise_cons] at h
    rw [putL]
    split
    · exact List.pairwise_cons.2 h
    · rename_i hne
      split
      · rename_i hl
        have hl := (lessL_iff _ _).1 hl
        refine List.pairwise_cons.2 ⟨fun z hz => ?_, List.pairwise_cons.2 h⟩
        rcases List.mem_cons.1 hz with rfl | hz
        · exact hl
        · exact List.lt_trans hl (h.1 z hz)
      · rename_i hl
        refine List.pairwise_cons.2 ⟨fun z hz => ?_, ih h.2⟩
        rcases (mem_putL _ _ _).1 hz with rfl | hz
        · exact less_total (fun e => hl ((lessL_iff _ _).2 e)) (fun e => hne e.symm)
        · exact h.1 z hz
theorem foldPutL_rise (ts l : List Bytes) (h : l.Pairwise (· < ·)) : (ts.foldl (fun a t => putL t a) l).Pairwise (· < ·) := by
  induction ts generalizing l with
  | nil => exact h
  | cons t ts ih => exact ih _ (putL_rise t l h)
theorem mem_foldPutL (ts l : List Bytes) (x : Bytes) : x ∈ ts.foldl (fun a t => putL t a) l ↔ x ∈ ts ∨ x ∈ l := by
  induction ts generalizing l with
  | nil => simp
  | cons t ts ih =>
    rw [List.foldl_cons, ih, mem_putL, List.mem_cons]
    constructor
    · rintro (h | h | h)
      · exact .inl (.inr h)
      · exact .inl (.inl h)
      · exact .inr h
    · rintro ((h | h) | h)
      · exact .inr (.inl h)
      · exact .inl h
      · exact .inr (.inr h)
theorem rise_ext (a b : List Bytes) (ha : a.Pairwise (· < ·)) (hb : b.Pairwise (· < ·)) (h : ∀ x, x ∈ a ↔ x ∈ b) : a = b := by
  have na : a.Nodup := ha.imp (fun h e => by subst e; exact List.lt_irrefl _ h)
  have nb : b.Nodup := hb.imp (fun h e => by subst e; exact List.lt_irrefl _ h)
  have hp : a.Perm b := (List.perm_ext_iff_of_nodup na nb).2 h
  exact List.Perm.eq_of_pairwise (le := fun x y => x < y) (fun x y _ _ h1 h2 => absurd h2 (List.lt_asymm h1)) ha hb hp
theorem sortL_rise (l : List Bytes) (h : l.Nodup) : (sortL l).Pairwise (· < ·) := by
  have h1 : (sortL l).Pairwise (fun x y => leB x y = true) := List.pairwise_mergeSort leB_trans leB_total l
  have h2 : (sortL l).Nodup := (List.mergeSort_perm l leL).nodup_iff.2 h
  refine (h1.and h2).imp fun {x y} hxy => ?_
  have h3 : x ≤ y := by simpa [leB] using hxy.1
  rcases List.le_iff_lt_or_eq.1 h3 with h4 | h4
  · exact h4
  · exact absurd h4 hxy.2
theorem terms_eq (l : List DocL) : sortL ((ixAll l).map (·.1)) = termsL l := by
  refine rise_ext _ _ (sortL_rise _ (nodup_ixAll l)) (foldPutL_rise _ _ List.Pairwise.nil) (fun x => ?_)
  unfold termsL
  rw [mem_foldPutL]
  unfold sortL
  rw [List.mem_mergeSort, keys_ixAll]
  simp
theorem idx_eq (l : List DocL) : idxS l = idxL l := by
  unfold idxS idxL
  rw [terms_eq]
  congr 1
  refine List.map_congr_left fun t _ => ?_
  unfold entS
  rw [get_ixAll]
end Go.Proofs.YtepofekepagfhaaGreatDoor
end

/- (WApply0) live.Apply: what its loops keep. -/
section
namespace Go.Proofs.YtepofekepagfhaaGreatDoor
open Go.RowKit
set_option linter.unusedVariables false

/-- the blocks of parts' segments -/
def SegsAt (w : World) (segs : List Nat) (ps : List PartL) : Prop := ∀ (i : Nat) (p : Nat) (q : PartL), segs[i]? = some p → ps[i]? = some q → SegAt w p q.1 (idxS q.1)
abbrev rowPs (segs : List Nat) (gs : List Bytes) : List Value := partVs (segs.zip gs)
theorem SegsAt.stays {w w' : World} {segs : List Nat} {ps : List PartL} (h : SegsAt w segs ps) (q : Q w w') : SegsAt w' segs ps := fun i p x hp hx => (h i p x hp hx).stays q
theorem zip_parts (rs : List PartR) (ps : List PartL) (h : rs.map (·.2) = ps.map (·.2)) : rs = (rs.map (·.1)).zip (ps.map (·.2)) := by
  rw [← h, List.zip_map']
  simp
theorem PartsAt.segs {w : World} {v : Value} {ps : List PartL} (h : PartsAt w v ps) :
    ∃ segs : List Nat, segs.length = ps.length ∧ SegsAt w segs ps ∧ Sl w v ps.length 2 (rowPs segs (ps.map (·.2))) ∧ ∀ a n cap, v = .slice a n cap → n ≤ cap := by
  obtain ⟨⟨rs, h1, h2, h3⟩, h4⟩ := h
  have hl : rs.length = ps.length := by have := congrArg List.length h2; simpa using this
  refine ⟨rs.map (·.1), by simpa using hl, fun i p q hp hq => ?_, ?_, h4⟩
  · rw [List.getElem?_map] at hp
    cases hr : rs[i]? with
    | none => rw [hr] at hp; cases hp
    | some r => rw [hr] at hp; cases hp; exact h3 i r q hr hq
  · unfold rowPs
    rw [← zip_parts rs ps h2, ← hl]; exact h1
theorem PartsAt.of {w : World} {v : Value} {ps : List PartL} (segs : List Nat) (hl : segs.length = ps.length) (hs : SegsAt w segs ps) (h1 : Sl w v ps.length 2 (rowPs segs (ps.map (·.2)))) (h4 : ∀ a n cap, v = .slice a n cap → n ≤ cap) : PartsAt w v ps := by
  have hz : (segs.zip (ps.map (·.2))).length = ps.length := by simp [hl]
  refine ⟨⟨segs.zip (ps.map (·.2)), ?_, ?_, fun i r q hr hq => ?_⟩, h4⟩
  · unfold Parts0; rw [hz]; exact h1
  · rw [List.map_snd_zip]; simp [hl]
  · rw [List.getElem?_zip_eq_some] at hr
    exact hs i r.1 q hr.1 hq
theorem owns_cap {w : World} {base : Nat} {e : TypeId} {size n : Nat} {v : Value} {xs : List Value} (h : w.ownsRow base e size v n xs) : ∀ a m cap, v = .slice a m cap → m ≤ cap := by
  intro a m cap hv
  rcases h.2 with ⟨rfl, h0⟩ | ⟨g, c, cur, rfl, _, _, hnc, _⟩
  · cases hv; exact Nat.le_refl _
  · cases hv; exact hnc
theorem PartsAt.owns {w : World} {base : Nat} {v : Value} {ps : List PartL} (segs : List Nat) (hl : segs.length = ps.length) (hs : SegsAt w segs ps) (h1 : w.ownsRow base 60 2 v ps.length (rowPs segs (ps.map (·.2)))) : PartsAt w v ps :=
  PartsAt.of segs hl hs (Sl.of_owns h1) (owns_cap h1)
theorem rowPs_set (segs : List Nat) (gs : List Bytes) (hl : segs.length = gs.length) (i : Nat) (hi : i < gs.length) (x : Bytes) : (rowPs segs gs).set (i * 2 + 1) (strV x) = rowPs segs (gs.set i x) := by
  induction segs generalizing gs i with
  | nil => simp at hl; omega
  | cons s segs ih =>
    cases gs with
    | nil => simp at hl
    | cons g gs =>
      have e : ∀ s (g : Bytes) (segs : List Nat) (gs : List Bytes), rowPs (s :: segs) (g :: gs) = .pointer (some ⟨s, 0, none⟩) :: strV g :: rowPs segs gs := by intros; simp [rowPs, partVs]
      rw [e]
      cases i with
      | zero => rw [List.set_cons_zero, e]; rfl
      | succ i =>
        have h2 : (i + 1) * 2 + 1 = (i * 2 + 1) + 1 + 1 := by omega
        rw [h2]
        simp only [List.set_cons_succ]
        rw [ih gs (by simpa using hl) i (by simpa using hi), e]
theorem rowPs_at (segs : List Nat) (gs : List Bytes) (hl : segs.length = gs.length) (i : Nat) (hi : i < gs.length) : (rowPs segs gs)[i * 2]? = some (.pointer (some ⟨segs[i]'(by omega), 0, none⟩)) ∧ (rowPs segs gs)[i * 2 + 1]? = some (strV gs[i]) := by
  have := partVs_at (segs.zip gs) i (by simp [hl]; exact hi)
  simpa using this
theorem rowPs_length (segs : List Nat) (gs : List Bytes) (hl : segs.length = gs.length) : (rowPs segs gs).length = gs.length * 2 := by
  induction segs generalizing gs with
  | nil => cases gs <;> simp_all [rowPs, partVs]
  | cons s segs ih =>
    cases gs with
    | nil => simp at hl
    | cons g gs =>
      have := ih gs (by simpa using hl)
      simp only [rowPs, List.zip_cons_cons, partVs, List.flatMap_cons, List.length_append, List.length_cons, List.length_nil] at this ⊢
      omega
theorem rowPs_append (segs segs' : List Nat) (gs gs' : List Bytes) (hl : segs.length = gs.length) : rowPs (segs ++ segs') (gs ++ gs') = rowPs segs gs ++ rowPs segs' gs' := by
  unfold rowPs
  rw [List.zip_append hl]; simp [partVs]
/-- which documents are gone, i parts having been gone over -/
def gsIn (id : Bytes) (ps : List PartL) (i : Nat) : List Bytes := ((ps.take i).map (goneOne id) ++ ps.drop i).map (·.2)
theorem gsIn_zero (id : Bytes) (ps : List PartL) : gsIn id ps 0 = ps.map (·.2) := by simp [gsIn]
theorem gsIn_all (id : Bytes) (ps : List PartL) : gsIn id ps ps.length = (ps.map (goneOne id)).map (·.2) := by simp [gsIn]
theorem gsIn_length (id : Bytes) (ps : List PartL) (i : Nat) (hi : i ≤ ps.length) : (gsIn id ps i).length = ps.length := by simp [gsIn]; omega
theorem gsIn_at (id : Bytes) (ps : List PartL) (i : Nat) (hi : i < ps.length) : (gsIn id ps i)[i]? = some ps[i].2 := by
  unfold gsIn
  rw [List.getElem?_map, List.getElem?_append_right (by simp; omega)]
  simp only [List.length_map, List.length_take, Nat.min_eq_left (Nat.le_of_lt hi), Nat.sub_self, List.getElem?_drop, Nat.add_zero, List.getElem?_eq_getElem hi, Option.map_some]
theorem gsIn_succ (id : Bytes) (ps : List PartL) (i : Nat) (hi : i < ps.length) : gsIn id ps (i + 1) = (gsIn id ps i).set i (goneOne id ps[i]).2 := by
  unfold gsIn
  rw [List.take_succ_eq_append_getElem hi, List.drop_eq_getElem_cons hi]
  simp only [List.map_append, List.map_cons, List.map_nil, List.append_assoc, List.singleton_append]
  rw [List.set_append_right _ _ (by simp; omega)]
  simp [Nat.min_eq_left (Nat.le_of_lt hi)]
theorem set_same {α : Type} (l : List α) (i : Nat) (x : α) (h : l[i]? = some x) : l.set i x = l := by
  obtain ⟨hi, rfl⟩ := List.getElem?_eq_some_iff.1 h
  exact List.set_getElem_self hi
theorem gsIn_none (id : Bytes) (ps : List PartL) (i : Nat) (hi : i < ps.length) (hf : findL ps[i].1 id = none) : gsIn id ps (i + 1) = gsIn id ps i := by
  rw [gsIn_succ id ps i hi]
  have : goneOne id ps[i] = ps[i] := by unfold goneOne; rw [hf]
  rw [this]
  exact set_same _ _ _ (gsIn_at id ps i hi)
theorem gsIn_some (id : Bytes) (ps : List PartL) (i : Nat) (hi : i < ps.length) (k : Nat) (hf : findL ps[i].1 id = some k) : gsIn id ps (i + 1) = (gsIn id ps i).set i (setTo ps[i].2 k true 1) := by
  rw [gsIn_succ id ps i hi]
  have : goneOne id ps[i] = (ps[i].1, setTo ps[i].2 k true 1) := by unfold goneOne; rw [hf]
  rw [this]
theorem goneAll_docs (ids : List Bytes) (ps : List PartL) : (goneAll ids ps).map (·.1) = ps.map (·.1) := by
  induction ids generalizing ps with
  | nil => rfl
  | cons id ids ih =>
    rw [goneAll_cons, ih, List.map_map]
    exact List.map_congr_left fun p _ => goneOne_docs id p
theorem goneAll_at (ids : List Bytes) (ps : List PartL) (i : Nat) (q : PartL) (h : (goneAll ids ps)[i]? = some q) : ∃ p : PartL, ps[i]? = some p ∧ q.1 = p.1 := by
  have := congrArg (fun l => l[i]?) (goneAll_docs ids ps)
  simp only [List.getElem?_map, h, Option.map_some] at this
  cases hp : ps[i]? with
  | none => rw [hp] at this; cases this
  | some p => rw [hp] at this; exact ⟨p, rfl, by simpa using this⟩
theorem SegsAt.gone {w : World} {segs : List Nat} {ps : List PartL} (h : SegsAt w segs ps) (ids : List Bytes) : SegsAt w segs (goneAll ids ps) := by
  intro i p q hp hq
  obtain ⟨p0, h1, h2⟩ := goneAll_at ids ps i q hq
  rw [h2]
  exact h i p p0 hp h1
theorem goneAll_snoc (ids : List Bytes) (id : Bytes) (ps : List PartL) : goneAll (ids ++ [id]) ps = (goneAll ids ps).map (goneOne id) := by
  unfold goneAll
  rw [List.foldl_append]; rfl
/-- behind j ops -/
def gAt (ops : List OpL) (ps : List PartL) (j : Nat) : List PartL := goneAll ((ops.take j).map (fun o => o.2.1)) ps
def mAt (ops : List OpL) (j : Nat) : List DocL := ((ops.take j).filter (fun o => !o.1)).map (·.2)
theorem gAt_succ (ops : List OpL) (ps : List PartL) (j : Nat) (hj : j < ops.length) : gAt ops ps (j + 1) = (gAt ops ps j).map (goneOne ops[j].2.1) := by
  unfold gAt
  rw [List.take_succ_eq_append_getElem hj, List.map_append, List.map_singleton, goneAll_snoc]
theorem gAt_length (ops : List OpL) (ps : List PartL) (j : Nat) : (gAt ops ps j).length = ps.length := goneAll_length _ _
theorem mAt_succ (ops : List OpL) (j : Nat) (hj : j < ops.length) : mAt ops (j + 1) = mAt ops j ++ (if ops[j].1 then [] else [ops[j].2]) := by
  unfold mAt
  rw [List.take_succ_eq_append_getElem hj, List.filter_append, List.map_append]
  cases h : ops[j].1 <;> simp [h]
theorem mAt_len (ops : List OpL) (j : Nat) : (mAt ops j).length ≤ j := by
  have h1 := List.length_filter_le (fun o : OpL => !o.1) (ops.take j)
  rw [List.length_take] at h1
  unfold mAt
  rw [List.length_map]; omega
/-! ### a box that turns beside parts -/
theorem box_ne {W : World} {X : Nat} {T : TypeId} {u0 : Value} (hb : Boxed W X T u0) {b off : Nat} {u : Value} (hc : W.cell? ⟨b, off, none⟩ = some u) (hne : u ≠ u0) : b ≠ X := by
  intro e
  subst e
  have h : W.heap[b]? = some (.cells #[u0] T (0, 0)) := hb
  simp only [World.cell?, h] at hc
  cases off with
  | zero => simp at hc; exact hne hc.symm
  | succ n => simp at hc
theorem set_far (W : World) {X k : Nat} (u : Value) (h : k ≠ X) : (W.setCell ⟨X, 0, none⟩ u).heap[k]? = W.heap[k]? := Below.heap_setCell _ _ _ _ h
theorem Sl.setBox {W : World} {X : Nat} {T : TypeId} {u0 : Value} (hb : Boxed W X T u0) (u : Value) {v : Value} {n size : Nat} {xs : List Value} (h : Sl W v n size xs) (hs : 0 < size) (hx : ∀ x ∈ xs, x ≠ u0) : Sl (W.setCell ⟨X, 0, none⟩ u) v n size xs := by
  obtain ⟨h1, a, cap, h2, h3⟩ := h
  refine ⟨h1, a, cap, h2, fun hn => ?_⟩
  obtain ⟨b, off, h4, h5⟩ := h3 hn
  refine ⟨b, off, h4, fun j y hj => ?_⟩
  have hc := h5 j y hj
  have hbx := box_ne hb hc (hx y (List.mem_of_getElem? hj))
  rw [← hc]
  simp only [World.cell?, set_far W u hbx]
theorem MapS.setBox {W : World} {X : Nat} {T : TypeId} {u0 : Value} (hb : Boxed W X T u0) (u : Value) {m : Nat} {es : List (Bytes × Value)} (h : MapS W m es) : MapS (W.setCell ⟨X, 0, none⟩ u) m es := by
  have hm := h
  obtain ⟨es', clock, h1, _⟩ := hm
  refine h.same (set_far W u (fun e => ?_))
  subst e
  have h2 : W.heap[m]? = some (.cells #[u0] T (0, 0)) := hb
  rw [h2] at h1; cases h1
/-- a segment stays where one block of cells of another kind turns -/
theorem SegAt.kept {W W' : World} {row : Option Nat} (hg : W.grownBy W' row) (hX : ∀ X, row = some X → ∃ cs T fz, W.heap[X]? = some (.cells cs T fz) ∧ T ≠ 80 ∧ T ≠ 40) {p : Nat} {l : List DocL} {d : Bytes} (h : SegAt W p l d) : SegAt W' p l d := by
  obtain ⟨v, mb, h1, h2, h3⟩ := h
  have far : ∀ k o, W.heap[k]? = some o → (∀ cs T fz, o = .cells cs T fz → T = 80 ∨ T = 40) → some k ≠ row := by
    intro k o hk ho e
    obtain ⟨cs, T, fz, hc, n1, n2⟩ := hX k e.symm
    rw [hk] at hc
    cases hc
    rcases ho cs T fz rfl with h | h
    · exact n1 h
    · exact n2 h
  refine ⟨v, mb, ?_, h2.kept hg ?_, h3.same ?_⟩
  · rw [hg.block p (lt_of_get h1) (far p _ h1 (fun _ _ _ e => by cases e; exact .inl rfl))]; exact h1
  · cases hb : v.ownBlock with
    | none => exact .inl rfl
    | some g =>
      obtain ⟨cs, hc⟩ := owns_kind h2 g hb
      exact .inr (far g _ hc (fun _ _ _ e => by cases e; exact .inr rfl))
  · obtain ⟨es, clock, h4, _⟩ := h3
    exact hg.block mb (lt_of_get h4) (far mb _ h4 (fun _ _ _ e => by cases e))
theorem SegAt.setBox {W : World} {X : Nat} {T : TypeId} {u0 : Value} (hb : Boxed W X T u0) (u : Value) {p : Nat} {l : List DocL} {d : Bytes} (h : SegAt W p l d) (hT : T ≠ 80 ∧ T ≠ 40) : SegAt (W.setCell ⟨X, 0, none⟩ u) p l d :=
  h.kept (grownBy_setCell' W X u) (fun Y e => by cases e; exact ⟨_, T, _, hb, hT.1, hT.2⟩)
theorem PartsAt.setBox {W : World} {X : Nat} {T : TypeId} {a : Option Addr} {n cap : Nat} (hb : Boxed W X T (.slice a n cap)) (u : Value) {v : Value} {ps : List PartL} (h : PartsAt W v ps) (hT : T ≠ 80 ∧ T ≠ 40) : PartsAt (W.setCell ⟨X, 0, none⟩ u) v ps := by
  obtain ⟨⟨rs, h1, h2, h3⟩, h4⟩ := h
  refine ⟨⟨rs, Sl.setBox hb u h1 (by decide) (fun x hx => ?_), h2, fun i r p hr hp => (h3 i r p hr hp).setBox hb u hT⟩, h4⟩
  obtain ⟨y, _, hy⟩ := List.mem_flatMap.1 hx
  simp at hy
  rcases hy with rfl | rfl <;> simp
theorem cells3 {W : World} {X : Nat} {a b c : Value} {T : TypeId} (h : W.heap[X]? = some (.cells #[a, b, c] T (0, 0))) : W.cell? ⟨X, 0, none⟩ = some a ∧ W.cell? ⟨X, 1, none⟩ = some b ∧ W.cell? ⟨X, 2, none⟩ = some c := by
  simp [World.cell?, h]
end Go.Proofs.YtepofekepagfhaaGreatDoor
end
