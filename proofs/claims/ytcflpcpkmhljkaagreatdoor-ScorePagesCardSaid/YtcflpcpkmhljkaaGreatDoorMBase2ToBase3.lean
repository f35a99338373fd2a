/- Joined texts of one proof: Base2, Base3. -/
import Derived.Test.YtcflpcpkmhljkaaGreatDoorMPostRdToBase
set_option linter.unusedSimpArgs false
set_option linter.unusedVariables false
set_option linter.unnecessarySimpa false
/- (Base2) Plain facts on runs of free bits. -/
section
namespace Go.Proofs.YtcflpcpkmhljkaaGreatDoor

theorem runs_step (l : List UInt8) (i : Nat) (hi : i = 0 ∨ bit l (i - 1) = true) (m : Nat) (h : ∀ j, i ≤ j → j < i + m + 1 → bit l j = false) : runsTo l (i + m + 1) = runsTo l i ++ [(i, m + 1)] := by
  induction m with
  | zero =>
    rw [Nat.add_zero, runsTo, h i (Nat.le_refl _) (by omega), if_neg (by simp), if_neg]
    rintro ⟨h0, h1⟩
    rcases hi with hi | hi
    · omega
    · rw [hi] at h1; cases h1
  | succ m ih =>
    have := ih (fun j h1 h2 => h j h1 (by omega))
    rw [show i + (m + 1) + 1 = (i + m + 1) + 1 by omega, runsTo, h _ (by omega) (by omega), if_neg (by simp), if_pos ⟨by omega, h _ (by omega) (by omega)⟩, this, bump_snoc]
theorem runs_stay (l : List UInt8) (k : Nat) (h : bit l k = true) : runsTo l (k + 1) = runsTo l k := by rw [runsTo, h]; rfl
/-- one more run, and the used bit behind it, or the end -/
theorem runs_more (l : List UInt8) (i k N : Nat) (hi : i = 0 ∨ bit l (i - 1) = true) (hik : i < k) (hkN : k ≤ N) (h : ∀ j, i ≤ j → j < k → bit l j = false) (hk : k = N ∨ bit l k = true) :
    runsTo l (min (k + 1) N) = runsTo l i ++ [(i, k - i)] := by
  have := runs_step l i hi (k - i - 1) (fun j h1 h2 => h j h1 (by omega))
  rw [show i + (k - i - 1) + 1 = k by omega, show k - i - 1 + 1 = k - i by omega] at this
  rcases hk with hk | hk
  · rw [← this]; congr 1; omega
  · by_cases e : k = N
    · rw [← this]; congr 1; omega
    · rw [show min (k + 1) N = k + 1 by omega, runs_stay l k hk, this]
theorem runs_none (l : List UInt8) (k N : Nat) (hkN : k ≤ N) (hk : k = N ∨ bit l k = true) : runsTo l (min (k + 1) N) = runsTo l k := by
  rcases hk with hk | hk
  · congr 1; omega
  · by_cases e : k = N
    · congr 1; omega
    · rw [show min (k + 1) N = k + 1 by omega, runs_stay l k hk]

/-- how many free bits stand right ahead of bit k -/
def tail (l : List UInt8) : Nat → Nat
  | 0 => 0
  | k + 1 => if bit l k then 0 else tail l k + 1
theorem tail_le (l : List UInt8) (k : Nat) : tail l k ≤ k := by
  induction k with
  | zero => exact Nat.le_refl _
  | succ k ih => rw [tail]; split <;> omega
/-- the first place where c free bits stand, among the first k -/
def fitN (l : List UInt8) (c : Nat) : Nat → Option Nat
  | 0 => none
  | k + 1 => match fitN l c k with
    | some s => some s
    | none => if tail l (k + 1) = c then some (k + 1 - c) else none
def fitO : Option Nat → Int × Bool
  | some s => ((s : Int), true)
  | none => (0, false)
def fitR (l : List UInt8) (n c : Int) : Int × Bool := if c < 1 then (0, false) else fitO (fitN l c.toNat (firstN l n))
theorem fitN_mono (l : List UInt8) (c k s : Nat) (h : fitN l c k = some s) (m : Nat) (hm : k ≤ m) : fitN l c m = some s := by
  induction m with
  | zero => rw [← h]; congr 1; omega
  | succ m ih =>
    by_cases e : k = m + 1
    · rw [← e]; exact h
    · rw [fitN, ih (by omega)]
theorem fitN_none_mono (l : List UInt8) (c m : Nat) (h : fitN l c m = none) (k : Nat) (hm : k ≤ m) : fitN l c k = none := by
  cases e : fitN l c k with
  | none => rfl
  | some s => rw [fitN_mono l c k s e m hm] at h; cases h
theorem runs_tail (l : List UInt8) (k : Nat) (h : bit l k = false) : ∃ rs a, runsTo l (k + 1) = rs ++ [(a, tail l (k + 1))] ∧ a + tail l (k + 1) = k + 1 := by
  induction k with
  | zero => exact ⟨[], 0, by simp [runsTo, tail, h], by simp [tail, h]⟩
  | succ k ih =>
    by_cases hk : bit l k = false
    · obtain ⟨rs, a, h1, h2⟩ := ih hk
      refine ⟨rs, a, ?_, ?_⟩
      · rw [runsTo, h, if_neg (by simp), if_pos ⟨by omega, hk⟩, h1, bump_snoc, tail.eq_2 l (k + 1), h]; rfl
      · rw [tail, h]; simp; omega
    · have hk' : bit l k = true := by simpa using hk
      refine ⟨runsTo l (k + 1), k + 1, ?_, ?_⟩
      · rw [runsTo, h, if_neg (by simp), if_neg (by simp [hk']), tail, h, tail, hk']; rfl
      · rw [tail, h, tail, hk']; simp
theorem fit_eq (l : List UInt8) (c : Nat) (hc : 1 ≤ c) (N : Nat) : fitN l c N = ((runsTo l N).find? (fun r => decide (c ≤ r.2))).map (·.1) := by
  induction N with
  | zero => rfl
  | succ k ih =>
    cases hk : bit l k with
    | true =>
      rw [runs_stay l k hk, fitN, tail, hk, ← ih]
      cases fitN l c k with
      | none => simp; omega
      | some s => rfl
    | false =>
      obtain ⟨rs, a, h1, h2⟩ := runs_tail l k hk
      rw [h1, fitN]
      by_cases hp : 0 < k ∧ bit l (k - 1) = false
      · obtain ⟨rs', a', h3, h4⟩ := runs_tail l (k - 1) hp.2
        rw [show k - 1 + 1 = k by omega] at h3 h4
        have h5 := h1
        rw [runsTo, hk, if_neg (by simp), if_pos hp, h3, bump_snoc] at h5
        have e := List.append_inj' h5 rfl
        obtain ⟨rfl, e2⟩ := e
        simp at e2
        obtain ⟨rfl, e2⟩ := e2
        rw [ih, h3, List.find?_append, List.find?_append]
        cases hf : rs'.find? (fun r => decide (c ≤ r.2)) with
        | some r => simp
        | none =>
          simp only [Option.none_or, List.find?_cons, List.find?_nil]
          by_cases h6 : c ≤ tail l k
          · simp [h6, show c ≤ tail l (k + 1) by omega]
          · by_cases h7 : c ≤ tail l (k + 1)
            · simp [h6, h7, show tail l (k + 1) = c by omega]; omega
            · simp [h6, h7, show ¬ tail l (k + 1) = c by omega]
      · have h5 := h1
        rw [runsTo, hk, if_neg (by simp), if_neg hp] at h5
        have e := List.append_inj' h5 rfl
        obtain ⟨rfl, e2⟩ := e
        simp at e2
        obtain ⟨rfl, e2⟩ := e2
        rw [ih, List.find?_append]
        cases hf : (runsTo l k).find? (fun r => decide (c ≤ r.2)) with
        | some r => simp
        | none =>
          simp only [Option.none_or, List.find?_cons, List.find?_nil, Option.map_none]
          rw [← e2]
          by_cases h7 : c ≤ 1
          · simp [show c = 1 by omega]
          · simp [h7]; omega
def setOk (l : List UInt8) (s c : Int) : Bool := decide (0 ≤ s ∧ 0 ≤ c ∧ c + s ≤ 8 * l.length)
def setL (l : List UInt8) (s c : Int) (on : Bool) : List UInt8 := if setOk l s c then setTo l s.toNat on c.toNat else []
end Go.Proofs.YtcflpcpkmhljkaaGreatDoor
end

/- (Base3) Plain laws of bitmaps: what turning bits does, how many are free, where they fit, what the runs are. No program in sight. -/
section
namespace Go.Proofs.YtcflpcpkmhljkaaGreatDoor

theorem mask_bit (k j : Nat) (hk : k < 8) (hj : j < 8) : (255 - 2 ^ k).testBit j = decide (j ≠ k) := by
  have h : ∀ (k j : Fin 8), (255 - 2 ^ k.val).testBit j.val = decide (j.val ≠ k.val) := by decide +kernel
  exact h ⟨k, hk⟩ ⟨j, hj⟩
theorem byteSet_bit (x k j : Nat) (on : Bool) (hk : k < 8) (hj : j < 8) : (byteSet x k on).testBit j = if j = k then on else x.testBit j := by
  unfold byteSet
  cases on with
  | true =>
    simp only [if_true, Nat.testBit_or, Nat.testBit_two_pow]
    by_cases h : j = k
    · simp [h]
    · simp [h]; omega
  | false =>
    simp only [Bool.false_eq_true, if_false, Nat.testBit_and, mask_bit k j hk hj]
    by_cases h : j = k <;> simp [h]
theorem bit_setBit (l : List UInt8) (i j : Nat) (on : Bool) (hi : i < 8 * l.length) : bit (setBit l i on) j = if j = i then on else bit l j := by
  have hi8 : i / 8 < l.length := by omega
  unfold bit setBit
  rw [List.getD_eq_getElem?_getD, List.getElem?_set]
  by_cases h : i / 8 = j / 8
  · rw [if_pos h, if_pos hi8, Option.getD_some, UInt8.toNat_ofNat', Nat.mod_eq_of_lt (byteSet_lt _ _ _ (UInt8.toNat_lt _) (Nat.mod_lt _ (by omega))),
      byteSet_bit _ _ _ _ (Nat.mod_lt _ (by omega)) (Nat.mod_lt _ (by omega)), h]
    by_cases h2 : j = i
    · rw [if_pos (by omega), if_pos h2]
    · rw [if_neg (by omega), if_neg h2]
  · rw [if_neg h, if_neg (by intro e; exact h (by rw [e])), ← List.getD_eq_getElem?_getD]
theorem bit_setTo (l : List UInt8) (s c j : Nat) (on : Bool) (h : c + s ≤ 8 * l.length) : bit (setTo l s on c) j = if s ≤ j ∧ j < s + c then on else bit l j := by
  induction c with
  | zero => rw [setTo, if_neg (by omega)]
  | succ c ih =>
    rw [setTo, bit_setBit _ _ _ _ (by rw [length_setTo]; omega), ih (by omega)]
    by_cases h1 : j = s + c
    · rw [if_pos h1, if_pos (by omega)]
    · rw [if_neg h1]
      by_cases h2 : s ≤ j ∧ j < s + c
      · rw [if_pos h2, if_pos (by omega)]
      · rw [if_neg h2, if_neg (by omega)]
theorem byte_ext (x y : Nat) (hx : x < 256) (hy : y < 256) (h : ∀ j, j < 8 → x.testBit j = y.testBit j) : x = y := by
  apply Nat.eq_of_testBit_eq
  intro i
  by_cases hi : i < 8
  · exact h i hi
  · have h8 : 2 ^ 8 ≤ 2 ^ i := Nat.pow_le_pow_right (by decide) (by omega)
    rw [Nat.testBit_lt_two_pow (by omega), Nat.testBit_lt_two_pow (by omega)]
theorem bits_ext (a b : List UInt8) (hl : a.length = b.length) (h : ∀ j, j < 8 * a.length → bit a j = bit b j) : a = b := by
  refine List.ext_getElem hl (fun k h1 h2 => ?_)
  apply UInt8.toNat_inj.1
  refine byte_ext _ _ (UInt8.toNat_lt _) (UInt8.toNat_lt _) (fun j hj => ?_)
  have := h (8 * k + j) (by omega)
  unfold bit at this
  rw [show (8 * k + j) / 8 = k by omega, show (8 * k + j) % 8 = j by omega, List.getD_eq_getElem?_getD, List.getD_eq_getElem?_getD, List.getElem?_eq_getElem h1, List.getElem?_eq_getElem h2] at this
  exact this
theorem setTo_back (l : List UInt8) (s c : Nat) (h : c + s ≤ 8 * l.length) (hf : ∀ j, s ≤ j → j < s + c → bit l j = false) : setTo (setTo l s true c) s false c = l := by
  refine bits_ext _ _ (by rw [length_setTo, length_setTo]) (fun j hj => ?_)
  rw [bit_setTo _ _ _ _ _ (by rw [length_setTo]; exact h), bit_setTo _ _ _ _ _ h]
  by_cases h1 : s ≤ j ∧ j < s + c
  · rw [if_pos h1, hf j h1.1 h1.2]
  · rw [if_neg h1, if_neg h1]
theorem cnt_set (l m : List UInt8) (s c : Nat) (hm : ∀ j, bit m j = if s ≤ j ∧ j < s + c then true else bit l j) (hf : ∀ j, s ≤ j → j < s + c → bit l j = false) (k : Nat) :
    cnt m k + (min k (s + c) - min k s) = cnt l k := by
  induction k with
  | zero => simp [cnt]
  | succ k ih =>
    rw [cnt, cnt, hm]
    by_cases h1 : s ≤ k ∧ k < s + c
    · rw [if_pos h1, hf k h1.1 h1.2]; simp; omega
    · rw [if_neg h1]; split <;> omega
theorem tail_free (l : List UInt8) (k j : Nat) (h1 : k - tail l k ≤ j) (h2 : j < k) : bit l j = false := by
  induction k with
  | zero => omega
  | succ k ih =>
    rw [tail] at h1
    cases hb : bit l k with
    | true => rw [hb] at h1; simp at h1; omega
    | false =>
      rw [hb] at h1; simp at h1
      by_cases e : j = k
      · rw [e]; exact hb
      · exact ih (by omega) (by omega)
theorem fit_some (l : List UInt8) (c N s : Nat) (h : fitN l c N = some s) : tail l (s + c) = c ∧ s + c ≤ N ∧ (1 ≤ c → fitN l c (s + c - 1) = none) := by
  induction N with
  | zero => cases h
  | succ k ih =>
    rw [fitN] at h
    cases hk : fitN l c k with
    | some t =>
      rw [hk] at h
      obtain ⟨h1, h2, h3⟩ := ih (by rw [hk]; simpa using h)
      exact ⟨h1, by omega, h3⟩
    | none =>
      rw [hk] at h
      simp at h
      have := tail_le l (k + 1)
      have e : s + c = k + 1 := by omega
      rw [e]
      exact ⟨h.1, Nat.le_refl _, fun _ => hk⟩
theorem fit_none (l : List UInt8) (c N : Nat) (hc : 1 ≤ c) (h : fitN l c N = none) (k : Nat) (hk : k ≤ N) : tail l k < c := by
  induction k with
  | zero => rw [tail]; omega
  | succ k ih =>
    have h1 := ih (by omega)
    have h2 := fitN_none_mono l c N h (k + 1) hk
    have h3 := fitN_none_mono l c N h k (by omega)
    rw [fitN, h3] at h2
    simp at h2
    rw [tail] at h2 ⊢
    split <;> simp_all <;> omega
theorem fit_none_of (l : List UInt8) (c N : Nat) (h : ∀ k, k ≤ N → tail l k < c) : fitN l c N = none := by
  induction N with
  | zero => rfl
  | succ k ih =>
    rw [fitN, ih (fun j hj => h j (by omega))]
    have := h (k + 1) (Nat.le_refl _)
    simp; omega
theorem tail_mono (l m : List UInt8) (h : ∀ j, bit l j = true → bit m j = true) (k : Nat) : tail m k ≤ tail l k := by
  induction k with
  | zero => exact Nat.le_refl _
  | succ k ih =>
    rw [tail, tail]
    cases hl : bit l k with
    | true => rw [h k hl]; simp
    | false => cases bit m k <;> simp <;> omega
/-- behind taking what fits first, nothing ahead of its end fits -/
theorem fit_taken (l : List UInt8) (c N s K : Nat) (hc : 1 ≤ c) (h : fitN l c N = some s) (hl : c + s ≤ 8 * l.length) (hK : K ≤ s + c - 1) : fitN (setTo l s true c) c K = none := by
  obtain ⟨h1, h2, h3⟩ := fit_some l c N s h
  refine fit_none_of _ _ _ (fun k hk => ?_)
  have h4 := fit_none l c _ hc (h3 hc) k (by omega)
  have h5 := tail_mono l (setTo l s true c) (fun j hj => by rw [bit_setTo _ _ _ _ _ hl, hj]; split <;> rfl) k
  omega
/-- what is true of one run among the first k bits -/
def RunOk (l : List UInt8) (k : Nat) (r : Nat × Nat) : Prop :=
  (∀ j, r.1 ≤ j → j < r.1 + r.2 → bit l j = false) ∧ (0 < r.1 → bit l (r.1 - 1) = true) ∧ 1 ≤ r.2 ∧ r.1 + r.2 ≤ k ∧ (r.1 + r.2 < k → bit l (r.1 + r.2) = true)
def total (rs : List (Nat × Nat)) : Nat := (rs.map (·.2)).sum
theorem total_snoc (rs : List (Nat × Nat)) (r : Nat × Nat) : total (rs ++ [r]) = total rs + r.2 := by simp [total]
theorem runs_ok (l : List UInt8) (k : Nat) : (∀ r ∈ runsTo l k, RunOk l k r) ∧ (runsTo l k).Pairwise (fun r q => r.1 + r.2 < q.1) ∧ total (runsTo l k) = cnt l k := by
  induction k with
  | zero => exact ⟨by simp [runsTo], by simp [runsTo], by simp [runsTo, total, cnt]⟩
  | succ k ih =>
    obtain ⟨h1, h2, h3⟩ := ih
    cases hb : bit l k with
    | true =>
      rw [runs_stay l k hb]
      refine ⟨fun r hr => ?_, h2, by rw [h3, cnt, hb]; rfl⟩
      obtain ⟨a, b, c, d, e⟩ := h1 r hr
      refine ⟨a, b, c, by omega, fun h => ?_⟩
      by_cases e1 : r.1 + r.2 = k
      · rw [e1]; exact hb
      · exact e (by omega)
    | false =>
      by_cases hp : 0 < k ∧ bit l (k - 1) = false
      · obtain ⟨rs, a, h4, h5⟩ := runs_tail l (k - 1) hp.2
        rw [show k - 1 + 1 = k by omega] at h4 h5
        generalize tail l k = t at *
        have e : runsTo l (k + 1) = rs ++ [(a, t + 1)] := by rw [runsTo, hb, if_neg (by simp), if_pos hp, h4, bump_snoc]
        rw [h4] at h1 h2 h3
        rw [e]
        rw [List.pairwise_append] at h2
        obtain ⟨p1, p2, p3⟩ := h2
        refine ⟨fun r hr => ?_, ?_, ?_⟩
        · rw [List.mem_append] at hr
          rcases hr with hr | hr
          · obtain ⟨a1, b1, c1, d1, e1⟩ := h1 r (by simp [hr])
            have := p3 r hr (a, t) (by simp)
            exact ⟨a1, b1, c1, by omega, fun h => e1 (by simp at this; omega)⟩
          · simp at hr
            subst hr
            obtain ⟨a1, b1, c1, d1, e1⟩ := h1 (a, t) (by simp)
            refine ⟨fun j j1 j2 => ?_, b1, by simp, by simp; omega, fun h => by simp at h; omega⟩
            by_cases ej : j = k
            · rw [ej]; exact hb
            · exact a1 j j1 (by simp at j2 ⊢; omega)
        · rw [List.pairwise_append]
          refine ⟨p1, by simp, fun r hr q hq => ?_⟩
          have := p3 r hr (a, t) (by simp)
          simp at hq; subst hq; exact this
        · rw [total_snoc] at h3 ⊢
          rw [cnt, hb]; simp at h3 ⊢; omega
      · have e : runsTo l (k + 1) = runsTo l k ++ [(k, 1)] := by rw [runsTo, hb, if_neg (by simp), if_neg hp]
        have hlt : ∀ r ∈ runsTo l k, r.1 + r.2 < k := by
          intro r hr
          obtain ⟨a1, b1, c1, d1, e1⟩ := h1 r hr
          by_cases e2 : r.1 + r.2 = k
          · exact absurd ⟨by omega, a1 (k - 1) (by omega) (by omega)⟩ hp
          · omega
        rw [e]
        refine ⟨fun r hr => ?_, ?_, ?_⟩
        · rw [List.mem_append] at hr
          rcases hr with hr | hr
          · obtain ⟨a1, b1, c1, d1, e1⟩ := h1 r hr
            exact ⟨a1, b1, c1, by omega, fun h => e1 (hlt r hr)⟩
          · simp at hr
            subst hr
            refine ⟨fun j j1 j2 => ?_, fun h => ?_, by simp, by simp, fun h => by simp at h⟩
            · have : j = k := by simp at j1 j2; omega
              rw [this]; exact hb
            · simp at h
              cases hq : bit l (k - 1) with
              | true => rfl
              | false => exact absurd ⟨h, hq⟩ hp
        · rw [List.pairwise_append]
          refine ⟨h2, by simp, fun r hr q hq => ?_⟩
          simp at hq; subst hq; exact hlt r hr
        · rw [total_snoc, h3, cnt, hb]; rfl
theorem bit_append_left (a b : List UInt8) (j : Nat) (h : j < 8 * a.length) : bit (a ++ b) j = bit a j := by
  unfold bit
  rw [List.getD_eq_getElem?_getD, List.getD_eq_getElem?_getD, List.getElem?_append_left (by omega)]
theorem bit_append_right (a b : List UInt8) (j : Nat) : bit (a ++ b) (8 * a.length + j) = bit b j := by
  unfold bit
  rw [List.getD_eq_getElem?_getD, List.getD_eq_getElem?_getD, List.getElem?_append_right (by omega), show (8 * a.length + j) % 8 = j % 8 by omega, show (8 * a.length + j) / 8 - a.length = j / 8 by omega]
theorem cnt_append_left (a b : List UInt8) (k : Nat) (h : k ≤ 8 * a.length) : cnt (a ++ b) k = cnt a k := by
  induction k with
  | zero => rfl
  | succ k ih => rw [cnt, cnt, ih (by omega), bit_append_left _ _ _ (by omega)]
theorem cnt_append (a b : List UInt8) (k : Nat) : cnt (a ++ b) (8 * a.length + k) = cnt a (8 * a.length) + cnt b k := by
  induction k with
  | zero => rw [Nat.add_zero, cnt_append_left _ _ _ (Nat.le_refl _)]; rfl
  | succ k ih => rw [← Nat.add_assoc, cnt, ih, cnt, bit_append_right]; omega
end Go.Proofs.YtcflpcpkmhljkaaGreatDoor
end
