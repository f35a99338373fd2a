/- Plain facts on runs of free bits. -/
import Derived.Test.YtejcmdolhmojaaaBase
namespace Go.Proofs.Ytejcmdolhmojaaa

theorem runs_step (l : List UInt8) (i : Nat) (hi : i = 0 ∨ bit l (i - 1) = true) (m : Nat) (h : ∀ j, i ≤ j → j < i + m + 1 → bit l j = false) : runsTo l (i + m + 1) = runsTo l i ++ [(i, m + 1)] := by
  induction m with
  | zero =>
    rw [Nat.add_zero, runsTo, h i (Nat.le_refl _) (by omega), if_neg (by simp), if_neg]
    rintro ⟨h0, h1⟩
    rcases hi with hi | hi
    · omega
    · rw [hi] at h1; cases h1
  | succ m ih =>
    have := ih (fun j h1 h2 => h j h1 (by omega))
    rw [show i + (m + 1) + 1 = (i + m + 1) + 1 by omega, runsTo, h _ (by omega) (by omega), if_neg (by simp), if_pos ⟨by omega, h _ (by omega) (by omega)⟩, this, bump_snoc]
theorem runs_stay (l : List UInt8) (k : Nat) (h : bit l k = true) : runsTo l (k + 1) = runsTo l k := by rw [runsTo, h]; rfl
/-- one more run, and the used bit behind it, or the end -/
theorem runs_more (l : List UInt8) (i k N : Nat) (hi : i = 0 ∨ bit l (i - 1) = true) (hik : i < k) (hkN : k ≤ N) (h : ∀ j, i ≤ j → j < k → bit l j = false) (hk : k = N ∨ bit l k = true) :
    runsTo l (min (k + 1) N) = runsTo l i ++ [(i, k - i)] := by
  have := runs_step l i hi (k - i - 1) (fun j h1 h2 => h j h1 (by omega))
  rw [show i + (k - i - 1) + 1 = k by omega, show k - i - 1 + 1 = k - i by omega] at this
  rcases hk with hk | hk
  · rw [← this]; congr 1; omega
  · by_cases e : k = N
    · rw [← this]; congr 1; omega
    · rw [show min (k + 1) N = k + 1 by omega, runs_stay l k hk, this]
theorem runs_none (l : List UInt8) (k N : Nat) (hkN : k ≤ N) (hk : k = N ∨ bit l k = true) : runsTo l (min (k + 1) N) = runsTo l k := by
  rcases hk with hk | hk
  · congr 1; omega
  · by_cases e : k = N
    · congr 1; omega
    · rw [show min (k + 1) N = k + 1 by omega, runs_stay l k hk]

/-- how many free bits stand right ahead of bit k -/
def tail (l : List UInt8) : Nat → Nat
  | 0 => 0
  | k + 1 => if bit l k then 0 else tail l k + 1
theorem tail_le (l : List UInt8) (k : Nat) : tail l k ≤ k := by
  induction k with
  | zero => exact Nat.le_refl _
  | succ k ih => rw [tail]; split <;> omega
/-- the first place where c free bits stand, among the first k -/
def fitN (l : List UInt8) (c : Nat) : Nat → Option Nat
  | 0 => none
  | k + 1 => match fitN l c k with
    | some s => some s
    | none => if tail l (k + 1) = c then some (k + 1 - c) else none
def fitO : Option Nat → Int × Bool
  | some s => ((s : Int), true)
  | none => (0, false)
def fitR (l : List UInt8) (n c : Int) : Int × Bool := if c < 1 then (0, false) else fitO (fitN l c.toNat (firstN l n))
theorem fitN_mono (l : List UInt8) (c k s : Nat) (h : fitN l c k = some s) (m : Nat) (hm : k ≤ m) : fitN l c m = some s := by
  induction m with
  | zero => rw [← h]; congr 1; omega
  | succ m ih =>
    by_cases e : k = m + 1
    · rw [← e]; exact h
    · rw [fitN, ih (by omega)]
theorem fitN_none_mono (l : List UInt8) (c m : Nat) (h : fitN l c m = none) (k : Nat) (hm : k ≤ m) : fitN l c k = none := by
  cases e : fitN l c k with
  | none => rfl
  | some s => rw [fitN_mono l c k s e m hm] at h; cases h
theorem runs_tail (l : List UInt8) (k : Nat) (h : bit l k = false) : ∃ rs a, runsTo l (k + 1) = rs ++ [(a, tail l (k + 1))] ∧ a + tail l (k + 1) = k + 1 := by
  induction k with
  | zero => exact ⟨[], 0, by simp [runsTo, tail, h], by simp [tail, h]⟩
  | succ k ih =>
    by_cases hk : bit l k = false
    · obtain ⟨rs, a, h1, h2⟩ := ih hk
      refine ⟨rs, a, ?_, ?_⟩
      · rw [runsTo, h, if_neg (by simp), if_pos ⟨by omega, hk⟩, h1, bump_snoc, tail.eq_2 l (k + 1), h]; rfl
      · rw [tail, h]; simp; omega
    · have hk' : bit l k = true := by simpa using hk
      refine ⟨runsTo l (k + 1), k + 1, ?_, ?_⟩
      · rw [runsTo, h, if_neg (by simp), if_neg (by simp [hk']), tail, h, tail, hk']; rfl
      · rw [tail, h, tail, hk']; simp
theorem fit_eq (l : List UInt8) (c : Nat) (hc : 1 ≤ c) (N : Nat) : fitN l c N = ((runsTo l N).find? (fun r => decide (c ≤ r.2))).map (·.1) := by
  induction N with
  | zero => rfl
  | succ k ih =>
    cases hk : bit l k with
    | true =>
      rw [runs_stay l k hk, fitN, tail, hk, ← ih]
      cases fitN l c k with
      | none => simp; omega
      | some s => rfl
    | false =>
      obtain ⟨rs, a, h1, h2⟩ := runs_tail l k hk
      rw [h1, fitN]
      by_cases hp : 0 < k ∧ bit l (k - 1) = false
      · obtain ⟨rs', a', h3, h4⟩ := runs_tail l (k - 1) hp.2
        rw [show k - 1 + 1 = k by omega] at h3 h4
        have h5 := h1
        rw [runsTo, hk, if_neg (by simp), if_pos hp, h3, bump_snoc] at h5
        have e := List.append_inj' h5 rfl
        obtain ⟨rfl, e2⟩ := e
        simp at e2
        obtain ⟨rfl, e2⟩ := e2
        rw [ih, h3, List.find?_append, List.find?_append]
        cases hf : rs'.find? (fun r => decide (c ≤ r.2)) with
        | some r => simp
        | none =>
          simp only [Option.none_or, List.find?_cons, List.find?_nil]
          by_cases h6 : c ≤ tail l k
          · simp [h6, show c ≤ tail l (k + 1) by omega]
          · by_cases h7 : c ≤ tail l (k + 1)
            · simp [h6, h7, show tail l (k + 1) = c by omega]; omega
            · simp [h6, h7, show ¬ tail l (k + 1) = c by omega]
      · have h5 := h1
        rw [runsTo, hk, if_neg (by simp), if_neg hp] at h5
        have e := List.append_inj' h5 rfl
        obtain ⟨rfl, e2⟩ := e
        simp at e2
        obtain ⟨rfl, e2⟩ := e2
        rw [ih, List.find?_append]
        cases hf : (runsTo l k).find? (fun r => decide (c ≤ r.2)) with
        | some r => simp
        | none =>
          simp only [Option.none_or, List.find?_cons, List.find?_nil, Option.map_none]
          rw [← e2]
          by_cases h7 : c ≤ 1
          · simp [show c = 1 by omega]
          · simp [h7]; omega
def setOk (l : List UInt8) (s c : Int) : Bool := decide (0 ≤ s ∧ 0 ≤ c ∧ c + s ≤ 8 * l.length)
def setL (l : List UInt8) (s c : Int) (on : Bool) : List UInt8 := if setOk l s c then setTo l s.toNat on c.toNat else []
end Go.Proofs.Ytejcmdolhmojaaa
