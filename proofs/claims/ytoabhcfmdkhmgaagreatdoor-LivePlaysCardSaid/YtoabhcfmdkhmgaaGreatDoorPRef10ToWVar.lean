/- Joined texts of one proof: Ref10, Wire2, WVar. -/
import Derived.Test.YtoabhcfmdkhmgaaGreatDoorPTokToWDictR
import Derived.Test.YtoabhcfmdkhmgaaGreatDoorPKitToSegSpec
import Derived.Test.YtoabhcfmdkhmgaaGreatDoorProg
import Derived.WalkKit
import Derived.WalkSpells
import Derived.WalkLawsBesides
import Derived.Outline
import Derived.KernelRfl
set_option linter.unusedSimpArgs false
set_option linter.unusedVariables false
set_option linter.unnecessarySimpa false
/- (Ref10) Plain: what the reference of chapter 10 computes is what chapter 10 computes. No program in sight. -/
section
namespace Go.Proofs.YtoabhcfmdkhmgaaGreatDoor
set_option linter.unusedVariables false

/-- the number that n bytes would say -/
def v0R (s : Bytes) (n : Nat) : Int := ((s.getD 0 0).toNat : Int) - (if n = 2 then 192 else if n = 3 then 224 else if n = 4 then 240 else 0)
def accR (s : Bytes) (n : Nat) : Nat → Int
  | 0 => v0R s n
  | i + 1 => 64 * accR s n i + ((s.getD (i + 1) 0).toNat : Int) - 128
/-- n bytes are a rune's -/
def okR (s : Bytes) (n : Nat) : Bool := Lib.validRune (accR s n (n - 1)) && decide (Lib.encodeRune (accR s n (n - 1)) = s.take n)
theorem toNat8 (x : Int) (h0 : 0 ≤ x) (h1 : x < 256) : (x.toNat.toUInt8).toNat = x.toNat := by
  rw [Nat.toUInt8_eq, UInt8.toNat_ofNat']
  omega
theorem u8_eq_iff (x : Int) (h0 : 0 ≤ x) (h1 : x < 256) (b : UInt8) : x.toNat.toUInt8 = b ↔ x = (b.toNat : Int) := by
  rw [← UInt8.toNat_inj, toNat8 x h0 h1]; omega
theorem validRune_iff (r : Int) : Lib.validRune r = true ↔ (0 ≤ r ∧ r < 55296) ∨ (57343 < r ∧ r ≤ 1114111) := by
  unfold Lib.validRune; simp
theorem okR_one (s : Bytes) (h : 1 ≤ s.length) : okR s 1 = true ↔ (s.getD 0 0).toNat < 128 := by
  obtain ⟨b0, t, rfl⟩ : ∃ b t, s = b :: t := List.exists_cons_of_ne_nil (by intro e; subst e; simp at h)
  have hb := b0.toNat_lt
  have hv : accR (b0 :: t) 1 0 = (b0.toNat : Int) := by simp [accR, v0R]
  simp only [okR, Nat.sub_self, hv, Bool.and_eq_true, validRune_iff, decide_eq_true_eq, List.take_succ_cons, List.take_zero, List.getD_cons_zero]
  constructor
  · rintro ⟨_, h2⟩
    by_cases hlt : b0.toNat < 128
    · exact hlt
    · have := congrArg List.length h2
      unfold Lib.encodeRune at this
      rw [Lib.encodeRuneZ_two (by omega) (by omega)] at this
      simp at this
  · intro hlt
    refine ⟨.inl (by omega), ?_⟩
    unfold Lib.encodeRune
    rw [Lib.encodeRuneZ_one (by omega) (by omega)]
    simp
theorem okR_two (b0 b1 : UInt8) (t : Bytes) : okR (b0 :: b1 :: t) 2 = true ↔ b0.toNat / 32 = 6 ∧ b1.toNat / 64 = 2 ∧ 128 ≤ b0.toNat % 32 * 64 + b1.toNat % 64 := by
  have hb := b0.toNat_lt; have hb1 := b1.toNat_lt
  have hv : accR (b0 :: b1 :: t) 2 1 = 64 * ((b0.toNat : Int) - 192) + (b1.toNat : Int) - 128 := by simp [accR, v0R]
  simp only [okR, Nat.add_one_sub_one, hv, Bool.and_eq_true, validRune_iff, decide_eq_true_eq, List.take_succ_cons, List.take_zero]
  generalize hw : 64 * ((b0.toNat : Int) - 192) + (b1.toNat : Int) - 128 = v
  constructor
  · rintro ⟨h1, h2⟩
    have hl := congrArg List.length h2
    unfold Lib.encodeRune at h2 hl
    by_cases c1 : v ≤ 127
    · rw [Lib.encodeRuneZ_one (by omega) (by omega)] at hl; simp at hl
    · by_cases c2 : v ≤ 2047
      · rw [Lib.encodeRuneZ_two (by omega) (by omega)] at h2
        simp only [List.map_cons, List.map_nil, List.cons.injEq, and_true] at h2
        rw [u8_eq_iff _ (by omega) (by omega), u8_eq_iff _ (by omega) (by omega)] at h2
        omega
      · by_cases c3 : v ≤ 65535
        · rw [Lib.encodeRuneZ_three (by omega)] at hl; simp at hl
        · rw [Lib.encodeRuneZ_four (by omega) (by omega)] at hl; simp at hl
  · rintro ⟨h1, h2, h3⟩
    refine ⟨by omega, ?_⟩
    unfold Lib.encodeRune
    rw [Lib.encodeRuneZ_two (by omega) (by omega)]
    simp only [List.map_cons, List.map_nil, List.cons.injEq, and_true]
    rw [u8_eq_iff _ (by omega) (by omega), u8_eq_iff _ (by omega) (by omega)]
    omega
theorem okR_three (b0 b1 b2 : UInt8) (t : Bytes) : okR (b0 :: b1 :: b2 :: t) 3 = true ↔ b0.toNat / 16 = 14 ∧ b1.toNat / 64 = 2 ∧ b2.toNat / 64 = 2 ∧ 2048 ≤ b0.toNat % 16 * 4096 + b1.toNat % 64 * 64 + b2.toNat % 64 ∧ (b0.toNat % 16 * 4096 + b1.toNat % 64 * 64 + b2.toNat % 64 < 55296 ∨ (57344 ≤ b0.toNat % 16 * 4096 + b1.toNat % 64 * 64 + b2.toNat % 64 ∧ b0.toNat % 16 * 4096 + b1.toNat % 64 * 64 + b2.toNat % 64 ≤ 1114111)) := by
  have hb := b0.toNat_lt; have hb1 := b1.toNat_lt; have hb2 := b2.toNat_lt
  have hv : accR (b0 :: b1 :: b2 :: t) 3 2 = 64 * (64 * ((b0.toNat : Int) - 224) + (b1.toNat : Int) - 128) + (b2.toNat : Int) - 128 := by simp [accR, v0R]
  simp only [okR, Nat.add_one_sub_one, hv, Bool.and_eq_true, validRune_iff, decide_eq_true_eq, List.take_succ_cons, List.take_zero]
  generalize hw : 64 * (64 * ((b0.toNat : Int) - 224) + (b1.toNat : Int) - 128) + (b2.toNat : Int) - 128 = v
  constructor
  · rintro ⟨h1, h2⟩
    have hl := congrArg List.length h2
    unfold Lib.encodeRune at h2 hl
    by_cases c1 : v ≤ 127
    · rw [Lib.encodeRuneZ_one (by omega) (by omega)] at hl; simp at hl
    · by_cases c2 : v ≤ 2047
      · rw [Lib.encodeRuneZ_two (by omega) (by omega)] at hl; simp at hl
      · by_cases c3 : v ≤ 65535
        · rw [Lib.encodeRuneZ_three (by omega)] at h2
          simp only [List.map_cons, List.map_nil, List.cons.injEq, and_true] at h2
          rw [u8_eq_iff _ (by omega) (by omega), u8_eq_iff _ (by omega) (by omega), u8_eq_iff _ (by omega) (by omega)] at h2
          omega
        · rw [Lib.encodeRuneZ_four (by omega) (by omega)] at hl; simp at hl
  · rintro ⟨h1, h2, h3, h4, h5⟩
    refine ⟨by omega, ?_⟩
    unfold Lib.encodeRune
    rw [Lib.encodeRuneZ_three (by omega)]
    simp only [List.map_cons, List.map_nil, List.cons.injEq, and_true]
    rw [u8_eq_iff _ (by omega) (by omega), u8_eq_iff _ (by omega) (by omega), u8_eq_iff _ (by omega) (by omega)]
    omega
theorem okR_four (b0 b1 b2 b3 : UInt8) (t : Bytes) : okR (b0 :: b1 :: b2 :: b3 :: t) 4 = true ↔ b0.toNat / 8 = 30 ∧ b1.toNat / 64 = 2 ∧ b2.toNat / 64 = 2 ∧ b3.toNat / 64 = 2 ∧ 65536 ≤ b0.toNat % 8 * 262144 + b1.toNat % 64 * 4096 + b2.toNat % 64 * 64 + b3.toNat % 64 ∧ b0.toNat % 8 * 262144 + b1.toNat % 64 * 4096 + b2.toNat % 64 * 64 + b3.toNat % 64 ≤ 1114111 := by
  have hb := b0.toNat_lt; have hb1 := b1.toNat_lt; have hb2 := b2.toNat_lt; have hb3 := b3.toNat_lt
  have hv : accR (b0 :: b1 :: b2 :: b3 :: t) 4 3 = 64 * (64 * (64 * ((b0.toNat : Int) - 240) + (b1.toNat : Int) - 128) + (b2.toNat : Int) - 128) + (b3.toNat : Int) - 128 := by simp [accR, v0R]
  simp only [okR, Nat.add_one_sub_one, hv, Bool.and_eq_true, validRune_iff, decide_eq_true_eq, List.take_succ_cons, List.take_zero]
  generalize hw : 64 * (64 * (64 * ((b0.toNat : Int) - 240) + (b1.toNat : Int) - 128) + (b2.toNat : Int) - 128) + (b3.toNat : Int) - 128 = v
  constructor
  · rintro ⟨h1, h2⟩
    have hl := congrArg List.length h2
    unfold Lib.encodeRune at h2 hl
    by_cases c1 : v ≤ 127
    · rw [Lib.encodeRuneZ_one (by omega) (by omega)] at hl; simp at hl
    · by_cases c2 : v ≤ 2047
      · rw [Lib.encodeRuneZ_two (by omega) (by omega)] at hl; simp at hl
      · by_cases c3 : v ≤ 65535
        · rw [Lib.encodeRuneZ_three (by omega)] at hl; simp at hl
        · rw [Lib.encodeRuneZ_four (by omega) (by omega)] at h2
          simp only [List.map_cons, List.map_nil, List.cons.injEq, and_true] at h2
          rw [u8_eq_iff _ (by omega) (by omega), u8_eq_iff _ (by omega) (by omega), u8_eq_iff _ (by omega) (by omega), u8_eq_iff _ (by omega) (by omega)] at h2
          omega
  · rintro ⟨h1, h2, h3, h4, h5, h6⟩
    refine ⟨by omega, ?_⟩
    unfold Lib.encodeRune
    rw [Lib.encodeRuneZ_four (by omega) (by omega)]
    simp only [List.map_cons, List.map_nil, List.cons.injEq, and_true]
    rw [u8_eq_iff _ (by omega) (by omega), u8_eq_iff _ (by omega) (by omega), u8_eq_iff _ (by omega) (by omega), u8_eq_iff _ (by omega) (by omega)]
    omega
/-- the reference's answer -/
def runeR (s : Bytes) : Int × Nat :=
  if s = [] then (-1, 0)
  else if okR s 1 then (accR s 1 0, 1)
  else if 2 ≤ s.length ∧ okR s 2 then (accR s 2 1, 2)
  else if 3 ≤ s.length ∧ okR s 3 then (accR s 3 2, 3)
  else if 4 ≤ s.length ∧ okR s 4 then (accR s 4 3, 4)
  else (-1, 1)
theorem runeR_eq (s : Bytes) : runeR s = rune1 s := by
  match s with
  | [] => rfl
  | [b0] =>
    have hb0 := b0.toNat_lt
    have e1 := okR_one [b0] (by simp)
    unfold runeR rune1 Lib.decodeN
    simp only [e1, accR, v0R]
    simp
    repeat' split
    all_goals first | rfl | (exfalso; omega) | (apply Prod.ext <;> simp only <;> omega)
  | [b0, b1] =>
    have hb0 := b0.toNat_lt; have hb1 := b1.toNat_lt
    have e1 := okR_one [b0, b1] (by simp)
    have e2 := okR_two b0 b1 []
    unfold runeR rune1 Lib.decodeN
    simp only [e1, e2, accR, v0R]
    simp
    repeat' split
    all_goals first | rfl | (exfalso; omega) | (apply Prod.ext <;> simp only <;> omega)
  | [b0, b1, b2] =>
    have hb0 := b0.toNat_lt; have hb1 := b1.toNat_lt; have hb2 := b2.toNat_lt
    have e1 := okR_one [b0, b1, b2] (by simp)
    have e2 := okR_two b0 b1 [b2]
    have e3 := okR_three b0 b1 b2 []
    unfold runeR rune1 Lib.decodeN
    simp only [e1, e2, e3, accR, v0R]
    simp
    repeat' split
    all_goals first | rfl | (exfalso; omega) | (apply Prod.ext <;> simp only <;> omega)
  | b0 :: b1 :: b2 :: b3 :: t =>
    have hb0 := b0.toNat_lt; have hb1 := b1.toNat_lt; have hb2 := b2.toNat_lt; have hb3 := b3.toNat_lt
    have e1 := okR_one (b0 :: b1 :: b2 :: b3 :: t) (by simp)
    have e2 := okR_two b0 b1 (b2 :: b3 :: t)
    have e3 := okR_three b0 b1 b2 (b3 :: t)
    have e4 := okR_four b0 b1 b2 b3 t
    have hl : 4 ≤ (b0 :: b1 :: b2 :: b3 :: t).length := by simp
    generalize hs : b0 :: b1 :: b2 :: b3 :: t = s at *
    have g0 : s.getD 0 0 = b0 := by rw [← hs]; rfl
    have g1 : s.getD 1 0 = b1 := by rw [← hs]; rfl
    have g2 : s.getD 2 0 = b2 := by rw [← hs]; rfl
    have g3 : s.getD 3 0 = b3 := by rw [← hs]; rfl
    have hne : s ≠ [] := by rw [← hs]; simp
    have hr1 : rune1 s = if (Lib.decodeN s.length b0.toNat b1.toNat b2.toNat b3.toNat).1 = 65533 ∧ (Lib.decodeN s.length b0.toNat b1.toNat b2.toNat b3.toNat).2 < 3 then (-1, (Lib.decodeN s.length b0.toNat b1.toNat b2.toNat b3.toNat).2) else (((Lib.decodeN s.length b0.toNat b1.toNat b2.toNat b3.toNat).1 : Int), (Lib.decodeN s.length b0.toNat b1.toNat b2.toNat b3.toNat).2) := by
      rw [← hs]; rfl
    rw [hr1]
    clear hr1 hs
    unfold runeR Lib.decodeN
    simp only [if_neg hne, e1, e2, e3, e4, accR, v0R, g0, g1, g2, g3]
    generalize s.length = n at *
    clear e1 e2 e3 e4 g0 g1 g2 g3 hne
    generalize b0.toNat = x0 at *; generalize b1.toNat = x1 at *; generalize b2.toNat = x2 at *; generalize b3.toNat = x3 at *
    simp
    repeat' split
    all_goals first | rfl | (exfalso; omega) | (apply Prod.ext <;> simp only <;> omega)
end Go.Proofs.YtoabhcfmdkhmgaaGreatDoor
end

/- (Wire2) Plain laws of chapter 2: how a number is read. No program in sight. -/
section
namespace Go.Proofs.YtoabhcfmdkhmgaaGreatDoor

def byteN (s : Bytes) (k : Nat) : Nat := (s.getD k 0).toNat
/-- what the first k bytes tell -/
def accN (s : Bytes) : Nat → Nat
  | 0 => 0
  | k + 1 => accN s k + byteN s k % 128 * 128 ^ k
theorem byteN_lt (s : Bytes) (k : Nat) : byteN s k < 256 := UInt8.toNat_lt _
theorem accN_lt (s : Bytes) (k : Nat) : accN s k < 128 ^ k := by
  induction k with
  | zero => simp [accN]
  | succ k ih =>
    rw [accN, Nat.pow_succ]
    have h1 : byteN s k % 128 ≤ 127 := by omega
    have h2 := Nat.mul_le_mul_right (128 ^ k) h1
    omega
theorem accN_cons (c : UInt8) (t : Bytes) (k : Nat) : accN (c :: t) (k + 1) = c.toNat % 128 + 128 * accN t k := by
  induction k with
  | zero => simp [accN, byteN]
  | succ k ih =>
    rw [accN, ih, accN]
    have : byteN (c :: t) (k + 1) = byteN t k := rfl
    rw [this, Nat.pow_succ, Nat.mul_add]
    have e : byteN t k % 128 * (128 ^ k * 128) = 128 * (byteN t k % 128 * 128 ^ k) := by rw [← Nat.mul_assoc, Nat.mul_comm]
    rw [e]; omega
/-- a number's bytes: all but the last go on; the last one ends it, and is no nought unless it stands alone -/
def Ends (s : Bytes) (k : Nat) : Prop := k < s.length ∧ (∀ j, j < k → 128 ≤ byteN s j) ∧ byteN s k < 128 ∧ (0 < k → byteN s k ≠ 0)
theorem accN_pos (s : Bytes) (k : Nat) (h : Ends s k) (hk : 0 < k) : 0 < accN s (k + 1) := by
  rw [accN]
  have h1 : 0 < byteN s k % 128 := by have := h.2.2.1; have := h.2.2.2 hk; omega
  have := Nat.mul_pos h1 (Nat.pow_pos (n := k) (show 0 < 128 by omega))
  omega
theorem varF_of_ends (n k : Nat) (s : Bytes) (h : Ends s k) (hn : k < n) : varF n (accN s (k + 1)) = s.take (k + 1) := by
  induction k generalizing n s with
  | zero =>
    obtain ⟨h1, _, h3, _⟩ := h
    cases s with
    | nil => simp at h1
    | cons c t =>
      cases n with
      | zero => omega
      | succ n =>
        have e : accN (c :: t) 1 = c.toNat := by
          have : c.toNat < 128 := h3
          simp [accN, byteN]; omega
        have hc : c.toNat < 128 := h3
        rw [Nat.zero_add, e, varF, if_pos hc]
        simp
  | succ k ih =>
    obtain ⟨h1, h2, h3, h4⟩ := h
    cases s with
    | nil => simp at h1
    | cons c t =>
      cases n with
      | zero => omega
      | succ n =>
        have ht : Ends t k := ⟨by simpa using h1, fun j hj => h2 (j + 1) (by omega), h3, fun _ => h4 (by omega)⟩
        have hpos : 0 < accN t (k + 1) := by
          by_cases hk : 0 < k
          · exact accN_pos t k ht hk
          · have hk0 : k = 0 := by omega
            subst hk0
            have h5 : byteN t 0 ≠ 0 := h4 (by omega)
            have h6 : byteN t 0 < 128 := h3
            have e : accN t (0 + 1) = byteN t 0 % 128 := by simp [accN]
            rw [e]; omega
        have hc : 128 ≤ c.toNat := h2 0 (by omega)
        have hc2 := UInt8.toNat_lt c
        rw [accN_cons, varF, if_neg (by omega), show (c.toNat % 128 + 128 * accN t (k + 1)) % 128 + 128 = c.toNat by omega,
          show (c.toNat % 128 + 128 * accN t (k + 1)) / 128 = accN t (k + 1) by omega, ih n t ht (by omega)]
        simp
theorem ends_of_varF (n v : Nat) (hv : v < 128 ^ n) (hn : 0 < n) : ∃ k, k < n ∧ (varF n v).length = k + 1 ∧ Ends (varF n v) k ∧ accN (varF n v) (k + 1) = v := by
  induction n generalizing v with
  | zero => omega
  | succ n ih =>
    rw [varF]
    by_cases h : v < 128
    · rw [if_pos h]
      have hb : byteN [UInt8.ofNat v] 0 = v := toNat_ofNat v (by omega)
      exact ⟨0, by omega, rfl, ⟨by simp, fun j hj => by omega, by rw [hb]; exact h, fun h0 => by omega⟩, by simp [accN, hb]; omega⟩
    · rw [if_neg h]
      have hn0 : 0 < n := by
        rcases Nat.eq_zero_or_pos n with h0 | h0
        · subst h0; simp at hv; omega
        · exact h0
      rw [Nat.pow_succ] at hv
      obtain ⟨k, h1, h2, ⟨h3, h4, h5, h6⟩, h7⟩ := ih (v / 128) (by rw [Nat.div_lt_iff_lt_mul (by omega)]; omega) hn0
      have hc : (UInt8.ofNat (v % 128 + 128)).toNat = v % 128 + 128 := toNat_ofNat _ (by omega)
      refine ⟨k + 1, by omega, by simp [h2], ⟨by simpa using h3, fun j hj => ?_, h5, fun _ => ?_⟩, ?_⟩
      · cases j with
        | zero => show 128 ≤ (UInt8.ofNat (v % 128 + 128)).toNat; omega
        | succ j => exact h4 j (by omega)
      · show byteN (varF n (v / 128)) k ≠ 0
        by_cases hk : 0 < k
        · exact h6 hk
        · have hk0 : k = 0 := by omega
          subst hk0
          rw [Nat.zero_add, accN, accN] at h7
          simp at h7
          omega
      · rw [accN_cons, h7, hc]; omega
theorem pow9 : (128 : Nat) ^ 9 = 9223372036854775808 := by decide
/-- what ends a number is read as that number -/
theorem isVar_of_ends (s : Bytes) (k : Nat) (h : Ends s k) (hk : k < 10) (h9 : k = 9 → byteN s k ≤ 1) : IsVar s (accN s (k + 1)) (s.drop (k + 1)) := by
  refine ⟨?_, ?_⟩
  · have h1 := accN_lt s (k + 1)
    by_cases e : k = 9
    · subst e
      have h2 := accN_lt s 9
      rw [accN]
      have h3 := h9 rfl
      have h4 : byteN s 9 % 128 ≤ 1 := by omega
      have h5 := Nat.mul_le_mul_right (128 ^ 9) h4
      rw [pow9] at h2 h5 ⊢
      omega
    · have : 128 ^ (k + 1) ≤ 128 ^ 9 := Nat.pow_le_pow_right (by omega) (by omega)
      rw [pow9] at this
      omega
  · unfold varE
    rw [varF_of_ends 10 k s h hk, List.take_append_drop]
theorem byteN_append (a b : Bytes) (k : Nat) (h : k < a.length) : byteN (a ++ b) k = byteN a k := by
  unfold byteN
  rw [List.getD_eq_getElem?_getD, List.getD_eq_getElem?_getD, List.getElem?_append_left h]
/-- where a number is read, it ends -/
theorem ends_of_isVar (s : Bytes) (v : Nat) (r : Bytes) (h : IsVar s v r) : ∃ k, k < 10 ∧ Ends s k ∧ (k = 9 → byteN s k ≤ 1) := by
  obtain ⟨hv, rfl⟩ := h
  unfold varE
  obtain ⟨k, h1, h2, ⟨h3, h4, h5, h6⟩, h7⟩ := ends_of_varF 10 v (lt64 v hv) (by omega)
  refine ⟨k, h1, ⟨by simp; omega, fun j hj => ?_, ?_, fun h0 => ?_⟩, fun e => ?_⟩
  · rw [byteN_append _ _ _ (by omega)]; exact h4 j hj
  · rw [byteN_append _ _ _ (by omega)]; exact h5
  · rw [byteN_append _ _ _ (by omega)]; exact h6 h0
  · rw [byteN_append _ _ _ (by omega)]
    subst e
    rw [accN] at h7
    have h8 : byteN (varF 10 v) 9 % 128 = byteN (varF 10 v) 9 := by omega
    rw [h8, pow9] at h7
    by_cases h9 : byteN (varF 10 v) 9 ≤ 1
    · exact h9
    · have : 2 ≤ byteN (varF 10 v) 9 := by omega
      have := Nat.mul_le_mul_right 9223372036854775808 this
      omega
/-- a number ends at one place alone -/
theorem ends_one (s : Bytes) (j k : Nat) (h : Ends s j) (hj : byteN s k < 128) (hk : ∀ i, i < k → 128 ≤ byteN s i) : j = k := by
  rcases Nat.lt_trichotomy j k with h1 | h1 | h1
  · have := hk j h1; have := h.2.2.1; omega
  · exact h1
  · have := h.2.1 k h1; omega
end Go.Proofs.YtoabhcfmdkhmgaaGreatDoor
end

/- (WVar) wire.ToVar: walked -/
section
namespace Go.Proofs.YtoabhcfmdkhmgaaGreatDoor
open Go.RowKit
set_option linter.unusedVariables false

theorem byteAt (s : Bytes) (k : Nat) (h : k < s.length) : ((({ data := s.toArray } : ByteArray)[k]'h).toNat : Int) = (byteN s k : Nat) := by
  unfold byteN
  rw [List.getD_eq_getElem?_getD, List.getElem?_eq_getElem h]; rfl
/-- a byte more, in the walk's own spelling -/
theorem walk_or (s : Bytes) (k b : Nat) (hb : byteN s k = b) (hk : k < 10) (h9 : k = 9 → b ≤ 1) :
    bits .or .u64 ((accN s k : Nat) : Int) (IntKind.u64.wrap (IntKind.u64.wrap (bits .and .u8 (b : Int) 127) * 2 ^ (7 * k))) = ((accN s (k + 1) : Nat) : Int) := by
  have hlt : b < 256 := by rw [← hb]; exact byteN_lt s k
  have h1 : bits .and .u8 (b : Int) ((127 : Nat) : Int) = ((b &&& 127 : Nat) : Int) := u8_and_nat b 127 hlt (by decide)
  rw [show ((127 : Nat) : Int) = 127 from rfl, nat_mask7] at h1
  rw [h1]
  have hp : (128 : Nat) ^ k = 2 ^ (7 * k) := by rw [show 128 = 2 ^ 7 from rfl, ← Nat.pow_mul]
  have hpow : (2 : Nat) ^ (7 * k) ≤ 2 ^ 63 := Nat.pow_le_pow_right (by omega) (by omega)
  have hacc := accN_lt s k
  rw [hp] at hacc
  have h2 : b % 128 * 2 ^ (7 * k) < 18446744073709551616 := by
    by_cases e : k = 9
    · subst e
      have := h9 rfl
      have h3 : b % 128 ≤ 1 := by omega
      have := Nat.mul_le_mul_right (2 ^ (7 * 9)) h3
      have h4 : (2 : Nat) ^ (7 * 9) = 9223372036854775808 := by decide
      omega
    · have h3 : (2 : Nat) ^ (7 * k) ≤ 2 ^ 56 := Nat.pow_le_pow_right (by omega) (by omega)
      have h4 : b % 128 ≤ 127 := by omega
      have := Nat.mul_le_mul h4 h3
      have h5 : (127 : Nat) * 2 ^ 56 < 18446744073709551616 := by decide
      omega
  have w1 : IntKind.u64.wrap ((b % 128 : Nat) : Int) = ((b % 128 : Nat) : Int) := by
    simp only [IntKind.wrap, IntKind.bits, IntKind.signed]; simp; omega
  have w2 : IntKind.u64.wrap ((b % 128 * 2 ^ (7 * k) : Nat) : Int) = ((b % 128 * 2 ^ (7 * k) : Nat) : Int) := by
    generalize b % 128 * 2 ^ (7 * k) = z at *
    simp only [IntKind.wrap, IntKind.bits, IntKind.signed]; simp; omega
  rw [w1, show (((b % 128 : Nat) : Int) * 2 ^ (7 * k)) = ((b % 128 * 2 ^ (7 * k) : Nat) : Int) by simp, w2]
  have h63 : (2 : Nat) ^ 63 = 9223372036854775808 := by decide
  rw [u64_or_nat _ _ (by omega) h2]
  have hj := nat_join (7 * k) (b % 128 * 2 ^ (7 * k)) (accN s k) (by rw [Nat.mul_mod_left]) hacc
  rw [Nat.or_comm, hj, accN, hb, hp]
  congr 1
  omega

set_option maxHeartbeats 1000000 in
theorem ToVar_some (s : Bytes) (v : Nat) (r : Bytes) (w : World) (hs : s.length ≤ 9223372036854775807) (h : IsVar s v r) :
    Calls Tryz.prog 95 #[.string ⟨s.toArray⟩] w fun e w' => e = .returned (.tuple #[.int .u64 v, .string ⟨r.toArray⟩, .bool true]) ∧ Q w w' := by
  obtain ⟨k0, hk10, hends, h9⟩ := ends_of_isVar s v r h
  obtain ⟨rfl, rfl⟩ := IsVar.one h (isVar_of_ends s k0 hends hk10 h9)
  clear h
  obtain ⟨e1, e2, e3, e4⟩ := hends
  have E2 := Lib.hid e2; have E4 := Lib.hid e4; have H9 := Lib.hid h9
  clear e2 e4 h9
  by_cases hl : s.length ≤ 10
  all_goals
    go_enter Tryz.func95, Tryz.ntmps95
    go_wp2_with fail
    go_loop [11, 5, 6, 7] (fun i x _ _ => ∃ k : Nat, k ≤ k0 ∧ i = .int .i64 k ∧ x = .int .u64 (accN s k : Nat)) (fun i _ _ _ => 10 - (intOf i).toNat)
    case atStart => exact ⟨0, by omega, rfl, rfl⟩
    case round =>
      obtain ⟨k, hk, rfl, rfl⟩ := hrel
      have hb := byteN_lt s k
      have hacc := accN_lt s k
      have hsl : k < s.length := by omega
      have hbk : ((({ data := s.toArray } : ByteArray)[k]'hsl).toNat : Int) = (byteN s k : Nat) := byteAt s k hsl
      by_cases hlt : k < k0
      · have hb2 := E2.out k hlt
        have hw := walk_or s k (byteN s k) rfl (by omega) (fun h => by omega)
        have hx1 : (127 : Int) < (({ data := s.toArray } : ByteArray)[k]'hsl).toNat := by rw [hbk]; omega
        rw [← hbk] at hw
        have HW := Lib.hid hw; clear hw hbk
        go_wp2_with fail
        go_round
        case rel => exact ⟨k + 1, by omega, by go_num, int_eq (by rw [← HW.out])⟩
        case measure => simp [intOf]; omega
      · have hkk : k = k0 := by omega
        subst hkk
        have hw := walk_or s k (byteN s k) rfl hk10 H9.out
        rw [← hbk] at hw
        have hx1 : (({ data := s.toArray } : ByteArray)[k]'hsl).toNat ≤ (127 : Int) := by rw [hbk]; omega
        have hx0 : (0 : Int) ≤ (({ data := s.toArray } : ByteArray)[k]'hsl).toNat := by omega
        have h9b : k = 9 → ((({ data := s.toArray } : ByteArray)[k]'hsl).toNat : Int) ≤ 1 := fun h => by rw [hbk]; have := H9.out h; omega
        have h0b : 0 < k → ((((({ data := s.toArray } : ByteArray)[k]'hsl).toNat : Int)) == 0) = false := fun h => by
          rw [beq_eq_false_iff_ne, hbk]; have := E4.out h; omega
        have hdrop : s.drop (k + 1) = (s.drop (k + 1)) := rfl
        have HW := Lib.hid hw; have H9B := Lib.hid h9b; have H0B := Lib.hid h0b; clear hw hbk h9b h0b hdrop
        by_cases h9 : k = 9
        · have q9 : ((k : Int) == 9) = true := by rw [beq_iff_eq]; omega
          have q1 := H9B.out h9
          have q0 := H0B.out (by omega)
          have hk0 : 0 < k := by omega
          clear h9
          go_wp2_with fail
          have z1 : IntKind.i64.wrap ((k : Int) + 1) = (k : Int) + 1 := IntWalk.i64_in _ (by omega)
          have z2 : (0 : Int) ≤ (k : Int) + 1 := by omega
          have z3 : ((k : Int) + 1).toNat = k + 1 := by omega
          go_quiet (fail)
          clear z1 z2 z3
          go_wp2_with fail
          go_ret3
          exact ⟨ret_num_str HW.out (bytes_drop s (k + 1)), Q.drewN _ _⟩
        · have q9 : ((k : Int) == 9) = false := by rw [beq_eq_false_iff_ne]; omega
          clear h9
          by_cases hk0 : 0 < k
          · have q0 := H0B.out hk0
            go_wp2_with fail
            have z1 : IntKind.i64.wrap ((k : Int) + 1) = (k : Int) + 1 := IntWalk.i64_in _ (by omega)
            have z2 : (0 : Int) ≤ (k : Int) + 1 := by omega
            have z3 : ((k : Int) + 1).toNat = k + 1 := by omega
            go_quiet (fail)
            clear z1 z2 z3
            go_wp2_with fail
            go_ret3
            exact ⟨ret_num_str HW.out (bytes_drop s (k + 1)), Q.drewN _ _⟩
          · have hk0 : k = 0 := by omega
            subst hk0
            have hw0 := HW.out
            rw [show ((2 : Int) ^ (7 * 0)) = 1 from rfl, Int.mul_one] at hw0
            have HW := Lib.hid hw0
            clear hw0
            go_wp2_with fail
            have z1 : IntKind.i64.wrap 1 = 1 := IntWalk.i64_in _ (by omega)
            go_quiet (fail)
            clear z1
            go_wp2_with fail
            go_ret3
            exact ⟨ret_num_str HW.out (bytes_drop s (0 + 1)), Q.drewN _ _⟩

set_option maxHeartbeats 1000000 in
theorem ToVar_none (s : Bytes) (w : World) (hs : s.length ≤ 9223372036854775807) (h : ∀ v r, ¬ IsVar s v r) :
    Calls Tryz.prog 95 #[.string ⟨s.toArray⟩] w fun e w' => e = .returned (.tuple #[.int .u64 0, .string ⟨([] : Bytes).toArray⟩, .bool false]) ∧ Q w w' := by
  have H := Lib.hid h; clear h
  by_cases hl : s.length ≤ 10
  all_goals
    go_enter Tryz.func95, Tryz.ntmps95
    go_wp2_with fail
    go_loop [11, 5, 6, 7] (fun i x _ _ => ∃ k : Nat, k ≤ s.length ∧ k ≤ 10 ∧ i = .int .i64 k ∧ (∃ z : Int, x = .int .u64 z) ∧ Hid (∀ j, j < k → 128 ≤ byteN s j)) (fun i _ _ _ => 10 - (intOf i).toNat)
    case atStart => exact ⟨0, by omega, by omega, rfl, ⟨0, rfl⟩, fun j h => by omega⟩
    case round =>
      obtain ⟨k, hk, hk10, rfl, ⟨z, rfl⟩, HJ⟩ := hrel
      have hb := byteN_lt s k
      by_cases hlt : k < s.length ∧ k < 10
      · obtain ⟨hsl, hk9⟩ := hlt
        have hbk : ((({ data := s.toArray } : ByteArray)[k]'hsl).toNat : Int) = (byteN s k : Nat) := byteAt s k hsl
        by_cases hgo : 128 ≤ byteN s k
        · have hx1 : (127 : Int) < (({ data := s.toArray } : ByteArray)[k]'hsl).toNat := by rw [hbk]; omega
          clear hbk
          go_wp2_with fail
          go_round
          case rel => exact ⟨k + 1, by omega, by omega, by go_num, ⟨_, rfl⟩, fun j hj => by
            by_cases e : j = k
            · subst e; exact hgo
            · exact HJ.out j (by omega)⟩
          case measure => simp [intOf]; omega
        · have hx1 : (({ data := s.toArray } : ByteArray)[k]'hsl).toNat ≤ (127 : Int) := by rw [hbk]; omega
          have hx0 : (0 : Int) ≤ (({ data := s.toArray } : ByteArray)[k]'hsl).toNat := by omega
          by_cases c9 : k = 9 ∧ 1 < byteN s k
          · have q9 : ((k : Int) == 9) = true := by rw [beq_iff_eq]; omega
            have q1 : (1 : Int) < (({ data := s.toArray } : ByteArray)[k]'hsl).toNat := by rw [hbk]; omega
            clear hbk c9
            go_wp2_with fail
            go_ret3
            exact ⟨rfl, Q.refl _⟩
          · by_cases c0 : 0 < k ∧ byteN s k = 0
            · obtain ⟨hk0, hz⟩ := c0
              have q0 : ((((({ data := s.toArray } : ByteArray)[k]'hsl).toNat : Int)) == 0) = true := by rw [beq_iff_eq, hbk]; omega
              clear hbk hz
              by_cases e9 : k = 9
              · have q9 : ((k : Int) == 9) = true := by rw [beq_iff_eq]; omega
                have q1 : (({ data := s.toArray } : ByteArray)[k]'hsl).toNat ≤ (1 : Int) := by rw [beq_iff_eq] at q0; omega
                clear e9 c9
                go_wp2_with fail
                go_ret3
                exact ⟨rfl, Q.refl _⟩
              · have q9 : ((k : Int) == 9) = false := by rw [beq_eq_false_iff_ne]; omega
                clear e9 c9
                go_wp2_with fail
                go_ret3
                exact ⟨rfl, Q.refl _⟩
            · exact absurd (isVar_of_ends s k ⟨hsl, HJ.out, by omega, fun h0 hz => c0 ⟨h0, hz⟩⟩ hk9 (fun e => by omega)) (H.out _ _)
      · have hge : s.length ≤ k ∨ 10 ≤ k := by omega
        go_wp2_with fail
        go_ret3
        exact ⟨rfl, Q.refl _⟩
end Go.Proofs.YtoabhcfmdkhmgaaGreatDoor
end
