/- Joined texts of one proof: Wire2, WVar, WText, Mem3. -/
import Derived.Test.YtcflpcpkmhljkaaGreatDoorMKitToSegSpec
import Derived.Test.YtcflpcpkmhljkaaGreatDoorProg
import Derived.WalkKit
import Derived.WalkSpells
import Derived.WalkLawsBesides
import Derived.Outline
import Derived.KernelRfl
import Derived.RangeFuncBox
set_option linter.unusedSimpArgs false
set_option linter.unusedVariables false
set_option linter.unnecessarySimpa false
/- (Wire2) Plain laws of chapter 2: how a number is read. No program in sight. -/
section
namespace Go.Proofs.YtcflpcpkmhljkaaGreatDoor

def byteN (s : Bytes) (k : Nat) : Nat := (s.getD k 0).toNat
/-- what the first k bytes tell -/
def accN (s : Bytes) : Nat → Nat
  | 0 => 0
  | k + 1 => accN s k + byteN s k % 128 * 128 ^ k
theorem byteN_lt (s : Bytes) (k : Nat) : byteN s k < 256 := UInt8.toNat_lt _
theorem accN_lt (s : Bytes) (k : Nat) : accN s k < 128 ^ k := by
  induction k with
  | zero => simp [accN]
  | succ k ih =>
    rw [accN, Nat.pow_succ]
    have h1 : byteN s k % 128 ≤ 127 := by omega
    have h2 := Nat.mul_le_mul_right (128 ^ k) h1
    omega
theorem accN_cons (c : UInt8) (t : Bytes) (k : Nat) : accN (c :: t) (k + 1) = c.toNat % 128 + 128 * accN t k := by
  induction k with
  | zero => simp [accN, byteN]
  | succ k ih =>
    rw [accN, ih, accN]
    have : byteN (c :: t) (k + 1) = byteN t k := rfl
    rw [this, Nat.pow_succ, Nat.mul_add]
    have e : byteN t k % 128 * (128 ^ k * 128) = 128 * (byteN t k % 128 * 128 ^ k) := by rw [← Nat.mul_assoc, Nat.mul_comm]
    rw [e]; omega
/-- a number's bytes: all but the last go on; the last one ends it, and is no nought unless it stands alone -/
def Ends (s : Bytes) (k : Nat) : Prop := k < s.length ∧ (∀ j, j < k → 128 ≤ byteN s j) ∧ byteN s k < 128 ∧ (0 < k → byteN s k ≠ 0)
theorem accN_pos (s : Bytes) (k : Nat) (h : Ends s k) (hk : 0 < k) : 0 < accN s (k + 1) := by
  rw [accN]
  have h1 : 0 < byteN s k % 128 := by have := h.2.2.1; have := h.2.2.2 hk; omega
  have := Nat.mul_pos h1 (Nat.pow_pos (n := k) (show 0 < 128 by omega))
  omega
theorem varF_of_ends (n k : Nat) (s : Bytes) (h : Ends s k) (hn : k < n) : varF n (accN s (k + 1)) = s.take (k + 1) := by
  induction k generalizing n s with
  | zero =>
    obtain ⟨h1, _, h3, _⟩ := h
    cases s with
    | nil => simp at h1
    | cons c t =>
      cases n with
      | zero => omega
      | succ n =>
        have e : accN (c :: t) 1 = c.toNat := by
          have : c.toNat < 128 := h3
          simp [accN, byteN]; omega
        have hc : c.toNat < 128 := h3
        rw [Nat.zero_add, e, varF, if_pos hc]
        simp
  | succ k ih =>
    obtain ⟨h1, h2, h3, h4⟩ := h
    cases s with
    | nil => simp at h1
    | cons c t =>
      cases n with
      | zero => omega
      | succ n =>
        have ht : Ends t k := ⟨by simpa using h1, fun j hj => h2 (j + 1) (by omega), h3, fun _ => h4 (by omega)⟩
        have hpos : 0 < accN t (k + 1) := by
          by_cases hk : 0 < k
          · exact accN_pos t k ht hk
          · have hk0 : k = 0 := by omega
            subst hk0
            have h5 : byteN t 0 ≠ 0 := h4 (by omega)
            have h6 : byteN t 0 < 128 := h3
            have e : accN t (0 + 1) = byteN t 0 % 128 := by simp [accN]
            rw [e]; omega
        have hc : 128 ≤ c.toNat := h2 0 (by omega)
        have hc2 := UInt8.toNat_lt c
        rw [accN_cons, varF, if_neg (by omega), show (c.toNat % 128 + 128 * accN t (k + 1)) % 128 + 128 = c.toNat by omega,
          show (c.toNat % 128 + 128 * accN t (k + 1)) / 128 = accN t (k + 1) by omega, ih n t ht (by omega)]
        simp
theorem ends_of_varF (n v : Nat) (hv : v < 128 ^ n) (hn : 0 < n) : ∃ k, k < n ∧ (varF n v).length = k + 1 ∧ Ends (varF n v) k ∧ accN (varF n v) (k + 1) = v := by
  induction n generalizing v with
  | zero => omega
  | succ n ih =>
    rw [varF]
    by_cases h : v < 128
    · rw [if_pos h]
      have hb : byteN [UInt8.ofNat v] 0 = v := toNat_ofNat v (by omega)
      exact ⟨0, by omega, rfl, ⟨by simp, fun j hj => by omega, by rw [hb]; exact h, fun h0 => by omega⟩, by simp [accN, hb]; omega⟩
    · rw [if_neg h]
      have hn0 : 0 < n := by
        rcases Nat.eq_zero_or_pos n with h0 | h0
        · subst h0; simp at hv; omega
        · exact h0
      rw [Nat.pow_succ] at hv
      obtain ⟨k, h1, h2, ⟨h3, h4, h5, h6⟩, h7⟩ := ih (v / 128) (by rw [Nat.div_lt_iff_lt_mul (by omega)]; omega) hn0
      have hc : (UInt8.ofNat (v % 128 + 128)).toNat = v % 128 + 128 := toNat_ofNat _ (by omega)
      refine ⟨k + 1, by omega, by simp [h2], ⟨by simpa using h3, fun j hj => ?_, h5, fun _ => ?_⟩, ?_⟩
      · cases j with
        | zero => show 128 ≤ (UInt8.ofNat (v % 128 + 128)).toNat; omega
        | succ j => exact h4 j (by omega)
      · show byteN (varF n (v / 128)) k ≠ 0
        by_cases hk : 0 < k
        · exact h6 hk
        · have hk0 : k = 0 := by omega
          subst hk0
          rw [Nat.zero_add, accN, accN] at h7
          simp at h7
          omega
      · rw [accN_cons, h7, hc]; omega
theorem pow9 : (128 : Nat) ^ 9 = 9223372036854775808 := by decide
/-- what ends a number is read as that number -/
theorem isVar_of_ends (s : Bytes) (k : Nat) (h : Ends s k) (hk : k < 10) (h9 : k = 9 → byteN s k ≤ 1) : IsVar s (accN s (k + 1)) (s.drop (k + 1)) := by
  refine ⟨?_, ?_⟩
  · have h1 := accN_lt s (k + 1)
    by_cases e : k = 9
    · subst e
      have h2 := accN_lt s 9
      rw [accN]
      have h3 := h9 rfl
      have h4 : byteN s 9 % 128 ≤ 1 := by omega
      have h5 := Nat.mul_le_mul_right (128 ^ 9) h4
      rw [pow9] at h2 h5 ⊢
      omega
    · have : 128 ^ (k + 1) ≤ 128 ^ 9 := Nat.pow_le_pow_right (by omega) (by omega)
      rw [pow9] at this
      omega
  · unfold varE
    rw [varF_of_ends 10 k s h hk, List.take_append_drop]
theorem byteN_append (a b : Bytes) (k : Nat) (h : k < a.length) : byteN (a ++ b) k = byteN a k := by
  unfold byteN
  rw [List.getD_eq_getElem?_getD, List.getD_eq_getElem?_getD, List.getElem?_append_left h]
/-- where a number is read, it ends -/
theorem ends_of_isVar (s : Bytes) (v : Nat) (r : Bytes) (h : IsVar s v r) : ∃ k, k < 10 ∧ Ends s k ∧ (k = 9 → byteN s k ≤ 1) := by
  obtain ⟨hv, rfl⟩ := h
  unfold varE
  obtain ⟨k, h1, h2, ⟨h3, h4, h5, h6⟩, h7⟩ := ends_of_varF 10 v (lt64 v hv) (by omega)
  refine ⟨k, h1, ⟨by simp; omega, fun j hj => ?_, ?_, fun h0 => ?_⟩, fun e => ?_⟩
  · rw [byteN_append _ _ _ (by omega)]; exact h4 j hj
  · rw [byteN_append _ _ _ (by omega)]; exact h5
  · rw [byteN_append _ _ _ (by omega)]; exact h6 h0
  · rw [byteN_append _ _ _ (by omega)]
    subst e
    rw [accN] at h7
    have h8 : byteN (varF 10 v) 9 % 128 = byteN (varF 10 v) 9 := by omega
    rw [h8, pow9] at h7
    by_cases h9 : byteN (varF 10 v) 9 ≤ 1
    · exact h9
    · have : 2 ≤ byteN (varF 10 v) 9 := by omega
      have := Nat.mul_le_mul_right 9223372036854775808 this
      omega
/-- a number ends at one place alone -/
theorem ends_one (s : Bytes) (j k : Nat) (h : Ends s j) (hj : byteN s k < 128) (hk : ∀ i, i < k → 128 ≤ byteN s i) : j = k := by
  rcases Nat.lt_trichotomy j k with h1 | h1 | h1
  · have := hk j h1; have := h.2.2.1; omega
  · exact h1
  · have := h.2.1 k h1; omega
end Go.Proofs.YtcflpcpkmhljkaaGreatDoor
end

/- (WVar) wire.ToVar: walked -/
section
namespace Go.Proofs.YtcflpcpkmhljkaaGreatDoor
open Go.RowKit
set_option linter.unusedVariables false

theorem byteAt (s : Bytes) (k : Nat) (h : k < s.length) : ((({ data := s.toArray } : ByteArray)[k]'h).toNat : Int) = (byteN s k : Nat) := by
  unfold byteN
  rw [List.getD_eq_getElem?_getD, List.getElem?_eq_getElem h]; rfl
/-- a byte more, in the walk's own spelling -/
theorem walk_or (s : Bytes) (k b : Nat) (hb : byteN s k = b) (hk : k < 10) (h9 : k = 9 → b ≤ 1) :
    bits .or .u64 ((accN s k : Nat) : Int) (IntKind.u64.wrap (IntKind.u64.wrap (bits .and .u8 (b : Int) 127) * 2 ^ (7 * k))) = ((accN s (k + 1) : Nat) : Int) := by
  have hlt : b < 256 := by rw [← hb]; exact byteN_lt s k
  have h1 : bits .and .u8 (b : Int) ((127 : Nat) : Int) = ((b &&& 127 : Nat) : Int) := u8_and_nat b 127 hlt (by decide)
  rw [show ((127 : Nat) : Int) = 127 from rfl, nat_mask7] at h1
  rw [h1]
  have hp : (128 : Nat) ^ k = 2 ^ (7 * k) := by rw [show 128 = 2 ^ 7 from rfl, ← Nat.pow_mul]
  have hpow : (2 : Nat) ^ (7 * k) ≤ 2 ^ 63 := Nat.pow_le_pow_right (by omega) (by omega)
  have hacc := accN_lt s k
  rw [hp] at hacc
  have h2 : b % 128 * 2 ^ (7 * k) < 18446744073709551616 := by
    by_cases e : k = 9
    · subst e
      have := h9 rfl
      have h3 : b % 128 ≤ 1 := by omega
      have := Nat.mul_le_mul_right (2 ^ (7 * 9)) h3
      have h4 : (2 : Nat) ^ (7 * 9) = 9223372036854775808 := by decide
      omega
    · have h3 : (2 : Nat) ^ (7 * k) ≤ 2 ^ 56 := Nat.pow_le_pow_right (by omega) (by omega)
      have h4 : b % 128 ≤ 127 := by omega
      have := Nat.mul_le_mul h4 h3
      have h5 : (127 : Nat) * 2 ^ 56 < 18446744073709551616 := by decide
      omega
  have w1 : IntKind.u64.wrap ((b % 128 : Nat) : Int) = ((b % 128 : Nat) : Int) := by
    simp only [IntKind.wrap, IntKind.bits, IntKind.signed]; simp; omega
  have w2 : IntKind.u64.wrap ((b % 128 * 2 ^ (7 * k) : Nat) : Int) = ((b % 128 * 2 ^ (7 * k) : Nat) : Int) := by
    generalize b % 128 * 2 ^ (7 * k) = z at *
    simp only [IntKind.wrap, IntKind.bits, IntKind.signed]; simp; omega
  rw [w1, show (((b % 128 : Nat) : Int) * 2 ^ (7 * k)) = ((b % 128 * 2 ^ (7 * k) : Nat) : Int) by simp, w2]
  have h63 : (2 : Nat) ^ 63 = 9223372036854775808 := by decide
  rw [u64_or_nat _ _ (by omega) h2]
  have hj := nat_join (7 * k) (b % 128 * 2 ^ (7 * k)) (accN s k) (by rw [Nat.mul_mod_left]) hacc
  rw [Nat.or_comm, hj, accN, hb, hp]
  congr 1
  omega

set_option maxHeartbeats 1000000 in
theorem ToVar_some (s : Bytes) (v : Nat) (r : Bytes) (w : World) (hs : s.length ≤ 9223372036854775807) (h : IsVar s v r) :
    Calls Tryz.prog 176 #[.string ⟨s.toArray⟩] w fun e w' => e = .returned (.tuple #[.int .u64 v, .string ⟨r.toArray⟩, .bool true]) ∧ Q w w' := by
  obtain ⟨k0, hk10, hends, h9⟩ := ends_of_isVar s v r h
  obtain ⟨rfl, rfl⟩ := IsVar.one h (isVar_of_ends s k0 hends hk10 h9)
  clear h
  obtain ⟨e1, e2, e3, e4⟩ := hends
  have E2 := Lib.hid e2; have E4 := Lib.hid e4; have H9 := Lib.hid h9
  clear e2 e4 h9
  by_cases hl : s.length ≤ 10
  all_goals
    go_enter Tryz.func176, Tryz.ntmps176
    go_wp2_with fail
    go_loop [11, 5, 6, 7] (fun i x _ _ => ∃ k : Nat, k ≤ k0 ∧ i = .int .i64 k ∧ x = .int .u64 (accN s k : Nat)) (fun i _ _ _ => 10 - (intOf i).toNat)
    case atStart => exact ⟨0, by omega, rfl, rfl⟩
    case round =>
      obtain ⟨k, hk, rfl, rfl⟩ := hrel
      have hb := byteN_lt s k
      have hacc := accN_lt s k
      have hsl : k < s.length := by omega
      have hbk : ((({ data := s.toArray } : ByteArray)[k]'hsl).toNat : Int) = (byteN s k : Nat) := byteAt s k hsl
      by_cases hlt : k < k0
      · have hb2 := E2.out k hlt
        have hw := walk_or s k (byteN s k) rfl (by omega) (fun h => by omega)
        have hx1 : (127 : Int) < (({ data := s.toArray } : ByteArray)[k]'hsl).toNat := by rw [hbk]; omega
        rw [← hbk] at hw
        have HW := Lib.hid hw; clear hw hbk
        go_wp2_with fail
        go_round
        case rel => exact ⟨k + 1, by omega, by go_num, int_eq (by rw [← HW.out])⟩
        case measure => simp [intOf]; omega
      · have hkk : k = k0 := by omega
        subst hkk
        have hw := walk_or s k (byteN s k) rfl hk10 H9.out
        rw [← hbk] at hw
        have hx1 : (({ data := s.toArray } : ByteArray)[k]'hsl).toNat ≤ (127 : Int) := by rw [hbk]; omega
        have hx0 : (0 : Int) ≤ (({ data := s.toArray } : ByteArray)[k]'hsl).toNat := by omega
        have h9b : k = 9 → ((({ data := s.toArray } : ByteArray)[k]'hsl).toNat : Int) ≤ 1 := fun h => by rw [hbk]; have := H9.out h; omega
        have h0b : 0 < k → ((((({ data := s.toArray } : ByteArray)[k]'hsl).toNat : Int)) == 0) = false := fun h => by
          rw [beq_eq_false_iff_ne, hbk]; have := E4.out h; omega
        have hdrop : s.drop (k + 1) = (s.drop (k + 1)) := rfl
        have HW := Lib.hid hw; have H9B := Lib.hid h9b; have H0B := Lib.hid h0b; clear hw hbk h9b h0b hdrop
        by_cases h9 : k = 9
        · have q9 : ((k : Int) == 9) = true := by rw [beq_iff_eq]; omega
          have q1 := H9B.out h9
          have q0 := H0B.out (by omega)
          have hk0 : 0 < k := by omega
          clear h9
          go_wp2_with fail
          have z1 : IntKind.i64.wrap ((k : Int) + 1) = (k : Int) + 1 := IntWalk.i64_in _ (by omega)
          have z2 : (0 : Int) ≤ (k : Int) + 1 := by omega
          have z3 : ((k : Int) + 1).toNat = k + 1 := by omega
          go_quiet (fail)
          clear z1 z2 z3
          go_wp2_with fail
          go_ret3
          exact ⟨ret_num_str HW.out (bytes_drop s (k + 1)), Q.drewN _ _⟩
        · have q9 : ((k : Int) == 9) = false := by rw [beq_eq_false_iff_ne]; omega
          clear h9
          by_cases hk0 : 0 < k
          · have q0 := H0B.out hk0
            go_wp2_with fail
            have z1 : IntKind.i64.wrap ((k : Int) + 1) = (k : Int) + 1 := IntWalk.i64_in _ (by omega)
            have z2 : (0 : Int) ≤ (k : Int) + 1 := by omega
            have z3 : ((k : Int) + 1).toNat = k + 1 := by omega
            go_quiet (fail)
            clear z1 z2 z3
            go_wp2_with fail
            go_ret3
            exact ⟨ret_num_str HW.out (bytes_drop s (k + 1)), Q.drewN _ _⟩
          · have hk0 : k = 0 := by omega
            subst hk0
            have hw0 := HW.out
            rw [show ((2 : Int) ^ (7 * 0)) = 1 from rfl, Int.mul_one] at hw0
            have HW := Lib.hid hw0
            clear hw0
            go_wp2_with fail
            have z1 : IntKind.i64.wrap 1 = 1 := IntWalk.i64_in _ (by omega)
            go_quiet (fail)
            clear z1
            go_wp2_with fail
            go_ret3
            exact ⟨ret_num_str HW.out (bytes_drop s (0 + 1)), Q.drewN _ _⟩

set_option maxHeartbeats 1000000 in
theorem ToVar_none (s : Bytes) (w : World) (hs : s.length ≤ 9223372036854775807) (h : ∀ v r, ¬ IsVar s v r) :
    Calls Tryz.prog 176 #[.string ⟨s.toArray⟩] w fun e w' => e = .returned (.tuple #[.int .u64 0, .string ⟨([] : Bytes).toArray⟩, .bool false]) ∧ Q w w' := by
  have H := Lib.hid h; clear h
  by_cases hl : s.length ≤ 10
  all_goals
    go_enter Tryz.func176, Tryz.ntmps176
    go_wp2_with fail
    go_loop [11, 5, 6, 7] (fun i x _ _ => ∃ k : Nat, k ≤ s.length ∧ k ≤ 10 ∧ i = .int .i64 k ∧ (∃ z : Int, x = .int .u64 z) ∧ Hid (∀ j, j < k → 128 ≤ byteN s j)) (fun i _ _ _ => 10 - (intOf i).toNat)
    case atStart => exact ⟨0, by omega, by omega, rfl, ⟨0, rfl⟩, fun j h => by omega⟩
    case round =>
      obtain ⟨k, hk, hk10, rfl, ⟨z, rfl⟩, HJ⟩ := hrel
      have hb := byteN_lt s k
      by_cases hlt : k < s.length ∧ k < 10
      · obtain ⟨hsl, hk9⟩ := hlt
        have hbk : ((({ data := s.toArray } : ByteArray)[k]'hsl).toNat : Int) = (byteN s k : Nat) := byteAt s k hsl
        by_cases hgo : 128 ≤ byteN s k
        · have hx1 : (127 : Int) < (({ data := s.toArray } : ByteArray)[k]'hsl).toNat := by rw [hbk]; omega
          clear hbk
          go_wp2_with fail
          go_round
          case rel => exact ⟨k + 1, by omega, by omega, by go_num, ⟨_, rfl⟩, fun j hj => by
            by_cases e : j = k
            · subst e; exact hgo
            · exact HJ.out j (by omega)⟩
          case measure => simp [intOf]; omega
        · have hx1 : (({ data := s.toArray } : ByteArray)[k]'hsl).toNat ≤ (127 : Int) := by rw [hbk]; omega
          have hx0 : (0 : Int) ≤ (({ data := s.toArray } : ByteArray)[k]'hsl).toNat := by omega
          by_cases c9 : k = 9 ∧ 1 < byteN s k
          · have q9 : ((k : Int) == 9) = true := by rw [beq_iff_eq]; omega
            have q1 : (1 : Int) < (({ data := s.toArray } : ByteArray)[k]'hsl).toNat := by rw [hbk]; omega
            clear hbk c9
            go_wp2_with fail
            go_ret3
            exact ⟨rfl, Q.refl _⟩
          · by_cases c0 : 0 < k ∧ byteN s k = 0
            · obtain ⟨hk0, hz⟩ := c0
              have q0 : ((((({ data := s.toArray } : ByteArray)[k]'hsl).toNat : Int)) == 0) = true := by rw [beq_iff_eq, hbk]; omega
              clear hbk hz
              by_cases e9 : k = 9
              · have q9 : ((k : Int) == 9) = true := by rw [beq_iff_eq]; omega
                have q1 : (({ data := s.toArray } : ByteArray)[k]'hsl).toNat ≤ (1 : Int) := by rw [beq_iff_eq] at q0; omega
                clear e9 c9
                go_wp2_with fail
                go_ret3
                exact ⟨rfl, Q.refl _⟩
              · have q9 : ((k : Int) == 9) = false := by rw [beq_eq_false_iff_ne]; omega
                clear e9 c9
                go_wp2_with fail
                go_ret3
                exact ⟨rfl, Q.refl _⟩
            · exact absurd (isVar_of_ends s k ⟨hsl, HJ.out, by omega, fun h0 hz => c0 ⟨h0, hz⟩⟩ hk9 (fun e => by omega)) (H.out _ _)
      · have hge : s.length ≤ k ∨ 10 ≤ k := by omega
        go_wp2_with fail
        go_ret3
        exact ⟨rfl, Q.refl _⟩
end Go.Proofs.YtcflpcpkmhljkaaGreatDoor
end

/- (WText) wire.ToText: walked -/
section
namespace Go.Proofs.YtcflpcpkmhljkaaGreatDoor
open Go.RowKit
set_option linter.unusedVariables false

theorem IsText.var {s t r : Bytes} (h : IsText s t r) : IsVar s t.length (t ++ r) := by
  refine ⟨h.1, ?_⟩
  rw [h.2, textE, List.append_assoc]
theorem IsText.of_var {s r : Bytes} {v : Nat} (h : IsVar s v r) (hv : v ≤ r.length) : IsText s (r.take v) (r.drop v) := by
  have e : (r.take v).length = v := by rw [List.length_take]; omega
  refine ⟨by rw [e]; exact h.1, ?_⟩
  rw [textE, e, List.append_assoc, List.take_append_drop]
  exact h.2

set_option maxHeartbeats 1000000 in
theorem ToText_some (s t r : Bytes) (w : World) (hs : s.length ≤ 9223372036854775807) (h : IsText s t r) :
    Calls Tryz.prog 177 #[.string ⟨s.toArray⟩] w fun e w' => e = .returned (.tuple #[.string ⟨t.toArray⟩, .string ⟨r.toArray⟩, .bool true]) ∧ Q w w' := by
  have hv := h.var
  have hlen : s.length = (varE t.length).length + (t.length + r.length) := by rw [hv.2, List.length_append, List.length_append]
  have c := ToVar_some s t.length (t ++ r) w hs hv
  obtain ⟨rr, hrr⟩ : ∃ rr, rr = t ++ r := ⟨_, rfl⟩
  have hrl : rr.length = t.length + r.length := by rw [hrr, List.length_append]
  rw [← hrr] at c
  have hle : t.length ≤ rr.length := by omega
  have hrl2 : rr.length ≤ 9223372036854775807 := by omega
  have e1 : rr.take t.length = t := by rw [hrr, List.take_left']; rfl
  have e2 : rr.drop t.length = r := by rw [hrr, List.drop_left']; rfl
  generalize t.length = n at *
  have C := Lib.hid c; have E1 := Lib.hid e1; have E2 := Lib.hid e2
  clear c e1 e2 hrl hlen hv hrr h
  go_enter Tryz.func177, Tryz.ntmps177
  go_wp2_with fail
  refine C.out.mono ?_
  rintro e w1 ⟨rfl, q1⟩
  go_wp2_with fail
  go_quiet (fail)
  go_wp2_with fail
  go_ret3
  exact ⟨ret_str_str (by rw [bytes_take, E1.out]) (by rw [bytes_drop, E2.out]), q1.trans (Q.drewN _ _)⟩

set_option maxHeartbeats 1000000 in
theorem ToText_bad (s : Bytes) (w : World) (hs : s.length ≤ 9223372036854775807) (h : ∀ v r, ¬ IsVar s v r) :
    Calls Tryz.prog 177 #[.string ⟨s.toArray⟩] w fun e w' => e = .returned (.tuple #[.string ⟨([] : Bytes).toArray⟩, .string ⟨([] : Bytes).toArray⟩, .bool false]) ∧ Q w w' := by
  have c := ToVar_none s w hs h
  have C := Lib.hid c
  clear c h
  go_enter Tryz.func177, Tryz.ntmps177
  go_wp2_with fail
  refine C.out.mono ?_
  rintro e w1 ⟨rfl, q1⟩
  go_wp2_with fail
  go_ret3
  exact ⟨rfl, q1⟩
set_option maxHeartbeats 1000000 in
theorem ToText_long (s r : Bytes) (v : Nat) (w : World) (hs : s.length ≤ 9223372036854775807) (h : IsVar s v r) (hv : r.length < v) :
    Calls Tryz.prog 177 #[.string ⟨s.toArray⟩] w fun e w' => e = .returned (.tuple #[.string ⟨([] : Bytes).toArray⟩, .string ⟨([] : Bytes).toArray⟩, .bool false]) ∧ Q w w' := by
  have c := ToVar_some s v r w hs h
  have hr : r.length ≤ 9223372036854775807 := by have := congrArg List.length h.2; rw [List.length_append] at this; omega
  have hv2 := h.1
  have C := Lib.hid c
  clear c h
  go_enter Tryz.func177, Tryz.ntmps177
  go_wp2_with fail
  refine C.out.mono ?_
  rintro e w1 ⟨rfl, q1⟩
  go_wp2_with fail
  go_ret3
  exact ⟨rfl, q1⟩
theorem ToText_none (s : Bytes) (w : World) (hs : s.length ≤ 9223372036854775807) (h : ∀ t r, ¬ IsText s t r) :
    Calls Tryz.prog 177 #[.string ⟨s.toArray⟩] w fun e w' => e = .returned (.tuple #[.string ⟨([] : Bytes).toArray⟩, .string ⟨([] : Bytes).toArray⟩, .bool false]) ∧ Q w w' := by
  by_cases hv : ∃ v r, IsVar s v r
  · obtain ⟨v, r, hv⟩ := hv
    by_cases hl : v ≤ r.length
    · exact absurd (IsText.of_var hv hl) (h _ _)
    · exact ToText_long s r v w hs hv (by omega)
  · exact ToText_bad s w hs (fun v r hvr => hv ⟨v, r, hvr⟩)
end Go.Proofs.YtcflpcpkmhljkaaGreatDoor
end

/- (Mem3) Blocks of several cells: what they hold, and stores into them. Over any program. -/
section
namespace Go.Proofs.YtcflpcpkmhljkaaGreatDoor
open Go.RowKit
set_option linter.unusedVariables false

/-- block k holds the cells cs -/
def Blk (w : World) (k : Nat) (t : TypeId) (cs : Array Value) : Prop := w.heap[k]? = some (.cells cs t (0, 0))
theorem Blk.new (w : World) (t : TypeId) (cs : Array Value) : Blk (w.alloc (.cells cs t)) w.heap.size t cs := World.alloc_heap_new w _
theorem Blk.lt {w : World} {k : Nat} {t : TypeId} {cs : Array Value} (h : Blk w k t cs) : k < w.heap.size := (Array.getElem?_eq_some_iff.1 h).1
theorem Blk.stays {w w' : World} {k : Nat} {t : TypeId} {cs : Array Value} (h : Blk w k t cs) (q : Q w w') : Blk w' k t cs := (q.block k h.lt).trans h
theorem Blk.stays' {w w' : World} {k n : Nat} {t : TypeId} {cs : Array Value} (h : Blk w k t cs) (q : Below n w w') (hk : k < n) : Blk w' k t cs := (q.block k hk).trans h
theorem Blk.alloc {w : World} {k : Nat} {t : TypeId} {cs : Array Value} (h : Blk w k t cs) (o : Obj) : Blk (w.alloc o) k t cs := h.stays (Q.alloc _ _)
theorem Blk.cell {w : World} {k : Nat} {t : TypeId} {cs : Array Value} (h : Blk w k t cs) (i : Nat) (v : Value) (hv : cs[i]? = some v) : w.cell? ⟨k, i, none⟩ = some v := by
  simp only [World.cell?, show w.heap[k]? = _ from h]
  exact hv
theorem Blk.frozen {w : World} {k : Nat} {t : TypeId} {cs : Array Value} (h : Blk w k t cs) (i : Nat) : w.frozen? ⟨k, i, none⟩ = false := by
  simp [World.frozen?, show w.heap[k]? = _ from h]
theorem Blk.set {w : World} {k : Nat} {t : TypeId} {cs : Array Value} (h : Blk w k t cs) (i : Nat) (v : Value) : Blk (w.setCell ⟨k, i, none⟩ v) k t (cs.setIfInBounds i v) := by
  obtain ⟨hlt, hk⟩ := Array.getElem?_eq_some_iff.1 h
  show (w.heap.modify k _)[k]? = _
  rw [Array.getElem?_eq_getElem (by rw [Array.size_modify]; exact hlt), Array.getElem_modify_self, hk]
  rfl
theorem Blk.other {w : World} {k : Nat} {t : TypeId} {cs : Array Value} (h : Blk w k t cs) (a : Addr) (v : Value) (hne : k ≠ a.block) : Blk (w.setCell a v) k t cs := (Below.heap_setCell w a v k hne).trans h
theorem Blk.c2 {w : World} {k : Nat} {t : TypeId} {a b : Value} (h : Blk w k t #[a, b]) : w.cell? ⟨k, 0, none⟩ = some a ∧ w.cell? ⟨k, 1, none⟩ = some b ∧ w.frozen? ⟨k, 0, none⟩ = false ∧ w.frozen? ⟨k, 1, none⟩ = false :=
  ⟨h.cell 0 _ rfl, h.cell 1 _ rfl, h.frozen 0, h.frozen 1⟩
theorem Blk.c3 {w : World} {k : Nat} {t : TypeId} {a b c : Value} (h : Blk w k t #[a, b, c]) : w.cell? ⟨k, 0, none⟩ = some a ∧ w.cell? ⟨k, 1, none⟩ = some b ∧ w.cell? ⟨k, 2, none⟩ = some c ∧ w.frozen? ⟨k, 0, none⟩ = false ∧ w.frozen? ⟨k, 1, none⟩ = false ∧ w.frozen? ⟨k, 2, none⟩ = false :=
  ⟨h.cell 0 _ rfl, h.cell 1 _ rfl, h.cell 2 _ rfl, h.frozen 0, h.frozen 1, h.frozen 2⟩
theorem Blk.c4 {w : World} {k : Nat} {t : TypeId} {a b c d : Value} (h : Blk w k t #[a, b, c, d]) : w.cell? ⟨k, 0, none⟩ = some a ∧ w.cell? ⟨k, 1, none⟩ = some b ∧ w.cell? ⟨k, 2, none⟩ = some c ∧ w.cell? ⟨k, 3, none⟩ = some d ∧ w.frozen? ⟨k, 0, none⟩ = false ∧ w.frozen? ⟨k, 1, none⟩ = false ∧ w.frozen? ⟨k, 2, none⟩ = false ∧ w.frozen? ⟨k, 3, none⟩ = false :=
  ⟨h.cell 0 _ rfl, h.cell 1 _ rfl, h.cell 2 _ rfl, h.cell 3 _ rfl, h.frozen 0, h.frozen 1, h.frozen 2, h.frozen 3⟩
theorem Blk.s2 {w : World} {k : Nat} {t : TypeId} {a b : Value} (h : Blk w k t #[a, b]) : (∀ x, (w.setCell ⟨k, 0, none⟩ x).cell? ⟨k, 0, none⟩ = some x) ∧ (∀ x y, ((w.setCell ⟨k, 0, none⟩ x).setCell ⟨k, 1, none⟩ y).cell? ⟨k, 1, none⟩ = some y) :=
  ⟨fun x => (h.set 0 x).cell 0 x rfl, fun x y => ((h.set 0 x).set 1 y).cell 1 y rfl⟩
theorem Blk.s3 {w : World} {k : Nat} {t : TypeId} {a b c : Value} (h : Blk w k t #[a, b, c]) : (∀ x, (w.setCell ⟨k, 0, none⟩ x).cell? ⟨k, 0, none⟩ = some x) ∧ (∀ x y, ((w.setCell ⟨k, 0, none⟩ x).setCell ⟨k, 1, none⟩ y).cell? ⟨k, 1, none⟩ = some y) ∧
    (∀ x y z, (((w.setCell ⟨k, 0, none⟩ x).setCell ⟨k, 1, none⟩ y).setCell ⟨k, 2, none⟩ z).cell? ⟨k, 2, none⟩ = some z) :=
  ⟨fun x => (h.set 0 x).cell 0 x rfl, fun x y => ((h.set 0 x).set 1 y).cell 1 y rfl, fun x y z => (((h.set 0 x).set 1 y).set 2 z).cell 2 z rfl⟩
theorem Blk.s4 {w : World} {k : Nat} {t : TypeId} {a b c d : Value} (h : Blk w k t #[a, b, c, d]) : (∀ x, (w.setCell ⟨k, 0, none⟩ x).cell? ⟨k, 0, none⟩ = some x) ∧ (∀ x y, ((w.setCell ⟨k, 0, none⟩ x).setCell ⟨k, 1, none⟩ y).cell? ⟨k, 1, none⟩ = some y) ∧
    (∀ x y z, (((w.setCell ⟨k, 0, none⟩ x).setCell ⟨k, 1, none⟩ y).setCell ⟨k, 2, none⟩ z).cell? ⟨k, 2, none⟩ = some z) ∧ (∀ x y z u, ((((w.setCell ⟨k, 0, none⟩ x).setCell ⟨k, 1, none⟩ y).setCell ⟨k, 2, none⟩ z).setCell ⟨k, 3, none⟩ u).cell? ⟨k, 3, none⟩ = some u) :=
  ⟨fun x => (h.set 0 x).cell 0 x rfl, fun x y => ((h.set 0 x).set 1 y).cell 1 y rfl, fun x y z => (((h.set 0 x).set 1 y).set 2 z).cell 2 z rfl, fun x y z u => ((((h.set 0 x).set 1 y).set 2 z).set 3 u).cell 3 u rfl⟩
/-- three stores into a block of three cells: what it holds then -/
theorem Blk.r3 {w : World} {k : Nat} {t : TypeId} {a b c : Value} (h : Blk w k t #[a, b, c]) (x y z : Value) : (((w.setCell ⟨k, 0, none⟩ x).setCell ⟨k, 1, none⟩ y).setCell ⟨k, 2, none⟩ z).cell? ⟨k, 0, none⟩ = some x ∧ (((w.setCell ⟨k, 0, none⟩ x).setCell ⟨k, 1, none⟩ y).setCell ⟨k, 2, none⟩ z).cell? ⟨k, 1, none⟩ = some y ∧
    (((w.setCell ⟨k, 0, none⟩ x).setCell ⟨k, 1, none⟩ y).setCell ⟨k, 2, none⟩ z).cell? ⟨k, 2, none⟩ = some z ∧ Blk (((w.setCell ⟨k, 0, none⟩ x).setCell ⟨k, 1, none⟩ y).setCell ⟨k, 2, none⟩ z) k t #[x, y, z] :=
  ⟨(((h.set 0 x).set 1 y).set 2 z).cell 0 x rfl, (((h.set 0 x).set 1 y).set 2 z).cell 1 y rfl, (((h.set 0 x).set 1 y).set 2 z).cell 2 z rfl, ((h.set 0 x).set 1 y).set 2 z⟩
theorem Blk.r4 {w : World} {k : Nat} {t : TypeId} {a b c d : Value} (h : Blk w k t #[a, b, c, d]) (x y z u : Value) : ((((w.setCell ⟨k, 0, none⟩ x).setCell ⟨k, 1, none⟩ y).setCell ⟨k, 2, none⟩ z).setCell ⟨k, 3, none⟩ u).cell? ⟨k, 0, none⟩ = some x ∧ ((((w.setCell ⟨k, 0, none⟩ x).setCell ⟨k, 1, none⟩ y).setCell ⟨k, 2, none⟩ z).setCell ⟨k, 3, none⟩ u).cell? ⟨k, 1, none⟩ = some y ∧
    ((((w.setCell ⟨k, 0, none⟩ x).setCell ⟨k, 1, none⟩ y).setCell ⟨k, 2, none⟩ z).setCell ⟨k, 3, none⟩ u).cell? ⟨k, 2, none⟩ = some z ∧ ((((w.setCell ⟨k, 0, none⟩ x).setCell ⟨k, 1, none⟩ y).setCell ⟨k, 2, none⟩ z).setCell ⟨k, 3, none⟩ u).cell? ⟨k, 3, none⟩ = some u ∧
    Blk ((((w.setCell ⟨k, 0, none⟩ x).setCell ⟨k, 1, none⟩ y).setCell ⟨k, 2, none⟩ z).setCell ⟨k, 3, none⟩ u) k t #[x, y, z, u] :=
  ⟨((((h.set 0 x).set 1 y).set 2 z).set 3 u).cell 0 x rfl, ((((h.set 0 x).set 1 y).set 2 z).set 3 u).cell 1 y rfl, ((((h.set 0 x).set 1 y).set 2 z).set 3 u).cell 2 z rfl, ((((h.set 0 x).set 1 y).set 2 z).set 3 u).cell 3 u rfl, (((h.set 0 x).set 1 y).set 2 z).set 3 u⟩
/-- a store into a new block -/
theorem Q.setCell {w w' : World} (h : Q w w') {a : Addr} (ha : w.heap.size ≤ a.block) (v : Value) : Q w (w'.setCell a v) := Below.setCell h ha v
end Go.Proofs.YtcflpcpkmhljkaaGreatDoor
end
