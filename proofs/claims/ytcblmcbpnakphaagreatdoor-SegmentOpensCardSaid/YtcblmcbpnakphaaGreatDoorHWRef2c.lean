/- codexref2: ToVar, ToText: walked. -/
import Derived.Test.YtcblmcbpnakphaaGreatDoorHWRef14d
import Derived.Test.YtcblmcbpnakphaaGreatDoorMWire2ToMem3
set_option linter.unusedSimpArgs false
set_option linter.unusedVariables false
set_option linter.unnecessarySimpa false
namespace Go.Proofs.YtcblmcbpnakphaaGreatDoor
open Go.RowKit
set_option linter.unusedVariables false

/-- what is read at a place that ends a number is that number, or there is none -/
theorem isVar_at (s : Bytes) (k : Nat) (hk : k < s.length) (hk9 : k ≤ 9) (hj : ∀ j, j < k → 128 ≤ byteN s j) (hb : byteN s k < 128) (x : Nat) (hx : x = (accN s k + byteN s k % 128 * 128 ^ k % 18446744073709551616) % 18446744073709551616) :
    (varE x = s.take (k + 1) → IsVar s x (s.drop (k + 1))) ∧ (varE x ≠ s.take (k + 1) → ∀ v r, ¬ IsVar s v r) := by
  have hxl : x < 18446744073709551616 := by omega
  refine ⟨fun he => ⟨hxl, by rw [he, List.take_append_drop]⟩, fun hne v r hv => hne ?_⟩
  obtain ⟨j, h1, h2, h3⟩ := ends_of_isVar s v r hv
  have hjk := ends_one s j k h2 hb hj
  subst hjk
  have hv2 := isVar_of_ends s j h2 h1 h3
  have h4 := hv2.1
  have hacc : accN s (j + 1) = accN s j + byteN s j % 128 * 128 ^ j := rfl
  have h5 : byteN s j % 128 * 128 ^ j < 18446744073709551616 := by omega
  have hxe : x = accN s (j + 1) := by
    rw [hx, Nat.mod_eq_of_lt h5, hacc]
    exact Nat.mod_eq_of_lt (by omega)
  have h6 := hv2.2
  rw [← hxe] at h6
  have hl : (varE x).length = j + 1 := by
    have h7 := congrArg List.length h6
    rw [List.length_append, List.length_drop] at h7
    omega
  have h8 : (varE x ++ s.drop (j + 1)).take (j + 1) = varE x := List.take_left' hl
  rw [← h6] at h8
  exact h8.symm
theorem wrap_u64 (n : Nat) : IntKind.u64.wrap (n : Int) = ((n % 18446744073709551616 : Nat) : Int) := by
  simp only [IntKind.wrap, IntKind.bits, IntKind.signed]; simp
set_option maxRecDepth 100000 in
set_option maxHeartbeats 4000000 in
theorem RToVar_any (s : Bytes) (w : World) (hs : s.length ≤ 9000000000000000000) :
    Calls Tryz.prog 104 #[strV s] w fun e w' => ((∃ v r, IsVar s v r ∧ e = .returned (.tuple #[.int .u64 (v : Nat), strV r, .bool true])) ∨ ((∀ v r, ¬ IsVar s v r) ∧ e = .returned (.tuple #[.int .u64 0, strV [], .bool false]))) ∧ Q w w' := by
  have hmx : Tryz.prog.follows .mixedOrders = true := by kernel_rfl
  go_enter Tryz.func104, Tryz.ntmps104
  go_wp2_with fail
  go_loopw [5, 6, 7] (fun xv pv i wr => ∃ k x p : Nat, k ≤ 10 ∧ k ≤ s.length ∧ i = .int .i64 (k : Nat) ∧ xv = .int .u64 (x : Nat) ∧ pv = .int .u64 (p : Nat) ∧ x < 18446744073709551616 ∧ p < 18446744073709551616 ∧ Hid (k ≤ 9 → x = accN s k ∧ p = 128 ^ k) ∧ Hid (∀ j, j < k → 128 ≤ byteN s j) ∧ Hid (Q w wr)) (fun _ _ i _ => 10 - (intOf i).toNat)
  case atStart => exact ⟨0, 0, 1, by omega, by omega, rfl, rfl, rfl, by omega, by omega, fun _ => ⟨rfl, rfl⟩, fun j hj => by omega, Q.refl _⟩
  case round =>
    obtain ⟨k, x, p, hk, hks, rfl, rfl, rfl, hxl, hpl, HX, HJ, HQ⟩ := hrel
    obtain ⟨wo, rfl⟩ : ∃ wo : World, wo = wr := ⟨_, rfl⟩
    by_cases hlt : k < s.length ∧ k < 10
    · obtain ⟨hlt1, hlt2⟩ := hlt
      obtain ⟨hxe, hpe⟩ := HX.out (by omega)
      have hbl := byteN_lt s k
      have hbk : ((({ data := s.toArray } : ByteArray)[k]'hlt1).toNat : Int) = (byteN s k : Nat) := byteAt s k hlt1
      obtain ⟨m1, hm1⟩ : ∃ m1, m1 = byteN s k % 128 * p % 18446744073709551616 := ⟨_, rfl⟩
      obtain ⟨m2, hm2⟩ : ∃ m2, m2 = (x + m1) % 18446744073709551616 := ⟨_, rfl⟩
      obtain ⟨p2, hp2⟩ : ∃ p2, p2 = p * 128 % 18446744073709551616 := ⟨_, rfl⟩
      have hw1 : IntKind.u64.wrap ((((({ data := s.toArray } : ByteArray)[k]'hlt1).toNat : Int) % 128) * (p : Int)) = (m1 : Int) := by
        rw [hbk, hm1, ← wrap_u64]; congr 1
      have hw2 : IntKind.u64.wrap ((x : Int) + (m1 : Int)) = (m2 : Int) := by
        rw [hm2, ← wrap_u64]; congr 1
      have hw3 : IntKind.u64.wrap ((p : Int) * 128) = (p2 : Int) := by
        rw [hp2, ← wrap_u64]; congr 1
      have hm2l : m2 < 18446744073709551616 := by omega
      have hp2l : p2 < 18446744073709551616 := by omega
      have hat := isVar_at s k hlt1 (by omega) HJ.out
      have hki : (k : Int) < 10 := by omega
      have hki2 : (k : Int) < (s.length : Int) := by omega
      have hki0 : (0 : Int) ≤ (k : Int) := by omega
      by_cases hbig : 128 ≤ byteN s k
      · have hb1 : ¬ ((({ data := s.toArray } : ByteArray)[k]'hlt1).toNat : Int) < 128 := by rw [hbk]; omega
        have hb2 : (128 : Int) ≤ ((({ data := s.toArray } : ByteArray)[k]'hlt1).toNat : Int) := by rw [hbk]; omega
        have hnx : k + 1 ≤ 9 → m2 = accN s (k + 1) ∧ p2 = 128 ^ (k + 1) := fun h9 => by
          have h1 := accN_lt s (k + 1)
          have h2 : 128 ^ (k + 1) ≤ 128 ^ 9 := Nat.pow_le_pow_right (by omega) h9
          have h3 : (128 : Nat) ^ 9 = 9223372036854775808 := pow9
          have h4 : accN s (k + 1) = accN s k + byteN s k % 128 * 128 ^ k := rfl
          have h5 : (128 : Nat) ^ (k + 1) = 128 ^ k * 128 := Nat.pow_succ ..
          constructor
          · rw [hm2, hm1, hxe, hpe, Nat.mod_eq_of_lt (by omega : byteN s k % 128 * 128 ^ k < 18446744073709551616), ← h4]
            exact Nat.mod_eq_of_lt (by omega)
          · rw [hp2, hpe, ← h5]; exact Nat.mod_eq_of_lt (by omega)
        have hj2 : ∀ j, j < k + 1 → 128 ≤ byteN s j := fun j hj => by
          by_cases he : j = k
          · subst he; exact hbig
          · exact HJ.out j (by omega)
        have HNX := Lib.hid hnx; have HJ2 := Lib.hid hj2
        clear hnx hj2 hm1 hm2 hp2 hxe hpe hbk hat
        go_wp2_with fail
        exact ⟨⟨k + 1, m2, p2, by omega, by omega, by go_num, rfl, rfl, hm2l, hp2l, HNX, HJ2, HQ⟩, by simp [intOf]; omega⟩
      · have hb1 : ((({ data := s.toArray } : ByteArray)[k]'hlt1).toNat : Int) < 128 := by rw [hbk]; omega
        have hb2 : ¬ (128 : Int) ≤ ((({ data := s.toArray } : ByteArray)[k]'hlt1).toNat : Int) := by rw [hbk]; omega
        have hat2 := hat (by omega) m2 (by rw [hm2, hm1, hxe, hpe])
        have cv := fun W => RVar_any m2 W hm2l
        have htk := bytes_take s (k + 1)
        have hdr := bytes_drop s (k + 1)
        have hkw : IntKind.i64.wrap ((k + 1 : Nat) : Int) = ((k + 1 : Nat) : Int) := IntWalk.i64_in _ (by omega)
        have hk1 : ((k + 1 : Nat) : Int) ≤ (s.length : Int) := by omega
        have hk2 : (0 : Int) ≤ ((k + 1 : Nat) : Int) := by omega
        have hk3 : (k : Int) + 1 = ((k + 1 : Nat) : Int) := by omega
        obtain ⟨hy, hno⟩ := hat2
        generalize hve : varE m2 = ve at *
        generalize s.drop (k + 1) = sd at *
        generalize s.take (k + 1) = st at *
        generalize k + 1 = k1 at *
        have CV := Lib.hid cv; have HY := Lib.hid hy; have HNO := Lib.hid hno
        clear cv hy hno hat hm1 hm2 hp2 hxe hpe hbk hve HX HJ
        have KK := HQ
        by_cases heq : ve = st
        · have hyv := HY.out heq
          have HYV := Lib.hid hyv
          clear hyv
          subst heq
          go_wp2_with fail
          go_region_held3 (fun w' => True) (exact trivial)
            (first
              | (go_at_call 61; ((with_reducible refine (CV.out _).mono ?_); rintro e w' ⟨rfl, q⟩); have s' : Q w w' := Q.trans (by first | exact KK.out | exact KK.out.trans (Q.drew _)) q; clear KK; have KK := Lib.hid s'; clear s' q))
          all_goals
            go_wp2_with fail
            go_quiet (fail)
            go_wp2_with fail
            go_ret3
            exact ⟨.inl ⟨m2, sd, HYV.out, rfl⟩, KK.out.trans (Q.drewN _ _)⟩
        · have heb1 : (ve == st) = false := by simpa using heq
          have heb2 : @BEq.beq (List UInt8) instBEqOfDecidableEq ve st = false := by simpa using heq
          have heb3 : @BEq.beq (List UInt8) List.instBEq ve st = false := by simpa using heq
          have HE := Lib.hid heq
          clear heq
          go_wp2_with fail
          go_region_held3 (fun w' => True) (exact trivial)
            (first
              | (go_at_call 61; ((with_reducible refine (CV.out _).mono ?_); rintro e w' ⟨rfl, q⟩); have s' : Q w w' := Q.trans (by first | exact KK.out | exact KK.out.trans (Q.drew _)) q; clear KK; have KK := Lib.hid s'; clear s' q))
          all_goals
            go_wp2_with fail
            go_ret3
            exact ⟨.inr ⟨HNO.out HE.out, rfl⟩, KK.out⟩
    · have hge : ∀ v r, ¬ IsVar s v r := fun v r hv => by
        obtain ⟨j, h1, h2, h3⟩ := ends_of_isVar s v r hv
        have h4 := h2.1
        have h5 := HJ.out j (by omega)
        have h6 := h2.2.2.1
        omega
      have HGE := Lib.hid hge
      have hor : s.length ≤ k ∨ 10 ≤ k := by omega
      clear hge hlt
      rcases hor with ho | ho
      all_goals
        go_wp2_with fail
        all_goals
          go_ret3
          exact ⟨.inr ⟨HGE.out, rfl⟩, HQ.out⟩
set_option maxRecDepth 100000 in
set_option maxHeartbeats 4000000 in
theorem RToText_any (s : Bytes) (w : World) (hs : s.length ≤ 9000000000000000000) :
    Calls Tryz.prog 105 #[strV s] w fun e w' => ((∃ t r, IsText s t r ∧ e = .returned (.tuple #[strV t, strV r, .bool true])) ∨ ((∀ t r, ¬ IsText s t r) ∧ e = .returned (.tuple #[strV [], strV [], .bool false]))) ∧ Q w w' := by
  have c := RToVar_any s w hs
  have C := Lib.hid c
  clear c
  go_enter Tryz.func105, Tryz.ntmps105
  go_wp2_with fail
  refine C.out.mono ?_
  rintro e w1 ⟨⟨n, r, hv, rfl⟩ | ⟨hno, rfl⟩, q1⟩
  · have HQ1 := Lib.hid q1
    have hr : r.length ≤ 9223372036854775807 := by have := congrArg List.length hv.2; rw [List.length_append] at this; omega
    have hn64 := hv.1
    by_cases hle : n ≤ r.length
    · have htx := IsText.of_var hv hle
      have htk := bytes_take r n
      have hdr := bytes_drop r n
      have HTX := Lib.hid htx
      have hni : (n : Int) ≤ (r.length : Int) := by omega
      have hn0 : (0 : Int) ≤ (n : Int) := by omega
      have hrw : IntKind.u64.wrap (r.length : Int) = (r.length : Int) := IntWalk.u64_in _ (by omega)
      have hno : ¬ (r.length : Int) < (n : Int) := by omega
      generalize r.take n = t at *
      generalize r.drop n = r2 at *
      clear htx hv q1
      go_wp2_with fail
      go_quiet (fail)
      go_wp2_with fail
      go_ret3
      exact ⟨.inl ⟨t, r2, HTX.out, rfl⟩, HQ1.out.trans (Q.drewN _ _)⟩
    · have hnone : ∀ t r, ¬ IsText s t r := fun t r' ht => by
        have h2 := ht.var
        obtain ⟨h3, h4⟩ := IsVar.one hv h2
        rw [h3, h4, List.length_append] at hle
        omega
      have HNO := Lib.hid hnone
      have hrw : IntKind.u64.wrap (r.length : Int) = (r.length : Int) := IntWalk.u64_in _ (by omega)
      have hno : (r.length : Int) < (n : Int) := by omega
      clear hnone hv q1
      go_wp2_with fail
      go_ret3
      exact ⟨.inr ⟨HNO.out, rfl⟩, HQ1.out⟩
  · have HQ1 := Lib.hid q1
    have hnone : ∀ t r, ¬ IsText s t r := fun t r' ht => hno _ _ ht.var
    have HNO := Lib.hid hnone
    clear hnone hno q1
    go_wp2_with fail
    go_ret3
    exact ⟨.inr ⟨HNO.out, rfl⟩, HQ1.out⟩
end Go.Proofs.YtcblmcbpnakphaaGreatDoor
