/- trial -/
import Derived.Test.YtejcmdolhmojaaaG
import Derived.Test.YtejcmdolhmojaaaH
namespace Go.Proofs.Ytejcmdolhmojaaa
open Go.RowKit
set_option linter.unusedVariables false

set_option maxHeartbeats 1000000 in
theorem Fit_pos (l : List UInt8) (n c : Int) (w : World) (hs : l.length ≤ 1099511627776) (h1 : -9223372036854775808 ≤ n) (h2 : n ≤ 9223372036854775807) (hc : 1 ≤ c):
    Calls Try.prog 16 #[.string ⟨l.toArray⟩, .int .i64 n, .int .i64 c] w fun e w' => e = .returned (.tuple #[.int .i64 (fitR l n c).1, .bool (fitR l n c).2]) ∧ Below w.heap.size w w' := by
  have hN := firstN_le l n
  have hs8 : l.length ≤ 9223372036854775807 / 8 := by omega
  have hf := fun w => free_any l n w hs8 h1 h2
  have hfit : fitR l n c = fitO (fitN l c.toNat (firstN l n)) := by unfold fitR; rw [if_neg (by omega)]
  generalize firstN l n = N at *
  generalize hR : fitR l n c = R at *
  clear hR
  have HF := Lib.hid hf; have HR := Lib.hid hfit; clear hf hfit
  go_enter Try.func16, Try.ntmps16
  go_wp2_with fail
  refine (HF.out _).mono ?_
  rintro e w' ⟨rfl, rfl⟩
  go_wp2_with fail
  go_loop [20, 9, 10] (fun i t _ => ∃ k : Nat, k ≤ N ∧ i = .int .i64 k ∧ t = .int .i64 (tail l k) ∧ Hid (fitN l c.toNat k = none)) (fun i _ _ => N - (intOf i).toNat)
  case atStart => exact ⟨0, by omega, rfl, rfl, rfl⟩
  case round =>
    obtain ⟨k, hk, rfl, rfl, HK⟩ := hrel
    have htl := tail_le l k
    by_cases hlt : k < N
    · cases hb : bit l k with
      | false =>
        have ht : tail l (k + 1) = tail l k + 1 := by rw [tail, hb]; rfl
        have hn : fitN l c.toNat (k + 1) = if tail l k + 1 = c.toNat then some (k + 1 - c.toNat) else none := by rw [fitN, HK.out, ht]
        have HB := Lib.hid hb; have HT := Lib.hid ht; have HN := Lib.hid hn; clear hb ht hn
        by_cases heq : (((tail l k : Nat) : Int) + 1 == c) = true
        · have hc2 : c.toNat = tail l k + 1 := by simp at heq; omega
          have hr : R = ((k : Int) + 1 - c, true) := by
            have := fitN_mono l c.toNat (k + 1) (k + 1 - c.toNat) (by rw [HN.out, if_pos hc2.symm]) N (by omega)
            rw [HR.out, this]; simp [fitO]; omega
          have HRR := Lib.hid hr; clear hr
          have hc3 : c = (tail l k : Int) + 1 := by omega
          have hcu : c ≤ k + 1 := by omega
          have HC3 := Lib.hid hc3; clear hc3 hc2
          go_wp2_with fail
          refine (isfree_any l N k _ _ _ hs8 hN (by go_simp) (by go_simp) (by omega) (by omega)).mono ?_
          rintro e w' ⟨rfl, rfl⟩
          rw [bitI_nat, HB.out]
          go_wp2_with fail
          go_ret2
          exact ⟨by rw [HRR.out]; rfl, ((Below.refl _ _).alloc (Nat.le_refl _) _).alloc (by simp) _⟩
        · have heq : (((tail l k : Nat) : Int) + 1 == c) = false := by simpa using heq
          have hno : fitN l c.toNat (k + 1) = none := by rw [HN.out, if_neg]; simp at heq; omega
          have HNO := Lib.hid hno; clear hno
          go_wp2_with fail
          refine (isfree_any l N k _ _ _ hs8 hN (by go_simp) (by go_simp) (by omega) (by omega)).mono ?_
          rintro e w' ⟨rfl, rfl⟩
          rw [bitI_nat, HB.out]
          go_wp2_with fail
          go_round
          case rel => exact ⟨k + 1, by omega, by go_num, by rw [HT.out]; go_num, HNO⟩
          case measure => simp [intOf]; omega
      | true =>
        have ht : tail l (k + 1) = 0 := by rw [tail, hb]; rfl
        have hno : fitN l c.toNat (k + 1) = none := by rw [fitN, HK.out, ht]; simp; omega
        have HB := Lib.hid hb; have HT := Lib.hid ht; have HNO := Lib.hid hno; clear hb ht hno
        have heq : ((0 : Int) == c) = false := by simp; omega
        go_wp2_with fail
        refine (isfree_any l N k _ _ _ hs8 hN (by go_simp) (by go_simp) (by omega) (by omega)).mono ?_
        rintro e w' ⟨rfl, rfl⟩
        rw [bitI_nat, HB.out]
        go_wp2_with fail
        go_round
        case rel => exact ⟨k + 1, by omega, by go_num, by rw [HT.out]; rfl, HNO⟩
        case measure => simp [intOf]; omega
    · have hk : k = N := by omega
      subst hk
      have hr : R = (0, false) := by rw [HR.out, HK.out]; rfl
      have HRR := Lib.hid hr; clear hr
      go_wp2_with fail
      go_ret2
      exact ⟨by rw [HRR.out]; rfl, ((Below.refl _ _).alloc (Nat.le_refl _) _).alloc (by simp) _⟩

set_option maxHeartbeats 400000 in
theorem Fit_neg (l : List UInt8) (n c : Int) (w : World) (hc : c < 1):
    Calls Try.prog 16 #[.string ⟨l.toArray⟩, .int .i64 n, .int .i64 c] w fun e w' => e = .returned (.tuple #[.int .i64 (fitR l n c).1, .bool (fitR l n c).2]) ∧ Below w.heap.size w w' := by
  have hr : fitR l n c = (0, false) := by unfold fitR; rw [if_pos hc]
  have HRR := Lib.hid hr; clear hr
  go_enter Try.func16, Try.ntmps16
  go_wp2_with fail
  go_ret2
  exact ⟨by rw [HRR.out]; rfl, Below.refl _ _⟩
theorem Fit_any (l : List UInt8) (n c : Int) (w : World) (hs : l.length ≤ 1099511627776) (h1 : -9223372036854775808 ≤ n) (h2 : n ≤ 9223372036854775807):
    Calls Try.prog 16 #[.string ⟨l.toArray⟩, .int .i64 n, .int .i64 c] w fun e w' => e = .returned (.tuple #[.int .i64 (fitR l n c).1, .bool (fitR l n c).2]) ∧ Below w.heap.size w w' := by
  by_cases h : 1 ≤ c
  · exact Fit_pos l n c w hs h1 h2 h
  · exact Fit_neg l n c w (by omega)

theorem neq_ext (w : World) (a b c d : Int) : (binOp .neq 36 (.agg #[.int .i64 a, .int .i64 b]) (.agg #[.int .i64 c, .int .i64 d])).run Try.prog w = .ok (.bool (!(a == c && b == d))) w := by
  have hp : Try.prog.stoodInHeld 36 = false := by kernel_rfl
  rw [run_neq_struct]
  rw [run_equalIn_agg w 9999 36 _ _ (by kernel_rfl) hp]
  simp [Program.fieldsOf, Try.underlying36, go_sem]
  by_cases h1 : a = c <;> by_cases h2 : b = d <;> simp [h1, h2]
theorem grd_ext (w : World) (a b : Array Value) (x y : Operand) : (eqGuard .neq 36 x y (.agg a) (.agg b)).run Try.prog w = .ok () w :=
  run_eqGuard_agg w .neq 36 x y a b (by kernel_rfl)
set_option maxHeartbeats 1000000 in
theorem same_len (a b : Option Addr) (n m ca cb : Nat) (w : World) (hne : n ≠ m) (hn : n ≤ 9223372036854775807) (hm : m ≤ 9223372036854775807) :
    Calls Try.prog 20 #[.slice a n ca, .slice b m cb] w fun e w' => e = .returned (.bool false) ∧ w = w' := by
  have h1 : ((n : Int) == (m : Int)) = false := by rw [beq_eq_false_iff_ne]; omega
  have h2 : (n == m) = false := by rw [beq_eq_false_iff_ne]; omega
  go_enter Try.func20, Try.ntmps20
  go_wp2_with fail
  go_ret
  exact ⟨rfl, rfl⟩
set_option maxHeartbeats 1000000 in
theorem same_nil (a b : Option Addr) (ca cb : Nat) (w : World) :
    Calls Try.prog 20 #[.slice a 0 ca, .slice b 0 cb] w fun e w' => e = .returned (.bool true) ∧ w = w' := by
  go_enter Try.func20, Try.ntmps20
  go_wp2_with fail
  go_loop [5] (fun i => i = .int .i64 0) (fun i => 0)
  case atStart => rfl
  case round =>
    subst hrel
    go_wp2_with fail
    go_ret
    exact ⟨rfl, rfl⟩
set_option maxHeartbeats 1000000 in
theorem same_go (a b n ca cb : Nat) (ra rb : List (Nat × Nat)) (w : World) (hn0 : 0 < n) (hn : n ≤ 9223372036854775807)
   (hla : ra.length = n) (hlb : rb.length = n)
   (ha : ∀ k (h : k < ra.length), w.cell? ⟨a, k * 2, none⟩ = some (.int .i64 ra[k].1) ∧ w.cell? ⟨a, k * 2 + 1, none⟩ = some (.int .i64 ra[k].2))
   (hb : ∀ k (h : k < rb.length), w.cell? ⟨b, k * 2, none⟩ = some (.int .i64 rb[k].1) ∧ w.cell? ⟨b, k * 2 + 1, none⟩ = some (.int .i64 rb[k].2)) :
    Calls Try.prog 20 #[.slice (some ⟨a, 0, none⟩) n ca, .slice (some ⟨b, 0, none⟩) n cb] w fun e w' => e = .returned (.bool (decide (ra = rb))) ∧ Below w.heap.size w w' := by
  have HA := Lib.hid ha; have HB := Lib.hid hb; have HLA := Lib.hid hla; have HLB := Lib.hid hlb; clear ha hb hla hlb
  have hneq := fun (w : World) (a b c d : Int) => neq_ext w a b c d
  have hgrd := fun (w : World) (a b : Array Value) (x y : Operand) => grd_ext w a b x y
  go_enter Try.func20, Try.ntmps20
  go_wp2_with fail
  go_loopw [5] (fun i wr => ∃ k : Nat, k ≤ n ∧ i = .int .i64 k ∧ Hid (∀ j, j < k → ra[j]? = rb[j]?) ∧ Hid (∃ q, wr = w.drewN q)) (fun i _ => n - (intOf i).toNat)
  case atStart => exact ⟨0, by omega, rfl, fun j h => by omega, 0, rfl⟩
  case round =>
    obtain ⟨k, hk, rfl, HJ, q, rfl⟩ := hrel
    by_cases hlt : k < n
    · have h1 := HA.out k (by rw [HLA.out]; exact hlt)
      have h2 := HB.out k (by rw [HLB.out]; exact hlt)
      obtain ⟨a1, a2⟩ := h1
      obtain ⟨b1, b2⟩ := h2
      go_wp2_with fail
      go_quiet (fail)
      go_wp2_with fail
      · go_ret
        exact ⟨by rw [pairs_differ ra rb k (by rw [HLA.out]; exact hlt) (by rw [HLB.out]; exact hlt) (by assumption)]; rfl, ⟨rfl, rfl, rfl, Nat.le_refl _, fun _ _ => rfl⟩⟩
      · exact ⟨⟨k + 1, by omega, by go_num, pairs_same ra rb k (by rw [HLA.out]; exact hlt) (by rw [HLB.out]; exact hlt) (by assumption) HJ.out, ⟨_, rfl⟩⟩, by simp [intOf]; omega⟩
    · have e : decide (ra = rb) = true := by
        rw [decide_eq_true_iff]
        refine List.ext_getElem? (fun j => ?_)
        by_cases h : j < k
        · exact HJ.out j h
        · rw [List.getElem?_eq_none (by rw [HLA.out]; omega), List.getElem?_eq_none (by rw [HLB.out]; omega)]
      have HE := Lib.hid e; clear e
      go_wp2_with fail
      go_ret
      exact ⟨by rw [HE.out]; rfl, ⟨rfl, rfl, rfl, Nat.le_refl _, fun _ _ => rfl⟩⟩

theorem ext_cells {w : World} {B g cap : Nat} {rs : List (Nat × Nat)} (h : w.ownsRow B 36 2 (.slice (some ⟨g, 0, none⟩) rs.length cap) rs.length (ext rs)) :
    ∀ k (h : k < rs.length), w.cell? ⟨g, k * 2, none⟩ = some (.int .i64 rs[k].1) ∧ w.cell? ⟨g, k * 2 + 1, none⟩ = some (.int .i64 rs[k].2) := by
  intro k hk
  have := ext_at rs k hk
  rw [Nat.mul_comm 2 k] at this
  rw [h.cellAt _ (by omega), h.cellAt _ (by omega)]
  exact this

theorem same_any (va vb : Value) (B : Nat) (ra rb : List (Nat × Nat)) (w : World) (ha : w.ownsRow B 36 2 va ra.length (ext ra)) (hb : w.ownsRow B 36 2 vb rb.length (ext rb)) (hla : ra.length ≤ 9223372036854775807) (hlb : rb.length ≤ 9223372036854775807) :
    Calls Try.prog 20 #[va, vb] w fun e w' => e = .returned (.bool (decide (ra = rb))) ∧ Below w.heap.size w w' := by
  obtain ⟨a, ca, rfl, h1⟩ := owns_value ha
  obtain ⟨b, cb, rfl, h2⟩ := owns_value hb
  by_cases hne : ra.length = rb.length
  · by_cases h0 : 0 < ra.length
    · obtain ⟨g, rfl⟩ := h1 h0
      obtain ⟨g2, rfl⟩ := h2 (by omega)
      have := same_go g g2 ra.length ca cb ra rb w h0 hla rfl hne.symm (ext_cells ha) (ext_cells hb)
      rw [← hne]; exact this
    · have e1 : ra = [] := List.eq_nil_of_length_eq_zero (by omega)
      have e2 : rb = [] := List.eq_nil_of_length_eq_zero (by omega)
      subst e1; subst e2
      exact (same_nil a b ca cb w).mono fun e w' ⟨h1, h2⟩ => ⟨h1, h2 ▸ Below.refl _ _⟩
  · have : decide (ra = rb) = false := by
      rw [decide_eq_false_iff_not]; intro e; exact hne (by rw [e])
    rw [this]
    exact (same_len a b _ _ ca cb w hne hla hlb).mono fun e w' ⟨h1, h2⟩ => ⟨h1, h2 ▸ Below.refl _ _⟩

set_option maxHeartbeats 1000000 in
theorem rFit_any (l : List UInt8) (n c : Int) (w : World) (hs : l.length ≤ 1099511627776) (h1 : -9223372036854775808 ≤ n) (h2 : n ≤ 9223372036854775807) :
    Calls Try.prog 17 #[.string ⟨l.toArray⟩, .int .i64 n, .int .i64 c] w fun e w' => e = .returned (.tuple #[.int .i64 (fitR l n c).1, .bool (fitR l n c).2]) ∧ Below w.heap.size w w' := by
  have hf := rRuns_any l n w hs h1 h2
  have hlen : (runsTo l (firstN l n)).length ≤ 8796093022208 := Nat.le_trans (runsTo_length _ _) (by have := firstN_le l n; omega)
  have hR : fitR l n c = if c < 1 then (0, false) else fitO (((runsTo l (firstN l n)).find? (fun r => decide (c.toNat ≤ r.2))).map (·.1)) := by
    unfold fitR
    split
    · rfl
    · rw [fit_eq l c.toNat (by omega)]
  generalize runsTo l (firstN l n) = rs at *
  generalize fitR l n c = R at *
  have HF := Lib.hid hf; have HR := Lib.hid hR; clear hf hR
  go_enter Try.func17, Try.ntmps17
  go_wp2_with fail
  refine HF.out.mono ?_
  rintro e w1 ⟨v, rfl, hb, hown⟩
  obtain ⟨a, cap, rfl, hsome⟩ := owns_value hown
  have HB := Lib.hid hb; have HS := Lib.hid hsome; have HO := Lib.hid hown; clear hb hsome hown
  go_wp2_with fail
  go_loop [9] (fun i => ∃ k : Nat, k ≤ rs.length ∧ i = .int .i64 k ∧ Hid (∀ j (_ : j < rs.length), j < k → ¬ c.toNat ≤ rs[j].2)) (fun i => rs.length - (intOf i).toNat)
  case atStart => exact ⟨0, by omega, rfl, fun j _ h => by omega⟩
  case round =>
    obtain ⟨k, hk, rfl, HK⟩ := hrel
    by_cases hc : 0 < c
    · by_cases hlt : k < rs.length
      · obtain ⟨g, rfl⟩ := HS.out (by omega)
        have hcell := ext_cells HO.out k hlt
        obtain ⟨hc1, hc2⟩ := hcell
        by_cases hge : c ≤ (rs[k].2 : Int)
        · have hr : R = ((rs[k].1 : Int), true) := by
            rw [HR.out, if_neg (by omega)]
            rw [show rs.find? (fun r => decide (c.toNat ≤ r.2)) = some rs[k] from ?_]
            · rfl
            · rw [List.find?_eq_some_iff_getElem]
              refine ⟨by simp; omega, k, hlt, rfl, fun j hj => ?_⟩
              have := HK.out j (by omega) hj
              simp; omega
          have HRR := Lib.hid hr; clear hr
          go_wp2_with fail
          go_ret2
          exact ⟨by rw [HRR.out]; rfl, HB.out⟩
        · go_wp2_with fail
          go_round
          case rel => exact ⟨k + 1, by omega, by go_num, fun j hj h => by
              by_cases e : j = k
              · subst e; omega
              · exact HK.out j hj (by omega)⟩
          case measure => simp [intOf]; omega
      · have hr : R = (0, false) := by
          rw [HR.out, if_neg (by omega)]
          rw [show rs.find? (fun r => decide (c.toNat ≤ r.2)) = none from ?_]
          · rfl
          · rw [List.find?_eq_none]
            intro r hr
            obtain ⟨j, hj, rfl⟩ := List.getElem_of_mem hr
            have := HK.out j hj (by omega)
            simp; omega
        have HRR := Lib.hid hr; clear hr
        go_wp2_with fail
        go_ret2
        exact ⟨by rw [HRR.out]; rfl, HB.out⟩
    · have hr : R = (0, false) := by rw [HR.out, if_pos (by omega)]
      have HRR := Lib.hid hr; clear hr
      by_cases hlt : k < rs.length
      all_goals
        go_wp2_with fail
        go_ret2
        exact ⟨by rw [HRR.out]; rfl, HB.out⟩
end Go.Proofs.Ytejcmdolhmojaaa
