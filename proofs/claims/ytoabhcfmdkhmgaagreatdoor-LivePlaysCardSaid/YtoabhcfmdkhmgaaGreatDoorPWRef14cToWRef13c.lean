/- Joined texts of one proof: WRef14c, WRef13a, WRef13b, WRef13c. -/
import Derived.Test.YtoabhcfmdkhmgaaGreatDoorPWRef11dToWRef12a
import Derived.Test.YtoabhcfmdkhmgaaGreatDoorPWBuildToWRef14b
import Derived.Test.YtoabhcfmdkhmgaaGreatDoorPTokToWDictR
import Derived.Test.YtoabhcfmdkhmgaaGreatDoorPWDictPRToRead
import Derived.BigQuiet
import Derived.Deep.RegionHeld3
import Derived.Test.YtoabhcfmdkhmgaaGreatDoorPPostRdToAppSl
set_option linter.unusedSimpArgs false
set_option linter.unusedVariables false
set_option linter.unnecessarySimpa false
/- (WRef14c) codexref14: Terms: walked. -/
section
namespace Go.Proofs.YtoabhcfmdkhmgaaGreatDoor
open Go.RowKit
set_option linter.unusedVariables false

set_option maxRecDepth 100000 in
set_option maxHeartbeats 4000000 in
theorem RTerms14_any (v : Value) (l : List DocL) (w : World) (hv : Docs w v l) (hn : l.length ≤ 1000) (hl : ∀ d ∈ l, d.2.length ≤ 2100) :
    Calls Tryz.prog 54 #[v] w fun e w' => ∃ v', e = .returned v' ∧ w'.ownsRow w.heap.size 9 1 v' (termsL l).length (strVs (termsL l)) ∧ Q w w' := by
  obtain ⟨a, cap, rfl, hcell⟩ := hv.value
  have hal := allL_len l hl
  have HC := Lib.hid hcell; have HL := Lib.hid hl
  clear hcell hv hl
  go_enter Tryz.func54, Tryz.ntmps54
  go_wp2_with fail
  go_loopw [3, 4] (fun sv i wr => ∃ (k : Nat) (s : Bytes), k ≤ l.length ∧ i = .int .i64 (k : Nat) ∧ sv = strV s ∧ s.length ≤ 2101 * k ∧ Hid (s = allL (l.take k)) ∧ Hid (Q w wr)) (fun _ i _ => l.length - (intOf i).toNat)
  case atStart => exact ⟨0, [], by omega, rfl, rfl, by simp, rfl, Q.refl _⟩
  case round =>
    obtain ⟨k, s, hk, rfl, rfl, hsl, HS, HQ⟩ := hrel
    obtain ⟨wo, rfl⟩ : ∃ wo : World, wo = wr := ⟨_, rfl⟩
    by_cases hlt : k < l.length
    · obtain ⟨b, of, rfl, hcc⟩ := HC.out (by omega)
      have c1 := cell_stays HQ.out (hcc k hlt).2
      have hki : (k : Int) < (l.length : Int) := by omega
      have hk0 : (0 : Int) ≤ (k : Int) := by omega
      have hst := allL_take l k hlt
      rw [← HS.out] at hst
      have hxl := HL.out _ (List.getElem_mem hlt)
      clear hcc
      generalize l[k].2 = x at *
      have HST := Lib.hid hst
      have hsum : s.length + x.length ≤ 9223372036854775807 := by omega
      have hsum2 : s.length + x.length + 1 ≤ 9223372036854775807 := by omega
      clear hst
      go_wp2_with fail
      go_roundw
      case rel => exact ⟨k + 1, s ++ (x ++ [32]), by omega, by go_num, str_cat (a := s ++ x) (b := [32]) (by rw [bytes_append]; exact bytes_append _ _) (by simp), by simp; omega, HST.out.symm, HQ⟩
      case measure => simp [intOf]; omega
    · have hke : k = l.length := by omega
      subst hke
      have hs := HS.out
      rw [List.take_length] at hs
      have ct := RTerms_any s wo (by omega)
      rw [hs, termsT_all, ← hs] at ct
      have CT := Lib.hid ct
      clear ct hs
      go_wp2_with fail
      refine CT.out.mono ?_
      rintro e w1 ⟨v1, rfl, ho1, q1⟩
      have HO1 := Lib.hid (owns_low ho1 HQ.out.size); have HQ1 := Lib.hid (HQ.out.trans q1)
      clear ho1 q1
      go_wp2_with fail
      go_ret
      exact ⟨_, rfl, HO1.out, HQ1.out⟩
end Go.Proofs.YtoabhcfmdkhmgaaGreatDoor
end

/- (WRef13a) codexref13: number, alike, Right: walked (where entries are right). -/
section
namespace Go.Proofs.YtoabhcfmdkhmgaaGreatDoor
open Go.RowKit
set_option linter.unusedVariables false

theorem RDNum_int (x : Int) (n : Nat) (hx : x = (n : Int)) (hn : n < 9223372036854775808) (w : World) :
    Calls Tryz.prog 103 #[.int .i64 x] w fun e w' => e = .returned (strV (varE n)) ∧ Q w w' := by
  subst hx
  have c := fun W => RVar_any n W (by omega)
  have C := Lib.hid c
  have hw : IntKind.u64.wrap (n : Int) = n := IntWalk.u64_in _ (by omega)
  clear c
  go_enter Tryz.func103, Tryz.ntmps103
  go_wp2_with fail
  refine (C.out _).mono ?_
  rintro e w1 ⟨rfl, q1⟩
  have HQ1 := Lib.hid q1
  clear q1 C
  go_wp2_with fail
  go_ret
  exact ⟨rfl, HQ1.out⟩
set_option maxHeartbeats 1000000 in
theorem RDAlike_any (a b : Bytes) (w : World) (ha : a.length ≤ 9223372036854775807) (hb : b.length ≤ 9223372036854775807) :
    Calls Tryz.prog 131 #[.string ⟨a.toArray⟩, .string ⟨b.toArray⟩] w fun e w' => e = .returned (.int .i64 (alikeN a b)) ∧ Q w w' := by
  go_enter Tryz.func131, Tryz.ntmps131
  go_wp2_with fail
  go_loopw [5] (fun i wr => ∃ k : Nat, i = .int .i64 k ∧ k ≤ a.length ∧ k ≤ b.length ∧ Hid (alikeN a b = k + alikeN (a.drop k) (b.drop k)) ∧ Hid (Q w wr)) (fun i _ => a.length - (intOf i).toNat)
  case atStart => exact ⟨0, rfl, by omega, by omega, by show _ = _; simp, Q.refl w⟩
  case round =>
    obtain ⟨k, rfl, hka, hkb, HA, HQ⟩ := hrel
    by_cases hlt : k < a.length ∧ k < b.length
    · obtain ⟨h1, h2⟩ := hlt
      have hs := alike_step a b k h1 h2
      have he := byte_eq a b k h1 h2
      have HS := Lib.hid hs; clear hs
      by_cases hab : a[k] = b[k]
      · rw [decide_eq_true hab] at he
        have HAB := Lib.hid hab; clear hab
        by_cases hba : b.length < a.length
        all_goals
          go_wp2_with fail
          go_quiet (fail)
          go_wp2_with fail
          go_roundw
          case rel => exact ⟨k + 1, by go_num, by omega, by omega, by show _ = _; rw [HA.out, HS.out, if_pos HAB.out]; omega, HQ.out.trans (Q.drewN _ _)⟩
          case measure => simp [intOf]; omega
      · rw [decide_eq_false hab] at he
        have HAB := Lib.hid hab; clear hab
        by_cases hba : b.length < a.length
        all_goals
          go_wp2_with fail
          go_quiet (fail)
          go_wp2_with fail
          go_ret
          exact ⟨ret_int (by rw [HA.out, HS.out, if_neg HAB.out]; omega), HQ.out.trans (Q.drewN _ _)⟩
    · have hs := alike_stop a b k hlt
      have HS := Lib.hid hs; clear hs
      by_cases hba : k < a.length
      · have hk : decide (k < b.length) = false := decide_eq_false (by omega)
        clear hlt
        go_wp2_with fail
        go_quiet (fail)
        go_wp2_with fail
        go_ret
        exact ⟨ret_int (by rw [HA.out, HS.out]; omega), HQ.out.trans (Q.drewN _ _)⟩
      · have hk : decide (k < a.length) = false := decide_eq_false (by omega)
        clear hlt
        go_wp2_with fail
        go_quiet (fail)
        go_wp2_with fail
        go_ret
        exact ⟨ret_int (by rw [HA.out, HS.out]; omega), HQ.out.trans (Q.drewN _ _)⟩
/-- right entries, one by one -/
theorem entriesAt (last : Bytes) (l : List EntryL) (h : entriesRight last l = true) (k : Nat) (hk : k < l.length) : lessL (if k = 0 then last else (l.getD (k - 1) ([], [])).1) l[k].1 = true ∧ l[k].1.length ≤ 40 ∧ l[k].2.length ≤ 4194304 := by
  induction l generalizing last k with
  | nil => simp at hk
  | cons x l ih =>
    simp only [entriesRight, Bool.and_eq_true, decide_eq_true_eq] at h
    obtain ⟨⟨⟨h1, h2⟩, h3⟩, h4⟩ := h
    cases k with
    | zero => exact ⟨by simpa using h1, by simpa using h2, by simpa using h3⟩
    | succ k =>
      have := ih x.1 h4 k (by simpa using hk)
      cases k with
      | zero => simpa using this
      | succ k => simpa using this
theorem lessL_pos (a b : Bytes) (h : lessL a b = true) : 1 ≤ b.length := by
  cases b with
  | nil => cases a <;> simp [lessL] at h
  | cons x b => simp
set_option maxRecDepth 100000 in
set_option maxHeartbeats 4000000 in
theorem RDRight_ok (v : Value) (l : List EntryL) (w : World) (hv : Pairs w v l) (hn : l.length ≤ 1048576) (hr : entriesRight [] l = true) :
    Calls Tryz.prog 81 #[v] w fun e w' => e = .returned (.bool true) ∧ Q w w' := by
  obtain ⟨a, cap, rfl, hcell⟩ := hv.value
  have HC := Lib.hid hcell; have HR := Lib.hid hr
  clear hcell hv hr
  go_enter Tryz.func81, Tryz.ntmps81
  go_wp2_with fail
  go_loopw [3, 4] (fun i _ wr => ∃ k : Nat, k ≤ l.length ∧ i = .int .i64 (k : Nat) ∧ Hid (Q w wr)) (fun i _ _ => l.length - (intOf i).toNat)
  case atStart => exact ⟨0, by omega, rfl, Q.refl _⟩
  case round =>
    obtain ⟨k, hk, rfl, HQ⟩ := hrel
    obtain ⟨wo, rfl⟩ : ∃ wo : World, wo = wr := ⟨_, rfl⟩
    by_cases hlt : k < l.length
    · obtain ⟨bb, o, rfl, hc⟩ := HC.out (by omega)
      have c0 := cell_stays HQ.out (hc k hlt).1
      have c1 := cell_stays HQ.out (hc k hlt).2
      obtain ⟨r1, r2, r3⟩ := entriesAt _ _ HR.out k hlt
      have r4 := lessL_pos _ _ r1
      have hki : (k : Int) < (l.length : Int) := by omega
      have hk0 : (0 : Int) ≤ (k : Int) := by omega
      by_cases hz : k = 0
      · have hz2 : ¬ 0 < k := by omega
        have hz3 : ¬ (0 : Int) < (k : Int) := by omega
        have hz4 : decide (0 < k) = false := by simp; omega
        clear hc hz r1
        generalize l[k] = x at *
        obtain ⟨t, u⟩ := x
        simp only at c0 c1 r2 r3 r4
        have h1 : decide ((t.length : Int) < 1) = false := decide_eq_false (by omega)
        have h2 : decide ((40 : Int) < (t.length : Int)) = false := decide_eq_false (by omega)
        have h3 : decide ((4194304 : Int) < (u.length : Int)) = false := decide_eq_false (by omega)
        have h5 : decide (t.length < 1) = false := decide_eq_false (by omega)
        have h6 : decide (40 < t.length) = false := decide_eq_false (by omega)
        have h7 : decide (4194304 < u.length) = false := decide_eq_false (by omega)
        go_wp2_with fail
        go_quiet (fail)
        go_wp2_with fail
        go_roundw
        case rel => exact ⟨k + 1, by omega, by go_num, HQ.out.trans (Q.drewN _ _)⟩
        case measure => simp [intOf]; omega
      · have d0 := cell_stays HQ.out (hc (k - 1) (by omega)).1
        rw [if_neg hz] at r1
        have e1 : (l.getD (k - 1) ([], [])).1 = l[k - 1].1 := by rw [List.getD_eq_getElem?_getD, List.getElem?_eq_getElem (by omega)]; rfl
        rw [e1] at r1
        have hk1 : (0 : Int) < (k : Int) := by omega
        have hk2 : 0 < k := by omega
        have hk3 : decide (0 < k) = true := by simp; omega
        have hkk : (k : Int) - 1 = ((k - 1 : Nat) : Int) := by omega
        have hkl : ((k - 1 : Nat) : Int) < (l.length : Int) := by omega
        clear hc e1 hz
        generalize l[k - 1] = y at *
        generalize l[k] = x at *
        obtain ⟨t, u⟩ := x
        obtain ⟨t', u'⟩ := y
        simp only at c0 c1 r1 r2 r3 r4 d0
        obtain ⟨g1, g2⟩ := lessL_not _ _ r1
        have hb : Op.bytesLess t t' = false := by rw [lessL_eq]; exact g1
        have hb2 : Op.bytesLess t' t = true := by rw [lessL_eq]; exact r1
        have he : (t == t') = false := by simpa using g2
        have h1 : decide ((t.length : Int) < 1) = false := decide_eq_false (by omega)
        have h2 : decide ((40 : Int) < (t.length : Int)) = false := decide_eq_false (by omega)
        have h3 : decide ((4194304 : Int) < (u.length : Int)) = false := decide_eq_false (by omega)
        have h5 : decide (t.length < 1) = false := decide_eq_false (by omega)
        have h6 : decide (40 < t.length) = false := decide_eq_false (by omega)
        have h7 : decide (4194304 < u.length) = false := decide_eq_false (by omega)
        generalize k - 1 = k1 at *
        clear g1 g2 r1
        go_wp2_with fail
        go_quiet (fail)
        go_wp2_with fail
        go_roundw
        case rel => exact ⟨k + 1, by omega, by go_num, HQ.out.trans (Q.drewN _ _)⟩
        case measure => simp [intOf]; omega
    · have hke : k = l.length := by omega
      subst hke
      have hn2 : (l.length : Int) ≤ 1048576 := by omega
      go_wp2_with fail
      go_ret
      exact ⟨rfl, HQ.out⟩
end Go.Proofs.YtoabhcfmdkhmgaaGreatDoor
end

/- (WRef13b) codexref13: block: walked. -/
section
namespace Go.Proofs.YtoabhcfmdkhmgaaGreatDoor
open Go.RowKit
set_option linter.unusedVariables false

theorem hsum_of (a b : Bytes) (h : a.length + b.length ≤ 9223372036854775807) (W : World) : (Op.stringOp .add ⟨a.toArray⟩ ⟨b.toArray⟩).run Tryz.prog W = .ok (strV (a ++ b)) W := by
  rw [run_string_add_sum W _ _ (by simpa [ByteArray.size] using h), bytes_append]
set_option maxRecDepth 100000 in
set_option maxHeartbeats 4000000 in
theorem RDBlock_any (v : Value) (g : List EntryL) (w : World) (hv : Pairs w v g) (hn : g.length ≤ 16) (hg : Small g) :
    Calls Tryz.prog 102 #[v] w fun e w' => e = .returned (strV (blockE [] g)) ∧ Q w w' := by
  obtain ⟨a, cap, rfl, hcell⟩ := hv.value
  have HC := Lib.hid hcell; have HG := Lib.hid hg
  clear hcell hv hg
  have hmx : Tryz.prog.follows .mixedOrders = true := by kernel_rfl
  go_enter Tryz.func102, Tryz.ntmps102
  go_wp2_with fail
  go_loopw [3, 4, 5] (fun sv i _ wr => ∃ (k : Nat) (s : Bytes), k ≤ g.length ∧ i = .int .i64 (k : Nat) ∧ sv = strV s ∧ s.length ≤ k * 4194400 ∧ Hid (s = blockE [] (g.take k)) ∧ Hid (Q w wr)) (fun _ i _ _ => g.length - (intOf i).toNat)
  case atStart => exact ⟨0, [], by omega, rfl, rfl, by simp, rfl, Q.refl _⟩
  case round =>
    obtain ⟨k, s, hk, rfl, rfl, hsl, HS, HQ⟩ := hrel
    obtain ⟨wo, rfl⟩ : ∃ wo : World, wo = wr := ⟨_, rfl⟩
    by_cases hlt : k < g.length
    · obtain ⟨bb, o, rfl, hc⟩ := HC.out (by omega)
      have z0 := (hc k hlt).1
      have z1 := (hc k hlt).2
      obtain ⟨r1, r2⟩ := HG.out _ (List.getElem_mem hlt)
      have hki : (k : Int) < (g.length : Int) := by omega
      have hk0 : (0 : Int) ≤ (k : Int) := by omega
      have hbt := blockE_take g k hlt
      have hal := (alikeN_le (lastAt g k) g[k].1).1
      have hlast : k ≠ 0 → lastAt g k = (g[k - 1]'(by omega)).1 := fun h => by
        unfold lastAt
        rw [if_neg h, List.getD_eq_getElem?_getD, List.getElem?_eq_getElem (by omega)]; rfl
      have hlast0 : k = 0 → lastAt g k = [] := fun h => by unfold lastAt; rw [if_pos h]
      have hprev : k ≠ 0 → w.cell? ⟨bb, o + (k - 1) * 2, none⟩ = some (strV (g[k - 1]'(by omega)).1) := fun h => (hc (k - 1) (by omega)).1
      have hpl : k ≠ 0 → (g[k - 1]'(by omega)).1.length ≤ 40 := fun h => (HG.out _ (List.getElem_mem (by omega))).1
      clear hc
      generalize g[k] = x at *
      obtain ⟨t, u⟩ := x
      simp only at z0 z1 r1 r2 hbt hal
      rw [← HS.out] at hbt
      generalize hla : lastAt g k = la at *
      have hn0 : alikeN [] t = 0 := by cases t <;> rfl
      obtain ⟨n, hnn⟩ : ∃ n, n = alikeN la t := ⟨_, rfl⟩
      rw [← hnn] at hbt hal
      have hdr := bytes_drop t n
      have hl1 := varE_len n
      have hl2 := textE_len (t.drop n)
      have hl3 := textE_len u
      have htd : (t.drop n).length ≤ t.length := by rw [List.length_drop]; omega
      have c1 := fun W => RDNum_int (n : Int) n rfl (by omega) W
      have c2 := fun W => RText_any (t.drop n) W (by omega)
      have c3 := fun W => RText_any u W (by omega)
      generalize hv1 : varE n = v1 at *
      generalize hv2 : textE (t.drop n) = v2 at *
      generalize hv3 : textE u = v3 at *
      obtain ⟨s1, es1⟩ : ∃ s1, s1 = s ++ v1 := ⟨_, rfl⟩
      obtain ⟨s2, es2⟩ : ∃ s2, s2 = s1 ++ v2 := ⟨_, rfl⟩
      obtain ⟨s3, es3⟩ : ∃ s3, s3 = s2 ++ v3 := ⟨_, rfl⟩
      have l1 : s1.length = s.length + v1.length := by rw [es1, List.length_append]
      have l2 : s2.length = s1.length + v2.length := by rw [es2, List.length_append]
      have l3 : s3.length = s2.length + v3.length := by rw [es3, List.length_append]
      have hs1 := hsum_of s v1 (by omega)
      have hs2 := hsum_of s1 v2 (by omega)
      have hs3 := hsum_of s2 v3 (by omega)
      rw [← es1] at hs1
      rw [← es2] at hs2
      rw [← es3] at hs3
      have hres : s3 = blockE [] (g.take (k + 1)) := by rw [hbt, es3, es2, es1]; simp
      have hlen : s3.length ≤ (k + 1) * 4194400 := by omega
      clear es1 es2 es3 l1 l2 l3
      generalize htdd : t.drop n = td at *
      have HRES := Lib.hid hres; have HLEN := Lib.hid hlen; have C1 := Lib.hid c1; have C2 := Lib.hid c2; have C3 := Lib.hid c3; have HN := Lib.hid hnn
      have Z0 := Lib.hid z0; have Z1 := Lib.hid z1
      clear hres hlen c1 c2 c3 hbt hv1 hv2 hv3 hnn z0 z1
      have hn1 : (0 : Int) ≤ (n : Int) := by omega
      have hn2 : (n : Int) ≤ (t.length : Int) := by omega
      by_cases hz : k = 0
      · subst hz
        have h0 := hlast0 rfl
        rw [h0] at HN
        have hnz : n = 0 := by rw [HN.out, hn0]
        have hdz : td = t := by rw [← htdd, hnz]; rfl
        subst hnz
        subst hdz
        have C1 : Hid (∀ W : World, Calls Tryz.prog 103 #[.int .i64 0] W fun e w' => e = .returned (strV v1) ∧ Q W w') := C1.out
        have d0 := cell_stays HQ.out Z0.out
        have d1 := cell_stays HQ.out Z1.out
        simp only [Nat.zero_mul, Nat.add_zero] at d0 d1 Z0 Z1
        have KK := HQ
        clear hlast hlast0 hprev hpl h0 hla hn0 htdd
        go_wp2_with fail
        go_region_held3 (fun w' => w'.cell? ⟨bb, o, none⟩ = some (strV td) ∧ w'.cell? ⟨bb, o + 1, none⟩ = some (strV u)) (first | exact ⟨d0, d1⟩ | exact ⟨cell_stays (Q.drew _) d0, cell_stays (Q.drew _) d1⟩ | exact ⟨cell_stays KK.out Z0.out, cell_stays KK.out Z1.out⟩ | exact ⟨cell_stays (KK.out.trans (Q.drew _)) Z0.out, cell_stays (KK.out.trans (Q.drew _)) Z1.out⟩)
          (first
            | (go_at_call 103; ((with_reducible refine (C1.out _).mono ?_); rintro e w' ⟨rfl, q⟩); have s' : Q w w' := Q.trans (by first | exact KK.out | exact KK.out.trans (Q.drew _)) q; clear KK; have KK := Lib.hid s'; clear s' q)
            | (go_at_call 53; ((with_reducible refine (C2.out _).mono ?_); rintro e w' ⟨rfl, q⟩); have s' : Q w w' := Q.trans (by first | exact KK.out | exact KK.out.trans (Q.drew _)) q; clear KK; have KK := Lib.hid s'; clear s' q)
            | (go_at_call 53; ((with_reducible refine (C3.out _).mono ?_); rintro e w' ⟨rfl, q⟩); have s' : Q w w' := Q.trans (by first | exact KK.out | exact KK.out.trans (Q.drew _)) q; clear KK; have KK := Lib.hid s'; clear s' q))
        all_goals
          clear d0 d1
          go_wp2_with fail
          go_roundw
          case rel => exact ⟨0 + 1, s3, by omega, by go_num, rfl, HLEN.out, HRES, KK⟩
          case measure => simp [intOf]; omega
      · have ha := hlast hz
        have p0 := cell_stays HQ.out (hprev hz)
        have c0 := cell_stays HQ.out Z0.out
        have c1 := cell_stays HQ.out Z1.out
        have hpl1 := hpl hz
        rw [← ha] at p0 hpl1
        have cal := fun W => RDAlike_any la t W (by omega) (by omega)
        rw [← HN.out] at cal
        have CAL := Lib.hid cal
        have hk1 : (k : Int) - 1 = ((k - 1 : Nat) : Int) := by omega
        have hk2 : ((k - 1 : Nat) : Int) < (g.length : Int) := by omega
        have hk3 : (0 : Int) < (k : Int) := by omega
        have hk4 : IntKind.i64.wrap ((k - 1 : Nat) : Int) = ((k - 1 : Nat) : Int) := IntWalk.i64_in _ (by omega)
        have hk5 : (0 : Int) ≤ ((k - 1 : Nat) : Int) := by omega
        clear hlast hlast0 hprev hpl ha hz hla cal hn0 htdd
        generalize k - 1 = k1 at *
        have KK := HQ
        go_wp2_with fail
        go_region_held3 (fun w' => w'.cell? ⟨bb, o + k1 * 2, none⟩ = some (strV la) ∧ w'.cell? ⟨bb, o + k * 2, none⟩ = some (strV t)) (first | exact ⟨p0, c0⟩ | exact ⟨cell_stays (Q.drew _) p0, cell_stays (Q.drew _) c0⟩ | exact ⟨P0.out, C0.out⟩)
          (first
            | (go_at_call 131; ((with_reducible refine (CAL.out _).mono ?_); rintro e w' ⟨rfl, q⟩); have s' : Q w w' := Q.trans (by first | exact KK.out | exact KK.out.trans (Q.drew _)) q; have p0' := (by first | exact cell_stays q p0 | exact cell_stays (Q.trans (Q.drew _) q) p0); have c0' := (by first | exact cell_stays q c0 | exact cell_stays (Q.trans (Q.drew _) q) c0); have P0 := Lib.hid p0'; have C0 := Lib.hid c0'; clear KK; have KK := Lib.hid s'; clear s' q p0' c0'))
        all_goals
          clear p0 c0 c1 P0 C0
          have d0 := cell_stays KK.out Z0.out
          have d1 := cell_stays KK.out Z1.out
          go_wp2_with fail
          go_region_held3 (fun w' => w'.cell? ⟨bb, o + k * 2, none⟩ = some (strV t) ∧ w'.cell? ⟨bb, o + k * 2 + 1, none⟩ = some (strV u)) (first | exact ⟨d0, d1⟩ | exact ⟨cell_stays (Q.drew _) d0, cell_stays (Q.drew _) d1⟩ | exact ⟨cell_stays KK.out Z0.out, cell_stays KK.out Z1.out⟩ | exact ⟨cell_stays (KK.out.trans (Q.drew _)) Z0.out, cell_stays (KK.out.trans (Q.drew _)) Z1.out⟩)
            (first
              | (go_at_call 103; ((with_reducible refine (C1.out _).mono ?_); rintro e w' ⟨rfl, q⟩); have s' : Q w w' := Q.trans (by first | exact KK.out | exact KK.out.trans (Q.drew _)) q; clear KK; have KK := Lib.hid s'; clear s' q)
              | (go_at_call 53; ((with_reducible refine (C2.out _).mono ?_); rintro e w' ⟨rfl, q⟩); have s' : Q w w' := Q.trans (by first | exact KK.out | exact KK.out.trans (Q.drew _)) q; clear KK; have KK := Lib.hid s'; clear s' q)
              | (go_at_call 53; ((with_reducible refine (C3.out _).mono ?_); rintro e w' ⟨rfl, q⟩); have s' : Q w w' := Q.trans (by first | exact KK.out | exact KK.out.trans (Q.drew _)) q; clear KK; have KK := Lib.hid s'; clear s' q))
          all_goals
            clear d0 d1
            go_wp2_with fail
            go_roundw
            case rel => exact ⟨k + 1, s3, by omega, by go_num, rfl, HLEN.out, HRES, KK⟩
            case measure => simp [intOf]; omega
    · have hke : k = g.length := by omega
      subst hke
      go_wp2_with fail
      go_ret
      exact ⟨by rw [HS.out, List.take_length]; rfl, HQ.out⟩
end Go.Proofs.YtoabhcfmdkhmgaaGreatDoor
end

/- (WRef13c) codexref13: bytes, Pack: walked (where entries are right). -/
section
namespace Go.Proofs.YtoabhcfmdkhmgaaGreatDoor
open Go.RowKit
set_option linter.unusedVariables false

theorem pairVs_take (l : List EntryL) (k : Nat) : (pairVs l).take (k * 2) = pairVs (l.take k) := by
  induction l generalizing k with
  | nil => simp [pairVs]
  | cons x l ih =>
    cases k with
    | zero => simp [pairVs]
    | succ k =>
      have e : ∀ m : List EntryL, pairVs (x :: m) = strV x.1 :: strV x.2 :: pairVs m := fun m => by simp [pairVs]
      rw [List.take_succ_cons, e, e, show (k + 1) * 2 = k * 2 + 1 + 1 by omega, List.take_succ_cons, List.take_succ_cons, ih]
theorem pairVs_drop (l : List EntryL) (k : Nat) : (pairVs l).drop (k * 2) = pairVs (l.drop k) := by
  induction l generalizing k with
  | nil => simp [pairVs]
  | cons x l ih =>
    cases k with
    | zero => simp
    | succ k =>
      have e : ∀ m : List EntryL, pairVs (x :: m) = strV x.1 :: strV x.2 :: pairVs m := fun m => by simp [pairVs]
      rw [List.drop_succ_cons, e, show (k + 1) * 2 = k * 2 + 1 + 1 by omega, List.drop_succ_cons, List.drop_succ_cons, ih]
def idxR (l : List EntryL) (m : Nat) : Bytes := (List.range m).flatMap fun i => textE ((grpL l i).headD ([], [])).1 ++ varE (blockE [] (grpL l i)).length
theorem idxTo_R (l : List EntryL) (m : Nat) : idxTo l m = varE l.length ++ idxR l m := rfl
theorem idxR_succ (l : List EntryL) (m : Nat) : idxR l (m + 1) = idxR l m ++ (textE ((grpL l m).headD ([], [])).1 ++ varE (blockE [] (grpL l m)).length) := by
  simp [idxR, List.range_succ]
set_option maxRecDepth 100000 in
set_option maxHeartbeats 4000000 in
theorem RDBytes_ok (v : Value) (l : List EntryL) (w : World) (hv : Pairs w v l) (hn : l.length ≤ 1048576) (hl : Small l) (hcap : ∀ a n c, v = .slice a n c → n ≤ c ∧ c ≤ 9223372036854775807) :
    Calls Tryz.prog 82 #[v] w fun e w' => e = .returned (strV (dictE l)) ∧ Q w w' := by
  have hv0 := hv
  obtain ⟨a, cap, rfl, hcell⟩ := hv.value
  obtain ⟨hc1, hc2⟩ := hcap _ _ _ rfl
  have HC := Lib.hid hcell; have HL := Lib.hid hl; have HV := Lib.hid hv0
  clear hcell hv hl hv0 hcap
  have hmx : Tryz.prog.follows .mixedOrders = true := by kernel_rfl
  go_enter Tryz.func82, Tryz.ntmps82
  go_wp2_with fail
  go_loopw [3, 4, 5, 6] (fun xv av iv _ wr => ∃ (m i : Nat) (s t : Bytes), iv = .int .i64 (i : Int) ∧ xv = strV s ∧ av = strV t ∧ i ≤ l.length + 15 ∧ s.length ≤ 1000000000 ∧ t.length ≤ 100000000000000 ∧ Hid (i = 16 * m) ∧ Hid (m = 0 ∨ 16 * (m - 1) < l.length) ∧ Hid (s = idxR l m) ∧ Hid (t = allTo l m) ∧ Hid (Q w wr)) (fun _ _ i _ _ => l.length + 16 - (intOf i).toNat)
  case atStart => exact ⟨0, 0, [], [], rfl, rfl, rfl, by omega, by simp, by simp, rfl, .inl rfl, rfl, rfl, Q.refl _⟩
  case round =>
    obtain ⟨m, i, s, t, rfl, rfl, rfl, hib, hsb, htb, HI, HM, HS, HT, HQ⟩ := hrel
    obtain ⟨wo, rfl⟩ : ∃ wo : World, wo = wr := ⟨_, rfl⟩
    by_cases hlt : i < l.length
    · have hg := grpL_length l m
      have hgl : (l.take (min l.length (i + 16))).drop i = grpL l m := by
        unfold grpL
        rw [← HI.out, List.drop_take]
        by_cases h : i + 16 ≤ l.length
        · rw [Nat.min_eq_right h, show i + 16 - i = 16 by omega]
        · rw [Nat.min_eq_left (by omega), List.take_of_length_le (by rw [List.length_drop]; omega), List.take_of_length_le (by rw [List.length_drop]; omega)]
      have hcut := fun W (q : Q w W) (hi1 : i ≤ min l.length (i + 16)) (hi2 : min l.length (i + 16) ≤ l.length) => Sl.cut (size := 2) (Pairs.stays HV.out q) i (min l.length (i + 16)) hi1 hi2 hc1
      rw [pairVs_take, pairVs_drop, hgl, if_neg (by omega : ¬ cap = i)] at hcut
      have hhead : ((grpL l m).headD ([], [])).1 = l[i].1 := by
        have hh : (grpL l m)[0]? = some l[i] := by
          unfold grpL
          rw [List.getElem?_take, if_pos (by omega), List.getElem?_drop, ← HI.out, Nat.add_zero, List.getElem?_eq_getElem hlt]
        cases hgr : grpL l m with
        | nil => rw [hgr] at hh; cases hh
        | cons y ys => rw [hgr] at hh; injection hh with hh; rw [hh]; rfl
      have hxs := idxR_succ l m
      have hts := allTo_succ l m
      rw [hhead, ← HS.out] at hxs
      rw [← HT.out] at hts
      have hsl := idxTo_len HL.out (m + 1)
      rw [idxTo_R, List.length_append, hxs] at hsl
      have htl := allTo_len HL.out (m + 1)
      rw [hts] at htl
      have hm2 := HI.out
      have hbl := blockE_len (grpL_small HL.out m) []
      have hsm := grpL_small HL.out m
      rw [hg, ← HI.out] at hbl
      rw [← HI.out] at hg
      have hii : (0 : Int) ≤ (i : Int) := by omega
      have hil : (i : Int) < (l.length : Int) := by omega
      obtain ⟨hi2, hhi⟩ : ∃ h, h = min l.length (i + 16) := ⟨_, rfl⟩
      rw [← hhi] at hcut
      have hmin : min (l.length : Int) ((i : Int) + 16) = (hi2 : Int) := by omega
      have hb1 : i ≤ hi2 := by omega
      have hb2 : hi2 ≤ l.length := by omega
      have hglen : (grpL l m).length = hi2 - i := by omega
      have hp2 : ∀ W, Q w W → Pairs W (.slice (Option.map (fun x => x.add (i * 2)) a) (hi2 - i) (cap - i)) (grpL l m) := fun W q => by
        have := hcut W q hb1 hb2
        unfold Pairs
        rw [hglen]
        exact this
      have cb := fun W (q : Q w W) => RDBlock_any _ _ W (hp2 W q) (by omega) hsm
      have z0 := fun (h : 0 < l.length) => HC.out h
      obtain ⟨bb, o, rfl, hc⟩ := HC.out (by omega)
      have c0 := cell_stays HQ.out (hc i hlt).1
      simp only [Option.map_some, add_off] at cb
      have hxl := (HL.out _ (List.getElem_mem hlt)).1
      have hl1 := textE_len l[i].1
      have hl2 := varE_len (blockE [] (grpL l m)).length
      have ct := fun W => RText_any l[i].1 W (by omega)
      have cn := RDNum_int ((blockE [] (grpL l m)).length : Int) _ rfl (by omega)
      clear hc z0 hcut hp2 hgl hsm
      generalize l[i].1 = x at *
      generalize blockE [] (grpL l m) = bl at *
      generalize textE x = v1 at *
      generalize varE bl.length = v2 at *
      have HXS := Lib.hid hxs; have HTS := Lib.hid hts; have CB := Lib.hid cb; have CT := Lib.hid ct; have CN := Lib.hid cn
      have hm3 : m + 1 ≤ 65537 := by omega
      have HM2 := Lib.hid hm2
      have hs2 : (s ++ (v1 ++ v2)).length ≤ 1000000000 := by rw [List.length_append]; rw [List.length_append] at hsl; omega
      have ht2 : (t ++ bl).length ≤ 100000000000000 := by omega
      have HS2 := Lib.hid hs2; have HT2 := Lib.hid ht2
      clear hxs hts cb ct cn hg hglen hhi hm2 hhead hsl htl hs2 ht2
      have c0i := c0
      go_wp2_with fail
      refine (CB.out _ HQ.out).mono ?_
      rintro e w1 ⟨rfl, q1⟩
      have d0 := cell_stays q1 c0
      have HQ1 := Lib.hid (HQ.out.trans q1)
      clear q1 c0 HQ CB c0i
      go_wp2_with fail
      refine (CT.out _).mono ?_
      rintro e w2 ⟨rfl, q2⟩
      have HQ2 := Lib.hid (HQ1.out.trans q2)
      clear q2 HQ1 CT d0
      go_wp2_with fail
      refine (CN.out _).mono ?_
      rintro e w3 ⟨rfl, q3⟩
      have HQ3 := Lib.hid (HQ2.out.trans q3)
      clear q3 HQ2 CN
      go_wp2_with fail
      go_roundw
      case rel => exact ⟨m + 1, i + 16, s ++ (v1 ++ v2), t ++ bl, by go_num, by rw [bytes_append, bytes_append, List.append_assoc], by rw [bytes_append], by omega, HS2.out, HT2.out, by show _ = _; have := HM2.out; omega, .inr (by have := HM2.out; simp; omega), HXS.out.symm, HTS.out.symm, HQ3⟩
      case measure => simp [intOf]; omega
    · have hfin : dictE l = varE l.length ++ s ++ t := by
        rw [dictE_eq l m (by have := HI.out; omega) HM.out, idxTo_R, ← HS.out, ← HT.out]
      have c3 := RDNum_int (l.length : Int) l.length rfl (by omega)
      have hl3 := varE_len l.length
      have HFIN := Lib.hid hfin; have C3 := Lib.hid c3
      clear hfin c3
      generalize varE l.length = v3 at *
      go_wp2_with fail
      refine (C3.out _).mono ?_
      rintro e w7 ⟨rfl, q7⟩
      have HQ7 := Lib.hid (HQ.out.trans q7)
      clear q7
      go_wp2_with fail
      go_ret
      exact ⟨by rw [HFIN.out]; exact congrArg (fun b => Ending.returned (.string b)) (by rw [bytes_append, bytes_append]), HQ7.out⟩
theorem RDPack_ok (v : Value) (l : List EntryL) (w : World) (hv : Pairs w v l) (hn : l.length ≤ 1048576) (hl : Small l) (hcap : ∀ a n c, v = .slice a n c → n ≤ c ∧ c ≤ 9223372036854775807) (hr : entriesRight [] l = true) :
    Calls Tryz.prog 57 #[v] w fun e w' => e = .returned (.tuple #[strV (dictE l), .int .i64 0]) ∧ Q w w' := by
  have c1 := RDRight_ok v l w hv hn hr
  have c2 := fun W (q : Q w W) => RDBytes_ok v l W (hv.stays q) hn hl hcap
  generalize dictE l = x at *
  obtain ⟨a, cap, rfl, hcell⟩ := hv.value
  have C1 := Lib.hid c1; have C2 := Lib.hid c2
  clear c1 c2 hv hl hcell hr hcap
  go_enter Tryz.func57, Tryz.ntmps57
  go_wp2_with fail
  refine C1.out.mono ?_
  rintro e w1 ⟨rfl, q1⟩
  have HQ1 := Lib.hid q1
  clear q1 C1
  go_wp2_with fail
  refine (C2.out _ HQ1.out).mono ?_
  rintro e w2 ⟨rfl, q2⟩
  have HQ2 := Lib.hid (HQ1.out.trans q2)
  clear q2 C2
  go_wp2_with fail
  go_ret2
  exact ⟨rfl, HQ2.out⟩
end Go.Proofs.YtoabhcfmdkhmgaaGreatDoor
end
