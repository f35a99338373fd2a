/- Joined texts of one proof: WRef10a, WRef10b, WRef10c, WRef10d. -/
import Derived.Test.YtoabhcfmdkhmgaaGreatDoorPRef10ToWVar
import Derived.WalkSpells
import Derived.WalkKit
import Derived.Outline
import Derived.Handy
import Derived.Deep.RegionLaw
import Derived.WalkLawsBesides
set_option linter.unusedSimpArgs false
set_option linter.unusedVariables false
set_option linter.unnecessarySimpa false
/- (WRef10a) codexref10: Is, Bytes, Rune: walked. -/
section
namespace Go.Proofs.YtoabhcfmdkhmgaaGreatDoor
open Go.RowKit
set_option linter.unusedVariables false

set_option maxRecDepth 100000 in
theorem RIs_any (r : Int) (w : World) :
    Calls Tryz.prog 126 #[.int .i64 r] w fun e w' => e = .returned (.bool (Lib.validRune r)) ∧ w' = w := by
  have hv := validRune_iff r
  have key : ∀ b : Bool, ((Lib.validRune r = true) ↔ (b = true)) → Lib.validRune r = b := by intro b; cases b <;> cases Lib.validRune r <;> simp
  by_cases h0 : 0 ≤ r
  · by_cases h1 : r ≤ 1114111
    · by_cases h2 : r < 55296
      · rw [key true (by rw [hv]; simp; omega)]
        clear hv key
        go_enter Tryz.func126, Tryz.ntmps126
        go_wp2_with fail
        go_ret
        exact ⟨rfl, rfl⟩
      · by_cases h3 : 57343 < r
        · rw [key true (by rw [hv]; simp; omega)]
          clear hv key
          go_enter Tryz.func126, Tryz.ntmps126
          go_wp2_with fail
          go_ret
          exact ⟨rfl, rfl⟩
        · rw [key false (by rw [hv]; simp; omega)]
          clear hv key
          go_enter Tryz.func126, Tryz.ntmps126
          go_wp2_with fail
          go_ret
          exact ⟨rfl, rfl⟩
    · rw [key false (by rw [hv]; simp; omega)]
      clear hv key
      go_enter Tryz.func126, Tryz.ntmps126
      go_wp2_with fail
      go_ret
      exact ⟨rfl, rfl⟩
  · rw [key false (by rw [hv]; simp; omega)]
    clear hv key
    go_enter Tryz.func126, Tryz.ntmps126
    go_wp2_with fail
    go_ret
    exact ⟨rfl, rfl⟩
/-- a few bytes that were built just now, as a text -/
theorem ints_back (w : World) (zs : List Int) (hz : ∀ x ∈ zs, 0 ≤ x ∧ x < 256) (n : Nat) (hn : zs.length = n) :
    (convert 100 9 (.slice (some ⟨w.heap.size, 0, none⟩) n n)).run Tryz.prog (w.alloc (.cells (zs.map (Value.int .u8)).toArray 5)) =
      .ok (strV (zs.map fun x => x.toNat.toUInt8)) (w.alloc (.cells (zs.map (Value.int .u8)).toArray 5)) := by
  have h := run_convert_bytes_back (P := Tryz.prog) (w.alloc (.cells (zs.map (Value.int .u8)).toArray 5)) 100 9 5 ⟨w.heap.size, 0, none⟩ n (zs.map fun x => x.toNat.toUInt8) Tryz.underlying100 Tryz.underlying5 Tryz.underlying9 (fun j hj => by
    rw [add_head]
    simp only [World.cell?, heap_alloc_new]
    have hj' : j < zs.length := by simpa using hj
    have hb := hz zs[j] (List.getElem_mem hj')
    simp only [List.getElem_map, List.getElem?_toArray, List.getElem?_map, List.getElem?_eq_getElem hj', Option.map_some]
    rw [toNat8 _ hb.1 hb.2, Int.toNat_of_nonneg hb.1]
    simp)
  rw [List.length_map, hn] at h
  exact h
set_option maxRecDepth 100000 in
theorem RBytes_any (r : Int) (w : World) (hr : Lib.validRune r = true) :
    Calls Tryz.prog 127 #[.int .i64 r] w fun e w' => e = .returned (strV (Lib.encodeRune r)) ∧ Q w w' := by
  rw [validRune_iff] at hr
  have hz := Lib.encodeRuneZ_byte r
  unfold Lib.encodeRune
  by_cases c1 : r < 128
  · have h0 : 0 ≤ r := by omega
    rw [Lib.encodeRuneZ_one (by omega) (by omega)] at hz ⊢
    have k : (convert 100 9 (.slice (some ⟨w.heap.size, 0, none⟩) 1 1)).run Tryz.prog (w.alloc (.cells #[.int .u8 r] 5)) = .ok (strV ([r].map fun x => x.toNat.toUInt8)) (w.alloc (.cells #[.int .u8 r] 5)) := ints_back w _ hz 1 rfl
    have hq := Q.alloc w (.cells #[.int .u8 r] 5)
    generalize ([r].map fun x => x.toNat.toUInt8) = bs at *
    clear hr hz
    go_enter Tryz.func127, Tryz.ntmps127
    go_wp2_with fail
    go_ret
    exact ⟨rfl, hq⟩
  · by_cases c2 : r < 2048
    · rw [Lib.encodeRuneZ_two (by omega) (by omega)] at hz ⊢
      have k : (convert 100 9 (.slice (some ⟨w.heap.size, 0, none⟩) 2 2)).run Tryz.prog (w.alloc (.cells #[.int .u8 (192 + r / 64), .int .u8 (128 + r % 64)] 5)) = .ok (strV ([192 + r / 64, 128 + r % 64].map fun x => x.toNat.toUInt8)) (w.alloc (.cells #[.int .u8 (192 + r / 64), .int .u8 (128 + r % 64)] 5)) := ints_back w _ hz 2 rfl
      have hq := Q.alloc w (.cells #[.int .u8 (192 + r / 64), .int .u8 (128 + r % 64)] 5)
      generalize ([192 + r / 64, 128 + r % 64].map fun x => x.toNat.toUInt8) = bs at *
      clear hr hz
      go_enter Tryz.func127, Tryz.ntmps127
      go_wp2_with fail
      go_ret
      exact ⟨rfl, hq⟩
    · by_cases c3 : r < 65536
      · rw [Lib.encodeRuneZ_three (by omega)] at hz ⊢
        have k : (convert 100 9 (.slice (some ⟨w.heap.size, 0, none⟩) 3 3)).run Tryz.prog (w.alloc (.cells #[.int .u8 (224 + r / 4096), .int .u8 (128 + r / 64 % 64), .int .u8 (128 + r % 64)] 5)) = .ok (strV ([224 + r / 4096, 128 + r / 64 % 64, 128 + r % 64].map fun x => x.toNat.toUInt8)) (w.alloc (.cells #[.int .u8 (224 + r / 4096), .int .u8 (128 + r / 64 % 64), .int .u8 (128 + r % 64)] 5)) := ints_back w _ hz 3 rfl
        have hq := Q.alloc w (.cells #[.int .u8 (224 + r / 4096), .int .u8 (128 + r / 64 % 64), .int .u8 (128 + r % 64)] 5)
        generalize ([224 + r / 4096, 128 + r / 64 % 64, 128 + r % 64].map fun x => x.toNat.toUInt8) = bs at *
        clear hr hz
        go_enter Tryz.func127, Tryz.ntmps127
        go_wp2_with fail
        go_ret
        exact ⟨rfl, hq⟩
      · rw [Lib.encodeRuneZ_four (by omega) (by omega)] at hz ⊢
        have k : (convert 100 9 (.slice (some ⟨w.heap.size, 0, none⟩) 4 4)).run Tryz.prog (w.alloc (.cells #[.int .u8 (240 + r / 262144), .int .u8 (128 + r / 4096 % 64), .int .u8 (128 + r / 64 % 64), .int .u8 (128 + r % 64)] 5)) = .ok (strV ([240 + r / 262144, 128 + r / 4096 % 64, 128 + r / 64 % 64, 128 + r % 64].map fun x => x.toNat.toUInt8)) (w.alloc (.cells #[.int .u8 (240 + r / 262144), .int .u8 (128 + r / 4096 % 64), .int .u8 (128 + r / 64 % 64), .int .u8 (128 + r % 64)] 5)) := ints_back w _ hz 4 rfl
        have hq := Q.alloc w (.cells #[.int .u8 (240 + r / 262144), .int .u8 (128 + r / 4096 % 64), .int .u8 (128 + r / 64 % 64), .int .u8 (128 + r % 64)] 5)
        generalize ([240 + r / 262144, 128 + r / 4096 % 64, 128 + r / 64 % 64, 128 + r % 64].map fun x => x.toNat.toUInt8) = bs at *
        have hr4 : r ≤ 1114111 := by omega
        clear hr hz
        go_enter Tryz.func127, Tryz.ntmps127
        go_wp2_with fail
        go_ret
        exact ⟨rfl, hq⟩
theorem runeR_found (s : Bytes) (n : Nat) (h0 : s ≠ []) (h1 : 1 ≤ n) (h2 : n ≤ 4) (h3 : n ≤ s.length) (hno : ∀ m, 1 ≤ m → m < n → okR s m = false) (hok : okR s n = true) : runeR s = (accR s n (n - 1), n) := by
  unfold runeR
  have hc : n = 1 ∨ n = 2 ∨ n = 3 ∨ n = 4 := by omega
  rcases hc with rfl | rfl | rfl | rfl
  · rw [if_neg h0, if_pos hok]
  · rw [if_neg h0, if_neg (by simp [hno 1 (by omega) (by omega)]), if_pos ⟨h3, hok⟩]
  · rw [if_neg h0, if_neg (by simp [hno 1 (by omega) (by omega)]), if_neg (by simp [hno 2 (by omega) (by omega)]), if_pos ⟨h3, hok⟩]
  · rw [if_neg h0, if_neg (by simp [hno 1 (by omega) (by omega)]), if_neg (by simp [hno 2 (by omega) (by omega)]), if_neg (by simp [hno 3 (by omega) (by omega)]), if_pos ⟨h3, hok⟩]
theorem runeR_none (s : Bytes) (n : Nat) (h0 : s ≠ []) (h1 : 1 ≤ n) (hend : ¬ (n ≤ 4 ∧ n ≤ s.length)) (hno : ∀ m, 1 ≤ m → m < n → okR s m = false) : runeR s = (-1, 1) := by
  have hl := List.length_pos_iff.2 h0
  unfold runeR
  rw [if_neg h0, if_neg (by simp [hno 1 (by omega) (by omega)]), if_neg (fun h => by simp [hno 2 (by omega) (by omega)] at h), if_neg (fun h => by simp [hno 3 (by omega) (by omega)] at h), if_neg (fun h => by simp [hno 4 (by omega) (by omega)] at h)]
theorem bytes_eqR (a b : Bytes) : (({ data := a.toArray } : ByteArray).toList == ({ data := b.toArray } : ByteArray).toList) = decide (a = b) := by
  rw [ByteArray.toList_eq, ByteArray.toList_eq]
  by_cases h : a = b <;> simp [h]
theorem accR_bound (s : Bytes) (n j : Nat) (hj : j ≤ 3) : -100000000 ≤ accR s n j ∧ accR s n j ≤ 100000000 := by
  have h0 : -240 ≤ v0R s n ∧ v0R s n ≤ 255 := by
    have := (s.getD 0 0).toNat_lt
    unfold v0R
    repeat' split
    all_goals omega
  have h1 := (s.getD 1 0).toNat_lt; have h2 := (s.getD 2 0).toNat_lt; have h3 := (s.getD 3 0).toNat_lt
  match j, hj with
  | 0, _ => simp only [accR, Nat.zero_add, Nat.reduceAdd]; omega
  | 1, _ => simp only [accR, Nat.zero_add, Nat.reduceAdd]; omega
  | 2, _ => simp only [accR, Nat.zero_add, Nat.reduceAdd]; omega
  | 3, _ => simp only [accR, Nat.zero_add, Nat.reduceAdd]; omega
set_option maxRecDepth 1000000 in
set_option maxHeartbeats 4000000 in
theorem RRune_any (s : Bytes) (w : World) (hs : s.length ≤ 9223372036854775807) :
    Calls Tryz.prog 97 #[strV s] w fun e w' => e = .returned (.tuple #[.int .i64 (rune1 s).1, .int .i64 (rune1 s).2]) ∧ Q w w' := by
  rw [← runeR_eq]
  by_cases hne : s = []
  · subst hne
    go_enter Tryz.func97, Tryz.ntmps97
    go_wp2_with fail
    go_returns
    exact ⟨rfl, Q.refl _⟩
  · have hl : 0 < s.length := List.length_pos_iff.2 hne
    have hne1 : s.isEmpty = false := by simpa using hne
    go_enter Tryz.func97, Tryz.ntmps97
    go_wp2_with fail
    go_loopw [4] (fun i wr => ∃ n : Nat, 1 ≤ n ∧ n ≤ 5 ∧ n ≤ s.length + 1 ∧ i = .int .i64 (n : Nat) ∧ Hid (∀ m, 1 ≤ m → m < n → okR s m = false) ∧ Hid (Q w wr)) (fun i _ => 5 - (intOf i).toNat)
    case atStart => exact ⟨1, by omega, by omega, by omega, rfl, fun m h1 h2 => by omega, Q.refl _⟩
    case round =>
      obtain ⟨n, hn1, hn5, hnl, rfl, HNO, HQ⟩ := hrel
      obtain ⟨wo, rfl⟩ : ∃ wo : World, wo = wr := ⟨_, rfl⟩
      by_cases hn : n ≤ 4 ∧ n ≤ s.length
      · obtain ⟨h4, hns⟩ := hn
        have hb0 : ((({ data := s.toArray } : ByteArray)[0]'hl).toNat : Int) = (byteN s 0 : Nat) := byteAt s 0 hl
        have hv0 : accR s n 0 = (byteN s 0 : Int) - (if n = 2 then 192 else if n = 3 then 224 else if n = 4 then 240 else 0) := rfl
        have hbl := byteN_lt s 0
        have HV0 := Lib.hid hv0
        clear hv0
        have hc : n = 1 ∨ n = 2 ∨ n = 3 ∨ n = 4 := by omega
        rcases hc with rfl | rfl | rfl | rfl
        · -- n = 1
          have hv0 := HV0.out
          simp only [Nat.reduceEqDiff, if_true, if_false, reduceIte, Int.sub_zero, Nat.reduceBEq, Nat.succ_ne_self] at hv0
          have hs1 : (1 : Int) ≤ (s.length : Int) := by omega
          go_wp2_with fail
          go_loopw [5, 6] (fun v i wr => ∃ j : Nat, j + 1 ≤ 1 ∧ v = .int .i64 (accR s 1 j) ∧ i = .int .i64 ((j : Int) + 1) ∧ Hid (Q w wr)) (fun _ i _ => 1 - (intOf i).toNat)
          case atStart => exact ⟨0, by omega, by rw [hv0], rfl, HQ⟩
          case round =>
            obtain ⟨j, hj, rfl, rfl, HQ2⟩ := hrel
            obtain ⟨wi, rfl⟩ : ∃ wo : World, wo = wr := ⟨_, rfl⟩
            clear hb0 hbl hv0
            by_cases hj2 : j + 1 < 1
            · have hjl : j + 1 < s.length := by omega
              have hbj : ((({ data := s.toArray } : ByteArray)[j + 1]'hjl).toNat : Int) = (byteN s (j + 1) : Nat) := byteAt s (j + 1) hjl
              have hbl := byteN_lt s (j + 1)
              obtain ⟨ha0, ha1⟩ := accR_bound s 1 j (by omega)
              have hji : (j : Int) + 1 < 1 := by omega
              have hji2 : (j : Int) + 1 < (s.length : Int) := by omega
              have hj0 : (0 : Int) ≤ (j : Int) + 1 := by omega
              have hjn : ((j : Int) + 1).toNat = j + 1 := by omega
              have hstep : accR s 1 (j + 1) = 64 * accR s 1 j + (byteN s (j + 1) : Int) - 128 := rfl
              have HST := Lib.hid hstep
              clear hstep
              generalize byteN s (j + 1) = bj at *
              generalize accR s 1 j = aj at *
              go_wp2_with fail
              go_roundw
              case rel => exact ⟨j + 1, by omega, by rw [HST.out], by go_num, HQ2⟩
              case measure => simp [intOf]; omega
            · have hje : j = 1 - 1 := by omega
              subst hje
              have hok : okR s 1 = (Lib.validRune (accR s 1 (1 - 1)) && decide (Lib.encodeRune (accR s 1 (1 - 1)) = s.take 1)) := rfl
              have hfo := fun h => runeR_found s 1 hne (by omega) (by omega) hns HNO.out h
              have HOK := Lib.hid hok; have HFO := Lib.hid hfo
              clear hok hfo HV0
              have cis := fun w => RIs_any (accR s 1 (1 - 1)) w
              have cby := 0
              simp only [Nat.reduceSub] at *
              have hext : ({ data := s.toArray } : ByteArray).extract 0 1 = ⟨(s.take 1).toArray⟩ := bytes_take s _
              generalize accR s 1 (1 - 1) = a at *
              cases hv : Lib.validRune a with
              | false =>
                rw [hv] at cis
                go_wp2_with fail
                refine (cis _).mono ?_
                rintro e w5 ⟨rfl, rfl⟩
                have hno : ∀ m, 1 ≤ m → m < 1 + 1 → okR s m = false := fun m h1 h2 => by
                  by_cases hm : m = 1
                  · subst hm; rw [HOK.out, hv]; rfl
                  · exact HNO.out m h1 (by omega)
                have HN2 := Lib.hid hno
                clear hno cis cby
                go_wp2_with fail
                go_region
                go_wp2_with fail
                go_roundw
                case rel => exact ⟨1 + 1, by omega, by omega, by omega, by go_num, HN2, HQ2.out.trans (Q.drew _)⟩
                case measure => simp [intOf]
              | true =>
                rw [hv] at cis
                have cby := fun W => RBytes_any a W hv
                have heq := bytes_eqR (Lib.encodeRune a) (s.take 1)
                have hef : okR s 1 = decide (Lib.encodeRune a = s.take 1) := by rw [HOK.out, hv, Bool.true_and]
                have HEF := Lib.hid hef; have CBY := Lib.hid cby
                clear hef cby HOK
                generalize Lib.encodeRune a = ea at *
                generalize s.take 1 = st at *
                go_wp2_with fail
                refine (cis _).mono ?_
                rintro e w5 ⟨rfl, rfl⟩
                go_wp2_with fail
                go_region_law
                  (go_simp; refine (CBY.out _).mono ?_; rintro e w6 ⟨rfl, q6⟩)
                have HQ6 := Lib.hid (HQ2.out.trans ((Q.drew _).trans q6))
                have HNS := Lib.hid hns
                clear q6 cis CBY heq hext hv hn1 hn5 hnl h4 hns hs1 hj hj2 cby
                by_cases hes : ea = st
                · rw [beq_iff_eq.2 hes]
                  have hrr := HFO.out (by rw [HEF.out, decide_eq_true hes])
                  have HRR := Lib.hid hrr
                  have HES := Lib.hid hes
                  clear hes hrr
                  go_wp2_with fail
                  go_returns
                  exact ⟨by rw [HRR.out]; rfl, HQ6.out⟩
                · rw [beq_false_of_ne hes]
                  have hno : ∀ m, 1 ≤ m → m < 1 + 1 → okR s m = false := fun m h1 h2 => by
                    by_cases hm : m = 1
                    · subst hm; rw [HEF.out, decide_eq_false hes]
                    · exact HNO.out m h1 (by omega)
                  have HN2 := Lib.hid hno
                  have HES := Lib.hid hes
                  clear hno hes
                  go_wp2_with fail
                  go_roundw
                  case rel => exact ⟨1 + 1, by omega, by omega, by have := HNS.out; omega, by go_num, HN2, HQ6⟩
                  case measure => simp [intOf]
        · -- n = 2
          have hv0 := HV0.out
          simp only [Nat.reduceEqDiff, if_true, if_false, reduceIte, Int.sub_zero, Nat.reduceBEq, Nat.succ_ne_self] at hv0
          have hs1 : (2 : Int) ≤ (s.length : Int) := by omega
          go_wp2_with fail
          go_loopw [5, 6] (fun v i wr => ∃ j : Nat, j + 1 ≤ 2 ∧ v = .int .i64 (accR s 2 j) ∧ i = .int .i64 ((j : Int) + 1) ∧ Hid (Q w wr)) (fun _ i _ => 2 - (intOf i).toNat)
          case atStart => exact ⟨0, by omega, by rw [hv0], rfl, HQ⟩
          case round =>
            obtain ⟨j, hj, rfl, rfl, HQ2⟩ := hrel
            obtain ⟨wi, rfl⟩ : ∃ wo : World, wo = wr := ⟨_, rfl⟩
            clear hb0 hbl hv0
            by_cases hj2 : j + 1 < 2
            · have hjl : j + 1 < s.length := by omega
              have hbj : ((({ data := s.toArray } : ByteArray)[j + 1]'hjl).toNat : Int) = (byteN s (j + 1) : Nat) := byteAt s (j + 1) hjl
              have hbl := byteN_lt s (j + 1)
              obtain ⟨ha0, ha1⟩ := accR_bound s 2 j (by omega)
              have hji : (j : Int) + 1 < 2 := by omega
              have hji2 : (j : Int) + 1 < (s.length : Int) := by omega
              have hj0 : (0 : Int) ≤ (j : Int) + 1 := by omega
              have hjn : ((j : Int) + 1).toNat = j + 1 := by omega
              have hstep : accR s 2 (j + 1) = 64 * accR s 2 j + (byteN s (j + 1) : Int) - 128 := rfl
              have HST := Lib.hid hstep
              clear hstep
              generalize byteN s (j + 1) = bj at *
              generalize accR s 2 j = aj at *
              go_wp2_with fail
              go_roundw
              case rel => exact ⟨j + 1, by omega, by rw [HST.out], by go_num, HQ2⟩
              case measure => simp [intOf]; omega
            · have hje : j = 2 - 1 := by omega
              subst hje
              have hok : okR s 2 = (Lib.validRune (accR s 2 (2 - 1)) && decide (Lib.encodeRune (accR s 2 (2 - 1)) = s.take 2)) := rfl
              have hfo := fun h => runeR_found s 2 hne (by omega) (by omega) hns HNO.out h
              have HOK := Lib.hid hok; have HFO := Lib.hid hfo
              clear hok hfo HV0
              have cis := fun w => RIs_any (accR s 2 (2 - 1)) w
              have cby := 0
              simp only [Nat.reduceSub] at *
              have hext : ({ data := s.toArray } : ByteArray).extract 0 2 = ⟨(s.take 2).toArray⟩ := bytes_take s _
              generalize accR s 2 (2 - 1) = a at *
              cases hv : Lib.validRune a with
              | false =>
                rw [hv] at cis
                go_wp2_with fail
                refine (cis _).mono ?_
                rintro e w5 ⟨rfl, rfl⟩
                have hno : ∀ m, 1 ≤ m → m < 2 + 1 → okR s m = false := fun m h1 h2 => by
                  by_cases hm : m = 2
                  · subst hm; rw [HOK.out, hv]; rfl
                  · exact HNO.out m h1 (by omega)
                have HN2 := Lib.hid hno
                clear hno cis cby
                go_wp2_with fail
                go_region
                go_wp2_with fail
                go_roundw
                case rel => exact ⟨2 + 1, by omega, by omega, by omega, by go_num, HN2, HQ2.out.trans (Q.drew _)⟩
                case measure => simp [intOf]
              | true =>
                rw [hv] at cis
                have cby := fun W => RBytes_any a W hv
                have heq := bytes_eqR (Lib.encodeRune a) (s.take 2)
                have hef : okR s 2 = decide (Lib.encodeRune a = s.take 2) := by rw [HOK.out, hv, Bool.true_and]
                have HEF := Lib.hid hef; have CBY := Lib.hid cby
                clear hef cby HOK
                generalize Lib.encodeRune a = ea at *
                generalize s.take 2 = st at *
                go_wp2_with fail
                refine (cis _).mono ?_
                rintro e w5 ⟨rfl, rfl⟩
                go_wp2_with fail
                go_region_law
                  (go_simp; refine (CBY.out _).mono ?_; rintro e w6 ⟨rfl, q6⟩)
                have HQ6 := Lib.hid (HQ2.out.trans ((Q.drew _).trans q6))
                have HNS := Lib.hid hns
                clear q6 cis CBY heq hext hv hn1 hn5 hnl h4 hns hs1 hj hj2 cby
                by_cases hes : ea = st
                · rw [beq_iff_eq.2 hes]
                  have hrr := HFO.out (by rw [HEF.out, decide_eq_true hes])
                  have HRR := Lib.hid hrr
                  have HES := Lib.hid hes
                  clear hes hrr
                  go_wp2_with fail
                  go_returns
                  exact ⟨by rw [HRR.out]; rfl, HQ6.out⟩
                · rw [beq_false_of_ne hes]
                  have hno : ∀ m, 1 ≤ m → m < 2 + 1 → okR s m = false := fun m h1 h2 => by
                    by_cases hm : m = 2
                    · subst hm; rw [HEF.out, decide_eq_false hes]
                    · exact HNO.out m h1 (by omega)
                  have HN2 := Lib.hid hno
                  have HES := Lib.hid hes
                  clear hno hes
                  go_wp2_with fail
                  go_roundw
                  case rel => exact ⟨2 + 1, by omega, by omega, by have := HNS.out; omega, by go_num, HN2, HQ6⟩
                  case measure => simp [intOf]
        · -- n = 3
          have hv0 := HV0.out
          simp only [Nat.reduceEqDiff, if_true, if_false, reduceIte, Int.sub_zero, Nat.reduceBEq, Nat.succ_ne_self] at hv0
          have hs1 : (3 : Int) ≤ (s.length : Int) := by omega
          go_wp2_with fail
          go_loopw [5, 6] (fun v i wr => ∃ j : Nat, j + 1 ≤ 3 ∧ v = .int .i64 (accR s 3 j) ∧ i = .int .i64 ((j : Int) + 1) ∧ Hid (Q w wr)) (fun _ i _ => 3 - (intOf i).toNat)
          case atStart => exact ⟨0, by omega, by rw [hv0], rfl, HQ⟩
          case round =>
            obtain ⟨j, hj, rfl, rfl, HQ2⟩ := hrel
            obtain ⟨wi, rfl⟩ : ∃ wo : World, wo = wr := ⟨_, rfl⟩
            clear hb0 hbl hv0
            by_cases hj2 : j + 1 < 3
            · have hjl : j + 1 < s.length := by omega
              have hbj : ((({ data := s.toArray } : ByteArray)[j + 1]'hjl).toNat : Int) = (byteN s (j + 1) : Nat) := byteAt s (j + 1) hjl
              have hbl := byteN_lt s (j + 1)
              obtain ⟨ha0, ha1⟩ := accR_bound s 3 j (by omega)
              have hji : (j : Int) + 1 < 3 := by omega
              have hji2 : (j : Int) + 1 < (s.length : Int) := by omega
              have hj0 : (0 : Int) ≤ (j : Int) + 1 := by omega
              have hjn : ((j : Int) + 1).toNat = j + 1 := by omega
              have hstep : accR s 3 (j + 1) = 64 * accR s 3 j + (byteN s (j + 1) : Int) - 128 := rfl
              have HST := Lib.hid hstep
              clear hstep
              generalize byteN s (j + 1) = bj at *
              generalize accR s 3 j = aj at *
              go_wp2_with fail
              go_roundw
              case rel => exact ⟨j + 1, by omega, by rw [HST.out], by go_num, HQ2⟩
              case measure => simp [intOf]; omega
            · have hje : j = 3 - 1 := by omega
              subst hje
              have hok : okR s 3 = (Lib.validRune (accR s 3 (3 - 1)) && decide (Lib.encodeRune (accR s 3 (3 - 1)) = s.take 3)) := rfl
              have hfo := fun h => runeR_found s 3 hne (by omega) (by omega) hns HNO.out h
              have HOK := Lib.hid hok; have HFO := Lib.hid hfo
              clear hok hfo HV0
              have cis := fun w => RIs_any (accR s 3 (3 - 1)) w
              have cby := 0
              simp only [Nat.reduceSub] at *
              have hext : ({ data := s.toArray } : ByteArray).extract 0 3 = ⟨(s.take 3).toArray⟩ := bytes_take s _
              generalize accR s 3 (3 - 1) = a at *
              cases hv : Lib.validRune a with
              | false =>
                rw [hv] at cis
                go_wp2_with fail
                refine (cis _).mono ?_
                rintro e w5 ⟨rfl, rfl⟩
                have hno : ∀ m, 1 ≤ m → m < 3 + 1 → okR s m = false := fun m h1 h2 => by
                  by_cases hm : m = 3
                  · subst hm; rw [HOK.out, hv]; rfl
                  · exact HNO.out m h1 (by omega)
                have HN2 := Lib.hid hno
                clear hno cis cby
                go_wp2_with fail
                go_region
                go_wp2_with fail
                go_roundw
                case rel => exact ⟨3 + 1, by omega, by omega, by omega, by go_num, HN2, HQ2.out.trans (Q.drew _)⟩
                case measure => simp [intOf]
              | true =>
                rw [hv] at cis
                have cby := fun W => RBytes_any a W hv
                have heq := bytes_eqR (Lib.encodeRune a) (s.take 3)
                have hef : okR s 3 = decide (Lib.encodeRune a = s.take 3) := by rw [HOK.out, hv, Bool.true_and]
                have HEF := Lib.hid hef; have CBY := Lib.hid cby
                clear hef cby HOK
                generalize Lib.encodeRune a = ea at *
                generalize s.take 3 = st at *
                go_wp2_with fail
                refine (cis _).mono ?_
                rintro e w5 ⟨rfl, rfl⟩
                go_wp2_with fail
                go_region_law
                  (go_simp; refine (CBY.out _).mono ?_; rintro e w6 ⟨rfl, q6⟩)
                have HQ6 := Lib.hid (HQ2.out.trans ((Q.drew _).trans q6))
                have HNS := Lib.hid hns
                clear q6 cis CBY heq hext hv hn1 hn5 hnl h4 hns hs1 hj hj2 cby
                by_cases hes : ea = st
                · rw [beq_iff_eq.2 hes]
                  have hrr := HFO.out (by rw [HEF.out, decide_eq_true hes])
                  have HRR := Lib.hid hrr
                  have HES := Lib.hid hes
                  clear hes hrr
                  go_wp2_with fail
                  go_returns
                  exact ⟨by rw [HRR.out]; rfl, HQ6.out⟩
                · rw [beq_false_of_ne hes]
                  have hno : ∀ m, 1 ≤ m → m < 3 + 1 → okR s m = false := fun m h1 h2 => by
                    by_cases hm : m = 3
                    · subst hm; rw [HEF.out, decide_eq_false hes]
                    · exact HNO.out m h1 (by omega)
                  have HN2 := Lib.hid hno
                  have HES := Lib.hid hes
                  clear hno hes
                  go_wp2_with fail
                  go_roundw
                  case rel => exact ⟨3 + 1, by omega, by omega, by have := HNS.out; omega, by go_num, HN2, HQ6⟩
                  case measure => simp [intOf]
        · -- n = 4
          have hv0 := HV0.out
          simp only [Nat.reduceEqDiff, if_true, if_false, reduceIte, Int.sub_zero, Nat.reduceBEq, Nat.succ_ne_self] at hv0
          have hs1 : (4 : Int) ≤ (s.length : Int) := by omega
          go_wp2_with fail
          go_loopw [5, 6] (fun v i wr => ∃ j : Nat, j + 1 ≤ 4 ∧ v = .int .i64 (accR s 4 j) ∧ i = .int .i64 ((j : Int) + 1) ∧ Hid (Q w wr)) (fun _ i _ => 4 - (intOf i).toNat)
          case atStart => exact ⟨0, by omega, by rw [hv0], rfl, HQ⟩
          case round =>
            obtain ⟨j, hj, rfl, rfl, HQ2⟩ := hrel
            obtain ⟨wi, rfl⟩ : ∃ wo : World, wo = wr := ⟨_, rfl⟩
            clear hb0 hbl hv0
            by_cases hj2 : j + 1 < 4
            · have hjl : j + 1 < s.length := by omega
              have hbj : ((({ data := s.toArray } : ByteArray)[j + 1]'hjl).toNat : Int) = (byteN s (j + 1) : Nat) := byteAt s (j + 1) hjl
              have hbl := byteN_lt s (j + 1)
              obtain ⟨ha0, ha1⟩ := accR_bound s 4 j (by omega)
              have hji : (j : Int) + 1 < 4 := by omega
              have hji2 : (j : Int) + 1 < (s.length : Int) := by omega
              have hj0 : (0 : Int) ≤ (j : Int) + 1 := by omega
              have hjn : ((j : Int) + 1).toNat = j + 1 := by omega
              have hstep : accR s 4 (j + 1) = 64 * accR s 4 j + (byteN s (j + 1) : Int) - 128 := rfl
              have HST := Lib.hid hstep
              clear hstep
              generalize byteN s (j + 1) = bj at *
              generalize accR s 4 j = aj at *
              go_wp2_with fail
              go_roundw
              case rel => exact ⟨j + 1, by omega, by rw [HST.out], by go_num, HQ2⟩
              case measure => simp [intOf]; omega
            · have hje : j = 4 - 1 := by omega
              subst hje
              have hok : okR s 4 = (Lib.validRune (accR s 4 (4 - 1)) && decide (Lib.encodeRune (accR s 4 (4 - 1)) = s.take 4)) := rfl
              have hfo := fun h => runeR_found s 4 hne (by omega) (by omega) hns HNO.out h
              have HOK := Lib.hid hok; have HFO := Lib.hid hfo
              clear hok hfo HV0
              have cis := fun w => RIs_any (accR s 4 (4 - 1)) w
              have cby := 0
              simp only [Nat.reduceSub] at *
              have hext : ({ data := s.toArray } : ByteArray).extract 0 4 = ⟨(s.take 4).toArray⟩ := bytes_take s _
              generalize accR s 4 (4 - 1) = a at *
              cases hv : Lib.validRune a with
              | false =>
                rw [hv] at cis
                go_wp2_with fail
                refine (cis _).mono ?_
                rintro e w5 ⟨rfl, rfl⟩
                have hno : ∀ m, 1 ≤ m → m < 4 + 1 → okR s m = false := fun m h1 h2 => by
                  by_cases hm : m = 4
                  · subst hm; rw [HOK.out, hv]; rfl
                  · exact HNO.out m h1 (by omega)
                have HN2 := Lib.hid hno
                clear hno cis cby
                go_wp2_with fail
                go_region
                go_wp2_with fail
                go_roundw
                case rel => exact ⟨4 + 1, by omega, by omega, by omega, by go_num, HN2, HQ2.out.trans (Q.drew _)⟩
                case measure => simp [intOf]
              | true =>
                rw [hv] at cis
                have cby := fun W => RBytes_any a W hv
                have heq := bytes_eqR (Lib.encodeRune a) (s.take 4)
                have hef : okR s 4 = decide (Lib.encodeRune a = s.take 4) := by rw [HOK.out, hv, Bool.true_and]
                have HEF := Lib.hid hef; have CBY := Lib.hid cby
                clear hef cby HOK
                generalize Lib.encodeRune a = ea at *
                generalize s.take 4 = st at *
                go_wp2_with fail
                refine (cis _).mono ?_
                rintro e w5 ⟨rfl, rfl⟩
                go_wp2_with fail
                go_region_law
                  (go_simp; refine (CBY.out _).mono ?_; rintro e w6 ⟨rfl, q6⟩)
                have HQ6 := Lib.hid (HQ2.out.trans ((Q.drew _).trans q6))
                have HNS := Lib.hid hns
                clear q6 cis CBY heq hext hv hn1 hn5 hnl h4 hns hs1 hj hj2 cby
                by_cases hes : ea = st
                · rw [beq_iff_eq.2 hes]
                  have hrr := HFO.out (by rw [HEF.out, decide_eq_true hes])
                  have HRR := Lib.hid hrr
                  have HES := Lib.hid hes
                  clear hes hrr
                  go_wp2_with fail
                  go_returns
                  exact ⟨by rw [HRR.out]; rfl, HQ6.out⟩
                · rw [beq_false_of_ne hes]
                  have hno : ∀ m, 1 ≤ m → m < 4 + 1 → okR s m = false := fun m h1 h2 => by
                    by_cases hm : m = 4
                    · subst hm; rw [HEF.out, decide_eq_false hes]
                    · exact HNO.out m h1 (by omega)
                  have HN2 := Lib.hid hno
                  have HES := Lib.hid hes
                  clear hno hes
                  go_wp2_with fail
                  go_roundw
                  case rel => exact ⟨4 + 1, by omega, by omega, by have := HNS.out; omega, by go_num, HN2, HQ6⟩
                  case measure => simp [intOf]
      · have hrr := runeR_none s n hne hn1 hn HNO.out
        have HRR := Lib.hid hrr
        clear hrr
        by_cases h4 : n ≤ 4
        · have hns : ¬ ((n : Int) ≤ (s.length : Int)) := by omega
          go_wp2_with fail
          go_returns
          exact ⟨by rw [HRR.out]; rfl, HQ.out⟩
        · go_wp2_with fail
          go_returns
          exact ⟨by rw [HRR.out]; rfl, HQ.out⟩
end Go.Proofs.YtoabhcfmdkhmgaaGreatDoor
end

/- (WRef10b) codexref10: Valid, Folded (loops over runes); in, letter, Kind, Fold: walked. -/
section
namespace Go.Proofs.YtoabhcfmdkhmgaaGreatDoor
open Go.RowKit
set_option linter.unusedVariables false

set_option maxRecDepth 100000 in
theorem RIn_any (r lo hi : Int) (w : World) :
    Calls Tryz.prog 156 #[.int .i64 r, .int .i64 lo, .int .i64 hi] w fun e w' => e = .returned (.bool (inL r lo hi)) ∧ w' = w := by
  unfold inL
  by_cases h0 : lo ≤ r
  · by_cases h1 : r ≤ hi
    · rw [decide_eq_true h0, decide_eq_true h1]
      go_enter Tryz.func156, Tryz.ntmps156
      go_wp2_with fail
      go_ret
      exact ⟨rfl, rfl⟩
    · rw [decide_eq_true h0, decide_eq_false h1]
      go_enter Tryz.func156, Tryz.ntmps156
      go_wp2_with fail
      go_ret
      exact ⟨rfl, rfl⟩
  · rw [decide_eq_false h0]
    go_enter Tryz.func156, Tryz.ntmps156
    go_wp2_with fail
    go_ret
    exact ⟨rfl, rfl⟩
theorem ret_boolR {x y : Bool} (h : x = y) : Ending.returned (.bool x) = .returned (.bool y) := by rw [h]
/-- letters, as the reference tells them -/
def letterR (r : Int) : Bool := decide ((65 ≤ r ∧ r ≤ 90) ∨ (97 ≤ r ∧ r ≤ 122) ∨ r = 170 ∨ r = 181 ∨ r = 186 ∨ (192 ≤ r ∧ r ≤ 591 ∧ r ≠ 215 ∧ r ≠ 247) ∨
  (880 ≤ r ∧ r ≤ 1023 ∧ r ≠ 885 ∧ r ≠ 894 ∧ r ≠ 888 ∧ r ≠ 889 ∧ ¬ (896 ≤ r ∧ r ≤ 901) ∧ r ≠ 903 ∧ r ≠ 907 ∧ r ≠ 909 ∧ r ≠ 930 ∧ r ≠ 1014) ∨ (1024 ≤ r ∧ r ≤ 1327 ∧ ¬ (1154 ≤ r ∧ r ≤ 1161)) ∨
  (1329 ≤ r ∧ r ≤ 1366) ∨ (1377 ≤ r ∧ r ≤ 1415) ∨ (1488 ≤ r ∧ r ≤ 1514) ∨ (19968 ≤ r ∧ r ≤ 40959) ∨ (44032 ≤ r ∧ r ≤ 55203))
set_option maxRecDepth 100000 in
set_option maxHeartbeats 4000000 in
theorem RLetter_any (r : Int) (w : World) :
    Calls Tryz.prog 155 #[.int .i64 r] w fun e w' => e = .returned (.bool (letterR r)) ∧ w' = w := by
  go_enter Tryz.func155, Tryz.ntmps155
  go_wp2_with fail
  iterate 14 (all_goals try (refine (RIn_any _ _ _ _).mono ?_; rintro e w1 ⟨rfl, rfl⟩; go_wp2_with fail))
  all_goals go_ret
  all_goals refine ⟨ret_boolR (Bool.eq_iff_iff.2 ?_), rfl⟩
  all_goals simp [letterR, inL] at *
  all_goals omega
end Go.Proofs.YtoabhcfmdkhmgaaGreatDoor
end

/- (WRef10c) codexref10: Kind, Fold: walked. -/
section
namespace Go.Proofs.YtoabhcfmdkhmgaaGreatDoor
open Go.RowKit
set_option linter.unusedVariables false

def kindR (r : Int) : Int :=
  if letterR r = true then 1
  else if (48 ≤ r ∧ r ≤ 57) ∨ (1632 ≤ r ∧ r ≤ 1641) ∨ (2406 ≤ r ∧ r ≤ 2415) then 2
  else if (9 ≤ r ∧ r ≤ 13) ∨ r = 32 ∨ r = 133 ∨ r = 160 ∨ (8192 ≤ r ∧ r ≤ 8202) ∨ r = 8232 ∨ r = 8233 ∨ r = 12288 then 3 else 0
def kindIn (l : List (Int × Int × Int)) (r : Int) : Int := match l.find? (fun x => decide (r ≤ x.2.1)) with
  | some x => if x.1 ≤ r then x.2.2 else 0
  | none => 0
theorem kindIn_cons (x : Int × Int × Int) (l : List (Int × Int × Int)) (r : Int) : kindIn (x :: l) r = if r ≤ x.2.1 then (if x.1 ≤ r then x.2.2 else 0) else kindIn l r := by
  unfold kindIn
  rw [List.find?_cons]
  by_cases h : r ≤ x.2.1
  · rw [if_pos h, decide_eq_true h]
  · rw [if_neg h, decide_eq_false h]
theorem kind_step (x : Int × Int × Int) (l : List (Int × Int × Int)) (r v : Int) (h1 : r ≤ x.2.1 → x.1 ≤ r → v = x.2.2) (h2 : r ≤ x.2.1 → ¬ x.1 ≤ r → v = 0) (h3 : ¬ r ≤ x.2.1 → v = kindIn l r) : v = kindIn (x :: l) r := by
  rw [kindIn_cons]
  by_cases a : r ≤ x.2.1
  · rw [if_pos a]
    by_cases b : x.1 ≤ r
    · rw [if_pos b]; exact h1 a b
    · rw [if_neg b]; exact h2 a b
  · rw [if_neg a]; exact h3 a
set_option maxHeartbeats 4000000 in
theorem kindR_eq (r : Int) : kindR r = kindL r := by
  rw [show kindL r = kindIn spansL r from rfl]
  unfold spansL
  iterate 34
    refine kind_step _ _ _ _ (fun a b => ?_) (fun a b => ?_) (fun a => ?_)
    · dsimp only at *; unfold kindR letterR; simp only [decide_eq_true_eq]; repeat' split
      all_goals first | rfl | (exfalso; omega)
    · dsimp only at *; unfold kindR letterR; simp only [decide_eq_true_eq]; repeat' split
      all_goals first | rfl | (exfalso; omega)
    dsimp only at a
  show _ = (0 : Int)
  unfold kindR letterR; simp only [decide_eq_true_eq]; repeat' split
  all_goals first | rfl | (exfalso; omega)
theorem ret_intR {x y : Int} (h : x = y) : Ending.returned (.int .i64 x) = .returned (.int .i64 y) := by rw [h]
set_option maxRecDepth 100000 in
set_option maxHeartbeats 4000000 in
theorem RKind_any (r : Int) (w : World) :
    Calls Tryz.prog 145 #[.int .i64 r] w fun e w' => e = .returned (.int .i64 (kindL r)) ∧ w' = w := by
  go_enter Tryz.func145, Tryz.ntmps145
  go_wp2_with fail
  refine (RLetter_any _ _).mono ?_
  rintro e w1 ⟨rfl, rfl⟩
  go_wp2_with fail
  iterate 8 (all_goals try (refine (RIn_any _ _ _ _).mono ?_; rintro e w1 ⟨rfl, rfl⟩; go_wp2_with fail))
  all_goals go_ret
  all_goals refine ⟨ret_intR ?_, rfl⟩
  all_goals rw [← kindR_eq]
  all_goals unfold kindR
  all_goals simp [inL] at *
  all_goals repeat' split
  all_goals first | rfl | omega | simp_all
end Go.Proofs.YtoabhcfmdkhmgaaGreatDoor
end

/- (WRef10d) codexref10: Fold: walked. -/
section
namespace Go.Proofs.YtoabhcfmdkhmgaaGreatDoor
open Go.RowKit
set_option linter.unusedVariables false

set_option maxRecDepth 100000 in
set_option maxHeartbeats 4000000 in
theorem RFold_any (r : Int) (w : World) (h0 : 0 ≤ r) (h1 : r ≤ 1114111) :
    Calls Tryz.prog 146 #[.int .i64 r] w fun e w' => e = .returned (.int .i64 (foldL r)) ∧ w' = w := by
  go_enter Tryz.func146, Tryz.ntmps146
  go_wp2_with fail
  iterate 16 (all_goals try (refine (RIn_any _ _ _ _).mono ?_; rintro e w1 ⟨rfl, rfl⟩; go_wp2_with fail))
  all_goals go_ret
  all_goals refine ⟨ret_intR ?_, rfl⟩
  all_goals unfold foldL
  all_goals simp [inL] at *
  all_goals repeat' split
  all_goals first | rfl | omega | simp_all
end Go.Proofs.YtoabhcfmdkhmgaaGreatDoor
end
