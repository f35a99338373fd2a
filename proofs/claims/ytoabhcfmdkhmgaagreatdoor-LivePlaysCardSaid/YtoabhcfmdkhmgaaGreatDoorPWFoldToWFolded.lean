/- Joined texts of one proof: WFold, WVars, WTexts, WFolded. -/
import Derived.Test.YtoabhcfmdkhmgaaGreatDoorProg
import Derived.Test.YtoabhcfmdkhmgaaGreatDoorPKitToSegSpec
import Derived.Test.YtoabhcfmdkhmgaaGreatDoorPTokToWDictR
import Derived.WalkKit
import Derived.WalkSpells
import Derived.WalkLawsBesides
import Derived.Outline
import Derived.Test.YtoabhcfmdkhmgaaGreatDoorPWBldToWRef10f
import Derived.Deep.DeepMust
import Derived.Test.YtoabhcfmdkhmgaaGreatDoorPWUtfToWRunes
set_option linter.unusedSimpArgs false
set_option linter.unusedVariables false
set_option linter.unnecessarySimpa false
/- (WFold) utf.Fold: walked. -/
section
namespace Go.Proofs.YtoabhcfmdkhmgaaGreatDoor
open Go.RowKit
set_option linter.unusedVariables false

theorem foldin_any (lo hi r : Int) (B : Nat) (w : World) (hc : w.cell? ⟨B, 0, none⟩ = some (.int .i64 r)) :
    Calls Tryz.prog 154 #[.int .i64 lo, .int .i64 hi, .pointer (some ⟨B, 0, none⟩)] w fun e w' => e = .returned (.bool (inL r lo hi)) ∧ w = w' := by
  by_cases h1 : lo ≤ r
  · by_cases h2 : r ≤ hi
    · go_enter Tryz.func154, Tryz.ntmps154
      go_wp2
      go_ret
      exact ⟨ret_bool (by simp [inL, h1, h2]), rfl⟩
    · go_enter Tryz.func154, Tryz.ntmps154
      go_wp2
      go_ret
      exact ⟨ret_bool (by simp [inL, h1, h2]), rfl⟩
  · go_enter Tryz.func154, Tryz.ntmps154
    go_wp2
    go_ret
    exact ⟨ret_bool (by rw [inL, decide_eq_false (by omega)]; rfl), rfl⟩

theorem or_one (n : Nat) (h : n < 9223372036854775808) : bits .or .i64 (n : Int) 1 = (n : Int) + 1 - (n : Int) % 2 := by
  have h2 : ((n ||| 1 : Nat) : Int) = (n : Int) + 1 - (n : Int) % 2 := by
    have : n ||| 1 = n + 1 - n % 2 := by
      apply Nat.eq_of_testBit_eq
      intro i
      rw [Nat.testBit_or]
      rcases Nat.mod_two_eq_zero_or_one n with h | h
      · have e : n + 1 - n % 2 = 2 * (n / 2) + 1 := by omega
        rw [e]
        cases i with
        | zero => simp [Nat.testBit_zero]
        | succ i =>
          rw [Nat.testBit_succ, Nat.testBit_succ, Nat.testBit_succ]
          have : (2 * (n / 2) + 1) / 2 = n / 2 := by omega
          rw [this]; simp
      · have e : n + 1 - n % 2 = n := by omega
        rw [e]
        cases i with
        | zero => simp [Nat.testBit_zero, h]
        | succ i => rw [Nat.testBit_succ, Nat.testBit_succ]; simp
    rw [this]; omega
  rw [← h2]
  have hx : n ||| 1 < 2 ^ 63 := Nat.or_lt_two_pow (by omega) (by omega)
  show IntKind.i64.wrap ((BitVec.ofInt 64 (n : Int) ||| BitVec.ofInt 64 (1 : Int)).toNat : Int) = _
  have e1 : (BitVec.ofInt 64 (n : Int)).toNat = n := by rw [BitVec.ofInt_natCast, BitVec.toNat_ofNat]; exact Nat.mod_eq_of_lt (by omega)
  have e2 : (BitVec.ofInt 64 (1 : Int)).toNat = 1 := by decide
  rw [BitVec.toNat_or, e1, e2, IntKind.wrap_i64]
  omega

theorem and_one' (n : Nat) (h : n < 9223372036854775808) : bits .and .i64 (n : Int) 1 = (n : Int) % 2 := by
  have h2 : ((n &&& 1 : Nat) : Int) = (n : Int) % 2 := by rw [Nat.and_one_is_mod]; omega
  rw [← h2]
  have hx : n &&& 1 < 2 ^ 63 := Nat.and_lt_two_pow _ (by omega)
  show IntKind.i64.wrap ((BitVec.ofInt 64 (n : Int) &&& BitVec.ofInt 64 (1 : Int)).toNat : Int) = _
  have e1 : (BitVec.ofInt 64 (n : Int)).toNat = n := by rw [BitVec.ofInt_natCast, BitVec.toNat_ofNat]; exact Nat.mod_eq_of_lt (by omega)
  have e2 : (BitVec.ofInt 64 (1 : Int)).toNat = 1 := by decide
  rw [BitVec.toNat_and, e1, e2, IntKind.wrap_i64]
  omega
set_option maxRecDepth 100000 in
set_option maxHeartbeats 2000000 in
theorem Fold_any (n : Nat) (w : World) (h1 : n ≤ 1114111) :
    Calls Tryz.prog 143 #[.int .i64 n] w fun e w' => e = .returned (.int .i64 (foldL n)) ∧ Q w w' := by
  have c := fun lo hi => foldin_any lo hi n w.heap.size (w.alloc (.cells #[.int .i64 n] 3)) (by simp only [World.cell?, heap_alloc_new]; rfl)
  have C := Lib.hid c; clear c
  have hq : Q w (w.alloc (.cells #[.int .i64 n] 3)) := Q.alloc _ _
  have HQ := Lib.hid hq; clear hq
  by_cases h215 : n = 215
  · subst h215
    go_enter Tryz.func143, Tryz.ntmps143
    go_wp2_with fail
    go_ret
    exact ⟨rfl, HQ.out⟩
  by_cases h930 : n = 930
  · subst h930
    go_enter Tryz.func143, Tryz.ntmps143
    go_wp2_with fail
    go_ret
    exact ⟨rfl, HQ.out⟩
  have hor := or_one n (by omega)
  have hand : bits .and .i64 (n : Int) 1 = (n : Int) % 2 := by rw [and_one' n (by omega)]
  have hw : wrap64 ((n : Int) + (n : Int) % 2) = (n : Int) + (n : Int) % 2 := IntWalk.wrap64_in _ (by omega)
  have HW := Lib.hid hw; clear hw
  have i215 : ¬ (n : Int) = 215 := by omega
  have i930 : ¬ (n : Int) = 930 := by omega
  have HX := Lib.hid i215; have HY := Lib.hid i930; clear i215 i930
  have b215 : ((n : Int) == 215) = false := by simpa using HX.out
  have b930 : ((n : Int) == 930) = false := by simpa using HY.out
  go_enter Tryz.func143, Tryz.ntmps143
  go_wp2_with fail
  refine (C.out 65 90).mono ?_
  rintro e w1 ⟨rfl, rfl⟩
  cases hb1 : inL n 65 90 with
  | true =>
    have HB1 := Lib.hid hb1; clear hb1
    go_wp2_with fail
    go_ret
    exact ⟨ret_int (by simp [foldL, hand, HW.out, HX.out, HY.out, HB1.out]), HQ.out⟩
  | false =>
   have HB1 := Lib.hid hb1; clear hb1
   go_wp2_with fail
   refine (C.out 192 222).mono ?_
   rintro e w1 ⟨rfl, rfl⟩
   cases hb2 : inL n 192 222 with
   | true =>
     have HB2 := Lib.hid hb2; clear hb2
     go_wp2_with fail
     go_ret
     exact ⟨ret_int (by simp [foldL, hand, HW.out, HX.out, HY.out, HB1.out, HB2.out]), HQ.out⟩
   | false =>
    have HB2 := Lib.hid hb2; clear hb2
    go_wp2_with fail
    refine (C.out 1040 1071).mono ?_
    rintro e w1 ⟨rfl, rfl⟩
    cases hb3 : inL n 1040 1071 with
    | true =>
      have HB3 := Lib.hid hb3; clear hb3
      go_wp2_with fail
      go_ret
      exact ⟨ret_int (by simp [foldL, hand, HW.out, HX.out, HY.out, HB1.out, HB2.out, HB3.out]), HQ.out⟩
    | false =>
     have HB3 := Lib.hid hb3; clear hb3
     go_wp2_with fail
     refine (C.out 913 937).mono ?_
     rintro e w1 ⟨rfl, rfl⟩
     cases hb4 : inL n 913 937 with
     | true =>
       have HB4 := Lib.hid hb4; clear hb4
       go_wp2_with fail
       go_ret
       exact ⟨ret_int (by simp [foldL, hand, HW.out, HX.out, HY.out, HB1.out, HB2.out, HB3.out, HB4.out]), HQ.out⟩
     | false =>
      have HB4 := Lib.hid hb4; clear hb4
      by_cases h962 : n = 962
      · subst h962
        go_wp2_with fail
        go_ret
        exact ⟨rfl, HQ.out⟩
      have i962 : ¬ (n : Int) = 962 := by omega
      have HZ := Lib.hid i962; clear i962
      have b962 : ((n : Int) == 962) = false := by simpa using HZ.out
      go_wp2_with fail
      refine (C.out 1024 1039).mono ?_
      rintro e w1 ⟨rfl, rfl⟩
      cases hb5 : inL n 1024 1039 with
      | true =>
        have HB5 := Lib.hid hb5; clear hb5
        go_wp2_with fail
        go_ret
        exact ⟨ret_int (by simp [foldL, hand, HW.out, HX.out, HY.out, HB1.out, HB2.out, HB3.out, HB4.out, HZ.out, HB5.out]), HQ.out⟩
      | false =>
       have HB5 := Lib.hid hb5; clear hb5
       go_wp2_with fail
       refine (C.out 256 303).mono ?_
       rintro e w1 ⟨rfl, rfl⟩
       cases hb6 : inL n 256 303 with
       | true =>
         have HB6 := Lib.hid hb6; clear hb6
         go_wp2_with fail
         go_ret
         exact ⟨ret_int (by simp [foldL, hand, HW.out, HX.out, HY.out, HB1.out, HB2.out, HB3.out, HB4.out, HZ.out, HB5.out, HB6.out]), HQ.out⟩
       | false =>
        have HB6 := Lib.hid hb6; clear hb6
        go_wp2_with fail
        refine (C.out 330 375).mono ?_
        rintro e w1 ⟨rfl, rfl⟩
        cases hb7 : inL n 330 375 with
        | true =>
          have HB7 := Lib.hid hb7; clear hb7
          go_wp2_with fail
          go_ret
          exact ⟨ret_int (by simp [foldL, hand, HW.out, HX.out, HY.out, HB1.out, HB2.out, HB3.out, HB4.out, HZ.out, HB5.out, HB6.out, HB7.out]), HQ.out⟩
        | false =>
         have HB7 := Lib.hid hb7; clear hb7
         go_wp2_with fail
         refine (C.out 1120 1153).mono ?_
         rintro e w1 ⟨rfl, rfl⟩
         cases hb8 : inL n 1120 1153 with
         | true =>
           have HB8 := Lib.hid hb8; clear hb8
           go_wp2_with fail
           go_ret
           exact ⟨ret_int (by simp [foldL, hand, HW.out, HX.out, HY.out, HB1.out, HB2.out, HB3.out, HB4.out, HZ.out, HB5.out, HB6.out, HB7.out, HB8.out]), HQ.out⟩
         | false =>
          have HB8 := Lib.hid hb8; clear hb8
          go_wp2_with fail
          refine (C.out 1162 1215).mono ?_
          rintro e w1 ⟨rfl, rfl⟩
          cases hb9 : inL n 1162 1215 with
          | true =>
            have HB9 := Lib.hid hb9; clear hb9
            go_wp2_with fail
            go_ret
            exact ⟨ret_int (by simp [foldL, hand, HW.out, HX.out, HY.out, HB1.out, HB2.out, HB3.out, HB4.out, HZ.out, HB5.out, HB6.out, HB7.out, HB8.out, HB9.out]), HQ.out⟩
          | false =>
           have HB9 := Lib.hid hb9; clear hb9
           go_wp2_with fail
           refine (C.out 1232 1327).mono ?_
           rintro e w1 ⟨rfl, rfl⟩
           cases hb10 : inL n 1232 1327 with
           | true =>
             have HB10 := Lib.hid hb10; clear hb10
             go_wp2_with fail
             go_ret
             exact ⟨ret_int (by simp [foldL, hand, HW.out, HX.out, HY.out, HB1.out, HB2.out, HB3.out, HB4.out, HZ.out, HB5.out, HB6.out, HB7.out, HB8.out, HB9.out, HB10.out]), HQ.out⟩
           | false =>
            have HB10 := Lib.hid hb10; clear hb10
            go_wp2_with fail
            refine (C.out 313 328).mono ?_
            rintro e w1 ⟨rfl, rfl⟩
            cases hb11 : inL n 313 328 with
            | true =>
              have HB11 := Lib.hid hb11; clear hb11
              go_wp2_with fail
              go_ret
              exact ⟨ret_int (by simp [foldL, hand, HW.out, HX.out, HY.out, HB1.out, HB2.out, HB3.out, HB4.out, HZ.out, HB5.out, HB6.out, HB7.out, HB8.out, HB9.out, HB10.out, HB11.out]), HQ.out⟩
            | false =>
             have HB11 := Lib.hid hb11; clear hb11
             go_wp2_with fail
             refine (C.out 377 382).mono ?_
             rintro e w1 ⟨rfl, rfl⟩
             cases hb12 : inL n 377 382 with
             | true =>
               have HB12 := Lib.hid hb12; clear hb12
               go_wp2_with fail
               go_ret
               exact ⟨ret_int (by simp [foldL, hand, HW.out, HX.out, HY.out, HB1.out, HB2.out, HB3.out, HB4.out, HZ.out, HB5.out, HB6.out, HB7.out, HB8.out, HB9.out, HB10.out, HB11.out, HB12.out]), HQ.out⟩
             | false =>
              have HB12 := Lib.hid hb12; clear hb12
              go_wp2_with fail
              refine (C.out 1329 1366).mono ?_
              rintro e w1 ⟨rfl, rfl⟩
              cases hb13 : inL n 1329 1366 with
              | true =>
                have HB13 := Lib.hid hb13; clear hb13
                go_wp2_with fail
                go_ret
                exact ⟨ret_int (by simp [foldL, hand, HW.out, HX.out, HY.out, HB1.out, HB2.out, HB3.out, HB4.out, HZ.out, HB5.out, HB6.out, HB7.out, HB8.out, HB9.out, HB10.out, HB11.out, HB12.out, HB13.out]), HQ.out⟩
              | false =>
               have HB13 := Lib.hid hb13; clear hb13
               go_wp2_with fail
               go_ret
               exact ⟨ret_int (by simp [foldL, hand, HW.out, HX.out, HY.out, HB1.out, HB2.out, HB3.out, HB4.out, HZ.out, HB5.out, HB6.out, HB7.out, HB8.out, HB9.out, HB10.out, HB11.out, HB12.out, HB13.out]), HQ.out⟩
end Go.Proofs.YtoabhcfmdkhmgaaGreatDoor
end

/- (WVars) wire.Var: walked -/
section
namespace Go.Proofs.YtoabhcfmdkhmgaaGreatDoor
open Go.RowKit
set_option linter.unusedVariables false

theorem walk_byte (x : Nat) : bits .or .u8 ((x : Int) % 256) 128 = ((UInt8.ofNat (x % 128 + 128)).toNat : Int) := by
  have h := u8_or_nat (x % 256) 128 (by omega) (by decide)
  rw [or128] at h
  rw [toNat_ofNat _ (by omega)]
  rw [← h]; rfl

set_option maxRecDepth 100000 in
set_option maxHeartbeats 1000000 in
theorem Var_any (v : Value) (ns : List Nat) (w : World) (hv : U64s w v ns) (hn : ns.length ≤ 1000000000000) (h64 : ∀ n ∈ ns, n < 18446744073709551616) :
    Calls Tryz.prog 68 #[v] w fun e w' => e = .returned (.string ⟨(varsE ns).toArray⟩) ∧ Q w w' := by
  obtain ⟨a, cap, rfl, hcell⟩ := hv.value
  have HC := Lib.hid hcell; have H64 := Lib.hid h64; clear hcell hv h64
  go_enter Tryz.func68, Tryz.ntmps68
  go_wp2_with fail
  go_loopw [8, 5] (fun i _ wr => ∃ k : Nat, k ≤ ns.length ∧ i = .int .i64 k ∧ Hid (∃ r, Bld wr w.heap.size w.heap.size r (varsE (ns.take k))) ∧ Hid (Below w.heap.size w wr)) (fun i _ _ => ns.length - (intOf i).toNat)
  case atStart => exact ⟨0, by omega, rfl, ⟨none, Bld.new w _ (Nat.le_refl _)⟩, (Below.refl _ _).alloc (Nat.le_refl _) _⟩
  case round =>
    obtain ⟨k, hk, rfl, HB, HW⟩ := hrel
    obtain ⟨wo, rfl⟩ : ∃ wo : World, wo = wr := ⟨_, rfl⟩
    by_cases hlt : k < ns.length
    · obtain ⟨b, off, rfl, hc⟩ := HC.out (by omega)
      have hck := hc k hlt
      have hcw : wo.cell? ⟨b, off + k, none⟩ = some (.int .u64 (ns[k] : Nat)) := cell_stays HW.out hck
      have hn64 := H64.out _ (List.getElem_mem hlt)
      have hvt := varsE_take ns k hlt
      have hvl := varsE_len (ns.take k)
      have htl : (ns.take k).length ≤ k := List.length_take_le _ _
      generalize ns[k] = n at *
      generalize varsE (ns.take k) = pre at *
      have HVT := Lib.hid hvt; have HCC := Lib.hid hc; clear hvt hc hck
      go_wp2_with fail
      go_loopw [5] (fun x wr => ∃ (y m : Nat), x = .int .u64 y ∧ y < 18446744073709551616 ∧ m ≤ 10 ∧ Hid (0 < m ∧ y < 128 ^ m) ∧ Hid (∃ r l, Bld wr w.heap.size w.heap.size r l ∧ l ++ varF m y = pre ++ varE n) ∧ Hid (Below w.heap.size w wr)) (fun x _ => (intOf x).toNat)
      case atStart =>
        obtain ⟨r, hr⟩ := HB.out
        exact ⟨n, 10, rfl, hn64, by omega, ⟨by omega, lt64 n hn64⟩, ⟨r, pre, hr, rfl⟩, HW⟩
      case round =>
        obtain ⟨wo2, rfl⟩ : ∃ wo2 : World, wo2 = wr := ⟨_, rfl⟩
        obtain ⟨y, m, rfl, hy, hm, HM, HL, HW2⟩ := hrel
        obtain ⟨r, l, hbld, hl⟩ := HL.out
        obtain ⟨hm0, hym⟩ := HM.out
        have hlen : l.length ≤ 10 * k + 10 := by
          have e := congrArg List.length hl
          rw [List.length_append, List.length_append] at e
          have := varE_len n
          omega
        have hW2 := HW2.out
        have hsz := hW2.size
        by_cases hbig : 128 ≤ y
        · obtain ⟨hm1, hvb, hyl⟩ := varF_big m y hbig hym
          have hwb := walk_byte y
          have c := WriteByte_any w.heap.size w.heap.size r l (UInt8.ofNat (y % 128 + 128)) _ wo2 hbld hwb (by omega) (by omega)
          have hst : l ++ varF m y = (l ++ [UInt8.ofNat (y % 128 + 128)]) ++ varF (m - 1) (y / 128) := by rw [hvb]; simp
          have C := Lib.hid c; have HST := Lib.hid hst; have HHL := Lib.hid hl; have HBD := Lib.hid hbld
          clear c hst hl hbld hwb hvb
          go_wp2_with fail
          refine C.out.mono ?_
          rintro e w3 ⟨rfl, hs2, r', hbld', hfr⟩
          have HB2 := Lib.hid (HW2.out.trans (HBD.out.below hs2 (by omega)))
          have HBL := Lib.hid hbld'
          clear hs2 hbld' hfr hW2
          go_wp2_with fail
          go_roundw
          case rel => exact ⟨y / 128, m - 1, by go_num, by omega, by omega, ⟨by omega, hyl⟩, ⟨r', _, HBL.out, by rw [← HST.out]; exact HHL.out⟩, HB2⟩
          case measure => simp [intOf]; omega
        · have hvs := varF_small m y hm0 (by omega)
          have c := WriteByte_any w.heap.size w.heap.size r l (UInt8.ofNat y) (y : Int) wo2 hbld (by rw [toNat_ofNat _ (by omega)]) (by omega) (by omega)
          have hend : l ++ [UInt8.ofNat y] = varsE (ns.take (k + 1)) := by rw [HVT.out, ← hl, hvs]
          have C := Lib.hid c; have HE := Lib.hid hend; have HBD := Lib.hid hbld
          clear c hend hl hbld hvs
          go_wp2_with fail
          ((with_reducible refine C.out.mono ?_); rintro e w3 ⟨rfl, hs2, r', hbld', hfr⟩)
          have HB2 := Lib.hid (HW2.out.trans (HBD.out.below hs2 (by omega)))
          have HBL := Lib.hid hbld'
          clear hs2 hbld' hfr hW2
          go_wp2_with fail
          go_roundw
          case rel => exact ⟨k + 1, by omega, by go_num, ⟨r', by rw [← HE.out]; exact HBL.out⟩, HB2⟩
          case measure => simp [intOf]; omega
    · have hkk : k = ns.length := by omega
      subst hkk
      rw [List.take_length] at HB
      obtain ⟨r, hbld⟩ := HB.out
      have hW := HW.out
      have hsz := hW.size
      have c := String_any w.heap.size w.heap.size r (varsE ns) wo hbld (by omega)
      have C := Lib.hid c
      clear c hbld hW
      go_wp2_with fail
      refine C.out.mono ?_
      rintro e w3 ⟨rfl, hb3⟩
      have HB3 := Lib.hid (HW.out.trans hb3)
      clear hb3
      go_wp2_with fail
      go_ret
      exact ⟨rfl, HB3.out⟩
end Go.Proofs.YtoabhcfmdkhmgaaGreatDoor
end

/- (WTexts) wire.Text: walked -/
section
namespace Go.Proofs.YtoabhcfmdkhmgaaGreatDoor
open Go.RowKit
set_option linter.unusedVariables false

theorem Bld.q {w w' : World} {B b : Nat} {r : Option Nat} {l : Bytes} (h : Bld w B b r l) (hq : Q w w') : Bld w' B b r l :=
  h.stays (hq.block _ h.lt) (fun k hk => hq.block _ (h.row k hk).2) hq.size

set_option maxRecDepth 100000 in
set_option maxHeartbeats 1000000 in
theorem Text_any (v : Value) (ps : List Bytes) (w : World) (hv : Strs w v ps) (hn : ps.length ≤ 1000) (hp : ∀ p ∈ ps, p.length ≤ 100000000000) :
    Calls Tryz.prog 69 #[v] w fun e w' => e = .returned (.string ⟨(textsE ps).toArray⟩) ∧ Q w w' := by
  obtain ⟨a, cap, rfl, hcell⟩ := hv.value
  have HC := Lib.hid hcell; have HP := Lib.hid hp; clear hcell hv hp
  go_enter Tryz.func69, Tryz.ntmps69
  go_wp2_with fail
  go_loopw [8, 5] (fun i _ wr => ∃ k : Nat, k ≤ ps.length ∧ i = .int .i64 k ∧ Hid (∃ r, Bld wr w.heap.size w.heap.size r (textsE (ps.take k))) ∧ Hid (Below w.heap.size w wr)) (fun i _ _ => ps.length - (intOf i).toNat)
  case atStart => exact ⟨0, by omega, rfl, ⟨none, Bld.new w _ (Nat.le_refl _)⟩, (Below.refl _ _).alloc (Nat.le_refl _) _⟩
  case round =>
    obtain ⟨k, hk, rfl, HB, HW⟩ := hrel
    obtain ⟨wo, rfl⟩ : ∃ wo : World, wo = wr := ⟨_, rfl⟩
    by_cases hlt : k < ps.length
    · obtain ⟨b, off, rfl, hc⟩ := HC.out (by omega)
      have hck := hc k hlt
      have hcw : wo.cell? ⟨b, off + k, none⟩ = some (.string ⟨ps[k].toArray⟩) := cell_stays HW.out hck
      have hpl := HP.out _ (List.getElem_mem hlt)
      have hvt := textsE_take ps k hlt
      have hvl := textsE_len (ps.take k) 100000000000 (fun s hs => HP.out s (List.mem_of_mem_take hs))
      have htl : (ps.take k).length ≤ k := List.length_take_le _ _
      have hvl2 : (textsE (ps.take k)).length ≤ 100000000010000 := Nat.le_trans hvl (Nat.le_trans (Nat.mul_le_mul_right _ (show _ ≤ 1000 by omega)) (by decide))
      generalize ps[k] = p at *
      generalize textsE (ps.take k) = pre at *
      clear hvl htl
      have hvel := varE_len p.length
      have hW := HW.out
      have hsz := hW.size
      obtain ⟨r, hbld⟩ := HB.out
      have cv := Var_any (.slice (some ⟨wo.heap.size, 0, none⟩) 1 1) [p.length] (wo.alloc (.cells #[.int .u64 (p.length : Nat)] 106)) (Sl.lit wo #[.int .u64 (p.length : Nat)] 106 1 1 rfl) (by simp) (by intro n hn; simp at hn; omega)
      have hve : varsE [p.length] = varE p.length := by simp [varsE]
      rw [hve] at cv
      have HVT := Lib.hid hvt; have HCC := Lib.hid hc; have CV := Lib.hid cv; have HBD := Lib.hid hbld
      clear hvt hc hck cv hve hbld hW
      go_wp2_with fail
      refine CV.out.mono ?_
      rintro e w2 ⟨rfl, q2⟩
      have hq2 : Q wo w2 := (Q.alloc _ _).trans q2
      have hb2 := HBD.out.q hq2
      have hW2 : Below w.heap.size w w2 := HW.out.trans (Below.mono hq2 (by omega))
      have hsz2 := hW2.size
      have cw := WriteString_any w.heap.size w.heap.size r pre (varE p.length ++ p) w2 hb2 (by rw [List.length_append]; omega) (by omega)
      have hst : pre ++ (varE p.length ++ p) = textsE (ps.take (k + 1)) := by rw [HVT.out]; rfl
      rw [hst] at cw
      have CW := Lib.hid cw; have HW2 := Lib.hid hW2; have HB2 := Lib.hid hb2
      clear q2 hq2 hb2 hW2 cw hst
      go_wp2_with fail
      rw [bytes_append]
      refine CW.out.mono ?_
      rintro e w3 ⟨rfl, hs3, r', hbld', hfr⟩
      have HB3 := Lib.hid (HW2.out.trans (HB2.out.below hs3 (by omega)))
      have HBL := Lib.hid hbld'
      clear hs3 hbld' hfr
      go_wp2_with fail
      go_roundw
      case rel => exact ⟨k + 1, by omega, by go_num, ⟨r', HBL.out⟩, HB3⟩
      case measure => simp [intOf]; omega
    · have hkk : k = ps.length := by omega
      subst hkk
      rw [List.take_length] at HB
      obtain ⟨r, hbld⟩ := HB.out
      have hW := HW.out
      have hsz := hW.size
      have c := String_any w.heap.size w.heap.size r (textsE ps) wo hbld (by omega)
      have C := Lib.hid c
      clear c hbld hW
      go_wp2_with fail
      refine C.out.mono ?_
      rintro e w3 ⟨rfl, hb3⟩
      have HB3 := Lib.hid (HW.out.trans hb3)
      clear hb3
      go_wp2_with fail
      go_ret
      exact ⟨rfl, HB3.out⟩
end Go.Proofs.YtoabhcfmdkhmgaaGreatDoor
end

/- (WFolded) utf.Folded: walked. -/
section
namespace Go.Proofs.YtoabhcfmdkhmgaaGreatDoor
open Go.RowKit
set_option linter.unusedVariables false
attribute [local go_sem] Oper.semAt_some

theorem String_step (B b : Nat) (r : Option Nat) (l : Bytes) (w : World) (h : Bld w B b r l) :
    Calls Tryz.prog 71 #[.pointer (some ⟨b, 0, none⟩)] w fun e w' => e = .returned (.string ⟨l.toArray⟩) ∧ Step2 w w' b r := by
  cases l with
  | nil => exact (String_nil B b r w h).mono fun e w' ⟨h1, h2⟩ => ⟨h1, ⟨h2.os, h2.tape, h2.output, h2.size, fun k hk _ _ => h2.block k hk⟩⟩
  | cons x l => exact (String_some B b r (x :: l) w h (by simp)).mono fun e w' ⟨h1, h2, _⟩ => ⟨h1, h2⟩
theorem Bld.cellsRow {w : World} {B b : Nat} {r : Option Nat} {l : Bytes} (h : Bld w B b r l) : ∀ g, r = some g → ∃ cs fz, w.heap[g]? = some (.cells cs 5 fz) := by
  obtain ⟨_, p, v, _, _, ho, hr, _, _⟩ := h
  intro g hg
  rcases ho.2 with ⟨hv, _⟩ | ⟨g', cap, cur, fz, hv, _, hgg, _⟩
  · rw [hv, hg] at hr; cases hr
  · rw [hv, hg] at hr
    simp only [Value.ownBlock, Option.some.injEq] at hr
    subst hr
    exact ⟨_, _, hgg⟩
theorem Bld.itk {w w' : World} {B b : Nat} {r : Option Nat} {l : Bytes} {own : Nat → Prop} {lo : Nat} (h : Bld w B b r l) (hi : Itk own lo w w') (hb : ¬ own b) (hr : ∀ g, r = some g → ¬ own g) : Bld w' B b r l := by
  obtain ⟨p, v, hbk⟩ : ∃ p v, w.heap[b]? = some (.cells #[p, v] 125 (0, 0)) := by obtain ⟨_, p, v, h2, _⟩ := h; exact ⟨p, v, h2⟩
  refine h.stays ((hi.get hbk hb).trans hbk.symm) (fun g hg => ?_) hi.size
  obtain ⟨cs, fz, hc⟩ := h.cellsRow g hg
  exact (hi.get hc (hr g hg)).trans hc.symm
/-- a builder and its row are no box of another type -/
theorem Bld.not_box {w : World} {B b : Nat} {r : Option Nat} {l : Bytes} (h : Bld w B b r l) {k : Nat} {t : TypeId} {v : Value} (hx : Boxed w k t v) (h1 : t ≠ 5) (h2 : t ≠ 125) : k ≠ b ∧ some k ≠ r := by
  refine ⟨fun e => ?_, fun e => ?_⟩
  · obtain ⟨_, p, v', h3, _⟩ := h
    rw [← e, show w.heap[k]? = _ from hx] at h3
    injection h3 with h3
    injection h3 with _ h3 _
    exact h2 h3
  · obtain ⟨cs, fz, hc⟩ := h.cellsRow k e.symm
    rw [show w.heap[k]? = _ from hx] at hc
    cases hc
    exact h1 rfl
/-- a builder's step keeps a box of another type -/
theorem Step2.boxed {w w' : World} {B b : Nat} {r : Option Nat} {l : Bytes} (hs : Step2 w w' b r) (h : Bld w B b r l) {k : Nat} {t : TypeId} {v : Value} (hx : Boxed w k t v) (h1 : t ≠ 5) (h2 : t ≠ 125) : Boxed w' k t v := by
  obtain ⟨a, b'⟩ := h.not_box hx h1 h2
  exact (hs.block k hx.lt a b').trans hx
theorem Step2.walks {w w' : World} {B b : Nat} {r : Option Nat} {l : Bytes} (hs : Step2 w w' b r) (h : Bld w B b r l) {k : Nat} {o : Obj} (hk : w.heap[k]? = some o) (ho : o.isCells = false) : w'.heap[k]? = some o := by
  refine (hs.block k (lt_of_get hk) (fun e => ?_) (fun e => ?_)).trans hk
  · obtain ⟨_, p, v', h3, _⟩ := h
    rw [e, h3] at hk; cases hk; cases ho
  · obtain ⟨cs, fz, hc⟩ := h.cellsRow k e.symm
    rw [hc] at hk; cases hk; cases ho

/-- a builder's step in a round -/
theorem Bk.of_step {W W' : World} {B b : Nat} {r : Option Nat} {l : Bytes} {keep : Nat → Prop} (h : Bld W B b r l) (hs : Step2 W W' b r) (hB : B ≤ W.heap.size) (hk : ∀ k, keep k → k < W.heap.size → k ≠ b ∧ some k ≠ r) : Bk keep B W W' :=
  ⟨h.below hs hB, fun k h1 h2 => hs.block k h2 (hk k h1 h2).1 (hk k h1 h2).2, fun k o h1 h2 => hs.walks h h1 (Obj.not_cells_of_walk h2)⟩
theorem Bld.not_other {w : World} {B b : Nat} {r : Option Nat} {l : Bytes} (h : Bld w B b r l) {k : Nat} {o : Obj} (hk : w.heap[k]? = some o) (ho : o.isCells = false) : k ≠ b ∧ some k ≠ r := by
  refine ⟨fun e => ?_, fun e => ?_⟩
  · obtain ⟨_, p, v', h3, _⟩ := h
    rw [e, h3] at hk; cases hk; cases ho
  · obtain ⟨cs, fz, hc⟩ := h.cellsRow k e.symm
    rw [hc] at hk; cases hk; cases ho
theorem chunksF_at (s : Bytes) (n p : Nat) (h : (s.drop p).length ≤ n) (k : Nat) (c : Int × Bytes) (hc : (chunksF n (s.drop p))[k]? = some c) :
    ∃ q, (runesAt p (chunksF n (s.drop p)))[k]? = some (q, c.1) ∧ q < s.length ∧ c.2.take 1 = [s.getD q 0] ∧ -1 ≤ c.1 ∧ c.1 ≤ 1114111 := by
  induction n generalizing p k with
  | zero => simp [chunksF] at hc
  | succ n ih =>
    rw [chunksF] at hc ⊢
    by_cases h0 : s.drop p = []
    · rw [if_pos h0] at hc; simp at hc
    · rw [if_neg h0] at hc ⊢
      have hsz := rune1_size _ h0
      rw [List.length_drop] at hsz h
      cases k with
      | zero =>
        simp only [List.getElem?_cons_zero, Option.some.injEq] at hc
        subst hc
        refine ⟨p, by simp [runesAt], by omega, ?_, ?_⟩
        · rw [List.take_take, Nat.min_eq_left (by omega)]
          cases hd : s.drop p with
          | nil => exact absurd hd h0
          | cons b t =>
            have hb : s.getD p 0 = b := by
              have : s[p]? = some b := by
                have := congrArg (fun l => l[0]?) hd
                simpa [List.getElem?_drop] using this
              rw [List.getD_eq_getElem?_getD, this]; rfl
            rw [hb]; rfl
        · have := (decode_drop s p (by omega))
          cases hd : s.drop p with
          | nil => exact absurd hd h0
          | cons b t =>
            have hb := (decodeN_bounds (b :: t).length ((b :: t).getD 0 0).toNat ((b :: t).getD 1 0).toNat ((b :: t).getD 2 0).toNat ((b :: t).getD 3 0).toNat).1
            unfold rune1
            simp only []
            split <;> simp only [] <;> omega
      | succ k =>
        rw [List.getElem?_cons_succ] at hc
        rw [List.drop_drop] at hc
        obtain ⟨q, h1, h2⟩ := ih (p + (rune1 (s.drop p)).2) (by rw [List.length_drop]; omega) k hc
        refine ⟨q, ?_, h2⟩
        rw [runesAt, List.getElem?_cons_succ, List.length_take, List.length_drop, Nat.min_eq_left (by omega), List.drop_drop]
        exact h1
theorem chunk_at (s : Bytes) (k : Nat) (x : Nat × Int) (hx : (runePlaces s)[k]? = some x) : ∃ c, (chunks s)[k]? = some c ∧ x.2 = c.1 ∧ x.1 < s.length ∧ c.2.take 1 = [s.getD x.1 0] ∧ -1 ≤ c.1 ∧ c.1 ≤ 1114111 := by
  have hk : k < (chunks s).length := by
    have := (List.getElem?_eq_some_iff.1 hx).1
    rwa [runesAt_length] at this
  obtain ⟨q, h1, h2⟩ := chunksF_at s s.length 0 (by simp) k (chunks s)[k] (by simpa [chunks] using hk)
  rw [List.drop_zero] at h1
  have : (runePlaces s)[k]? = some (q, (chunks s)[k].1) := h1
  rw [hx] at this
  cases this
  exact ⟨_, List.getElem?_eq_getElem hk, rfl, h2⟩
theorem foldC_len (c : Int × Bytes) : (foldC c).length ≤ 4 := by
  unfold foldC
  split
  · rw [List.length_take]; omega
  · have := (Lib.runeCells_le (runeOfL (foldL c.1))).2
    rwa [Lib.runeCells_length] at this
theorem foldCs_len (l : List (Int × Bytes)) : (l.flatMap foldC).length ≤ 4 * l.length := by
  induction l with
  | nil => simp
  | cons c l ih =>
    have := foldC_len c
    rw [List.flatMap_cons, List.length_append, List.length_cons]; omega
theorem chunksF_len (n : Nat) (s : Bytes) : (chunksF n s).length ≤ n := by
  induction n generalizing s with
  | zero => simp [chunksF]
  | succ n ih => rw [chunksF]; split <;> simp; exact ih _
theorem foldL_bounds (r : Int) (h0 : 0 ≤ r) (h1 : r ≤ 1114111) : -9223372036854775808 ≤ foldL r ∧ foldL r ≤ 9223372036854775807 := by
  unfold foldL
  repeat' split
  all_goals omega
theorem runeOfL_bounds (r : Int) : -2147483648 ≤ runeOfL r ∧ runeOfL r ≤ 2147483647 := by
  unfold runeOfL
  split <;> omega

set_option maxRecDepth 100000 in
set_option maxHeartbeats 4000000 in
theorem Folded_any (s : Bytes) (w : World) (hs : s.length ≤ 10000000000000) (hT : Tabs w) :
    Calls Tryz.prog 117 #[.string ⟨s.toArray⟩] w fun e w' => e = .returned (.string ⟨(foldedL s).toArray⟩) ∧ Q w w' := by
  refine (callsIn_wide (n := 0)).1 ?_
  refine callsIn_of_wp_marks Tryz.func117 rfl trivial ?_ rfl
  simp only [Tryz.ntmps117, List.size_toArray, List.length_cons, List.length_nil, Nat.reduceAdd, Nat.reduceSub, Array.replicate_succ, Array.replicate_zero, List.push_toArray, List.append_toArray, List.nil_append, List.cons_append]
  gi_wp2_with fail
  refine ⟨trivial, rfl, (callsIn_wide.2 (Runes_any s _)).mono ?_⟩
  rintro e w1 ⟨rfl, rfl⟩
  gi_wp2_with fail
  have hB0 : Below w.heap.size w (((w.alloc (.cells #[strV s] 9)).alloc (.cells #[.pointer none, .slice none 0 0] 125)).alloc (.cells #[strV s] 9)) := (((Below.refl _ w).alloc (Nat.le_refl _) _).alloc (by simp) _).alloc (by simp; omega) _
  have hsz : (((w.alloc (.cells #[strV s] 9)).alloc (.cells #[.pointer none, .slice none 0 0] 125)).alloc (.cells #[strV s] 9)).heap.size = w.heap.size + 3 := by simp
  have b0 : Boxed (((w.alloc (.cells #[strV s] 9)).alloc (.cells #[.pointer none, .slice none 0 0] 125)).alloc (.cells #[strV s] 9)) w.heap.size 9 (strV s) := ((Boxed.new w _ _).alloc _).alloc _
  have b2 : Boxed (((w.alloc (.cells #[strV s] 9)).alloc (.cells #[.pointer none, .slice none 0 0] 125)).alloc (.cells #[strV s] 9)) (w.heap.size + 2) 9 (strV s) := by
    have := Boxed.new ((w.alloc (.cells #[strV s] 9)).alloc (.cells #[.pointer none, .slice none 0 0] 125)) 9 (strV s)
    simpa using this
  have b1 : Bld (((w.alloc (.cells #[strV s] 9)).alloc (.cells #[.pointer none, .slice none 0 0] 125)).alloc (.cells #[strV s] 9)) w.heap.size (w.heap.size + 1) none [] := by
    have := (Bld.new (w.alloc (.cells #[strV s] 9)) w.heap.size (by simp)).alloc (.cells #[strV s] 9)
    simpa using this
  have HT := Lib.hid hT; clear hT
  obtain ⟨W0, hW0⟩ : ∃ W0, ((w.alloc (.cells #[strV s] 9)).alloc (.cells #[.pointer none, .slice none 0 0] 125)).alloc (.cells #[strV s] 9) = W0 := ⟨_, rfl⟩
  rw [hW0] at hB0 hsz b0 b1 b2 ⊢
  clear hW0
  refine wp_range (gf := 148) (lb := #[.pointer (some ⟨w.heap.size + 1 + 1, 0, none⟩)]) rfl (enters_of Tryz.func148 (by kernel_rfl) rfl) (encs := encRune) (own := fun _ => False) (keep := fun k => k = w.heap.size + 2) (n₀ := w.heap.size) (xs := runePlaces s)
    (fun W1 hq hz => Runes_seq s (w.heap.size + 2) w.heap.size W1 (by omega) (block_stays' hq b2) (by omega) (fun W' hb => HT.out.stays ((hB0.trans (Below.mono hq (by omega))).trans hb)))
    (fun _ h => h.elim) (fun k h => by omega) (by omega) (fun _ => rfl)
    (fun k W => (∃ r, Bld W w.heap.size (w.heap.size + 1) r (((chunks s).take k).flatMap foldC)) ∧ Boxed W w.heap.size 9 (strV s) ∧ Boxed W (w.heap.size + 2) 9 (strV s) ∧ Below w.heap.size w W)
    (fun _ _ _ => False)
    (fun k a' _ => ∃ (x : Nat × Int), (runePlaces s)[k]? = some x ∧ a' = { tmps := #[.string ⟨s.toArray⟩, .pointer (some ⟨w.heap.size, 0, none⟩), .string ⟨#[]⟩, .pointer (some ⟨w.heap.size + 1, 0, none⟩), .int .i64 x.1, .int .i64 x.2, .string ⟨s.toArray⟩, .func (.func 148) #[] #[.pointer (some ⟨w.heap.size + 1 + 1, 0, none⟩)], .int .i64 x.1, .int .i64 x.2, undef, undef, undef, undef, undef, undef, undef, undef, undef, undef, undef], defers := [] })
    (fun k A B hI hi => by
      obtain ⟨⟨r, hr⟩, h0, h2, hb⟩ := hI
      exact ⟨⟨r, hr.itk hi (fun h => h) (fun _ _ h => h)⟩, hi.boxed h0 (fun h => h), hi.boxed h2 (fun h => h), hi.below hb (by omega) hb.size (fun _ h => h.elim)⟩)
    (fun _ _ _ _ h _ => h) (fun _ _ _ _ h _ => h) ⟨⟨none, b1⟩, b0, b2, hB0⟩ ?assign ?body ?done ?stop
  case assign =>
    intro l k hk W K hi hz hK
    gi_wp2
    exact hK _ _ (Q.refl _) hi ⟨_, List.getElem?_eq_getElem hk, rfl⟩
  case body =>
    rintro l k hk a' W ⟨⟨rc, hrc⟩, hdf⟩ hl ⟨⟨r, hr⟩, h0, h2, hb⟩ ⟨x, hx, rfl⟩ _ hz
    obtain ⟨c, hck, hc1, hp, ht1, hlo, hhi⟩ := chunk_at s k x hx
    obtain ⟨p, rr⟩ := x
    simp only at hc1 hp ht1 ⊢
    subst hc1
    have hkl : k < (chunks s).length := (List.getElem?_eq_some_iff.1 hck).1
    have hstep : ((chunks s).take (k + 1)).flatMap foldC = ((chunks s).take k).flatMap foldC ++ foldC c := by
      rw [List.take_succ_eq_append_getElem hkl, List.flatMap_append]
      have : (chunks s)[k] = c := Option.some.inj ((List.getElem?_eq_getElem hkl).symm.trans hck)
      rw [this]; simp
    have hlen := foldCs_len ((chunks s).take k)
    have hl2 := chunksF_len s.length s
    have hl3 : ((chunks s).take k).length ≤ (chunks s).length := by rw [List.length_take]; omega
    have hl4 : (chunks s).length ≤ s.length := hl2
    have hsW := hb.size
    have c0 := h0.cell
    subst hl
    have hkp : ∀ j, (j = w.heap.size + 2 ∨ j = W0.heap.size ∨ j = W0.heap.size + 1) → j < W.heap.size → j ≠ w.heap.size + 1 ∧ some j ≠ r := by
      rintro j (rfl | rfl | rfl) _
      · exact hr.not_box h2 (by decide) (by decide)
      · exact hr.not_other hdf rfl
      · exact hr.not_other hrc rfl
    have HKP := Lib.hid hkp; clear hkp hdf
    have HST := Lib.hid hstep; have HR := Lib.hid hr; have HB0 := Lib.hid h0; have HB2 := Lib.hid h2; have HB := Lib.hid hb
    clear hstep hr h0 h2 hb hl2
    generalize hpre : ((chunks s).take k).flatMap foldC = pre at *
    have HPR := Lib.hid hpre; clear hpre hx hck hrc
    by_cases hneg : c.1 < 0
    · have hgd : s.getD p 0 = s[p] := by rw [List.getD_eq_getElem?_getD, List.getElem?_eq_getElem hp]; rfl
      have hf : foldC c = [s[p]] := by unfold foldC; rw [if_pos hneg, ht1, hgd]
      have cw := WriteByte_any w.heap.size (w.heap.size + 1) r pre s[p] (({ data := s.toArray } : ByteArray)[p]'hp).toNat W HR.out rfl (by omega) (by omega)
      have CW := Lib.hid cw; have HF := Lib.hid hf; clear cw hf hgd ht1
      gi_wp2_with fail
      refine ⟨trivial, rfl, (calls_round _ CW.out).mono ?_⟩
      rintro e w3 ⟨rfl, hs3, r', hbld', hfr⟩
      have e1 := hs3.boxed HR.out HB0.out (by decide) (by decide)
      have e2 := hs3.boxed HR.out HB2.out (by decide) (by decide)
      have e3 := HB.out.trans (HR.out.below hs3 hsW)
      have e4 := Bk.of_step (keep := fun j => j = w.heap.size + 2 ∨ j = W0.heap.size ∨ j = W0.heap.size + 1) HR.out hs3 hsW HKP.out
      rw [← HF.out, ← HST.out] at hbld'
      have HBL := Lib.hid hbld'; have E1 := Lib.hid e1; have E2 := Lib.hid e2; have E3 := Lib.hid e3; have E4 := Lib.hid e4
      clear hs3 hbld' hfr e1 e2 e3 e4
      gi_wp2_with fail
      exact ⟨E4.out, ⟨r', HBL.out⟩, E1.out, E2.out, E3.out⟩
    · have hnn : ((c.1.toNat : Nat) : Int) = c.1 := by omega
      have hf : foldC c = Lib.encodeRune (runeOfL (foldL c.1)) := by unfold foldC; rw [if_neg hneg]
      have cf := Fold_any c.1.toNat W (by omega)
      rw [hnn] at cf
      obtain ⟨g1, g2⟩ := foldL_bounds c.1 (by omega) hhi
      obtain ⟨g3, g4⟩ := runeOfL_bounds (foldL c.1)
      have CF := Lib.hid cf; have HF := Lib.hid hf; clear cf hf ht1 hnn
      generalize foldL c.1 = fr at *
      gi_wp2_with fail
      refine ⟨trivial, rfl, (calls_round _ CF.out).mono ?_⟩
      rintro e w3 ⟨rfl, q3⟩
      have hr3 := HR.out.q q3
      have k0 := block_stays' q3 HB0.out
      have k2 := block_stays' q3 HB2.out
      have kb := HB.out.trans (Below.mono q3 hsW)
      have kk : Bk (fun j => j = w.heap.size + 2 ∨ j = W0.heap.size ∨ j = W0.heap.size + 1) w.heap.size W w3 := Bk.of_q q3 hsW
      have kp : ∀ j, (j = w.heap.size + 2 ∨ j = W0.heap.size ∨ j = W0.heap.size + 1) → j < w3.heap.size → j ≠ w.heap.size + 1 ∧ some j ≠ r := fun j h1 h2 => HKP.out j h1 (by have := lt_of_get HB2.out; rcases h1 with h1 | h1 | h1 <;> omega)
      have hs3 := kb.size
      have cw := WriteRune_any w.heap.size (w.heap.size + 1) r pre (runeOfL fr) w3 hr3 g3 g4 (by omega) (by omega)
      have co := runeOf_any fr w3 g1 g2
      have CW := Lib.hid cw; have CO := Lib.hid co; have HR3 := Lib.hid hr3; have K0 := Lib.hid k0; have K2 := Lib.hid k2; have KB := Lib.hid kb; have KK := Lib.hid kk; have KP := Lib.hid kp
      clear cw co hr3 k0 k2 kb kk kp q3
      gi_wp2_with fail
      refine ⟨trivial, rfl, (calls_round _ CO.out).mono ?_⟩
      rintro e w4 ⟨rfl, rfl⟩
      gi_wp2_with fail
      refine ⟨trivial, rfl, (calls_round _ CW.out).mono ?_⟩
      rintro e w4 ⟨⟨nn, rfl⟩, hs4, r', hbld'⟩
      have e1 := hs4.boxed HR3.out K0.out (by decide) (by decide)
      have e2 := hs4.boxed HR3.out K2.out (by decide) (by decide)
      have e3 := KB.out.trans (HR3.out.below hs4 hs3)
      have e4 := KK.out.trans (Bk.of_step (keep := fun j => j = w.heap.size + 2 ∨ j = W0.heap.size ∨ j = W0.heap.size + 1) HR3.out hs4 hs3 KP.out)
      rw [← HF.out, ← HST.out] at hbld'
      have HBL := Lib.hid hbld'; have E1 := Lib.hid e1; have E2 := Lib.hid e2; have E3 := Lib.hid e3; have E4 := Lib.hid e4
      clear hs4 hbld' e1 e2 e3 e4
      gi_wp2_with fail
      exact ⟨E4.out, ⟨r', HBL.out⟩, E1.out, E2.out, E3.out⟩
  case done =>
    rintro D W hD _ ⟨⟨r, hr⟩, h0, h2, hb⟩ hK
    obtain rfl : D = w.heap.size + 3 := by omega
    clear hD hsz
    have hlf : (runePlaces s).length = (chunks s).length := runesAt_length _ _
    rw [hlf, List.take_length] at hr
    have hsW := hb.size
    have c := String_step w.heap.size (w.heap.size + 1) r (foldedL s) W hr
    have HBD := Lib.hid hr
    have hDc : r ≠ some (w.heap.size + 3) ∧ w.heap.size + 3 ≠ w.heap.size + 1 := by
      obtain ⟨a, b⟩ := hr.not_other hK rfl
      exact ⟨fun e => b e.symm, a⟩
    have C := Lib.hid c; have HB := Lib.hid hb; have HK := Lib.hid hK; have HDD := Lib.hid hDc
    clear c hb hK h0 h2 hr hlf hDc
    gi_wp2_with fail
    refine ⟨trivial, rfl, (callsIn_wide.2 C.out).mono ?_⟩
    rintro e w3 ⟨rfl, hs3⟩
    have hk3 := hs3.walks HBD.out HK.out rfl
    have hb3 := HB.out.trans (HBD.out.below hs3 hsW)
    have HB3 := Lib.hid hb3; have HK3 := Lib.hid hk3; clear hs3 hb3 hk3
    gi_wp2_with fail
    refine ⟨by simp, .inl ⟨_, _, rfl, run_takeDeferred HK3.out, ?_⟩⟩
    exact ⟨_, results_tmp rfl _ _ _, rfl, HB3.out.trans (Bk.put (own := fun _ => False) (n₀ := w.heap.size) _ HK3.out rfl (by omega) (fun h => h)).below⟩
  case stop =>
    rintro D c k W _ _ h _
    exact h.elim
end Go.Proofs.YtoabhcfmdkhmgaaGreatDoor
end
