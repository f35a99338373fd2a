/- Joined texts of one proof: WRunes, WFold, WVars, WTexts. -/
import Derived.Test.YtcflpcpkmhljkaaGreatDoorMWUtfToWRune
import Derived.Test.YtcflpcpkmhljkaaGreatDoorMRangeToWKind
import Derived.Lib.OthersKept
import Derived.Test.YtcflpcpkmhljkaaGreatDoorProg
import Derived.Test.YtcflpcpkmhljkaaGreatDoorMKitToSegSpec
import Derived.Test.YtcflpcpkmhljkaaGreatDoorMTokToWDictR
import Derived.WalkKit
import Derived.WalkSpells
import Derived.WalkLawsBesides
import Derived.Outline
import Derived.Deep.DeepMust
set_option linter.unusedSimpArgs false
set_option linter.unusedVariables false
set_option linter.unnecessarySimpa false
/- (WRunes) utf.Runes: the iterator over a text's runes: its contract. -/
section
namespace Go.Proofs.YtcflpcpkmhljkaaGreatDoor
open Go.RowKit
set_option linter.unusedVariables false
attribute [local go_sem] Oper.semAt_some

/-- the runes of a text with the places where they begin -/
def runesAt : Nat → List (Int × Bytes) → List (Nat × Int)
  | _, [] => []
  | p, c :: cs => (p, c.1) :: runesAt (p + c.2.length) cs
abbrev runePlaces (s : Bytes) : List (Nat × Int) := runesAt 0 (chunks s)
abbrev encRune (x : Nat × Int) : Array Value := #[.int .i64 x.1, .int .i64 x.2]

theorem Runes_any (s : Bytes) (w : World) :
    Calls Tryz.prog 111 #[.string ⟨s.toArray⟩] w fun e w' => e = .returned (.func (.func 155) #[] #[.pointer (some ⟨w.heap.size, 0, none⟩)]) ∧ w.alloc (.cells #[strV s] 9) = w' := by
  go_enter Tryz.func111, Tryz.ntmps111
  go_wp2_with fail
  go_ret
  exact ⟨rfl, rfl⟩

theorem runesAt_length (p : Nat) (cs : List (Int × Bytes)) : (runesAt p cs).length = cs.length := by
  induction cs generalizing p with
  | nil => rfl
  | cons c cs ih => simp [runesAt, ih]
/-- what the model's range over a string tells, and what Rune tells of it -/
theorem decode_drop (s : Bytes) (p : Nat) (hp : p < s.length) :
    (rune1 (s.drop p)).2 = (Utf8.decode ⟨s.toArray⟩ p).2 ∧ ((Utf8.decode ⟨s.toArray⟩ p).1 ≠ 65533 → (rune1 (s.drop p)).1 = (Utf8.decode ⟨s.toArray⟩ p).1) ∧ (Utf8.decode ⟨s.toArray⟩ p).1 ≤ 1114111 := by
  have hne : s.drop p ≠ [] := fun h => by have := congrArg List.length h; rw [List.length_drop] at this; simp at this; omega
  have hd : Utf8.decode ⟨s.toArray⟩ p = Lib.decodeN (s.drop p).length ((s.drop p).getD 0 0).toNat ((s.drop p).getD 1 0).toNat ((s.drop p).getD 2 0).toNat ((s.drop p).getD 3 0).toNat := by
    rw [Lib.decode_at]
    have hg : ∀ i, (ByteArray.mk s.toArray).get! (p + i) = (s.drop p).getD i 0 := by
      intro i
      rw [List.getD_eq_getElem?_getD, List.getElem?_drop]
      show s.toArray[p + i]! = _
      simp [getElem!_def]
      cases s[p + i]? <;> rfl
    have h0 := hg 0
    rw [Nat.add_zero] at h0
    rw [h0, hg 1, hg 2, hg 3]
    congr 1
    show s.toArray.size - p = _
    rw [List.length_drop]; simp
  rw [hd]
  refine and_assoc.1 ⟨?_, (decodeN_bounds _ _ _ _ _).1⟩
  cases hs : s.drop p with
  | nil => exact absurd hs hne
  | cons b t =>
    unfold rune1
    simp only []
    split
    · rename_i h; exact ⟨rfl, fun h2 => absurd h.1 h2⟩
    · exact ⟨rfl, fun _ => rfl⟩
theorem block_stays' {w w' : World} (hb : Q w w') {k : Nat} {o : Obj} (h : w.heap[k]? = some o) : w'.heap[k]? = some o := (hb.block k (Array.getElem?_eq_some_iff.1 h).1).trans h
set_option maxRecDepth 100000 in
set_option maxHeartbeats 2000000 in
theorem Runes_seq (s : Bytes) (B n₀ : Nat) (W : World) (hs : s.length ≤ 9223372036854775807) (hb : Boxed W B 9 (strV s)) (hn : n₀ ≤ W.heap.size) (hTb : ∀ W', Below n₀ W W' → Tabs W') :
    Seq Tryz.prog 155 #[.pointer (some ⟨B, 0, none⟩)] encRune (fun _ => False) (fun k => k = B) n₀ (runePlaces s) W := by
  intro n l J Jx hJ hJx hY h0
  refine callsIn_of_wp Tryz.func155 rfl trivial ?_ rfl
  simp only [Tryz.ntmps155, List.size_toArray, List.length_cons, List.length_nil, Nat.reduceAdd, Nat.reduceSub, Array.replicate_succ, Array.replicate_zero, List.push_toArray, List.append_toArray, List.nil_append, List.cons_append]
  have hc := hb.cell
  have hq0 : Q W (W.alloc (.stringIter ⟨s.toArray⟩ 0)) := Q.alloc _ _
  have H0 := Lib.hid h0; have HQ0 := Lib.hid hq0; have HTB := Lib.hid hTb; have HBX := Lib.hid hb; have HYH := Lib.hid hY
  have hBlt := hb.lt
  clear h0 hq0 hTb hb hY
  gi_wp2
  gi_loopw [3] (fun _ wr => ∃ (k pos : Nat), pos ≤ s.length ∧ k ≤ (runePlaces s).length ∧ Hid (wr.heap[W.heap.size]? = some (.stringIter ⟨s.toArray⟩ pos)) ∧ Hid (Below n₀ W wr) ∧ Hid (Boxed wr B 9 (strV s)) ∧ Hid (J k wr) ∧ Hid ((runePlaces s).drop k = runesAt pos (chunks (s.drop pos)))) (fun _ wr => s.length - wr.iterPos W.heap.size)
  case atStart =>
    exact ⟨0, 0, by omega, by omega, World.alloc_heap_new _ _, Below.mono HQ0.out hn, HBX.out.alloc _, hJ _ _ _ H0.out (Itk.of_q HQ0.out), by show _ = _; simp [runePlaces]⟩
  case round =>
    obtain ⟨k, pos, hp, hkle, HI, HB, HBB, HJ, HD⟩ := hrel
    obtain ⟨wo, rfl⟩ : ∃ wo : World, wo = wr := ⟨_, rfl⟩
    by_cases hlt : pos < s.length
    · have hne : s.drop pos ≠ [] := fun h => by have := congrArg List.length h; rw [List.length_drop] at this; simp at this; omega
      have hcs := chunks_cons (s.drop pos) hne
      have hsz := rune1_size (s.drop pos) hne
      rw [List.length_drop] at hsz
      obtain ⟨d1, d2, d3⟩ := decode_drop s pos hlt
      have hx := HD.out
      rw [hcs, runesAt, List.length_take, List.length_drop, Nat.min_eq_left (by omega), List.drop_drop] at hx
      have hkl : k < (runePlaces s).length := by
        rcases Nat.lt_or_ge k (runePlaces s).length with h | h
        · exact h
        · rw [List.drop_eq_nil_of_le h] at hx; cases hx
      rw [List.drop_eq_getElem_cons hkl] at hx
      injection hx with hx1 hx2
      have hnx : ∀ ty, (Instr.next (.pointer (some ⟨W.heap.size, 0, none⟩)) true ty).run Tryz.prog wo = _ := fun ty => Lib.run_next_any_at wo W.heap.size ⟨s.toArray⟩ pos ty HI.out hlt
      have hR := Rune_any (s.drop pos)
      rw [d1] at hsz hx2
      simp only [] at hx1
      generalize (rune1 (s.drop pos)).1 = R at *
      generalize (rune1 (s.drop pos)).2 = N0 at *
      generalize hdec : Utf8.decode ⟨s.toArray⟩ pos = dc at *
      obtain ⟨c, N⟩ := dc
      simp only [] at d1 d2 d3 hsz hx2 hnx
      subst d1
      have HX := Lib.hid hx1; have HD2 := Lib.hid hx2; have HR0 := Lib.hid hR; have HC2 := Lib.hid d2; have HDEC := Lib.hid hdec; have HCS := Lib.hid hcs; have HNE := Lib.hid hne
      have hjw : J k (wo.iterAt W.heap.size ⟨s.toArray⟩ (pos + N0)) := hJ _ _ _ HJ.out (Itk.iterAt _ HI.out (Nat.le_refl _))
      have hiw := Lib.iterAt_heap wo W.heap.size ⟨s.toArray⟩ pos (pos + N0) HI.out
      have hbw : Below n₀ W (wo.iterAt W.heap.size ⟨s.toArray⟩ (pos + N0)) := Lib.below_iterAt HB.out hn _ _
      have hbb : Boxed (wo.iterAt W.heap.size ⟨s.toArray⟩ (pos + N0)) B 9 (strV s) := (Lib.iterAt_other _ _ _ _ _ (by omega)).trans HBB.out
      have hcw := hbb.cell
      have HBBW := Lib.hid hbb
      have HJW := Lib.hid hjw; have HIW := Lib.hid hiw; have HBW := Lib.hid hbw
      clear hx1 hx2 hR d2 hdec hcs hjw hiw hbw hne hbb
      generalize wo.iterAt W.heap.size ⟨s.toArray⟩ (pos + N0) = wi at *
      by_cases hc5 : c = 65533
      · subst hc5
        have hTi : Tabs wi := HTB.out _ HBW.out
        have HTI := Lib.hid hTi; clear hTi
        gi_wp2
        rw [bytes_drop]
        refine ⟨trivial, fun h => (by cases h), (callsIn_wide.2 (HR0.out wi HNE.out HTI.out)).mono ?_⟩
        rintro e w2 ⟨rfl, q2⟩
        have hj2 : J k w2 := hJ _ _ _ HJW.out (Itk.of_q q2)
        have hi2 := block_stays' q2 HIW.out
        have hb2 : Below n₀ W w2 := HBW.out.trans (Below.mono q2 (by have := HBW.out.size; omega))
        have HBB2 := Lib.hid (block_stays' q2 HBBW.out)
        have HJ2 := Lib.hid hj2; have HI2 := Lib.hid hi2; have HB2 := Lib.hid hb2
        clear hj2 hi2 hb2 q2
        obtain ⟨fn, tmps, assign, body, hy, hR⟩ := HYH.out k hkl w2 HJ2.out (fun b h => by rw [h]; exact lt_of_get HBB2.out)
        rw [HX.out] at hy
        dsimp only [encRune] at hy
        have HYY := Lib.hid hR; clear hR
        gi_wp2
        refine ⟨fun h => (by cases h), (HYY.out _).mono ?_⟩
        rintro e W3 (⟨rfl, hJ3, hk3⟩ | ⟨rfl, hJx3, _⟩)
        · have hi3 : W3.heap[W.heap.size]? = some (.stringIter ⟨s.toArray⟩ (pos + N0)) := hk3.walks _ _ HI2.out rfl
          have hb4 : Boxed W3 B 9 (strV s) := (hk3.own B rfl (lt_of_get HBB2.out)).trans HBB2.out
          have HBB3 := Lib.hid hb4; clear hb4
          have hb3 : Below n₀ W W3 := HB2.out.trans hk3.below
          have HI3 := Lib.hid hi3; have HB3 := Lib.hid hb3; have HJ3 := Lib.hid hJ3
          clear hi3 hb3 hJ3 hk3
          gi_wp2
          go_roundw
          case rel => exact ⟨k + 1, pos + N0, by omega, by omega, HI3, HB3, HBB3, HJ3, HD2⟩
          case measure => rw [World.iterPos, HI3.out, World.iterPos, HI.out]; simp only []; omega
        · have HJX := Lib.hid hJx3; clear hJx3
          gi_wp2
          refine bodyPost_ret (results_none rfl _ _ _) rfl ?_
          exact ⟨⟨_, rfl⟩, .inr ⟨k + 1, by omega, HJX.out⟩⟩
      · have hRc : R = (c : Int) := HC2.out hc5
        subst hRc
        have hcb : ((c : Int) == 65533) = false := by simp; omega
        obtain ⟨fn, tmps, assign, body, hy, hR⟩ := HYH.out k hkl wi HJW.out (fun b h => by rw [h]; exact lt_of_get HBBW.out)
        rw [HX.out] at hy
        dsimp only [encRune] at hy
        have HYY := Lib.hid hR; clear hR
        gi_wp2
        refine ⟨fun h => (by cases h), (HYY.out _).mono ?_⟩
        rintro e W3 (⟨rfl, hJ3, hk3⟩ | ⟨rfl, hJx3, _⟩)
        · have hi3 : W3.heap[W.heap.size]? = some (.stringIter ⟨s.toArray⟩ (pos + N0)) := hk3.walks _ _ HIW.out rfl
          have hb4 : Boxed W3 B 9 (strV s) := (hk3.own B rfl (lt_of_get HBBW.out)).trans HBBW.out
          have HBB3 := Lib.hid hb4; clear hb4
          have hb3 : Below n₀ W W3 := HBW.out.trans hk3.below
          have HI3 := Lib.hid hi3; have HB3 := Lib.hid hb3; have HJ3 := Lib.hid hJ3
          clear hi3 hb3 hJ3 hk3
          gi_wp2
          go_roundw
          case rel => exact ⟨k + 1, pos + N0, by omega, by omega, HI3, HB3, HBB3, HJ3, HD2⟩
          case measure => rw [World.iterPos, HI3.out, World.iterPos, HI.out]; simp only []; omega
        · have HJX := Lib.hid hJx3; clear hJx3
          gi_wp2
          refine bodyPost_ret (results_none rfl _ _ _) rfl ?_
          exact ⟨⟨_, rfl⟩, .inr ⟨k + 1, by omega, HJX.out⟩⟩
    · have hnx : ∀ ty, (Instr.next (.pointer (some ⟨W.heap.size, 0, none⟩)) true ty).run Tryz.prog wo = _ := fun ty => Lib.run_next_end_at wo W.heap.size ⟨s.toArray⟩ pos ty HI.out hlt
      have hkl : (runePlaces s).length ≤ k := by
        have := HD.out
        rw [List.drop_eq_nil_of_le (show s.length ≤ pos by omega), chunks_nil, runesAt] at this
        have := congrArg List.length this
        simp at this
        omega
      have hkk : k = (runePlaces s).length := by omega
      have hj : J (runePlaces s).length wo := by rw [← hkk]; exact HJ.out
      have HJF := Lib.hid hj
      clear hkl hkk hj
      gi_wp2
      go_end0
      exact ⟨⟨_, rfl⟩, .inl HJF.out⟩
end Go.Proofs.YtcflpcpkmhljkaaGreatDoor
end

/- (WFold) utf.Fold: walked. -/
section
namespace Go.Proofs.YtcflpcpkmhljkaaGreatDoor
open Go.RowKit
set_option linter.unusedVariables false

theorem foldin_any (lo hi r : Int) (B : Nat) (w : World) (hc : w.cell? ⟨B, 0, none⟩ = some (.int .i64 r)) :
    Calls Tryz.prog 160 #[.int .i64 lo, .int .i64 hi, .pointer (some ⟨B, 0, none⟩)] w fun e w' => e = .returned (.bool (inL r lo hi)) ∧ w = w' := by
  by_cases h1 : lo ≤ r
  · by_cases h2 : r ≤ hi
    · go_enter Tryz.func160, Tryz.ntmps160
      go_wp2
      go_ret
      exact ⟨ret_bool (by simp [inL, h1, h2]), rfl⟩
    · go_enter Tryz.func160, Tryz.ntmps160
      go_wp2
      go_ret
      exact ⟨ret_bool (by simp [inL, h1, h2]), rfl⟩
  · go_enter Tryz.func160, Tryz.ntmps160
    go_wp2
    go_ret
    exact ⟨ret_bool (by rw [inL, decide_eq_false (by omega)]; rfl), rfl⟩

theorem or_one (n : Nat) (h : n < 9223372036854775808) : bits .or .i64 (n : Int) 1 = (n : Int) + 1 - (n : Int) % 2 := by
  have h2 : ((n ||| 1 : Nat) : Int) = (n : Int) + 1 - (n : Int) % 2 := by
    have : n ||| 1 = n + 1 - n % 2 := by
      apply Nat.eq_of_testBit_eq
      intro i
      rw [Nat.testBit_or]
      rcases Nat.mod_two_eq_zero_or_one n with h | h
      · have e : n + 1 - n % 2 = 2 * (n / 2) + 1 := by omega
        rw [e]
        cases i with
        | zero => simp [Nat.testBit_zero]
        | succ i =>
          rw [Nat.testBit_succ, Nat.testBit_succ, Nat.testBit_succ]
          have : (2 * (n / 2) + 1) / 2 = n / 2 := by omega
          rw [this]; simp
      · have e : n + 1 - n % 2 = n := by omega
        rw [e]
        cases i with
        | zero => simp [Nat.testBit_zero, h]
        | succ i => rw [Nat.testBit_succ, Nat.testBit_succ]; simp
    rw [this]; omega
  rw [← h2]
  have hx : n ||| 1 < 2 ^ 63 := Nat.or_lt_two_pow (by omega) (by omega)
  show IntKind.i64.wrap ((BitVec.ofInt 64 (n : Int) ||| BitVec.ofInt 64 (1 : Int)).toNat : Int) = _
  have e1 : (BitVec.ofInt 64 (n : Int)).toNat = n := by rw [BitVec.ofInt_natCast, BitVec.toNat_ofNat]; exact Nat.mod_eq_of_lt (by omega)
  have e2 : (BitVec.ofInt 64 (1 : Int)).toNat = 1 := by decide
  rw [BitVec.toNat_or, e1, e2, IntKind.wrap_i64]
  omega

theorem and_one' (n : Nat) (h : n < 9223372036854775808) : bits .and .i64 (n : Int) 1 = (n : Int) % 2 := by
  have h2 : ((n &&& 1 : Nat) : Int) = (n : Int) % 2 := by rw [Nat.and_one_is_mod]; omega
  rw [← h2]
  have hx : n &&& 1 < 2 ^ 63 := Nat.and_lt_two_pow _ (by omega)
  show IntKind.i64.wrap ((BitVec.ofInt 64 (n : Int) &&& BitVec.ofInt 64 (1 : Int)).toNat : Int) = _
  have e1 : (BitVec.ofInt 64 (n : Int)).toNat = n := by rw [BitVec.ofInt_natCast, BitVec.toNat_ofNat]; exact Nat.mod_eq_of_lt (by omega)
  have e2 : (BitVec.ofInt 64 (1 : Int)).toNat = 1 := by decide
  rw [BitVec.toNat_and, e1, e2, IntKind.wrap_i64]
  omega
set_option maxRecDepth 100000 in
set_option maxHeartbeats 2000000 in
theorem Fold_any (n : Nat) (w : World) (h1 : n ≤ 1114111) :
    Calls Tryz.prog 115 #[.int .i64 n] w fun e w' => e = .returned (.int .i64 (foldL n)) ∧ Q w w' := by
  have c := fun lo hi => foldin_any lo hi n w.heap.size (w.alloc (.cells #[.int .i64 n] 3)) (by simp only [World.cell?, heap_alloc_new]; rfl)
  have C := Lib.hid c; clear c
  have hq : Q w (w.alloc (.cells #[.int .i64 n] 3)) := Q.alloc _ _
  have HQ := Lib.hid hq; clear hq
  by_cases h215 : n = 215
  · subst h215
    go_enter Tryz.func115, Tryz.ntmps115
    go_wp2_with fail
    go_ret
    exact ⟨rfl, HQ.out⟩
  by_cases h930 : n = 930
  · subst h930
    go_enter Tryz.func115, Tryz.ntmps115
    go_wp2_with fail
    go_ret
    exact ⟨rfl, HQ.out⟩
  have hor := or_one n (by omega)
  have hand : bits .and .i64 (n : Int) 1 = (n : Int) % 2 := by rw [and_one' n (by omega)]
  have hw : wrap64 ((n : Int) + (n : Int) % 2) = (n : Int) + (n : Int) % 2 := IntWalk.wrap64_in _ (by omega)
  have HW := Lib.hid hw; clear hw
  have i215 : ¬ (n : Int) = 215 := by omega
  have i930 : ¬ (n : Int) = 930 := by omega
  have HX := Lib.hid i215; have HY := Lib.hid i930; clear i215 i930
  have b215 : ((n : Int) == 215) = false := by simpa using HX.out
  have b930 : ((n : Int) == 930) = false := by simpa using HY.out
  go_enter Tryz.func115, Tryz.ntmps115
  go_wp2_with fail
  refine (C.out 65 90).mono ?_
  rintro e w1 ⟨rfl, rfl⟩
  cases hb1 : inL n 65 90 with
  | true =>
    have HB1 := Lib.hid hb1; clear hb1
    go_wp2_with fail
    go_ret
    exact ⟨ret_int (by simp [foldL, hand, HW.out, HX.out, HY.out, HB1.out]), HQ.out⟩
  | false =>
   have HB1 := Lib.hid hb1; clear hb1
   go_wp2_with fail
   refine (C.out 192 222).mono ?_
   rintro e w1 ⟨rfl, rfl⟩
   cases hb2 : inL n 192 222 with
   | true =>
     have HB2 := Lib.hid hb2; clear hb2
     go_wp2_with fail
     go_ret
     exact ⟨ret_int (by simp [foldL, hand, HW.out, HX.out, HY.out, HB1.out, HB2.out]), HQ.out⟩
   | false =>
    have HB2 := Lib.hid hb2; clear hb2
    go_wp2_with fail
    refine (C.out 1040 1071).mono ?_
    rintro e w1 ⟨rfl, rfl⟩
    cases hb3 : inL n 1040 1071 with
    | true =>
      have HB3 := Lib.hid hb3; clear hb3
      go_wp2_with fail
      go_ret
      exact ⟨ret_int (by simp [foldL, hand, HW.out, HX.out, HY.out, HB1.out, HB2.out, HB3.out]), HQ.out⟩
    | false =>
     have HB3 := Lib.hid hb3; clear hb3
     go_wp2_with fail
     refine (C.out 913 937).mono ?_
     rintro e w1 ⟨rfl, rfl⟩
     cases hb4 : inL n 913 937 with
     | true =>
       have HB4 := Lib.hid hb4; clear hb4
       go_wp2_with fail
       go_ret
       exact ⟨ret_int (by simp [foldL, hand, HW.out, HX.out, HY.out, HB1.out, HB2.out, HB3.out, HB4.out]), HQ.out⟩
     | false =>
      have HB4 := Lib.hid hb4; clear hb4
      by_cases h962 : n = 962
      · subst h962
        go_wp2_with fail
        go_ret
        exact ⟨rfl, HQ.out⟩
      have i962 : ¬ (n : Int) = 962 := by omega
      have HZ := Lib.hid i962; clear i962
      have b962 : ((n : Int) == 962) = false := by simpa using HZ.out
      go_wp2_with fail
      refine (C.out 1024 1039).mono ?_
      rintro e w1 ⟨rfl, rfl⟩
      cases hb5 : inL n 1024 1039 with
      | true =>
        have HB5 := Lib.hid hb5; clear hb5
        go_wp2_with fail
        go_ret
        exact ⟨ret_int (by simp [foldL, hand, HW.out, HX.out, HY.out, HB1.out, HB2.out, HB3.out, HB4.out, HZ.out, HB5.out]), HQ.out⟩
      | false =>
       have HB5 := Lib.hid hb5; clear hb5
       go_wp2_with fail
       refine (C.out 256 303).mono ?_
       rintro e w1 ⟨rfl, rfl⟩
       cases hb6 : inL n 256 303 with
       | true =>
         have HB6 := Lib.hid hb6; clear hb6
         go_wp2_with fail
         go_ret
         exact ⟨ret_int (by simp [foldL, hand, HW.out, HX.out, HY.out, HB1.out, HB2.out, HB3.out, HB4.out, HZ.out, HB5.out, HB6.out]), HQ.out⟩
       | false =>
        have HB6 := Lib.hid hb6; clear hb6
        go_wp2_with fail
        refine (C.out 330 375).mono ?_
        rintro e w1 ⟨rfl, rfl⟩
        cases hb7 : inL n 330 375 with
        | true =>
          have HB7 := Lib.hid hb7; clear hb7
          go_wp2_with fail
          go_ret
          exact ⟨ret_int (by simp [foldL, hand, HW.out, HX.out, HY.out, HB1.out, HB2.out, HB3.out, HB4.out, HZ.out, HB5.out, HB6.out, HB7.out]), HQ.out⟩
        | false =>
         have HB7 := Lib.hid hb7; clear hb7
         go_wp2_with fail
         refine (C.out 1120 1153).mono ?_
         rintro e w1 ⟨rfl, rfl⟩
         cases hb8 : inL n 1120 1153 with
         | true =>
           have HB8 := Lib.hid hb8; clear hb8
           go_wp2_with fail
           go_ret
           exact ⟨ret_int (by simp [foldL, hand, HW.out, HX.out, HY.out, HB1.out, HB2.out, HB3.out, HB4.out, HZ.out, HB5.out, HB6.out, HB7.out, HB8.out]), HQ.out⟩
         | false =>
          have HB8 := Lib.hid hb8; clear hb8
          go_wp2_with fail
          refine (C.out 1162 1215).mono ?_
          rintro e w1 ⟨rfl, rfl⟩
          cases hb9 : inL n 1162 1215 with
          | true =>
            have HB9 := Lib.hid hb9; clear hb9
            go_wp2_with fail
            go_ret
            exact ⟨ret_int (by simp [foldL, hand, HW.out, HX.out, HY.out, HB1.out, HB2.out, HB3.out, HB4.out, HZ.out, HB5.out, HB6.out, HB7.out, HB8.out, HB9.out]), HQ.out⟩
          | false =>
           have HB9 := Lib.hid hb9; clear hb9
           go_wp2_with fail
           refine (C.out 1232 1327).mono ?_
           rintro e w1 ⟨rfl, rfl⟩
           cases hb10 : inL n 1232 1327 with
           | true =>
             have HB10 := Lib.hid hb10; clear hb10
             go_wp2_with fail
             go_ret
             exact ⟨ret_int (by simp [foldL, hand, HW.out, HX.out, HY.out, HB1.out, HB2.out, HB3.out, HB4.out, HZ.out, HB5.out, HB6.out, HB7.out, HB8.out, HB9.out, HB10.out]), HQ.out⟩
           | false =>
            have HB10 := Lib.hid hb10; clear hb10
            go_wp2_with fail
            refine (C.out 313 328).mono ?_
            rintro e w1 ⟨rfl, rfl⟩
            cases hb11 : inL n 313 328 with
            | true =>
              have HB11 := Lib.hid hb11; clear hb11
              go_wp2_with fail
              go_ret
              exact ⟨ret_int (by simp [foldL, hand, HW.out, HX.out, HY.out, HB1.out, HB2.out, HB3.out, HB4.out, HZ.out, HB5.out, HB6.out, HB7.out, HB8.out, HB9.out, HB10.out, HB11.out]), HQ.out⟩
            | false =>
             have HB11 := Lib.hid hb11; clear hb11
             go_wp2_with fail
             refine (C.out 377 382).mono ?_
             rintro e w1 ⟨rfl, rfl⟩
             cases hb12 : inL n 377 382 with
             | true =>
               have HB12 := Lib.hid hb12; clear hb12
               go_wp2_with fail
               go_ret
               exact ⟨ret_int (by simp [foldL, hand, HW.out, HX.out, HY.out, HB1.out, HB2.out, HB3.out, HB4.out, HZ.out, HB5.out, HB6.out, HB7.out, HB8.out, HB9.out, HB10.out, HB11.out, HB12.out]), HQ.out⟩
             | false =>
              have HB12 := Lib.hid hb12; clear hb12
              go_wp2_with fail
              refine (C.out 1329 1366).mono ?_
              rintro e w1 ⟨rfl, rfl⟩
              cases hb13 : inL n 1329 1366 with
              | true =>
                have HB13 := Lib.hid hb13; clear hb13
                go_wp2_with fail
                go_ret
                exact ⟨ret_int (by simp [foldL, hand, HW.out, HX.out, HY.out, HB1.out, HB2.out, HB3.out, HB4.out, HZ.out, HB5.out, HB6.out, HB7.out, HB8.out, HB9.out, HB10.out, HB11.out, HB12.out, HB13.out]), HQ.out⟩
              | false =>
               have HB13 := Lib.hid hb13; clear hb13
               go_wp2_with fail
               go_ret
               exact ⟨ret_int (by simp [foldL, hand, HW.out, HX.out, HY.out, HB1.out, HB2.out, HB3.out, HB4.out, HZ.out, HB5.out, HB6.out, HB7.out, HB8.out, HB9.out, HB10.out, HB11.out, HB12.out, HB13.out]), HQ.out⟩
end Go.Proofs.YtcflpcpkmhljkaaGreatDoor
end

/- (WVars) wire.Var: walked -/
section
namespace Go.Proofs.YtcflpcpkmhljkaaGreatDoor
open Go.RowKit
set_option linter.unusedVariables false

theorem walk_byte (x : Nat) : bits .or .u8 ((x : Int) % 256) 128 = ((UInt8.ofNat (x % 128 + 128)).toNat : Int) := by
  have h := u8_or_nat (x % 256) 128 (by omega) (by decide)
  rw [or128] at h
  rw [toNat_ofNat _ (by omega)]
  rw [← h]; rfl

set_option maxRecDepth 100000 in
set_option maxHeartbeats 1000000 in
theorem Var_any (v : Value) (ns : List Nat) (w : World) (hv : U64s w v ns) (hn : ns.length ≤ 1000000000000) (h64 : ∀ n ∈ ns, n < 18446744073709551616) :
    Calls Tryz.prog 136 #[v] w fun e w' => e = .returned (.string ⟨(varsE ns).toArray⟩) ∧ Q w w' := by
  obtain ⟨a, cap, rfl, hcell⟩ := hv.value
  have HC := Lib.hid hcell; have H64 := Lib.hid h64; clear hcell hv h64
  go_enter Tryz.func136, Tryz.ntmps136
  go_wp2_with fail
  go_loopw [8, 5] (fun i _ wr => ∃ k : Nat, k ≤ ns.length ∧ i = .int .i64 k ∧ Hid (∃ r, Bld wr w.heap.size w.heap.size r (varsE (ns.take k))) ∧ Hid (Below w.heap.size w wr)) (fun i _ _ => ns.length - (intOf i).toNat)
  case atStart => exact ⟨0, by omega, rfl, ⟨none, Bld.new w _ (Nat.le_refl _)⟩, (Below.refl _ _).alloc (Nat.le_refl _) _⟩
  case round =>
    obtain ⟨k, hk, rfl, HB, HW⟩ := hrel
    obtain ⟨wo, rfl⟩ : ∃ wo : World, wo = wr := ⟨_, rfl⟩
    by_cases hlt : k < ns.length
    · obtain ⟨b, off, rfl, hc⟩ := HC.out (by omega)
      have hck := hc k hlt
      have hcw : wo.cell? ⟨b, off + k, none⟩ = some (.int .u64 (ns[k] : Nat)) := cell_stays HW.out hck
      have hn64 := H64.out _ (List.getElem_mem hlt)
      have hvt := varsE_take ns k hlt
      have hvl := varsE_len (ns.take k)
      have htl : (ns.take k).length ≤ k := List.length_take_le _ _
      generalize ns[k] = n at *
      generalize varsE (ns.take k) = pre at *
      have HVT := Lib.hid hvt; have HCC := Lib.hid hc; clear hvt hc hck
      go_wp2_with fail
      go_loopw [5] (fun x wr => ∃ (y m : Nat), x = .int .u64 y ∧ y < 18446744073709551616 ∧ m ≤ 10 ∧ Hid (0 < m ∧ y < 128 ^ m) ∧ Hid (∃ r l, Bld wr w.heap.size w.heap.size r l ∧ l ++ varF m y = pre ++ varE n) ∧ Hid (Below w.heap.size w wr)) (fun x _ => (intOf x).toNat)
      case atStart =>
        obtain ⟨r, hr⟩ := HB.out
        exact ⟨n, 10, rfl, hn64, by omega, ⟨by omega, lt64 n hn64⟩, ⟨r, pre, hr, rfl⟩, HW⟩
      case round =>
        obtain ⟨wo2, rfl⟩ : ∃ wo2 : World, wo2 = wr := ⟨_, rfl⟩
        obtain ⟨y, m, rfl, hy, hm, HM, HL, HW2⟩ := hrel
        obtain ⟨r, l, hbld, hl⟩ := HL.out
        obtain ⟨hm0, hym⟩ := HM.out
        have hlen : l.length ≤ 10 * k + 10 := by
          have e := congrArg List.length hl
          rw [List.length_append, List.length_append] at e
          have := varE_len n
          omega
        have hW2 := HW2.out
        have hsz := hW2.size
        by_cases hbig : 128 ≤ y
        · obtain ⟨hm1, hvb, hyl⟩ := varF_big m y hbig hym
          have hwb := walk_byte y
          have c := WriteByte_any w.heap.size w.heap.size r l (UInt8.ofNat (y % 128 + 128)) _ wo2 hbld hwb (by omega) (by omega)
          have hst : l ++ varF m y = (l ++ [UInt8.ofNat (y % 128 + 128)]) ++ varF (m - 1) (y / 128) := by rw [hvb]; simp
          have C := Lib.hid c; have HST := Lib.hid hst; have HHL := Lib.hid hl; have HBD := Lib.hid hbld
          clear c hst hl hbld hwb hvb
          go_wp2_with fail
          refine C.out.mono ?_
          rintro e w3 ⟨rfl, hs2, r', hbld', hfr⟩
          have HB2 := Lib.hid (HW2.out.trans (HBD.out.below hs2 (by omega)))
          have HBL := Lib.hid hbld'
          clear hs2 hbld' hfr hW2
          go_wp2_with fail
          go_roundw
          case rel => exact ⟨y / 128, m - 1, by go_num, by omega, by omega, ⟨by omega, hyl⟩, ⟨r', _, HBL.out, by rw [← HST.out]; exact HHL.out⟩, HB2⟩
          case measure => simp [intOf]; omega
        · have hvs := varF_small m y hm0 (by omega)
          have c := WriteByte_any w.heap.size w.heap.size r l (UInt8.ofNat y) (y : Int) wo2 hbld (by rw [toNat_ofNat _ (by omega)]) (by omega) (by omega)
          have hend : l ++ [UInt8.ofNat y] = varsE (ns.take (k + 1)) := by rw [HVT.out, ← hl, hvs]
          have C := Lib.hid c; have HE := Lib.hid hend; have HBD := Lib.hid hbld
          clear c hend hl hbld hvs
          go_wp2_with fail
          ((with_reducible refine C.out.mono ?_); rintro e w3 ⟨rfl, hs2, r', hbld', hfr⟩)
          have HB2 := Lib.hid (HW2.out.trans (HBD.out.below hs2 (by omega)))
          have HBL := Lib.hid hbld'
          clear hs2 hbld' hfr hW2
          go_wp2_with fail
          go_roundw
          case rel => exact ⟨k + 1, by omega, by go_num, ⟨r', by rw [← HE.out]; exact HBL.out⟩, HB2⟩
          case measure => simp [intOf]; omega
    · have hkk : k = ns.length := by omega
      subst hkk
      rw [List.take_length] at HB
      obtain ⟨r, hbld⟩ := HB.out
      have hW := HW.out
      have hsz := hW.size
      have c := String_any w.heap.size w.heap.size r (varsE ns) wo hbld (by omega)
      have C := Lib.hid c
      clear c hbld hW
      go_wp2_with fail
      refine C.out.mono ?_
      rintro e w3 ⟨rfl, hb3⟩
      have HB3 := Lib.hid (HW.out.trans hb3)
      clear hb3
      go_wp2_with fail
      go_ret
      exact ⟨rfl, HB3.out⟩
end Go.Proofs.YtcflpcpkmhljkaaGreatDoor
end

/- (WTexts) wire.Text: walked -/
section
namespace Go.Proofs.YtcflpcpkmhljkaaGreatDoor
open Go.RowKit
set_option linter.unusedVariables false

theorem Bld.q {w w' : World} {B b : Nat} {r : Option Nat} {l : Bytes} (h : Bld w B b r l) (hq : Q w w') : Bld w' B b r l :=
  h.stays (hq.block _ h.lt) (fun k hk => hq.block _ (h.row k hk).2) hq.size

set_option maxRecDepth 100000 in
set_option maxHeartbeats 1000000 in
theorem Text_any (v : Value) (ps : List Bytes) (w : World) (hv : Strs w v ps) (hn : ps.length ≤ 1000) (hp : ∀ p ∈ ps, p.length ≤ 100000000000) :
    Calls Tryz.prog 137 #[v] w fun e w' => e = .returned (.string ⟨(textsE ps).toArray⟩) ∧ Q w w' := by
  obtain ⟨a, cap, rfl, hcell⟩ := hv.value
  have HC := Lib.hid hcell; have HP := Lib.hid hp; clear hcell hv hp
  go_enter Tryz.func137, Tryz.ntmps137
  go_wp2_with fail
  go_loopw [8, 5] (fun i _ wr => ∃ k : Nat, k ≤ ps.length ∧ i = .int .i64 k ∧ Hid (∃ r, Bld wr w.heap.size w.heap.size r (textsE (ps.take k))) ∧ Hid (Below w.heap.size w wr)) (fun i _ _ => ps.length - (intOf i).toNat)
  case atStart => exact ⟨0, by omega, rfl, ⟨none, Bld.new w _ (Nat.le_refl _)⟩, (Below.refl _ _).alloc (Nat.le_refl _) _⟩
  case round =>
    obtain ⟨k, hk, rfl, HB, HW⟩ := hrel
    obtain ⟨wo, rfl⟩ : ∃ wo : World, wo = wr := ⟨_, rfl⟩
    by_cases hlt : k < ps.length
    · obtain ⟨b, off, rfl, hc⟩ := HC.out (by omega)
      have hck := hc k hlt
      have hcw : wo.cell? ⟨b, off + k, none⟩ = some (.string ⟨ps[k].toArray⟩) := cell_stays HW.out hck
      have hpl := HP.out _ (List.getElem_mem hlt)
      have hvt := textsE_take ps k hlt
      have hvl := textsE_len (ps.take k) 100000000000 (fun s hs => HP.out s (List.mem_of_mem_take hs))
      have htl : (ps.take k).length ≤ k := List.length_take_le _ _
      have hvl2 : (textsE (ps.take k)).length ≤ 100000000010000 := Nat.le_trans hvl (Nat.le_trans (Nat.mul_le_mul_right _ (show _ ≤ 1000 by omega)) (by decide))
      generalize ps[k] = p at *
      generalize textsE (ps.take k) = pre at *
      clear hvl htl
      have hvel := varE_len p.length
      have hW := HW.out
      have hsz := hW.size
      obtain ⟨r, hbld⟩ := HB.out
      have cv := Var_any (.slice (some ⟨wo.heap.size, 0, none⟩) 1 1) [p.length] (wo.alloc (.cells #[.int .u64 (p.length : Nat)] 132)) (Sl.lit wo #[.int .u64 (p.length : Nat)] 132 1 1 rfl) (by simp) (by intro n hn; simp at hn; omega)
      have hve : varsE [p.length] = varE p.length := by simp [varsE]
      rw [hve] at cv
      have HVT := Lib.hid hvt; have HCC := Lib.hid hc; have CV := Lib.hid cv; have HBD := Lib.hid hbld
      clear hvt hc hck cv hve hbld hW
      go_wp2_with fail
      refine CV.out.mono ?_
      rintro e w2 ⟨rfl, q2⟩
      have hq2 : Q wo w2 := (Q.alloc _ _).trans q2
      have hb2 := HBD.out.q hq2
      have hW2 : Below w.heap.size w w2 := HW.out.trans (Below.mono hq2 (by omega))
      have hsz2 := hW2.size
      have cw := WriteString_any w.heap.size w.heap.size r pre (varE p.length ++ p) w2 hb2 (by rw [List.length_append]; omega) (by omega)
      have hst : pre ++ (varE p.length ++ p) = textsE (ps.take (k + 1)) := by rw [HVT.out]; rfl
      rw [hst] at cw
      have CW := Lib.hid cw; have HW2 := Lib.hid hW2; have HB2 := Lib.hid hb2
      clear q2 hq2 hb2 hW2 cw hst
      go_wp2_with fail
      rw [bytes_append]
      refine CW.out.mono ?_
      rintro e w3 ⟨rfl, hs3, r', hbld', hfr⟩
      have HB3 := Lib.hid (HW2.out.trans (HB2.out.below hs3 (by omega)))
      have HBL := Lib.hid hbld'
      clear hs3 hbld' hfr
      go_wp2_with fail
      go_roundw
      case rel => exact ⟨k + 1, by omega, by go_num, ⟨r', HBL.out⟩, HB3⟩
      case measure => simp [intOf]; omega
    · have hkk : k = ps.length := by omega
      subst hkk
      rw [List.take_length] at HB
      obtain ⟨r, hbld⟩ := HB.out
      have hW := HW.out
      have hsz := hW.size
      have c := String_any w.heap.size w.heap.size r (textsE ps) wo hbld (by omega)
      have C := Lib.hid c
      clear c hbld hW
      go_wp2_with fail
      refine C.out.mono ?_
      rintro e w3 ⟨rfl, hb3⟩
      have HB3 := Lib.hid (HW.out.trans hb3)
      clear hb3
      go_wp2_with fail
      go_ret
      exact ⟨rfl, HB3.out⟩
end Go.Proofs.YtcflpcpkmhljkaaGreatDoor
end
