/- Joined texts of one proof: WPostP, WRef12b, WRef12c, WRef12d. -/
import Derived.Test.YtoabhcfmdkhmgaaGreatDoorPBld2ToWWords
import Derived.Test.YtoabhcfmdkhmgaaGreatDoorPWPostBToIx
import Derived.Test.YtoabhcfmdkhmgaaGreatDoorPWRef11dToWRef12a
import Derived.Deep.RegionHeld3
set_option linter.unusedSimpArgs false
set_option linter.unusedVariables false
set_option linter.unnecessarySimpa false
/- (WPostP) postings.Pack: walked. -/
section
namespace Go.Proofs.YtoabhcfmdkhmgaaGreatDoor
open Go.RowKit
set_option linter.unusedVariables false

theorem ret_str_int {k : IntKind} {x : ByteArray} {y : Bytes} {n : Int} (h : x = ⟨y.toArray⟩) : Ending.returned (.tuple #[.string x, .int k n]) = .returned (.tuple #[.string ⟨y.toArray⟩, .int k n]) := by rw [h]
def packTo (l : List PostL) (k : Nat) : PackSt := packF ⟨[], [], -1, -1, 0⟩ 0 (l.take k)
theorem packF_snoc (st : PackSt) (i : Nat) (l : List PostL) (p : PostL) : packF st i (l ++ [p]) = packStep (packF st i l) (i + l.length) p := by
  induction l generalizing st i with
  | nil => simp [packF]
  | cons q l ih => rw [List.cons_append, packF, packF, ih, List.length_cons]; congr 1; omega
theorem packTo_succ (l : List PostL) (k : Nat) (h : k < l.length) : packTo l (k + 1) = packStep (packTo l k) k l[k] := by
  unfold packTo
  rw [List.take_succ_eq_append_getElem h, packF_snoc, List.length_take, Nat.min_eq_left (by omega), Nat.zero_add]
/-- what holds behind k postings of right ones -/
structure PackOk (l : List PostL) (k : Nat) : Prop where
  doc : (packTo l k).doc = if k = 0 then -1 else (l.getD (k - 1) (0, [])).1
  last : -1 ≤ (packTo l k).last ∧ (packTo l k).last ≤ (packTo l k).doc
  from_ : (packTo l k).from_ ≤ (packTo l k).body.length
  body : (packTo l k).body.length ≤ k * 21000
  skips : (packTo l k).skips.length ≤ 2 * k
  small : ∀ n ∈ (packTo l k).skips, n < 18446744073709551616
theorem postsRight_at (last : Int) (l : List PostL) (h : postsRight last l = true) (k : Nat) (hk : k < l.length) : (if k = 0 then last else (l.getD (k - 1) (0, [])).1) < l[k].1 ∧ l[k].1 < 500 ∧ l[k].2.isEmpty = false ∧ risingI (-1) l[k].2 2000 = true ∧ last ≤ (if k = 0 then last else (l.getD (k - 1) (0, [])).1) := by
  induction l generalizing last k with
  | nil => simp at hk
  | cons p l ih =>
    simp only [postsRight, Bool.and_eq_true, decide_eq_true_eq, Bool.not_eq_true'] at h
    obtain ⟨⟨⟨⟨h1, h2⟩, h3⟩, h4⟩, h5⟩ := h
    cases k with
    | zero => exact ⟨by simpa using h1, h2, h3, h4, by simp⟩
    | succ k =>
      have := ih p.1 h5 k (by simpa using hk)
      cases k with
      | zero => simp at this ⊢; exact ⟨this.1, this.2.1, this.2.2.1, this.2.2.2, by omega⟩
      | succ k => simp at this ⊢; exact ⟨this.1, this.2.1, this.2.2.1, this.2.2.2.1, by omega⟩
theorem rises_len (a : Int) (l : List Int) (h : Rises a l) : (l.length : Int) ≤ 2000 - a ∨ l = [] := by
  induction l generalizing a with
  | nil => exact .inr rfl
  | cons x l ih =>
    left
    obtain ⟨h1, h2, h3⟩ := h
    rcases ih x h3 with h4 | h4
    · simp only [List.length_cons]; omega
    · subst h4; simp; omega
theorem oneE_len (p : PostL) (last : Int) (h : Rises (-1) p.2) : (oneE p last).length ≤ 21000 := by
  have := varsE_len ((p.1 - last).toNat :: p.2.length :: gapsL (-1) p.2)
  have hr := rises_len _ _ h
  unfold oneE
  simp only [List.length_cons, length_gaps] at this
  rcases hr with hr | hr
  · omega
  · rw [hr] at this ⊢; simp at this ⊢; omega
theorem postsRight_len (last : Int) (l : List PostL) (h : postsRight last l = true) (h0 : -1 ≤ last) : (l.length : Int) ≤ 500 - last ∨ l = [] := by
  induction l generalizing last with
  | nil => exact .inr rfl
  | cons p l ih =>
    left
    simp only [postsRight, Bool.and_eq_true, decide_eq_true_eq, Bool.not_eq_true'] at h
    obtain ⟨⟨⟨⟨h1, h2⟩, h3⟩, h4⟩, h5⟩ := h
    rcases ih p.1 h5 (by omega) with h6 | h6
    · simp only [List.length_cons]; omega
    · subst h6; simp; omega
theorem packOk (l : List PostL) (h : postsRight (-1) l = true) (hl : l.length ≤ 1000) (k : Nat) (hk : k ≤ l.length) : PackOk l k := by
  induction k with
  | zero => exact ⟨rfl, ⟨Int.le_refl _, Int.le_refl _⟩, Nat.le_refl _, Nat.le_refl _, Nat.le_refl _, by simp [packTo, packF]⟩
  | succ k ih =>
    have hlt : k < l.length := by omega
    obtain ⟨a1, a2, a3, a4, a5, a6⟩ := ih (by omega)
    obtain ⟨b1, b2, b3, b4, b5⟩ := postsRight_at _ _ h k hlt
    have hr := rises_of _ _ b4
    have ho := oneE_len l[k] (packTo l k).doc hr
    rw [← a1] at b1 b5
    have hd : (l.getD (k + 1 - 1) (0, [])).1 = l[k].1 := by rw [List.getD_eq_getElem?_getD, show k + 1 - 1 = k by omega, List.getElem?_eq_getElem hlt]; rfl
    have e0 : (if k + 1 = 0 then (-1 : Int) else (l.getD (k + 1 - 1) (0, [])).1) = l[k].1 := by rw [if_neg (by omega), hd]
    refine ⟨?_, ?_, ?_, ?_, ?_, ?_⟩ <;> rw [packTo_succ l k hlt] <;> unfold packStep
    · rw [e0]; split <;> rfl
    · split
      · exact ⟨by simp only; omega, by simp only; omega⟩
      · exact ⟨by simp only; omega, by simp only; omega⟩
    · split
      · simp
      · simp; omega
    · split
      · simp only [List.length_append]; omega
      · simp only [List.length_append]; omega
    · split
      · simp only [List.length_append, List.length_cons, List.length_nil]; omega
      · simp only; omega
    · split
      · intro n hn
        simp only [List.mem_append, List.mem_cons, List.not_mem_nil, or_false] at hn
        rcases hn with hn | hn | hn
        · exact a6 n hn
        · have : (packTo l k).doc < 500 := by omega
          omega
        · omega
      · exact a6
set_option maxRecDepth 100000 in
set_option maxHeartbeats 2000000 in
theorem PPack_bad (v : Value) (l : List PostR) (w : World) (hv : Posts w v l) (hn : l.length ≤ 1000) (hl : ∀ p ∈ l, p.2.2.length ≤ 1000000) (hr : postsRight (-1) (postsOf l) = false) :
    Calls Tryz.prog 92 #[v] w fun e w' => e = .returned (.tuple #[.string ⟨([] : Bytes).toArray⟩, .int .i64 1]) ∧ Q w w' := by
  have c := PRight_any v l w hv (by omega) (fun p hp => by have := hl p hp; omega)
  rw [hr] at c
  obtain ⟨a, cap, rfl, hcell⟩ := hv.value
  have C := Lib.hid c
  clear c hv hl hcell hr
  go_enter Tryz.func92, Tryz.ntmps92
  go_wp2_with fail
  refine C.out.mono ?_
  rintro e w1 ⟨rfl, q1⟩
  go_wp2_with fail
  go_ret2
  exact ⟨rfl, q1⟩
set_option maxRecDepth 100000 in
set_option maxHeartbeats 4000000 in
theorem PPack_ok (v : Value) (l : List PostR) (w : World) (hv : Posts w v l) (hn : l.length ≤ 1000) (hl : ∀ p ∈ l, p.2.2.length ≤ 1000000) (hr : postsRight (-1) (postsOf l) = true) :
    Calls Tryz.prog 92 #[v] w fun e w' => e = .returned (.tuple #[.string ⟨(postsE (postsOf l)).toArray⟩, .int .i64 0]) ∧ Q w w' := by
  have c := PRight_any v l w hv (by omega) (fun p hp => by have := hl p hp; omega)
  rw [hr] at c
  obtain ⟨a, cap, rfl, hcell⟩ := hv.value
  obtain ⟨i0, hi, hz0, hz1, hz2⟩ := info_parts tinfo106
  have hin := hv.2
  have C := Lib.hid c; have HC := Lib.hid hcell; have HIN := Lib.hid hin; have HL := Lib.hid hl; have HR := Lib.hid hr
  clear c hv hl hcell hin hr
  go_enter Tryz.func92, Tryz.ntmps92
  go_wp2_with fail
  refine C.out.mono ?_
  rintro e w1 ⟨rfl, q1⟩
  have hsz1 := q1.size
  have HQ1 := Lib.hid q1; clear q1
  go_wp2_with fail
  go_loopw [4, 6, 7, 8, 16] (fun sv lv dv fv iv wr => ∃ k : Nat, k ≤ l.length ∧ iv = .int .i64 k ∧ lv = .int .i64 (packTo (postsOf l) k).last ∧ dv = .int .i64 (packTo (postsOf l) k).doc ∧ fv = .int .i64 ((packTo (postsOf l) k).from_ : Nat) ∧
      Hid (wr.ownsRow w.heap.size 106 1 sv (packTo (postsOf l) k).skips.length (u64Vs (packTo (postsOf l) k).skips)) ∧ Hid (∃ r, Bld wr w.heap.size w1.heap.size r (packTo (postsOf l) k).body) ∧ Hid (Below w.heap.size w wr)) (fun _ _ _ _ iv _ => l.length - (intOf iv).toNat)
  case atStart => exact ⟨0, by omega, rfl, rfl, rfl, rfl, World.ownsRow_nil _ _ _ _, ⟨none, Bld.new w1 w.heap.size hsz1⟩, (show Below w.heap.size w w1 from HQ1.out).alloc hsz1 _⟩
  case round =>
    obtain ⟨k, hk, rfl, rfl, rfl, rfl, HO, HBL, HB⟩ := hrel
    obtain ⟨wo, rfl⟩ : ∃ wo : World, wo = wr := ⟨_, rfl⟩
    have hpk := packOk (postsOf l) HR.out (by simpa using hn) k (by simpa using hk)
    obtain ⟨a1, a2, a3, a4, a5, a6⟩ := hpk
    have hszw := HB.out.size
    obtain ⟨r, hbld⟩ := HBL.out
    by_cases hlt : k < l.length
    · obtain ⟨b, off, rfl, hc⟩ := HC.out (by omega)
      obtain ⟨hc1, hc2⟩ := hc k hlt
      have hw1 := cell_stays HB.out hc1
      have hw2 := cell_stays HB.out hc2
      have hlt' : k < (postsOf l).length := by simpa using hlt
      obtain ⟨b1, b2, b3, b4, b5⟩ := postsRight_at _ _ HR.out k hlt'
      rw [← a1] at b1 b5
      have hel : (postsOf l)[k] = (l[k].1, l[k].2.2) := by simp
      have hs := packTo_succ (postsOf l) k hlt'
      rw [hel] at hs b1 b2 b3 b4
      have hints := (HIN.out _ (List.getElem_mem hlt)).stays HB.out
      have hpl := HL.out _ (List.getElem_mem hlt)
      have hge := List.getElem?_eq_getElem hlt
      have HGE := Lib.hid hge; clear hge
      clear hc hc1 hc2 hel hlt'
      generalize l[k] = p at *
      obtain ⟨d, pv, ps⟩ := p
      simp only at hw1 hw2 b1 b2 b3 b4 hs hints hpl
      have hri := rises_of _ _ b4
      have hol := oneE_len (d, ps) (packTo (postsOf l) k).doc hri
      obtain ⟨pa, pcap, hpv⟩ : ∃ pa pcap, pv = .slice pa ps.length pcap := by obtain ⟨x, y, h, _⟩ := hints.value; exact ⟨x, y, h⟩
      subst hpv
      have HS := Lib.hid hs; have HA6 := Lib.hid a6; have HRI := Lib.hid hri; have HIN2 := Lib.hid hints; have HBD := Lib.hid hbld
      clear hs a6 hri hints hbld a1 b3 b4
      generalize packTo (postsOf l) k = st at *
      obtain ⟨sk, bd, la, dc, fr⟩ := st
      simp only at a2 a3 a4 a5 b1 b5 hol HS HA6 HO HBD
      have hinw := HIN.out _ (List.mem_of_getElem? HGE.out)
      have HINW := Lib.hid hinw; clear hinw
      by_cases hg : 0 < k ∧ k % 8 = 0
      · have hstep : packStep ⟨sk, bd, la, dc, fr⟩ k (d, ps) = ⟨sk ++ [(dc - la).toNat, bd.length - fr], bd ++ oneE (d, ps) dc, dc, d, bd.length⟩ := by unfold packStep; rw [if_pos hg]
        rw [hstep] at HS
        obtain ⟨hg1, hg2⟩ := hg
        have hk8 : ((k : Int) % 8 == 0) = true := by simp; omega
        have hbx := (HBD.out.alloc (.cells #[.int .i64 d, .slice pa ps.length pcap] 144))
        have hox := (HO.out.alloc (.cells #[.int .i64 d, .slice pa ps.length pcap] 144))
        have hxx := heap_alloc_new wo (.cells #[.int .i64 d, .slice pa ps.length pcap] 144)
        have hbw := HB.out.alloc hszw (.cells #[.int .i64 d, .slice pa ps.length pcap] 144)
        have hxs : (wo.alloc (.cells #[.int .i64 d, .slice pa ps.length pcap] 144)).heap.size = wo.heap.size + 1 := by simp
        have cl := Len_any _ _ _ _ _ hbx
        have CL := Lib.hid cl; clear cl hstep
        go_wp2_with fail
        refine CL.out.mono ?_
        rintro e w2 ⟨rfl, rfl⟩
        obtain ⟨wx, hwx⟩ : ∃ wx, wo.alloc (.cells #[.int .i64 d, .slice pa ps.length pcap] 144) = wx := ⟨_, rfl⟩
        rw [hwx] at hbx hox hxx hbw hxs ⊢
        clear hwx CL
        have HBX := Lib.hid hbx; have HXX := Lib.hid hxx; have HBW := Lib.hid hbw; have HXS := Lib.hid hxs
        clear hbx hxx hbw hxs
        have hsz2 : w.heap.size ≤ wx.heap.size := HBW.out.size
        have hll : (sk.length + 2) * 8 ≤ 140737488355328 := by omega
        go_wp2_with (at_builtin; go_must (refine wpList_appN wx (by rfl) _ _ 156 (by rfl) w.heap.size 106 _ i0 (.int .u64 0) 1 8 Tryz.underlying156 hi hz0 hz1 hz2 rfl (by decide) (by decide) _ _ _ (by rfl) hox 2 (by decide) #[.int .u64 (dc - la), .int .u64 ((bd.length : Int) - fr)] (by rfl) rfl ?c1 ?c2 hsz2 ?_))
        case c1 => simp [Value.oneCell']
        try (case c2 => exact hll)
        intro g cp w4 hown1 hg1' hat hlt1 hsz1'
        have e1 : u64Vs sk ++ (#[.int .u64 (dc - la), .int .u64 ((bd.length : Int) - fr)] : Array Value).toList = u64Vs (sk ++ [(dc - la).toNat, bd.length - fr]) := by
          have h1 : ((dc - la).toNat : Int) = dc - la := by omega
          have h2 : ((bd.length - fr : Nat) : Int) = (bd.length : Int) - fr := by omega
          simp [u64Vs, h1, h2]
        have e2 : sk.length + 2 = (sk ++ [(dc - la).toNat, bd.length - fr]).length := by simp
        rw [e1, e2] at hown1
        have xx4 := (hg1'.block wo.heap.size (by rw [HXS.out]; omega) (fun e => by have := (HO.out.lt _ e.symm).2; omega)).trans HXX.out
        have bl4 := HBX.out.grown hox (by decide) (by decide) hg1'
        have hb4 := HBW.out.grown hg1' hsz2 (fun k hk => by have := (hox.lt k hk).1; omega)
        have E2 := Lib.hid e2; have OW4 := Lib.hid hown1; have X4 := Lib.hid xx4; have BL4 := Lib.hid bl4; have HB4 := Lib.hid hb4
        have cl := Len_any _ _ _ _ _ bl4
        have CL := Lib.hid cl
        clear e1 e2 hown1 xx4 bl4 hb4 hg1' hat hox cl
        rw [E2.out]
        go_wp2_with fail
        refine CL.out.mono ?_
        rintro e w2 ⟨rfl, rfl⟩
        · skip
          have co := one_any d dc (.slice pa ps.length pcap) ps w4 ((HINW.out).stays HB4.out) b1 b5 b2 HRI.out hpl
          obtain ⟨x0, x1⟩ := cells2 X4.out
          have CO := Lib.hid co; clear co
          go_wp2_with fail
          refine CO.out.mono ?_
          rintro e w5 ⟨rfl, q5⟩
          have bl5 := BL4.out.q q5
          have ow5 := ownsRow_below OW4.out q5
          have xx5 := block_stays' q5 X4.out
          have hb5 := HB4.out.trans (Below.mono q5 HB4.out.size)
          have cw := WriteString_any w.heap.size w1.heap.size r bd (oneE (d, ps) dc) w5 bl5 (by omega) hb5.size
          have CW := Lib.hid cw; have BL5 := Lib.hid bl5; have OW5 := Lib.hid ow5; have X5 := Lib.hid xx5; have HB5 := Lib.hid hb5
          clear cw bl5 ow5 xx5 hb5 q5 x0 x1
          go_wp2_with fail
          refine CW.out.mono ?_
          rintro e w6 ⟨rfl, hs6, r', hbld', hfr⟩
          have ow6 := hs6.owns BL5.out OW5.out (by decide) (by decide)
          have xx6 := hs6.cells BL5.out X5.out (by decide) (by decide)
          have hb6 := HB5.out.trans (BL5.out.below hs6 HB5.out.size)
          obtain ⟨x0, x1⟩ := cells2 xx6
          have BL6 := Lib.hid hbld'; have OW6 := Lib.hid ow6; have HB6 := Lib.hid hb6
          clear hs6 hbld' hfr ow6 xx6 hb6
          go_wp2_with fail
          go_roundw
          case rel => exact ⟨k + 1, by omega, by go_num, by rw [HS.out], by rw [HS.out], by rw [HS.out], by have h := OW6.out; rw [← E2.out] at h; show World.ownsRow _ _ _ _ _ _ _; rw [HS.out]; show World.ownsRow _ _ _ _ _ (sk ++ [(dc - la).toNat, bd.length - fr]).length (u64Vs (sk ++ [(dc - la).toNat, bd.length - fr])); rw [← E2.out]; exact h, by show ∃ r, _; rw [HS.out]; exact ⟨r', BL6.out⟩, HB6⟩
          case measure => simp [intOf]; omega
      · have hstep : packStep ⟨sk, bd, la, dc, fr⟩ k (d, ps) = ⟨sk, bd ++ oneE (d, ps) dc, la, d, fr⟩ := by unfold packStep; rw [if_neg hg]
        rw [hstep] at HS
        clear hstep
        have hbx := (HBD.out.alloc (.cells #[.int .i64 d, .slice pa ps.length pcap] 144))
        have hox := (HO.out.alloc (.cells #[.int .i64 d, .slice pa ps.length pcap] 144))
        have hxx := heap_alloc_new wo (.cells #[.int .i64 d, .slice pa ps.length pcap] 144)
        have hbw := HB.out.alloc hszw (.cells #[.int .i64 d, .slice pa ps.length pcap] 144)
        have HBX := Lib.hid hbx; have HOX := Lib.hid hox; have HXX := Lib.hid hxx; have HBW := Lib.hid hbw
        clear hbx hox hxx hbw
        by_cases hk0 : k = 0
        · subst hk0
          clear hg
          simp only [Nat.zero_mul, Nat.add_zero] at hw1 hw2
          have co := one_any d dc (.slice pa ps.length pcap) ps _ ((HINW.out).stays HBW.out) b1 b5 b2 HRI.out hpl
          have CO := Lib.hid co; clear co
          go_wp2_with fail
          revert CO HBX HOX HXX HBW
          generalize wo.alloc (.cells #[.int .i64 d, .slice pa ps.length pcap] 144) = w4
          intro BL4 OW4 X4 HB4 CO
          refine CO.out.mono ?_
          rintro e w5 ⟨rfl, q5⟩
          have bl5 := BL4.out.q q5
          have ow5 := ownsRow_below OW4.out q5
          have xx5 := block_stays' q5 X4.out
          have hb5 := HB4.out.trans (Below.mono q5 HB4.out.size)
          have cw := WriteString_any w.heap.size w1.heap.size r bd (oneE (d, ps) dc) w5 bl5 (by omega) hb5.size
          have CW := Lib.hid cw; have BL5 := Lib.hid bl5; have OW5 := Lib.hid ow5; have X5 := Lib.hid xx5; have HB5 := Lib.hid hb5
          clear cw bl5 ow5 xx5 hb5 q5
          go_wp2_with fail
          refine CW.out.mono ?_
          rintro e w6 ⟨rfl, hs6, r', hbld', hfr⟩
          have ow6 := hs6.owns BL5.out OW5.out (by decide) (by decide)
          have xx6 := hs6.cells BL5.out X5.out (by decide) (by decide)
          have hb6 := HB5.out.trans (BL5.out.below hs6 HB5.out.size)
          obtain ⟨x0, x1⟩ := cells2 xx6
          have BL6 := Lib.hid hbld'; have OW6 := Lib.hid ow6; have HB6 := Lib.hid hb6
          clear hs6 hbld' hfr ow6 xx6 hb6
          go_wp2_with fail
          go_roundw
          case rel => exact ⟨0 + 1, by omega, by go_num, by rw [HS.out], by rw [HS.out], by rw [HS.out], by show World.ownsRow _ _ _ _ _ _ _; rw [HS.out]; exact OW6.out, by show ∃ r, _; rw [HS.out]; exact ⟨r', BL6.out⟩, HB6⟩
          case measure => simp [intOf]; omega
        · have hk8 : ((k : Int) % 8 == 0) = false := by simp; omega
          have hkp : 0 < k := by omega
          clear hg hk0
          have co := one_any d dc (.slice pa ps.length pcap) ps _ ((HINW.out).stays HBW.out) b1 b5 b2 HRI.out hpl
          have CO := Lib.hid co; clear co
          go_wp2_with fail
          revert CO HBX HOX HXX HBW
          generalize wo.alloc (.cells #[.int .i64 d, .slice pa ps.length pcap] 144) = w4
          intro BL4 OW4 X4 HB4 CO
          refine CO.out.mono ?_
          rintro e w5 ⟨rfl, q5⟩
          have bl5 := BL4.out.q q5
          have ow5 := ownsRow_below OW4.out q5
          have xx5 := block_stays' q5 X4.out
          have hb5 := HB4.out.trans (Below.mono q5 HB4.out.size)
          have cw := WriteString_any w.heap.size w1.heap.size r bd (oneE (d, ps) dc) w5 bl5 (by omega) hb5.size
          have CW := Lib.hid cw; have BL5 := Lib.hid bl5; have OW5 := Lib.hid ow5; have X5 := Lib.hid xx5; have HB5 := Lib.hid hb5
          clear cw bl5 ow5 xx5 hb5 q5
          go_wp2_with fail
          refine CW.out.mono ?_
          rintro e w6 ⟨rfl, hs6, r', hbld', hfr⟩
          have ow6 := hs6.owns BL5.out OW5.out (by decide) (by decide)
          have xx6 := hs6.cells BL5.out X5.out (by decide) (by decide)
          have hb6 := HB5.out.trans (BL5.out.below hs6 HB5.out.size)
          obtain ⟨x0, x1⟩ := cells2 xx6
          have BL6 := Lib.hid hbld'; have OW6 := Lib.hid ow6; have HB6 := Lib.hid hb6
          clear hs6 hbld' hfr ow6 xx6 hb6
          go_wp2_with fail
          go_roundw
          case rel => exact ⟨k + 1, by omega, by go_num, by rw [HS.out], by rw [HS.out], by rw [HS.out], by show World.ownsRow _ _ _ _ _ _ _; rw [HS.out]; exact OW6.out, by show ∃ r, _; rw [HS.out]; exact ⟨r', BL6.out⟩, HB6⟩
          case measure => simp [intOf]; omega
    · have hkk : k = l.length := by omega
      subst hkk
      have hfull : packTo (postsOf l) l.length = packF ⟨[], [], -1, -1, 0⟩ 0 (postsOf l) := by unfold packTo; rw [List.take_of_length_le (by simp)]
      have hfin : postsE (postsOf l) = varE l.length ++ (varsE (packTo (postsOf l) l.length).skips ++ (packTo (postsOf l) l.length).body) := by rw [hfull]; simp [postsE]
      have HF := Lib.hid hfin; clear hfin hfull a1
      generalize packTo (postsOf l) l.length = st at *
      obtain ⟨sk, bd, la, dc, fr⟩ := st
      simp only at a2 a3 a4 a5 a6 HF HO hbld
      have c1 := Var_any (.slice (some ⟨wo.heap.size, 0, none⟩) 1 1) [l.length] (wo.alloc (.cells #[.int .u64 (l.length : Nat)] 106)) (Sl.lit wo #[.int .u64 (l.length : Nat)] 106 1 1 rfl) (by simp) (by intro n hn'; simp at hn'; omega)
      have hve : varsE [l.length] = varE l.length := by simp [varsE]
      rw [hve] at c1
      have hvl1 := varE_len l.length
      have hvl2 := varsE_len sk
      have C1 := Lib.hid c1; have HBD := Lib.hid hbld; have HA6 := Lib.hid a6
      clear hve
      clear c1 hbld a6
      go_wp2_with fail
      refine C1.out.mono ?_
      rintro e w3 ⟨rfl, q3⟩
      have hq3 : Q wo w3 := (Q.alloc _ _).trans q3
      have hb3 := HB.out.trans (Below.mono hq3 hszw)
      have c2 := Var_any _ sk w3 (Sl.of_owns (ownsRow_below HO.out hq3)) (by omega) HA6.out
      have bl3 := HBD.out.q hq3
      have C2 := Lib.hid c2; have HB3 := Lib.hid hb3; have BL3 := Lib.hid bl3
      clear c2 hb3 bl3 hq3 q3
      go_wp2_with fail
      refine C2.out.mono ?_
      rintro e w4 ⟨rfl, q4⟩
      have hb4 := HB3.out.trans (Below.mono q4 HB3.out.size)
      have bl4 := BL3.out.q q4
      have c3 := String_step _ _ _ _ _ bl4
      have C3 := Lib.hid c3; have HB4 := Lib.hid hb4; have BL4 := Lib.hid bl4
      clear c3 hb4 bl4 q4
      go_wp2_with fail
      refine C3.out.mono ?_
      rintro e w5 ⟨rfl, hs5⟩
      have hb5 := HB4.out.trans (BL4.out.below hs5 HB4.out.size)
      have HB5 := Lib.hid hb5
      clear hb5 hs5
      go_wp2_with fail
      go_ret2
      exact ⟨ret_str_int (by rw [bytes_append, bytes_append, HF.out, List.append_assoc]), HB5.out⟩
theorem PPack_any (v : Value) (l : List PostR) (w : World) (hv : Posts w v l) (hn : l.length ≤ 1000) (hl : ∀ p ∈ l, p.2.2.length ≤ 1000000) :
    Calls Tryz.prog 92 #[v] w fun e w' => e = .returned (.tuple #[.string ⟨(packL (postsOf l)).toArray⟩, .int .i64 (if postsRight (-1) (postsOf l) then 0 else 1)]) ∧ Q w w' := by
  unfold packL
  cases hr : postsRight (-1) (postsOf l) with
  | true => exact PPack_ok v l w hv hn hl hr
  | false => exact PPack_bad v l w hv hn hl hr
end Go.Proofs.YtoabhcfmdkhmgaaGreatDoor
end

/- (WRef12b) codexref12: Right, one: walked (where they are right). -/
section
namespace Go.Proofs.YtoabhcfmdkhmgaaGreatDoor
open Go.RowKit
set_option linter.unusedVariables false

theorem postsRight_docs (a : Int) (l : List PostL) (h : postsRight a l = true) : risingI a (l.map (·.1)) 500 = true := by
  induction l generalizing a with
  | nil => rfl
  | cons p l ih =>
    simp only [postsRight, Bool.and_eq_true, decide_eq_true_eq] at h
    obtain ⟨⟨⟨⟨h1, h2⟩, h3⟩, h4⟩, h5⟩ := h
    simp only [List.map_cons, risingI, Bool.and_eq_true, decide_eq_true_eq]
    exact ⟨⟨h1, h2⟩, ih _ h5⟩
theorem posts_at (l : List PostR) (h : postsRight (-1) (postsOf l) = true) (k : Nat) (hk : k < l.length) : (if k = 0 then -1 else ((postsOf l).getD (k - 1) (0, [])).1) < l[k].1 ∧ l[k].1 < 500 ∧ l[k].2.2.isEmpty = false ∧ risingI (-1) l[k].2.2 2000 = true ∧ -1 ≤ (if k = 0 then -1 else ((postsOf l).getD (k - 1) (0, [])).1) := by
  have hkp : k < (postsOf l).length := by simpa using hk
  have := postsRight_at _ _ h k hkp
  have hel : (postsOf l)[k] = (l[k].1, l[k].2.2) := by simp
  rw [hel] at this
  exact this
theorem str_cat {x : ByteArray} {a b c : Bytes} (hx : x = ⟨(a ++ b).toArray⟩) (h : a ++ b = c) : Value.string x = strV c := by rw [hx, h]
theorem tinfoInt : (Tryz.prog.info? 3).map (fun i => (i.zero, i.size, i.bytes)) = some (some (.int .i64 0), 1, 8) := by kernel_rfl
set_option maxRecDepth 100000 in
set_option maxHeartbeats 4000000 in
theorem RPRight_ok (v : Value) (l : List PostR) (w : World) (hv : Posts w v l) (hn : l.length ≤ 1000000) (hl : ∀ p ∈ l, p.2.2.length ≤ 1000000) (hr : postsRight (-1) (postsOf l) = true) :
    Calls Tryz.prog 78 #[v] w fun e w' => e = .returned (.bool true) ∧ Q w w' := by
  obtain ⟨a, cap, rfl, hcell⟩ := hv.value
  obtain ⟨i0, hi, hz0, hz1, hz2⟩ := info_parts tinfoInt
  have hin := hv.2
  have HC := Lib.hid hcell; have HIN := Lib.hid hin; have HL := Lib.hid hl; have HR := Lib.hid hr
  clear hcell hv hin hl hr
  go_enter Tryz.func78, Tryz.ntmps78
  go_wp2_with fail
  go_loopw [3, 4, 5] (fun dv i _ wr => ∃ (k : Nat) (ds : List Int), k ≤ l.length ∧ i = .int .i64 (k : Nat) ∧ Hid (ds = (l.take k).map (·.1)) ∧ Hid (wr.ownsRow w.heap.size 3 1 dv k (intVs ds)) ∧ Hid (Q w wr)) (fun _ i _ _ => l.length - (intOf i).toNat)
  case atStart => exact ⟨0, [], by omega, rfl, rfl, World.ownsRow_nil _ _ _ _, Q.refl _⟩
  case round =>
    obtain ⟨k, ds, hk, rfl, HDS, HO, HQ⟩ := hrel
    obtain ⟨wo, rfl⟩ : ∃ wo : World, wo = wr := ⟨_, rfl⟩
    have hsz : w.heap.size ≤ wo.heap.size := HQ.out.size
    by_cases hlt : k < l.length
    · obtain ⟨bb, o, rfl, hc⟩ := HC.out (by omega)
      obtain ⟨z0, z1⟩ := hc k hlt
      have c0 := cell_stays HQ.out z0
      have c1 := cell_stays HQ.out z1
      have hki : (k : Int) < (l.length : Int) := by omega
      have hk0 : (0 : Int) ≤ (k : Int) := by omega
      have hints := HIN.out _ (List.getElem_mem hlt)
      have hpl := HL.out _ (List.getElem_mem hlt)
      obtain ⟨_, _, b3, b4, _⟩ := posts_at l HR.out k hlt
      have htk : (l.take (k + 1)).map (·.1) = (l.take k).map (·.1) ++ [l[k].1] := by rw [List.take_succ_eq_append_getElem hlt, List.map_append]; rfl
      have Z0 := Lib.hid z0; have Z1 := Lib.hid z1
      clear z0 z1 hc
      generalize l[k] = p at *
      obtain ⟨d, pv, ps⟩ := p
      simp only at c0 c1 hints hpl b3 b4 htk Z0 Z1
      have crs := fun W (q : Q w W) => RPRising_ok pv ps 2000 W (hints.stays q) (by omega) b4
      obtain ⟨pa, pcap, rfl, _⟩ := hints.value
      have hne : (((ps.length : Nat) : Int) == 0) = false := by cases ps <;> simp_all; omega
      have CRS := Lib.hid crs; have HTK := Lib.hid htk
      clear crs b3 b4 htk hints
      have ho := HO.out
      go_wp2_with (at_builtin; go_must (refine wpList_app wo (by rfl) _ _ 141 (by rfl) w.heap.size 3 _ i0 (.int .i64 0) 1 8 Tryz.underlying141 hi hz0 hz1 hz2 rfl (by decide) (by decide) _ _ _ (by rfl) ho #[.int .i64 d] (by simp [Act.eval]) rfl ?c1 ?c2 hsz ?_))
      case c1 => simp [Value.oneCell']
      case c2 => omega
      intro g6 cap6 w6 hown6 hg6 hat6 hlt6 hsz6
      have q6 : Q w w6 := grown_below HQ.out ho hg6 (Nat.le_refl _) (by omega)
      have d0 := cell_stays q6 Z0.out
      have d1 := cell_stays q6 Z1.out
      have hown6 : w6.ownsRow w.heap.size 3 1 (.slice (some ⟨g6, 0, none⟩) (k + 1) cap6) (k + 1) (intVs (ds ++ [d])) := by simpa [intVs] using hown6
      have HO6 := Lib.hid hown6; have HQ6 := Lib.hid q6
      clear hown6 q6 hg6 hat6 ho c0 c1 HO HQ
      go_wp2_with fail
      refine (CRS.out _ HQ6.out).mono ?_
      rintro e w7 ⟨rfl, q7⟩
      have d2 := cell_stays q7 d0
      have d3 := cell_stays q7 d1
      have HQ7 := Lib.hid (HQ6.out.trans q7)
      have HO7 := Lib.hid (ownsRow_below HO6.out q7)
      clear q7 HQ6 HO6 CRS d0 d1
      go_wp2_with fail
      go_roundw
      case rel => exact ⟨k + 1, ds ++ [d], by omega, by go_num, by show _ = _; rw [HTK.out, HDS.out], HO7, HQ7⟩
      case measure => simp [intOf]; omega
    · have hke : k = l.length := by omega
      subst hke
      have ho := HO.out
      have hds := HDS.out
      rw [List.take_length] at hds
      rw [hds] at ho
      have hln : (l.map (·.1)).length = l.length := List.length_map _
      have hdm : (postsOf l).map (·.1) = l.map (·.1) := by simp [postOf]
      have hdr := postsRight_docs _ _ HR.out
      rw [hdm] at hdr
      obtain ⟨da, dcap, rfl, _⟩ := owns_value ho
      have hint : Ints wo (.slice da l.length dcap) (l.map (·.1)) := by have := Sl.of_owns ho; unfold Ints; rw [hln]; exact this
      have c := RPRising_ok _ (l.map (·.1)) 500 wo hint (by omega) hdr
      have C := Lib.hid c
      clear c hint hdr hdm ho HO
      go_wp2_with fail
      refine C.out.mono ?_
      rintro e w7 ⟨rfl, q7⟩
      have HQ7 := Lib.hid (HQ.out.trans q7)
      clear q7
      go_wp2_with fail
      go_ret
      exact ⟨rfl, HQ7.out⟩
end Go.Proofs.YtoabhcfmdkhmgaaGreatDoor
end

/- (WRef12c) codexref12: one: walked (where it is right). -/
section
namespace Go.Proofs.YtoabhcfmdkhmgaaGreatDoor
open Go.RowKit
set_option linter.unusedVariables false

theorem varsE_snoc (l : List Nat) (n : Nat) : varsE (l ++ [n]) = varsE l ++ varE n := by simp [varsE]
theorem RPNum_int (x : Int) (n : Nat) (hx : x = (n : Int)) (hn : n < 9223372036854775808) (W : World) :
    Calls Tryz.prog 100 #[.int .i64 x] W fun e w' => e = .returned (strV (varE n)) ∧ Q W w' := by
  subst hx; exact RPNumber_any n W hn
set_option maxRecDepth 100000 in
set_option maxHeartbeats 4000000 in
theorem ROne_ok (d last : Int) (pv : Value) (ps : List Int) (w : World) (hv : Ints w pv ps) (hd : last < d) (h1 : -1 ≤ last) (h2 : d < 500) (hr : Rises (-1) ps) (hn : ps.length ≤ 1000000) :
    Calls Tryz.prog 101 #[.agg #[.int .i64 d, pv], .int .i64 last] w fun e w' => e = .returned (strV (oneE (d, ps) last)) ∧ Q w w' := by
  obtain ⟨a, cap, rfl, hcell⟩ := hv.value
  have c1 := RPNum_int (d - last) (d - last).toNat (by omega) (by omega)
  have c2 := RPNum_int (ps.length : Int) ps.length rfl (by omega)
  have hone : oneE (d, ps) last = varsE (oneNums d last ps ps.length) := by unfold oneE oneNums; rw [List.take_length]
  have hst0 : varsE (oneNums d last ps 0) = varE (d - last).toNat ++ varE ps.length := by simp [oneNums, gapsL, varsE]
  have hl1 := varE_len (d - last).toNat
  have hl2 := varE_len ps.length
  have hx := heap_alloc_new w (.cells #[.int .i64 d, .slice a ps.length cap] 144)
  obtain ⟨x0, x1⟩ := cells2 hx
  have hq0 := Q.alloc w (.cells #[.int .i64 d, .slice a ps.length cap] 144)
  have hws : w.heap.size < (w.alloc (.cells #[.int .i64 d, .slice a ps.length cap] 144)).heap.size := by simp
  have HC := Lib.hid hcell; have HR := Lib.hid hr; have C1 := Lib.hid c1; have C2 := Lib.hid c2; have HONE := Lib.hid hone; have HST0 := Lib.hid hst0; have HX0 := Lib.hid x0; have HX1 := Lib.hid x1; have HQ0 := Lib.hid hq0
  clear hcell hv hr c1 c2 hone hst0 x0 x1 hx hq0 hws
  generalize varE (d - last).toNat = v1 at *
  generalize varE ps.length = v2 at *
  have hadd : v1.length + v2.length ≤ 9223372036854775807 := by omega
  have hsum : ∀ W : World, (Op.stringOp .add ⟨v1.toArray⟩ ⟨v2.toArray⟩).run Tryz.prog W = .ok (.string (⟨v1.toArray⟩ ++ ⟨v2.toArray⟩)) W := fun W => run_string_add_sum W _ _ (by simpa [ByteArray.size] using hadd)
  go_enter Tryz.func101, Tryz.ntmps101
  go_wp2_with fail
  generalize hwb : w.alloc (.cells #[.int .i64 d, .slice a ps.length cap] 144) = wb at *
  generalize hB : w.heap.size = B at *
  have k0 := HX0.out
  have k1 := HX1.out
  have hmx : Tryz.prog.follows .mixedOrders = true := by kernel_rfl
  have hw1 : IntKind.i64.wrap (d - last) = d - last := IntWalk.i64_in _ (by omega)
  have kk := Q.refl wb
  have KK := Lib.hid kk
  clear kk hwb hB
  go_region_held3 (fun w' => w'.cell? ⟨B, 0, none⟩ = some (.int .i64 d) ∧ w'.cell? ⟨B, 1, none⟩ = some (.slice a ps.length cap)) (first | exact ⟨k0, k1⟩ | exact ⟨cell_stays KK.out k0, cell_stays KK.out k1⟩ | exact ⟨cell_stays (KK.out.trans (Q.drew _)) k0, cell_stays (KK.out.trans (Q.drew _)) k1⟩)
    (first
      | (go_at_call 100; ((with_reducible refine (C1.out _).mono ?_); rintro e w' ⟨rfl, q⟩); have s' : Q wb w' := Q.trans (by first | exact KK.out | exact KK.out.trans (Q.drew _)) q; clear KK; have KK := Lib.hid s'; clear s' q)
      | (go_at_call 100; ((with_reducible refine (C2.out _).mono ?_); rintro e w' ⟨rfl, q⟩); have s' : Q wb w' := Q.trans (by first | exact KK.out | exact KK.out.trans (Q.drew _)) q; clear KK; have KK := Lib.hid s'; clear s' q))
  rw [bytes_append, ← HST0.out]
  go_wp2_with fail
  go_loopw [5, 6, 7] (fun sv at_ i wr => ∃ (k : Nat) (x : Int) (t : Bytes), k ≤ ps.length ∧ i = .int .i64 (k : Nat) ∧ at_ = .int .i64 x ∧ sv = strV t ∧ t.length ≤ 10 * k + 20 ∧ Hid (x = if k = 0 then -1 else ps.getD (k - 1) 0) ∧ Hid (t = varsE (oneNums d last ps k)) ∧ Hid (Q wb wr)) (fun _ _ i _ => ps.length - (intOf i).toNat)
  case atStart => exact ⟨0, -1, _, by omega, rfl, rfl, rfl, by rw [HST0.out, List.length_append]; omega, rfl, rfl, KK.out⟩
  case round =>
    obtain ⟨k, x, t, hk, rfl, rfl, rfl, htl, HX, HT, HQ⟩ := hrel
    obtain ⟨wo, rfl⟩ : ∃ wo : World, wo = wr := ⟨_, rfl⟩
    have e0 := cell_stays HQ.out k0
    have e1 := cell_stays HQ.out k1
    by_cases hlt : k < ps.length
    · obtain ⟨bb, off, rfl, hc⟩ := HC.out (by omega)
      have c0 := cell_stays (HQ0.out.trans HQ.out) (hc k hlt)
      have hki : (k : Int) < (ps.length : Int) := by omega
      have hki0 : (0 : Int) ≤ (k : Int) := by omega
      obtain ⟨p1, p2, p3⟩ := Rises.at_ _ _ HR.out k hlt
      rw [← HX.out] at p1 p3
      have hst : oneNums d last ps (k + 1) = oneNums d last ps k ++ [(ps[k] - x).toNat] := by
        unfold oneNums
        rw [gaps_take ps (-1) k hlt, HX.out]; rfl
      have hnext : ps[k] = if k + 1 = 0 then -1 else ps.getD (k + 1 - 1) 0 := by
        rw [if_neg (by omega), List.getD_eq_getElem?_getD, show k + 1 - 1 = k by omega, List.getElem?_eq_getElem hlt]; rfl
      clear hc
      generalize ps[k] = y at *
      have c3 := RPNum_int (y - x) (y - x).toNat (by omega) (by omega)
      have hl3 := varE_len (y - x).toNat
      have hts : t ++ varE (y - x).toNat = varsE (oneNums d last ps (k + 1)) := by rw [hst, varsE_snoc, HT.out]
      have HN := Lib.hid hnext; have HTS := Lib.hid hts; have C3 := Lib.hid c3
      clear hnext hts c3 hst
      generalize varE (y - x).toNat = v3 at *
      go_wp2_with fail
      refine (C3.out _).mono ?_
      rintro e w6 ⟨rfl, q6⟩
      have f0 := cell_stays q6 e0
      have f1 := cell_stays q6 e1
      have g0 := cell_stays q6 c0
      have HQ6 := Lib.hid (HQ.out.trans q6)
      clear q6 e0 e1 c0 HQ C3
      go_wp2_with fail
      go_roundw
      case rel => exact ⟨k + 1, y, t ++ v3, by omega, by go_num, rfl, by rw [bytes_append], by rw [List.length_append]; omega, HN, HTS, HQ6⟩
      case measure => simp [intOf]; omega
    · have hke : k = ps.length := by omega
      subst hke
      go_wp2_with fail
      go_ret
      exact ⟨by rw [HT.out, HONE.out]; rfl, HQ0.out.trans HQ.out⟩
end Go.Proofs.YtoabhcfmdkhmgaaGreatDoor
end

/- (WRef12d) codexref12: bytes, Pack: walked (where they are right). -/
section
namespace Go.Proofs.YtoabhcfmdkhmgaaGreatDoor
open Go.RowKit
set_option linter.unusedVariables false

set_option maxRecDepth 100000 in
set_option maxHeartbeats 4000000 in
theorem RPBytes_ok (v : Value) (l : List PostR) (w : World) (hv : Posts w v l) (hn : l.length ≤ 1000) (hl : ∀ p ∈ l, p.2.2.length ≤ 1000000) (hr : postsRight (-1) (postsOf l) = true) :
    Calls Tryz.prog 79 #[v] w fun e w' => e = .returned (strV (postsE (postsOf l))) ∧ Q w w' := by
  obtain ⟨a, cap, rfl, hcell⟩ := hv.value
  have hin := hv.2
  have HC := Lib.hid hcell; have HIN := Lib.hid hin; have HL := Lib.hid hl; have HR := Lib.hid hr
  clear hcell hv hin hl hr
  go_enter Tryz.func79, Tryz.ntmps79
  go_wp2_with fail
  go_loopw [3, 4, 5, 6, 7, 8, 9] (fun skv alv eiv lav ahv i _ wr => ∃ (k : Nat) (sk : List Nat) (bd : Bytes) (la dc : Int) (fr : Nat) (s8 vs : Bytes), k ≤ l.length ∧ i = .int .i64 (k : Nat) ∧ skv = strV vs ∧ alv = strV bd ∧ eiv = strV s8 ∧ lav = .int .i64 dc ∧ ahv = .int .i64 la ∧ Hid (vs = varsE sk) ∧ Hid (packTo (postsOf l) k = ⟨sk, bd, la, dc, fr⟩) ∧ s8.length = bd.length - fr ∧ Hid (Q w wr)) (fun _ _ _ _ _ i _ _ => l.length - (intOf i).toNat)
  case atStart => exact ⟨0, [], [], -1, -1, 0, [], [], by omega, rfl, rfl, rfl, rfl, rfl, rfl, rfl, rfl, rfl, Q.refl _⟩
  case round =>
    obtain ⟨k, sk, bd, la, dc, fr, s8, vs, hk, rfl, rfl, rfl, rfl, rfl, rfl, HVS, HST, hs8, HQ⟩ := hrel
    obtain ⟨wo, rfl⟩ : ∃ wo : World, wo = wr := ⟨_, rfl⟩
    obtain ⟨a1, a2, a3, a4, a5, a6⟩ := packOk (postsOf l) HR.out (by simpa using hn) k (by simpa using hk)
    have hst := HST.out
    rw [hst] at a1 a2 a3 a4 a5 a6
    simp only at a1 a2 a3 a4 a5 a6
    have hvl := varsE_len sk
    rw [← HVS.out] at hvl
    by_cases hlt : k < l.length
    · obtain ⟨bb, o, rfl, hc⟩ := HC.out (by omega)
      obtain ⟨z0, z1⟩ := hc k hlt
      have c0 := cell_stays HQ.out z0
      have c1 := cell_stays HQ.out z1
      have hki : (k : Int) < (l.length : Int) := by omega
      have hk0 : (0 : Int) ≤ (k : Int) := by omega
      have hints := HIN.out _ (List.getElem_mem hlt)
      have hpl := HL.out _ (List.getElem_mem hlt)
      obtain ⟨b1, b2, b3, b4, b5⟩ := posts_at l HR.out k hlt
      rw [← a1] at b1 b5
      have hsuc := packTo_succ (postsOf l) k (by simpa using hlt)
      have hel : (postsOf l)[k]'(by simpa using hlt) = (l[k].1, l[k].2.2) := by simp
      rw [hel, hst] at hsuc
      clear z0 z1 hc hel a1 hst
      generalize l[k] = p at *
      obtain ⟨d, pv, ps⟩ := p
      simp only at c0 c1 hints hpl b1 b2 b3 b4 hsuc
      have hri := rises_of _ _ b4
      have hol := oneE_len (d, ps) dc hri
      have cone := fun W (q : Q w W) => ROne_ok d dc pv ps W (hints.stays q) b1 b5 b2 hri (by omega)
      obtain ⟨pa, pcap, rfl, _⟩ := hints.value
      by_cases hg : 0 < k ∧ k % 8 = 0
      · have hstep : packStep ⟨sk, bd, la, dc, fr⟩ k (d, ps) = ⟨sk ++ [(dc - la).toNat, bd.length - fr], bd ++ oneE (d, ps) dc, dc, d, bd.length⟩ := by unfold packStep; rw [if_pos hg]
        rw [hstep] at hsuc
        obtain ⟨hg1, hg2⟩ := hg
        have hk8 : ((k : Int) % 8 == 0) = true := by simp; omega
        have hgi : (0 : Int) < (k : Int) := by omega
        have c3 := RPNum_int (dc - la) (dc - la).toNat (by omega) (by omega)
        have c4 := RPNum_int (s8.length : Int) s8.length rfl (by omega)
        have hvn : vs ++ varE (dc - la).toNat ++ varE s8.length = varsE (sk ++ [(dc - la).toNat, bd.length - fr]) := by
          rw [HVS.out, hs8]; simp [varsE]
        have hl3 := varE_len (dc - la).toNat
        have hl4 := varE_len s8.length
        have hs8b : s8.length ≤ bd.length := by omega
        clear hs8
        generalize oneE (d, ps) dc = x at *
        have CONE := Lib.hid cone; have HSUC := Lib.hid hsuc; have C3 := Lib.hid c3; have C4 := Lib.hid c4; have HVN := Lib.hid hvn
        clear cone hsuc c3 c4 hvn b4 b3 hri hints hstep a6
        generalize varE (dc - la).toNat = v3 at *
        generalize varE s8.length = v4 at *
        go_wp2_with fail
        refine (C3.out _).mono ?_
        rintro e w5 ⟨rfl, q5⟩
        have d0 := cell_stays q5 c0
        have d1 := cell_stays q5 c1
        have HQ5 := Lib.hid (HQ.out.trans q5)
        clear q5 c0 c1 HQ C3
        go_wp2_with fail
        refine (C4.out _).mono ?_
        rintro e w6 ⟨rfl, q6⟩
        have e0 := cell_stays q6 d0
        have e1 := cell_stays q6 d1
        have HQ6 := Lib.hid (HQ5.out.trans q6)
        clear q6 d0 d1 HQ5 C4
        go_wp2_with fail
        refine (CONE.out _ HQ6.out).mono ?_
        rintro e w7 ⟨rfl, q7⟩
        have f0 := cell_stays q7 e0
        have f1 := cell_stays q7 e1
        have HQ7 := Lib.hid (HQ6.out.trans q7)
        clear q7 e0 e1 HQ6 CONE
        go_wp2_with fail
        go_roundw
        case rel => exact ⟨k + 1, _, _, _, _, _, x, vs ++ v3 ++ v4, by omega, by go_num, by rw [bytes_append, bytes_append], by rw [bytes_append], rfl, rfl, rfl, HVN, HSUC, by simp, HQ7⟩
        case measure => simp [intOf]; omega
      · have hstep : packStep ⟨sk, bd, la, dc, fr⟩ k (d, ps) = ⟨sk, bd ++ oneE (d, ps) dc, la, d, fr⟩ := by unfold packStep; rw [if_neg hg]
        rw [hstep] at hsuc
        generalize oneE (d, ps) dc = x at *
        have CONE := Lib.hid cone; have HSUC := Lib.hid hsuc
        clear cone hsuc b4 b3 hri hints hstep a6
        by_cases hz : k = 0
        · subst hz
          simp only [Nat.zero_mul, Nat.add_zero] at c0 c1
          have hs8b := hs8
          have HS8 := Lib.hid hs8b
          have hs8c : s8.length ≤ bd.length := by omega
          clear hg hs8 hs8b
          go_wp2_with fail
          refine (CONE.out _ HQ.out).mono ?_
          rintro e w7 ⟨rfl, q7⟩
          have f0 := cell_stays q7 c0
          have f1 := cell_stays q7 c1
          have HQ7 := Lib.hid (HQ.out.trans q7)
          clear q7 c0 c1 HQ CONE
          go_wp2_with fail
          go_roundw
          case rel => exact ⟨0 + 1, _, _, _, _, _, s8 ++ x, vs, by omega, by go_num, rfl, by rw [bytes_append], by rw [bytes_append], rfl, rfl, HVS, HSUC, by have := HS8.out; simp; omega, HQ7⟩
          case measure => simp [intOf]; omega
        · have hgi : (0 : Int) < (k : Int) := by omega
          have hk8 : ((k : Int) % 8 == 0) = false := by simp; omega
          have hs8b := hs8
          have HS8 := Lib.hid hs8b
          have hs8c : s8.length ≤ bd.length := by omega
          clear hg hs8 hs8b
          go_wp2_with fail
          refine (CONE.out _ HQ.out).mono ?_
          rintro e w7 ⟨rfl, q7⟩
          have f0 := cell_stays q7 c0
          have f1 := cell_stays q7 c1
          have HQ7 := Lib.hid (HQ.out.trans q7)
          clear q7 c0 c1 HQ CONE
          go_wp2_with fail
          go_roundw
          case rel => exact ⟨k + 1, _, _, _, _, _, s8 ++ x, vs, by omega, by go_num, rfl, by rw [bytes_append], by rw [bytes_append], rfl, rfl, HVS, HSUC, by have := HS8.out; simp; omega, HQ7⟩
          case measure => simp [intOf]; omega
    · have hke : k = l.length := by omega
      subst hke
      have hfull : packTo (postsOf l) l.length = packF ⟨[], [], -1, -1, 0⟩ 0 (postsOf l) := by unfold packTo; rw [List.take_of_length_le (by simp)]
      have hfin : postsE (postsOf l) = varE l.length ++ vs ++ bd := by
        rw [hfull] at hst
        unfold postsE
        rw [hst, HVS.out]; simp
      have c3 := RPNum_int (l.length : Int) l.length rfl (by omega)
      have hl3 := varE_len l.length
      have HFIN := Lib.hid hfin; have C3 := Lib.hid c3
      clear hfin c3 hst hfull a1 a6
      generalize varE l.length = v3 at *
      go_wp2_with fail
      refine (C3.out _).mono ?_
      rintro e w7 ⟨rfl, q7⟩
      have HQ7 := Lib.hid (HQ.out.trans q7)
      clear q7
      go_wp2_with fail
      go_ret
      exact ⟨by rw [HFIN.out]; exact congrArg (fun b => Ending.returned (.string b)) (by rw [bytes_append, bytes_append]), HQ7.out⟩
theorem RPPack_ok (v : Value) (l : List PostR) (w : World) (hv : Posts w v l) (hn : l.length ≤ 1000) (hl : ∀ p ∈ l, p.2.2.length ≤ 1000000) (hr : postsRight (-1) (postsOf l) = true) :
    Calls Tryz.prog 55 #[v] w fun e w' => e = .returned (.tuple #[strV (packL (postsOf l)), .int .i64 0]) ∧ Q w w' := by
  have c1 := RPRight_ok v l w hv (by omega) hl hr
  have c2 := fun W (q : Q w W) => RPBytes_ok v l W (hv.stays q) hn hl hr
  have hpk : packL (postsOf l) = postsE (postsOf l) := by unfold packL; rw [if_pos hr]
  rw [hpk]
  generalize postsE (postsOf l) = x at *
  obtain ⟨a, cap, rfl, hcell⟩ := hv.value
  have C1 := Lib.hid c1; have C2 := Lib.hid c2
  clear c1 c2 hv hl hcell hr hpk
  go_enter Tryz.func55, Tryz.ntmps55
  go_wp2_with fail
  refine C1.out.mono ?_
  rintro e w1 ⟨rfl, q1⟩
  have HQ1 := Lib.hid q1
  clear q1 C1
  go_wp2_with fail
  refine (C2.out _ HQ1.out).mono ?_
  rintro e w2 ⟨rfl, q2⟩
  have HQ2 := Lib.hid (HQ1.out.trans q2)
  clear q2 C2
  go_wp2_with fail
  go_ret2
  exact ⟨rfl, HQ2.out⟩
end Go.Proofs.YtoabhcfmdkhmgaaGreatDoor
end
