/- codexlaw14: opens, SegmentOpens: walked. -/
import Derived.Test.YtcblmcbpnakphaaGreatDoorMShown14ToWShown14
import Derived.Test.YtcblmcbpnakphaaGreatDoorHWOpenB
import Derived.Test.YtcblmcbpnakphaaGreatDoorMBaseToBase3
import Derived.Deep.RegionHeld3
set_option linter.unusedSimpArgs false
set_option linter.unusedVariables false
set_option linter.unnecessarySimpa false
namespace Go.Proofs.YtcblmcbpnakphaaGreatDoor
open Go.RowKit
set_option linter.unusedVariables false

theorem codeO_two (s : Bytes) : codeO s = 7 ∨ codeO s = 8 := by
  unfold codeO; split
  · exact .inl rfl
  · split
    · exact .inr rfl
    · exact .inl rfl
theorem built_len (l : List DocL) (s : Bytes) (h : buildS l = (s, 0)) : s.length ≤ 7000000000000 := by
  obtain ⟨h1, h2, h3⟩ := built_facts l s h
  have htx : ∀ d ∈ l, d.2.length ≤ 2000 := fun d hd => (rightB_len (h2.1 d hd)).2
  have hidx := idx_dict l (by omega) htx
  have hent := entsL_right l (by omega) htx
  have htl := termsL_len l (by omega) htx
  have hel : (entsL l).length = (termsL l).length := by unfold entsL; rw [List.length_map]
  have hdl : (idxS l).length ≤ 4500000000000 := by
    rw [hidx]
    have := dictL_len (entsL l)
    unfold dictL at this
    rw [hent, decide_eq_true (by omega)] at this
    simpa using this
  have h4 := docsE_len l (fun d hd => rightB_len (h2.1 d hd))
  have h5 := varE_len l.length
  have h6 := textE_len (idxS l)
  rw [h3]
  simp only [segE, segBody, List.length_append, magicL, List.length_cons, List.length_nil, length_fixedL]
  omega
set_option maxRecDepth 100000 in
set_option maxHeartbeats 4000000 in
theorem opens_any (s : Bytes) (w : World) (hs : s.length ≤ 8000000000000000000) (hT : Tabs w) (hSp : Spans w) :
    Calls Tryz.prog 25 #[strV s] w fun e w' => e = .returned (.bool true) ∧ Q w w' := by
  have cr := fun W => ROpen_any s W hs
  by_cases hb : ∃ l, buildS l = (s, 0)
  · obtain ⟨l, hb⟩ := hb
    obtain ⟨h1, h2, h3⟩ := built_facts l s hb
    have co := Open_ok l w h1 h2 hT hSp
    rw [← h3] at co
    have hpa := (built_parts l s hb).2.2.2
    have hsame : ∀ l', buildS l' = (s, 0) → l' = l := fun l' hb' => ((built_parts l' s hb').2.2.2.same hpa).1
    have hl5 : l.length ≤ 500 := by omega
    have CO := Lib.hid co; have CR := Lib.hid cr; have HSAME := Lib.hid hsame; have HB := Lib.hid hb
    clear co cr hsame hb hpa h1 h2 h3
    go_enter Tryz.func25, Tryz.ntmps25
    go_wp2_with fail
    refine CO.out.mono ?_
    rintro e w1 ⟨⟨p1, rfl, hg1⟩, q1⟩
    have HG1 := Lib.hid hg1; have HQ1 := Lib.hid q1
    clear hg1 q1 CO
    go_wp2_with fail
    refine (CR.out _).mono ?_
    rintro e w2 ⟨⟨v2, l2, hb2, ho2, rfl⟩ | ⟨hno, rfl⟩, q2⟩
    · have hll := HSAME.out l2 hb2
      subst hll
      have HQ2 := Lib.hid (HQ1.out.trans q2)
      have hd2 : Docs w2 v2 l2 := Sl.of_owns ho2
      obtain ⟨a2, c2, rfl, _⟩ := owns_value ho2
      have csd := SegDocs_any p1 l2 (idxS l2) w2 (HG1.out.stays q2) (by omega)
      have HD2 := Lib.hid hd2; have CSD := Lib.hid csd
      clear hb2 ho2 hd2 csd q2 CR
      go_wp2_with fail
      refine CSD.out.mono ?_
      rintro e w3 ⟨v3, rfl, ho3, q3⟩
      have hd3 : Docs w3 v3 l2 := Sl.of_owns ho3
      obtain ⟨a3, c3, rfl, _⟩ := owns_value ho3
      have HQ3 := Lib.hid (HQ2.out.trans q3)
      have cs := sameDocs14_any _ _ l2 l2 w3 hd3 (Sl.stays HD2.out q3) (by omega) (by omega)
      rw [decide_eq_true rfl] at cs
      have CS := Lib.hid cs
      clear hd3 ho3 cs q3 CSD
      go_wp2_with fail
      refine CS.out.mono ?_
      rintro e w4 ⟨rfl, q4⟩
      have HQ4 := Lib.hid (HQ3.out.trans q4)
      clear q4
      go_wp2_with fail
      go_ret
      exact ⟨rfl, HQ4.out⟩
    · exact absurd HB.out (hno _)
  · have hno : ∀ l, buildS l ≠ (s, 0) := fun l h => hb ⟨l, h⟩
    have co := Open_bad s w hs hno hT hSp
    have hct := codeO_two s
    have CO := Lib.hid co; have CR := Lib.hid cr; have HNO := Lib.hid hno
    clear co cr hno hb
    generalize codeO s = c at *
    rcases hct with rfl | rfl
    all_goals
      go_enter Tryz.func25, Tryz.ntmps25
      go_wp2_with fail
      refine CO.out.mono ?_
      rintro e w1 ⟨rfl, q1⟩
      have HQ1 := Lib.hid q1
      clear q1 CO
      go_wp2_with fail
      refine (CR.out _).mono ?_
      rintro e w2 ⟨⟨v2, l2, hb2, ho2, rfl⟩ | ⟨hno, rfl⟩, q2⟩
      · exact absurd hb2 (HNO.out _)
      · have HQ2 := Lib.hid (HQ1.out.trans q2)
        clear hno q2
        go_wp2_with fail
        go_ret
        exact ⟨rfl, HQ2.out⟩
set_option maxRecDepth 100000 in
set_option maxHeartbeats 8000000 in
theorem OpensL_walk (s : Bytes) (v : Value) (l : List DocL) (at_ to_ : Int) (rt : Bool) (w : World) (hv : Docs w v l) (hsl : s.length ≤ 9223372036854775807) (hlw : l.length ≤ 9223372036854775807 ∧ ∀ d ∈ l, d.1.length ≤ 9223372036854775807 ∧ d.2.length ≤ 9223372036854775807)
    (ha0 : -9223372036854775808 ≤ at_) (ha1 : at_ ≤ 9223372036854775807) (ht0 : -9223372036854775808 ≤ to_) (ht1 : to_ ≤ 9223372036854775807) (hT : Tabs w) (hSp : Spans w) :
    Calls Tryz.prog 5 #[strV s, v, .int .i64 at_, .int .i64 to_, .bool rt] w fun e w' => e = .returned (.bool true) ∧ Q w w' := by
  have csh := Shown14 w hT hSp
  have csm := fun W (q : Q w W) => small14_any v l W (hv.stays q) hlw.1 hlw.2
  have crb := fun W (q : Q w W) => RBuild_any v l W (hv.stays q) hlw.1 hlw.2
  have cop := fun (u : Bytes) (hu : u.length ≤ 8000000000000000000) W (q : Q w W) => opens_any u W hu (hT.stays q) (hSp.stays q)
  obtain ⟨a, cap, rfl, hcell⟩ := hv.value
  have hmx : Tryz.prog.follows .mixedOrders = true := by kernel_rfl
  have CSH := Lib.hid csh; have CSM := Lib.hid csm; have CRB := Lib.hid crb; have COP := Lib.hid cop
  clear csh csm crb cop hcell hT hSp hv
  by_cases hlong : small4 l = true ∧ s.length ≤ 3000
  · obtain ⟨hsm, hs3⟩ := hlong
    rw [hsm] at CSM
    have hl40 : l.length ≤ 40 := by
      unfold small4 at hsm
      simp only [Bool.and_eq_true, decide_eq_true_eq] at hsm
      exact hsm.1
    have hbl := built_len l
    have hbp := built_parts l
    generalize hbs : buildS l = bs at *
    obtain ⟨t, er⟩ := bs
    have HBL := Lib.hid hbl; have HBP := Lib.hid hbp
    clear hsm hbl hbp hbs
    go_enter Tryz.func5, Tryz.ntmps5
    go_wp2_with fail
    refine CSH.out.mono ?_
    rintro e w1 ⟨rfl, q1⟩
    have HQ1 := Lib.hid q1
    clear q1
    go_wp2_with fail
    refine (CSM.out _ HQ1.out).mono ?_
    rintro e w2 ⟨rfl, q2⟩
    have HQ2 := Lib.hid (HQ1.out.trans q2)
    clear q2 HQ1
    go_wp2_with fail
    refine (COP.out s (by omega) _ HQ2.out).mono ?_
    rintro e w3 ⟨rfl, q3⟩
    have HQ3 := Lib.hid (HQ2.out.trans q3)
    clear q3 HQ2
    go_wp2_with fail
    refine (CRB.out _ HQ3.out).mono ?_
    rintro e w4 ⟨rfl, q4⟩
    have HQ4 := Lib.hid (HQ3.out.trans q4)
    clear q4 HQ3 CRB
    by_cases her : er = 0
    · subst her
      have hb1 := HBL.out t rfl
      have hb2 := (HBP.out t rfl).1
      have kc := fun (w : World) (s : ByteArray) => run_bytes_of_string (P := Tryz.prog) w 9 54 5 s Tryz.underlying9 Tryz.underlying54 Tryz.underlying5
      clear HBL HBP
      go_wp2_with fail
      have hr0 := (ByteRow.made w4 t (grownCap w4 t.length 0 5) 5).drew
      have hq0 : Q w4 (w4.alloc (.cells (bytesRow ⟨t.toArray⟩ (grownCap w4 t.length 0 5)) 5 ((bytesRow ⟨t.toArray⟩ (grownCap w4 t.length 0 5)).size, (bytesRow ⟨t.toArray⟩ (grownCap w4 t.length 0 5)).size + 1))).drew := (Q.alloc w4 _).trans (Q.drew _)
      have hsz0 : w4.heap.size < (w4.alloc (.cells (bytesRow ⟨t.toArray⟩ (grownCap w4 t.length 0 5)) 5 ((bytesRow ⟨t.toArray⟩ (grownCap w4 t.length 0 5)).size, (bytesRow ⟨t.toArray⟩ (grownCap w4 t.length 0 5)).size + 1))).drew.heap.size := by
        show w4.heap.size < (w4.alloc _).heap.size
        simp
      generalize (w4.alloc (.cells (bytesRow ⟨t.toArray⟩ (grownCap w4 t.length 0 5)) 5 ((bytesRow ⟨t.toArray⟩ (grownCap w4 t.length 0 5)).size, (bytesRow ⟨t.toArray⟩ (grownCap w4 t.length 0 5)).size + 1))).drew = w5 at *
      generalize grownCap w4 t.length 0 5 = gc at *
      have hpl := pickL_lt at_ t.length (by omega)
      refine (pick14_any at_ t.length _ ha0 ha1 (by omega) (by omega)).mono ?_
      rintro e w6 ⟨rfl, q6⟩
      have hr6 := hr0.below q6 hsz0
      have hpi : (pickL at_ t.length : Int) < (t.length : Int) := by omega
      have hpi0 : (0 : Int) ≤ (pickL at_ t.length : Int) := by omega
      generalize pickL at_ t.length = pk at *
      obtain ⟨x, hx, HV, hc, hf⟩ := hr6.at pk hpl
      have HR6 := Lib.hid hr6; have HQ6 := Lib.hid ((HQ4.out.trans hq0).trans q6); have HQ46 := Lib.hid (hq0.trans q6)
      obtain ⟨y, hy⟩ : ∃ y : Nat, (y : Int) = to_ % 256 := ⟨(to_ % 256).toNat, by omega⟩
      have hyl : y < 256 := by omega
      have hyw : IntKind.u8.wrap to_ = (y : Int) := by
        simp only [IntKind.wrap, IntKind.bits, IntKind.signed]; simp; omega
      have hset := hr6.set pk (to_ % 256) (UInt8.ofNat y) (by rw [ofNat_toNat y hyl, hy])
      have hul : (t.set pk (UInt8.ofNat y)).length = t.length := List.length_set ..
      have hB : w.heap.size ≤ w4.heap.size := HQ4.out.size
      clear hr0 hq0 hsz0 q6 hr6 kc hpl HQ4 HR6 HQ46 HV hyw
      generalize t.set pk (UInt8.ofNat y) = u at *
      generalize w4.heap.size = B at *
      have hkc := hset.back (P := Tryz.prog) 54 9 5 gc Tryz.underlying54 Tryz.underlying5 Tryz.underlying9
      rw [hul] at hkc
      have HQ7 := Lib.hid (Q.setCell HQ6.out (a := ⟨B, pk, none⟩) hB (.int .u8 (to_ % 256)))
      have hu1 : u.length ≤ 7000000000000 := by omega
      have hu2 : 8 ≤ u.length := by omega
      clear hset hul hy hyl hb1 hb2
      cases rt with
      | false =>
        go_wp2_with fail
        refine (COP.out u (by omega) _ HQ7.out).mono ?_
        rintro e w8 ⟨rfl, q8⟩
        have HQ8 := Lib.hid (HQ7.out.trans q8)
        clear q8
        go_wp2_with fail
        go_ret
        exact ⟨rfl, HQ8.out⟩
      | true =>
        obtain ⟨n, hn⟩ : ∃ n, n = u.length - 4 := ⟨_, rfl⟩
        have hni : (u.length : Int) - 4 = (n : Int) := by omega
        have hnw : IntKind.i64.wrap (n : Int) = (n : Int) := IntWalk.i64_in _ (by omega)
        have hn0 : (0 : Int) ≤ (n : Int) := by omega
        have hnl : (n : Int) ≤ (u.length : Int) := by omega
        have hxt := bytes_take u n
        have htl : (u.take n).length = n := by rw [List.length_take]; omega
        have ccr := fun W => RCrc_any (u.take n) W (by omega)
        have cfx := fun W => RFixed_any (crcL (u.take n)) W (crcL_lt _)
        have hfl : (fixedL (crcL (u.take n))).length = 4 := length_fixedL _
        generalize crcL (u.take n) = cs at *
        generalize u.take n = ub at *
        generalize fixedL cs = fx at *
        have hs1 := hsum_of ub fx (by omega)
        obtain ⟨u2, hu3⟩ : ∃ u2, u2 = ub ++ fx := ⟨_, rfl⟩
        have hu4 : u2.length ≤ 7000000000010 := by rw [hu3, List.length_append]; omega
        rw [← hu3] at hs1
        have CCR := Lib.hid ccr; have CFX := Lib.hid cfx
        clear ccr cfx hn hu3
        go_wp2_with fail
        generalize w6.setCell ⟨B, pk, none⟩ (.int .u8 (to_ % 256)) = w7 at *
        have KK := HQ7
        go_region_held3 (fun w' => True) (exact trivial)
          (first
            | (go_at_call 28; ((with_reducible refine (CCR.out _).mono ?_); rintro e w' ⟨rfl, rfl⟩))
            | (go_at_call 27; ((with_reducible refine (CFX.out _).mono ?_); rintro e w' ⟨rfl, q⟩); have s' : Q w w' := Q.trans (by first | exact KK.out | exact KK.out.trans (Q.drew _)) q; clear KK; have KK := Lib.hid s'; clear s' q))
        all_goals
          go_wp2_with fail
          refine (COP.out u2 (by omega) _ KK.out).mono ?_
          rintro e w8 ⟨rfl, q8⟩
          have HQ8 := Lib.hid (KK.out.trans q8)
          clear q8
          go_wp2_with fail
          go_ret
          exact ⟨rfl, HQ8.out⟩
    · have hei : (er == 0) = false := by simpa using her
      go_wp2_with fail
      go_ret
      exact ⟨rfl, HQ4.out⟩
  · cases hsm : small4 l with
    | false =>
      rw [hsm] at CSM
      clear hlong hsm
      go_enter Tryz.func5, Tryz.ntmps5
      go_wp2_with fail
      refine CSH.out.mono ?_
      rintro e w1 ⟨rfl, q1⟩
      have HQ1 := Lib.hid q1
      clear q1
      go_wp2_with fail
      refine (CSM.out _ HQ1.out).mono ?_
      rintro e w2 ⟨rfl, q2⟩
      have HQ2 := Lib.hid (HQ1.out.trans q2)
      clear q2 HQ1
      go_wp2_with fail
      go_ret
      exact ⟨rfl, HQ2.out⟩
    | true =>
      rw [hsm] at CSM
      have hs3 : 3000 < s.length := by
        by_cases h : s.length ≤ 3000
        · exact absurd ⟨hsm, h⟩ hlong
        · omega
      clear hlong hsm
      go_enter Tryz.func5, Tryz.ntmps5
      go_wp2_with fail
      refine CSH.out.mono ?_
      rintro e w1 ⟨rfl, q1⟩
      have HQ1 := Lib.hid q1
      clear q1
      go_wp2_with fail
      refine (CSM.out _ HQ1.out).mono ?_
      rintro e w2 ⟨rfl, q2⟩
      have HQ2 := Lib.hid (HQ1.out.trans q2)
      clear q2 HQ1
      go_wp2_with fail
      go_ret
      exact ⟨rfl, HQ2.out⟩
end Go.Proofs.YtcblmcbpnakphaaGreatDoor
