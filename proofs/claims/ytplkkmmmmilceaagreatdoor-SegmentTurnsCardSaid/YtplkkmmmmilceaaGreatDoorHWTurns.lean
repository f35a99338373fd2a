/- codexlaw14.SegmentTurns: walked: true. -/
import Derived.Test.YtplkkmmmmilceaaGreatDoorMOpen0ToWCuts
import Derived.Test.YtplkkmmmmilceaaGreatDoorHTurns14
set_option linter.unusedSimpArgs false
set_option linter.unusedVariables false
set_option linter.unnecessarySimpa false
namespace Go.Proofs.YtplkkmmmmilceaaGreatDoor
open Go.RowKit
set_option linter.unusedVariables false

theorem buildS_turn (l : List DocL) : (buildS l.reverse).2 = (buildS l).2 ∧ ((buildS l).2 ≠ 0 → (buildS l).1 = [] ∧ (buildS l.reverse).1 = []) := by
  unfold buildS
  rw [List.length_reverse]
  by_cases h : l.length < 1 ∨ 500 < l.length
  · rw [if_pos h, if_pos h]; exact ⟨rfl, fun _ => ⟨rfl, rfl⟩⟩
  · rw [if_neg h, if_neg h]
    by_cases hok : docsOk l
    · rw [if_pos hok, if_pos ((docsOk_turn l).2 hok)]; exact ⟨rfl, fun h => absurd rfl h⟩
    · rw [if_neg hok, if_neg (fun h => hok ((docsOk_turn l).1 h))]; exact ⟨rfl, fun _ => ⟨rfl, rfl⟩⟩
theorem docVs_rev_take (l : List DocL) (k : Nat) (hk : k < l.length) : docVs (l.reverse.take (k + 1)) = docVs (l.reverse.take k) ++ [strV (l[l.length - 1 - k]'(by omega)).1, strV (l[l.length - 1 - k]'(by omega)).2] := by
  rw [List.take_succ_eq_append_getElem (by rw [List.length_reverse]; exact hk), docVs_append, List.getElem_reverse]
theorem owns_cap14 {w : World} {base : Nat} {e : TypeId} {size n : Nat} {xs : List Value} {a : Option Addr} {cap : Nat} (h : w.ownsRow base e size (.slice a n cap) n xs) : n ≤ cap := by
  rcases h.2 with ⟨hv, h0⟩ | ⟨g, c, cur, hv, _, _, hnc, _⟩
  · cases hv; exact Nat.le_refl _
  · cases hv; exact hnc
/-- one posting of a slice, as a slice -/
theorem Posts.sub {w : World} {b off n cap : Nat} {rs : List PostR} (h : Posts w (.slice (some ⟨b, off, none⟩) n cap) rs) (k : Nat) (hk : k < rs.length) (c : Nat) : Posts w (.slice (some ⟨b, off + k * 2, none⟩) 1 c) [rs[k]] := by
  obtain ⟨a', c', hv, hc⟩ := h.value
  cases hv
  obtain ⟨b', o', he, hcc⟩ := hc (by omega)
  cases he
  obtain ⟨h1, h2⟩ := hcc k hk
  refine ⟨⟨rfl, _, _, rfl, fun _ => ⟨_, _, rfl, fun j u hj => ?_⟩⟩, fun r hr => ?_⟩
  · match j, hj with
    | 0, hj => simp [postVs] at hj; subst hj; exact h1
    | 1, hj => simp [postVs] at hj; subst hj; exact h2
    | j + 2, hj => simp [postVs] at hj
  · rw [List.mem_singleton] at hr
    subst hr
    exact h.2 _ (List.getElem_mem hk)
theorem Posts.one (w : World) (d : Int) (v : Value) (ps : List Int) (hv : Ints w v ps) : Posts (w.alloc (.cells #[.int .i64 d, v] 74)) (.slice (some ⟨w.heap.size, 0, none⟩) 1 1) [(d, v, ps)] := by
  refine ⟨Sl.lit w #[.int .i64 d, v] _ 1 2 rfl, fun r hr => ?_⟩
  rw [List.mem_singleton] at hr
  subst hr
  exact hv.stays (Q.alloc _ _)
theorem Told.parts {w : World} {base : Nat} {v : Value} {xs : List PostL} (h : Told w base v xs) : ∃ (rs : List PostR) (a : Option Addr) (cap : Nat), v = .slice a rs.length cap ∧ postsOf rs = xs ∧ rs.length ≤ cap ∧ Posts w v rs := by
  obtain ⟨rs, h1, h2, h3⟩ := h
  obtain ⟨a, cap, rfl, _⟩ := owns_value h2
  exact ⟨rs, a, cap, rfl, h1, owns_cap14 h2, Sl.of_owns h2, fun r hr => Sl.of_owns (h3 r hr)⟩
set_option maxRecDepth 100000 in
set_option maxHeartbeats 8000000 in
theorem Turns_walk (v : Value) (l : List DocL) (w : World) (hv : Docs w v l) (hlw : l.length ≤ 9223372036854775807 ∧ ∀ d ∈ l, d.1.length ≤ 9223372036854775807 ∧ d.2.length ≤ 9223372036854775807) (hT : Tabs w) (hSp : Spans w) :
    Calls Tryz.prog 8 #[v] w fun e w' => e = .returned (.bool true) ∧ Q w w' := by
  obtain ⟨id, hid', hiz0, hiz1, hiz2⟩ := info_parts tinfo52
  have csh := Shown14 w hT hSp
  have csm := fun W (q : Q w W) => small14_any v l W (hv.stays q) hlw.1 hlw.2
  have cb := fun W (q : Q w W) => Build_any v l W (hv.stays q) hlw.1 hlw.2 (hT.stays q) (hSp.stays q)
  have cb2 := fun W v2 (q : Q w W) (hd : Docs W v2 l.reverse) => Build_any v2 l.reverse W hd (by rw [List.length_reverse]; exact hlw.1) (fun d hd => hlw.2 d (List.mem_reverse.1 hd)) (hT.stays q) (hSp.stays q)
  obtain ⟨a, cap, rfl, hcell⟩ := hv.value
  have CSH := Lib.hid csh; have CSM := Lib.hid csm; have CB := Lib.hid cb; have CB2 := Lib.hid cb2; have HT := Lib.hid hT; have HSP := Lib.hid hSp; have HC := Lib.hid hcell
  clear csh csm cb cb2 hcell hT hSp hv
  go_enter Tryz.func8, Tryz.ntmps8
  go_wp2_with fail
  refine CSH.out.mono ?_
  rintro e w1 ⟨rfl, q1⟩
  have HQ1 := Lib.hid q1
  clear q1
  go_wp2_with fail
  refine (CSM.out _ HQ1.out).mono ?_
  rintro e w2 ⟨rfl, q2⟩
  have HQ2 := Lib.hid (HQ1.out.trans q2)
  clear q2 HQ1
  cases hs : small4 l with
  | false =>
    go_wp2_with fail
    go_ret
    exact ⟨rfl, HQ2.out⟩
  | true =>
    have hl40 : l.length ≤ 40 := by
      unfold small4 at hs
      simp only [Bool.and_eq_true, decide_eq_true_eq] at hs
      exact hs.1
    clear hs
    go_wp2_with fail
    go_loopw [5, 6] (fun bv i wr => ∃ k : Nat, k ≤ l.length ∧ i = .int .i64 ((l.length : Int) - 1 - (k : Int)) ∧ Hid (wr.ownsRow w.heap.size 52 2 bv k (docVs (l.reverse.take k))) ∧ Hid (Q w wr)) (fun _ i _ => ((intOf i) + 1).toNat)
    case atStart => exact ⟨0, by omega, by go_num, by show World.ownsRow _ _ _ _ _ _ _; simpa using World.ownsRow_nil _ _ _ _, HQ2.out⟩
    case round =>
      obtain ⟨k, hk, rfl, HO, HQ⟩ := hrel
      obtain ⟨wo, rfl⟩ : ∃ wo : World, wo = wr := ⟨_, rfl⟩
      by_cases hlt : k < l.length
      · obtain ⟨b, off, rfl, hc⟩ := HC.out (by omega)
        obtain ⟨x0, x1⟩ := hc (l.length - 1 - k) (by omega)
        have y0 := cell_stays HQ.out x0
        have y1 := cell_stays HQ.out x1
        have hdv := docVs_rev_take l k hlt
        have hix : ((l.length : Int) - 1 - (k : Int)) = ((l.length - 1 - k : Nat) : Int) := by omega
        have hix1 : ((l.length - 1 - k : Nat) : Int) < (l.length : Int) := by omega
        generalize l[l.length - 1 - k]'(by omega) = d at *
        have HIX := Lib.hid hix
        obtain ⟨n1, hn1⟩ : ∃ n1 : Nat, n1 = l.length - 1 - k := ⟨_, rfl⟩
        rw [hix]
        rw [← hn1] at y0 y1 hix1 ⊢
        obtain ⟨did, dtx⟩ := d
        simp only at y0 y1 hdv
        have HDV := Lib.hid hdv
        have HN1 := Lib.hid hn1
        clear hc x0 x1 hdv hix hn1
        have hown := HO.out
        have hbz : w.heap.size ≤ wo.heap.size := HQ.out.size
        go_wp2_with (at_builtin; go_must (refine wpList_app wo (by rfl) _ _ 37 (by rfl) w.heap.size 52 _ id (.agg #[strV [], strV []]) 2 32 Tryz.underlying37 hid' hiz0 hiz1 hiz2 rfl (by decide) (by decide) _ _ _ (by rfl) hown #[strV did, strV dtx] (by simp [Act.eval]) rfl ?c1 ?c2 hbz ?_))
        case c1 => simp [Value.oneCell']
        case c2 => omega
        intro g6 cap6 w6 hown6 hg6 hat6 hlt6 hsz6
        have q6 : Q w w6 := grown_below HQ.out hown hg6 (Nat.le_refl _) (by omega)
        rw [show docVs (l.reverse.take k) ++ (#[strV did, strV dtx] : Array Value).toList = docVs (l.reverse.take (k + 1)) from HDV.out.symm] at hown6
        have HO6 := Lib.hid hown6; have HQ6 := Lib.hid q6
        clear hown6 hown q6 hg6 hat6 HO HQ
        go_wp2_with fail
        go_roundw
        case rel => exact ⟨k + 1, by omega, by have := HN1.out; congr 1; omega, HO6, HQ6⟩
        case measure => simp [intOf]
      · have hkk : k = l.length := by omega
        subst hkk
        have ho := HO.out
        rw [List.take_of_length_le (by rw [List.length_reverse]; omega)] at ho
        obtain ⟨va, vcap, rfl, _⟩ := owns_value ho
        have hdr : Docs wo (.slice va l.length vcap) l.reverse := by
          unfold Docs
          rw [List.length_reverse]
          exact Sl.of_owns ho
        have hm1 : ((l.length : Int) - 1 - (l.length : Int)) = -1 := by omega
        rw [hm1]
        have HDR := Lib.hid hdr
        clear hm1 ho hdr HO hk hlt
        obtain ⟨hbt, hbe⟩ := buildS_turn l
        by_cases hne : (buildS l).2 ≠ 0
        · obtain ⟨he1, he2⟩ := hbe hne
          have hb1 : buildS l = ([], (buildS l).2) := by rw [← he1]
          have hb2 : buildS l.reverse = ([], (buildS l).2) := by rw [← hbt, ← he2]
          rw [hb1] at CB
          rw [hb2] at CB2
          generalize (buildS l).2 = er at *
          clear he1 he2 hb1 hb2 hbt hbe
          go_wp2_with fail
          refine (CB.out _ HQ.out).mono ?_
          rintro e w3 ⟨rfl, q3⟩
          have HQ3 := Lib.hid (HQ.out.trans q3)
          have HDR3 := Lib.hid (HDR.out.stays q3)
          clear q3 HQ HDR
          go_wp2_with fail
          refine (CB2.out _ _ HQ3.out HDR3.out).mono ?_
          rintro e w4 ⟨rfl, q4⟩
          have HQ4 := Lib.hid (HQ3.out.trans q4)
          clear q4
          go_wp2_with fail
          go_ret
          exact ⟨rfl, HQ4.out⟩
        · have h : ¬ (l.length < 1 ∨ 500 < l.length) := fun h => hne (by unfold buildS; rw [if_pos h]; decide)
          have hok : docsOk l := by
            by_cases hok : docsOk l
            · exact hok
            · exact absurd (show (buildS l).2 ≠ 0 by unfold buildS; rw [if_neg h, if_neg hok]; decide) hne
          have hb1 : buildS l = (segE l (idxS l), 0) := by unfold buildS; rw [if_neg h, if_pos hok]
          have hok2 := (docsOk_turn l).2 hok
          have h2 : ¬ (l.reverse.length < 1 ∨ 500 < l.reverse.length) := by rw [List.length_reverse]; exact h
          have hb2 : buildS l.reverse = (segE l.reverse (idxS l.reverse), 0) := by unfold buildS; rw [if_neg h2, if_pos hok2]
          rw [hb1] at CB
          rw [hb2] at CB2
          have co1 := fun W (q : Q w W) => Open_ok l W h hok (HT.out.stays q) (HSP.out.stays q)
          have co2 := fun W (q : Q w W) => Open_ok l.reverse W h2 hok2 (HT.out.stays q) (HSP.out.stays q)
          generalize hsg1 : segE l (idxS l) = sg1 at *
          generalize hsg2 : segE l.reverse (idxS l.reverse) = sg2 at *
          have CO1 := Lib.hid co1; have CO2 := Lib.hid co2; have HOK := Lib.hid hok; have HOK2 := Lib.hid hok2
          have hl1 : 1 ≤ l.length := by omega
          clear hb1 hb2 co1 co2 hok hok2 hsg1 hsg2 h h2 hne hbt hbe
          go_wp2_with fail
          refine (CB.out _ HQ.out).mono ?_
          rintro e w3 ⟨rfl, q3⟩
          have HQ3 := Lib.hid (HQ.out.trans q3)
          have HDR3 := Lib.hid (HDR.out.stays q3)
          clear q3 HQ HDR CB
          go_wp2_with fail
          refine (CB2.out _ _ HQ3.out HDR3.out).mono ?_
          rintro e w4 ⟨rfl, q4⟩
          have HQ4 := Lib.hid (HQ3.out.trans q4)
          clear q4 CB2 HQ3 HDR3
          go_wp2_with fail
          refine (CO1.out _ HQ4.out).mono ?_
          rintro e w5 ⟨⟨p1, rfl, hs1⟩, q5⟩
          have HG1 := Lib.hid hs1; have HQ5 := Lib.hid (HQ4.out.trans q5)
          clear q5 hs1 CO1 HQ4
          go_wp2_with fail
          refine (CO2.out _ HQ5.out).mono ?_
          rintro e w6 ⟨⟨p2, rfl, hs2⟩, q6⟩
          have HG1b := Lib.hid (HG1.out.stays q6); have HG2 := Lib.hid hs2; have HQ6 := Lib.hid (HQ5.out.trans q6)
          clear q6 hs2 CO2 HQ5 HG1
          have hall : ∀ m : List DocL, (termsL m).filter (fun t => ([] : Bytes).isPrefixOf t) = termsL m := fun m => by
            rw [List.filter_eq_self]; intro t _; rfl
          have ct1 := fun W g => SegTerms_any p1 l [] W g (by omega) HOK.out (by decide)
          have ct2 := fun W g => SegTerms_any p2 l.reverse [] W g (by rw [List.length_reverse]; omega) HOK2.out (by decide)
          rw [hall] at ct1 ct2
          rw [termsL_turn] at ct2
          have htl := termsL_len l
          have hpl := fun t => (posts_small _ (docs_posts (by omega) HOK.out t)).1
          have ctd1 := fun t W g => Told_any p1 l t 0 W g (by omega) HOK.out
          have ctd2 := fun t W g => Told_any p2 l.reverse t 0 W g (by rw [List.length_reverse]; omega) HOK2.out
          simp only [fromP_zero] at ctd1 ctd2
          have htl2 : (termsL l).length ≤ 1000000 := htl (by omega) (fun d hd => (rightB_len (HOK.out.1 d hd)).2)
          have htat := postsF_turn_at
          generalize hT : termsL l = ts at *
          have CT1 := Lib.hid ct1; have CT2 := Lib.hid ct2; have HPL := Lib.hid hpl; have CD1 := Lib.hid ctd1; have CD2 := Lib.hid ctd2; have HTAT := Lib.hid htat
          clear hall ct1 ct2 htl hpl ctd1 ctd2 htat hT
          go_wp2_with fail
          refine (CT1.out _ HG1b.out).mono ?_
          rintro e w7 ⟨v7, rfl, ho7, q7⟩
          have HS7 := Lib.hid (show Strs w7 v7 ts from by have := Sl.of_owns ho7; exact this)
          have HG1 := Lib.hid (HG1b.out.stays q7); have HG2b := Lib.hid (HG2.out.stays q7); have HQ7 := Lib.hid (HQ6.out.trans q7)
          clear q7 ho7 HG1b HG2 HQ6
          go_wp2_with fail
          refine (CT2.out _ HG2b.out).mono ?_
          rintro e w8 ⟨v8, rfl, ho8, q8⟩
          have HS8 := Lib.hid (show Strs w8 v8 ts from by have := Sl.of_owns ho8; exact this)
          have HS78 := Lib.hid (HS7.out.stays q8)
          have HG1b := Lib.hid (HG1.out.stays q8); have HG2 := Lib.hid (HG2b.out.stays q8); have HQ8 := Lib.hid (HQ7.out.trans q8)
          clear q8 ho8 HG1 HG2b HQ7 HS7 CT2
          have cs := sameTexts14_any v7 v8 ts ts w8 HS78.out HS8.out (by omega) (by omega)
          rw [decide_eq_true rfl] at cs
          have CS := Lib.hid cs
          clear cs HS78 HS8
          go_wp2_with fail
          refine CS.out.mono ?_
          rintro e w9 ⟨rfl, q9⟩
          have HG1 := Lib.hid (HG1b.out.stays q9); have HG2b := Lib.hid (HG2.out.stays q9); have HQ9 := Lib.hid (HQ8.out.trans q9)
          clear q9 HG1b HG2 HQ8 CS
          go_wp2_with fail
          refine (CT1.out _ HG1.out).mono ?_
          rintro e w10 ⟨v10, rfl, ho10, q10⟩
          obtain ⟨ta, tcap, rfl, _⟩ := owns_value ho10
          have HS10 := Lib.hid (show Strs w10 (.slice ta ts.length tcap) ts from by have := Sl.of_owns ho10; exact this)
          have HG1b := Lib.hid (HG1.out.stays q10); have HG2 := Lib.hid (HG2b.out.stays q10); have HQ10 := Lib.hid (HQ9.out.trans q10)
          clear q10 ho10 HG1 HG2b HQ9 CT1
          go_wp2_with fail
          go_loopw [16] (fun i wr => ∃ n : Nat, n ≤ ts.length ∧ i = .int .i64 (n : Nat) ∧ Hid (Q w10 wr)) (fun i _ => ts.length - (intOf i).toNat)
          case atStart => exact ⟨0, by omega, rfl, Q.refl _⟩
          case round =>
            obtain ⟨n, hn, rfl, HQW⟩ := hrel
            obtain ⟨wo2, rfl⟩ : ∃ wo : World, wo = wr := ⟨_, rfl⟩
            by_cases hlt : n < ts.length
            · obtain ⟨bt, ot, rfl, hct⟩ := (Strs.value HS10.out).elim (fun a h => h.elim fun c h => (by obtain ⟨h1, h2⟩ := h; cases h1; exact h2 (by omega)))
              have t0 := cell_stays HQW.out (hct n hlt)
              have hi0 : (0 : Int) ≤ (n : Int) := by omega
              have hi1 : (n : Int) < (ts.length : Int) := by omega
              generalize hte : ts[n] = t at *
              have HCT := Lib.hid hct
              have HG1 := Lib.hid (HG1b.out.stays (by first | exact HQW.out)); have HG2b := Lib.hid (HG2.out.stays HQW.out)
              clear hct hte
              go_wp2_with fail
              refine (CD1.out t _ HG1.out).mono ?_
              rintro e w11 ⟨v11, rfl, ht11, q11⟩
              have t0b := cell_stays q11 t0
              have HT11 := Lib.hid ht11
              have HG2c := Lib.hid (HG2b.out.stays q11); have HQ11 := Lib.hid (HQW.out.trans q11)
              clear q11 HG1 HG2b ht11 t0
              go_wp2_with fail
              refine (CD2.out t _ HG2c.out).mono ?_
              rintro e w12 ⟨v12, rfl, ht12, q12⟩
              have ht11 := HT11.out.stays q12
              have HQ12 := Lib.hid (HQ11.out.trans q12)
              clear q12 HG2c HQ11 HT11 t0b
              obtain ⟨rs1, a1, cap1, rfl, hr1, hcap1, hp1⟩ := ht11.parts
              obtain ⟨rs2, a2, cap2, rfl, hr2, hcap2, hp2⟩ := ht12.parts
              have hl1' : rs1.length = (postsF t l 0).length := by rw [← hr1, List.length_map]
              have hl2 : rs2.length = rs1.length := by
                have h1 : rs2.length = (postsF t l.reverse 0).length := by rw [← hr2, List.length_map]
                rw [h1, hl1', postsF_turn]; simp
              have hl500 : rs1.length ≤ 500 := by rw [hl1']; exact HPL.out t
              rw [hl2]
              rw [hl2] at hcap2
              have HP1 := Lib.hid hp1; have HP2 := Lib.hid hp2; have HR1 := Lib.hid hr1; have HR2 := Lib.hid hr2; have HL2 := Lib.hid hl2; have HL1 := Lib.hid hl1'
              clear hp1 hp2 hr1 hr2 hl2 hl1' ht11 ht12 hcap2
              go_wp2_with fail
              go_loopw [19] (fun i wr => ∃ k : Nat, k ≤ rs1.length ∧ i = .int .i64 (k : Nat) ∧ Hid (Q w12 wr)) (fun i _ => rs1.length - (intOf i).toNat)
              case atStart => exact ⟨0, by omega, rfl, Q.refl _⟩
              case round =>
                obtain ⟨k, hk, rfl, HQI⟩ := hrel
                obtain ⟨wi, rfl⟩ : ∃ wo : World, wo = wr := ⟨_, rfl⟩
                by_cases hlk : k < rs1.length
                · obtain ⟨aa1, cc1, hvv1, hc1⟩ := HP1.out.value
                  cases hvv1
                  obtain ⟨b1, o1, rfl, hcc1⟩ := hc1 (by omega)
                  obtain ⟨aa2, cc2, hvv2, hc2⟩ := HP2.out.value
                  cases hvv2
                  have hm2 : rs1.length - 1 - k < rs2.length := by have := HL2.out; omega
                  obtain ⟨b2, o2, rfl, hcc2⟩ := hc2 (by omega)
                  obtain ⟨z0, z1⟩ := hcc2 _ hm2
                  have y0 := cell_stays HQI.out z0
                  have y1 := cell_stays HQI.out z1
                  clear z0 z1 hcc1
                  have hpk := (HP1.out.stays HQI.out).sub k hlk (cap1 - k)
                  have hii := (HP2.out.2 rs2[rs1.length - 1 - k] (List.getElem_mem hm2)).stays HQI.out
                  have htp : postOf rs2[rs1.length - 1 - k] = turnP l.length (postOf rs1[k]) := by
                    have hk2 : k < (postsF t l 0).length := by have := HL1.out; omega
                    obtain ⟨_, h2⟩ := HTAT.out t l k hk2
                    have h3 : (postsF t l 0)[k] = postOf rs1[k] := by
                      have := HR1.out
                      simp only [← this, List.getElem_map]
                    rw [h3, ← HR2.out, ← HL1.out, List.getElem?_map, List.getElem?_eq_getElem hm2] at h2
                    simpa using h2
                  have hb1 : -1 < rs1[k].1 ∧ rs1[k].1 < 500 ∧ rs1[k].2.2.length ≤ 2000 := by
                    have := (posts_small _ (docs_posts (by omega) HOK.out t)).2.1 (postOf rs1[k]) (by rw [← HR1.out]; exact List.mem_map.2 ⟨_, List.getElem_mem hlk, rfl⟩)
                    exact ⟨this.2.2.1, this.2.2.2.1, this.1⟩
                  generalize hr2e : rs2[rs1.length - 1 - k] = r2 at *
                  generalize hr1e : rs1[k] = r1 at *
                  obtain ⟨d1, v1, ps1⟩ := r1
                  obtain ⟨d2, v2, ps2⟩ := r2
                  simp only [postOf, turnP, Prod.mk.injEq] at htp
                  obtain ⟨rfl, rfl⟩ := htp
                  simp only at y0 y1 hb1 hii
                  obtain ⟨hb1, hb2, hb3⟩ := hb1
                  obtain ⟨m, hm⟩ : ∃ m : Nat, m = rs1.length - 1 - k := ⟨_, rfl⟩
                  rw [← hm] at y0 y1
                  have hmi : (rs1.length : Int) - 1 - (k : Int) = (m : Int) := by omega
                  have hdd : (l.length : Int) - 1 - ((l.length : Int) - 1 - d1) = d1 := by omega
                  have hmi1 : (m : Int) < (rs1.length : Int) := by omega
                  have hki : (k : Int) < (rs1.length : Int) := by omega
                  obtain ⟨av, cv, rfl, _⟩ := hii.2
                  have HM := Lib.hid hm; have HII := Lib.hid hii; have HPK := Lib.hid hpk
                  clear hm hii hpk hc1 hc2 hcc2 hr1e hr2e hm2
                  have hk0 : (0 : Int) ≤ (k : Int) := by omega
                  have hk1 : (k : Int) + 1 ≤ (cap1 : Int) := by omega
                  have hk2 : (k : Int) ≤ (k : Int) + 1 := by omega
                  go_wp2_with fail
                  have q0 := Q.alloc wi (.cells #[.int .i64 d1, .slice av ps2.length cv] 74)
                  have Q0 := Lib.hid q0
                  generalize hwj : wi.alloc (.cells #[.int .i64 d1, .slice av ps2.length cv] 74) = wj at *
                  have k0 : wj.cell? ⟨wi.heap.size, 0, none⟩ = some (.int .i64 d1) := by rw [← hwj]; exact (Blk.new wi _ _).cell 0 _ rfl
                  have k1 : wj.cell? ⟨wi.heap.size, 1, none⟩ = some (.slice av ps2.length cv) := by rw [← hwj]; exact (Blk.new wi _ _).cell 1 _ rfl
                  have hp1 := Posts.one wj d1 _ ps2 (HII.out.stays q0)
                  have ql := Q.alloc wj (.cells #[.int .i64 d1, .slice av ps2.length cv] 74)
                  have cs := fun W q => samePosts14_any _ _ _ _ W (hp1.stays q) (((HPK.out.stays q0).stays ql).stays q) (by simp) (by simp) (by simp; omega) (by simp; omega)
                  rw [decide_eq_true (by simp [postOf])] at cs
                  have CSP := Lib.hid cs; have QL := Lib.hid ql
                  clear hwj q0 hp1 ql cs
                  have hk0 : (0 : Int) ≤ (k : Int) + 1 := by omega
                  have hw1 : IntKind.i64.wrap ((k : Int) + 1) = (k : Int) + 1 := IntWalk.i64_in _ (by omega)
                  have hn1 : ((k : Int) + 1).toNat = k + 1 := by omega
                  have hn2 : ¬ cap1 = k := by omega
                  have hn3 : k + 1 - k = 1 := by omega
                  have hn4 : k ≤ k + 1 := by omega
                  go_region_law
                    (go_simp; go_at_call 39; refine (CSP.out _ (by first | exact Q.refl _ | exact Q.drew _)).mono ?_; rintro e w13 ⟨rfl, q13⟩)
                  all_goals
                    have HQ13 := Lib.hid (((HQI.out.trans Q0.out).trans QL.out).trans ((Q.drew _).trans q13))
                    clear q13
                    go_wp2_with fail
                    go_roundw
                    case rel => exact ⟨k + 1, by omega, by go_num, HQ13.out⟩
                    case measure => simp [intOf]; omega
                · have hke : k = rs1.length := by omega
                  subst hke
                  have HQO := Lib.hid (HQ12.out.trans HQI.out)
                  go_wp2_with fail
                  go_roundw
                  case rel => exact ⟨n + 1, by omega, by go_num, HQO.out⟩
                  case measure => simp [intOf]; omega
            · have hne : n = ts.length := by omega
              subst hne
              have HQF := Lib.hid (HQ10.out.trans HQW.out)
              go_wp2_with fail
              go_ret
              exact ⟨rfl, HQF.out⟩
end Go.Proofs.YtplkkmmmmilceaaGreatDoor
