/- codexlaw14.SegmentLists: walked: true. -/
import Derived.Test.YtplkkmmmmilceaaGreatDoorMOpen0ToWCuts
import Derived.Test.YtplkkmmmmilceaaGreatDoorHTurns14
import Derived.Test.YtplkkmmmmilceaaGreatDoorHAppSl
set_option linter.unusedSimpArgs false
set_option linter.unusedVariables false
set_option linter.unnecessarySimpa false
namespace Go.Proofs.YtplkkmmmmilceaaGreatDoor
open Go.RowKit
set_option linter.unusedVariables false

set_option maxRecDepth 100000 in
set_option maxHeartbeats 8000000 in
theorem Lists_walk (v : Value) (l : List DocL) (w : World) (hv : Docs w v l) (hlw : l.length ≤ 9223372036854775807 ∧ ∀ d ∈ l, d.1.length ≤ 9223372036854775807 ∧ d.2.length ≤ 9223372036854775807) (hT : Tabs w) (hSp : Spans w) :
    Calls Tryz.prog 10 #[v] w fun e w' => e = .returned (.bool true) ∧ Q w w' := by
  obtain ⟨id, hid', hiz0, hiz1, hiz2⟩ := info_parts tinfo52
  have csh := Shown14 w hT hSp
  have csm := fun W (q : Q w W) => small14_any v l W (hv.stays q) hlw.1 hlw.2
  have cb := fun W v2 (q : Q w W) (hd : Docs W v2 l) => Build_any v2 l W hd hlw.1 hlw.2 (hT.stays q) (hSp.stays q)
  obtain ⟨a, cap, rfl, _⟩ := hv.value
  have CSH := Lib.hid csh; have CSM := Lib.hid csm; have CB := Lib.hid cb; have HT := Lib.hid hT; have HSP := Lib.hid hSp; have HV := Lib.hid hv
  clear csh csm cb hT hSp hv
  go_enter Tryz.func10, Tryz.ntmps10
  go_wp2_with fail
  refine CSH.out.mono ?_
  rintro e w1 ⟨rfl, q1⟩
  have HQ1 := Lib.hid q1
  clear q1
  go_wp2_with fail
  refine (CSM.out _ HQ1.out).mono ?_
  rintro e w2 ⟨rfl, q2⟩
  have HQ2 := Lib.hid (HQ1.out.trans q2)
  clear q2 HQ1
  cases hs : small4 l with
  | false =>
    go_wp2_with fail
    go_ret
    exact ⟨rfl, HQ2.out⟩
  | true =>
    have hl40 : l.length ≤ 40 := by
      unfold small4 at hs
      simp only [Bool.and_eq_true, decide_eq_true_eq] at hs
      exact hs.1
    clear hs
    have hq3 := Q.alloc w2 (.cells #[] 52)
    have ho3 : (w2.alloc (.cells #[] 52)).ownsRow w2.heap.size 52 2 (.slice (some ⟨w2.heap.size, 0, none⟩) 0 0) 0 [] := ⟨rfl, .inr ⟨w2.heap.size, 0, #[], rfl, Nat.le_refl _, heap_alloc_new _ _, Nat.le_refl _, by decide, rfl, rfl⟩⟩
    have hvl := (HV.out.stays HQ2.out).stays hq3
    have hone : ∀ u ∈ docVs l, u.oneCell' = true := docVs_one l
    have h63 : 0 + l.length ≤ maxLen := by unfold maxLen; omega
    have hbytes : (0 + l.length) * 32 ≤ 140737488355328 := by omega
    have hbase : w2.heap.size ≤ (w2.alloc (.cells #[] 52)).heap.size := by simp
    have HO3 := Lib.hid ho3; have HVL := Lib.hid hvl; have HONE := Lib.hid hone; have HQ3 := Lib.hid (HQ2.out.trans hq3)
    clear hq3 ho3 hvl hone
    go_wp2_with (at_builtin; go_must (refine wpList_append_sl (w2.alloc (.cells #[] 52)) (by rfl) _ _ 37 (by rfl) w2.heap.size 52 id (.agg #[strV [], strV []]) 2 32 Tryz.underlying37 hid' hiz0 hiz1 hiz2 rfl (by decide) _ _ _ (by rfl) HO3.out _ _ _ (by rfl) HVL.out HONE.out h63 hbytes hbase ?_))
    intro v4 w4 ho4 hg4 hat4
    try rw [Nat.zero_add] at ho4
    try rw [List.nil_append] at ho4
    have q4 : Q w w4 := HQ3.out.grown hg4 (Nat.le_trans HQ2.out.size hbase) (fun k hk => by simp [Value.ownBlock] at hk; have := HQ2.out.size; omega)
    have hd4 : Docs w4 v4 l := Sl.of_owns ho4
    have HQ4 := Lib.hid q4; have HD4 := Lib.hid hd4
    have HV4 := Lib.hid (HV.out.stays q4)
    clear ho4 hg4 hat4 q4 hd4 HO3 HVL HONE HQ3 HQ2 h63 hbytes hbase
    by_cases h : l.length < 1 ∨ 500 < l.length
    · have hb : buildS l = ([], 6) := by unfold buildS; rw [if_pos h]
      rw [hb] at CB
      clear hb h
      go_wp2_with fail
      refine (CB.out _ _ HQ4.out HD4.out).mono ?_
      rintro e w5 ⟨rfl, q5⟩
      have cs := sameDocs14_any _ _ l l w5 (HD4.out.stays q5) (HV4.out.stays q5) (by omega) (by omega)
      rw [decide_eq_true rfl] at cs
      have CS := Lib.hid cs
      have HQ5 := Lib.hid (HQ4.out.trans q5)
      clear q5 cs
      go_wp2_with fail
      refine CS.out.mono ?_
      rintro e w6 ⟨rfl, q6⟩
      have HQ6 := Lib.hid (HQ5.out.trans q6)
      clear q6
      go_wp2_with fail
      go_ret
      exact ⟨rfl, HQ6.out⟩
    · by_cases hok : docsOk l
      · have hb : buildS l = (segE l (idxS l), 0) := by unfold buildS; rw [if_neg h, if_pos hok]
        have co := fun W (q : Q w W) => Open_ok l W h hok (HT.out.stays q) (HSP.out.stays q)
        rw [hb] at CB
        generalize hsg : segE l (idxS l) = sg at *
        have CO := Lib.hid co; have HOK := Lib.hid hok
        have hl1 : 1 ≤ l.length := by omega
        clear hb co hok hsg h
        go_wp2_with fail
        refine (CB.out _ _ HQ4.out HD4.out).mono ?_
        rintro e w5 ⟨rfl, q5⟩
        have HQ5 := Lib.hid (HQ4.out.trans q5)
        clear q5 CB HV4 HD4 HQ4
        go_wp2_with fail
        refine (CO.out _ HQ5.out).mono ?_
        rintro e w6 ⟨⟨p1, rfl, hs1⟩, q6⟩
        have HG6 := Lib.hid hs1; have HQ6 := Lib.hid (HQ5.out.trans q6)
        clear q6 hs1 CO HQ5
        have hall : (termsL l).filter (fun t => ([] : Bytes).isPrefixOf t) = termsL l := by
          rw [List.filter_eq_self]; intro t _; rfl
        have ct1 := fun W g => SegTerms_any p1 l [] W g (by omega) HOK.out (by decide)
        rw [hall] at ct1
        have cdo := fun W g => SegDocs_any p1 l (idxS l) W g (by omega)
        have hpl := fun t => posts_small _ (docs_posts (by omega) HOK.out t)
        have ctd := fun t W g => Told_any p1 l t 0 W g (by omega) HOK.out
        simp only [fromP_zero] at ctd
        have htl2 : (termsL l).length ≤ 1000000 := termsL_len l (by omega) (fun d hd => (rightB_len (HOK.out.1 d hd)).2)
        have hne := fun t (ht : t ∈ termsL l) => (show [] < t ∧ postsF t l 0 ≠ [] from ⟨(termsL_term l t ht).1, (mem_termsL_posts l t).1 ht⟩)
        generalize hT : termsL l = ts at *
        have CT := Lib.hid ct1; have CDO := Lib.hid cdo; have HPL := Lib.hid hpl; have CTD := Lib.hid ctd; have HNE := Lib.hid hne
        clear hall ct1 cdo hpl ctd hne hT
        go_wp2_with fail
        refine (CDO.out _ HG6.out).mono ?_
        rintro e w7 ⟨v7, rfl, ho7, q7⟩
        have HG7 := Lib.hid (HG6.out.stays q7); have HO7 := Lib.hid ho7; have HR7 := Lib.hid q7
        clear q7 ho7
        go_wp2_with fail
        refine (CT.out _ HG7.out).mono ?_
        rintro e w8 ⟨v8, rfl, ho8, q8⟩
        have HO78 := Lib.hid (ownsRow_below HO7.out q8); have HO8 := Lib.hid ho8; have HR8 := Lib.hid (HR7.out.trans q8)
        have hsz7 : w6.heap.size ≤ w7.heap.size := HR7.out.size
        obtain ⟨da, dcap, rfl, hdg⟩ := owns_value HO7.out
        obtain ⟨gd, rfl⟩ := hdg hl1
        have hgd7 : gd < w7.heap.size := by
          obtain ⟨cs, hcs⟩ := owns_kind HO7.out gd rfl
          exact (Array.getElem?_eq_some_iff.1 hcs).1
        clear q8 ho8 HG7 HR7 HO7
        have hgd : w6.heap.size ≤ gd := by
          rcases HO78.out.2 with ⟨h, _⟩ | ⟨g, c, cur, h, hb, _⟩
          · cases h
          · cases h; exact hb
        obtain ⟨ta, tcap, rfl, htg⟩ := owns_value HO8.out
        go_wp2_with fail
        go_loopw [12] (fun i wr => ∃ (k : Nat) (xs : List Value), k ≤ l.length ∧ i = .int .i64 (k : Nat) ∧ Hid (wr.ownsRow w6.heap.size 52 2 (.slice (some ⟨gd, 0, none⟩) l.length dcap) l.length xs) ∧ Hid (wr.ownsRow w7.heap.size 9 1 (.slice ta ts.length tcap) ts.length (ts.map strV)) ∧ Hid (Q w6 wr)) (fun i _ => l.length - (intOf i).toNat)
        case atStart => exact ⟨0, _, by omega, rfl, HO78, HO8, HR8⟩
        case round =>
          obtain ⟨k, xs, hk, rfl, HX, HTR, HQ⟩ := hrel
          obtain ⟨wo, rfl⟩ : ∃ wo : World, wo = wr := ⟨_, rfl⟩
          by_cases hlt : k < l.length
          · have hki : (k : Int) < (l.length : Int) := by omega
            have hk0 : (0 : Int) ≤ (k : Int) := by omega
            have hf0 : wo.frozen? ⟨gd, k * 2, none⟩ = false := HX.out.frozenAt _
            have hf1 : wo.frozen? ⟨gd, k * 2 + 1, none⟩ = false := HX.out.frozenAt _
            have hxl := HX.out.1
            obtain ⟨u0, hc0⟩ : ∃ u, wo.cell? ⟨gd, k * 2, none⟩ = some u := by
              rw [HX.out.cellAt _ (by omega), List.getElem?_eq_getElem (by omega)]; exact ⟨_, rfl⟩
            obtain ⟨u1, hc1⟩ : ∃ u, wo.cell? ⟨gd, k * 2 + 1, none⟩ = some u := by
              rw [HX.out.cellAt _ (by omega), List.getElem?_eq_getElem (by omega)]; exact ⟨_, rfl⟩
            have hs0 := (HX.out.stored (k * 2) (strV [])).1
            have hs1 := (hs0.stored (k * 2 + 1) (strV [])).1
            have hn0 : (Value.slice ta ts.length tcap).ownBlock ≠ some gd := fun e => by
              rcases HTR.out.2 with ⟨h, _⟩ | ⟨g, c, cur, h, hb, _⟩
              · rw [h] at e; simp [Value.ownBlock] at e
              · rw [h] at e; simp [Value.ownBlock] at e; omega
            have ht0 := ownsRow_setCell_other HTR.out (a := ⟨gd, k * 2, none⟩) hn0 (strV [])
            have ht1 := ownsRow_setCell_other ht0 (a := ⟨gd, k * 2 + 1, none⟩) hn0 (strV [])
            have hqs := (HQ.out.setCell (a := ⟨gd, k * 2, none⟩) hgd (strV [])).setCell (a := ⟨gd, k * 2 + 1, none⟩) hgd (strV [])
            have HS1 := Lib.hid hs1; have HT1 := Lib.hid ht1; have HQS := Lib.hid hqs
            clear hs0 hs1 ht0 ht1 hqs hn0 hxl
            go_wp2_with fail
            go_roundw
            case rel => exact ⟨k + 1, _, by omega, by go_num, HS1, HT1, HQS⟩
            case measure => simp [intOf]; omega
          · have hkk : k = l.length := by omega
            subst hkk
            clear HX HO8 HR8 HO78 hk hlt
            go_wp2_with fail
            go_loopw [13] (fun i wr => ∃ n : Nat, n ≤ ts.length ∧ i = .int .i64 (n : Nat) ∧ Hid (wr.ownsRow w7.heap.size 9 1 (.slice ta ts.length tcap) ts.length ((List.replicate n [] ++ ts.drop n).map strV)) ∧ Hid (Q w6 wr)) (fun i _ => ts.length - (intOf i).toNat)
            case atStart => exact ⟨0, by omega, rfl, HTR, HQ⟩
            case round =>
              clear HTR HQ
              obtain ⟨n, hn, rfl, HTR, HQ⟩ := hrel
              obtain ⟨wo2, rfl⟩ : ∃ wo : World, wo = wr := ⟨_, rfl⟩
              by_cases hlt : n < ts.length
              · obtain ⟨gt, rfl⟩ := htg (by omega)
                have hni : (n : Int) < (ts.length : Int) := by omega
                have hn0 : (0 : Int) ≤ (n : Int) := by omega
                have htx : ((List.replicate n [] ++ ts.drop n).map strV)[n]? = some (strV ts[n]) := by
                  rw [List.getElem?_map, List.getElem?_append_right (by simp), List.length_replicate, Nat.sub_self, List.getElem?_drop, Nat.add_zero, List.getElem?_eq_getElem hlt]; rfl
                have htc : wo2.cell? ⟨gt, n, none⟩ = some (strV ts[n]) := by rw [HTR.out.cellAt _ (by omega)]; exact htx
                obtain ⟨hte, htp⟩ := HNE.out ts[n] (List.getElem_mem hlt)
                have hset : ((List.replicate n [] ++ ts.drop n).map strV).set n (strV []) = (List.replicate (n + 1) [] ++ ts.drop (n + 1)).map strV := by
                  rw [← List.map_set, List.set_append_right _ _ (by simp), List.length_replicate, Nat.sub_self, List.drop_eq_getElem_cons hlt, List.set_cons_zero, List.replicate_succ', List.append_assoc]; rfl
                generalize ts[n] = t at *
                have ctd := fun W g => CTD.out t W g
                have hps := HPL.out t
                generalize hxs : postsF t l 0 = xs at *
                have HSET := Lib.hid hset; have HPS := Lib.hid hps; have CTT := Lib.hid ctd; have HTP := Lib.hid htp; have HTX := Lib.hid htx
                clear hset hps ctd htp hxs htx
                go_wp2_with fail
                refine (CTT.out _ (HG6.out.stays HQ.out)).mono ?_
                rintro e w9 ⟨v9, rfl, ⟨rs, hrs, hro, hri⟩, q9⟩
                obtain ⟨pa, pcap, rfl, hpg⟩ := owns_value hro
                have hrl : rs.length = xs.length := by rw [← hrs, List.length_map]
                have hl0 : 0 < rs.length := by rw [hrl]; exact List.length_pos_iff.2 HTP.out
                obtain ⟨gp, rfl⟩ := hpg hl0
                have hl500 : rs.length ≤ 500 := by rw [hrl]; exact HPS.out.1
                have hps2 : ∀ r ∈ rs, 0 < r.2.2.length ∧ r.2.2.length ≤ 2000 := fun r hr => by
                  have := HPS.out.2.1 (postOf r) (by rw [← hrs]; exact List.mem_map.2 ⟨r, hr, rfl⟩)
                  exact ⟨List.length_pos_iff.2 this.2.1, this.1⟩
                have HT9 := Lib.hid (ownsRow_below HTR.out q9); have HQ9 := Lib.hid (HQ.out.trans q9); have HRO := Lib.hid hro
                have HRI := Lib.hid (show ∀ r ∈ rs, ∃ ys, w9.ownsRow wo2.heap.size 3 1 r.2.1 r.2.2.length ys from fun r hr => ⟨_, hri r hr⟩)
                have hw62 : w6.heap.size ≤ wo2.heap.size := HQ.out.size
                have HRL := Lib.hid hrl; have HP2 := Lib.hid hps2
                clear q9 hro hri HTR HQ hrs hrl hps2
                go_wp2_with fail
                go_loopw [15] (fun i wr => ∃ k : Nat, k ≤ rs.length ∧ i = .int .i64 (k : Nat) ∧ Hid (wr.ownsRow wo2.heap.size 74 2 (.slice (some ⟨gp, 0, none⟩) rs.length pcap) rs.length (postVs rs)) ∧ Hid (∀ r ∈ rs, ∃ ys, wr.ownsRow wo2.heap.size 3 1 r.2.1 r.2.2.length ys) ∧ Hid (wr.ownsRow w7.heap.size 9 1 (.slice (some ⟨gt, 0, none⟩) ts.length tcap) ts.length ((List.replicate n [] ++ ts.drop n).map strV)) ∧ Hid (Q w6 wr)) (fun i _ => rs.length - (intOf i).toNat)
                case atStart => exact ⟨0, by omega, rfl, HRO, HRI, HT9, HQ9⟩
                case round =>
                  clear HRO HRI HT9 HQ9
                  obtain ⟨k, hk, rfl, HRO, HRI, HTR, HQ⟩ := hrel
                  obtain ⟨wi, rfl⟩ : ∃ wo : World, wo = wr := ⟨_, rfl⟩
                  by_cases hlk : k < rs.length
                  · have hki : (k : Int) < (rs.length : Int) := by omega
                    have hk0 : (0 : Int) ≤ (k : Int) := by omega
                    obtain ⟨_, hpc⟩ := postVs_at rs k hlk
                    have hcp : wi.cell? ⟨gp, k * 2 + 1, none⟩ = some rs[k].2.1 := by rw [HRO.out.cellAt _ (by omega)]; exact hpc
                    obtain ⟨ys, hys⟩ := HRI.out rs[k] (List.getElem_mem hlk)
                    obtain ⟨hp0, hp1⟩ := HP2.out rs[k] (List.getElem_mem hlk)
                    generalize rs[k] = r at *
                    obtain ⟨d1, v1, ps1⟩ := r
                    simp only at hcp hys hp0 hp1
                    obtain ⟨ia, icap, rfl, hig⟩ := owns_value hys
                    obtain ⟨gi, rfl⟩ := hig hp0
                    have hfz : wi.frozen? ⟨gi, 0, none⟩ = false := hys.frozenAt _
                    obtain ⟨u0, hc0⟩ : ∃ u, wi.cell? ⟨gi, 0, none⟩ = some u := by
                      rw [hys.cellAt _ (by omega), List.getElem?_eq_getElem (by rw [hys.1]; omega)]; exact ⟨_, rfl⟩
                    have hpi : (0 : Int) < (ps1.length : Int) := by omega
                    have hgi : w6.heap.size ≤ gi := by
                      rcases hys.2 with ⟨h, _⟩ | ⟨g, c, cur, h, hb, _⟩
                      · cases h
                      · cases h; omega
                    have hr1 := ownsRow_setCell_other HRO.out (a := ⟨gi, 0, none⟩) (rows_apart HRO.out hys (by decide) rfl) (.int .i64 (-1))
                    have ht1 := ownsRow_setCell_other HTR.out (a := ⟨gi, 0, none⟩) (rows_apart HTR.out hys (by decide) rfl) (.int .i64 (-1))
                    have hi1 : ∀ r ∈ rs, ∃ ys, (wi.setCell ⟨gi, 0, none⟩ (.int .i64 (-1))).ownsRow wo2.heap.size 3 1 r.2.1 r.2.2.length ys := fun r hr => by
                      obtain ⟨zs, hzs⟩ := HRI.out r hr
                      by_cases he : r.2.1.ownBlock = some gi
                      · obtain ⟨ja, jcap, hj, hjg⟩ := owns_value hzs
                        obtain ⟨gj, rfl⟩ := hjg (HP2.out r hr).1
                        rw [hj] at he hzs ⊢
                        simp only [Value.ownBlock, Option.some.injEq] at he
                        subst he
                        exact ⟨_, (hzs.stored 0 _).1⟩
                      · exact ⟨zs, ownsRow_setCell_other hzs he _⟩
                    have hq1 := HQ.out.setCell (a := ⟨gi, 0, none⟩) hgi (.int .i64 (-1))
                    have HR1 := Lib.hid hr1; have HT1 := Lib.hid ht1; have HI1 := Lib.hid hi1; have HQ1 := Lib.hid hq1
                    clear hr1 ht1 hi1 hq1 hys hpc
                    go_wp2_with fail
                    go_roundw
                    case rel => exact ⟨k + 1, by omega, by go_num, HR1, HI1, HT1, HQ1⟩
                    case measure => simp [intOf]; omega
                  · have hkk : k = rs.length := by omega
                    subst hkk
                    have hl0i : (0 : Int) < (rs.length : Int) := by omega
                    clear HRO HRI HP2
                    have htci : wi.cell? ⟨gt, n, none⟩ = some (strV t) := by rw [HTR.out.cellAt _ (by omega)]; exact HTX.out
                    go_wp2_with fail
                    refine (CTT.out _ (HG6.out.stays HQ.out)).mono ?_
                    rintro e w10 ⟨v10, rfl, ⟨rs2, hrs2, hro2, hri2⟩, q10⟩
                    obtain ⟨qa, qcap, rfl, hqg⟩ := owns_value hro2
                    have hrl2 : rs2.length = rs.length := by rw [HRL.out, ← hrs2, List.length_map]
                    rw [hrl2] at hqg hro2 ⊢
                    obtain ⟨gq, rfl⟩ := hqg hl0
                    obtain ⟨_, hpc⟩ := postVs_at rs2 0 (by omega)
                    have hcp : w10.cell? ⟨gq, 1, none⟩ = some rs2[0].2.1 := by rw [hro2.cellAt _ (by omega)]; exact hpc
                    have hys := hri2 rs2[0] (List.getElem_mem (by omega))
                    have hpp := HPS.out.2.1 (postOf rs2[0]) (by rw [← hrs2]; exact List.mem_map.2 ⟨_, List.getElem_mem (by omega), rfl⟩)
                    generalize rs2[0] = r at *
                    obtain ⟨d1, v1, ps1⟩ := r
                    obtain ⟨_, hp0, _, _, hris⟩ := hpp
                    simp only [postOf] at hcp hys hp0 hris
                    obtain ⟨x0, pr, rfl⟩ := List.exists_cons_of_ne_nil hp0
                    obtain ⟨ia, icap, rfl, hig⟩ := owns_value hys
                    obtain ⟨gi, rfl⟩ := hig (by simp)
                    have hx0 : (0 : Int) ≤ x0 := by
                      simp only [risingI, Bool.and_eq_true, decide_eq_true_eq] at hris
                      omega
                    have hc0 : w10.cell? ⟨gi, 0, none⟩ = some (.int .i64 x0) := by
                      rw [hys.cellAt _ (by simp)]; rfl
                    have hplen : (0 : Int) < (((x0 :: pr).length : Nat) : Int) := by simp only [List.length_cons]; omega
                    have htr := ownsRow_below HTR.out q10
                    have hq10 := HQ.out.trans q10
                    have hfz : w10.frozen? ⟨gt, n, none⟩ = false := htr.frozenAt _
                    obtain ⟨u0, hcu⟩ : ∃ u, w10.cell? ⟨gt, n, none⟩ = some u := by
                      rw [htr.cellAt _ (by omega), List.getElem?_eq_getElem (by rw [htr.1]; omega)]; exact ⟨_, rfl⟩
                    have hst := (htr.stored n (strV [])).1
                    rw [HSET.out] at hst
                    have hgt : w6.heap.size ≤ gt := by
                      rcases htr.2 with ⟨h, _⟩ | ⟨g, c, cur, h, hb, _⟩
                      · cases h
                      · cases h; omega
                    have hqs := hq10.setCell (a := ⟨gt, n, none⟩) hgt (strV [])
                    have HST := Lib.hid hst; have HQS := Lib.hid hqs
                    clear hst hqs htr hq10 q10 hys hpc hri2 hro2 HTR HQ hris
                    generalize (x0 :: pr).length = pn at *
                    go_wp2_with fail
                    go_roundw
                    case rel => exact ⟨n + 1, by omega, by go_num, HST, HQS⟩
                    case measure => simp [intOf]; omega
              · have hkk : n = ts.length := by omega
                subst hkk
                clear HTR htg
                go_wp2_with fail
                refine (CT.out _ (HG6.out.stays HQ.out)).mono ?_
                rintro e w9 ⟨v9, rfl, ho9, q9⟩
                obtain ⟨sa, scap, rfl, _⟩ := owns_value ho9
                have HS9 := Lib.hid (show Strs w9 (.slice sa ts.length scap) ts from by have := Sl.of_owns ho9; exact this)
                have HQ9 := Lib.hid (HQ.out.trans q9)
                clear ho9 q9 HQ CT
                go_wp2_with fail
                refine (CDO.out _ (HG6.out.stays HQ9.out)).mono ?_
                rintro e w10 ⟨v10, rfl, ho10, q10⟩
                have HQ10 := Lib.hid (HQ9.out.trans q10)
                have HS10 := Lib.hid (HS9.out.stays q10)
                have hv10 := HV.out.stays (HQ6.out.trans HQ10.out)
                have cs := sameDocs14_any _ _ l l w10 (Sl.of_owns ho10) hv10 (by omega) (by omega)
                rw [decide_eq_true rfl] at cs
                have CS := Lib.hid cs
                clear ho10 q10 hv10 cs HQ9 HS9 CDO
                go_wp2_with fail
                refine CS.out.mono ?_
                rintro e w11 ⟨rfl, q11⟩
                have HQ11 := Lib.hid (HQ6.out.trans (HQ10.out.trans q11))
                have hs11 := HS10.out.stays q11
                clear q11 CS HQ10 HS10
                cases ts with
                | nil =>
                  simp only [List.length_nil]
                  go_wp2_with fail
                  go_ret
                  exact ⟨rfl, HQ11.out⟩
                | cons t0 tr =>
                  obtain ⟨aa, cc, hvv, hcc⟩ := hs11.value
                  cases hvv
                  obtain ⟨bq, oq, rfl, hcq⟩ := hcc (by simp)
                  have h0 := hcq 0 (by simp)
                  simp only [Nat.add_zero, List.getElem_cons_zero] at h0
                  have hn0 := (HNE.out t0 (by simp)).1
                  have hlp : (0 : Int) < (((t0 :: tr).length : Nat) : Int) := by simp only [List.length_cons]; omega
                  clear hcq hcc hs11
                  generalize (t0 :: tr).length = tn at *
                  cases t0 with
                  | nil => exact absurd hn0 (by simp)
                  | cons c cr =>
                    clear hn0
                    go_wp2_with fail
                    go_ret
                    exact ⟨rfl, HQ11.out⟩
      · have hb : buildS l = ([], 1) := by unfold buildS; rw [if_neg h, if_neg hok]
        rw [hb] at CB
        clear hb h hok
        go_wp2_with fail
        refine (CB.out _ _ HQ4.out HD4.out).mono ?_
        rintro e w5 ⟨rfl, q5⟩
        have cs := sameDocs14_any _ _ l l w5 (HD4.out.stays q5) (HV4.out.stays q5) (by omega) (by omega)
        rw [decide_eq_true rfl] at cs
        have CS := Lib.hid cs
        have HQ5 := Lib.hid (HQ4.out.trans q5)
        clear q5 cs
        go_wp2_with fail
        refine CS.out.mono ?_
        rintro e w6 ⟨rfl, q6⟩
        have HQ6 := Lib.hid (HQ5.out.trans q6)
        clear q6
        go_wp2_with fail
        go_ret
        exact ⟨rfl, HQ6.out⟩
end Go.Proofs.YtplkkmmmmilceaaGreatDoor
