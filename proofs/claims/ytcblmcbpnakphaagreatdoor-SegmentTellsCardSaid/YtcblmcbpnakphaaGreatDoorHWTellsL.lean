/- codexlaw14.SegmentTells: walked. -/
import Derived.Test.YtcblmcbpnakphaaGreatDoorMShown14ToWShown14
import Derived.Test.YtcblmcbpnakphaaGreatDoorHWFind14
import Derived.Test.YtcblmcbpnakphaaGreatDoorMWSegPToWOpenS
import Derived.BigQuiet
set_option linter.unusedSimpArgs false
set_option linter.unusedVariables false
set_option linter.unnecessarySimpa false
namespace Go.Proofs.YtcblmcbpnakphaaGreatDoor
open Go.RowKit
set_option linter.unusedVariables false

theorem prefix_dec (p t : Bytes) : p.isPrefixOf t = (decide (p.length ≤ t.length) && decide (t.take p.length = p)) := by
  by_cases h : p <+: t
  · rw [List.isPrefixOf_iff_prefix.2 h, decide_eq_true h.length_le, decide_eq_true (List.prefix_iff_eq_take.1 h).symm]; rfl
  · have h1 : p.isPrefixOf t = false := by
      cases hp : p.isPrefixOf t with
      | false => rfl
      | true => exact absurd (List.isPrefixOf_iff_prefix.1 hp) h
    rw [h1]
    by_cases h2 : t.take p.length = p
    · exact absurd (List.prefix_iff_eq_take.2 h2.symm) h
    · rw [decide_eq_false h2]; simp
theorem postsRight_mono (a b : Int) (l : List PostL) (h : postsRight b l = true) (hab : a ≤ b) : postsRight a l = true := by
  cases l with
  | nil => rfl
  | cons p l =>
    simp only [postsRight, Bool.and_eq_true, decide_eq_true_eq] at h ⊢
    obtain ⟨⟨⟨⟨h1, h2⟩, h3⟩, h4⟩, h5⟩ := h
    exact ⟨⟨⟨⟨by omega, h2⟩, h3⟩, h4⟩, h5⟩
theorem postsRight_fromA (a : Int) (l : List PostL) (d : Int) (h : postsRight a l = true) : postsRight a (fromP l d) = true := by
  induction l generalizing a with
  | nil => rfl
  | cons p l ih =>
    have h0 := h
    simp only [postsRight, Bool.and_eq_true, decide_eq_true_eq] at h
    obtain ⟨⟨⟨⟨h1, h2⟩, h3⟩, h4⟩, h5⟩ := h
    unfold fromP
    rw [List.filter_cons]
    split
    · simp only [postsRight, Bool.and_eq_true, decide_eq_true_eq]
      exact ⟨⟨⟨⟨h1, h2⟩, h3⟩, h4⟩, ih p.1 h5⟩
    · exact ih a (postsRight_mono a p.1 l h5 (by omega))
theorem postsRight_from (l : List PostL) (d : Int) (h : postsRight (-1) l = true) : postsRight (-1) (fromP l d) = true := postsRight_fromA _ l d h
set_option maxRecDepth 100000 in
set_option maxHeartbeats 8000000 in
theorem TellsL_walk (v : Value) (l : List DocL) (id tm0 : Bytes) (fr at_ : Int) (w : World) (hv : Docs w v l) (hlw : l.length ≤ 9223372036854775807 ∧ ∀ d ∈ l, d.1.length ≤ 9223372036854775807 ∧ d.2.length ≤ 9223372036854775807)
    (hid : id.length ≤ 9223372036854775807) (htm : tm0.length ≤ 9223372036854775807) (hf0 : -9223372036854775808 ≤ fr) (hf1 : fr ≤ 9223372036854775807) (ha0 : -9223372036854775808 ≤ at_) (ha1 : at_ ≤ 9223372036854775807) (hT : Tabs w) (hSp : Spans w) :
    Calls Tryz.prog 6 #[v, strV id, strV tm0, .int .i64 fr, .int .i64 at_] w fun e w' => e = .returned (.bool true) ∧ Q w w' := by
  have csh := Shown14 w hT hSp
  have csm := fun W (q : Q w W) => small14_any v l W (hv.stays q) hlw.1 hlw.2
  have cb := fun W (q : Q w W) => Build_any v l W (hv.stays q) hlw.1 hlw.2 (hT.stays q) (hSp.stays q)
  have hv0 := hv
  obtain ⟨a, cap, rfl, hcell⟩ := hv.value
  have hmx : Tryz.prog.follows .mixedOrders = true := by kernel_rfl
  have CSH := Lib.hid csh; have CSM := Lib.hid csm; have CB := Lib.hid cb; have HT := Lib.hid hT; have HSP := Lib.hid hSp; have HC := Lib.hid hcell; have HV := Lib.hid hv0
  clear csh csm cb hcell hT hSp hv hv0
  by_cases hlong : 200 < id.length ∨ 200 < tm0.length
  · by_cases hs : small4 l = true ∧ 200 < id.length
    · obtain ⟨hs1, hs2⟩ := hs
      have HS1 := Lib.hid hs1
      clear hlong hs1
      go_enter Tryz.func6, Tryz.ntmps6
      go_wp2_with fail
      refine CSH.out.mono ?_
      rintro e w1 ⟨rfl, q1⟩
      have HQ1 := Lib.hid q1
      clear q1
      go_wp2_with fail
      refine (CSM.out _ HQ1.out).mono ?_
      rw [HS1.out]
      rintro e w2 ⟨rfl, q2⟩
      have HQ2 := Lib.hid (HQ1.out.trans q2)
      clear q2 HQ1
      go_wp2_with fail
      go_ret
      exact ⟨rfl, HQ2.out⟩
    · have hs2 : small4 l = false ∨ (small4 l = true ∧ id.length ≤ 200 ∧ 200 < tm0.length) := by
        cases hsm : small4 l with
        | false => exact .inl rfl
        | true => exact .inr ⟨rfl, by by_cases h : 200 < id.length; exact absurd ⟨hsm, h⟩ hs; omega, by rcases hlong with h | h; exact absurd ⟨hsm, h⟩ hs; exact h⟩
      clear hs hlong
      rcases hs2 with hs | ⟨hs, h1, h2⟩
      all_goals
        have HS1 := Lib.hid hs
        clear hs
        go_enter Tryz.func6, Tryz.ntmps6
        go_wp2_with fail
        refine CSH.out.mono ?_
        rintro e w1 ⟨rfl, q1⟩
        have HQ1 := Lib.hid q1
        clear q1
        go_wp2_with fail
        refine (CSM.out _ HQ1.out).mono ?_
        rw [HS1.out]
        rintro e w2 ⟨rfl, q2⟩
        have HQ2 := Lib.hid (HQ1.out.trans q2)
        clear q2 HQ1
        go_wp2_with fail
        go_ret
        exact ⟨rfl, HQ2.out⟩
  · have hid2 : id.length ≤ 200 := by omega
    have htm2 : tm0.length ≤ 200 := by omega
    clear hlong
    go_enter Tryz.func6, Tryz.ntmps6
    go_wp2_with fail
    refine CSH.out.mono ?_
    rintro e w1 ⟨rfl, q1⟩
    have HQ1 := Lib.hid q1
    clear q1
    go_wp2_with fail
    refine (CSM.out _ HQ1.out).mono ?_
    rintro e w2 ⟨rfl, q2⟩
    have HQ2 := Lib.hid (HQ1.out.trans q2)
    clear q2 HQ1
    cases hs : small4 l with
    | false =>
      go_wp2_with fail
      go_ret
      exact ⟨rfl, HQ2.out⟩
    | true =>
      have hl40 : l.length ≤ 40 := by
        unfold small4 at hs
        simp only [Bool.and_eq_true, decide_eq_true_eq] at hs
        exact hs.1
      clear hs
      by_cases h : l.length < 1 ∨ 500 < l.length
      · have hb : buildS l = ([], 6) := by unfold buildS; rw [if_pos h]
        rw [hb] at CB
        clear hb h
        go_wp2_with fail
        refine (CB.out _ HQ2.out).mono ?_
        rintro e w3 ⟨rfl, q3⟩
        have HQ3 := Lib.hid (HQ2.out.trans q3)
        clear q3
        go_wp2_with fail
        go_ret
        exact ⟨rfl, HQ3.out⟩
      · by_cases hok : docsOk l
        · have hb : buildS l = (segE l (idxS l), 0) := by unfold buildS; rw [if_neg h, if_pos hok]
          have co := fun W (q : Q w W) => Open_ok l W h hok (HT.out.stays q) (HSP.out.stays q)
          rw [hb] at CB
          generalize hsg : segE l (idxS l) = sg at *
          have CO := Lib.hid co; have HOK := Lib.hid hok
          have hl1 : 1 ≤ l.length := by omega
          clear hb co hok hsg h
          go_wp2_with fail
          refine (CB.out _ HQ2.out).mono ?_
          rintro e w3 ⟨rfl, q3⟩
          have HQ3 := Lib.hid (HQ2.out.trans q3)
          clear q3 CB HQ2
          go_wp2_with fail
          refine (CO.out _ HQ3.out).mono ?_
          rintro e w4 ⟨⟨p1, rfl, hs1⟩, q4⟩
          have HQ4 := Lib.hid (HQ3.out.trans q4)
          have csd := fun W (q : Q w4 W) => SegDocs_any p1 l (idxS l) W (hs1.stays q) (by omega)
          have HG4 := Lib.hid hs1; have CSD := Lib.hid csd
          clear q4 hs1 CO HQ3 csd
          go_wp2_with fail
          refine (CSD.out _ (Q.refl _)).mono ?_
          rintro e w5 ⟨v5, rfl, ho5, q5⟩
          have hd5 : Docs w5 v5 l := Sl.of_owns ho5
          obtain ⟨a5, c5, rfl, _⟩ := owns_value ho5
          have HQ5 := Lib.hid (HQ4.out.trans q5); have HG5 := Lib.hid (HG4.out.stays q5)
          have cs := sameDocs14_any _ _ l l w5 hd5 (HV.out.stays HQ5.out) (by omega) (by omega)
          rw [decide_eq_true rfl] at cs
          have CS := Lib.hid cs
          clear cs hd5 ho5 q5 CSD HG4 HQ4
          go_wp2_with fail
          refine CS.out.mono ?_
          rintro e w6 ⟨rfl, q6⟩
          have HQ6 := Lib.hid (HQ5.out.trans q6); have HG6 := Lib.hid (HG5.out.stays q6)
          have htx : ∀ d ∈ l, d.2.length ≤ 2000 := fun d hd => (rightB_len (HOK.out.1 d hd)).2
          have ctm := RTerms14_any _ l w6 (HV.out.stays HQ6.out) (by omega) (fun d hd => by have := htx d hd; omega)
          have htl := termsL_len l (by omega) htx
          have CTM := Lib.hid ctm; have HTX := Lib.hid htx
          clear q6 ctm htx CS HQ5 HG5
          go_wp2_with fail
          refine CTM.out.mono ?_
          rintro e w7 ⟨v7, rfl, ho7, q7⟩
          have hts : Strs w7 v7 (termsL l) := Sl.of_owns ho7
          obtain ⟨ta, tcap, rfl, _⟩ := owns_value ho7
          have HQ7 := Lib.hid (HQ6.out.trans q7); have HG7 := Lib.hid (HG6.out.stays q7); have HTS := Lib.hid hts
          have htt := termsL_term l
          have HTT := Lib.hid htt
          clear hts ho7 q7 CTM HQ6 HG6 htt
          have cpo := fun t W (q : Q w W) => RPostings_any _ l t W (HV.out.stays q) (by omega) (fun d hd => by have := HTX.out d hd; omega)
          have CPO := Lib.hid cpo
          clear cpo
          have hbr : (0 < (termsL l).length ∧ (at_.tmod 2 == 0) = true) ∨ (0 < (termsL l).length ∧ (at_.tmod 2 == 0) = false) ∨ (termsL l).length = 0 := by
            by_cases h1 : 0 < (termsL l).length
            · cases h2 : (at_.tmod 2 == 0) with
              | true => exact .inl ⟨h1, rfl⟩
              | false => exact .inr (.inl ⟨h1, rfl⟩)
            · exact .inr (.inr (by omega))
          rcases hbr with ⟨hb1, hb2⟩ | ⟨hb1, hb2⟩ | hb1
          all_goals first
            | (have cpk := fun W => pick14_any at_ (termsL l).length W ha0 ha1 hb1 (by omega)
               have hpl := pickL_lt at_ _ hb1
               have hb1i : (0 : Int) < ((termsL l).length : Int) := by omega
               obtain ⟨aa, cc, hvv, hcc⟩ := HTS.out.value
               cases hvv
               obtain ⟨bt, ot, rfl, hct⟩ := hcc hb1
               have t0 := hct _ hpl
               have htm3 : ((termsL l)[pickL at_ (termsL l).length]'hpl).length ≤ 200 := by have := (HTT.out _ (List.getElem_mem hpl)).2; omega
               have hti : (pickL at_ (termsL l).length : Int) < ((termsL l).length : Int) := by omega
               have hti0 : (0 : Int) ≤ (pickL at_ (termsL l).length : Int) := by omega
               have CPK := Lib.hid cpk
               clear cpk htm htm2 hct hcc
               generalize (termsL l)[pickL at_ (termsL l).length] = tm at *
               generalize pickL at_ (termsL l).length = pk at *
               go_wp2_with fail
               refine (CPK.out _).mono ?_
               rintro e w8 ⟨rfl, q8⟩
               have t1 := cell_stays q8 t0
               have HQt := Lib.hid q8
               clear q8 CPK t0
               go_wp2_with fail
               clear t1 hb2 hti hti0 hb1i hb1 hpl
               have htm2 := htm3
               clear htm3
               generalize (some (⟨bt, ot, none⟩ : Addr)) = ta at *)
            | (have hb1i : (0 : Int) < ((termsL l).length : Int) := by omega
               go_wp2_with fail
               clear hb1 hb2 hb1i htm
               generalize tm0 = tm at *
               have HQt := Lib.hid (Q.refl w7))
            | (have hb1i : ¬ (0 : Int) < ((termsL l).length : Int) := by omega
               clear hb1
               go_wp2_with fail
               rename ¬0 < (termsL l).length => hbad
               clear hb1i htm hbad
               generalize tm0 = tm at *
               have HQt := Lib.hid (Q.refl w7))
          all_goals
            refine (CPO.out tm _ (HQ7.out.trans HQt.out)).mono ?_
            rintro e w9 ⟨v9, rfl, htold, q9⟩
            obtain ⟨rs, hrs, hps⟩ := htold.posts
            obtain ⟨pa, pcap, rfl, hpc⟩ := hps.value
            have hin := hps.2
            have hsmall := posts_small _ (docs_posts (by omega) HOK.out tm)
            have hrl : rs.length ≤ 500 := by have := hsmall.1; rw [← hrs, List.length_map] at this; exact this
            have hrp : ∀ r ∈ rs, r.2.2.length ≤ 1000000000 := fun r hr => Nat.le_trans (hsmall.2.1 (postOf r) (by rw [← hrs]; exact List.mem_map_of_mem hr)).1 (by decide)
            have HRS := Lib.hid hrs; have HPC := Lib.hid hpc; have HIN := Lib.hid hin; have HRP := Lib.hid hrp
            have HQ9 := Lib.hid ((HQ7.out.trans HQt.out).trans q9); have HG9 := Lib.hid (HG7.out.stays (HQt.out.trans q9)); have HTS9 : Hid (Strs w9 (.slice ta (termsL l).length tcap) (termsL l)) := Lib.hid (Sl.stays HTS.out (HQt.out.trans q9))
            obtain ⟨ip, hip, hpz0, hpz1, hpz2⟩ := info_parts tinfoPo
            clear hrs hps hpc hin hrp htold q9 HQ7 HQt HG7 HTS hsmall
            go_wp2_with fail
            go_loopw [18, 20] (fun wv i wr => ∃ (k : Nat) (xs : List PostR), k ≤ rs.length ∧ i = .int .i64 (k : Nat) ∧ xs.length ≤ k ∧ Hid (xs = (rs.take k).filter fun r => decide (fr ≤ r.1)) ∧ Hid (wr.ownsRow w9.heap.size 74 2 wv xs.length (postVs xs)) ∧ Hid (Q w9 wr)) (fun _ i _ => rs.length - (intOf i).toNat)
            case atStart => exact ⟨0, [], by omega, rfl, by simp, rfl, World.ownsRow_nil _ _ _ _, Q.refl _⟩
            case round =>
              obtain ⟨k, xs, hk, rfl, hxl, HX, HO, HQ⟩ := hrel
              obtain ⟨wo, rfl⟩ : ∃ wo : World, wo = wr := ⟨_, rfl⟩
              by_cases hlt : k < rs.length
              · obtain ⟨bp, op, rfl, hc⟩ := HPC.out (by omega)
                obtain ⟨z0, z1⟩ := hc k hlt
                have y0 := cell_stays HQ.out z0
                have y1 := cell_stays HQ.out z1
                have hki : (k : Int) < (rs.length : Int) := by omega
                have hk0 : (0 : Int) ≤ (k : Int) := by omega
                have hst : (rs.take (k + 1)).filter (fun r => decide (fr ≤ r.1)) = xs ++ if fr ≤ rs[k].1 then [rs[k]] else [] := by
                  rw [List.take_succ_eq_append_getElem hlt, List.filter_append, ← HX.out]
                  by_cases hf : fr ≤ rs[k].1 <;> simp [hf]
                have hsz : w9.heap.size ≤ wo.heap.size := HQ.out.size
                have hints := HIN.out _ (List.getElem_mem hlt)
                clear hc z0 z1
                generalize rs[k] = r at *
                obtain ⟨d, pv, ps⟩ := r
                simp only at y0 y1 hst hints
                obtain ⟨xa, xcap, rfl, _⟩ := hints.value
                clear hints
                by_cases hf : fr ≤ d
                · rw [if_pos hf] at hst
                  have HST := Lib.hid hst
                  clear hst
                  have ho := HO.out
                  go_wp2_with (at_builtin; go_must (refine wpList_app wo (by rfl) _ _ 70 (by rfl) w9.heap.size 74 _ ip (.agg #[.int .i64 0, .slice none 0 0]) 2 32 Tryz.underlying70 hip hpz0 hpz1 hpz2 rfl (by decide) (by decide) _ _ _ (by rfl) ho #[.int .i64 d, .slice xa ps.length xcap] (by simp [Act.eval]) rfl ?c1 ?c2 hsz ?_))
                  case c1 => simp [Value.oneCell']
                  case c2 => omega
                  intro g6 cap6 w6 hown6 hg6 hat6 hlt6 hsz6
                  have q6 : Q w9 w6 := grown_below HQ.out ho hg6 (Nat.le_refl _) (by omega)
                  have hown6 : w6.ownsRow w9.heap.size 74 2 (.slice (some ⟨g6, 0, none⟩) (xs.length + 1) cap6) (xs.length + 1) (postVs (xs ++ [(d, Value.slice xa ps.length xcap, ps)])) := by
                    have e : postVs (xs ++ [(d, Value.slice xa ps.length xcap, ps)]) = postVs xs ++ [.int .i64 d, .slice xa ps.length xcap] := by simp [postVs]
                    rw [e]; simpa using hown6
                  have HO6 := Lib.hid hown6; have HQ6 := Lib.hid q6
                  clear hown6 q6 hg6 hat6 ho
                  go_wp2_with fail
                  go_roundw
                  case rel => exact ⟨k + 1, xs ++ [(d, Value.slice xa ps.length xcap, ps)], by omega, by go_num, by simp; omega, HST.out.symm, by show World.ownsRow _ _ _ _ _ _ _; rw [List.length_append]; exact HO6.out, HQ6⟩
                  case measure => simp [intOf]; omega
                · rw [if_neg hf, List.append_nil] at hst
                  have HST := Lib.hid hst
                  clear hst
                  go_wp2_with fail
                  go_roundw
                  case rel => exact ⟨k + 1, xs, by omega, by go_num, by omega, HST.out.symm, HO, HQ⟩
                  case measure => simp [intOf]; omega
              · have hke : k = rs.length := by omega
                subst hke
                have hx := HX.out
                rw [List.take_length] at hx
                have hxp : postsOf xs = fromP (postsF tm l 0) fr := by
                  rw [← HRS.out, hx]; unfold fromP postsOf; rw [List.filter_map]; rfl
                have hxm : ∀ r ∈ xs, r ∈ rs := fun r hr => by rw [hx] at hr; exact (List.mem_filter.1 hr).1
                have HXP := Lib.hid hxp; have HXM := Lib.hid hxm
                obtain ⟨xa, xcap, rfl, _⟩ := owns_value HO.out
                obtain ⟨hf, hfe⟩ : ∃ hf, hf = tm.take (tm.length / 2) := ⟨_, rfl⟩
                have hhx : ({ data := tm.toArray } : ByteArray).extract 0 (tm.length / 2) = ⟨hf.toArray⟩ := by rw [hfe, bytes_take]
                have hhl : hf.length ≤ 200 := by rw [hfe, List.length_take]; omega
                have hdv : ((tm.length / 2 : Nat) : Int) = (tm.length : Int) / 2 := by omega
                clear hx hxp hxm hfe hk hlt
                go_wp2_with fail
                rw [hhx]
                clear hhx hdv
                go_loopw [21, 23] (fun bv i wr => ∃ (k : Nat) (bs : List Bytes), k ≤ (termsL l).length ∧ i = .int .i64 (k : Nat) ∧ bs.length ≤ k ∧ Hid (bs = ((termsL l).take k).filter fun t => hf.isPrefixOf t) ∧ Hid (wr.ownsRow wo.heap.size 9 1 bv bs.length (strVs bs)) ∧ Hid (Q wo wr)) (fun _ i _ => (termsL l).length - (intOf i).toNat)
                case atStart => exact ⟨0, [], by omega, rfl, by simp, rfl, World.ownsRow_nil _ _ _ _, Q.refl _⟩
                case round =>
                  obtain ⟨k, bs, hk, rfl, hbl, HB, HOB, HQB⟩ := hrel
                  obtain ⟨wp, rfl⟩ : ∃ wp : World, wp = wr := ⟨_, rfl⟩
                  by_cases hlt : k < (termsL l).length
                  · obtain ⟨aa, cc, hvv, hcc⟩ := HTS9.out.value
                    cases hvv
                    obtain ⟨bt, ot, rfl, hct⟩ := hcc (by omega)
                    have t0 := cell_stays (HQ.out.trans HQB.out) (hct k hlt)
                    have hki : (k : Int) < ((termsL l).length : Int) := by omega
                    have hk0 : (0 : Int) ≤ (k : Int) := by omega
                    have hst : ((termsL l).take (k + 1)).filter (fun t => hf.isPrefixOf t) = bs ++ if hf.isPrefixOf (termsL l)[k] = true then [(termsL l)[k]] else [] := by
                      rw [List.take_succ_eq_append_getElem hlt, List.filter_append, ← HB.out]
                      cases hp : hf.isPrefixOf (termsL l)[k] <;> simp [hp]
                    have hpd := prefix_dec hf (termsL l)[k]
                    have htlen := (HTT.out _ (List.getElem_mem hlt)).2
                    have hsz : wo.heap.size ≤ wp.heap.size := HQB.out.size
                    clear hct hcc
                    generalize (termsL l)[k] = t at *
                    have htx := bytes_take t hf.length
                    generalize hth : t.take hf.length = th at *
                    clear hth
                    obtain ⟨isx, hsz0, hsz1, hsz2, hsz3⟩ := info_parts (show (Tryz.prog.info? 9).map (fun i => (i.zero, i.size, i.bytes)) = some (some (strV []), 1, 16) by kernel_rfl)
                    by_cases hle : hf.length ≤ t.length
                    · rw [decide_eq_true hle, Bool.true_and] at hpd
                      have hlei : (hf.length : Int) ≤ (t.length : Int) := by omega
                      by_cases heq : th = hf
                      · rw [decide_eq_true heq] at hpd
                        rw [hpd, if_pos rfl] at hst
                        have HST := Lib.hid hst
                        subst heq
                        clear hst hpd
                        have ho := HOB.out
                        go_wp2_with (at_builtin; go_must (refine wpList_app wp (by rfl) _ _ 68 (by rfl) wo.heap.size 9 _ isx (strV []) 1 16 Tryz.underlying68 hsz0 hsz1 hsz2 hsz3 rfl (by decide) (by decide) _ _ _ (by rfl) ho #[strV t] (by simp [Act.eval]) rfl ?c1 ?c2 hsz ?_))
                        case c1 => simp [Value.oneCell']
                        case c2 => omega
                        intro g6 cap6 w6 hown6 hg6 hat6 hlt6 hsz6
                        have q6 : Q wo w6 := grown_below HQB.out ho hg6 (Nat.le_refl _) (by omega)
                        have hown6 : w6.ownsRow wo.heap.size 9 1 (.slice (some ⟨g6, 0, none⟩) (bs.length + 1) cap6) (bs.length + 1) (strVs (bs ++ [t])) := by simpa [strVs] using hown6
                        have HO6 := Lib.hid hown6; have HQ6 := Lib.hid q6
                        clear hown6 q6 hg6 hat6 ho
                        go_wp2_with fail
                        go_roundw
                        case rel => exact ⟨k + 1, bs ++ [t], by omega, by go_num, by simp; omega, HST.out.symm, by show World.ownsRow _ _ _ _ _ _ _; rw [List.length_append]; exact HO6.out, HQ6⟩
                        case measure => simp [intOf]; omega
                      · rw [decide_eq_false heq] at hpd
                        rw [hpd, if_neg (by simp), List.append_nil] at hst
                        have heb1 : (th == hf) = false := by simpa using heq
                        have heb2 : @BEq.beq (List UInt8) instBEqOfDecidableEq th hf = false := by simpa using heq
                        have heb3 : @BEq.beq (List UInt8) List.instBEq th hf = false := by simpa using heq
                        have HST := Lib.hid hst
                        clear hst hpd heq
                        go_wp2_with fail
                        go_roundw
                        case rel => exact ⟨k + 1, bs, by omega, by go_num, by omega, HST.out.symm, HOB, HQB⟩
                        case measure => simp [intOf]; omega
                    · rw [decide_eq_false hle, Bool.false_and] at hpd
                      rw [hpd, if_neg (by simp), List.append_nil] at hst
                      have hlei : ¬ (hf.length : Int) ≤ (t.length : Int) := by omega
                      have HST := Lib.hid hst
                      clear hst hpd hle htx
                      go_wp2_with fail
                      go_roundw
                      case rel => exact ⟨k + 1, bs, by omega, by go_num, by omega, HST.out.symm, HOB, HQB⟩
                      case measure => simp [intOf]; omega
                  · have hke : k = (termsL l).length := by omega
                    subst hke
                    have hb := HB.out
                    rw [List.take_length] at hb
                    obtain ⟨ba, bcap, rfl, _⟩ := owns_value HOB.out
                    have hbs : Strs wp (.slice ba bs.length bcap) ((termsL l).filter fun t => hf.isPrefixOf t) := by
                      rw [← hb]; exact Sl.of_owns HOB.out
                    have hblen : bs.length = ((termsL l).filter fun t => hf.isPrefixOf t).length := by rw [hb]
                    have hbf := List.length_filter_le (fun t => hf.isPrefixOf t) (termsL l)
                    have HBS := Lib.hid hbs; have HBL := Lib.hid hblen
                    have HGp := Lib.hid (HG9.out.stays (HQ.out.trans HQB.out)); have HQp := Lib.hid ((HQ9.out.trans HQ.out).trans HQB.out)
                    have hxo : Sl wp (.slice xa xs.length xcap) xs.length 2 (postVs xs) := Sl.stays (Sl.of_owns HO.out) HQB.out
                    have hxi : ∀ r ∈ xs, Ints wp r.2.1 r.2.2 := fun r hr => (HIN.out r (HXM.out r hr)).stays (HQ.out.trans HQB.out)
                    have HXS : Hid (Posts wp (.slice xa xs.length xcap) xs) := ⟨hxo, hxi⟩
                    have hnd := HOK.out.2
                    have cf1 := fun (i : Bytes) W (q : Q wp W) => SegFind_any p1 l (idxS l) i W (HGp.out.stays q) hnd
                    have cf2 := fun W (q : Q wp W) => find14_any _ l id W (HV.out.stays (HQp.out.trans q)) (by omega) hnd
                    have cpk := fun W => pick14_any at_ l.length W ha0 ha1 (by omega) (by omega)
                    have hpl := pickL_lt at_ l.length (by omega)
                    have ctd := fun W (q : Q wp W) => Told_any p1 l tm fr W (HGp.out.stays q) (by omega) HOK.out
                    have cst := fun W (q : Q wp W) => SegTerms_any p1 l hf W (HGp.out.stays q) (by omega) HOK.out (by omega)
                    have csx := fun W (q : Q wp W) va (ys : List PostR) (hy : Posts W va ys) (he : postsOf ys = fromP (postsF tm l 0) fr) (h1 : ys.length ≤ 1000000000) (h2 : ∀ r ∈ ys, r.2.2.length ≤ 1000000000) => samePosts14_any va _ ys xs W hy (HXS.out.stays q) h1 (by omega) h2 (fun r hr => HRP.out r (HXM.out r hr))
                    have cfi := findL_of l hnd
                    have CF1 := Lib.hid cf1; have CF2 := Lib.hid cf2; have CPK := Lib.hid cpk; have CTD := Lib.hid ctd; have CST := Lib.hid cst; have CSX := Lib.hid csx; have CFI := Lib.hid cfi
                    clear hb hbs hblen hxo hxi hnd cf1 cf2 cpk ctd cst csx cfi HB HOB hbl hk hlt
                    go_wp2_with fail
                    refine (CF1.out id _ (Q.refl _)).mono ?_
                    rintro e wa ⟨rfl, rfl⟩
                    go_wp2_with fail
                    refine (CF2.out _ (Q.refl _)).mono ?_
                    rintro e wb ⟨rfl, qb⟩
                    have HQb := Lib.hid qb
                    clear qb CF2
                    go_wp2_with fail
                    refine (CPK.out _).mono ?_
                    rintro e wc ⟨rfl, qc⟩
                    have HQc := Lib.hid (HQb.out.trans qc)
                    clear qc HQb CPK
                    obtain ⟨bd, od, rfl, hdc⟩ := HC.out (by omega)
                    have d0 := cell_stays (HQp.out.trans HQc.out) (hdc _ hpl).1
                    have hfi := CFI.out _ l[pickL at_ l.length] (List.getElem?_eq_getElem hpl)
                    have hpi : (pickL at_ l.length : Int) < (l.length : Int) := by omega
                    have hpi0 : (0 : Int) ≤ (pickL at_ l.length : Int) := by omega
                    clear hdc
                    generalize l[pickL at_ l.length] = dd at *
                    generalize pickL at_ l.length = pk at *
                    obtain ⟨did, dtx⟩ := dd
                    simp only at d0 hfi
                    have cff := CF1.out did
                    rw [hfi] at cff
                    simp only [Option.getD_some, Option.isSome_some] at cff
                    have hqf := fun n => (cff (wc.drewN n) (HQc.out.trans (Q.drewN _ _))).mono (fun e w' h => (⟨h.1, h.2.symm⟩ : e = .returned (.tuple #[.int .i64 (pk : Nat), .bool true]) ∧ w' = wc.drewN n))
                    have QF := Lib.hid hqf
                    clear cff hfi hpl hqf
                    generalize (findL l id).getD 0 = fi at *
                    generalize (findL l id).isSome = fb at *
                    go_wp2_with fail
                    go_quiet ((go_at_call 34; exact Calls.quiet_of_same (QF.out _)))
                    go_wp2_with fail
                    have HQd := Lib.hid (HQc.out.trans (Q.drewN wc nq))
                    refine (CTD.out _ HQd.out).mono ?_
                    rintro e wt ⟨vt, rfl, hto, qt⟩
                    obtain ⟨ys, hys, hyp⟩ := hto.posts
                    have HQt := Lib.hid (HQd.out.trans qt)
                    have hyr := postsRight_from _ fr (docs_posts (by omega) HOK.out tm)
                    have hysm := posts_small _ hyr
                    have cs1 := CSX.out wt HQt.out vt ys hyp hys (by have := hysm.1; rw [← hys, List.length_map] at this; omega) (fun r hr => Nat.le_trans (hysm.2.1 (postOf r) (by rw [← hys]; exact List.mem_map_of_mem hr)).1 (by decide))
                    rw [decide_eq_true (hys.trans HXP.out.symm)] at cs1
                    obtain ⟨ya, ycap, rfl, _⟩ := hyp.value
                    have CS1 := Lib.hid cs1
                    clear cs1 hyr hysm hys hyp hto qt HQd HQc d0
                    go_wp2_with fail
                    refine CS1.out.mono ?_
                    rintro e wu ⟨rfl, qu⟩
                    have HQu := Lib.hid (HQt.out.trans qu)
                    clear qu CS1 HQt
                    go_wp2_with fail
                    refine (CST.out _ HQu.out).mono ?_
                    rintro e wv ⟨vv, rfl, hov, qv⟩
                    have hsv : Strs wv vv ((termsL l).filter fun t => hf.isPrefixOf t) := Sl.of_owns hov
                    have HQv := Lib.hid (HQu.out.trans qv)
                    have cs2 := sameTexts14_any vv _ _ _ wv hsv (by have := Sl.stays HBS.out HQv.out; exact this) (by omega) (by omega)
                    rw [decide_eq_true rfl] at cs2
                    obtain ⟨sa, scap, rfl, _⟩ := owns_value hov
                    have CS2 := Lib.hid cs2
                    clear cs2 hsv hov qv HQu
                    go_wp2_with fail
                    refine CS2.out.mono ?_
                    rintro e wx ⟨rfl, qx⟩
                    have HQx := Lib.hid (HQp.out.trans (HQv.out.trans qx))
                    clear qx CS2
                    go_wp2_with fail
                    go_ret
                    exact ⟨rfl, HQx.out⟩
        · have hb : buildS l = ([], 1) := by unfold buildS; rw [if_neg h, if_neg hok]
          rw [hb] at CB
          clear hb h hok
          go_wp2_with fail
          refine (CB.out _ HQ2.out).mono ?_
          rintro e w3 ⟨rfl, q3⟩
          have HQ3 := Lib.hid (HQ2.out.trans q3)
          clear q3
          go_wp2_with fail
          go_ret
          exact ⟨rfl, HQ3.out⟩
end Go.Proofs.YtcblmcbpnakphaaGreatDoor
