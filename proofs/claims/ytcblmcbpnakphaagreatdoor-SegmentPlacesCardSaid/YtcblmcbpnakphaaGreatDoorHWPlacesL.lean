/- codexlaw14.SegmentPlaces: under way. -/
import Derived.Test.YtcblmcbpnakphaaGreatDoorMShown14ToWShown14
import Derived.Test.YtcblmcbpnakphaaGreatDoorMWSegPToWOpenS
import Derived.Test.YtcblmcbpnakphaaGreatDoorMWRef11cToTurns14
import Derived.Deep.RegionHeld3
import Derived.BigQuiet
set_option linter.unusedSimpArgs false
set_option linter.unusedVariables false
set_option linter.unnecessarySimpa false
namespace Go.Proofs.YtcblmcbpnakphaaGreatDoor
open Go.RowKit
set_option linter.unusedVariables false

theorem sumL_bound (l : List Nat) (b : Nat) (h : ∀ x ∈ l, x ≤ b) : sumL l ≤ b * l.length := by
  induction l with
  | nil => simp [sumL]
  | cons x l ih =>
    have h1 := h x (by simp)
    have h2 := ih (fun y hy => h y (by simp [hy]))
    rw [sumL, List.length_cons, Nat.mul_succ]
    omega
theorem toks_bound (s : Bytes) : (tokensL s).length ≤ s.length + 1 := by
  have := tokensF_len (wordsL s) 0
  have := (wordsL_len s).1
  unfold tokensL; omega
def toksN (d : DocL) : Nat := (tokensL d.2).length
theorem toksN_sum (l : List DocL) (k : Nat) (h : ∀ d ∈ l, d.2.length ≤ 2000) (hk : k ≤ 40) : sumL ((l.take k).map toksN) ≤ 80040 := by
  have := sumL_bound ((l.take k).map toksN) 2001 (fun x hx => by
    obtain ⟨d, hd, rfl⟩ := List.mem_map.1 hx
    have := h d (List.mem_of_mem_take hd)
    have := toks_bound d.2
    unfold toksN; omega)
  rw [List.length_map, List.length_take] at this
  omega
theorem sumL_take_le {α : Type} (l : List α) (f : α → Nat) (k : Nat) : sumL ((l.take k).map f) ≤ sumL (l.map f) := by
  induction l generalizing k with
  | nil => simp
  | cons x l ih =>
    cases k with
    | zero => simp [sumL]
    | succ k => rw [List.take_succ_cons, List.map_cons, List.map_cons, sumL, sumL]; have := ih k; omega
theorem sumL_take_succ {α : Type} (l : List α) (f : α → Nat) (k : Nat) (h : k < l.length) : sumL ((l.take (k + 1)).map f) = sumL ((l.take k).map f) + f l[k] := by
  rw [List.take_succ_eq_append_getElem h, List.map_append, sumL_append]; simp [sumL]
theorem postsF_at (t : Bytes) (l : List DocL) (i : Nat) : ∀ x ∈ postsF t l i, ∃ (d : Nat) (hd : d < l.length), x.1 = ((i + d : Nat) : Int) ∧ x.2 = placesIn l[d].2 t := by
  induction l generalizing i with
  | nil => simp [postsF]
  | cons a l ih =>
    intro x hx
    rw [postsF] at hx
    have go : x ∈ postsF t l (i + 1) → ∃ (d : Nat) (hd : d < (a :: l).length), x.1 = ((i + d : Nat) : Int) ∧ x.2 = placesIn (a :: l)[d].2 t := fun h => by
      obtain ⟨d, hd, h1, h2⟩ := ih (i + 1) x h
      exact ⟨d + 1, by simpa using hd, by rw [h1]; omega, by simpa using h2⟩
    split at hx
    · exact go hx
    · rcases List.mem_cons.1 hx with rfl | hx
      · exact ⟨0, by simp, by simp, rfl⟩
      · exact go hx
set_option maxRecDepth 100000 in
set_option maxHeartbeats 8000000 in
theorem PlacesL_walk (v : Value) (l : List DocL) (w : World) (hv : Docs w v l) (hlw : l.length ≤ 9223372036854775807 ∧ ∀ d ∈ l, d.1.length ≤ 9223372036854775807 ∧ d.2.length ≤ 9223372036854775807) (hT : Tabs w) (hSp : Spans w) :
    Calls Tryz.prog 7 #[v] w fun e w' => e = .returned (.bool true) ∧ Q w w' := by
  have csh := Shown14 w hT hSp
  have csm := fun W (q : Q w W) => small14_any v l W (hv.stays q) hlw.1 hlw.2
  have cb := fun W (q : Q w W) => Build_any v l W (hv.stays q) hlw.1 hlw.2 (hT.stays q) (hSp.stays q)
  obtain ⟨a, cap, rfl, hcell⟩ := hv.value
  have CSH := Lib.hid csh; have CSM := Lib.hid csm; have CB := Lib.hid cb; have HT := Lib.hid hT; have HSP := Lib.hid hSp; have HC := Lib.hid hcell
  clear csh csm cb hcell hT hSp hv
  go_enter Tryz.func7, Tryz.ntmps7
  go_wp2_with fail
  refine CSH.out.mono ?_
  rintro e w1 ⟨rfl, q1⟩
  have HQ1 := Lib.hid q1
  clear q1
  go_wp2_with fail
  refine (CSM.out _ HQ1.out).mono ?_
  rintro e w2 ⟨rfl, q2⟩
  have HQ2 := Lib.hid (HQ1.out.trans q2)
  clear q2 HQ1
  cases hs : small4 l with
  | false =>
    go_wp2_with fail
    go_ret
    exact ⟨rfl, HQ2.out⟩
  | true =>
    have hl40 : l.length ≤ 40 := by
      unfold small4 at hs
      simp only [Bool.and_eq_true, decide_eq_true_eq] at hs
      exact hs.1
    clear hs
    by_cases h : l.length < 1 ∨ 500 < l.length
    · have hb : buildS l = ([], 6) := by unfold buildS; rw [if_pos h]
      rw [hb] at CB
      clear hb h
      go_wp2_with fail
      refine (CB.out _ HQ2.out).mono ?_
      rintro e w3 ⟨rfl, q3⟩
      have HQ3 := Lib.hid (HQ2.out.trans q3)
      clear q3
      go_wp2_with fail
      go_ret
      exact ⟨rfl, HQ3.out⟩
    · by_cases hok : docsOk l
      · have hb : buildS l = (segE l (idxS l), 0) := by unfold buildS; rw [if_neg h, if_pos hok]
        have co := fun W (q : Q w W) => Open_ok l W h hok (HT.out.stays q) (HSP.out.stays q)
        rw [hb] at CB
        generalize hsg : segE l (idxS l) = sg at *
        have CO := Lib.hid co; have HOK := Lib.hid hok
        have hl1 : 1 ≤ l.length := by omega
        clear hb co hok hsg h
        go_wp2_with fail
        refine (CB.out _ HQ2.out).mono ?_
        rintro e w3 ⟨rfl, q3⟩
        have HQ3 := Lib.hid (HQ2.out.trans q3)
        clear q3 CB HQ2
        go_wp2_with fail
        refine (CO.out _ HQ3.out).mono ?_
        rintro e w4 ⟨⟨p1, rfl, hs1⟩, q4⟩
        have HG4 := Lib.hid hs1; have HQ4 := Lib.hid (HQ3.out.trans q4)
        clear q4 hs1 CO HQ3
        have htx : ∀ d ∈ l, d.2.length ≤ 2000 := fun d hd => (rightB_len (HOK.out.1 d hd)).2
        have hall : (termsL l).filter (fun t => ([] : Bytes).isPrefixOf t) = termsL l := by
          rw [List.filter_eq_self]; intro t _; rfl
        have ct1 := fun W g => SegTerms_any p1 l [] W g (by omega) HOK.out (by decide)
        rw [hall] at ct1
        have hpl := fun t => posts_small _ (docs_posts (by omega) HOK.out t)
        have ctd := fun t W g => Told_any p1 l t 0 W g (by omega) HOK.out
        simp only [fromP_zero] at ctd
        have htl2 : (termsL l).length ≤ 1000000 := termsL_len l (by omega) htx
        have hall2 := places_all l
        have hris := termsL_rise l
        have HTX := Lib.hid htx; have CT := Lib.hid ct1; have HPL := Lib.hid hpl; have CTD := Lib.hid ctd; have HALL := Lib.hid hall2; have HRIS := Lib.hid hris
        clear htx hall ct1 hpl ctd hall2 hris
        go_wp2_with fail
        go_loopw [9, 10] (fun m i wr => ∃ k : Nat, k ≤ l.length ∧ i = .int .i64 (k : Nat) ∧ m = .int .i64 ((sumL ((l.take k).map toksN) : Nat) : Int) ∧ Hid (Q w4 wr)) (fun _ i _ => l.length - (intOf i).toNat)
        case atStart => exact ⟨0, by omega, rfl, rfl, Q.refl _⟩
        case round =>
          obtain ⟨k, hk, rfl, rfl, HQ⟩ := hrel
          obtain ⟨wo, rfl⟩ : ∃ wo : World, wo = wr := ⟨_, rfl⟩
          by_cases hlt : k < l.length
          · obtain ⟨b, o, rfl, hc⟩ := HC.out (by omega)
            obtain ⟨_, z1⟩ := hc k hlt
            have y1 := cell_stays HQ4.out z1
            have y1 := cell_stays HQ.out y1
            have hki : (k : Int) < (l.length : Int) := by omega
            have hk0 : (0 : Int) ≤ (k : Int) := by omega
            have hsb := toksN_sum l k HTX.out (by omega)
            have hst : sumL ((l.take (k + 1)).map toksN) = sumL ((l.take k).map toksN) + (tokensL l[k].2).length := by
              rw [List.take_succ_eq_append_getElem hlt, List.map_append, sumL_append]; simp [sumL, toksN]
            have hdl := HTX.out l[k] (List.getElem_mem hlt)
            have htb := toks_bound l[k].2
            have cto := fun W => RTokens_any l[k].2 W (by omega)
            clear z1 hc
            generalize l[k].2 = x at *
            have HST := Lib.hid hst
            clear hst
            generalize sumL ((l.take k).map toksN) = sm at *
            generalize hnt : (tokensL x).length = nt at *
            have HNT := Lib.hid hnt
            clear hnt
            go_wp2_with fail
            refine (cto _).mono ?_
            rintro e w5 ⟨v5, rfl, ho5, q5⟩
            obtain ⟨a5, c5, rfl, _⟩ := owns_value ho5
            have HQ5 := Lib.hid (HQ.out.trans q5)
            clear ho5 q5
            go_wp2_with fail
            go_roundw
            case rel => exact ⟨k + 1, by omega, by go_num, by rw [HST.out]; go_num, HQ5⟩
            case measure => simp [intOf]; omega
          · have hkk : k = l.length := by omega
            subst hkk
            have hnn : sumL ((l.take l.length).map toksN) = sumL ((termsL l).map fun t => placesP (postsF t l 0)) := by
              rw [List.take_length]; exact HALL.out.symm
            have hsb := toksN_sum l l.length HTX.out (by omega)
            rw [hnn] at hsb ⊢
            have HQ4w := Lib.hid (HQ4.out.trans HQ.out)
            have HG := Lib.hid (HG4.out.stays HQ.out)
            clear hnn HQ HG4 HQ4 hk hlt HALL
            go_wp2_with fail
            refine (CT.out _ HG.out).mono ?_
            rintro e w5 ⟨v5, rfl, ho5, q5⟩
            obtain ⟨ta, tcap, rfl, _⟩ := owns_value ho5
            have HS5 := Lib.hid (show Strs w5 (.slice ta (termsL l).length tcap) (termsL l) from by have := Sl.of_owns ho5; exact this)
            have HG5 := Lib.hid (HG.out.stays q5); have HQ5 := Lib.hid (HQ4w.out.trans q5)
            clear ho5 q5 HG HQ4w CT
            go_wp2_with fail
            have hmem : ∀ t ∈ termsL l, ∀ x ∈ postsF t l 0, True := fun _ _ _ _ => trivial
            generalize hts : termsL l = ts at *
            have HTS := Lib.hid hts
            clear hts hmem
            go_loopw [12, 13] (fun m i wr => ∃ n : Nat, n ≤ ts.length ∧ i = .int .i64 (n : Nat) ∧ m = .int .i64 ((sumL ((ts.take n).map fun t => placesP (postsF t l 0)) : Nat) : Int) ∧ Hid (Q w5 wr)) (fun _ i _ => ts.length - (intOf i).toNat)
            case atStart => exact ⟨0, by omega, rfl, rfl, Q.refl _⟩
            case round =>
              obtain ⟨n, hn, rfl, rfl, HQ⟩ := hrel
              obtain ⟨wo, rfl⟩ : ∃ wo : World, wo = wr := ⟨_, rfl⟩
              by_cases hlt : n < ts.length
              · obtain ⟨aa, cc, hvv, hcc⟩ := HS5.out.value
                cases hvv
                obtain ⟨bt, ot, rfl, hct⟩ := hcc (by omega)
                have t0 := cell_stays HQ.out (hct n hlt)
                have hni : (n : Int) < (ts.length : Int) := by omega
                have hn0 : (0 : Int) ≤ (n : Int) := by omega
                have hstep := sumL_take_succ ts (fun t => placesP (postsF t l 0)) n hlt
                have hle := sumL_take_le ts (fun t => placesP (postsF t l 0)) (n + 1)
                rw [hstep] at hle
                have HST := Lib.hid hstep
                clear hstep
                generalize hsm : sumL ((ts.take n).map fun t => placesP (postsF t l 0)) = sm at *
                generalize hsa : sumL (ts.map fun t => placesP (postsF t l 0)) = sall at *
                clear hsa hsm
                by_cases hz : n = 0
                all_goals first
                  | (have hnp2 : ¬ 0 < n := by omega
                     have hnp : ¬ (0 : Int) < (n : Int) := by omega
                     have hnp3 : decide (0 < n) = false := by simp; omega
                     clear hct hcc hz
                     generalize ts[n] = t at *
                     go_wp2_with fail
                     go_quiet (fail)
                     go_wp2_with fail)
                  | (have t1 := cell_stays HQ.out (hct (n - 1) (by omega))
                     have hlt1 : ts[n - 1] < ts[n] := List.pairwise_iff_getElem.1 HRIS.out (n - 1) n (by omega) (by omega) (by omega)
                     obtain ⟨h1, h2⟩ := lessL_not _ _ ((lessL_iff _ _).2 hlt1)
                     have hb : Op.bytesLess ts[n] ts[n - 1] = false := by rw [lessL_eq]; exact h1
                     have he : (ts[n] == ts[n - 1]) = false := by simpa using h2
                     have hb2 : Op.bytesLess ts[n - 1] ts[n] = true := by rw [lessL_eq]; exact (lessL_iff _ _).2 hlt1
                     have hnp : (0 : Int) < (n : Int) := by omega
                     have hnp2 : 0 < n := by omega
                     have hnp3 : decide (0 < n) = true := by simp; omega
                     have hn1 : (n : Int) - 1 = ((n - 1 : Nat) : Int) := by omega
                     have hn1b : ((n - 1 : Nat) : Int) < (ts.length : Int) := by omega
                     clear hlt1 h1 h2 hct hcc hz
                     generalize ts[n - 1] = t' at *
                     generalize ts[n] = t at *
                     generalize n - 1 = n1 at *
                     go_wp2_with fail
                     go_quiet (fail)
                     go_wp2_with fail
                     clear hb he hb2 t1 hn1 hn1b)
                all_goals
                  clear hnp2 hnp hnp3
                  refine (CTD.out t _ (HG5.out.stays (HQ.out.trans (Q.drewN _ _)))).mono ?_
                  rintro e w6 ⟨v6, rfl, htold, q6⟩
                  obtain ⟨rs, hrs, hps⟩ := htold.posts
                  obtain ⟨pa, pcap, rfl, hpc⟩ := hps.value
                  have hin := hps.2
                  have hpm : ∀ r ∈ rs, ∃ (d : Nat) (hd : d < l.length), r.1 = (d : Int) ∧ r.2.2 = placesIn l[d].2 t := fun r hr => by
                    obtain ⟨d, hd, h1, h2⟩ := postsF_at t l 0 (postOf r) (by rw [← hrs]; exact List.mem_map_of_mem hr)
                    exact ⟨d, hd, by simpa using h1, h2⟩
                  have hrl : rs.length ≤ 500 := by have := (HPL.out t).1; rw [← hrs, List.length_map] at this; exact this
                  have hrp : ∀ r ∈ rs, r.2.2.length ≤ 2000 := fun r hr => ((HPL.out t).2.1 (postOf r) (by rw [← hrs]; exact List.mem_map_of_mem hr)).1
                  have hpl : placesP (postsF t l 0) = sumL (rs.map fun r => r.2.2.length) := by
                    rw [← hrs]; unfold placesP postsOf; rw [List.map_map]; rfl
                  rw [hpl] at hle HST
                  have t6 := cell_stays (Q.trans (Q.drewN _ _) q6) t0
                  have HQ6 := Lib.hid ((HQ.out.trans (Q.drewN _ _)).trans q6)
                  have HPC := Lib.hid hpc; have HIN := Lib.hid hin; have HPM := Lib.hid hpm; have HRP := Lib.hid hrp; have HT6 := Lib.hid t6
                  clear hpc hin hpm hrp t6 t0 q6 HQ hrs hpl htold hps
                  go_wp2_with fail
                  go_loopw [12, 15, 16, 17] (fun m i _ _ wr => ∃ k : Nat, k ≤ rs.length ∧ i = .int .i64 (k : Nat) ∧ m = .int .i64 ((sm + sumL ((rs.take k).map fun r => r.2.2.length) : Nat) : Int) ∧ Hid (Q w6 wr)) (fun _ i _ _ _ => rs.length - (intOf i).toNat)
                  case atStart => exact ⟨0, by omega, rfl, rfl, Q.refl _⟩
                  case round =>
                    obtain ⟨k, hk, rfl, rfl, HQk⟩ := hrel
                    obtain ⟨wk, rfl⟩ : ∃ wk : World, wk = wr := ⟨_, rfl⟩
                    by_cases hltk : k < rs.length
                    · obtain ⟨bp, op, rfl, hc⟩ := HPC.out (by omega)
                      obtain ⟨z0, z1⟩ := hc k hltk
                      have y0 := cell_stays HQk.out z0
                      have y1 := cell_stays HQk.out z1
                      have hri := List.getElem_mem hltk
                      obtain ⟨d, hd, hd1, hd2⟩ := HPM.out _ hri
                      have hints := HIN.out _ hri
                      have hplr := HRP.out _ hri
                      have hsk := sumL_take_succ rs (fun r => r.2.2.length) k hltk
                      have hlek := sumL_take_le rs (fun r => r.2.2.length) (k + 1)
                      rw [hsk] at hlek
                      obtain ⟨bd, od, rfl, hdc⟩ := HC.out (by omega)
                      have y2 := cell_stays ((HQ5.out.trans HQ6.out).trans HQk.out) (hdc d hd).2
                      have hdi : (d : Int) < (l.length : Int) := by omega
                      have hdi0 : (0 : Int) ≤ (d : Int) := by omega
                      have hki : (k : Int) < (rs.length : Int) := by omega
                      have hki0 : (0 : Int) ≤ (k : Int) := by omega
                      have hxl := HTX.out _ (List.getElem_mem hd)
                      have hstp : ∀ q ∈ rs[k].2.2, standsL (tokensL l[d].2) t q = true := fun q hq => standsL_places _ _ _ (by rw [← hd2]; exact hq)
                      clear hc z0 z1 hri hd2 hdc
                      generalize l[d].2 = x at *
                      generalize rs[k] = r at *
                      obtain ⟨dx, pv, ps⟩ := r
                      simp only at y0 y1 hd1 hints hplr hsk hlek hstp
                      subst hd1
                      obtain ⟨xa, xcap, rfl, hxc⟩ := hints.value
                      have cto := fun W => RTokens_any x W (by omega)
                      have htb := toks_bound x
                      have HSK := Lib.hid hsk; have HXC := Lib.hid hxc; have HSTP := Lib.hid hstp; have CTO := Lib.hid cto
                      clear hsk hxc hstp cto hints
                      generalize hpsum : sumL ((rs.take k).map fun r => r.2.2.length) = sk at *
                      clear hpsum
                      go_wp2_with fail
                      refine (CTO.out _).mono ?_
                      rintro e w7 ⟨v7, rfl, ho7, q7⟩
                      have htoks : Toks w7 v7 (tokensL x) := Sl.of_owns ho7
                      obtain ⟨xa7, xc7, rfl, _⟩ := owns_value ho7
                      have x0 := cell_stays q7 y0
                      have x1 := cell_stays q7 y1
                      have HQ7 := Lib.hid (HQk.out.trans q7)
                      have hy0 := cell_stays HQ7.out HT6.out
                      have cst := fun W (q : Q w7 W) (p : Int) => stands_any _ _ t p W (Sl.stays htoks q) (by omega)
                      have CST := Lib.hid cst
                      clear htoks ho7 q7 y0 y1 y2 cst HQk CTO
                      go_wp2_with fail
                      generalize tokensL x = toks at *
                      go_loopw [17] (fun i wr => ∃ m : Nat, m ≤ ps.length ∧ i = .int .i64 (m : Nat) ∧ Hid (Q w7 wr)) (fun i _ => ps.length - (intOf i).toNat)
                      case atStart => exact ⟨0, by omega, rfl, Q.refl _⟩
                      case round =>
                        obtain ⟨m, hm, rfl, HQm⟩ := hrel
                        obtain ⟨wm, rfl⟩ : ∃ wm : World, wm = wr := ⟨_, rfl⟩
                        have k0 := cell_stays HQm.out hy0
                        have k1 := cell_stays HQm.out x1
                        by_cases hltm : m < ps.length
                        · obtain ⟨bx, ox, rfl, hxc⟩ := HXC.out (by omega)
                          have k2 := cell_stays (HQ7.out.trans HQm.out) (hxc m hltm)
                          have hmi : (m : Int) < (ps.length : Int) := by omega
                          have hmi0 : (0 : Int) ≤ (m : Int) := by omega
                          have hstp := HSTP.out _ (List.getElem_mem hltm)
                          clear hxc
                          generalize ps[m] = q at *
                          have cst := fun W (qq : Q w7 W) => CST.out W qq q
                          rw [hstp] at cst
                          have CS2 := Lib.hid cst
                          have hmx : Tryz.prog.follows .mixedOrders = true := by kernel_rfl
                          have KK := HQm
                          clear cst hstp
                          go_wp2_with fail
                          go_region_held3 (fun w' => w'.cell? ⟨bt, ot + n, none⟩ = some (strV t) ∧ w'.cell? ⟨bp, op + k * 2 + 1, none⟩ = some (.slice (some ⟨bx, ox, none⟩) ps.length xcap) ∧ w'.cell? ⟨bx, ox + m, none⟩ = some (.int .i64 q)) (first | exact ⟨k0, k1, k2⟩ | exact ⟨cell_stays (Q.drew _) k0, cell_stays (Q.drew _) k1, cell_stays (Q.drew _) k2⟩ | exact ⟨cell_stays KK.out hy0, cell_stays KK.out x1, cell_stays (Q.trans (Q.trans (Q.refl _) (Q.refl _)) (Q.refl _)) KK2.out⟩)
                            (first
                              | (go_at_call 41; ((with_reducible refine (CS2.out _ (by first | exact KK.out | exact KK.out.trans (Q.drew _))).mono ?_); rintro e w' ⟨rfl, qq⟩); have s' : Q w7 w' := Q.trans (by first | exact KK.out | exact KK.out.trans (Q.drew _)) qq; have k2' := (by first | exact cell_stays qq k2 | exact cell_stays (Q.trans (Q.drew _) qq) k2); have KK2 := Lib.hid k2'; clear KK; have KK := Lib.hid s'; clear s' qq k2'))
                          all_goals
                            go_wp2_with fail
                            go_roundw
                            case rel => exact ⟨m + 1, by omega, by go_num, KK⟩
                            case measure => simp [intOf]; omega
                        · have hme : m = ps.length := by omega
                          subst hme
                          go_wp2_with fail
                          go_roundw
                          case rel => exact ⟨k + 1, by omega, by go_num, by rw [HSK.out]; go_num, HQ7.out.trans HQm.out⟩
                          case measure => simp [intOf]; omega
                    · have hke : k = rs.length := by omega
                      subst hke
                      rw [List.take_length]
                      go_wp2_with fail
                      go_roundw
                      case rel => exact ⟨n + 1, by omega, by go_num, by rw [HST.out], HQ6.out.trans HQk.out⟩
                      case measure => simp [intOf]; omega
              · have hne : n = ts.length := by omega
                subst hne
                rw [List.take_length]
                generalize sumL (ts.map fun t => placesP (postsF t l 0)) = sall at *
                go_wp2_with fail
                go_ret
                exact ⟨rfl, HQ5.out.trans HQ.out⟩
      · have hb : buildS l = ([], 1) := by unfold buildS; rw [if_neg h, if_neg hok]
        rw [hb] at CB
        clear hb h hok
        go_wp2_with fail
        refine (CB.out _ HQ2.out).mono ?_
        rintro e w3 ⟨rfl, q3⟩
        have HQ3 := Lib.hid (HQ2.out.trans q3)
        clear q3
        go_wp2_with fail
        go_ret
        exact ⟨rfl, HQ3.out⟩
end Go.Proofs.YtcblmcbpnakphaaGreatDoor
