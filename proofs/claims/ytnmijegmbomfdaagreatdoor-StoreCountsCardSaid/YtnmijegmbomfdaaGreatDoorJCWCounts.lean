/- Joined texts of one proof: what is needed of WCounts. -/
import Derived.Test.YtnmijegmbomfdaaGreatDoorJStt7
set_option linter.unusedSimpArgs false
set_option linter.unusedVariables false
set_option linter.unnecessarySimpa false
set_option maxRecDepth 100000
set_option maxHeartbeats 16000000
namespace Go.Proofs.YtnmijegmbomfdaaGreatDoor
section
open Go.RowKit
theorem alloc_n (σ : StL) (hd : σ.dead = false) (c : Int) : (σ.alloc c).1.n = σ.n := by unfold StL.n; rw [(alloc_e hd c).2]
theorem take_total (rs : List (Nat × Nat)) (k : Nat) (h : k < rs.length) : total (rs.take (k + 1)) = total (rs.take k) + rs[k].2 := by rw [List.take_succ_eq_append_getElem h, total_snoc]
theorem total_le (rs : List (Nat × Nat)) (k : Nat) : total (rs.take k) ≤ total rs := by
  conv => rhs; rw [← List.take_append_drop k rs]
  unfold total; rw [List.map_append, List.sum_append]; omega
theorem Counts_walk (v : Value) (l : List Act7) (m : Int) (w : World) (hv : Acts7 w v l) (hl : Acts7Wf l) (m0 : -9223372036854775808 ≤ m) (m1 : m ≤ 9223372036854775807) :
    Calls Tryz.prog 4 #[v, .int .i64 m] w fun e w' => e = .returned (.bool true) ∧ Below w.heap.size w w' := by
  have hsh := fun (W : World) => Shown7_any W
  have hsm := fun (W : World) (q : Q w W) => Small7_any v l W (hv.stays q) hl
  have hbg := fun (W : World) => Begin7_any W 64 (by decide)
  obtain ⟨va, vc, rfl, hcell⟩ := hv.value
  have hwf := hl.2
  have HSH := Lib.hid hsh; have HSM := Lib.hid hsm; have HBG := Lib.hid hbg; have HCE := Lib.hid hcell; have HWF := Lib.hid hwf
  have hl0 := hl.1
  have hpm : ∀ W, Calls Tryz.prog 13 #[.int .i64 m, .int .i64 20] W fun e w' => e = .returned (.int .i64 (pickZ m 20 : Nat)) ∧ W = w' := fun W => Pick7_any m 20 W m0 m1 (by decide) (by decide)
  have HPM := Lib.hid hpm
  have hml := pickZ_lt m 20 (by decide)
  clear hpm
  generalize pickZ m 20 = pm at *
  clear hsh hsm hbg hcell hwf hv hl
  go_enter Tryz.func4, Tryz.ntmps4
  go_wp2_with fail
  refine (HSH.out _).mono ?_
  rintro e w1 ⟨rfl, q1⟩
  have Q1 := Lib.hid q1
  clear q1
  go_wp2_with fail
  refine (HSM.out _ Q1.out).mono ?_
  rintro e w2 ⟨rfl, rfl⟩
  cases hsb : small7B l with
  | false =>
    go_wp2_with fail
    go_ret
    exact ⟨rfl, Q1.out⟩
  | true =>
    obtain ⟨hl80, hkeep⟩ := small7_wf hsb
    clear hsb hkeep
    have HBG1 := Lib.hid (HBG.out w1)
    rw [show ((64 : Nat) : Int) = 64 from rfl] at HBG1
    go_wp2_with fail
    refine HBG1.out.mono ?_
    rintro e w3 ⟨wb, sb, b, mb, rs, rb, rfl, hB⟩
    have HW0 := Lib.hid (show WAt w1 w3 wb sb b (startS 132) (2 * 0) from hB.w)
    clear hB
    go_wp2_with fail
    go_loopw [10] (fun i wr => ∃ (k : Nat) (σ : StL), i = .int .i64 (k : Nat) ∧ k ≤ l.length ∧ Hid (WAt w1 wr wb sb b σ (2 * k)) ∧ Hid (Good7 k σ)) (fun i _ => l.length - (intOf i).toNat)
    case atStart => exact ⟨0, startS 132, rfl, Nat.zero_le _, HW0, Lib.hid good7_start⟩
    case round =>
      obtain ⟨k, σ, rfl, hk, HW, HG⟩ := hrel
      by_cases hlt : k < l.length
      · have hki : (k : Int) < (l.length : Int) := by omega
        have hk0 : (0 : Int) ≤ (k : Int) := by omega
        obtain ⟨g, off, rfl, hc⟩ := HCE.out (by omega)
        obtain ⟨kv, x0, x1, x2, x3, x4, hbs⟩ := hc k hlt
        obtain ⟨ka2, kc2, rfl⟩ := hbs.len
        have hqw := Q1.out.trans HW.out.q
        obtain ⟨x0, x1, x2, x3, x4⟩ := five hqw x0 x1 x2 x3 x4
        have hwk := HWF.out _ (List.getElem_mem hlt)
        have hst := fun (h9 : l[k].k < 9) => Act7_step HW.out HG.out (by omega) ka2 l[k].keep.length kc2 l[k] hwk 64 h9
        have hpk := fun (W : World) => Pick7_any l[k].op 11 W hwk.op.1 hwk.op.2 (by decide) (by decide)
        have HST := Lib.hid hst; have HPK := Lib.hid hpk
        clear hc hbs hqw hwk hst hpk
        generalize l[k] = ac at *
        have hkk : ac.k = pickZ ac.op 11 := rfl
        rw [hkk] at HST
        clear hkk
        generalize hpz : pickZ ac.op 11 = pz at *
        clear hpz
        by_cases h9 : pz < 9
        · have h9i : (pz : Int) < 9 := by omega
          have HST2 := Lib.hid (HST.out h9)
          clear HST
          go_wp2_with fail
          refine (HPK.out _).mono ?_
          rintro e w4 ⟨rfl, rfl⟩
          go_wp2_with fail
          refine HST2.out.mono ?_
          rintro e w5 ⟨rfl, h5, g5⟩
          have H5 := Lib.hid h5; have G5 := Lib.hid g5
          clear h5 g5
          go_wp2_with fail
          go_roundw
          case rel => exact ⟨k + 1, _, by go_num, by omega, H5, G5⟩
          case measure => simp [intOf]; omega
        · have h9i : ¬ (pz : Int) < 9 := by omega
          have HWM := Lib.hid (HW.out.mono (show 2 * k ≤ 2 * (k + 1) by omega)); have HGM := Lib.hid HG.out.more
          clear HST
          go_wp2_with fail
          refine (HPK.out _).mono ?_
          rintro e w4 ⟨rfl, rfl⟩
          go_wp2_with fail
          go_roundw
          case rel => exact ⟨k + 1, _, by go_num, by omega, HWM, HGM⟩
          case measure => simp [intOf]; omega
      · have hki : ¬ (k : Int) < (l.length : Int) := by omega
        obtain rfl : k = l.length := by omega
        clear hki hlt hk HCE HWF
        obtain ⟨⟨fr, C, hi⟩, hfr, hn⟩ := HG.out.abort
        have ho := abort_open σ
        have kab := HW.out.abortK
        have c1 := HW.out.cells.2
        generalize hs : σ.abort = s at *
        have hu := hi.num (by omega)
        have hlv : s.dead = false := hi.inv.live
        have hfd : firstD s.n = 64 := by rw [hn]; decide
        have hmany := hi.map.many (by rw [hfd, hn]; decide)
        rw [← usedR_eq _ _ _ hi.map.low (by rw [hfd, hn]; decide), hfd, hn] at hmany
        have hrl : (usedR s.map1 64 132).length ≤ 4096 := by
          have h1 := used_count s.map1 64 (132 - 64)
          have h2 := usedR_eq s.map1 64 132 (by rw [← hfd]; exact hi.map.low) (by decide)
          rw [h2]; omega
        have hfree : s.free = cnt s.map1 132 := by unfold StL.free; rw [hn]
        rw [← hfree] at hmany
        have b1 := begin_run hi ho
        have i1 := begin_inv hi
        rw [b1] at i1
        obtain ⟨s1, hs1⟩ : ∃ s1 : StL, s1 = { s with open_ := true, was := s.map1 } := ⟨_, rfl⟩
        rw [← hs1] at b1 i1
        simp only at i1
        have o1 : s1.open_ = true := by rw [hs1]
        have t1 : s1.tx = [] := by rw [hs1]; exact hi.closed ho
        have n1 : s1.n = 132 := by rw [hs1]; exact hn
        have hf1 : s1.free = s.free := by rw [hs1]; rfl
        have hte := hi.tell_closed ho
        have u1 := i1.num (by omega)
        have kst := fun (W : World) (K : Nat) (hK : K ≤ 1000000000000) (h : WAt w1 W wb sb b s K) => h.stateK hu hlv hi.map.low (by omega)
        have kus := fun (W : World) (K : Nat) (h : WAt w1 W wb sb b s K) => h.usedK hu
        have kfr := fun (W : World) (K : Nat) (h : WAt w1 W wb sb b s K) => h.freeK hu
        have kfi := fun (W : World) (K : Nat) (h : WAt w1 W wb sb b s K) => h.firstK hu
        have kbe := fun (W : World) (K : Nat) (h : WAt w1 W wb sb b s K) => h.beginK
        have kf1 := fun (W : World) (K : Nat) (h : WAt w1 W wb sb b s1 K) => h.freeK u1
        have ka1 := fun (W : World) (K : Nat) (hK : K ≤ 1000000000000) (h : WAt w1 W wb sb b s1 K) => h.allocK ((1 + pm : Nat) : Int) u1 (by omega)
        have ein : ((1 + pm : Nat) : Int) = 1 + (pm : Int) := by omega
        rw [hfd, hn] at kus; rw [hfd] at kfi; simp only [b1] at kbe; rw [hf1] at kf1
        have kend : ∀ (σ2 : StL), StInv (5 + 2 * l.length) σ2 fr C → σ2.n = 132 → ∀ (W : World) (K : Nat), K ≤ 1000000000000 → WAt w1 W wb sb b σ2 K → ∀ W', Q W W' →
            Calls Tryz.prog 23 #[ptrV sb, .int .i64 1] W' fun e w' => ∃ x y, e = .returned (.tuple #[.int .i64 x, .int .i64 y]) ∧ WAt w1 w' wb sb b (σ2.alloc 1).1 (K + 2) ∧ Keeps w1 wb W w' := fun σ2 h2 hn2 W K hK h W' q =>
          (h.allocK 1 (h2.num (by omega)) (by omega) W' q).mono fun e w' h3 => ⟨_, _, h3.1, h3.2.1, h3.2.2⟩
        have kab2 : ∀ (σ2 : StL), ∀ (W : World) (K : Nat), WAt w1 W wb sb b (σ2.alloc 1).1 K → ∀ W', Q W W' → Calls Tryz.prog 18 #[ptrV sb] W' fun e w' => e = .returned (.tuple #[]) ∧ WAt w1 w' wb sb b (σ2.alloc 1).1.abort K ∧ Keeps w1 wb W w' := fun σ2 W K h => h.abortK
        have kst2 : ∀ (σ2 : StL), StInv (5 + 2 * l.length) σ2 fr C → σ2.n = 132 → ∀ (W : World) (K : Nat), K ≤ 1000000000000 → WAt w1 W wb sb b (σ2.alloc 1).1.abort K → ∀ W', Q W W' → Calls Tryz.prog 14 #[ptrV sb] W' fun e w' => e = .returned (strV s.tell) ∧ WAt w1 w' wb sb b (σ2.alloc 1).1.abort (K + 17000000) ∧ Keeps w1 wb W w' := fun σ2 h2 hn2 W K hK h W' q => by
          have h3 := alloc_inv h2 1
          have h4 := abort_inv h3
          have hz := h.stateK (h4.num (by omega)) h4.inv.live h4.map.low (by omega) W' q
          have he : (σ2.alloc 1).1.abort.tell = s.tell := by rw [abort_tell h3, alloc_n σ2 h2.inv.live, hn2, hte, hn]
          rw [he] at hz
          exact hz
        have hfa := fresh_alloc i1 o1 t1 (1 + pm) (by omega)
        have KAB := Lib.hid kab; have KST := Lib.hid kst; have KUS := Lib.hid kus; have KFR := Lib.hid kfr; have KFI := Lib.hid kfi; have KBE := Lib.hid kbe; have KF1 := Lib.hid kf1; have KA1 := Lib.hid ka1; have KEND := Lib.hid kend; have KAB2 := Lib.hid kab2; have KST2 := Lib.hid kst2; have HFA := Lib.hid hfa; have I1 := Lib.hid i1; have N1 := Lib.hid n1; have O1 := Lib.hid o1; have HF1 := Lib.hid hf1; have M1 := Lib.hid (show s1.map1 = s.map1 by rw [hs1])
        have HMANY := Lib.hid hmany
        have hwp : IntKind.i64.wrap (1 + (pm : Int)) = 1 + (pm : Int) := IntWalk.i64_in _ (by omega)
        have hfl : s.free ≤ 132 := by omega
        clear kab kst kus kfr kfi kbe kf1 ka1 kend kab2 kst2 hfa hi hfr hn ho hs hu hlv hfd hmany hfree b1 i1 hs1 o1 t1 n1 hf1 hte u1 HW HG
        generalize hst : s.tell = st at *
        generalize hfe : s.free = fe at *
        generalize usedR s.map1 64 132 = rs at *
        clear hst hfe
        go_wp2_with fail
        refine (KAB.out _ (Q.refl _)).mono ?_
        rintro e w4 ⟨rfl, h4, k4⟩
        have S4 := Lib.hid h4
        clear h4 k4 c1
        have c1 := S4.out.cells.2
        go_wp2_with fail
        refine (KST.out _ _ (by omega) S4.out _ (Q.refl _)).mono ?_
        rintro e w5 ⟨rfl, h5, k5⟩
        have S5 := Lib.hid h5
        clear h5 k5 S4 c1
        have c1 := S5.out.cells.2
        go_wp2_with fail
        refine (KUS.out _ _ S5.out _ (Q.refl _)).mono ?_
        rintro e w6 ⟨uv, rfl, ho6, q6⟩
        have S6 := Lib.hid (S5.out.keep q6)
        have hcell : ∃ a cap, uv = .slice a rs.length cap ∧ ∀ k (hk : k < rs.length), ∃ g off, a = some ⟨g, off, none⟩ ∧ w6.cell? ⟨g, off + k * 2 + 1, none⟩ = some (.int .i64 (rs[k].2 : Nat)) := by
          obtain ⟨_, a, cap, e, hc⟩ := Sl.of_owns ho6
          refine ⟨a, cap, e, fun k hk => ?_⟩
          obtain ⟨g, off, e, hc⟩ := hc (by omega)
          have h1 := ext_at rs k hk
          exact ⟨g, off, e, by have := hc _ _ h1.2; rwa [Nat.mul_comm, ← Nat.add_assoc] at this⟩
        obtain ⟨ua, uc, rfl, hcell⟩ := hcell
        have HCL := Lib.hid hcell
        have htl : total rs ≤ 68 := by have := HMANY.out; omega
        clear q6 S5 c1 ho6 hcell
        have c1 := S6.out.cells.2
        go_wp2_with fail
        go_loop [13, 15] (fun mv iv => ∃ k : Nat, iv = .int .i64 (k : Nat) ∧ k ≤ rs.length ∧ mv = .int .i64 ((total (rs.take k) : Nat) : Int)) (fun _ iv => rs.length - (intOf iv).toNat)
        case atStart => exact ⟨0, rfl, Nat.zero_le _, rfl⟩
        case round =>
          obtain ⟨k, rfl, hk, rfl⟩ := hrel
          by_cases hlt : k < rs.length
          · have hki : (k : Int) < (rs.length : Int) := by omega
            have hk0 : (0 : Int) ≤ (k : Int) := by omega
            obtain ⟨g, off, rfl, x1⟩ := HCL.out k hlt
            have ht := take_total rs k hlt
            have hle := total_le rs (k + 1)
            have hsum : ((total (rs.take k) : Nat) : Int) + ((rs[k].2 : Nat) : Int) = ((total (rs.take (k + 1)) : Nat) : Int) := by omega
            have HSUM := Lib.hid hsum
            have hw : IntKind.i64.wrap (((total (rs.take k) : Nat) : Int) + ((rs[k].2 : Nat) : Int)) = ((total (rs.take k) : Nat) : Int) + ((rs[k].2 : Nat) : Int) := IntWalk.i64_in _ (by omega)
            clear ht hsum
            generalize total (rs.take k) = ta at *
            generalize rs[k].2 = rk at *
            clear hle
            go_wp2_with fail
            go_round
            case rel => exact ⟨k + 1, by go_num, by omega, by rw [← HSUM.out]⟩
            case measure => simp [intOf]; omega
          · have hki : ¬ (k : Int) < (rs.length : Int) := by omega
            obtain rfl : k = rs.length := by omega
            rw [List.take_length]
            have hsum : ((total rs : Nat) : Int) + (fe : Int) = 68 := by have := HMANY.out; omega
            clear HCL HMANY htl hki hlt hk
            generalize total rs = ta at *
            have KK := Lib.hid (Q.refl w6)
            go_wp2_with fail
            (go_region_held3 (fun w' => w'.cell? ⟨wb, 1, none⟩ = some (ptrV sb))
              (first | exact g0 | exact c1 | exact cellQ (by repeat (first | with_reducible exact KK.out | with_reducible exact Q.refl _ | with_reducible apply Qs.dr | with_reducible apply Qs.al)) c1)
              (first
                | (go_at_call 20; with_reducible refine (KFR.out w6 _ S6.out _ (by repeat (first | with_reducible exact KK.out | with_reducible exact Q.refl _ | with_reducible apply Qs.dr | with_reducible apply Qs.al))).mono ?_; rintro e w9 ⟨rfl, q9⟩; have s' : Q w6 w9 := Q.trans (by repeat (first | with_reducible exact KK.out | with_reducible exact Q.refl _ | with_reducible apply Qs.dr | with_reducible apply Qs.al)) q9; clear KK; have KK := Lib.hid s'; clear s' q9)
                | (go_at_call 21; with_reducible refine (KFI.out w6 _ S6.out _ (by repeat (first | with_reducible exact KK.out | with_reducible exact Q.refl _ | with_reducible apply Qs.dr | with_reducible apply Qs.al))).mono ?_; rintro e w9y ⟨rfl, rfl⟩)
                | (go_at_call 22; with_reducible refine (KBE.out w6 _ S6.out _ (by repeat (first | with_reducible exact KK.out | with_reducible exact Q.refl _ | with_reducible apply Qs.dr | with_reducible apply Qs.al))).mono ?_; rintro e w7 ⟨rfl, h7, k7⟩; have g0 := Keeps.wb k7 c1; have S7 := Lib.hid h7; clear h7 k7)))
            all_goals
              clear KK S6 c1
              try clear g0
              have c1 := S7.out.cells.2
              go_wp2_with fail
              refine (HPM.out _).mono ?_
              rintro e w8 ⟨rfl, rfl⟩
              go_wp2_with fail
              refine (KF1.out _ _ S7.out _ (Q.refl _)).mono ?_
              rintro e w8 ⟨rfl, q8⟩
              have S8 := Lib.hid (S7.out.keep q8)
              clear q8 S7 c1
              have c1 := S8.out.cells.2
              rcases HFA.out with ⟨a, x1, x2, x3, x4, x5, x6, x7, x8, x9, x10, x11⟩ | x
              · have kal := KA1.out _ _ (by omega) S8.out _ (Q.refl _)
                rw [x1] at kal
                have u2 := x6.num (by omega)
                have n2 : (s1.alloc ((1 + pm : Nat) : Int)).1.n = 132 := by unfold StL.n; rw [x9]; exact N1.out
                generalize hs2 : (s1.alloc ((1 + pm : Nat) : Int)).1 = s2 at *
                obtain ⟨r1, r2, r3, r4⟩ := fresh_release x6 x8 x7 s1.map1 a (1 + pm) (by omega) (by rw [n2, ← N1.out]; exact x2) (by rw [n2, ← N1.out]; exact x3) x5 (by rw [x5, length_setTo]) x4
                have hf2 : s2.free + (1 + pm) = fe := x10.trans HF1.out
                have n3 : (s2.release (a : Int) ((1 + pm : Nat) : Int)).1.n = 132 := by unfold StL.n; rw [r4]; exact n2
                have hf3 : (s2.release (a : Int) ((1 + pm : Nat) : Int)).1.free = fe := by
                  rw [← HF1.out]; unfold StL.free; rw [r2, n3, N1.out]
                have kf2 := fun (W : World) (K : Nat) (h : WAt w1 W wb sb b s2 K) => h.freeK u2
                have kr2 := fun (W : World) (K : Nat) (hK : K ≤ 1000000000000) (h : WAt w1 W wb sb b s2 K) => h.releaseK (a : Int) ((1 + pm : Nat) : Int) u2 (by omega)
                have u3 := r3.num (by omega)
                have kf3 := fun (W : World) (K : Nat) (h : WAt w1 W wb sb b (s2.release (a : Int) ((1 + pm : Nat) : Int)).1 K) => h.freeK u3
                rw [r1] at kr2
                rw [hf3] at kf3
                have kend := KEND.out _ r3 n3
                have kab2 := KAB2.out (s2.release (a : Int) ((1 + pm : Nat) : Int)).1
                have kst2 := KST2.out _ r3 n3
                rw [ein] at kal
                have hfx : (fe : Int) - (1 + (pm : Int)) = (s2.free : Int) := by omega
                generalize hs3 : (s2.release (a : Int) ((1 + pm : Nat) : Int)).1 = s3 at *
                rw [ein] at kr2
                have KAL := Lib.hid kal; have KF2 := Lib.hid kf2; have KR2 := Lib.hid kr2; have KF3 := Lib.hid kf3; have KEND2 := Lib.hid kend; have KAB3 := Lib.hid kab2; have KST3 := Lib.hid kst2
                clear kal kf2 kr2 kf3 kend kab2 kst2 x1 x2 x3 x4 x5 x6 x7 x8 x9 x10 x11 u2 n2 hs2 r1 r2 r3 r4 hf2 n3 hf3 u3 hs3 KA1
                generalize s2.free = f2 at *
                go_wp2_with fail
                refine KAL.out.mono ?_
                rintro e w9 ⟨rfl, h9, k9⟩
                have S9 := Lib.hid h9
                clear h9 k9 S8 c1
                have c1 := S9.out.cells.2
                go_wp2_with fail
                refine (KF2.out _ _ S9.out _ (Q.refl _)).mono ?_
                rintro e w10 ⟨rfl, q10⟩
                have S10 := Lib.hid (S9.out.keep q10)
                clear q10 S9 c1
                have c1 := S10.out.cells.2
                go_wp2_with fail
                refine (KR2.out _ _ (by omega) S10.out _ (Q.refl _)).mono ?_
                rintro e w11 ⟨rfl, h11, k11⟩
                have S11 := Lib.hid h11
                clear h11 k11 S10 c1
                have c1 := S11.out.cells.2
                go_wp2_with fail
                refine (KF3.out _ _ S11.out _ (Q.refl _)).mono ?_
                rintro e w12 ⟨rfl, q12⟩
                have S12 := Lib.hid (S11.out.keep q12)
                clear q12 S11 c1
                have c1 := S12.out.cells.2
                go_wp2_with fail
                refine (KEND2.out _ _ (by omega) S12.out _ (Q.refl _)).mono ?_
                rintro e w13 ⟨ex, ey, rfl, h13, k13⟩
                have S13 := Lib.hid h13
                clear h13 k13 S12 c1
                have c1 := S13.out.cells.2
                go_wp2_with fail
                refine (KAB3.out _ _ S13.out _ (Q.refl _)).mono ?_
                rintro e w14 ⟨rfl, h14, k14⟩
                have S14 := Lib.hid h14
                clear h14 k14 S13 c1
                have c1 := S14.out.cells.2
                go_wp2_with fail
                refine (KST3.out _ _ (by omega) S14.out _ (Q.refl _)).mono ?_
                rintro e w15 ⟨rfl, h15, k15⟩
                have S15 := Lib.hid h15
                clear h15 k15 S14 c1
                go_wp2_with fail
                go_ret
                exact ⟨rfl, Q1.out.trans S15.out.q⟩
              · have kal := KA1.out _ _ (by omega) S8.out _ (Q.refl _)
                rw [x, ein] at kal
                have kend := KEND.out _ I1.out N1.out
                have kab2 := KAB2.out s1
                have kst2 := KST2.out _ I1.out N1.out
                have KAL := Lib.hid kal; have KEND2 := Lib.hid kend; have KAB3 := Lib.hid kab2; have KST3 := Lib.hid kst2
                clear kal kend kab2 kst2 x KA1
                go_wp2_with fail
                refine KAL.out.mono ?_
                rintro e w9 ⟨rfl, h9, k9⟩
                have S9 := Lib.hid h9
                clear h9 k9 S8 c1
                have c1 := S9.out.cells.2
                go_wp2_with fail
                refine (KEND2.out _ _ (by omega) S9.out _ (Q.refl _)).mono ?_
                rintro e w13 ⟨ex, ey, rfl, h13, k13⟩
                have S13 := Lib.hid h13
                clear h13 k13 S9 c1
                have c1 := S13.out.cells.2
                go_wp2_with fail
                refine (KAB3.out _ _ S13.out _ (Q.refl _)).mono ?_
                rintro e w14 ⟨rfl, h14, k14⟩
                have S14 := Lib.hid h14
                clear h14 k14 S13 c1
                have c1 := S14.out.cells.2
                go_wp2_with fail
                refine (KST3.out _ _ (by omega) S14.out _ (Q.refl _)).mono ?_
                rintro e w15 ⟨rfl, h15, k15⟩
                have S15 := Lib.hid h15
                clear h15 k15 S14 c1
                go_wp2_with fail
                go_ret
                exact ⟨rfl, Q1.out.trans S15.out.q⟩
end
end Go.Proofs.YtnmijegmbomfdaaGreatDoor
