/- codexref14: Build: walked. -/
import Derived.Test.YtcblmcbpnakphaaGreatDoorHWRef14c
import Derived.Test.YtcblmcbpnakphaaGreatDoorHWRef13c
import Derived.Test.YtcblmcbpnakphaaGreatDoorMTermsJToWRef12a
import Derived.Test.YtcblmcbpnakphaaGreatDoorMWCrcToWSegDocs
set_option linter.unusedSimpArgs false
set_option linter.unusedVariables false
set_option linter.unnecessarySimpa false
namespace Go.Proofs.YtcblmcbpnakphaaGreatDoor
open Go.RowKit
set_option linter.unusedVariables false

theorem RText_big (s : Bytes) (w : World) (hs : s.length ≤ 9000000000000000000) :
    Calls Tryz.prog 62 #[strV s] w fun e w' => e = .returned (strV (textE s)) ∧ Q w w' := by
  have c := fun W => RVar_any s.length W (by omega)
  have C := Lib.hid c
  have hl := varE_len s.length
  clear c
  go_enter Tryz.func62, Tryz.ntmps62
  go_wp2_with fail
  refine (C.out _).mono ?_
  rintro e w1 ⟨rfl, q1⟩
  have HQ1 := Lib.hid q1
  clear q1 C
  go_wp2_with fail
  go_ret
  exact ⟨congrArg (fun b => Ending.returned (.string b)) (bytes_append _ _), HQ1.out⟩
theorem docsOk_next (l : List DocL) (k : Nat) (h : k < l.length) : docsOk (l.take (k + 1)) ↔ docsOk (l.take k) ∧ rightB l[k].1 l[k].2 = true ∧ l[k].1 ∉ (l.take k).map (·.1) := by
  rw [List.take_succ_eq_append_getElem h]
  unfold docsOk
  rw [List.map_append, List.nodup_append]
  constructor
  · rintro ⟨h1, h2, h3, h4⟩
    exact ⟨⟨fun d hd => h1 d (List.mem_append_left _ hd), h2⟩, h1 l[k] (List.mem_append_right _ (List.mem_singleton.2 rfl)), fun hm => h4 _ hm l[k].1 (by simp) rfl⟩
  · rintro ⟨⟨h1, h2⟩, h3, h4⟩
    refine ⟨fun d hd => ?_, h2, by simp, fun a ha b hb e => ?_⟩
    · rcases List.mem_append.1 hd with hd | hd
      · exact h1 d hd
      · rw [List.mem_singleton] at hd; subst hd; exact h3
    · simp only [List.map_cons, List.map_nil, List.mem_singleton] at hb
      subst hb; subst e; exact h4 ha
theorem docsOk_part (l : List DocL) (k : Nat) (h : docsOk l) : docsOk (l.take k) := by
  refine ⟨fun d hd => h.1 d (List.mem_of_mem_take hd), ?_⟩
  rw [List.map_take]
  exact (List.take_sublist _ _).nodup h.2
theorem small_right (last : Bytes) (l : List EntryL) (h : entriesRight last l = true) : Small l := fun e he => by
  obtain ⟨k, hk, rfl⟩ := List.mem_iff_getElem.1 he
  exact (entriesAt last l h k hk).2
theorem entsL_take (l : List DocL) (k : Nat) (h : k < (termsL l).length) : (entsL l).take (k + 1) = (entsL l).take k ++ [((termsL l)[k], packL (postsF (termsL l)[k] l 0))] := by
  have hl : (entsL l).length = (termsL l).length := by unfold entsL; rw [List.length_map]
  rw [List.take_succ_eq_append_getElem (by omega)]
  congr 1
  unfold entsL
  simp
theorem tinfoEnt : (Tryz.prog.info? 125).map (fun i => (i.zero, i.size, i.bytes)) = some (some (.agg #[strV [], strV []]), 2, 32) := by kernel_rfl
set_option maxRecDepth 100000 in
set_option maxHeartbeats 8000000 in
theorem RBuild_any (v : Value) (l : List DocL) (w : World) (hv : Docs w v l) (hn : l.length ≤ 9223372036854775807) (hl : ∀ d ∈ l, d.1.length ≤ 9223372036854775807 ∧ d.2.length ≤ 9223372036854775807) :
    Calls Tryz.prog 22 #[v] w fun e w' => e = .returned (.tuple #[strV (buildS l).1, .int .i64 (buildS l).2]) ∧ Q w w' := by
  have hv0 := hv
  obtain ⟨a, cap, rfl, hcell⟩ := hv.value
  have HC := Lib.hid hcell; have HL := Lib.hid hl; have HV := Lib.hid hv0
  clear hcell hv hl hv0
  have hmx : Tryz.prog.follows .mixedOrders = true := by kernel_rfl
  by_cases h : l.length < 1 ∨ 500 < l.length
  · have hb : buildS l = ([], 6) := by unfold buildS; rw [if_pos h]
    rw [hb]
    clear hb
    by_cases h1 : l.length < 1
    · clear h
      go_enter Tryz.func22, Tryz.ntmps22
      go_wp2_with fail
      go_ret2
      exact ⟨rfl, Q.refl _⟩
    · have h5 : 500 < l.length := by omega
      clear h
      go_enter Tryz.func22, Tryz.ntmps22
      go_wp2_with fail
      go_ret2
      exact ⟨rfl, Q.refl _⟩
  · have hbad : ¬ docsOk l → buildS l = ([], 1) := fun hb => by unfold buildS; rw [if_neg h, if_neg hb]
    have hgood : docsOk l → buildS l = (segE l (idxS l), 0) := fun hb => by unfold buildS; rw [if_neg h, if_pos hb]
    have hl1 : 1 ≤ l.length := by omega
    have hl5 : l.length ≤ 500 := by omega
    have cv := fun W => RVar_any l.length W (by omega)
    have hvl := varE_len l.length
    obtain ⟨vn, hvn⟩ : ∃ vn, vn = varE l.length := ⟨_, rfl⟩
    rw [← hvn] at cv hvl
    have CV := Lib.hid cv; have HB := Lib.hid hbad; have HG := Lib.hid hgood; have HVN := Lib.hid hvn
    clear cv hbad hgood hvn h
    go_enter Tryz.func22, Tryz.ntmps22
    go_wp2_with fail
    refine (CV.out _).mono ?_
    rintro e w1 ⟨rfl, q1⟩
    have HQ1 := Lib.hid q1
    clear q1 CV
    go_wp2_with fail
    go_loopw [4, 5, 6, 7] (fun sv i _ _ wr => ∃ (k : Nat) (s : Bytes), k ≤ l.length ∧ i = .int .i64 (k : Nat) ∧ sv = strV s ∧ s.length ≤ 14 + 2100 * k ∧ Hid (s = magicL ++ (vn ++ docsE (l.take k))) ∧ Hid (docsOk (l.take k)) ∧ Hid (Q w wr)) (fun _ i _ _ _ => l.length - (intOf i).toNat)
    case atStart => exact ⟨0, magicL ++ vn, by omega, rfl, str_cat (bytes_append _ _) rfl, by simp [magicL]; omega, by show _ = _; simp [docsE], ⟨by simp, by simp⟩, HQ1.out⟩
    case round =>
      obtain ⟨k, s, hk, rfl, rfl, hsl, HS, HOK, HQ⟩ := hrel
      obtain ⟨wo, rfl⟩ : ∃ wo : World, wo = wr := ⟨_, rfl⟩
      by_cases hlt : k < l.length
      · obtain ⟨b, of, rfl, hcc⟩ := HC.out (by omega)
        have z0 := (hcc k hlt).1
        have z1 := (hcc k hlt).2
        have c0 := cell_stays HQ.out z0
        have c1 := cell_stays HQ.out z1
        have hki : (k : Int) < (l.length : Int) := by omega
        have hk0 : (0 : Int) ≤ (k : Int) := by omega
        have hnx := docsOk_next l k hlt
        have hdt := docsE_take l k hlt
        have hlen := HL.out _ (List.getElem_mem hlt)
        have hallk : docsOk l → rightB l[k].1 l[k].2 = true := fun hd => hd.1 _ (List.getElem_mem hlt)
        have hdup : ∀ j, (hj : j < k) → l[j].1 = l[k].1 → ¬ docsOk l := fun j hj he hd => by
          have := (docsOk_next l k hlt).1 (docsOk_part l (k + 1) hd)
          exact this.2.2 (by rw [← he]; exact List.mem_map_of_mem (List.mem_iff_getElem.2 ⟨j, by rw [List.length_take]; omega, by simp⟩))
        have hfre : (∀ j, (hj : j < k) → l[j].1 ≠ l[k].1) → l[k].1 ∉ (l.take k).map (·.1) := fun hf hm => by
          obtain ⟨d, hd, he⟩ := List.mem_map.1 hm
          obtain ⟨j, hj, hje⟩ := List.mem_iff_getElem.1 hd
          rw [List.length_take] at hj
          have hj2 : j < k := by omega
          refine hf j hj2 ?_
          rw [← he, ← hje]; simp
        have hids : ∀ j, (hj : j < k) → w.cell? ⟨b, of + j * 2, none⟩ = some (strV l[j].1) := fun j hj => (hcc j (by omega)).1
        have hidsl : ∀ j, (hj : j < k) → l[j].1.length ≤ 9223372036854775807 := fun j hj => (HL.out _ (List.getElem_mem (by omega))).1
        obtain ⟨ids, hidse⟩ : ∃ ids : Nat → Bytes, ∀ j, (hj : j < k) → ids j = l[j].1 := ⟨fun j => if hj : j < k then l[j].1 else [], fun j hj => by simp [hj]⟩
        have hids2 : ∀ j, j < k → w.cell? ⟨b, of + j * 2, none⟩ = some (strV (ids j)) := fun j hj => by rw [hidse j hj]; exact hids j hj
        have hdup2 : ∀ j, j < k → ids j = l[k].1 → ¬ docsOk l := fun j hj he => hdup j hj (by rw [← hidse j hj]; exact he)
        have hfre2 : (∀ j, j < k → ids j ≠ l[k].1) → l[k].1 ∉ (l.take k).map (·.1) := fun hf => hfre (fun j hj => by rw [← hidse j hj]; exact hf j hj)
        have cr := fun W => RRight14_any l[k].1 l[k].2 W hlen.1 hlen.2
        clear hcc hids hidsl hidse hdup hfre
        generalize l[k] = x at *
        obtain ⟨id, tx⟩ := x
        simp only at z0 z1 c0 c1 hnx hdt hlen hallk hdup2 hfre2 cr
        have CR := Lib.hid cr; have HNX := Lib.hid hnx; have HDT := Lib.hid hdt; have HAK := Lib.hid hallk; have HDU := Lib.hid hdup2; have HFR := Lib.hid hfre2; have HID := Lib.hid hids2; have Z0 := Lib.hid z0; have Z1 := Lib.hid z1
        clear cr hnx hdt hallk hdup2 hfre2 hids2 z0 z1
        go_wp2_with fail
        refine (CR.out _).mono ?_
        rintro e w2 ⟨rfl, q2⟩
        have HQ2 := Lib.hid (HQ.out.trans q2)
        clear q2 HQ c0 c1 CR
        cases hr : rightB id tx with
        | false =>
          have hres : buildS l = ([], 1) := HB.out (fun hd => by have := HAK.out hd; rw [hr] at this; cases this)
          have HRES := Lib.hid hres
          clear hr hres
          go_wp2_with fail
          go_ret2
          exact ⟨by rw [HRES.out]; rfl, HQ2.out⟩
        | true =>
          have HR := Lib.hid hr
          obtain ⟨hrl1, hrl2⟩ := rightB_len hr
          clear hr hlen
          go_wp2_with fail
          go_loopw [7] (fun j wr => ∃ m : Nat, m ≤ k ∧ j = .int .i64 (m : Nat) ∧ Hid (∀ j, j < m → ids j ≠ id) ∧ Hid (Q w wr)) (fun j _ => k - (intOf j).toNat)
          case atStart => exact ⟨0, by omega, rfl, fun j hj => by omega, HQ2.out⟩
          case round =>
            obtain ⟨m, hm, rfl, HNO, HQm⟩ := hrel
            obtain ⟨wm, rfl⟩ : ∃ wm : World, wm = wr := ⟨_, rfl⟩
            have d0 := cell_stays HQm.out Z0.out
            by_cases hmk : m < k
            · have e0 := cell_stays HQm.out (HID.out m hmk)
              have hdu := HDU.out m hmk
              have hno : ids m ≠ id → ∀ j, j < m + 1 → ids j ≠ id := fun hne j hj => by
                by_cases he : j = m
                · subst he; exact hne
                · exact HNO.out j (by omega)
              have hmi : (m : Int) < (k : Int) := by omega
              have hmi0 : (0 : Int) ≤ (m : Int) := by omega
              have hmi2 : (m : Int) < (l.length : Int) := by omega
              generalize ids m = u at *
              have HDU2 := Lib.hid hdu; have HNO2 := Lib.hid hno
              clear hdu hno
              by_cases he : u = id
              · have hres : buildS l = ([], 1) := HB.out (HDU2.out he)
                have HRES := Lib.hid hres
                subst he
                clear hres
                go_wp2_with fail
                go_quiet (fail)
                go_wp2_with fail
                go_ret2
                exact ⟨by rw [HRES.out]; rfl, HQm.out.trans (Q.drewN _ _)⟩
              · have heb1 : (u == id) = false := by simpa using he
                have heb2 : @BEq.beq (List UInt8) instBEqOfDecidableEq u id = false := by simpa using he
                have heb3 : @BEq.beq (List UInt8) List.instBEq u id = false := by simpa using he
                have HE := Lib.hid he
                clear he
                go_wp2_with fail
                go_quiet (fail)
                go_wp2_with fail
                go_roundw
                case rel => exact ⟨m + 1, by omega, by go_num, HNO2.out HE.out, HQm.out.trans (Q.drewN _ _)⟩
                case measure => simp [intOf]; omega
            · have hme : m = k := by omega
              subst hme
              have hok2 : docsOk (l.take (m + 1)) := HNX.out.2 ⟨HOK.out, HR.out, HFR.out HNO.out⟩
              have d1 := cell_stays HQm.out Z1.out
              have ct1 := fun W => RText_any id W (by omega)
              have ct2 := fun W => RText_any tx W (by omega)
              have hl3 := textE_len id
              have hl4 := textE_len tx
              generalize hv1 : textE id = v1 at *
              generalize hv2 : textE tx = v2 at *
              obtain ⟨s1, es1⟩ : ∃ s1, s1 = s ++ v1 := ⟨_, rfl⟩
              obtain ⟨s2, es2⟩ : ∃ s2, s2 = s1 ++ v2 := ⟨_, rfl⟩
              have l1 : s1.length = s.length + v1.length := by rw [es1, List.length_append]
              have l2 : s2.length = s1.length + v2.length := by rw [es2, List.length_append]
              have hs1 := hsum_of s v1 (by omega)
              have hs2 := hsum_of s1 v2 (by omega)
              rw [← es1] at hs1
              rw [← es2] at hs2
              have hs2e : s2 = magicL ++ (vn ++ docsE (l.take (m + 1))) := by rw [es2, es1, HS.out, HDT.out]; simp
              have hs2l : s2.length ≤ 14 + 2100 * (m + 1) := by omega
              have HOK2 := Lib.hid hok2; have CT1 := Lib.hid ct1; have CT2 := Lib.hid ct2; have HS2 := Lib.hid hs2e; have HS2L := Lib.hid hs2l
              clear hok2 ct1 ct2 hs2e hs2l es1 es2 l1 l2 hv1 hv2
              have KK := HQm
              go_wp2_with fail
              go_region_held3 (fun w' => w'.cell? ⟨b, of + m * 2, none⟩ = some (strV id) ∧ w'.cell? ⟨b, of + m * 2 + 1, none⟩ = some (strV tx)) (first | exact ⟨d0, d1⟩ | exact ⟨cell_stays (Q.drew _) d0, cell_stays (Q.drew _) d1⟩ | exact ⟨cell_stays KK.out Z0.out, cell_stays KK.out Z1.out⟩ | exact ⟨cell_stays (KK.out.trans (Q.drew _)) Z0.out, cell_stays (KK.out.trans (Q.drew _)) Z1.out⟩)
                (first
                  | (go_at_call 62; ((with_reducible refine (CT1.out _).mono ?_); rintro e w' ⟨rfl, q⟩); have s' : Q w w' := Q.trans (by first | exact KK.out | exact KK.out.trans (Q.drew _)) q; clear KK; have KK := Lib.hid s'; clear s' q)
                  | (go_at_call 62; ((with_reducible refine (CT2.out _).mono ?_); rintro e w' ⟨rfl, q⟩); have s' : Q w w' := Q.trans (by first | exact KK.out | exact KK.out.trans (Q.drew _)) q; clear KK; have KK := Lib.hid s'; clear s' q))
              all_goals
                clear d0 d1
                go_wp2_with fail
                go_roundw
                case rel => exact ⟨m + 1, s2, by omega, by go_num, rfl, HS2L.out, HS2, HOK2, KK⟩
                case measure => simp [intOf]; omega
      · have hke : k = l.length := by omega
        subst hke
        have hok := HOK.out
        have hse := HS.out
        rw [List.take_length] at hok hse
        have hsl2 : s.length ≤ 1100000 := by omega
        have hres := HG.out hok
        have htx : ∀ d ∈ l, d.2.length ≤ 2000 := fun d hd => (rightB_len (hok.1 d hd)).2
        have hidx := idx_dict l hl5 htx
        rw [hidx] at hres
        have hent := entsL_right l hl5 htx
        have hel : (entsL l).length = (termsL l).length := by unfold entsL; rw [List.length_map]
        have htl := termsL_len l hl5 htx
        have hsm := small_right _ _ hent
        have hdl : (dictE (entsL l)).length ≤ 4500000000000 := by
          have := dictL_len (entsL l)
          unfold dictL at this
          rw [hent, decide_eq_true (by omega)] at this
          simpa using this
        have hseg : segE l (dictE (entsL l)) = (s ++ textE (dictE (entsL l))) ++ fixedL (crcL (s ++ textE (dictE (entsL l)))) := by
          unfold segE
          have : segBody l (dictE (entsL l)) = s ++ textE (dictE (entsL l)) := by unfold segBody; rw [hse, HVN.out]; simp
          rw [this]
        rw [hseg] at hres
        have hdt := textE_len (dictE (entsL l))
        have htm := fun W (q : Q w W) => RTerms14_any _ l W (Sl.stays HV.out q) (by omega) (fun d hd => by have := htx d hd; omega)
        have cpo := fun t W (q : Q w W) => RPostings_any _ l t W (Sl.stays HV.out q) (by omega) (fun d hd => by have := htx d hd; omega)
        have hpr := fun t => docs_posts hl5 hok t
        have hpk := fun (t : Bytes) (rs : List PostR) (W : World) (vp : Value) (hp : Posts W vp rs) (he : postsOf rs = postsF t l 0) => by
          have hr := hpr t
          rw [← he] at hr
          have hs := posts_small _ hr
          have := RPPack_ok vp rs W hp (by have := hs.1; rw [List.length_map] at this; omega) (fun p hp => Nat.le_trans (hs.2.1 (postOf p) (List.mem_map_of_mem hp)).1 (by decide)) hr
          rw [he] at this
          exact this
        have hstep := entsL_take l
        have HRES := Lib.hid hres; have HENT := Lib.hid hent; have HSM := Lib.hid hsm; have HTM := Lib.hid htm; have CPO := Lib.hid cpo; have HPK := Lib.hid hpk; have HSTEP := Lib.hid hstep
        clear hres hidx hent hsm hseg htm cpo hpr hpk hstep htx hok hse hsl hk hlt
        obtain ⟨i0, hi, hz0, hz1, hz2⟩ := info_parts tinfoEnt
        go_wp2_with fail
        refine (HTM.out _ HQ.out).mono ?_
        rintro e w2 ⟨v2, rfl, ho2, q2⟩
        obtain ⟨ta, tcap, rfl, _⟩ := owns_value ho2
        have hts : Strs w2 (.slice ta (termsL l).length tcap) (termsL l) := Sl.of_owns ho2
        have HTS := Lib.hid hts; have HQ2 := Lib.hid (HQ.out.trans q2)
        clear hts ho2 q2 HTM HQ HOK HS
        go_wp2_with fail
        go_loopw [8, 10, 11, 12] (fun dv i _ _ wr => ∃ k : Nat, k ≤ (termsL l).length ∧ i = .int .i64 (k : Nat) ∧ Hid (wr.ownsRow w2.heap.size 125 2 dv k (pairVs ((entsL l).take k))) ∧ Hid (Q w2 wr)) (fun _ i _ _ _ => (termsL l).length - (intOf i).toNat)
        case atStart => exact ⟨0, by omega, rfl, World.ownsRow_nil _ _ _ _, Q.refl _⟩
        case round =>
          obtain ⟨k, hk, rfl, HO, HQk⟩ := hrel
          obtain ⟨wk, rfl⟩ : ∃ wk : World, wk = wr := ⟨_, rfl⟩
          by_cases hlt : k < (termsL l).length
          · obtain ⟨aa, cc, hvv, hcc⟩ := HTS.out.value
            cases hvv
            obtain ⟨bt, ot, rfl, hct⟩ := hcc (by omega)
            have t0 := cell_stays HQk.out (hct k hlt)
            have hki : (k : Int) < ((termsL l).length : Int) := by omega
            have hk0 : (0 : Int) ≤ (k : Int) := by omega
            have hst := HSTEP.out k hlt
            clear hct hcc
            generalize (termsL l)[k] = t at *
            have HST := Lib.hid hst
            clear hst
            go_wp2_with fail
            refine (CPO.out t _ (HQ2.out.trans HQk.out)).mono ?_
            rintro e w3 ⟨v3, rfl, htold, q3⟩
            obtain ⟨rs, hrs, hps⟩ := htold.posts
            have cpk := HPK.out t rs w3 v3 hps hrs
            obtain ⟨pa, pcap, rfl, _⟩ := hps.value
            generalize packL (postsF t l 0) = pk at *
            have CPK := Lib.hid cpk; have HQ3 := Lib.hid (HQk.out.trans q3); have HO3 := Lib.hid (ownsRow_below HO.out q3)
            have t3 := cell_stays q3 t0
            clear cpk htold hps hrs q3 t0 HO HQk
            go_wp2_with fail
            refine CPK.out.mono ?_
            rintro e w4 ⟨rfl, q4⟩
            have HQ4 := Lib.hid (HQ3.out.trans q4)
            have ho4 := ownsRow_below HO3.out q4
            have t4 := cell_stays q4 t3
            have hsz : w2.heap.size ≤ w4.heap.size := HQ4.out.size
            clear q4 t3 HO3 HQ3 CPK
            go_wp2_with (at_builtin; go_must (refine wpList_app w4 (by rfl) _ _ 122 (by rfl) w2.heap.size 125 _ i0 (.agg #[strV [], strV []]) 2 32 Tryz.underlying122 hi hz0 hz1 hz2 rfl (by decide) (by decide) _ _ _ (by rfl) ho4 #[strV t, strV pk] (by simp [Act.eval]) rfl ?c1 ?c2 hsz ?_))
            case c1 => simp [Value.oneCell']
            case c2 => omega
            intro g6 cap6 w6 hown6 hg6 hat6 hlt6 hsz6
            have q6 : Q w2 w6 := grown_below HQ4.out ho4 hg6 (Nat.le_refl _) (by omega)
            have hown6 : w6.ownsRow w2.heap.size 125 2 (.slice (some ⟨g6, 0, none⟩) (k + 1) cap6) (k + 1) (pairVs ((entsL l).take (k + 1))) := by
              rw [HST.out, pairVs_append]; simpa using hown6
            have HO6 := Lib.hid hown6; have HQ6 := Lib.hid q6
            clear hown6 q6 hg6 hat6 ho4 t4
            go_wp2_with fail
            go_roundw
            case rel => exact ⟨k + 1, by omega, by go_num, HO6, HQ6⟩
            case measure => simp [intOf]; omega
          · have hke : k = (termsL l).length := by omega
            subst hke
            have ho := HO.out
            rw [List.take_of_length_le (by omega)] at ho
            obtain ⟨da, dcap, rfl, _⟩ := owns_value ho
            have hcp := owns_cap ho
            have hpairs : Pairs wk (.slice da (termsL l).length dcap) (entsL l) := by have := Sl.of_owns ho; unfold Pairs; rw [hel]; exact this
            have cpk := RDPack_ok _ (entsL l) wk hpairs (by omega) HSM.out (fun a n c e => by cases e; exact hcp) HENT.out
            generalize dictE (entsL l) = dx at *
            have ctx := fun W => RText_big dx W (by omega)
            generalize textE dx = tdx at *
            obtain ⟨sf, hsf⟩ : ∃ sf, sf = s ++ tdx := ⟨_, rfl⟩
            have hsfl : sf.length = s.length + tdx.length := by rw [hsf, List.length_append]
            have ccr := fun W => RCrc_any sf W (by omega)
            have cfx := fun W => RFixed_any (crcL sf) W (crcL_lt sf)
            have hfl : (fixedL (crcL sf)).length = 4 := length_fixedL _
            rw [← hsf] at HRES
            generalize crcL sf = cs at *
            generalize fixedL cs = fx at *
            have CPK := Lib.hid cpk; have CTX := Lib.hid ctx; have CCR := Lib.hid ccr; have CFX := Lib.hid cfx; have HSF := Lib.hid hsf
            clear cpk ctx ccr cfx hsf hpairs ho hcp HO
            go_wp2_with fail
            refine CPK.out.mono ?_
            rintro e w5 ⟨rfl, q5⟩
            have HQ5 := Lib.hid ((HQ2.out.trans HQk.out).trans q5)
            clear q5 CPK
            go_wp2_with fail
            refine (CTX.out _).mono ?_
            rintro e w6 ⟨rfl, q6⟩
            have HQ6 := Lib.hid (HQ5.out.trans q6)
            clear q6 CTX
            go_wp2_with fail
            rw [bytes_append, ← HSF.out]
            refine (CCR.out _).mono ?_
            rintro e w7 ⟨rfl, rfl⟩
            go_wp2_with fail
            refine (CFX.out _).mono ?_
            rintro e w8 ⟨rfl, q8⟩
            have HQ8 := Lib.hid (HQ6.out.trans q8)
            clear q8 CFX
            go_wp2_with fail
            go_ret2
            exact ⟨by rw [HRES.out]; exact congrArg (fun b => Ending.returned (.tuple #[.string b, .int .i64 0])) (bytes_append _ _), HQ8.out⟩
end Go.Proofs.YtcblmcbpnakphaaGreatDoor
