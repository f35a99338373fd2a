/- codexlaw15.LiveSays: walked. -/
import Derived.Test.YtepofekepagfhaaGreatDoorMWShown15ToTabs
import Derived.Test.YtepofekepagfhaaGreatDoorMLive2ToWMerge
set_option linter.unusedSimpArgs false
set_option linter.unusedVariables false
set_option linter.unnecessarySimpa false
namespace Go.Proofs.YtepofekepagfhaaGreatDoor
open Go.RowKit
set_option linter.unusedVariables false

theorem apply_bad (ps : List PartL) (ops : List OpL) (h : (applyL ps ops).2.2 ≠ 0) : (applyL ps ops).1 = ps := by
  unfold applyL at h ⊢
  split at h
  · rename_i h1; rw [if_pos h1]
  · rename_i h1
    rw [if_neg h1]
    split at h
    · exact absurd rfl h
    · rename_i h2; rw [if_neg h2]
theorem says_at (ps : List PartL) (ops : List OpL) (h : PartsOk ps) (he : (applyL ps ops).2.2 = 0) (k : Nat) (hk : k < ops.length) (hb : ∀ j (hj : j < ops.length), k < j → ops[j].2.1 ≠ ops[k].2.1) :
    getL (applyL ps ops).1 ops[k].2.1 = (if ops[k].1 then none else some ops[k].2.2) ∧ (ops[k].1 = true → ops[k].2.2 = []) := by
  have e : ops = ops.take k ++ ops[k] :: ops.drop (k + 1) := by rw [← List.drop_eq_getElem_cons hk, List.take_append_drop]
  refine ⟨?_, fun hd => ?_⟩
  · have h1 := says_last ps (ops.take k) ops[k] (ops.drop (k + 1)) h (by rw [← e]; exact he) (fun hm => by
      obtain ⟨y, hy, e1⟩ := List.mem_map.1 hm
      obtain ⟨j, hj, e2⟩ := List.mem_iff_getElem.1 hy
      rw [List.getElem_drop] at e2
      rw [List.length_drop] at hj
      exact hb (k + 1 + j) (by omega) (by omega) (by rw [e2]; exact e1))
    rw [← e] at h1
    exact h1
  · have h1 := ((apply_ok_of ps ops).1 he).2
    have h2 := List.all_eq_true.1 h1 _ (List.getElem_mem hk)
    unfold opRight at h2
    rw [if_pos hd] at h2
    simp only [Bool.and_eq_true] at h2
    exact List.isEmpty_iff.1 h2.2
theorem says_none (ps : List PartL) (ops : List OpL) (h : PartsOk ps) (he : (applyL ps ops).2.2 = 0) (id : Bytes) (hb : ∀ j (hj : j < ops.length), ops[j].2.1 ≠ id) : getL (applyL ps ops).1 id = getL ps id :=
  says_other ps ops h he id (fun hm => by
    obtain ⟨y, hy, e1⟩ := List.mem_map.1 hm
    obtain ⟨j, hj, e2⟩ := List.mem_iff_getElem.1 hy
    exact hb j hj (by rw [e2]; exact e1))
set_option maxRecDepth 100000 in
set_option maxHeartbeats 8000000 in
theorem Says_walk (v : Value) (l : List ActL) (ov : Value) (ops : List OpL) (id : Bytes) (w : World) (hv : Acts w v l) (ho : Ops w ov ops) (hlw : ActsWf l) (how : OpsWf ops) (hidl : id.length ≤ 9223372036854775807) (hT : Tabs w) (hSp : Spans w) :
    Calls Tryz.prog 7 #[v, ov, .string ⟨id.toArray⟩] w fun e w' => e = .returned (.bool true) ∧ Q w w' := by
  have csh := Shown15 w hT hSp
  have csm := fun W (q : Q w W) => Small_any v l W (hv.stays q) hlw.1 hlw.2
  obtain ⟨a1, c1, hva, hcell⟩ := hv.value
  obtain ⟨a2, c2, hoa, hocell⟩ := ho.value
  subst hva hoa
  have HC := Lib.hid hcell; have HOC := Lib.hid hocell; have HO := Lib.hid ho; have HT := Lib.hid hT; have HSP := Lib.hid hSp; have CSH := Lib.hid csh; have HOW := Lib.hid how.2
  have hol := how.1
  clear hv ho hT hSp csh hlw how hcell hocell
  cases hs1 : smallB l with
  | false =>
    rw [hs1] at csm
    have HS1 := Lib.hid hs1; have CSM := Lib.hid csm
    clear hs1 csm
    go_enter Tryz.func7, Tryz.ntmps7
    go_wp2_with fail
    refine CSH.out.mono ?_
    rintro e w1 ⟨rfl, q1⟩
    have HQ1 := Lib.hid q1; clear q1
    go_wp2_with fail
    refine (CSM.out w1 HQ1.out).mono ?_
    rintro e w2 ⟨rfl, rfl⟩
    go_wp2_with fail
    go_ret
    exact ⟨rfl, HQ1.out⟩
  | true =>
    rw [hs1] at csm
    obtain ⟨hf1, hf2⟩ := smallB_facts hs1
    have HS1 := Lib.hid hs1; have CSM := Lib.hid csm
    clear hs1 csm
    by_cases hbig : 60 < ops.length ∨ 200 < id.length
    · have h1 : ((60 : Int) < (ops.length : Int)) ∨ ((200 : Int) < (id.length : Int)) := by omega
      have HBIG := Lib.hid hbig
      clear hbig
      by_cases h60 : (60 : Int) < (ops.length : Int)
      · clear h1
        go_enter Tryz.func7, Tryz.ntmps7
        go_wp2_with fail
        refine CSH.out.mono ?_
        rintro e w1 ⟨rfl, q1⟩
        have HQ1 := Lib.hid q1; clear q1
        go_wp2_with fail
        refine (CSM.out w1 HQ1.out).mono ?_
        rintro e w2 ⟨rfl, rfl⟩
        go_wp2_with fail
        go_ret
        exact ⟨rfl, HQ1.out⟩
      · have h200 : (200 : Int) < (id.length : Int) := by omega
        clear h1
        go_enter Tryz.func7, Tryz.ntmps7
        go_wp2_with fail
        refine CSH.out.mono ?_
        rintro e w1 ⟨rfl, q1⟩
        have HQ1 := Lib.hid q1; clear q1
        go_wp2_with fail
        refine (CSM.out w1 HQ1.out).mono ?_
        rintro e w2 ⟨rfl, rfl⟩
        go_wp2_with fail
        go_ret
        exact ⟨rfl, HQ1.out⟩
    · have h60 : ¬ ((60 : Int) < (ops.length : Int)) := by omega
      have h200 : ¬ ((200 : Int) < (id.length : Int)) := by omega
      clear hbig
      have HL2 := Lib.hid hf2; clear hf2
      go_enter Tryz.func7, Tryz.ntmps7
      go_wp2_with fail
      refine CSH.out.mono ?_
      rintro e w1 ⟨rfl, q1⟩
      have HQ1 := Lib.hid q1; clear q1
      go_wp2_with fail
      refine (CSM.out w1 HQ1.out).mono ?_
      rintro e w2 ⟨rfl, rfl⟩
      go_wp2_with fail
      have hq0 := HQ1.out.trans (Q.alloc w1 (.cells #[.slice none 0 0] 30))
      have hi0 : ∃ a c, Boxed (w1.alloc (.cells #[.slice none 0 0] 30)) w1.heap.size 30 (.slice a (madeL l 0).length c) ∧ PartsAt (w1.alloc (.cells #[.slice none 0 0] 30)) (.slice a (madeL l 0).length c) (madeL l 0) := ⟨none, 0, Boxed.new _ _ _, PartsAt.nil _⟩
      have H0 := Lib.hid hi0; have HQ0 := Lib.hid hq0
      clear hi0 hq0 CSM CSH
      have hX : w.heap.size ≤ w1.heap.size := HQ1.out.size
      go_loopw [10] (fun x wr => ∃ k : Nat, x = .int .i64 (k : Nat) ∧ k ≤ l.length ∧ Hid (∃ a c, Boxed wr w1.heap.size 30 (.slice a (madeL l k).length c) ∧ PartsAt wr (.slice a (madeL l k).length c) (madeL l k)) ∧ Hid (Q w wr)) (fun x _ => l.length - (intOf x).toNat)
      case atStart => exact ⟨0, rfl, by omega, H0, HQ0⟩
      case round =>
        obtain ⟨k, rfl, hk, HI, HQ⟩ := hrel
        obtain ⟨wo, rfl⟩ : ∃ wo : World, wo = wr := ⟨_, rfl⟩
        obtain ⟨pa, pc, b3, hp⟩ := HI.out
        have hml := madeL_ok l k hk
        by_cases hlt : k < l.length
        · obtain ⟨b, off, rfl, hc⟩ := HC.out (by omega)
          obtain ⟨ov, c0, c1, c2, c3, hops⟩ := hc k hlt
          obtain ⟨hl1, hl2⟩ := HL2.out _ (List.getElem_mem hlt)
          have hbl := cell_lt c0
          simp only at hbl
          have hms := madeL_succ l k hlt
          have k0 := cell_stays HQ.out c0
          have k1 := cell_stays HQ.out c1
          have k2 := cell_stays HQ.out c2
          have k3 := cell_stays HQ.out c3
          have hi0 : (0 : Int) ≤ (k : Int) := by omega
          have hi1 : (k : Int) < (l.length : Int) := by omega
          have cdo := fun (W : World) (hq : Q wo W) => Does_any _ (madeL l k) ov l[k] W (hp.stays hq) ((hops.stays HQ.out).stays hq) (by omega) (fun o ho => by have := hl2 o ho; omega) (by omega) hml.1 ((HT.out.stays HQ.out).stays hq) ((HSP.out.stays HQ.out).stays hq)
          have b3c := b3.cell
          obtain ⟨oa, oc, hov, _⟩ := hops.value
          have CDO := Lib.hid cdo; have HMS := Lib.hid hms; have B3 := Lib.hid b3
          clear cdo hc c0 c1 c2 c3 hops hl1 hl2 hms b3 hp hml HI
          generalize l[k] = act at *
          obtain ⟨aops, am, ai, aj⟩ := act
          subst hov
          simp only at k0 k1 k2 k3
          have hmx : Tryz.prog.follows .mixedOrders = true := by kernel_rfl
          generalize hmk : madeL l k = mk at *
          have HMK := Lib.hid hmk
          clear hmk
          go_wp2_with fail
          go_region_law
            (first
              | (go_simp; go_at_call 25; refine (CDO.out _ (by first | exact Q.refl _ | exact Q.drew _)).mono ?_; rintro e w' ⟨⟨v', rfl, hp1⟩, q⟩; obtain ⟨xa, xcap, rfl, _⟩ := hp1.value; have qz := (Q.drew wo).trans q; have b1 := block_stays' qz B3.out; have c9 := Boxed.cell b1; have f9 := Boxed.frozen b1; have B1 := Lib.hid b1; have HP1 := Lib.hid hp1; clear hp1 q b1))
          all_goals
            have hpb := PartsAt.setBox B1.out (.slice xa (doesL mk (aops, am, ai, aj)).1.length xcap) HP1.out (by decide)
            have hbb := Boxed.set (.slice xa (doesL mk (aops, am, ai, aj)).1.length xcap) B1.out
            have hqq : Q w (w'.setCell ⟨w1.heap.size, 0, none⟩ (.slice xa (doesL mk (aops, am, ai, aj)).1.length xcap)) := (HQ.out.trans qz).setCell (by simpa using hX) _
            have hii : ∃ a c, Boxed (w'.setCell ⟨w1.heap.size, 0, none⟩ (.slice xa (doesL mk (aops, am, ai, aj)).1.length xcap)) w1.heap.size 30 (.slice a (madeL l (k + 1)).length c) ∧ PartsAt (w'.setCell ⟨w1.heap.size, 0, none⟩ (.slice xa (doesL mk (aops, am, ai, aj)).1.length xcap)) (.slice a (madeL l (k + 1)).length c) (madeL l (k + 1)) := by
              rw [HMS.out]; exact ⟨xa, xcap, hbb, hpb⟩
            have HII := Lib.hid hii; have HQQ := Lib.hid hqq
            clear hpb hbb hqq hii c9 f9
            go_wp2_with fail
            go_roundw
            case rel => exact ⟨k + 1, by go_num, by omega, HII, HQQ⟩
            case measure => simp [intOf]; omega
        · have hke : k = l.length := by omega
          subst hke
          obtain ⟨hmo, hmle⟩ := hml
          generalize madeL l l.length = ps at *
          have b3c := b3.cell
          have cg := LGet_any _ ps id wo hp (by omega) hmo.1
          have HB3 := Lib.hid b3; have HP := Lib.hid hp; have HMO := Lib.hid hmo; have CG := Lib.hid cg
          clear b3 hp hmo cg HI H0 HQ0
          go_wp2_with fail
          refine CG.out.mono ?_
          rintro e w3 ⟨rfl, q3⟩
          have cm := Many_any _ ps w3 (HP.out.stays q3) (by omega) HMO.out.1
          have k3 := cell_stays q3 b3c
          have CM := Lib.hid cm; have Q3 := Lib.hid q3
          clear cm q3 b3c CG
          go_wp2_with fail
          refine CM.out.mono ?_
          rintro e w4 ⟨rfl, q4⟩
          have cap := Apply_any _ ps _ ops w4 (HP.out.stays (Q3.out.trans q4)) (HO.out.stays (HQ.out.trans (Q3.out.trans q4))) (by omega) HOW.out (by omega) HMO.out.1 (HT.out.stays (HQ.out.trans (Q3.out.trans q4))) (HSP.out.stays (HQ.out.trans (Q3.out.trans q4)))
          have k4 := cell_stays q4 k3
          have CAP := Lib.hid cap; have Q4 := Lib.hid (Q3.out.trans q4)
          clear cap q4 k3 CM Q3
          go_wp2_with fail
          refine CAP.out.mono ?_
          rintro e w5 ⟨⟨v5, rfl, hp5⟩, q5⟩
          have hpo2 := apply_ok ps ops HMO.out
          have hpl := apply_length ps ops
          have hne : (applyL ps ops).2.2 = 0 → ops.length ≠ 0 := fun h e => by have := ((apply_ok_of ps ops).1 h).1; omega
          have hat := says_at ps ops HMO.out
          have hno := says_none ps ops HMO.out
          have hbad := apply_bad ps ops
          generalize (applyL ps ops).2.1 = S at *
          generalize (applyL ps ops).2.2 = E at *
          generalize (applyL ps ops).1 = p2 at *
          obtain ⟨a5, c5, rfl, _⟩ := hp5.value
          have hx5 := Q.alloc w5 (.cells #[.slice a5 p2.length c5] 30)
          have hst : TwSt w (w5.alloc (.cells #[.slice a5 p2.length c5] 30)) w1.heap.size w5.heap.size (.slice pa ps.length pc) (.slice a5 p2.length c5) ps p2 :=
            ⟨HP.out.stays ((Q4.out.trans q5).trans hx5), hp5.stays hx5, block_stays' ((Q4.out.trans q5).trans hx5) HB3.out, Boxed.new _ _ _, (HQ.out.trans (Q4.out.trans q5)).trans hx5⟩
          have k1 := hst.b1.cell
          have k2 := hst.b2.cell
          have cg2 := LGet_any _ p2 id _ hst.p2 (by omega) hpo2.1
          have KK := Lib.hid hst; have CG2 := Lib.hid cg2; have HP2 := Lib.hid hpo2; have HAT := Lib.hid hat; have HNO := Lib.hid hno; have HBAD := Lib.hid hbad; have HNE := Lib.hid hne
          clear hne cg2 hst hx5 q5 hp5 hpo2 hat hno hbad HB3 HP Q4 HQ CAP k4
          go_wp2_with fail
          refine CG2.out.mono ?_
          rintro e w6 ⟨rfl, q6⟩
          have hst := KK.out.stays q6
          have k1' := hst.b1.cell
          have k2' := hst.b2.cell
          have cm1 := Many_any _ ps w6 hst.p1 (by omega) HMO.out.1
          have cm2 := Many_any _ p2 w6 hst.p2 (by omega) HP2.out.1
          have cg1 := LGet_any _ ps id w6 hst.p1 (by omega) HMO.out.1
          clear k1 k2 KK CG2 q6
          have KK := Lib.hid hst; have CM1 := Lib.hid cm1; have CM2 := Lib.hid cm2; have CG1 := Lib.hid cg1
          clear hst cm1 cm2 cg1
          by_cases hE : E = 0
          · have HE := Lib.hid hE
            have hEi : (E != 0) = false := by simp [hE]
            clear hE
            have hgn : (∀ (j : Nat) (hj : j < ops.length), ops[j].2.1 ≠ id) → getL p2 id = getL ps id := fun hb => HNO.out HE.out id hb
            have hga : ∀ (k : Nat) (hk : k < ops.length), ops[k].2.1 = id → (∀ j (hj : j < ops.length), k < j → ops[j].2.1 ≠ id) → getL p2 id = (if ops[k].1 then none else some ops[k].2.2) ∧ (ops[k].1 = true → ops[k].2.2 = []) := by
              intro k hk e hb
              have := HAT.out HE.out k hk (by rw [e]; exact hb)
              rw [e] at this
              exact this
            have HGN := Lib.hid hgn; have HGA := Lib.hid hga
            clear hgn hga HAT HNO HBAD
            have hlen : 0 < ops.length := by
              rcases Nat.eq_zero_or_pos ops.length with h0 | h0
              · exact absurd h0 (by have := HNE.out HE.out; omega)
              · exact h0
            go_wp2_with fail
            go_loop [19] (fun x => (∃ m : Nat, x = .int .i64 (m : Nat) ∧ m < ops.length ∧ Hid (∀ (j : Nat) (hj : j < ops.length), m < j → ops[j].2.1 ≠ id)) ∨ (x = .int .i64 (-1) ∧ Hid (∀ (j : Nat) (hj : j < ops.length), ops[j].2.1 ≠ id))) (fun x => (intOf x + 1).toNat)
            case atStart => exact .inl ⟨ops.length - 1, by go_num, by omega, fun j hj h => by omega⟩
            case round =>
              rcases hrel with ⟨m, rfl, hm, HM⟩ | ⟨rfl, HM⟩
              · obtain ⟨b, off, rfl, hc⟩ := HOC.out hlen
                obtain ⟨o0, o1, o2⟩ := hc m hm
                have o0 := cell_stays KK.out.q o0
                have o1 := cell_stays KK.out.q o1
                have o2 := cell_stays KK.out.q o2
                have hm0 : (0 : Int) ≤ (m : Int) := by omega
                have hm1 : (m : Int) < (ops.length : Int) := by omega
                have hga := HGA.out m hm
                clear hc
                by_cases hid : ops[m].2.1 = id
                · obtain ⟨hg1, hg2⟩ := hga hid HM.out
                  have HID := Lib.hid hid; have HG1 := Lib.hid hg1; have HG2 := Lib.hid hg2
                  generalize ops[m] = o at *
                  obtain ⟨d, i1, t1⟩ := o
                  simp only at hid o0 o1 o2 hg1 hg2
                  subst hid
                  have hs : (getL p2 i1).isSome = !d := by rw [HG1.out]; cases d <;> rfl
                  have hd : (getL p2 i1).getD [] = t1 := by
                    rw [HG1.out]; cases d with
                    | true => exact (HG2.out rfl).symm
                    | false => rfl
                  rw [hs, hd]
                  clear hga hg1 hg2 hs hd
                  go_wp2_with fail
                  go_ret
                  exact ⟨rfl, KK.out.q⟩
                · have hne : (ops[m].2.1 == id) = false := by simpa using hid
                  have hre : (∃ k : Nat, m = k + 1) ∨ m = 0 := by
                    cases m with
                    | zero => exact .inr rfl
                    | succ k => exact .inl ⟨k, rfl⟩
                  have hmm : ∀ (j : Nat) (hj : j < ops.length), m ≤ j → ops[j].2.1 ≠ id := by
                    intro j hj hmj
                    rcases Nat.lt_or_eq_of_le hmj with h | h
                    · exact HM.out j hj h
                    · subst h; exact hid
                  have HMM := Lib.hid hmm; have HRE := Lib.hid hre; have HID := Lib.hid hid
                  clear hmm hre hga hid
                  generalize ops[m] = o at *
                  obtain ⟨d, i1, t1⟩ := o
                  simp only at hne o0 o1 o2
                  go_wp2_with fail
                  go_roundw
                  case rel =>
                    rcases HRE.out with ⟨k, hk⟩ | h0
                    · exact .inl ⟨k, (by rw [hk]; try go_num), by omega, fun j hj h => HMM.out j hj (by omega)⟩
                    · exact .inr ⟨by rw [h0]; rfl, fun j hj => HMM.out j hj (by omega)⟩
                  case measure => simp [intOf]
              · have hgn := HGN.out HM.out
                have HGN2 := Lib.hid hgn
                rw [hgn]
                clear hgn
                go_wp2_with fail
                refine CG1.out.mono ?_
                rintro e w8 ⟨rfl, q8⟩
                have k8 := cell_stays q8 k1'
                have cm8 := Many_any _ ps w8 (KK.out.p1.stays q8) (by omega) HMO.out.1
                have CM8 := Lib.hid cm8; have Q8 := Lib.hid q8
                clear cm8 q8
                go_wp2_with fail
                refine CM8.out.mono ?_
                rintro e w9 ⟨rfl, q9⟩
                go_wp2_with fail
                go_ret
                exact ⟨rfl, (KK.out.q.trans Q8.out).trans q9⟩
          · have hEi : (E != 0) = true := by simpa using hE
            obtain rfl := HBAD.out hE
            clear hE HAT HNO HBAD
            go_wp2_with fail
            refine CM2.out.mono ?_
            rintro e w7 ⟨rfl, q7⟩
            go_wp2_with fail
            go_ret
            exact ⟨rfl, KK.out.q.trans q7⟩
end Go.Proofs.YtepofekepagfhaaGreatDoor
