/- Joined texts of one proof: WLaw15a, WLaw15b, Shown15, WShownT. -/
import Derived.Test.YtepofekepagfhaaGreatDoorMLive2ToWMerge
import Derived.Laws.StructEq
import Derived.Deep.RegionHeld3
import Derived.Deep.RegionLaw
set_option linter.unusedSimpArgs false
set_option linter.unusedVariables false
set_option linter.unnecessarySimpa false
/- (WLaw15a) codexlaw15: sameDocs, small, does, made, doc, gone: walked. -/
section
namespace Go.Proofs.YtepofekepagfhaaGreatDoor
open Go.RowKit
set_option linter.unusedVariables false

theorem bytes_eqb (a b : Bytes) : (({ data := a.toArray } : ByteArray).toList == ({ data := b.toArray } : ByteArray).toList) = decide (a = b) := by
  rw [ByteArray.toList_eq, ByteArray.toList_eq]
  by_cases h : a = b <;> simp [h]
theorem eqDoc (i1 t1 i2 t2 : Bytes) (w : World) : (Op.equalIn 10000 40 (.agg #[strV i1, strV t1]) (.agg #[strV i2, strV t2])).run Tryz.prog w = .ok (decide (((i1, t1) : DocL) = (i2, t2))) w := by
  have u9 := Tryz.underlying9
  have hS : Tryz.prog.underlying 40 = some (.struct (Tryz.prog.fieldsOf 40)) := by kernel_rfl
  have hp : Tryz.prog.stoodInHeld 40 = false := by kernel_rfl
  rw [show (10000 : Nat) = 9999 + 1 from rfl, run_equalIn_agg w 9999 40 _ _ hS hp]
  simp only [Program.fieldsOf, Tryz.underlying40]
  go_simp
  by_cases h1 : i1 = i2 <;> by_cases h2 : t1 = t2 <;> simp [h1, h2, bytes_eqb]
set_option maxRecDepth 100000 in
set_option maxHeartbeats 2000000 in
theorem sameDocs_any (va vb : Value) (la lb : List DocL) (w : World) (ha : Docs w va la) (hb : Docs w vb lb) (hna : la.length ≤ 1000000000) (hnb : lb.length ≤ 1000000000) :
    Calls Tryz.prog 20 #[va, vb] w fun e w' => e = .returned (.bool (decide (la = lb))) ∧ Q w w' := by
  obtain ⟨aa, ca, rfl, hca⟩ := ha.value
  obtain ⟨ab, cb, rfl, hcb⟩ := hb.value
  have HA := Lib.hid hca; have HB := Lib.hid hcb
  clear ha hb hca hcb
  by_cases hl : la.length = lb.length
  · have HLL := Lib.hid hl
    rw [← hl]
    clear hl
    go_enter Tryz.func20, Tryz.ntmps20
    go_wp2_with fail
    go_loopw [5] (fun x wr => ∃ k : Nat, x = .int .i64 (k : Nat) ∧ k ≤ la.length ∧ Hid (la.take k = lb.take k) ∧ Hid (Q w wr)) (fun x _ => la.length - (intOf x).toNat)
    case atStart => exact ⟨0, rfl, by omega, rfl, Q.refl w⟩
    case round =>
      obtain ⟨k, rfl, hk, HT, HQ⟩ := hrel
      obtain ⟨wo, rfl⟩ : ∃ wo : World, wo = wr := ⟨_, rfl⟩
      by_cases hlt : k < la.length
      · obtain ⟨b1, o1, rfl, hc1⟩ := HA.out (by omega)
        have hltb : k < lb.length := by have := HLL.out; omega
        obtain ⟨b2, o2, rfl, hc2⟩ := HB.out (by omega)
        obtain ⟨x1, x2⟩ := hc1 k hlt
        obtain ⟨y1, y2⟩ := hc2 k hltb
        have k1 := cell_stays HQ.out x1
        have k2 := cell_stays HQ.out x2
        have k3 := cell_stays HQ.out y1
        have k4 := cell_stays HQ.out y2
        have hta := List.take_succ_eq_append_getElem hlt
        have htb := List.take_succ_eq_append_getElem hltb
        have hi0 : (0 : Int) ≤ (k : Int) := by omega
        have hi1 : (k : Int) < (la.length : Int) := by omega
        generalize hda : la[k] = da at *
        generalize hdb : lb[k] = db at *
        have HTA := Lib.hid hta; have HTB := Lib.hid htb; have HDA := Lib.hid hda; have HDB := Lib.hid hdb
        clear hc1 hc2 x1 x2 y1 y2 hta htb hda hdb
        obtain ⟨i1, t1⟩ := da
        obtain ⟨i2, t2⟩ := db
        simp only at k1 k2 k3 k4
        have hm : Tryz.prog.eqGuardType Tryz.prog.depth 40 = false := by kernel_rfl
        have heq := fun w => eqDoc i1 t1 i2 t2 w
        by_cases hd : ((i1, t1) : DocL) = (i2, t2)
        · rw [decide_eq_true hd] at heq
          have HD := Lib.hid hd; clear hd
          go_wp2_with fail
          go_quiet (fail)
          go_wp2_with fail
          go_roundw
          case rel => exact ⟨k + 1, by go_num, by omega, by show _ = _; rw [HTA.out, HTB.out, HT.out, HD.out], HQ.out.trans (Q.drewN _ _)⟩
          case measure => simp [intOf]; omega
        · rw [decide_eq_false hd] at heq
          have HD := Lib.hid hd; clear hd
          go_wp2_with fail
          go_quiet (fail)
          go_wp2_with fail
          go_ret
          have hdf : decide (la = lb) = false := by
            rw [decide_eq_false]; intro e
            have h1 := HTA.out; have h2 := HTB.out
            rw [← e, h1] at h2
            exact HD.out (by simpa using h2)
          exact ⟨by rw [hdf]; rfl, HQ.out.trans (Q.drewN _ _)⟩
      · have hke : k = la.length := by omega
        subst hke
        go_wp2_with fail
        go_ret
        have hdt : decide (la = lb) = true := by
          rw [decide_eq_true]
          have := HT.out
          rw [List.take_length, HLL.out, List.take_length] at this
          exact this
        exact ⟨by rw [hdt]; rfl, HQ.out⟩
  · have hne : ((la.length : Int) != (lb.length : Int)) = true := by simp; omega
    have HL := Lib.hid hl
    clear hl
    go_enter Tryz.func20, Tryz.ntmps20
    go_wp2_with fail
    go_ret
    have hdf : decide (la = lb) = false := decide_eq_false (fun e => HL.out (by rw [e]))
    exact ⟨by rw [hdf]; rfl, Q.refl _⟩

/-! ### acts -/
abbrev ActL := List OpL × Bool × Int × Int
abbrev actVs (vs : List Value) (l : List ActL) : List Value := (vs.zip l).flatMap fun x => [x.1, .bool x.2.2.1, .int .i64 x.2.2.2.1, .int .i64 x.2.2.2.2]
def Acts (w : World) (v : Value) (l : List ActL) : Prop := ∃ vs : List Value, vs.length = l.length ∧ Sl w v l.length 4 (actVs vs l) ∧ ∀ (i : Nat) (a : Value) (b : ActL), vs[i]? = some a → l[i]? = some b → Ops w a b.1
theorem Acts.stays {w w' : World} {v : Value} {l : List ActL} (h : Acts w v l) (q : Q w w') : Acts w' v l := by
  obtain ⟨vs, h1, h2, h3⟩ := h
  exact ⟨vs, h1, h2.stays q, fun i a b ha hb => (h3 i a b ha hb).stays q⟩
theorem actVs_at (vs : List Value) (l : List ActL) (hl : vs.length = l.length) (k : Nat) (h : k < l.length) : (actVs vs l)[k * 4]? = some (vs[k]'(by omega)) ∧ (actVs vs l)[k * 4 + 1]? = some (.bool l[k].2.1) ∧ (actVs vs l)[k * 4 + 2]? = some (.int .i64 l[k].2.2.1) ∧ (actVs vs l)[k * 4 + 3]? = some (.int .i64 l[k].2.2.2) := by
  induction l generalizing vs k with
  | nil => simp at h
  | cons d l ih =>
    cases vs with
    | nil => simp at hl
    | cons v vs =>
      have e : actVs (v :: vs) (d :: l) = v :: .bool d.2.1 :: .int .i64 d.2.2.1 :: .int .i64 d.2.2.2 :: actVs vs l := by simp [actVs]
      cases k with
      | zero => rw [e]; exact ⟨rfl, rfl, rfl, rfl⟩
      | succ k =>
        have := ih vs (by simpa using hl) k (by simpa using h)
        rw [e, show (k + 1) * 4 = k * 4 + 1 + 1 + 1 + 1 by omega]
        exact this
theorem Acts.value {w : World} {v : Value} {l : List ActL} (h : Acts w v l) : ∃ a cap, v = .slice a l.length cap ∧ (0 < l.length → ∃ b off, a = some ⟨b, off, none⟩ ∧
    ∀ k (hk : k < l.length), ∃ ov, w.cell? ⟨b, off + k * 4, none⟩ = some ov ∧ w.cell? ⟨b, off + k * 4 + 1, none⟩ = some (.bool l[k].2.1) ∧ w.cell? ⟨b, off + k * 4 + 2, none⟩ = some (.int .i64 l[k].2.2.1) ∧ w.cell? ⟨b, off + k * 4 + 3, none⟩ = some (.int .i64 l[k].2.2.2) ∧ Ops w ov l[k].1) := by
  obtain ⟨vs, hl, ⟨_, a, cap, h2, h3⟩, h4⟩ := h
  refine ⟨a, cap, h2, fun hn => ?_⟩
  obtain ⟨b, off, h5, h6⟩ := h3 hn
  refine ⟨b, off, h5, fun k hk => ?_⟩
  obtain ⟨e0, e1, e2, e3⟩ := actVs_at vs l hl k hk
  exact ⟨_, h6 _ _ e0, h6 _ _ e1, h6 _ _ e2, h6 _ _ e3, h4 k _ _ (List.getElem?_eq_getElem (by omega)) (List.getElem?_eq_getElem hk)⟩
def smallO (o : OpL) : Bool := decide (o.2.1.length ≤ 100) && decide (o.2.2.length ≤ 2100)
def smallA (a : ActL) : Bool := decide (a.1.length ≤ 60) && a.1.all smallO
def smallB (l : List ActL) : Bool := decide (l.length ≤ 20) && l.all smallA
set_option maxRecDepth 100000 in
set_option maxHeartbeats 4000000 in
theorem Small_any (v : Value) (l : List ActL) (w : World) (hv : Acts w v l) (hn : l.length ≤ 9223372036854775807) (hl : ∀ a ∈ l, a.1.length ≤ 9223372036854775807 ∧ ∀ o ∈ a.1, o.2.1.length ≤ 9223372036854775807 ∧ o.2.2.length ≤ 9223372036854775807) :
    Calls Tryz.prog 17 #[v] w fun e w' => e = .returned (.bool (smallB l)) ∧ w = w' := by
  obtain ⟨a, cap, rfl, hcell⟩ := hv.value
  have HC := Lib.hid hcell; have HL := Lib.hid hl
  clear hv hcell hl
  by_cases h20 : l.length ≤ 20
  · have hsb : smallB l = l.all smallA := by unfold smallB; rw [decide_eq_true h20]; rfl
    have HSB := Lib.hid hsb; clear hsb
    have h20i : ¬ ((20 : Int) < (l.length : Int)) := by omega
    go_enter Tryz.func17, Tryz.ntmps17
    go_wp2_with fail
    go_loop [3] (fun x => ∃ k : Nat, x = .int .i64 (k : Nat) ∧ k ≤ l.length ∧ Hid (l.all smallA = (l.drop k).all smallA)) (fun x => l.length - (intOf x).toNat)
    case atStart => exact ⟨0, rfl, by omega, rfl⟩
    case round =>
      obtain ⟨k, rfl, hk, HK⟩ := hrel
      by_cases hlt : k < l.length
      · obtain ⟨b, off, rfl, hc⟩ := HC.out (by omega)
        obtain ⟨ov, c0, _, _, _, hops⟩ := hc k hlt
        obtain ⟨hl1, hl2⟩ := HL.out _ (List.getElem_mem hlt)
        have hall : l.all smallA = (smallA l[k] && (l.drop (k + 1)).all smallA) := by rw [HK.out, List.drop_eq_getElem_cons hlt, List.all_cons]
        have hi0 : (0 : Int) ≤ (k : Int) := by omega
        have hi1 : (k : Int) < (l.length : Int) := by omega
        generalize l[k] = act at *
        obtain ⟨ops, am⟩ := act
        obtain ⟨oa, oc, rfl, hoc⟩ := hops.value
        simp only at hl1 hl2 hoc c0
        have HALL := Lib.hid hall; have HOC := Lib.hid hoc; have HL2 := Lib.hid hl2
        clear hall hc hops hoc hl2
        by_cases h60 : ops.length ≤ 60
        · have h60i : ¬ ((60 : Int) < (ops.length : Int)) := by omega
          have hsa : smallA (ops, am) = ops.all smallO := by unfold smallA; rw [decide_eq_true h60]; rfl
          have HSA := Lib.hid hsa; clear hsa
          go_wp2_with fail
          go_loop [4] (fun x => ∃ j : Nat, x = .int .i64 (j : Nat) ∧ j ≤ ops.length ∧ Hid (ops.all smallO = (ops.drop j).all smallO)) (fun x => ops.length - (intOf x).toNat)
          case atStart => exact ⟨0, rfl, by omega, rfl⟩
          case round =>
            obtain ⟨j, rfl, hj, HJ⟩ := hrel
            by_cases hjl : j < ops.length
            · obtain ⟨b2, off2, rfl, hc2⟩ := HOC.out (by omega)
              obtain ⟨_, d1, d2⟩ := hc2 j hjl
              obtain ⟨hs1, hs2⟩ := HL2.out _ (List.getElem_mem hjl)
              have hal : ops.all smallO = (smallO ops[j] && (ops.drop (j + 1)).all smallO) := by rw [HJ.out, List.drop_eq_getElem_cons hjl, List.all_cons]
              have hj0 : (0 : Int) ≤ (j : Int) := by omega
              have hj1 : (j : Int) < (ops.length : Int) := by omega
              generalize ops[j] = o at *
              obtain ⟨ob, oid, otx⟩ := o
              simp only at d1 d2 hs1 hs2
              clear hc2
              by_cases h1 : oid.length ≤ 100
              · by_cases h2 : otx.length ≤ 2100
                · have hso : ops.all smallO = (ops.drop (j + 1)).all smallO := by rw [hal]; simp [smallO, h1, h2]
                  have HSO := Lib.hid hso
                  clear hso hal
                  have h1i : ¬ ((100 : Int) < (oid.length : Int)) := by omega
                  have h2i : ¬ ((2100 : Int) < (otx.length : Int)) := by omega
                  go_wp2_with fail
                  go_round
                  case rel => exact ⟨j + 1, by go_num, by omega, HSO⟩
                  case measure => simp [intOf]; omega
                · have hso : ops.all smallO = false := by rw [hal]; simp [smallO]; omega
                  have HSO := Lib.hid hso
                  clear hso hal
                  have h1i : ¬ ((100 : Int) < (oid.length : Int)) := by omega
                  have h2i : (2100 : Int) < (otx.length : Int) := by omega
                  go_wp2_with fail
                  go_ret
                  exact ⟨by rw [HSB.out, HALL.out, HSA.out, HSO.out]; rfl, rfl⟩
              · have hso : ops.all smallO = false := by rw [hal]; simp [smallO]; omega
                have HSO := Lib.hid hso
                clear hso hal
                have h1i : (100 : Int) < (oid.length : Int) := by omega
                go_wp2_with fail
                go_ret
                exact ⟨by rw [HSB.out, HALL.out, HSA.out, HSO.out]; rfl, rfl⟩
            · have hje : j = ops.length := by omega
              subst hje
              have hso : l.all smallA = (l.drop (k + 1)).all smallA := by rw [HALL.out, HSA.out, HJ.out, List.drop_length]; rfl
              have HSO := Lib.hid hso; clear hso
              go_wp2_with fail
              go_round
              case rel => exact ⟨k + 1, by go_num, by omega, HSO⟩
              case measure => simp [intOf]; omega
        · have h60i : (60 : Int) < (ops.length : Int) := by omega
          have hsa : smallA (ops, am) = false := by unfold smallA; rw [decide_eq_false h60]; rfl
          have HSA := Lib.hid hsa; clear hsa
          go_wp2_with fail
          go_ret
          exact ⟨by rw [HSB.out, HALL.out, HSA.out]; rfl, rfl⟩
      · have hke : k = l.length := by omega
        subst hke
        go_wp2_with fail
        go_ret
        exact ⟨by rw [HSB.out, HK.out, List.drop_length]; rfl, rfl⟩
  · have hsb : smallB l = false := by unfold smallB; rw [decide_eq_false h20]; rfl
    have HSB := Lib.hid hsb; clear hsb
    have h20i : (20 : Int) < (l.length : Int) := by omega
    go_enter Tryz.func17, Tryz.ntmps17
    go_wp2_with fail
    go_ret
    exact ⟨by rw [HSB.out]; rfl, rfl⟩
end Go.Proofs.YtepofekepagfhaaGreatDoor
end

/- (WLaw15b) codexlaw15: doc, gone, does, made: walked. -/
section
namespace Go.Proofs.YtepofekepagfhaaGreatDoor
open Go.RowKit
set_option linter.unusedVariables false

set_option maxRecDepth 100000 in
theorem doc_any (id tx : Bytes) (w : World) :
    Calls Tryz.prog 55 #[.string ⟨id.toArray⟩, .string ⟨tx.toArray⟩] w fun e w' => e = .returned (opV (false, (id, tx))) ∧ Q w w' := by
  go_enter Tryz.func55, Tryz.ntmps55
  go_wp2_with fail
  exact bodyPost_ret (v := opV (false, (id, tx))) (by simp [results, Tryz.results55, go_sem]) rfl ⟨rfl, Q.alloc _ _⟩
set_option maxRecDepth 100000 in
theorem gone_any (id : Bytes) (w : World) :
    Calls Tryz.prog 22 #[.string ⟨id.toArray⟩] w fun e w' => e = .returned (opV (true, (id, []))) ∧ Q w w' := by
  go_enter Tryz.func22, Tryz.ntmps22
  go_wp2_with fail
  exact bodyPost_ret (v := opV (true, (id, []))) (by simp [results, Tryz.results22, go_sem]) rfl ⟨rfl, Q.alloc _ _⟩
def doesL (ps : List PartL) (a : ActL) : List PartL × Bytes × Int := if a.2.1 then mergeL ps a.2.2.1 a.2.2.2 else applyL ps a.1
theorem does_ok (ps : List PartL) (a : ActL) (h : PartsOk ps) : PartsOk (doesL ps a).1 := by
  unfold doesL; split
  · exact merge_ok ps _ _ h
  · exact apply_ok ps _ h
theorem does_length (ps : List PartL) (a : ActL) : (doesL ps a).1.length ≤ ps.length + 1 := by
  unfold doesL; split
  · have := merge_length ps a.2.2.1 a.2.2.2; omega
  · exact apply_length ps _
set_option maxRecDepth 100000 in
set_option maxHeartbeats 2000000 in
theorem Does_any (v : Value) (ps : List PartL) (ov : Value) (a : ActL) (w : World) (hv : PartsAt w v ps) (hvo : Ops w ov a.1) (hon : a.1.length ≤ 1000000) (hl : ∀ o ∈ a.1, o.2.1.length ≤ 9223372036854775807 ∧ o.2.2.length ≤ 9223372036854775807)
    (hn : ps.length ≤ 1000000) (hpo : PartsOk ps) (hT : Tabs w) (hSp : Spans w) :
    Calls Tryz.prog 25 #[liveV v, .agg #[ov, .bool a.2.1, .int .i64 a.2.2.1, .int .i64 a.2.2.2]] w fun e w' => (∃ v', e = .returned (.tuple #[liveV v', strV (doesL ps a).2.1, .int .i64 (doesL ps a).2.2]) ∧ PartsAt w' v' (doesL ps a).1) ∧ Q w w' := by
  obtain ⟨ops, m, i, j⟩ := a
  simp only at hvo hon hl ⊢
  have hq0 : Q w (((w.alloc (.cells #[v] 30)).alloc (.cells #[ov, .bool m, .int .i64 i, .int .i64 j] 27)).alloc (.cells #[.slice none 0 0] 30)) := ((Q.alloc _ _).trans (Q.alloc _ _)).trans (Q.alloc _ _)
  have hbx : Boxed (((w.alloc (.cells #[v] 30)).alloc (.cells #[ov, .bool m, .int .i64 i, .int .i64 j] 27)).alloc (.cells #[.slice none 0 0] 30)) (w.heap.size + 2) 30 (.slice none 0 0) := by
    have := Boxed.new ((w.alloc (.cells #[v] 30)).alloc (.cells #[ov, .bool m, .int .i64 i, .int .i64 j] 27)) 30 (.slice none 0 0)
    simpa using this
  obtain ⟨a0, cap0, hva, _⟩ := hv.value
  obtain ⟨oa, oc, hoa, _⟩ := hvo.value
  have fin : ∀ (x : List PartL × Bytes × Int) (w1 : World) (v' : Value), Q (((w.alloc (.cells #[v] 30)).alloc (.cells #[ov, .bool m, .int .i64 i, .int .i64 j] 27)).alloc (.cells #[.slice none 0 0] 30)) w1 → PartsAt w1 v' x.1 →
      Boxed w1 (w.heap.size + 2) 30 (.slice none 0 0) ∧ PartsAt (w1.setCell ⟨w.heap.size + 2, 0, none⟩ v') v' x.1 ∧ (w1.setCell ⟨w.heap.size + 2, 0, none⟩ v').cell? ⟨w.heap.size + 2, 0, none⟩ = some v' ∧ Q w (w1.setCell ⟨w.heap.size + 2, 0, none⟩ v') := by
    intro x w1 v' q hp
    have b := block_stays' q hbx
    exact ⟨b, PartsAt.setBox b v' hp (by decide), (Boxed.set v' b).cell, (hq0.trans q).setCell (by simp) _⟩
  have FIN := Lib.hid fin
  cases m with
  | true =>
    have e : doesL ps (ops, true, i, j) = mergeL ps i j := rfl
    rw [e]
    have c := Merge_any v ps i j _ (hv.stays hq0) hn hpo (hT.stays hq0) (hSp.stays hq0)
    subst hva hoa
    have C := Lib.hid c
    clear c hv hvo hq0 hbx hT hSp hl fin e
    go_enter Tryz.func25, Tryz.ntmps25
    go_wp2_with fail
    refine C.out.mono ?_
    rintro e w1 ⟨⟨v', rfl, hp⟩, q⟩
    obtain ⟨xa, xcap, rfl, _⟩ := hp.value
    obtain ⟨b1, p1, r1, q1⟩ := FIN.out _ w1 _ q hp
    have c1 := b1.cell; have f1 := b1.frozen
    have P1 := Lib.hid p1; have R1 := Lib.hid r1; have Q1 := Lib.hid q1
    clear b1 p1 r1 q1 q hp
    go_wp2_with fail
    refine bodyPost_ret (v := .tuple #[liveV (.slice xa (mergeL ps i j).1.length xcap), strV (mergeL ps i j).2.1, .int .i64 (mergeL ps i j).2.2]) (by simp [results, Tryz.results25, go_sem, R1.out]) rfl ⟨⟨_, rfl, P1.out⟩, Q1.out⟩
  | false =>
    have e : doesL ps (ops, false, i, j) = applyL ps ops := rfl
    rw [e]
    have c := Apply_any v ps ov ops _ (hv.stays hq0) (hvo.stays hq0) hon hl hn hpo.1 (hT.stays hq0) (hSp.stays hq0)
    subst hva hoa
    have C := Lib.hid c
    clear c hv hvo hq0 hbx hT hSp hl fin e
    go_enter Tryz.func25, Tryz.ntmps25
    go_wp2_with fail
    refine C.out.mono ?_
    rintro e w1 ⟨⟨v', rfl, hp⟩, q⟩
    obtain ⟨xa, xcap, rfl, _⟩ := hp.value
    obtain ⟨b1, p1, r1, q1⟩ := FIN.out _ w1 _ q hp
    have c1 := b1.cell; have f1 := b1.frozen
    have P1 := Lib.hid p1; have R1 := Lib.hid r1; have Q1 := Lib.hid q1
    clear b1 p1 r1 q1 q hp
    go_wp2_with fail
    refine bodyPost_ret (v := .tuple #[liveV (.slice xa (applyL ps ops).1.length xcap), strV (applyL ps ops).2.1, .int .i64 (applyL ps ops).2.2]) (by simp [results, Tryz.results25, go_sem, R1.out]) rfl ⟨⟨_, rfl, P1.out⟩, Q1.out⟩
def madeL (l : List ActL) (k : Nat) : List PartL := (l.take k).foldl (fun ps a => (doesL ps a).1) []
theorem madeL_succ (l : List ActL) (k : Nat) (h : k < l.length) : madeL l (k + 1) = (doesL (madeL l k) l[k]).1 := by
  unfold madeL
  rw [List.take_succ_eq_append_getElem h, List.foldl_append]; rfl
theorem madeL_ok (l : List ActL) (k : Nat) (hk : k ≤ l.length) : PartsOk (madeL l k) ∧ (madeL l k).length ≤ k := by
  induction k with
  | zero => exact ⟨⟨by simp [madeL], by simp [madeL, liveL]⟩, by simp [madeL]⟩
  | succ k ih =>
    obtain ⟨h1, h2⟩ := ih (by omega)
    rw [madeL_succ l k (by omega)]
    exact ⟨does_ok _ _ h1, by have := does_length (madeL l k) l[k]; omega⟩
theorem PartsAt.nil (w : World) : PartsAt w (.slice none 0 0) [] := PartsAt.of [] rfl (fun i p q hp => by simp at hp) (Sl.nil _ _) (fun a n c e => by cases e; exact Nat.le_refl _)
set_option maxRecDepth 100000 in
set_option maxHeartbeats 4000000 in
theorem Made_any (v : Value) (l : List ActL) (w : World) (hv : Acts w v l) (hn : l.length ≤ 1000000) (hl : ∀ a ∈ l, a.1.length ≤ 1000000 ∧ ∀ o ∈ a.1, o.2.1.length ≤ 9223372036854775807 ∧ o.2.2.length ≤ 9223372036854775807) (hT : Tabs w) (hSp : Spans w) :
    Calls Tryz.prog 18 #[v] w fun e w' => (∃ v', e = .returned (liveV v') ∧ PartsAt w' v' (madeL l l.length)) ∧ Q w w' := by
  obtain ⟨a, cap, rfl, hcell⟩ := hv.value
  have HC := Lib.hid hcell; have HL := Lib.hid hl; have HT := Lib.hid hT; have HSP := Lib.hid hSp
  clear hv hcell hl hT hSp
  go_enter Tryz.func18, Tryz.ntmps18
  go_wp2_with fail
  have hq0 : Q w ((w.alloc (.cells #[.slice none 0 0] 30)).alloc (.cells #[.slice none 0 0] 30)) := (Q.alloc _ _).trans (Q.alloc _ _)
  have hb2 : Boxed ((w.alloc (.cells #[.slice none 0 0] 30)).alloc (.cells #[.slice none 0 0] 30)) w.heap.size 30 (.slice none 0 0) := (Boxed.new w _ _).alloc _
  have hb3 : Boxed ((w.alloc (.cells #[.slice none 0 0] 30)).alloc (.cells #[.slice none 0 0] 30)) (w.heap.size + 1) 30 (.slice none 0 0) := by
    have := Boxed.new (w.alloc (.cells #[.slice none 0 0] 30)) 30 (.slice none 0 0)
    simpa using this
  have hi0 : ∃ a c, Boxed ((w.alloc (.cells #[.slice none 0 0] 30)).alloc (.cells #[.slice none 0 0] 30)) (w.heap.size + 1) 30 (.slice a (madeL l 0).length c) ∧ PartsAt ((w.alloc (.cells #[.slice none 0 0] 30)).alloc (.cells #[.slice none 0 0] 30)) (.slice a (madeL l 0).length c) (madeL l 0) := ⟨none, 0, hb3, PartsAt.nil _⟩
  have H0 := Lib.hid hi0; have HB2 := Lib.hid hb2; have HQ0 := Lib.hid hq0
  clear hi0 hb2 hb3 hq0
  go_loopw [4] (fun x wr => ∃ k : Nat, x = .int .i64 (k : Nat) ∧ k ≤ l.length ∧ Hid (∃ a c, Boxed wr (w.heap.size + 1) 30 (.slice a (madeL l k).length c) ∧ PartsAt wr (.slice a (madeL l k).length c) (madeL l k)) ∧ Hid (Boxed wr w.heap.size 30 (.slice none 0 0)) ∧ Hid (Q w wr)) (fun x _ => l.length - (intOf x).toNat)
  case atStart => exact ⟨0, rfl, by omega, H0, HB2, HQ0⟩
  case round =>
    obtain ⟨k, rfl, hk, HI, HB, HQ⟩ := hrel
    obtain ⟨wo, rfl⟩ : ∃ wo : World, wo = wr := ⟨_, rfl⟩
    obtain ⟨pa, pc, b3, hp⟩ := HI.out
    have hml := madeL_ok l k hk
    by_cases hlt : k < l.length
    · obtain ⟨b, off, rfl, hc⟩ := HC.out (by omega)
      obtain ⟨ov, c0, c1, c2, c3, hops⟩ := hc k hlt
      obtain ⟨hl1, hl2⟩ := HL.out _ (List.getElem_mem hlt)
      have hbl := cell_lt c0
      simp only at hbl
      have hms := madeL_succ l k hlt
      have k0 := cell_stays HQ.out c0
      have k1 := cell_stays HQ.out c1
      have k2 := cell_stays HQ.out c2
      have k3 := cell_stays HQ.out c3
      have hi0 : (0 : Int) ≤ (k : Int) := by omega
      have hi1 : (k : Int) < (l.length : Int) := by omega
      have cdo := fun (W : World) (hq : Q wo W) => Does_any _ (madeL l k) ov l[k] W (hp.stays hq) ((hops.stays HQ.out).stays hq) hl1 hl2 (by omega) hml.1 ((HT.out.stays HQ.out).stays hq) ((HSP.out.stays HQ.out).stays hq)
      have b3c := b3.cell
      obtain ⟨oa, oc, hov, _⟩ := hops.value
      have CDO := Lib.hid cdo; have HMS := Lib.hid hms; have B3 := Lib.hid b3
      clear cdo hc c0 c1 c2 c3 hops hl1 hl2 hms b3 hp hml HI
      generalize l[k] = act at *
      obtain ⟨ops, am, ai, aj⟩ := act
      subst hov
      simp only at k0 k1 k2 k3
      have hmx : Tryz.prog.follows .mixedOrders = true := by kernel_rfl
      generalize hmk : madeL l k = mk at *
      have HMK := Lib.hid hmk
      clear hmk
      go_wp2_with fail
      go_region_law
        (first
          | (go_simp; go_at_call 25; refine (CDO.out _ (by first | exact Q.refl _ | exact Q.drew _)).mono ?_; rintro e w' ⟨⟨v', rfl, hp1⟩, q⟩; obtain ⟨xa, xcap, rfl, _⟩ := hp1.value; have qz := (Q.drew wo).trans q; have b1 := block_stays' qz B3.out; have c9 := Boxed.cell b1; have f9 := Boxed.frozen b1; have B1 := Lib.hid b1; have HP1 := Lib.hid hp1; clear hp1 q b1))
      all_goals
        have hpb := PartsAt.setBox B1.out (.slice xa (doesL mk (ops, am, ai, aj)).1.length xcap) HP1.out (by decide)
        have hbb := Boxed.set (.slice xa (doesL mk (ops, am, ai, aj)).1.length xcap) B1.out
        have hb0 : Boxed (w'.setCell ⟨w.heap.size + 1, 0, none⟩ (.slice xa (doesL mk (ops, am, ai, aj)).1.length xcap)) w.heap.size 30 (.slice none 0 0) := (set_far w' _ (by omega)).trans (block_stays' qz HB.out)
        have hqq : Q w (w'.setCell ⟨w.heap.size + 1, 0, none⟩ (.slice xa (doesL mk (ops, am, ai, aj)).1.length xcap)) := (HQ.out.trans qz).setCell (by simp) _
        have hii : ∃ a c, Boxed (w'.setCell ⟨w.heap.size + 1, 0, none⟩ (.slice xa (doesL mk (ops, am, ai, aj)).1.length xcap)) (w.heap.size + 1) 30 (.slice a (madeL l (k + 1)).length c) ∧ PartsAt (w'.setCell ⟨w.heap.size + 1, 0, none⟩ (.slice xa (doesL mk (ops, am, ai, aj)).1.length xcap)) (.slice a (madeL l (k + 1)).length c) (madeL l (k + 1)) := by
          rw [HMS.out]; exact ⟨xa, xcap, hbb, hpb⟩
        have HII := Lib.hid hii; have HB0 := Lib.hid hb0; have HQQ := Lib.hid hqq
        clear hpb hbb hb0 hqq hii c9 f9
        go_wp2_with fail
        go_roundw
        case rel => exact ⟨k + 1, by go_num, by omega, HII, HB0, HQQ⟩
        case measure => simp [intOf]; omega
    · have hke : k = l.length := by omega
      subst hke
      have b3c := b3.cell
      have b0 := HB.out.cell; have f0 := HB.out.frozen
      have hpb := PartsAt.setBox HB.out (.slice pa (madeL l l.length).length pc) hp (by decide)
      have r0 := (HB.out.set (.slice pa (madeL l l.length).length pc)).cell
      have HPB := Lib.hid hpb; have R0 := Lib.hid r0
      clear hpb r0 b3 hp
      go_wp2_with fail
      exact bodyPost_ret (v := liveV (.slice pa (madeL l l.length).length pc)) (by simp [results, Tryz.results18, go_sem, R0.out]) rfl ⟨⟨_, rfl, HPB.out⟩, HQ.out.setCell (by simp) _⟩
end Go.Proofs.YtepofekepagfhaaGreatDoor
end

/- (Shown15) Plain: chapter 15's examples. No program in sight. -/
section
namespace Go.Proofs.YtepofekepagfhaaGreatDoor
open Go.Sort
set_option linter.unusedVariables false

abbrev exO1 : List OpL := [(false, ([120], [49])), (false, ([121], [50])), (false, ([120], [51]))]
abbrev exD1 : List DocL := [([121], [50]), ([120], [51])]
abbrev exP1 : List PartL := [(exD1, [0])]
abbrev exO2 : List OpL := [(true, ([120], [])), (false, ([122], [52]))]
abbrev exD2 : List DocL := [([122], [52])]
abbrev exP2 : List PartL := [(exD1, [2]), (exD2, [0])]
abbrev exS (l : List DocL) : Bytes := segE l (idxL l)
theorem ex_fresh1 : freshL exD1 = ([(exD1, [0])], exS exD1) := by
  unfold freshL; rw [if_neg (by simp)]; rfl
theorem ex_fresh2 : freshL exD2 = ([(exD2, [0])], exS exD2) := by
  unfold freshL; rw [if_neg (by simp)]; rfl
theorem ex_more1 : moreL exO1 = exD1 := by decide
theorem ex_more2 : moreL exO2 = exD2 := by decide
theorem ex_right1 : exO1.all opRight = true := by decide +kernel
theorem ex_right2 : exO2.all opRight = true := by decide +kernel
theorem ex_apply1 : applyL [] exO1 = (exP1, exS exD1, 0) := by
  unfold applyL
  rw [if_neg (by decide), if_pos ex_right1, ex_more1, ex_fresh1]; rfl
theorem ex_apply2 : applyL exP1 exO2 = (exP2, exS exD2, 0) := by
  unfold applyL
  rw [if_neg (by decide), if_pos ex_right2, ex_more2, ex_fresh2]
  have : goneAll (idsL exO2) exP1 = [(exD1, [2])] := by decide +kernel
  rw [this]; rfl
theorem ex_many : applyL exP1 [] = (exP1, [], 6) := by unfold applyL; rw [if_pos (by decide)]
theorem ex_arg : applyL exP1 [(true, ([], []))] = (exP1, [], 1) := by unfold applyL; rw [if_neg (by decide), if_neg (by decide +kernel)]
theorem ex_ok1 : PartsOk exP1 := by
  have := apply_ok [] exO1 ⟨by simp, by simp [liveL]⟩
  rwa [ex_apply1] at this
theorem ex_ok2 : PartsOk exP2 := by
  have := apply_ok exP1 exO2 ex_ok1
  rwa [ex_apply2] at this
theorem ex_many1 : (liveM exP1).length = 2 := by decide +kernel
theorem ex_sort1 : ([[121], [120]] : List Bytes).mergeSort leB = [[120], [121]] := by
  have h : ([[121], [120]] : List Bytes).Perm [[120], [121]] := List.Perm.swap _ _ _
  rw [show ([[121], [120]] : List Bytes).mergeSort leB = ([[120], [121]] : List Bytes).mergeSort leB from mergeSort_of_perm h]
  exact List.mergeSort_of_pairwise (by decide)
theorem ex_docs1 : docsL exP1 = [([120], [51]), ([121], [50])] := by
  have h : liveM exP1 = exD1 := by decide +kernel
  unfold docsL
  rw [h]
  show (([[121], [120]] : List Bytes).mergeSort leB).map _ = _
  rw [ex_sort1]; decide +kernel
theorem ex_docs2 : docsL exP2 = [([121], [50]), ([122], [52])] := by
  have h : liveM exP2 = [([121], [50]), ([122], [52])] := by decide +kernel
  unfold docsL
  rw [h]
  show (([[121], [122]] : List Bytes).mergeSort leB).map _ = _
  rw [List.mergeSort_of_pairwise (by decide)]; decide +kernel
theorem ex_merge : (mergeL exP2 0 1).2.2 = 0 ∧ (mergeL exP2 0 1).1.length = 1 := by
  have h := merge_all exP2 ex_ok2 (by decide)
  rw [show ((exP2.length : Nat) : Int) - 1 = 1 by decide, ex_docs2, if_neg (by decide)] at h
  rw [h]
  unfold freshL
  rw [if_neg (by simp)]
  exact ⟨rfl, rfl⟩
theorem exS_ne (l : List DocL) : (exS l).isEmpty = false := by
  simp [exS, segE, segBody, magicL]
end Go.Proofs.YtepofekepagfhaaGreatDoor
end

/- (WShownT) codexlaw15.shown: walked: true. -/
section
namespace Go.Proofs.YtepofekepagfhaaGreatDoor
open Go.RowKit
set_option linter.unusedVariables false

theorem short_ops (l : List OpL) (h : (l.all fun o => decide (o.2.1.length ≤ 1000) && decide (o.2.2.length ≤ 1000)) = true) : ∀ o ∈ l, o.2.1.length ≤ 9223372036854775807 ∧ o.2.2.length ≤ 9223372036854775807 := by
  intro o ho
  have := List.all_eq_true.1 h o ho
  simp only [Bool.and_eq_true, decide_eq_true_eq] at this
  omega
structure ShSt (w W : World) (X b off c p : Nat) : Prop where
  parts : PartsAt W (.slice (some ⟨b, off, none⟩) 1 c) exP1
  box : Boxed W X 30 (.slice (some ⟨b, off, none⟩) 1 c)
  ptr : W.cell? ⟨b, off, none⟩ = some (.pointer (some ⟨p, 0, none⟩))
  seg : SegAt W p exD1 (idxS exD1)
  q : Q w W
theorem ShSt.stays {w W W' : World} {X b off c p : Nat} (h : ShSt w W X b off c p) (q : Q W W') : ShSt w W' X b off c p :=
  ⟨h.parts.stays q, block_stays' q h.box, cell_stays q h.ptr, h.seg.stays q, h.q.trans q⟩
theorem ShSt.al {w W : World} {X b off c p : Nat} {o : Obj} (h : ShSt w W X b off c p) : ShSt w (W.alloc o) X b off c p := h.stays (Q.alloc _ _)
theorem ShSt.dr {w W : World} {X b off c p : Nat} (h : ShSt w W X b off c p) : ShSt w W.drew X b off c p := h.stays (Q.drew _)
theorem Ops.al {W : World} {v : Value} {l : List OpL} {o : Obj} (h : Ops W v l) : Ops (W.alloc o) v l := h.stays (Q.alloc _ _)
theorem Ops.dr {W : World} {v : Value} {l : List OpL} (h : Ops W v l) : Ops W.drew v l := h.stays (Q.drew _)
theorem ops_lit2 (w : World) (a : Bool) (b c : Bytes) (d : Bool) (e f : Bytes) (t : TypeId) : Ops (w.alloc (.cells #[.bool a, strV b, strV c, .bool d, strV e, strV f] t)) (.slice (some ⟨w.heap.size, 0, none⟩) 2 2) [(a, (b, c)), (d, (e, f))] := Sl.lit w _ _ 2 3 rfl
theorem ops_lit1 (w : World) (a : Bool) (b c : Bytes) (t : TypeId) : Ops (w.alloc (.cells #[.bool a, strV b, strV c] t)) (.slice (some ⟨w.heap.size, 0, none⟩) 1 1) [(a, (b, c))] := Sl.lit w _ _ 1 3 rfl
theorem ops_lit2' (w : World) (a : Bool) (b c : Bytes) (d : Bool) (e f : Bytes) (t : TypeId) (g : Nat) (hg : g = w.heap.size) : Ops (w.alloc (.cells #[.bool a, strV b, strV c, .bool d, strV e, strV f] t)) (.slice (some ⟨g, 0, none⟩) 2 2) [(a, (b, c)), (d, (e, f))] := hg ▸ ops_lit2 w a b c d e f t
theorem ops_lit1' (w : World) (a : Bool) (b c : Bytes) (t : TypeId) (g : Nat) (hg : g = w.heap.size) : Ops (w.alloc (.cells #[.bool a, strV b, strV c] t)) (.slice (some ⟨g, 0, none⟩) 1 1) [(a, (b, c))] := hg ▸ ops_lit1 w a b c t
theorem docs_lit2 (w : World) (a b c d : Bytes) (e : TypeId) : Docs (w.alloc (.cells #[strV a, strV b, strV c, strV d] e)) (.slice (some ⟨w.heap.size, 0, none⟩) 2 2) [(a, b), (c, d)] := Sl.lit w _ _ 2 2 rfl
theorem ShSt.setBox {w W : World} {X b off c p : Nat} (h : ShSt w W X b off c p) {Y : Nat} (hb : Boxed W Y 30 (.slice none 0 0)) (u : Value) (hY : X ≠ Y) (hw : w.heap.size ≤ Y) : ShSt w (W.setCell ⟨Y, 0, none⟩ u) X b off c p := by
  have hne := box_ne hb h.ptr (by simp)
  refine ⟨PartsAt.setBox hb u h.parts (by decide), (set_far W u hY).trans h.box, ?_, h.seg.setBox hb u (by decide), h.q.setCell hw _⟩
  rw [← h.ptr]
  simp only [World.cell?, set_far W u hne]
noncomputable def shown5 : Code := ((Tryz.f16.body.bind (findRegion 5)).getD .skip)
set_option maxRecDepth 100000 in
set_option maxHeartbeats 4000000 in
theorem shown5_wp (w W0 : World) (X b off c p : Nat) (hS : ShSt w W0 X b off c p) (hT : Tabs w) (hSp : Spans w) (Qx : Exit → Act → World → Prop) (x0 x2 x3 x4 x5 x6 x7 x8 x9 x10 x11 x12 x13 x14 x15 x16 x17 x18 x19 x20 x21 x22 x23 x24 x25 x26 x27 x28 x29 x30 x31 x32 x33 x34 x35 x36 x37 x38 x39 x40 x41 x42 x43 x44 x45 x46 x47 x48 x49 x50 x51 x52 x53 x54 x55 x56 x57 x58 x59 x60 x61 x62 x63 x64 x65 x66 x67 x68 x69 x70 x71 x72 x73 x74 x75 x76 x77 x78 x79 x80 x81 x82 x83 x84 x85 x86 x87 x88 x89 x90 x91 x92 x93 x94 x95 x96 x97 x98 x99 x100 x101 x102 x103 x104 x105 x106 x107 x108 x109 x110 x111 x112 x113 x114 x115 x116 x117 x118 x119 x120 x121 x122 x123 x124 x125 x126 x127 x128 x129 x130 x131 x132 x133 x134 x135 x136 x137 x138 x139 x140 : Value)
    (hQ : ∀ W Y a2 c2 z74 z75 z76 z77 z78 z79 z80 z81 z82, ShSt w W X b off c p → Boxed W Y 30 (.slice a2 2 c2) → PartsAt W (.slice a2 2 c2) exP2 → Qx .normal ⟨#[x0, .pointer (some ⟨X, 0, none⟩), x2, x3, x4, .pointer (some ⟨Y, 0, none⟩), strV (exS exD2), .int .i64 0, x8, x9, x10, x11, x12, x13, x14, x15, x16, x17, x18, x19, x20, x21, x22, x23, x24, x25, x26, x27, x28, x29, x30, x31, x32, x33, x34, x35, x36, x37, x38, x39, x40, x41, x42, x43, x44, x45, x46, x47, x48, x49, x50, x51, x52, x53, x54, x55, x56, x57, x58, x59, x60, x61, x62, x63, x64, x65, x66, x67, x68, x69, x70, x71, x72, x73, z74, z75, z76, z77, z78, z79, z80, z81, z82, x83, x84, x85, x86, x87, x88, x89, x90, x91, x92, x93, x94, x95, x96, x97, x98, x99, x100, x101, x102, x103, x104, x105, x106, x107, x108, x109, x110, x111, x112, x113, x114, x115, x116, x117, x118, x119, x120, x121, x122, x123, x124, x125, x126, x127, x128, x129, x130, x131, x132, x133, x134, x135, x136, x137, x138, x139, x140], []⟩ W) :
    shown5.wp Tryz.prog Qx ⟨#[x0, .pointer (some ⟨X, 0, none⟩), x2, x3, x4, x5, x6, x7, x8, x9, x10, x11, x12, x13, x14, x15, x16, x17, x18, x19, x20, x21, x22, x23, x24, x25, x26, x27, x28, x29, x30, x31, x32, x33, x34, x35, x36, x37, x38, x39, x40, x41, x42, x43, x44, x45, x46, x47, x48, x49, x50, x51, x52, x53, x54, x55, x56, x57, x58, x59, x60, x61, x62, x63, x64, x65, x66, x67, x68, x69, x70, x71, x72, x73, x74, x75, x76, x77, x78, x79, x80, x81, x82, x83, x84, x85, x86, x87, x88, x89, x90, x91, x92, x93, x94, x95, x96, x97, x98, x99, x100, x101, x102, x103, x104, x105, x106, x107, x108, x109, x110, x111, x112, x113, x114, x115, x116, x117, x118, x119, x120, x121, x122, x123, x124, x125, x126, x127, x128, x129, x130, x131, x132, x133, x134, x135, x136, x137, x138, x139, x140], []⟩ W0 := by
  have k1 := hS.box.cell
  have hlt0 := hS.box.lt
  have hsz0 := hS.q.size
  have KK := Lib.hid hS; have HT := Lib.hid hT; have HSP := Lib.hid hSp; have HQX := Lib.hid hQ
  have capp : ∀ W ov ops, ShSt w W X b off c p → Ops W ov ops → ops.length ≤ 1000000 → (∀ o ∈ ops, o.2.1.length ≤ 9223372036854775807 ∧ o.2.2.length ≤ 9223372036854775807) → Calls Tryz.prog 19 #[liveV (.slice (some ⟨b, off, none⟩) 1 c), ov] W fun e w' => (∃ a c, e = .returned (.tuple #[liveV (.slice a (applyL exP1 ops).1.length c), strV (applyL exP1 ops).2.1, .int .i64 (applyL exP1 ops).2.2]) ∧ PartsAt w' (.slice a (applyL exP1 ops).1.length c) (applyL exP1 ops).1) ∧ Q W w' := by
    intro W ov ops s o hl1 hl2
    refine (Apply_any _ exP1 ov ops W s.parts o hl1 hl2 (by decide) ex_ok1.1 (HT.out.stays s.q) (HSP.out.stays s.q)).mono ?_
    rintro e w' ⟨⟨v', rfl, hp⟩, q⟩
    obtain ⟨a, c, rfl, _⟩ := hp.value
    exact ⟨⟨a, c, rfl, hp⟩, q⟩
  have cap2 := fun W ov s o => capp W ov exO2 s o (by decide) (short_ops _ (by decide))
  rw [ex_apply2] at cap2
  have CAP2 := Lib.hid cap2
  clear cap2 capp hS hT hSp hQ
  conv => arg 2; whnf
  have hmx : Tryz.prog.follows .mixedOrders = true := by kernel_rfl
  refine wp_region_noPanic ?_
  go_region_held3 (fun w' => w'.cell? ⟨X, 0, none⟩ = some (.slice (some ⟨b, off, none⟩) 1 c)) (first | exact k1 | exact (ShSt.box (by repeat (first | with_reducible exact KK.out | with_reducible apply ShSt.al | with_reducible apply ShSt.dr))).cell | exact (World.cell?_setCell_other _ _ _ _ (by simp <;> omega)).trans KK.out.box.cell)
    (first
      | (go_at_call 22; refine (gone_any [120] _).mono ?_; rintro e w' ⟨rfl, q⟩; (try (have hbx : Boxed _ _ 30 (.slice none 0 0) := (by first | exact block_stays' q HBX.out | exact block_stays' q (Boxed.alloc HBX.out _) | exact block_stays' q (World.alloc_heap_new _ _) | exact block_stays' q (Boxed.alloc (World.alloc_heap_new _ _) _)); have cb := hbx.cell; have fb := hbx.frozen; (try simp only [World.size_alloc, drewSize] at cb fb hbx); have HBX := Lib.hid hbx; clear hbx)); have s' : ShSt w w' X b off c p := ShSt.stays (by repeat (first | with_reducible exact KK.out | with_reducible apply ShSt.al | with_reducible apply ShSt.dr)) q; clear KK; have KK := Lib.hid s'; have hlt := s'.box.lt; have hsz := s'.q.size; clear s' q)
      | (go_at_call 55; refine (doc_any [122] [52] _).mono ?_; rintro e w' ⟨rfl, q⟩; (try (have hbx : Boxed _ _ 30 (.slice none 0 0) := (by first | exact block_stays' q HBX.out | exact block_stays' q (Boxed.alloc HBX.out _) | exact block_stays' q (World.alloc_heap_new _ _) | exact block_stays' q (Boxed.alloc (World.alloc_heap_new _ _) _)); have cb := hbx.cell; have fb := hbx.frozen; (try simp only [World.size_alloc, drewSize] at cb fb hbx); have HBX := Lib.hid hbx; clear hbx)); have s' : ShSt w w' X b off c p := ShSt.stays (by repeat (first | with_reducible exact KK.out | with_reducible apply ShSt.al | with_reducible apply ShSt.dr)) q; clear KK; have KK := Lib.hid s'; have hlt := s'.box.lt; have hsz := s'.q.size; clear s' q)
      | (go_at_call 19; refine (CAP2.out _ _ (by repeat (first | with_reducible exact KK.out | with_reducible apply ShSt.al | with_reducible apply ShSt.dr)) (by repeat (first | (refine ops_lit2' _ _ _ _ _ _ _ _ _ ?_; simp only [World.size_alloc, drewSize]; done) | with_reducible apply Ops.al | with_reducible apply Ops.dr))).mono ?_; rintro e w' ⟨⟨a2, c2, rfl, hp2⟩, q⟩; (try (have hbx : Boxed _ _ 30 (.slice none 0 0) := (by first | exact block_stays' q HBX.out | exact block_stays' q (Boxed.alloc HBX.out _) | exact block_stays' q (World.alloc_heap_new _ _) | exact block_stays' q (Boxed.alloc (World.alloc_heap_new _ _) _)); have cb := hbx.cell; have fb := hbx.frozen; (try simp only [World.size_alloc, drewSize] at cb fb hbx); have HBX := Lib.hid hbx; clear hbx)); have s' : ShSt w w' X b off c p := ShSt.stays (by repeat (first | with_reducible exact KK.out | with_reducible apply ShSt.al | with_reducible apply ShSt.dr)) q; clear KK; have KK := Lib.hid s'; have HP2 := Lib.hid hp2; clear s' q hp2))
  all_goals first
    | exact HQX.out _ _ a2 c2 _ _ _ _ _ _ _ _ _ (by repeat (first | with_reducible exact KK.out | with_reducible apply ShSt.al | with_reducible apply ShSt.dr)) (Boxed.new _ _ _) (HP2.out.stays (Q.alloc _ _))
    | exact HQX.out _ _ a2 c2 _ _ _ _ _ _ _ _ _ (KK.out.setBox HBX.out _ (by omega) (by omega)) (Boxed.set _ HBX.out) (PartsAt.setBox HBX.out _ HP2.out (by decide))
noncomputable def shown9 : Code := ((Tryz.f16.body.bind (findRegion 9)).getD .skip)
set_option maxRecDepth 100000 in
set_option maxHeartbeats 4000000 in
theorem shown9_wp (w W0 : World) (X b off c p : Nat) (hS : ShSt w W0 X b off c p) (hT : Tabs w) (hSp : Spans w) (Qx : Exit → Act → World → Prop) (x0 x2 x3 x4 x5 x6 x7 x8 x9 x10 x11 x12 x13 x14 x15 x16 x17 x18 x19 x20 x21 x22 x23 x24 x25 x26 x27 x28 x29 x30 x31 x32 x33 x34 x35 x36 x37 x38 x39 x40 x41 x42 x43 x44 x45 x46 x47 x48 x49 x50 x51 x52 x53 x54 x55 x56 x57 x58 x59 x60 x61 x62 x63 x64 x65 x66 x67 x68 x69 x70 x71 x72 x73 x74 x75 x76 x77 x78 x79 x80 x81 x82 x83 x84 x85 x86 x87 x88 x89 x90 x91 x92 x93 x94 x95 x96 x97 x98 x99 x100 x101 x102 x103 x104 x105 x106 x107 x108 x109 x110 x111 x112 x113 x114 x115 x116 x117 x118 x119 x120 x121 x122 x123 x124 x125 x126 x127 x128 x129 x130 x131 x132 x133 x134 x135 x136 x137 x138 x139 x140 : Value)
    (hQ : ∀ W Y a2 c2 z101 z102 z103 z104 z105 z106 z107 z108, ShSt w W X b off c p → Boxed W Y 30 (.slice a2 1 c2) → PartsAt W (.slice a2 1 c2) exP1 → Qx .normal ⟨#[x0, .pointer (some ⟨X, 0, none⟩), x2, x3, x4, x5, x6, x7, x8, x9, x10, x11, x12, x13, x14, .pointer (some ⟨Y, 0, none⟩), strV [], .int .i64 1, x18, x19, x20, x21, x22, x23, x24, x25, x26, x27, x28, x29, x30, x31, x32, x33, x34, x35, x36, x37, x38, x39, x40, x41, x42, x43, x44, x45, x46, x47, x48, x49, x50, x51, x52, x53, x54, x55, x56, x57, x58, x59, x60, x61, x62, x63, x64, x65, x66, x67, x68, x69, x70, x71, x72, x73, x74, x75, x76, x77, x78, x79, x80, x81, x82, x83, x84, x85, x86, x87, x88, x89, x90, x91, x92, x93, x94, x95, x96, x97, x98, x99, x100, z101, z102, z103, z104, z105, z106, z107, z108, x109, x110, x111, x112, x113, x114, x115, x116, x117, x118, x119, x120, x121, x122, x123, x124, x125, x126, x127, x128, x129, x130, x131, x132, x133, x134, x135, x136, x137, x138, x139, x140], []⟩ W) :
    shown9.wp Tryz.prog Qx ⟨#[x0, .pointer (some ⟨X, 0, none⟩), x2, x3, x4, x5, x6, x7, x8, x9, x10, x11, x12, x13, x14, x15, x16, x17, x18, x19, x20, x21, x22, x23, x24, x25, x26, x27, x28, x29, x30, x31, x32, x33, x34, x35, x36, x37, x38, x39, x40, x41, x42, x43, x44, x45, x46, x47, x48, x49, x50, x51, x52, x53, x54, x55, x56, x57, x58, x59, x60, x61, x62, x63, x64, x65, x66, x67, x68, x69, x70, x71, x72, x73, x74, x75, x76, x77, x78, x79, x80, x81, x82, x83, x84, x85, x86, x87, x88, x89, x90, x91, x92, x93, x94, x95, x96, x97, x98, x99, x100, x101, x102, x103, x104, x105, x106, x107, x108, x109, x110, x111, x112, x113, x114, x115, x116, x117, x118, x119, x120, x121, x122, x123, x124, x125, x126, x127, x128, x129, x130, x131, x132, x133, x134, x135, x136, x137, x138, x139, x140], []⟩ W0 := by
  have k1 := hS.box.cell
  have hlt0 := hS.box.lt
  have hsz0 := hS.q.size
  have KK := Lib.hid hS; have HT := Lib.hid hT; have HSP := Lib.hid hSp; have HQX := Lib.hid hQ
  have capp : ∀ W ov ops, ShSt w W X b off c p → Ops W ov ops → ops.length ≤ 1000000 → (∀ o ∈ ops, o.2.1.length ≤ 9223372036854775807 ∧ o.2.2.length ≤ 9223372036854775807) → Calls Tryz.prog 19 #[liveV (.slice (some ⟨b, off, none⟩) 1 c), ov] W fun e w' => (∃ a c, e = .returned (.tuple #[liveV (.slice a (applyL exP1 ops).1.length c), strV (applyL exP1 ops).2.1, .int .i64 (applyL exP1 ops).2.2]) ∧ PartsAt w' (.slice a (applyL exP1 ops).1.length c) (applyL exP1 ops).1) ∧ Q W w' := by
    intro W ov ops s o hl1 hl2
    refine (Apply_any _ exP1 ov ops W s.parts o hl1 hl2 (by decide) ex_ok1.1 (HT.out.stays s.q) (HSP.out.stays s.q)).mono ?_
    rintro e w' ⟨⟨v', rfl, hp⟩, q⟩
    obtain ⟨a, c, rfl, _⟩ := hp.value
    exact ⟨⟨a, c, rfl, hp⟩, q⟩
  have cap2 := fun W ov s o => capp W ov [(true, ([], []))] s o (by decide) (short_ops _ (by decide))
  rw [ex_arg] at cap2
  have CAP2 := Lib.hid cap2
  clear cap2 capp hS hT hSp hQ
  conv => arg 2; whnf
  have hmx : Tryz.prog.follows .mixedOrders = true := by kernel_rfl
  refine wp_region_noPanic ?_
  go_region_held3 (fun w' => w'.cell? ⟨X, 0, none⟩ = some (.slice (some ⟨b, off, none⟩) 1 c)) (first | exact k1 | exact (ShSt.box (by repeat (first | with_reducible exact KK.out | with_reducible apply ShSt.al | with_reducible apply ShSt.dr))).cell | exact (World.cell?_setCell_other _ _ _ _ (by simp <;> omega)).trans KK.out.box.cell)
    (first
      | (go_at_call 22; refine (gone_any [] _).mono ?_; rintro e w' ⟨rfl, q⟩; (try (have hbx : Boxed _ _ 30 (.slice none 0 0) := (by first | exact block_stays' q HBX.out | exact block_stays' q (Boxed.alloc HBX.out _) | exact block_stays' q (World.alloc_heap_new _ _) | exact block_stays' q (Boxed.alloc (World.alloc_heap_new _ _) _)); have cb := hbx.cell; have fb := hbx.frozen; (try simp only [World.size_alloc, drewSize] at cb fb hbx); have HBX := Lib.hid hbx; clear hbx)); have s' : ShSt w w' X b off c p := ShSt.stays (by repeat (first | with_reducible exact KK.out | with_reducible apply ShSt.al | with_reducible apply ShSt.dr)) q; clear KK; have KK := Lib.hid s'; have hlt := s'.box.lt; have hsz := s'.q.size; clear s' q)
      | (go_at_call 19; refine (CAP2.out _ _ (by repeat (first | with_reducible exact KK.out | with_reducible apply ShSt.al | with_reducible apply ShSt.dr)) (by repeat (first | (refine ops_lit1' _ _ _ _ _ _ ?_; simp only [World.size_alloc, drewSize]; done) | with_reducible apply Ops.al | with_reducible apply Ops.dr))).mono ?_; rintro e w' ⟨⟨a2, c2, rfl, hp2⟩, q⟩; (try (have hbx : Boxed _ _ 30 (.slice none 0 0) := (by first | exact block_stays' q HBX.out | exact block_stays' q (Boxed.alloc HBX.out _) | exact block_stays' q (World.alloc_heap_new _ _) | exact block_stays' q (Boxed.alloc (World.alloc_heap_new _ _) _)); have cb := hbx.cell; have fb := hbx.frozen; (try simp only [World.size_alloc, drewSize] at cb fb hbx); have HBX := Lib.hid hbx; clear hbx)); have s' : ShSt w w' X b off c p := ShSt.stays (by repeat (first | with_reducible exact KK.out | with_reducible apply ShSt.al | with_reducible apply ShSt.dr)) q; clear KK; have KK := Lib.hid s'; have HP2 := Lib.hid hp2; clear s' q hp2))
  all_goals first
    | exact HQX.out _ _ a2 c2 _ _ _ _ _ _ _ _ (by repeat (first | with_reducible exact KK.out | with_reducible apply ShSt.al | with_reducible apply ShSt.dr)) (Boxed.new _ _ _) (HP2.out.stays (Q.alloc _ _))
    | exact HQX.out _ _ a2 c2 _ _ _ _ _ _ _ _ (KK.out.setBox HBX.out _ (by omega) (by omega)) (Boxed.set _ HBX.out) (PartsAt.setBox HBX.out _ HP2.out (by decide))
end Go.Proofs.YtepofekepagfhaaGreatDoor
end
