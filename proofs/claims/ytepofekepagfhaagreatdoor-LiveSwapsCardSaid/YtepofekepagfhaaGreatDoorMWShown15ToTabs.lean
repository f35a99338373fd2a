/- Joined texts of one proof: WShown15, WTwice, Open, Tabs. -/
import Derived.Test.YtepofekepagfhaaGreatDoorMWLaw15aToWShownT
import Derived.Test.YtepofekepagfhaaGreatDoorShelf
import Derived.Deep.Slices
import Derived.ProofKit
import Derived.OpenShut
import Derived.ShutString
import Derived.Carry
import Derived.LaidMore
import Derived.Lay
import Derived.Lib.LaidU8T
import Derived.PinnedBridge
import Derived.Test.YtepofekepagfhaaGreatDoorRows
set_option linter.unusedSimpArgs false
set_option linter.unusedVariables false
set_option linter.unnecessarySimpa false
/- (WShown15) codexlaw15.shown: walked: true. -/
section
namespace Go.Proofs.YtepofekepagfhaaGreatDoor
open Go.RowKit
set_option linter.unusedVariables false

set_option maxRecDepth 100000 in
set_option maxHeartbeats 8000000 in
theorem Shown15 (w : World) (hT : Tabs w) (hSp : Spans w) : Calls Tryz.prog 16 #[] w fun e w' => e = .returned (.bool true) ∧ Q w w' := by
  have HT := Lib.hid hT; have HSP := Lib.hid hSp
  clear hT hSp
  go_enter Tryz.func16, Tryz.ntmps16
  go_wp2_with fail
  refine (doc_any [120] [49] _).mono ?_
  rintro e w1 ⟨rfl, q1⟩
  have HQ1 := Lib.hid q1; clear q1
  go_wp2_with fail
  refine (doc_any [121] [50] _).mono ?_
  rintro e w2 ⟨rfl, q2⟩
  have HQ2 := Lib.hid (HQ1.out.trans q2); clear q2
  go_wp2_with fail
  refine (doc_any [120] [51] _).mono ?_
  rintro e w3 ⟨rfl, q3⟩
  have hq3 := HQ2.out.trans q3
  have hlit : Ops (w3.alloc (.cells #[.bool false, strV [120], strV [49], .bool false, strV [121], strV [50], .bool false, strV [120], strV [51]] 42)) (.slice (some ⟨w3.heap.size, 0, none⟩) 3 3) exO1 := Sl.lit w3 _ _ 3 3 rfl
  have hq4 := hq3.trans (Q.alloc w3 (.cells #[.bool false, strV [120], strV [49], .bool false, strV [121], strV [50], .bool false, strV [120], strV [51]] 42))
  have c := Apply_any _ [] _ exO1 _ (PartsAt.nil _) hlit (by decide) (short_ops _ (by decide)) (by decide) (by simp) (HT.out.stays hq4) (HSP.out.stays hq4)
  rw [ex_apply1] at c
  have C := Lib.hid c; have HQ4 := Lib.hid hq4
  clear c hlit hq3 hq4 q3 HQ1 HQ2
  go_wp2_with fail
  refine C.out.mono ?_
  rintro e w5 ⟨⟨v1, rfl, hp1⟩, q5⟩
  have hq5 := HQ4.out.trans q5
  obtain ⟨a1, c1, rfl, hpc⟩ := hp1.value
  obtain ⟨b1, off1, rfl, hpd⟩ := hpc (by decide)
  obtain ⟨p1, hc0, hc1, hsg⟩ := hpd 0 (by decide)
  simp only [List.length_cons, List.length_nil, Nat.zero_add, Nat.zero_mul, Nat.add_zero, List.getElem_cons_zero] at hp1 hc0 hc1 hsg ⊢
  have hse := exS_ne exD1
  generalize exS exD1 = S1 at *
  have HSE := Lib.hid hse
  clear hse
  have hx1 := Q.alloc w5 (.cells #[.slice (some ⟨b1, off1, none⟩) 1 c1] 30)
  have hb1 : Boxed (w5.alloc (.cells #[.slice (some ⟨b1, off1, none⟩) 1 c1] 30)) w5.heap.size 30 (.slice (some ⟨b1, off1, none⟩) 1 c1) := Boxed.new _ _ _
  have hst : ShSt w (w5.alloc (.cells #[.slice (some ⟨b1, off1, none⟩) 1 c1] 30)) w5.heap.size b1 off1 c1 p1 := ⟨hp1.stays hx1, hb1, cell_stays hx1 hc0, hsg.stays hx1, hq5.trans hx1⟩
  have HS := Lib.hid hst
  clear hq5 q5 hp1 hpc hpd hc0 hc1 hsg hx1 hb1 C HQ4 hst
  have hse := HSE.out
  have k1 := HS.out.box.cell
  go_wp2_with fail
  have cm := Many_any _ exP1 _ HS.out.parts (by decide) ex_ok1.1
  rw [ex_many1] at cm
  refine cm.mono ?_
  rintro e w6 ⟨rfl, q6⟩
  have HS6 := Lib.hid (HS.out.stays q6)
  clear cm q6 HS k1
  have k1 := HS6.out.box.cell
  go_wp2_with fail
  have cd := LiveDocs_any _ exP1 _ HS6.out.parts (by decide) ex_ok1.1
  rw [ex_docs1] at cd
  refine cd.mono ?_
  rintro e w7 ⟨v7, rfl, ho7, q7⟩
  have HS7 := Lib.hid (HS6.out.stays q7)
  have hd7 : Docs w7 v7 [([120], [51]), ([121], [50])] := Sl.of_owns ho7
  clear cd q7 HS6 k1 ho7
  have k1 := HS7.out.box.cell
  have HD7 := Lib.hid hd7; clear hd7
  go_wp2_with fail
  have cs := sameDocs_any _ _ _ _ _ (HD7.out.stays (Q.alloc _ _)) (docs_lit2 w7 [120] [51] [121] [50] 40) (by decide) (by decide)
  rw [decide_eq_true rfl] at cs
  refine cs.mono ?_
  rintro e w8 ⟨rfl, q8⟩
  have HS8 := Lib.hid (HS7.out.stays ((Q.alloc _ _).trans q8))
  clear cs q8 HS7 k1 HD7
  have k1 := HS8.out.box.cell
  have k2 := HS8.out.ptr
  go_wp2_with fail
  refine (SegDocs_any p1 exD1 (idxS exD1) _ HS8.out.seg (by decide)).mono ?_
  rintro e w9 ⟨v9, rfl, ho9, q9⟩
  have HS9 := Lib.hid (HS8.out.stays q9)
  have HD9 := Lib.hid (show Docs w9 v9 exD1 from Sl.of_owns ho9)
  clear q9 HS8 k1 k2 ho9
  go_wp2_with fail
  have cs := sameDocs_any _ _ _ _ _ (HD9.out.stays (Q.alloc _ _)) (docs_lit2 w9 [121] [50] [120] [51] 40) (by decide) (by decide)
  rw [decide_eq_true rfl] at cs
  refine cs.mono ?_
  rintro e w10 ⟨rfl, q10⟩
  have HS10 := Lib.hid (HS9.out.stays ((Q.alloc _ _).trans q10))
  clear cs q10 HS9 HD9
  have k1 := HS10.out.box.cell
  clear k1
  go_wp2_with fail
  refine shown5_wp w _ w5.heap.size b1 off1 c1 p1 HS10.out HT.out HSP.out _ _ _ _ _ _ _ _ _ _ _ _ _ _ _ _ _ _ _ _ _ _ _ _ _ _ _ _ _ _ _ _ _ _ _ _ _ _ _ _ _ _ _ _ _ _ _ _ _ _ _ _ _ _ _ _ _ _ _ _ _ _ _ _ _ _ _ _ _ _ _ _ _ _ _ _ _ _ _ _ _ _ _ _ _ _ _ _ _ _ _ _ _ _ _ _ _ _ _ _ _ _ _ _ _ _ _ _ _ _ _ _ _ _ _ _ _ _ _ _ _ _ _ _ _ _ _ _ _ _ _ _ _ _ _ _ _ _ _ _ _ ?_
  intro W Y a2 c2 z74 z75 z76 z77 z78 z79 z80 z81 z82 hs11 hb11 hp11
  have HS11 := Lib.hid hs11; have HB11 := Lib.hid hb11; have HP11 := Lib.hid hp11
  clear hs11 hb11 hp11 HS10
  have k1 := HB11.out.cell
  go_wp2_with fail
  have cd := LiveDocs_any _ exP2 _ HP11.out (by decide) ex_ok2.1
  rw [ex_docs2] at cd
  refine cd.mono ?_
  rintro e w12 ⟨v12, rfl, ho12, q12⟩
  have HS12 := Lib.hid (HS11.out.stays q12); have HB12 := Lib.hid (block_stays' q12 HB11.out); have HP12 := Lib.hid (HP11.out.stays q12)
  have HD12 := Lib.hid (show Docs w12 v12 [([121], [50]), ([122], [52])] from Sl.of_owns ho12)
  clear cd q12 HS11 HB11 HP11 k1 ho12
  go_wp2_with fail
  have cs := sameDocs_any _ _ _ _ _ (HD12.out.stays (Q.alloc _ _)) (docs_lit2 w12 [121] [50] [122] [52] 40) (by decide) (by decide)
  rw [decide_eq_true rfl] at cs
  refine cs.mono ?_
  rintro e w13 ⟨rfl, q13⟩
  have q13' := (Q.alloc w12 (.cells #[strV [121], strV [50], strV [122], strV [52]] 40)).trans q13
  have HS13 := Lib.hid (HS12.out.stays q13'); have HB13 := Lib.hid (block_stays' q13' HB12.out); have HP13 := Lib.hid (HP12.out.stays q13')
  clear cs q13 q13' HS12 HB12 HP12 HD12
  have k1 : w13.cell? ⟨Y, 0, none⟩ = some (.slice a2 2 c2) := Boxed.cell HB13.out
  go_wp2_with fail
  have cm := Merge_any _ exP2 0 1 _ HP13.out (by decide) ex_ok2 (HT.out.stays HS13.out.q) (HSP.out.stays HS13.out.q)
  obtain ⟨me, ml⟩ := ex_merge
  rw [me] at cm
  refine cm.mono ?_
  rintro e w14 ⟨⟨v14, rfl, hp14⟩, q14⟩
  obtain ⟨a3, c3, hv3, _⟩ := hp14.value
  rw [ml] at hv3
  subst hv3
  generalize (mergeL exP2 0 1).2.1 = S3 at *
  have hx14 := Q.alloc w14 (.cells #[.slice a3 1 c3] 30)
  have HS14 := Lib.hid (HS13.out.stays (q14.trans hx14)); have HB14 := Lib.hid (block_stays' (q14.trans hx14) HB13.out)
  have HB9 := Lib.hid (Boxed.new w14 30 (.slice a3 1 c3))
  clear cm me ml hp14 q14 hx14 HS13 HB13 HP13 k1
  have k1 := HS14.out.box.cell
  go_wp2_with fail
  have ca := Apply_any _ exP1 (.slice none 0 0) [] _ HS14.out.parts (Sl.nil _ _) (by decide) (by simp) (by decide) ex_ok1.1 (HT.out.stays HS14.out.q) (HSP.out.stays HS14.out.q)
  rw [ex_many] at ca
  refine ca.mono ?_
  rintro e w15 ⟨⟨v15, rfl, hp15⟩, q15⟩
  obtain ⟨a4, c4, rfl, _⟩ := hp15.value
  have hx15 := Q.alloc w15 (.cells #[.slice a4 1 c4] 30)
  have HS15 := Lib.hid (HS14.out.stays (q15.trans hx15)); have HB15 := Lib.hid (block_stays' (q15.trans hx15) HB14.out); have HB95 := Lib.hid (block_stays' (q15.trans hx15) HB9.out)
  clear ca hp15 q15 hx15 HS14 HB14 HB9 k1
  go_wp2_with fail
  have hs15 := HS15.out
  refine shown9_wp _ _ w5.heap.size b1 off1 c1 p1 ⟨hs15.parts, hs15.box, hs15.ptr, hs15.seg, Q.refl _⟩ (HT.out.stays hs15.q) (HSP.out.stays hs15.q) _ _ _ _ _ _ _ _ _ _ _ _ _ _ _ _ _ _ _ _ _ _ _ _ _ _ _ _ _ _ _ _ _ _ _ _ _ _ _ _ _ _ _ _ _ _ _ _ _ _ _ _ _ _ _ _ _ _ _ _ _ _ _ _ _ _ _ _ _ _ _ _ _ _ _ _ _ _ _ _ _ _ _ _ _ _ _ _ _ _ _ _ _ _ _ _ _ _ _ _ _ _ _ _ _ _ _ _ _ _ _ _ _ _ _ _ _ _ _ _ _ _ _ _ _ _ _ _ _ _ _ _ _ _ _ _ _ _ _ _ _ ?_
  intro W2 Y2 a5 c5 y101 y102 y103 y104 y105 y106 y107 y108 hs16 hb16 hp16
  have k5 : W2.cell? ⟨Y, 0, none⟩ = some (.slice a2 2 c2) := Boxed.cell (block_stays' hs16.q HB15.out)
  have k9 : W2.cell? ⟨w14.heap.size, 0, none⟩ = some (.slice a3 1 c3) := Boxed.cell (block_stays' hs16.q HB95.out)
  have HQ := Lib.hid (hs15.q.trans hs16.q)
  clear hs16 hb16 hp16 hs15 HS15 HB15 HB95
  go_wp2_with fail
  go_ret
  exact ⟨rfl, HQ.out⟩
end Go.Proofs.YtepofekepagfhaaGreatDoor
end

/- (WTwice) codexlaw15.LiveTwice: walked. -/
section
namespace Go.Proofs.YtepofekepagfhaaGreatDoor
open Go.RowKit
set_option linter.unusedVariables false

theorem smallB_facts {l : List ActL} (h : smallB l = true) : l.length ≤ 20 ∧ ∀ a ∈ l, a.1.length ≤ 60 ∧ ∀ o ∈ a.1, o.2.1.length ≤ 100 ∧ o.2.2.length ≤ 2100 := by
  unfold smallB at h
  simp only [Bool.and_eq_true, decide_eq_true_eq] at h
  refine ⟨h.1, fun a ha => ?_⟩
  have h2 := List.all_eq_true.1 h.2 a ha
  unfold smallA at h2
  simp only [Bool.and_eq_true, decide_eq_true_eq] at h2
  refine ⟨h2.1, fun o ho => ?_⟩
  have h3 := List.all_eq_true.1 h2.2 o ho
  unfold smallO at h3
  simpa only [Bool.and_eq_true, decide_eq_true_eq] using h3
/-- lengths as each argument has them -/
def ActsWf (l : List ActL) : Prop := l.length ≤ 9223372036854775807 ∧ ∀ a ∈ l, a.1.length ≤ 9223372036854775807 ∧ ∀ o ∈ a.1, o.2.1.length ≤ 9223372036854775807 ∧ o.2.2.length ≤ 9223372036854775807
def OpsWf (l : List OpL) : Prop := l.length ≤ 9223372036854775807 ∧ ∀ o ∈ l, o.2.1.length ≤ 9223372036854775807 ∧ o.2.2.length ≤ 9223372036854775807
theorem acts_lit1 (w : World) (ov : Value) (ops : List OpL) (t : TypeId) (h : Ops w ov ops) : Acts (w.alloc (.cells #[ov, .bool false, .int .i64 0, .int .i64 0] t)) (.slice (some ⟨w.heap.size, 0, none⟩) 1 1) [(ops, false, 0, 0)] := by
  refine ⟨[ov], rfl, Sl.lit w _ _ 1 4 rfl, fun i a b ha hb => ?_⟩
  cases i with
  | zero => simp at ha hb; subst ha; subst hb; exact h.stays (Q.alloc _ _)
  | succ i => simp at ha
structure TwSt (w W : World) (X1 X2 : Nat) (v1 v2 : Value) (p1 p2 : List PartL) : Prop where
  p1 : PartsAt W v1 p1
  p2 : PartsAt W v2 p2
  b1 : Boxed W X1 30 v1
  b2 : Boxed W X2 30 v2
  q : Q w W
theorem TwSt.stays {w W W' : World} {X1 X2 : Nat} {v1 v2 : Value} {p1 p2 : List PartL} (h : TwSt w W X1 X2 v1 v2 p1 p2) (q : Q W W') : TwSt w W' X1 X2 v1 v2 p1 p2 :=
  ⟨h.p1.stays q, h.p2.stays q, block_stays' q h.b1, block_stays' q h.b2, h.q.trans q⟩
theorem TwSt.dr {w W : World} {X1 X2 : Nat} {v1 v2 : Value} {p1 p2 : List PartL} (h : TwSt w W X1 X2 v1 v2 p1 p2) : TwSt w W.drew X1 X2 v1 v2 p1 p2 := h.stays (Q.drew _)
set_option maxRecDepth 100000 in
set_option maxHeartbeats 8000000 in
theorem Twice_walk (v : Value) (l : List ActL) (ov : Value) (ops : List OpL) (w : World) (hv : Acts w v l) (ho : Ops w ov ops) (hlw : ActsWf l) (how : OpsWf ops) (hT : Tabs w) (hSp : Spans w) :
    Calls Tryz.prog 3 #[v, ov] w fun e w' => e = .returned (.bool true) ∧ Q w w' := by
  have csh := Shown15 w hT hSp
  have csm := fun W (q : Q w W) => Small_any v l W (hv.stays q) hlw.1 hlw.2
  have cs1 := fun W (q : Q w W) => Small_any _ [(ops, false, 0, 0)] _ (acts_lit1 W ov ops 27 (ho.stays q)) (by simp) (fun a ha => by rw [List.mem_singleton] at ha; subst ha; exact how)
  obtain ⟨a1, c1, hva, _⟩ := hv.value
  obtain ⟨a2, c2, hoa, _⟩ := ho.value
  subst hva hoa
  have HV := Lib.hid hv; have HO := Lib.hid ho; have HT := Lib.hid hT; have HSP := Lib.hid hSp; have CSH := Lib.hid csh; have HLW := Lib.hid hlw
  clear hv ho hT hSp csh hlw
  cases hs1 : smallB l with
  | false =>
    rw [hs1] at csm
    have HS1 := Lib.hid hs1; have CSM := Lib.hid csm; have CS1 := Lib.hid cs1
    clear hs1 csm cs1
    cases hs2 : smallB [(ops, false, 0, 0)]
    all_goals
      have C1 := CS1.out
      rw [hs2] at C1
      have CSS := Lib.hid C1
      have HS2 := Lib.hid hs2
      clear C1 hs2 CS1
      go_enter Tryz.func3, Tryz.ntmps3
      go_wp2_with fail
      refine CSH.out.mono ?_
      rintro e w1 ⟨rfl, q1⟩
      have HQ1 := Lib.hid q1; clear q1
      go_wp2_with fail
      refine (CSM.out w1 HQ1.out).mono ?_
      rintro e w2 ⟨rfl, rfl⟩
      go_wp2_with fail
      refine (CSS.out w1 HQ1.out).mono ?_
      rintro e w2 ⟨rfl, rfl⟩
      go_wp2_with fail
      go_ret
      exact ⟨rfl, HQ1.out.trans (Q.alloc _ _)⟩
  | true =>
    rw [hs1] at csm
    obtain ⟨hf1, hf2⟩ := smallB_facts hs1
    have HS1 := Lib.hid hs1; have CSM := Lib.hid csm; have CS1 := Lib.hid cs1
    clear hs1 csm cs1
    cases hs2 : smallB [(ops, false, 0, 0)] with
    | false =>
      have C1 := CS1.out
      rw [hs2] at C1
      have CSS := Lib.hid C1
      have HS2 := Lib.hid hs2
      clear C1 hs2 CS1
      go_enter Tryz.func3, Tryz.ntmps3
      go_wp2_with fail
      refine CSH.out.mono ?_
      rintro e w1 ⟨rfl, q1⟩
      have HQ1 := Lib.hid q1; clear q1
      go_wp2_with fail
      refine (CSM.out w1 HQ1.out).mono ?_
      rintro e w2 ⟨rfl, rfl⟩
      go_wp2_with fail
      refine (CSS.out w1 HQ1.out).mono ?_
      rintro e w2 ⟨rfl, rfl⟩
      go_wp2_with fail
      go_ret
      exact ⟨rfl, HQ1.out.trans (Q.alloc _ _)⟩
    | true =>
      have C1 := CS1.out
      rw [hs2] at C1
      obtain ⟨_, hg⟩ := smallB_facts hs2
      obtain ⟨hg1, hg2⟩ := hg _ (List.mem_singleton_self _)
      simp only at hg1 hg2
      have CSS := Lib.hid C1
      have HS2 := Lib.hid hs2
      have HF2 := Lib.hid hf2; have HG2 := Lib.hid hg2
      clear C1 hs2 CS1 hf2 hg2 hg how
      go_enter Tryz.func3, Tryz.ntmps3
      go_wp2_with fail
      refine CSH.out.mono ?_
      rintro e w1 ⟨rfl, q1⟩
      have HQ1 := Lib.hid q1; clear q1
      go_wp2_with fail
      refine (CSM.out w1 HQ1.out).mono ?_
      rintro e w2 ⟨rfl, rfl⟩
      go_wp2_with fail
      refine (CSS.out w1 HQ1.out).mono ?_
      rintro e w2 ⟨rfl, rfl⟩
      have hq2 := HQ1.out.trans (Q.alloc w1 (.cells #[.slice a2 ops.length c2, .bool false, .int .i64 0, .int .i64 0] 27))
      have cmd := Made_any _ l _ (HV.out.stays hq2) (by omega) (fun a ha => by have := HF2.out a ha; exact ⟨by omega, fun o ho => by have := this.2 o ho; omega⟩) (HT.out.stays hq2) (HSP.out.stays hq2)
      have CMD := Lib.hid cmd; have HQ2 := Lib.hid hq2
      clear cmd hq2 HQ1 CSM CSS CSH
      go_wp2_with fail
      refine CMD.out.mono ?_
      rintro e w3 ⟨⟨v3, rfl, hp3⟩, q3⟩
      obtain ⟨hmo, hml⟩ := madeL_ok l l.length (Nat.le_refl _)
      generalize madeL l l.length = ps at *
      obtain ⟨a3, c3, rfl, _⟩ := hp3.value
      have hx3 := Q.alloc w3 (.cells #[.slice a3 ps.length c3] 30)
      have hq4 := (HQ2.out.trans q3).trans hx3
      have cap1 := Apply_any _ ps _ ops _ (hp3.stays hx3) (HO.out.stays hq4) (by omega) (fun o ho => by have := HG2.out o ho; omega) (by omega) hmo.1 (HT.out.stays hq4) (HSP.out.stays hq4)
      have HMO := Lib.hid hmo; have HQ4 := Lib.hid hq4; have CAP1 := Lib.hid cap1
      have b4 : Boxed (w3.alloc (.cells #[.slice a3 ps.length c3] 30)) w3.heap.size 30 (.slice a3 ps.length c3) := Boxed.new _ _ _
      have k4 := b4.cell
      clear hp3 q3 hx3 hq4 cap1 hmo CMD HQ2 b4
      go_wp2_with fail
      refine CAP1.out.mono ?_
      rintro e w5 ⟨⟨v5, rfl, hp5⟩, q5⟩
      have hap := apply_ok ps ops HMO.out
      have hal := apply_length ps ops
      have htw := twice_docs ps ops HMO.out
      have her := apply_err (applyL ps ops).1 ps ops
      have hap2 := apply_ok _ ops hap
      have hal2 := apply_length (applyL ps ops).1 ops
      have her1 : (applyL (applyL ps ops).1 ops).2.1 = (applyL ps ops).2.1 := by rw [her]
      have her2 : (applyL (applyL ps ops).1 ops).2.2 = (applyL ps ops).2.2 := by rw [her]
      generalize (applyL ps ops).2.1 = S at *
      generalize (applyL ps ops).2.2 = E at *
      generalize (applyL ps ops).1 = p1 at *
      obtain ⟨a5, c5, rfl, _⟩ := hp5.value
      have hx5 := Q.alloc w5 (.cells #[.slice a5 p1.length c5] 30)
      have hq6 := (HQ4.out.trans q5).trans hx5
      have cap2 := Apply_any _ p1 _ ops _ (hp5.stays hx5) (HO.out.stays hq6) (by omega) (fun o ho => by have := HG2.out o ho; omega) (by omega) hap.1 (HT.out.stays hq6) (HSP.out.stays hq6)
      rw [her1, her2] at cap2
      have b6 : Boxed (w5.alloc (.cells #[.slice a5 p1.length c5] 30)) w5.heap.size 30 (.slice a5 p1.length c5) := Boxed.new _ _ _
      have k6 := b6.cell
      have HP6 := Lib.hid (hp5.stays hx5); have HQ6 := Lib.hid hq6; have CAP2 := Lib.hid cap2; have B6 := Lib.hid b6; have HAP := Lib.hid hap; have HAP2 := Lib.hid hap2; have HTW := Lib.hid htw
      clear hp5 q5 hx5 hq6 cap2 b6 hap hap2 htw her her1 her2 CAP1 k4 HQ4
      go_wp2_with fail
      refine CAP2.out.mono ?_
      rintro e w7 ⟨⟨v7, rfl, hp7⟩, q7⟩
      generalize (applyL p1 ops).1 = p2 at *
      obtain ⟨a7, c7, rfl, _⟩ := hp7.value
      have hx7 := Q.alloc w7 (.cells #[.slice a7 p2.length c7] 30)
      have hst : TwSt w (w7.alloc (.cells #[.slice a7 p2.length c7] 30)) w5.heap.size w7.heap.size (.slice a5 p1.length c5) (.slice a7 p2.length c7) p1 p2 :=
        ⟨HP6.out.stays (q7.trans hx7), hp7.stays hx7, block_stays' (q7.trans hx7) B6.out, Boxed.new _ _ _, (HQ6.out.trans q7).trans hx7⟩
      have k1 := hst.b1.cell
      have k2 := hst.b2.cell
      have KK := Lib.hid hst
      have hmx : Tryz.prog.follows .mixedOrders = true := by kernel_rfl
      have cdd : ∀ (W : World) (b c : Option Addr) (x y : Nat), True := fun _ _ _ _ _ => trivial
      clear hp7 q7 hx7 hst HP6 HQ6 B6 CAP2 k6 cdd
      have hdl : (docsL p1).length ≤ 1000000000 := by
        rw [← many_eq p1 HAP.out.2, ← plAll_length]
        have := plTo_length p1 HAP.out.1 p1.length (Nat.le_refl _)
        unfold plAll; omega
      have cd1 : ∀ W, TwSt w W w5.heap.size w7.heap.size (.slice a5 p1.length c5) (.slice a7 p2.length c7) p1 p2 → Calls Tryz.prog 21 #[liveV (.slice a5 p1.length c5)] W fun e w' => ∃ v', e = .returned v' ∧ Docs w' v' (docsL p1) ∧ Q W w' :=
        fun W s => (LiveDocs_any _ p1 W s.p1 (by omega) HAP.out.1).mono fun e w' ⟨v', h1, h2, h3⟩ => ⟨v', h1, Sl.of_owns h2, h3⟩
      have cd2 : ∀ W, TwSt w W w5.heap.size w7.heap.size (.slice a5 p1.length c5) (.slice a7 p2.length c7) p1 p2 → Calls Tryz.prog 21 #[liveV (.slice a7 p2.length c7)] W fun e w' => ∃ v', e = .returned v' ∧ Docs w' v' (docsL p1) ∧ Q W w' :=
        fun W s => (LiveDocs_any _ p2 W s.p2 (by omega) HAP2.out.1).mono fun e w' ⟨v', h1, h2, h3⟩ => ⟨v', h1, by rw [← HTW.out]; exact Sl.of_owns h2, h3⟩
      have CD1 := Lib.hid cd1; have CD2 := Lib.hid cd2
      clear cd1 cd2
      go_wp2_with fail
      go_region_held3 (fun w' => w'.cell? ⟨w5.heap.size, 0, none⟩ = some (.slice a5 p1.length c5) ∧ w'.cell? ⟨w7.heap.size, 0, none⟩ = some (.slice a7 p2.length c7)) (first | exact ⟨k1, k2⟩ | exact ⟨KK.out.b1.cell, KK.out.b2.cell⟩)
        (first
          | (go_at_call 21; ((with_reducible refine (CD1.out _ (by first | exact KK.out | exact KK.out.dr)).mono ?_); rintro e w' ⟨vd1, rfl, hd1, q⟩); have s' := TwSt.stays (show TwSt w _ w5.heap.size w7.heap.size (.slice a5 p1.length c5) (.slice a7 p2.length c7) p1 p2 by first | exact KK.out | exact KK.out.dr) q; clear KK; have KK := Lib.hid s'; have HD1 := Lib.hid hd1; clear s' q hd1)
          | (go_at_call 21; ((with_reducible refine (CD2.out _ (by first | exact KK.out | exact KK.out.dr)).mono ?_); rintro e w' ⟨vd2, rfl, hd2, q⟩); have s' := TwSt.stays (show TwSt w _ w5.heap.size w7.heap.size (.slice a5 p1.length c5) (.slice a7 p2.length c7) p1 p2 by first | exact KK.out | exact KK.out.dr) q; clear KK; have KK := Lib.hid s'; have hd1 := Sl.stays HD1.out q; clear HD1; have HD1 := Lib.hid hd1; have HD2 := Lib.hid hd2; clear s' q hd1 hd2)
          | (go_at_call 20; refine (sameDocs_any _ _ (docsL p1) (docsL p1) _ (by first | exact HD1.out | exact Sl.stays HD1.out (Q.drew _)) (by first | exact HD2.out | exact Sl.stays HD2.out (Q.drew _)) hdl hdl).mono ?_; rw [decide_eq_true rfl]; rintro e w' ⟨rfl, q⟩; have s' := TwSt.stays (show TwSt w _ w5.heap.size w7.heap.size (.slice a5 p1.length c5) (.slice a7 p2.length c7) p1 p2 by first | exact KK.out | exact KK.out.dr) q; clear KK; have KK := Lib.hid s'; clear s' q))
      all_goals
        go_wp2_with fail
        go_ret
        exact ⟨rfl, by first | exact KK.out.q | exact KK.out.q.trans (Q.drew _)⟩
end Go.Proofs.YtepofekepagfhaaGreatDoor
end

/- (Open) Arguments opened to cells: slices of ops, of acts; what the listed variables say of memory. -/
section
namespace Go.Proofs.YtepofekepagfhaaGreatDoor
open Go.ChangeShapes Go.WideShapes Go.ChangeAt Go.RowKit Go.Deep
set_option linter.unusedVariables false
set_option maxRecDepth 100000

theorem flat_at (css : List (List Value)) (sz : Nat) (h : ∀ c ∈ css, c.length = sz) (j : Nat) (u : Value) (hj : css.flatten[j]? = some u) : ∃ i r c, css[i]? = some c ∧ c[r]? = some u ∧ j = i * sz + r ∧ r < sz := by
  induction css generalizing j with
  | nil => simp at hj
  | cons c css ih =>
    have hc := h c (by simp)
    rw [List.flatten_cons] at hj
    by_cases hlt : j < c.length
    · rw [List.getElem?_append_left hlt] at hj
      exact ⟨0, j, c, rfl, hj, by omega, by omega⟩
    · rw [List.getElem?_append_right (by omega)] at hj
      obtain ⟨i, r, c', h1, h2, h3, h4⟩ := ih (fun x hx => h x (by simp [hx])) _ hj
      exact ⟨i + 1, r, c', by simpa using h1, h2, by rw [Nat.add_mul]; omega, h4⟩
theorem flat_length (css : List (List Value)) (sz : Nat) (h : ∀ c ∈ css, c.length = sz) : css.flatten.length = css.length * sz := by
  induction css with
  | nil => simp
  | cons c css ih =>
    rw [List.flatten_cons, List.length_append, ih (fun x hx => h x (by simp [hx])), h c (by simp), List.length_cons, Nat.add_mul]; omega
section
variable {H : Type} {enc : TypeId × Value → H} {P : Program} {w : World} {base : Nat} {spare : Nat → Bool} {held : Bool}
/-- a slice that is read: its elements, one by one -/
theorem open_sl {α : Type} [Inhabited α] {t e : TypeId} (ht : P.underlying t = some (.slice e)) (sz : Nat) (hC : P.cellsOf e = sz) (hsz : 0 < sz) (R : List Value → α → Prop)
    (hR : ∀ n cs x, DataW.trod enc P w base spare held n e cs = some x → ∃ a, R cs a) {fuel : Nat} {v : Value} {x : DataW H × List MemPlace} (h : DataW.trod enc P w base spare held fuel t [v] = some x) :
    ∃ (xs : List α) (css : List (List Value)), xs.length = css.length ∧ Sl w v xs.length sz css.flatten ∧ (∀ (i : Nat) a c, css[i]? = some c → xs[i]? = some a → R c a) ∧ xs.length ≤ maxLen := by
  rcases open_slice ht h with ⟨h0, _⟩ | ⟨a, len, cap, m, n, D, Pl, hcs, _, hl, hm, hmm, _, hel⟩
  · obtain rfl : v = .slice none 0 0 := by simpa using h0
    exact ⟨[], [], rfl, Sl.nil _ _, fun i a c hc => by simp at hc, by simp⟩
  · obtain rfl : v = .slice (some a) len cap := by simpa using hcs
    have hlm : len ≤ m := by rw [hmm]; split <;> omega
    have hex : ∀ i : Nat, ∃ p : List Value × α, i < len → (w.cells? base (a.add (i * sz)) sz = some p.1 ∧ R p.1 p.2) := by
      intro i
      by_cases hi : i < len
      · obtain ⟨cs', h1, h2⟩ := hel i (by omega)
        rw [hC] at h1
        obtain ⟨b, hb⟩ := hR _ _ _ h2
        exact ⟨(cs', b), fun _ => ⟨h1, hb⟩⟩
      · exact ⟨([], default), fun h => absurd h hi⟩
    obtain ⟨f, hf⟩ := Classical.axiomOfChoice hex
    have hlen : ∀ c ∈ (List.range len).map (fun i => (f i).1), c.length = sz := by
      intro c hc
      obtain ⟨i, hi, rfl⟩ := List.mem_map.1 hc
      exact (World.cells?_some (hf i (List.mem_range.1 hi)).1).2.1
    refine ⟨(List.range len).map (fun i => (f i).2), (List.range len).map (fun i => (f i).1), by simp, ⟨?_, some a, cap, by simp, fun hn => ?_⟩, fun i b c hc hb => ?_, by simp; omega⟩
    · rw [flat_length _ sz hlen]; simp
    · simp only [List.length_map, List.length_range] at hn
      have h0 := (World.cells?_some (hf 0 hn).1).2.2 0 hsz
      obtain ⟨b, off, spot⟩ := a
      have hl0 := (World.cells?_some (hf 0 hn).1).2.1
      rw [List.getElem?_eq_getElem (by omega)] at h0
      have hspot : spot = none := by simpa [Addr.add] using World.cell?_spot h0
      subst hspot
      refine ⟨b, off, rfl, fun j u hj => ?_⟩
      obtain ⟨i, r, c, h1, h2, h3, h4⟩ := flat_at _ sz hlen j u hj
      rw [List.getElem?_map] at h1
      cases hr : (List.range len)[i]? with
      | none => rw [hr] at h1; cases h1
      | some i' =>
        rw [hr] at h1
        cases h1
        obtain ⟨hil, hii⟩ := List.getElem?_eq_some_iff.1 hr
        rw [List.getElem_range] at hii
        subst hii
        have := (World.cells?_some (hf i (by simpa using hil)).1).2.2 r h4
        rw [h2, add_off, add_off] at this
        rw [h3, ← Nat.add_assoc]; exact this
    · rw [List.getElem?_map] at hc hb
      cases hr : (List.range len)[i]? with
      | none => rw [hr] at hc; cases hc
      | some i' =>
        rw [hr] at hc hb
        cases hc; cases hb
        obtain ⟨hil, hii⟩ := List.getElem?_eq_some_iff.1 hr
        rw [List.getElem_range] at hii
        subst hii
        exact (hf i (by simpa using hil)).2
end
section
variable {H : Type} {enc : TypeId × Value → H} {w : World} {base : Nat} {spare : Nat → Bool} {held : Bool}
theorem trod_str {n : Nat} {cs : List Value} {x : DataW H × List MemPlace} (h : DataW.trod enc Tryz.prog w base spare held n 9 cs = some x) : ∃ s : Bytes, cs = [strV s] ∧ s.length ≤ 9223372036854775807 := by
  obtain ⟨s, hs, _, hl⟩ := DataW.trod_string Tryz.underlying9 h
  refine ⟨s.data.toList, ?_, ?_⟩
  · rw [hs]
  · unfold maxLen at hl
    have e : s.data.toList.length = s.size := Array.length_toList
    rw [e]; exact hl
def OpR (cs : List Value) (o : OpL) : Prop := cs = [.bool o.1, strV o.2.1, strV o.2.2] ∧ o.2.1.length ≤ 9223372036854775807 ∧ o.2.2.length ≤ 9223372036854775807
theorem trod_doc {n : Nat} {cs : List Value} {x : DataW H × List MemPlace} (h : DataW.trod enc Tryz.prog w base spare held n 40 cs = some x) : ∃ d : DocL, cs = [strV d.1, strV d.2] ∧ d.1.length ≤ 9223372036854775807 ∧ d.2.length ≤ 9223372036854775807 := by
  have c9 : Tryz.prog.cellsOf 9 = 1 := by kernel_rfl
  have c40 : Tryz.prog.cellsOf 40 = 2 := by kernel_rfl
  obtain ⟨xs, n', _, _, hcl, hxl, hf⟩ := DataW.trod_struct Tryz.underlying40 h
  rw [c40] at hcl
  match cs, hcl with
  | [a, b], _ =>
    have g0 : DataW.trod enc Tryz.prog w base spare held n' 9 (([a, b].drop 0).take (Tryz.prog.cellsOf 9)) = xs[0]? := hf 0 _ rfl
    rw [c9] at g0
    have h0 : DataW.trod enc Tryz.prog w base spare held n' 9 [a] = xs[0]? := g0
    have g1 : DataW.trod enc Tryz.prog w base spare held n' 9 (([a, b].drop 1).take (Tryz.prog.cellsOf 9)) = xs[1]? := hf 1 _ rfl
    rw [c9] at g1
    have h1 : DataW.trod enc Tryz.prog w base spare held n' 9 [b] = xs[1]? := g1
    have hx2 : xs.length = 2 := hxl
    rw [List.getElem?_eq_getElem (by omega)] at h0 h1
    obtain ⟨s, e0, l0⟩ := trod_str h0
    obtain ⟨t, e1, l1⟩ := trod_str h1
    cases e0; cases e1
    exact ⟨(s, t), rfl, l0, l1⟩
theorem trod_op {n : Nat} {cs : List Value} {x : DataW H × List MemPlace} (h : DataW.trod enc Tryz.prog w base spare held n 42 cs = some x) : ∃ o : OpL, OpR cs o := by
  have c4 : Tryz.prog.cellsOf 4 = 1 := by kernel_rfl
  have c40 : Tryz.prog.cellsOf 40 = 2 := by kernel_rfl
  have c42 : Tryz.prog.cellsOf 42 = 3 := by kernel_rfl
  obtain ⟨xs, n', _, _, hcl, hxl, hf⟩ := DataW.trod_struct Tryz.underlying42 h
  rw [c42] at hcl
  match cs, hcl with
  | [a, b, c], _ =>
    have g0 : DataW.trod enc Tryz.prog w base spare held n' 4 (([a, b, c].drop 0).take (Tryz.prog.cellsOf 4)) = xs[0]? := hf 0 _ rfl
    rw [c4] at g0
    have h0 : DataW.trod enc Tryz.prog w base spare held n' 4 [a] = xs[0]? := g0
    have g1 : DataW.trod enc Tryz.prog w base spare held n' 40 (([a, b, c].drop 1).take (Tryz.prog.cellsOf 40)) = xs[1]? := hf 1 _ rfl
    rw [c40] at g1
    have h1 : DataW.trod enc Tryz.prog w base spare held n' 40 [b, c] = xs[1]? := g1
    have hx2 : xs.length = 2 := hxl
    rw [List.getElem?_eq_getElem (by omega)] at h0 h1
    obtain ⟨b0, e0, _⟩ := DataW.trod_bool Tryz.underlying4 h0
    obtain ⟨d, e1, l0, l1⟩ := trod_doc h1
    cases e0; cases e1
    exact ⟨(b0, d), rfl, l0, l1⟩
theorem flat_ops (ops : List OpL) (css : List (List Value)) (hl : ops.length = css.length) (h : ∀ (i : Nat) a c, css[i]? = some c → ops[i]? = some a → OpR c a) : css.flatten = opVs ops := by
  induction ops generalizing css with
  | nil => have : css = [] := List.eq_nil_of_length_eq_zero hl.symm; subst this; rfl
  | cons o ops ih =>
    cases css with
    | nil => simp at hl
    | cons c css =>
      have h0 := (h 0 o c rfl rfl).1
      rw [List.flatten_cons, ih css (by simpa using hl) (fun i a c hc ha => h (i + 1) a c (by simpa using hc) (by simpa using ha)), h0]
      simp [opVs]
theorem open_ops {fuel : Nat} {v : Value} {x : DataW H × List MemPlace} (h : DataW.trod enc Tryz.prog w base spare held fuel 23 [v] = some x) : ∃ ops : List OpL, Ops w v ops ∧ OpsWf ops := by
  obtain ⟨ops, css, hl, hs, hr, hm⟩ := open_sl (α := OpL) Tryz.underlying23 3 (by kernel_rfl) (by decide) OpR (fun n cs x h => trod_op h) h
  refine ⟨ops, ?_, by unfold maxLen at hm; exact hm, fun o ho => ?_⟩
  · unfold Ops; rw [← flat_ops ops css hl hr]; exact hs
  · obtain ⟨i, hi⟩ := List.getElem?_of_mem ho
    have hil := (List.getElem?_eq_some_iff.1 hi).1
    exact (hr i o _ (List.getElem?_eq_getElem (by omega)) hi).2
def ActR (w : World) (cs : List Value) (a : Value × ActL) : Prop := cs = [a.1, .bool a.2.2.1, .int .i64 a.2.2.2.1, .int .i64 a.2.2.2.2] ∧ Ops w a.1 a.2.1 ∧ OpsWf a.2.1
theorem trod_act {n : Nat} {cs : List Value} {x : DataW H × List MemPlace} (h : DataW.trod enc Tryz.prog w base spare held n 27 cs = some x) : ∃ a : Value × ActL, ActR w cs a := by
  have c4 : Tryz.prog.cellsOf 4 = 1 := by kernel_rfl
  have c3 : Tryz.prog.cellsOf 3 = 1 := by kernel_rfl
  have c23 : Tryz.prog.cellsOf 23 = 1 := by kernel_rfl
  have c27 : Tryz.prog.cellsOf 27 = 4 := by kernel_rfl
  obtain ⟨xs, n', _, _, hcl, hxl, hf⟩ := DataW.trod_struct Tryz.underlying27 h
  rw [c27] at hcl
  match cs, hcl with
  | [a, b, c, d], _ =>
    have g0 : DataW.trod enc Tryz.prog w base spare held n' 23 (([a, b, c, d].drop 0).take (Tryz.prog.cellsOf 23)) = xs[0]? := hf 0 _ rfl
    rw [c23] at g0
    have h0 : DataW.trod enc Tryz.prog w base spare held n' 23 [a] = xs[0]? := g0
    have g1 : DataW.trod enc Tryz.prog w base spare held n' 4 (([a, b, c, d].drop 1).take (Tryz.prog.cellsOf 4)) = xs[1]? := hf 1 _ rfl
    rw [c4] at g1
    have h1 : DataW.trod enc Tryz.prog w base spare held n' 4 [b] = xs[1]? := g1
    have g2 : DataW.trod enc Tryz.prog w base spare held n' 3 (([a, b, c, d].drop 2).take (Tryz.prog.cellsOf 3)) = xs[2]? := hf 2 _ rfl
    rw [c3] at g2
    have h2 : DataW.trod enc Tryz.prog w base spare held n' 3 [c] = xs[2]? := g2
    have g3 : DataW.trod enc Tryz.prog w base spare held n' 3 (([a, b, c, d].drop 3).take (Tryz.prog.cellsOf 3)) = xs[3]? := hf 3 _ rfl
    rw [c3] at g3
    have h3 : DataW.trod enc Tryz.prog w base spare held n' 3 [d] = xs[3]? := g3
    have hx2 : xs.length = 4 := hxl
    rw [List.getElem?_eq_getElem (by omega)] at h0 h1 h2 h3
    obtain ⟨ops, ho, hw⟩ := open_ops h0
    obtain ⟨b0, e1, _⟩ := DataW.trod_bool Tryz.underlying4 h1
    obtain ⟨i2, e2, _⟩ := DataW.trod_int Tryz.underlying3 h2
    obtain ⟨i3, e3, _⟩ := DataW.trod_int Tryz.underlying3 h3
    cases e1; cases e2; cases e3
    exact ⟨(a, (ops, b0, i2, i3)), rfl, ho, hw⟩
theorem flat_acts (al : List (Value × ActL)) (css : List (List Value)) (w : World) (hl : al.length = css.length) (h : ∀ (i : Nat) a c, css[i]? = some c → al[i]? = some a → ActR w c a) : css.flatten = actVs (al.map (·.1)) (al.map (·.2)) := by
  induction al generalizing css with
  | nil => have : css = [] := List.eq_nil_of_length_eq_zero hl.symm; subst this; rfl
  | cons o al ih =>
    cases css with
    | nil => simp at hl
    | cons c css =>
      have h0 := (h 0 o c rfl rfl).1
      rw [List.flatten_cons, ih css (by simpa using hl) (fun i a c hc ha => h (i + 1) a c (by simpa using hc) (by simpa using ha)), h0]
      simp [actVs]
theorem open_acts {fuel : Nat} {v : Value} {x : DataW H × List MemPlace} (h : DataW.trod enc Tryz.prog w base spare held fuel 22 [v] = some x) : ∃ l : List ActL, Acts w v l ∧ ActsWf l := by
  obtain ⟨al, css, hl, hs, hr, hm⟩ := open_sl (α := Value × ActL) Tryz.underlying22 4 (by kernel_rfl) (by decide) (ActR w) (fun n cs x h => trod_act h) h
  refine ⟨al.map (·.2), ⟨al.map (·.1), by simp, ?_, fun i a b ha hb => ?_⟩, by unfold maxLen at hm; simpa using hm, fun a ha => ?_⟩
  · rw [List.length_map, ← flat_acts al css w hl hr]; exact hs
  · rw [List.getElem?_map] at ha hb
    cases hi : al[i]? with
    | none => rw [hi] at ha; cases ha
    | some y =>
      rw [hi] at ha hb
      cases ha; cases hb
      have hil := (List.getElem?_eq_some_iff.1 hi).1
      exact (hr i y _ (List.getElem?_eq_getElem (by omega)) hi).2.1
  · obtain ⟨y, hy, rfl⟩ := List.mem_map.1 ha
    obtain ⟨i, hi⟩ := List.getElem?_of_mem hy
    have hil := (List.getElem?_eq_some_iff.1 hi).1
    exact (hr i y _ (List.getElem?_eq_getElem (by omega)) hi).2.2
end
end Go.Proofs.YtepofekepagfhaaGreatDoor
end

/- (Tabs) What the listed variables say of memory: utf8's tables, the table of kinds. -/
section
namespace Go.Proofs.YtepofekepagfhaaGreatDoor
open Go.ChangeShapes Go.WideShapes Go.ChangeAt Go.RowKit Go.Lib Go.Shelf
set_option linter.unusedVariables false
set_option maxRecDepth 100000

abbrev laidL : List (String × DataW Unit) := [("unicode/utf8.acceptRanges", Rows.laid_unicode_utf8_acceptRanges), ("codex/utf.spans", Rows.laid_codex_utf_spans), ("unicode/utf8.first", Rows.laid_unicode_utf8_first)]
theorem u8extra : U8Extra Tryz.prog Tryz.lays196_ren := ⟨by kernel_rfl, by kernel_rfl, by kernel_rfl, by kernel_rfl, by kernel_rfl, by kernel_rfl, by kernel_rfl⟩
theorem accept_eq : (Rows.laid_unicode_utf8_acceptRanges : DataW Unit) = acceptData := by kernel_rfl
theorem first_eq : Rows.laid_unicode_utf8_first = firstData := Pinned.utf8First_eq
theorem tabs_of {W : World} (h : laidMet Tryz.prog laidL W) : Tabs W := by
  have h1 := Lib.laidMet.reads h (n := "unicode/utf8.first") (d := Rows.laid_unicode_utf8_first) (by simp)
  have h2 := Lib.laidMet.reads h (n := "unicode/utf8.acceptRanges") (d := Rows.laid_unicode_utf8_acceptRanges) (by simp)
  rw [first_eq] at h1
  rw [accept_eq] at h2
  exact utf8Tabs_of_readsT (U8Types.of196 Tryz.lays196) u8extra h1 h2
def spansData : DataW Unit := .agg (spansL.map fun x => .agg [.lit (.int .i32 x.1), .lit (.int .i32 x.2.1), .lit (.int .i64 x.2.2)])
theorem spans_eq : (Rows.laid_codex_utf_spans : DataW Unit) = spansData := by kernel_rfl
theorem spans_of {W : World} (h : laidMet Tryz.prog laidL W) : Spans W := by
  have h1 := Lib.laidMet.reads h (n := "codex/utf.spans") (d := Rows.laid_codex_utf_spans) (by simp)
  rw [spans_eq] at h1
  obtain ⟨g, t, cs, fuel, p, hg, hty, hvar, hd⟩ := h1
  have n2 : Tryz.prog.globalNamed "codex/utf.spans" = some 2 := by kernel_rfl
  have y2 : (Tryz.prog.globals[2]?).map (·.type) = some 250 := by kernel_rfl
  obtain rfl := Option.some.inj (n2.symm.trans hg)
  obtain rfl := Option.some.inj (y2.symm.trans hty)
  have cE : Tryz.prog.cellsOf 249 = 3 := by kernel_rfl
  have c32 : Tryz.prog.cellsOf 21 = 1 := by kernel_rfl
  have c64 : Tryz.prog.cellsOf 3 = 1 := by kernel_rfl
  intro i x hx
  have hil : i < 34 := by have := (List.getElem?_eq_some_iff.1 hx).1; rwa [spans_len] at this
  obtain ⟨fuel', d, q, hdi, he⟩ := array_elem Tryz.underlying250 hd i hil
  rw [List.getElem?_map, hx] at hdi
  cases hdi
  rw [cE] at he
  obtain ⟨xs, n', _, hxx, hcl, hxl, hf⟩ := DataW.trod_struct Tryz.underlying249 he
  rw [cE] at hcl
  have hcell : ∀ r, r < 3 → W.cell? ⟨2, i * 3 + r, none⟩ = ((cs.toList.drop (i * 3)).take 3)[r]? := by
    intro r hr
    rw [World.var?_cell hg hvar (i * 3 + r), ← Array.getElem?_toList, List.getElem?_take, if_pos hr, List.getElem?_drop]
  generalize (cs.toList.drop (i * 3)).take 3 = c3 at *
  match c3, hcl with
  | [a, b, c], _ =>
    have g0 : DataW.trod (fun _ => ()) Tryz.prog W 0 (fun _ => true) false n' 21 (([a, b, c].drop 0).take (Tryz.prog.cellsOf 21)) = xs[0]? := hf 0 _ rfl
    have g1 : DataW.trod (fun _ => ()) Tryz.prog W 0 (fun _ => true) false n' 21 (([a, b, c].drop 1).take (Tryz.prog.cellsOf 21)) = xs[1]? := hf 1 _ rfl
    have g2 : DataW.trod (fun _ => ()) Tryz.prog W 0 (fun _ => true) false n' 3 (([a, b, c].drop 2).take (Tryz.prog.cellsOf 3)) = xs[2]? := hf 2 _ rfl
    rw [c32] at g0 g1
    rw [c64] at g2
    have hx3 : xs.length = 3 := hxl
    match xs, hx3 with
    | [x0, x1, x2], _ =>
      obtain ⟨z0, e0, f0, _⟩ := DataW.trod_int Tryz.underlying21 (show DataW.trod (fun _ => ()) Tryz.prog W 0 (fun _ => true) false n' 21 [a] = some x0 from g0)
      obtain ⟨z1, e1, f1, _⟩ := DataW.trod_int Tryz.underlying21 (show DataW.trod (fun _ => ()) Tryz.prog W 0 (fun _ => true) false n' 21 [b] = some x1 from g1)
      obtain ⟨z2, e2, f2, _⟩ := DataW.trod_int Tryz.underlying3 (show DataW.trod (fun _ => ()) Tryz.prog W 0 (fun _ => true) false n' 3 [c] = some x2 from g2)
      cases e0; cases e1; cases e2; subst f0; subst f1; subst f2
      simp only [Prod.mk.injEq, DataW.agg.injEq, List.map_cons, List.map_nil, List.cons.injEq, DataW.lit.injEq, Lit.int.injEq, true_and, and_true] at hxx
      obtain ⟨⟨q0, q1, q2⟩, _⟩ := hxx
      rw [q0, q1, q2]
      exact ⟨hcell 0 (by omega), hcell 1 (by omega), hcell 2 (by omega)⟩
end Go.Proofs.YtepofekepagfhaaGreatDoor
end
