/- Joined texts of one proof: WPostI, WPostF, WOpen, WSegDocs. -/
import Derived.Test.YtcflpcpkmhljkaaGreatDoorMPostRdToBase
import Derived.Test.YtcflpcpkmhljkaaGreatDoorMWCrcToRange2
import Derived.Test.YtcflpcpkmhljkaaGreatDoorMWRunesToWTexts
import Derived.Test.YtcflpcpkmhljkaaGreatDoorMWDictPToWRead
import Derived.Test.YtcflpcpkmhljkaaGreatDoorShelf
import Derived.Deep.RegionHeld3
import Derived.OwnWalk
import Derived.WalkLawsBesides
import Derived.WalkSpells
set_option linter.unusedSimpArgs false
set_option linter.unusedVariables false
set_option linter.unnecessarySimpa false
/- (WPostI) postings' reader.postings: the iterator over postings: its contract. -/
section
namespace Go.Proofs.YtcflpcpkmhljkaaGreatDoor
open Go.RowKit
set_option linter.unusedVariables false
attribute [local go_sem] Oper.semAt_some

theorem PPostings_any (R : Nat) (n last : Int) (w : World) :
    Calls Tryz.prog 193 #[.pointer (some ⟨R, 0, none⟩), .int .i64 n, .int .i64 last] w fun e w' =>
      e = .returned (.func (.func 218) #[] #[.pointer (some ⟨w.heap.size + 1, 0, none⟩), .pointer (some ⟨w.heap.size, 0, none⟩), .pointer (some ⟨w.heap.size + 2, 0, none⟩)]) ∧
      w' = ((w.alloc (.cells #[.pointer (some ⟨R, 0, none⟩)] 281)).alloc (.cells #[.int .i64 n] 3)).alloc (.cells #[.int .i64 last] 3) := by
  go_enter Tryz.func193, Tryz.ntmps193
  go_wp2_with fail
  go_ret
  exact ⟨rfl, rfl⟩
/-- a posting as it is told: its places lie in a row of its own from lo on -/
def encP (lo : Nat) (x : PostL) (W : World) (args : Array Value) : Prop := ∃ v, args = #[.agg #[.int .i64 x.1, v]] ∧ W.ownsRow lo 3 1 v x.2.length (intCs x.2)
theorem Boxed.ne_blk {W : World} {B k : Nat} {t t' : TypeId} {v : Value} {cs : Array Value} (h : Boxed W B t v) (hb : Blk W k t' cs) (hne : t ≠ t') : B ≠ k := by
  intro e
  subst e
  have := (show W.heap[B]? = _ from h).symm.trans hb
  injection this with h3
  injection h3 with _ h3 _
  exact hne h3
theorem Boxed.ne_box {W : World} {B B' : Nat} {t t' : TypeId} {v v' : Value} (h : Boxed W B t v) (hb : Boxed W B' t' v') (hne : t ≠ t') : B ≠ B' := by
  intro e
  subst e
  have := (show W.heap[B]? = _ from h).symm.trans hb
  injection this with h3
  injection h3 with _ h3 _
  exact hne h3
set_option maxRecDepth 100000 in
set_option maxHeartbeats 4000000 in
theorem PIter_seq (R Bn Br Bl : Nat) (l : List PostL) (last : Int) (s rest : Bytes) (n₀ : Nat) (W : World) (hn : Boxed W Bn 3 (.int .i64 (l.length : Nat))) (hr : Boxed W Br 281 (.pointer (some ⟨R, 0, none⟩))) (hl : Boxed W Bl 3 (.int .i64 last)) (hR : Rdr W R s)
    (hs : s = bodyF last l ++ rest) (hsl : s.length ≤ 1000000000000) (h0 : -1 ≤ last) (h5 : last < 500) (hp : postsRight last l = true) (hll : l.length ≤ 1000) (hne : Bl ≠ Bn) :
    SeqP Tryz.prog 218 #[.pointer (some ⟨Bn, 0, none⟩), .pointer (some ⟨Br, 0, none⟩), .pointer (some ⟨Bl, 0, none⟩)] (encP W.heap.size) (fun k => k = R ∨ k = Bl) (fun k => k = R ∨ k = Bl ∨ k = Bn ∨ k = Br) n₀ l W := by
  intro n li J Jx hJ hJx hY hj0
  refine callsIn_of_wp Tryz.func218 rfl trivial ?_ rfl
  simp only [Tryz.ntmps218, List.size_toArray, List.length_cons, List.length_nil, Nat.reduceAdd, Nat.reduceSub, Array.replicate_succ, Array.replicate_zero, List.push_toArray, List.append_toArray, List.nil_append, List.cons_append]
  have d1 : Bn ≠ R := Boxed.ne_blk hn hR (by decide)
  have d2 : Bl ≠ R := Boxed.ne_blk hl hR (by decide)
  have d3 : Br ≠ R := Boxed.ne_blk hr hR (by decide)
  have d4 : Br ≠ Bl := Boxed.ne_box hr hl (by decide)
  have c0 := hn.cell
  have HN := Lib.hid hn; have HR := Lib.hid hr; have HL := Lib.hid hl; have HRD := Lib.hid hR; have HS := Lib.hid hs; have HP := Lib.hid hp; have HY := Lib.hid hY; have HJ0 := Lib.hid hj0; have HJ := Lib.hid hJ; have HJX := Lib.hid hJx
  clear hn hr hl hR hs hp hY hj0 hJ hJx
  gi_wp2
  gi_loopw [7] (fun i wr => ∃ (k : Nat) (la : Int) (s' : Bytes), k ≤ l.length ∧ i = .int .i64 k ∧ Hid (s' = bodyF la (l.drop k) ++ rest) ∧ Hid (postsRight la (l.drop k) = true) ∧ -1 ≤ la ∧ la < 500 ∧ s'.length ≤ 1000000000000 ∧
    Hid (Boxed wr Bn 3 (.int .i64 (l.length : Nat))) ∧ Hid (Boxed wr Br 281 (.pointer (some ⟨R, 0, none⟩))) ∧ Hid (Boxed wr Bl 3 (.int .i64 la)) ∧ Hid (Rdr wr R s') ∧ Hid (J k wr) ∧ W.heap.size ≤ wr.heap.size) (fun i _ => l.length - (intOf i).toNat)
  case atStart => exact ⟨0, last, s, by omega, rfl, HS.out, HP.out, h0, h5, hsl, HN.out, HR.out, HL.out, HRD.out, HJ0.out, Nat.le_refl _⟩
  case round =>
    obtain ⟨k, la, s', hk, rfl, HS, HP, hla0, hla5, hsl', HN, HR, HL, HRD, HJK, hsz⟩ := hrel
    obtain ⟨wo, rfl⟩ : ∃ wo : World, wo = wr := ⟨_, rfl⟩
    by_cases hlt : k < l.length
    · have hpr := HP.out
      rw [List.drop_eq_getElem_cons hlt] at hpr
      obtain ⟨p1, p2, p3, p4, p5⟩ := postsRight_cons hpr
      have hst : s' = oneE l[k] la ++ (bodyF l[k].1 (l.drop (k + 1)) ++ rest) := by
        rw [HS.out, List.drop_eq_getElem_cons hlt, bodyF, List.append_assoc]
      obtain ⟨s3, hs3⟩ : ∃ s3, s3 = bodyF l[k].1 (l.drop (k + 1)) ++ rest := ⟨_, rfl⟩
      rw [← hs3] at hst
      have hl3 : s3.length ≤ 1000000000000 := by have := congrArg List.length hst; rw [List.length_append] at this; omega
      have c := PPost_ok R l[k] la s' s3 wo HRD.out hsl' hst hla0 p1 p2 p4
      have hyk : ∀ args W1, J k W1 → encP W.heap.size l[k] W1 args → _ := fun args W1 h1 h2 => HY.out k hlt W1 args h1 h2
      have C := Lib.hid c; have HS3 := Lib.hid hs3; have HP5 := Lib.hid p5; have HYK := Lib.hid hyk
      clear c hs3 p5 hst hpr p3 p4 hyk
      generalize l[k] = p at *
      have l0 := HL.out.cell; have l1 := HR.out.cell; have l2 := HN.out.cell
      gi_wp2_with fail
      refine ⟨trivial, fun h => (by cases h), (callsIn_wide.2 C.out).mono ?_⟩
      rintro e w2 ⟨v, rfl, ho, hrd2, t2⟩
      obtain ⟨a, cap, rfl, hsm⟩ := owns_value ho
      have hRlt : R < wo.heap.size := (HRD.out : Blk wo R _ _).lt
      have hBl : Bl < wo.heap.size := HL.out.lt
      have n2 : Boxed w2 Bn 3 (.int .i64 (l.length : Nat)) := t2.get HN.out d1
      have r2 : Boxed w2 Br 281 (.pointer (some ⟨R, 0, none⟩)) := t2.get HR.out d3
      have l2' : Boxed w2 Bl 3 (.int .i64 la) := t2.get HL.out d2
      have j2 : J k w2 := HJ.out _ _ _ HJK.out (t2.itk.mono (fun _ h => .inl h) (Nat.le_refl _))
      have s2' := t2.size
      -- the posting in a box of its own; then the document is kept
      have hq3 := Q.alloc w2 (.cells #[.int .i64 p.1, .slice a p.2.length cap] 211)
      have m0 := Blk.new w2 211 #[.int .i64 p.1, .slice a p.2.length cap]
      have o3 := ownsRow_below ho hq3
      have n3 : Boxed _ Bn 3 (.int .i64 (l.length : Nat)) := block_stays' hq3 n2
      have r3 : Boxed _ Br 281 (.pointer (some ⟨R, 0, none⟩)) := block_stays' hq3 r2
      have l3 : Boxed _ Bl 3 (.int .i64 la) := block_stays' hq3 l2'
      have rd3 := hrd2.stays hq3
      have j3 := HJ.out _ _ _ j2 (Itk.of_q hq3)
      have ml : w2.heap.size ≠ Bl := by omega
      have lc := l3.cell; have lf := l3.frozen
      obtain ⟨mc0, mc1, _⟩ := m0.c2
      have hsz3 : W.heap.size ≤ (w2.alloc (.cells #[.int .i64 p.1, .slice a p.2.length cap] 211)).heap.size := by simp; omega
      have rc := r3.cell
      obtain ⟨q0, q1, _⟩ := Blk.c2 rd3
      have dRB : R ≠ Bl := fun e => d2 e.symm
      -- behind the store
      have t4 : Turn (fun k => k = R ∨ k = Bl) (w2.alloc (.cells #[.int .i64 p.1, .slice a p.2.length cap] 211)) ((w2.alloc (.cells #[.int .i64 p.1, .slice a p.2.length cap] 211)).setCell ⟨Bl, 0, none⟩ (.int .i64 p.1)) := (Turn.refl _ _).setCell (.inl (.inr rfl)) _
      have j4 := HJ.out _ _ _ j3 t4.itk
      have n4 : Boxed _ Bn 3 (.int .i64 (l.length : Nat)) := Blk.other n3 ⟨Bl, 0, none⟩ (.int .i64 p.1) (fun e => hne e.symm)
      have r4 : Boxed _ Br 281 (.pointer (some ⟨R, 0, none⟩)) := Blk.other r3 ⟨Bl, 0, none⟩ (.int .i64 p.1) d4
      have l4 : Boxed _ Bl 3 (.int .i64 p.1) := l3.set (.int .i64 p.1)
      have rd4 : Rdr _ R s3 := Blk.other rd3 ⟨Bl, 0, none⟩ (.int .i64 p.1) dRB
      have o4 := owns_low (ownsRow_setCell_below o3 (a := ⟨Bl, 0, none⟩) (by simpa using hBl) (.int .i64 p.1)) hsz
      have hsz4 : W.heap.size ≤ ((w2.alloc (.cells #[.int .i64 p.1, .slice a p.2.length cap] 211)).setCell ⟨Bl, 0, none⟩ (.int .i64 p.1)).heap.size := by simp; omega
      have hyy := HYK.out #[Value.agg #[.int .i64 p.1, .slice a p.2.length cap]] _ j4 ⟨_, rfl, o4⟩ (fun b hb => by
        rcases hb with rfl | rfl | rfl | rfl
        · exact (rd4 : Blk _ _ _ _).lt
        · exact l4.lt
        · exact n4.lt
        · exact r4.lt)
      obtain ⟨fn, tmps, assign, body, hy, hRR⟩ := hyy
      have HYR := Lib.hid hRR
      have HN4 := Lib.hid n4; have HR4 := Lib.hid r4; have HL4 := Lib.hid l4; have HRD4 := Lib.hid rd4
      clear ho hrd2 t2 n2 r2 l2' j2 m0 o3 n3 r3 l3 rd3 j3 hq3 t4 j4 n4 r4 l4 rd4 o4 hRR HN HR HL HRD HJK C HYK
      gi_wp2_with fail
      refine ⟨fun h => (by cases h), (HYR.out _).mono ?_⟩
      rintro e W5 (⟨rfl, hJ5, hk5⟩ | ⟨rfl, hJx5, _⟩)
      · have n5 : Boxed W5 Bn 3 (.int .i64 (l.length : Nat)) := (hk5.own Bn (.inr (.inr (.inl rfl))) HN4.out.lt).trans HN4.out
        have r5 : Boxed W5 Br 281 (.pointer (some ⟨R, 0, none⟩)) := (hk5.own Br (.inr (.inr (.inr rfl))) HR4.out.lt).trans HR4.out
        have l5 : Boxed W5 Bl 3 (.int .i64 p.1) := (hk5.own Bl (.inr (.inl rfl)) HL4.out.lt).trans HL4.out
        have rd5 : Rdr W5 R s3 := (hk5.own R (.inl rfl) (HRD4.out : Blk _ _ _ _).lt).trans HRD4.out
        have hs5 := Nat.le_trans hsz4 hk5.below.size
        have H1 := Lib.hid n5; have H2 := Lib.hid r5; have H3 := Lib.hid l5; have H4 := Lib.hid rd5; have H5 := Lib.hid hJ5
        clear n5 r5 l5 rd5 hJ5 hk5
        gi_wp2
        go_roundw
        case rel => exact ⟨k + 1, p.1, s3, by omega, by go_num, HS3, HP5, by omega, by omega, hl3, H1, H2, H3, H4, H5, hs5⟩
        case measure => simp [intOf]; omega
      · have HJX5 := Lib.hid hJx5; clear hJx5
        gi_wp2
        refine bodyPost_ret (results_none rfl _ _ _) rfl ?_
        exact ⟨⟨_, rfl⟩, .inr ⟨k + 1, by omega, HJX5.out⟩⟩
    · have hkk : k = l.length := by omega
      have hj : J l.length wo := by rw [← hkk]; exact HJK.out
      have HJF := Lib.hid hj
      clear hkk hj
      gi_wp2
      go_end0
      exact ⟨⟨_, rfl⟩, .inl HJF.out⟩
end Go.Proofs.YtcflpcpkmhljkaaGreatDoor
end

/- (WPostF) postings.From: the iterator over postings from a document on: its contract. -/
section
namespace Go.Proofs.YtcflpcpkmhljkaaGreatDoor
open Go.RowKit
set_option linter.unusedVariables false
attribute [local go_sem] Oper.semAt_some

/-- three boxes in a row -/
theorem boxes3 (W : World) (N : Nat) (hN : W.heap.size = N) (t1 t2 t3 : TypeId) (a b c : Value) :
    Boxed (((W.alloc (.cells #[a] t1)).alloc (.cells #[b] t2)).alloc (.cells #[c] t3)) N t1 a ∧ Boxed (((W.alloc (.cells #[a] t1)).alloc (.cells #[b] t2)).alloc (.cells #[c] t3)) (N + 1) t2 b ∧ Boxed (((W.alloc (.cells #[a] t1)).alloc (.cells #[b] t2)).alloc (.cells #[c] t3)) (N + 2) t3 c ∧
      (((W.alloc (.cells #[a] t1)).alloc (.cells #[b] t2)).alloc (.cells #[c] t3)).heap.size = N + 3 ∧ Q W (((W.alloc (.cells #[a] t1)).alloc (.cells #[b] t2)).alloc (.cells #[c] t3)) := by
  subst hN
  refine ⟨((Boxed.new W t1 a).alloc _).alloc _, ?_, ?_, by simp, ((Q.alloc W _).trans (Q.alloc _ _)).trans (Q.alloc _ _)⟩
  · have := (Boxed.new (W.alloc (.cells #[a] t1)) t2 b).alloc (.cells #[c] t3)
    simpa using this
  · have := Boxed.new ((W.alloc (.cells #[a] t1)).alloc (.cells #[b] t2)) t3 c
    simpa using this
theorem wpIn_act {F : Fence} {n : Nat} {P : Program} {c : Code} {Qx : Exit → Act → World → Prop} {a : Act} {w : World} (h : ∀ A0, A0 = a → c.wpIn F n P Qx A0 w) : c.wpIn F n P Qx a w := h a rfl
theorem PFrom_any (s : Bytes) (doc : Int) (w : World) :
    Calls Tryz.prog 163 #[.string ⟨s.toArray⟩, .int .i64 doc] w fun e w' =>
      e = .returned (.func (.func 191) #[] #[.pointer (some ⟨w.heap.size, 0, none⟩), .pointer (some ⟨w.heap.size + 1, 0, none⟩)]) ∧
      w' = (w.alloc (.cells #[strV s] 9)).alloc (.cells #[.int .i64 doc] 3) := by
  go_enter Tryz.func163, Tryz.ntmps163
  go_wp2_with fail
  go_ret
  exact ⟨rfl, rfl⟩
set_option maxRecDepth 100000 in
set_option maxHeartbeats 4000000 in
theorem PFrom_seq (l : List PostL) (doc : Int) (Bs Bd n₀ : Nat) (W : World) (hp : postsRight (-1) l = true) (hbs : Boxed W Bs 9 (strV (postsE l))) (hbd : Boxed W Bd 3 (.int .i64 doc)) (hn : n₀ ≤ W.heap.size) :
    SeqP Tryz.prog 191 #[.pointer (some ⟨Bs, 0, none⟩), .pointer (some ⟨Bd, 0, none⟩)] (encP (W.heap.size + 7)) (fun k => k = W.heap.size + 1 ∨ k = W.heap.size + 4) (fun k => k = Bs ∨ k = Bd ∨ (W.heap.size ≤ k ∧ k < W.heap.size + 7)) n₀ (fromP l doc) W := by
  intro n li J Jx hJ hJx hY hj0
  refine callsIn_wide.2 ((callsIn_wide (n := 0)).1 ?_)
  refine callsIn_of_wp_marks Tryz.func191 rfl trivial ?_ rfl
  simp only [Tryz.ntmps191, List.size_toArray, List.length_cons, List.length_nil, Nat.reduceAdd, Nat.reduceSub, Array.replicate_succ, Array.replicate_zero, List.push_toArray, List.append_toArray, List.nil_append, List.cons_append]
  have hsm := posts_small l hp
  have hpe := postsE_parts l
  have hlen : (postsE l).length ≤ 1000000000000 := by
    have h1 := varE_len l.length
    have h2 := varsE_len (skipsTo l ((l.length - 1) / 8))
    rw [skipsTo_length] at h2
    rw [hpe, List.length_append, List.length_append]
    omega
  have c1 : (W.alloc (.cells #[.func (.yield li) #[] #[]] 244)).cell? ⟨Bs, 0, none⟩ = some (strV (postsE l)) := (hbs.alloc _).cell
  have hBs := hbs.lt; have hBd := hbd.lt
  have hsz0 : ((W.alloc (.cells #[.func (.yield li) #[] #[]] 244)).alloc (.cells #[strV (postsE l), .bool false] 283)).heap.size = W.heap.size + 2 := by simp
  have hq0 : Q W ((W.alloc (.cells #[.func (.yield li) #[] #[]] 244)).alloc (.cells #[strV (postsE l), .bool false] 283)) := (Q.alloc W _).trans (Q.alloc _ _)
  have hy0 : Boxed ((W.alloc (.cells #[.func (.yield li) #[] #[]] 244)).alloc (.cells #[strV (postsE l), .bool false] 283)) W.heap.size 244 (.func (.yield li) #[] #[]) := (Boxed.new W _ _).alloc _
  have hr0 : Rdr ((W.alloc (.cells #[.func (.yield li) #[] #[]] 244)).alloc (.cells #[strV (postsE l), .bool false] 283)) (W.heap.size + 1) (postsE l) := by
    have := Blk.new (W.alloc (.cells #[.func (.yield li) #[] #[]] 244)) 283 #[strV (postsE l), .bool false]
    rwa [World.size_alloc] at this
  have HBS := Lib.hid hbs; have HBD := Lib.hid hbd; have HP := Lib.hid hp; have HY := Lib.hid hY; have HJ0 := Lib.hid hj0; have HJ := Lib.hid hJ; have HJX := Lib.hid hJx; have HSM := Lib.hid hsm; have HPE := Lib.hid hpe
  have HQ0 := Lib.hid hq0; have HY0 := Lib.hid hy0; have HR0 := Lib.hid hr0
  clear hbs hbd hp hY hj0 hJ hJx hsm hpe hq0 hy0 hr0
  gi_wp2_with fail
  clear c1
  generalize (W.alloc (.cells #[.func (.yield li) #[] #[]] 244)).alloc (.cells #[strV (postsE l), .bool false] 283) = W0 at *
  obtain ⟨s1, hs1⟩ : ∃ s1, s1 = varsE (skipsTo l ((l.length - 1) / 8)) ++ bodyF (-1) l := ⟨_, rfl⟩
  have hpe1 : postsE l = varE l.length ++ s1 := by rw [HPE.out, hs1]
  have hl1 : s1.length ≤ 1000000000000 := by have := congrArg List.length hpe1; rw [List.length_append] at this; omega
  have hln : l.length ≤ 500 := HSM.out.1
  have c := PNum_still (W.heap.size + 1) (postsE l) l.length s1 W0 HR0.out (by omega) ⟨by omega, hpe1⟩ (by omega)
  have C := Lib.hid c; have HS1 := Lib.hid hs1
  clear c hs1 hpe1
  refine ⟨trivial, rfl, (callsIn_wide.2 C.out).mono ?_⟩
  rintro e w1 ⟨rfl, hr1, t1, hz1⟩
  have hy1 : Boxed w1 W.heap.size 244 (.func (.yield li) #[] #[]) := t1.get HY0.out (by omega)
  have hj1 := HJ.out _ _ _ (HJ.out _ _ _ HJ0.out (Itk.of_q HQ0.out)) (t1.itk.mono (fun k h => .inl h) (Nat.le_refl _))
  have hs1' : Boxed w1 Bs 9 (strV (postsE l)) := t1.get (block_stays' HQ0.out HBS.out) (by omega)
  have hd1 : Boxed w1 Bd 3 (.int .i64 doc) := t1.get (block_stays' HQ0.out HBD.out) (by omega)
  have hb1 : Below n₀ W w1 := (Below.mono HQ0.out hn).trans ⟨t1.os, t1.tape, t1.output, t1.size, fun k hk => t1.block k (by omega) (by omega)⟩
  rw [hsz0] at hz1
  have HR1 := Lib.hid hr1; have HY1 := Lib.hid hy1; have HJ1 := Lib.hid hj1; have HS1' := Lib.hid hs1'; have HD1 := Lib.hid hd1; have HB1 := Lib.hid hb1
  clear hr1 hy1 hj1 hs1' hd1 hb1 t1 HR0 HY0 HJ0 HQ0 C hsz0 HBS HBD HPE hlen
  clear W0
  generalize postsE l = ps at *
  gi_wp2_with fail
  gi_loopw [6, 7, 8, 9, 10, 11] (fun la sk at_ fl en i wr => ∃ (m j : Nat) (b : Bool) (s' : Bytes), m ≤ (l.length - 1) / 8 ∧ j ≤ m ∧ i = .int .i64 (8 * (m + 1) : Nat) ∧ en = .int .i64 (dAt l (8 * m)) ∧ la = .int .i64 (dAt l (8 * j)) ∧ sk = .int .i64 (sAt l (8 * j) : Nat) ∧ at_ = .int .i64 (8 * j : Nat) ∧ fl = .bool b ∧
    (b = true → j = m) ∧ Hid (j = 0 ∨ dAt l (8 * j) < doc) ∧ Hid (s' = varsE ((skipsTo l ((l.length - 1) / 8)).drop (2 * m)) ++ bodyF (-1) l) ∧ s'.length ≤ 1000000000000 ∧ Hid (Rdr wr (W.heap.size + 1) s') ∧ Hid (Boxed wr Bd 3 (.int .i64 doc)) ∧ Hid (Boxed wr Bs 9 (strV ps)) ∧
    Hid (Boxed wr W.heap.size 244 (.func (.yield li) #[] #[])) ∧ Hid (J 0 wr) ∧ Hid (Below n₀ W wr) ∧ wr.heap.size = W.heap.size + 2) (fun _ _ _ _ _ i _ => l.length + 8 - (intOf i).toNat)
  case atStart => exact ⟨0, 0, true, s1, by omega, by omega, rfl, rfl, rfl, rfl, rfl, rfl, fun _ => rfl, .inl rfl, HS1.out, hl1, HR1.out, HD1.out, HS1'.out, HY1.out, HJ1.out, HB1.out, hz1⟩
  case round =>
    obtain ⟨m, j, b, s', hm, hj, rfl, rfl, rfl, rfl, rfl, rfl, hbj, HDJ, HSS, hsl, HR, HD, HBS, HYB, HJJ, HB, hz⟩ := hrel
    obtain ⟨wo, rfl⟩ : ∃ wo : World, wo = wr := ⟨_, rfl⟩
    obtain ⟨r0, r1, _⟩ := Blk.c2 HR.out
    have hdm1 := (dAt_bounds l HP.out (8 * m)).1; have hdm2 := (dAt_bounds l HP.out (8 * m)).2.1
    have hdj1 := (dAt_bounds l HP.out (8 * j)).1; have hdj2 := (dAt_bounds l HP.out (8 * j)).2.1
    have hsj := sAt_le l (8 * j)
    have hbl := HSM.out.2.2
    by_cases hlt : m < (l.length - 1) / 8
    · have hdn1 := (dAt_bounds l HP.out (8 * (m + 1))).1; have hdn2 := (dAt_bounds l HP.out (8 * (m + 1))).2.1
      have hmono := dAt_mono l HP.out (8 * m) (8 * (m + 1)) (by omega)
      have hsn := sAt_le l (8 * (m + 1))
      have hsmn := sAt_mono l (8 * m) (8 * (m + 1)) (by omega)
      have hdr := skipsTo_drop l m ((l.length - 1) / 8) hlt
      have hst : s' = varE (dAt l (8 * (m + 1)) - dAt l (8 * m)).toNat ++ (varE (sAt l (8 * (m + 1)) - sAt l (8 * m)) ++ (varsE ((skipsTo l ((l.length - 1) / 8)).drop (2 * (m + 1))) ++ bodyF (-1) l)) := by
        rw [HSS.out, hdr]; simp [varsE]
      obtain ⟨s3, hs3⟩ : ∃ s3, s3 = varsE ((skipsTo l ((l.length - 1) / 8)).drop (2 * (m + 1))) ++ bodyF (-1) l := ⟨_, rfl⟩
      rw [← hs3] at hst
      obtain ⟨s2, hs2⟩ : ∃ s2, s2 = varE (sAt l (8 * (m + 1)) - sAt l (8 * m)) ++ s3 := ⟨_, rfl⟩
      rw [← hs2] at hst
      have hl2 : s2.length ≤ 1000000000000 := by have := congrArg List.length hst; rw [List.length_append] at this; omega
      have hl3 : s3.length ≤ 1000000000000 := by have := congrArg List.length hs2; rw [List.length_append] at this; omega
      have c1 := PNum_still (W.heap.size + 1) s' (dAt l (8 * (m + 1)) - dAt l (8 * m)).toNat s2 wo HR.out (by omega) ⟨by omega, hst⟩ (by omega)
      have c2 := fun w hb => PNum_still (W.heap.size + 1) s2 (sAt l (8 * (m + 1)) - sAt l (8 * m)) s3 w hb (by omega) ⟨by omega, hs2⟩ (by omega)
      have hv1 : ((dAt l (8 * (m + 1)) - dAt l (8 * m)).toNat : Int) = dAt l (8 * (m + 1)) - dAt l (8 * m) := by omega
      rw [hv1] at c1
      have C1 := Lib.hid c1; have C2 := Lib.hid c2; have HS3 := Lib.hid hs3
      clear c1 c2 hs3 hs2 hst hdr hv1
      gi_wp2_with fail
      refine ⟨trivial, rfl, (callsIn_wide.2 C1.out).mono ?_⟩
      rintro e w2 ⟨rfl, hr2, t2, hz2⟩
      have T2 := Lib.hid t2
      have R2 := Lib.hid hr2
      clear t2 hr2 C1 r0 r1 HR
      have hde : dAt l (8 * m) + (dAt l (8 * (m + 1)) - dAt l (8 * m)) = dAt l (8 * (m + 1)) := by omega
      gi_wp2_with fail
      refine ⟨trivial, rfl, (callsIn_wide.2 (C2.out _ R2.out)).mono ?_⟩
      rintro e w3 ⟨rfl, hr3, t3, hz3⟩
      have tt := T2.out.trans t3
      have y3 : Boxed w3 W.heap.size 244 (.func (.yield li) #[] #[]) := tt.get HYB.out (by omega)
      have d3 : Boxed w3 Bd 3 (.int .i64 doc) := tt.get HD.out (by omega)
      have bs3 : Boxed w3 Bs 9 (strV ps) := tt.get HBS.out (by omega)
      have j3 := HJ.out _ _ _ HJJ.out (tt.itk.mono (fun k h => .inl h) (Nat.le_refl _))
      have bb3 : Below n₀ W w3 := HB.out.trans ⟨tt.os, tt.tape, tt.output, tt.size, fun k hk => tt.block k (by omega) (by omega)⟩
      have hz3' : w3.heap.size = W.heap.size + 2 := by omega
      have dc := d3.cell
      have R3 := Lib.hid hr3; have Y3 := Lib.hid y3; have D3 := Lib.hid d3; have S3 := Lib.hid bs3; have J3 := Lib.hid j3; have B3 := Lib.hid bb3
      clear hr3 t3 tt y3 d3 bs3 j3 bb3 T2 R2 C2 HD HBS HYB HJJ HB hde
      cases b with
      | false =>
        gi_wp2_with fail
        go_roundw
        case rel => exact ⟨m + 1, j, false, s3, by omega, by omega, by go_num, rfl, rfl, rfl, rfl, rfl, fun h => (by cases h), HDJ, HS3, hl3, R3, D3, S3, Y3, J3, B3, hz3'⟩
        case measure => simp [intOf]; omega
      | true =>
        have hjm := hbj rfl
        subst hjm
        by_cases hdd : dAt l (8 * (j + 1)) < doc
        · have hsum : (sAt l (8 * j) : Int) + ((sAt l (8 * (j + 1)) - sAt l (8 * j) : Nat) : Int) = (sAt l (8 * (j + 1)) : Nat) := by omega
          have HDD := Lib.hid hdd
          gi_wp2_with fail
          go_roundw
          case rel => exact ⟨j + 1, j + 1, true, s3, by omega, by omega, by go_num, rfl, rfl, by go_num, by go_num, rfl, fun _ => rfl, .inr HDD.out, HS3, hl3, R3, D3, S3, Y3, J3, B3, hz3'⟩
          case measure => simp [intOf]; omega
        · gi_wp2_with fail
          go_roundw
          case rel => exact ⟨j + 1, j, decide (dAt l (8 * (j + 1)) < doc), s3, by omega, by omega, by go_num, rfl, rfl, rfl, rfl, rfl, fun h => by have := of_decide_eq_true h; omega, HDJ, HS3, hl3, R3, D3, S3, Y3, J3, B3, hz3'⟩
          case measure => simp [intOf]; omega
    · have hmm : m = (l.length - 1) / 8 := by omega
      have hs2 : s' = bodyF (-1) l := by
        rw [HSS.out, List.drop_eq_nil_of_le (by rw [skipsTo_length]; omega)]; simp [varsE]
      have hdrop : s'.drop (sAt l (8 * j)) = bodyF (dAt l (8 * j)) (l.drop (8 * j)) := by rw [hs2]; exact body_drop l (8 * j)
      have h8j : 8 * j ≤ l.length := by omega
      have hsl2 : sAt l (8 * j) ≤ s'.length := by rw [hs2]; exact hsj
      obtain ⟨s4, hs4⟩ : ∃ s4, s4 = s'.drop (sAt l (8 * j)) := ⟨_, rfl⟩
      have hx : ({ data := s'.toArray } : ByteArray).extract (sAt l (8 * j)) s'.length = ⟨s4.toArray⟩ := by rw [bytes_drop, hs4]
      rw [← hs4] at hdrop
      have hl4 : s4.length ≤ 1000000000000 := by have := congrArg List.length hs4; rw [List.length_drop] at this; omega
      have hnl : ¬ 8 * (m + 1) < l.length := by omega
      have hf0 := (Blk.c2 HR.out).2.2.1
      have HDR := Lib.hid hdrop; have HXX := Lib.hid hs2
      clear hs2 hdrop HSS hs4 hmm
      have r5 : Rdr (wo.setCell ⟨W.heap.size + 1, 0, none⟩ (strV s4)) (W.heap.size + 1) s4 := Blk.set HR.out 0 (strV s4)
      have t5 : Turn (· = W.heap.size + 1) wo (wo.setCell ⟨W.heap.size + 1, 0, none⟩ (strV s4)) := Turn.setCell (own := (· = W.heap.size + 1)) (Turn.refl _ _) (.inl rfl) _
      have y5 : Boxed (wo.setCell ⟨W.heap.size + 1, 0, none⟩ (strV s4)) W.heap.size 244 (.func (.yield li) #[] #[]) := t5.get HYB.out (by omega)
      have d5 : Boxed (wo.setCell ⟨W.heap.size + 1, 0, none⟩ (strV s4)) Bd 3 (.int .i64 doc) := t5.get HD.out (by omega)
      have b5 : Boxed (wo.setCell ⟨W.heap.size + 1, 0, none⟩ (strV s4)) Bs 9 (strV ps) := t5.get HBS.out (by omega)
      have j5 := HJ.out _ _ _ HJJ.out (t5.itk.mono (fun k h => .inl h) (Nat.le_refl _))
      have bb5 : Below n₀ W (wo.setCell ⟨W.heap.size + 1, 0, none⟩ (strV s4)) := HB.out.trans ⟨t5.os, t5.tape, t5.output, t5.size, fun k hk => t5.block k (by omega) (by omega)⟩
      have z5 : (wo.setCell ⟨W.heap.size + 1, 0, none⟩ (strV s4)).heap.size = W.heap.size + 2 := by simpa using hz
      have R5 := Lib.hid r5; have Y5 := Lib.hid y5; have D5 := Lib.hid d5; have S5 := Lib.hid b5; have J5 := Lib.hid j5; have BB5 := Lib.hid bb5; have Z5 := Lib.hid z5
      have hnj : ((l.length : Int) - 8 * (j : Int)) = ((l.length - 8 * j : Nat) : Int) := by omega
      clear r5 t5 y5 d5 b5 j5 bb5 z5 HR HYB HD HBS HJJ HB
      gi_wp2_with fail
      generalize wo.setCell ⟨W.heap.size + 1, 0, none⟩ (.string ⟨s4.toArray⟩) = W5 at *
      refine ⟨trivial, rfl, (callsIn_wide.2 (PPostings_any _ _ _ _)).mono ?_⟩
      rintro e w6 ⟨rfl, hw6⟩
      have e5 := Z5.out
      rw [e5]
      obtain ⟨x1, x2, x3, x4, x5⟩ := boxes3 W5 _ e5 281 3 3 (.pointer (some ⟨W.heap.size + 1, 0, none⟩)) (.int .i64 ((l.length - 8 * j : Nat) : Int)) (.int .i64 (dAt l (8 * j)))
      rw [← hw6] at x1 x2 x3 x4 x5
      have r6 := R5.out.stays x5
      have y6 : Boxed w6 W.heap.size 244 (.func (.yield li) #[] #[]) := block_stays' x5 Y5.out
      have d6 : Boxed w6 Bd 3 (.int .i64 doc) := block_stays' x5 D5.out
      have b6 : Boxed w6 Bs 9 (strV ps) := block_stays' x5 S5.out
      have j6 := HJ.out _ _ _ J5.out (Itk.of_q x5)
      have bb6 : Below n₀ W w6 := BB5.out.trans (Below.mono x5 (by omega))
      clear hw6 x5 R5 Y5 D5 S5 J5 BB5 Z5 e5 hnj
      clear W5
      obtain ⟨L, hL⟩ : ∃ L, L = l.drop (8 * j) := ⟨_, rfl⟩
      have hLp : postsRight (dAt l (8 * j)) L = true := by rw [hL]; exact postsRight_drop (-1) l (8 * j) HP.out
      have hLl : L.length = l.length - 8 * j := by rw [hL, List.length_drop]
      have hFL : fromP l doc = fromP L doc := by rw [hL]; exact (fromP_drop l HP.out (8 * j) doc (HDJ.out.imp (fun h => by omega) id)).symm
      have hs4 : s4 = bodyF (dAt l (8 * j)) L ++ [] := by rw [HDR.out, hL, List.append_nil]
      rw [← hLl] at x2
      have HLP := Lib.hid hLp; have HFL := Lib.hid hFL; have HS4 := Lib.hid hs4
      have HX1 := Lib.hid x1; have HX2 := Lib.hid x2; have HX3 := Lib.hid x3; have HR6 := Lib.hid r6; have HY6 := Lib.hid y6; have HD6 := Lib.hid d6; have HS6 := Lib.hid b6; have HJ6 := Lib.hid j6; have HB6 := Lib.hid bb6
      have hL5 : L.length ≤ 1000 := by omega
      clear hL hLp hFL hs4 x1 x2 x3 r6 y6 d6 b6 j6 bb6 HDR HXX HDJ HSM r0 r1 hf0 hx hsj hbl
      gi_wp2_with fail
      refine wpIn_act (fun A0 hA0 => ?_)
      refine wp_rangeP (gf := 218) (lb := #[.pointer (some ⟨W.heap.size + 2 + 1, 0, none⟩), .pointer (some ⟨W.heap.size + 2, 0, none⟩), .pointer (some ⟨W.heap.size + 2 + 2, 0, none⟩)]) (by rw [hA0]; rfl) (enters_of Tryz.func218 (by kernel_rfl) rfl)
        (encs := encP (w6.heap.size + 2)) (own := fun k => k = W.heap.size + 1 ∨ k = W.heap.size + 2 + 2) (keep := fun k => k = W.heap.size + 1 ∨ k = W.heap.size + 2 + 2 ∨ k = W.heap.size + 2 + 1 ∨ k = W.heap.size + 2) (n₀ := n₀) (xs := L)
        (fun W1 hq hz => by
          have h := PIter_seq (W.heap.size + 1) (W.heap.size + 2 + 1) (W.heap.size + 2) (W.heap.size + 2 + 2) L (dAt l (8 * j)) s4 [] n₀ W1 (block_stays' hq HX2.out) (block_stays' hq HX1.out) (block_stays' hq HX3.out) (HR6.out.stays hq) HS4.out (by omega) hdj1 hdj2 HLP.out (by omega) (by omega)
          rw [hz] at h
          exact h)
        (fun k h => by omega) (fun k h => by omega) (by omega) (fun x W1 args h => by obtain ⟨v, rfl, _⟩ := h; rfl)
        (fun k W' => J (fromP (L.take k) doc).length W' ∧ Boxed W' Bs 9 (strV ps) ∧ Boxed W' Bd 3 (.int .i64 doc) ∧ Boxed W' W.heap.size 244 (.func (.yield li) #[] #[]) ∧ Below n₀ W W')
        (fun c _ W' => c = .ret ∧ ∃ i, i ≤ (fromP l doc).length ∧ Jx i W')
        (fun k a' W' => ∃ (x : PostL) (v : Value) (B : Nat), L[k]? = some x ∧ a' = { tmps := (A0.tmps.setIfInBounds 77 (.agg #[.int .i64 x.1, v])).setIfInBounds 13 (.pointer (some ⟨B, 0, none⟩)), defers := [] } ∧ Blk W' B 211 #[.int .i64 x.1, v] ∧ W'.ownsRow (w6.heap.size + 2) 3 1 v x.2.length (intCs x.2) ∧ w6.heap.size + 2 ≤ B)
        ?hI ?hIx ?hAx ?h0 ?assign ?body ?done ?stop
      case hI =>
        rintro k A C ⟨h1, h2, h3, h4, h5⟩ hi
        exact ⟨HJ.out _ _ _ h1 (hi.mono (fun k h => by omega) (by omega)), hi.boxed h2 (by omega), hi.boxed h3 (by omega), hi.boxed h4 (by omega), hi.below h5 (by omega) (by have := h5.size; omega) (fun k h => by omega)⟩
      case hIx =>
        rintro c k A C ⟨rfl, i, h1, h2⟩ hi
        exact ⟨rfl, i, h1, HJX.out _ _ _ h2 (hi.mono (fun k h => by omega) (by omega))⟩
      case hAx =>
        rintro k a' A C ⟨x, v, B, h1, h2, h3, h4, h5⟩ hi
        exact ⟨x, v, B, h1, h2, hi.get h3 (by omega), hi.owns h4 (fun g hg => by have := (h4.lt g hg).1; omega), h5⟩
      case h0 => exact ⟨HJ6.out, HS6.out, HD6.out, HY6.out, HB6.out⟩
      case assign =>
        intro l' k hk W' args K hi henc hz hK
        obtain ⟨v, rfl, ho⟩ := henc
        obtain ⟨a, cap, rfl, hsm⟩ := owns_value ho
        obtain ⟨h1, h2, h3, h4, h5⟩ := hi
        have hq := Q.alloc W' (.cells #[.int .i64 L[k].1, .slice a L[k].2.length cap] 211)
        have hm := Blk.new W' 211 #[.int .i64 L[k].1, .slice a L[k].2.length cap]
        have G2 := Lib.hid hm; have G3 := Lib.hid (ownsRow_below ho hq); have G4 := Lib.hid (HJ.out _ _ _ h1 (Itk.of_q hq))
        have g5 : Boxed _ Bs 9 (strV ps) := block_stays' hq h2
        have g6 : Boxed _ Bd 3 (.int .i64 doc) := block_stays' hq h3
        have g7 : Boxed _ W.heap.size 244 (.func (.yield li) #[] #[]) := block_stays' hq h4
        have g8 := h5.trans (Below.mono hq (show n₀ ≤ _ by omega))
        have G1 := Lib.hid hq; have G5 := Lib.hid g5; have G6 := Lib.hid g6; have G7 := Lib.hid g7; have G8 := Lib.hid g8
        clear g5 g6 g7 g8
        have HK := Lib.hid hK
        subst hA0
        clear hq hm ho h1 h2 h3 h4 h5 hK
        gi_wp2
        refine HK.out _ _ G1.out ⟨G4.out, G5.out, G6.out, G7.out, G8.out⟩ ⟨L[k], .slice a L[k].2.length cap, W'.heap.size, List.getElem?_eq_getElem hk, ?_, G2.out, G3.out, by omega⟩
        rfl
      case body =>
        rintro l' k hk a' W' ⟨⟨rc, hrc⟩, hdf⟩ hl ⟨h1, h2, h3, h4, h5⟩ ⟨x, v, B, hx, rfl, hm, ho, hB⟩ hkb hz
        obtain ⟨hlt, hxe⟩ := List.getElem?_eq_some_iff.1 hx
        subst hA0
        have hBW := hm.lt
        obtain ⟨a, cap, rfl, hsm⟩ := owns_value ho
        obtain ⟨m0, m1, _⟩ := hm.c2
        have cd := h3.cell
        have cy := h4.cell
        have htk := fromP_take L doc k hk
        rw [hxe] at htk
        have ho2 := owns_low ho (show W.heap.size + 7 ≤ w6.heap.size + 2 by omega)
        have hat := fromP_at L doc k hk
        rw [hxe, ← HFL.out] at hat
        have hkeep : ∀ b, b = Bs ∨ b = Bd ∨ W.heap.size ≤ b ∧ b < W.heap.size + 7 → b < W'.heap.size := fun b hb => by omega
        have hnW := h5.size
        have H1 := Lib.hid h1; have H2 := Lib.hid h2; have H3 := Lib.hid h3; have H4 := Lib.hid h4; have H5 := Lib.hid h5; have HTK := Lib.hid htk; have HO2 := Lib.hid ho2; have HAT := Lib.hid hat; have HKP := Lib.hid hkeep
        clear h1 h2 h3 h4 h5 htk ho2 hat hkeep hm ho hrc hdf hkb hx hxe
        simp only [List.setIfInBounds_toArray, List.set_cons_succ, List.set_cons_zero]
        by_cases hge : doc ≤ x.1
        · obtain ⟨hil, hie⟩ := HAT.out hge
          rw [if_pos hge] at HTK
          have hyy := HY.out _ hil W' #[Value.agg #[.int .i64 x.1, .slice a x.2.length cap]] H1.out (by rw [hie]; exact ⟨_, rfl, HO2.out⟩) HKP.out
          obtain ⟨fn, tmps, assign, body, hy, hRR⟩ := hyy
          have HYR := Lib.hid hRR
          have hln2 : (fromP (L.take (k + 1)) doc).length = (fromP (L.take k) doc).length + 1 := by rw [HTK.out]; simp
          have HLN := Lib.hid hln2
          clear hRR hie hln2
          gi_wp2
          refine ⟨rfl, (round_in _ (HYR.out _)).mono ?_⟩
          rintro e W5 (⟨rfl, hJ5, hk5⟩ | ⟨rfl, hJx5, hk5⟩)
          · have g2 : Boxed W5 Bs 9 (strV ps) := (hk5.own Bs (.inl rfl) H2.out.lt).trans H2.out
            have g3 : Boxed W5 Bd 3 (.int .i64 doc) := (hk5.own Bd (.inr (.inl rfl)) H3.out.lt).trans H3.out
            have g4 : Boxed W5 W.heap.size 244 (.func (.yield li) #[] #[]) := (hk5.own _ (.inr (.inr ⟨by omega, by omega⟩)) H4.out.lt).trans H4.out
            have g5 := H5.out.trans hk5.below
            have gk := hk5.mono (own' := fun b => (b = W.heap.size + 1 ∨ b = W.heap.size + 2 + 2 ∨ b = W.heap.size + 2 + 1 ∨ b = W.heap.size + 2) ∨ b = w6.heap.size ∨ b = w6.heap.size + 1) (fun b h => .inr (.inr (by omega))) (Nat.le_refl n₀)
            rw [← HLN.out] at hJ5
            have G2 := Lib.hid g2; have G3 := Lib.hid g3; have G4 := Lib.hid g4; have G5 := Lib.hid g5; have GK := Lib.hid gk; have GJ := Lib.hid hJ5
            clear g2 g3 g4 g5 gk hJ5 hk5
            gi_wp2
            exact ⟨GK.out, GJ.out, G2.out, G3.out, G4.out, G5.out⟩
          · have gk := hk5.mono (own' := fun b => (b = W.heap.size + 1 ∨ b = W.heap.size + 2 + 2 ∨ b = W.heap.size + 2 + 1 ∨ b = W.heap.size + 2) ∨ b = w6.heap.size ∨ b = w6.heap.size + 1) (fun b h => .inr (.inr (by omega))) (Nat.le_refl n₀)
            have GK := Lib.hid gk; have GJ := Lib.hid hJx5
            clear gk hJx5 hk5
            gi_wp2
            exact ⟨GK.out, rfl, _, by omega, GJ.out⟩
        · rw [if_neg hge, List.append_nil] at HTK
          have hj1 := H1.out
          rw [← HTK.out] at hj1
          have HJ1 := Lib.hid hj1
          clear hj1
          gi_wp2
          refine ⟨fun f h => (by cases h), ?_⟩
          gi_wp2
          exact ⟨Bk.refl _ _ _, HJ1.out, H2.out, H3.out, H4.out, H5.out⟩
      case done =>
        rintro D W' hD hz ⟨h1, h2, h3, h4, h5⟩ hK
        rw [List.take_length, ← HFL.out] at h1
        have H1 := Lib.hid h1; have HK := Lib.hid hK
        subst hA0
        clear h1 h2 h3 h4 h5 hK
        gi_wp2_with fail
        refine ⟨by simp, .inl ⟨_, _, rfl, run_takeDeferred HK.out, ?_⟩⟩
        refine ⟨_, results_none rfl _ _ _, ⟨_, rfl⟩, .inl ?_⟩
        exact HJ.out _ _ _ H1.out (Itk.put _ HK.out rfl (by omega))
      case stop =>
        rintro D c k W' hD hk ⟨rfl, i, h1, h2⟩ hK
        subst hA0
        have H2 := Lib.hid h2; have HK := Lib.hid hK
        clear h2 hK
        gi_wp2_with fail
        refine ⟨by simp, .inl ⟨_, _, rfl, run_takeDeferred HK.out, ?_⟩⟩
        refine ⟨_, results_none rfl _ _ _, ⟨_, rfl⟩, .inr ⟨i, h1, ?_⟩⟩
        exact HJX.out _ _ _ H2.out (Itk.put _ HK.out rfl (by omega))
end Go.Proofs.YtcflpcpkmhljkaaGreatDoor
end

/- (WOpen) segment.Open: walked, at what Build has answered. -/
section
namespace Go.Proofs.YtcflpcpkmhljkaaGreatDoor
open Go.RowKit
set_option linter.unusedVariables false

/-! ### plain -/
theorem IsRead.same {s d d' : Bytes} {l l' : List DocL} (h : IsRead s l d) (h' : IsRead s l' d') : l = l' ∧ d = d' := by
  obtain ⟨a, b, c, e⟩ := h
  obtain ⟨a', b', c', e'⟩ := h'
  exact segBody_inj l l' d d' b b' (by omega) (by omega) c c' (by unfold segBody; rw [← e, ← e'])
theorem read_body (l : List DocL) (d : Bytes) (hn : l.length ≤ 500) (hl : ∀ x ∈ l, x.1.length ≤ 40 ∧ x.2.length ≤ 2000) (hd : d.length ≤ 5000000000000) : IsRead ((segBody l d).drop 4) l d := by
  refine ⟨hn, fun x hx => ?_, by omega, by simp [segBody, magicL]⟩
  have := hl x hx
  exact ⟨by omega, by omega⟩
theorem prefix_ok (l : List DocL) (d : Bytes) : Lib.hasPrefix (segE l d) [67, 68, 88, 71] = true ∧ Lib.trimPrefix (segE l d) [67, 68, 88, 71] = (segE l d).drop 4 := by
  have e : segE l d = [67, 68, 88, 71] ++ (varE l.length ++ (docsE l ++ textE d) ++ fixedL (crcL (segBody l d))) := by simp [segE, segBody, magicL]
  rw [e]
  simp [Lib.hasPrefix, Lib.trimPrefix]
theorem owns_zero {w : World} {base : Nat} {e : TypeId} {size : Nat} {v : Value} {n : Nat} {xs : List Value} (h : w.ownsRow base e size v n xs) : w.ownsRow 0 e size v n xs := by
  obtain ⟨h1, h2⟩ := h
  refine ⟨h1, ?_⟩
  rcases h2 with h2 | ⟨g, cap, cur, rfl, hb2, hg, rest⟩
  · exact .inl h2
  · exact .inr ⟨g, cap, cur, rfl, Nat.zero_le _, hg, rest⟩
/-- what a segment's pointer leads to -/
def SegAt (W : World) (p : Nat) (l : List DocL) (d : Bytes) : Prop :=
  ∃ v mb, W.heap[p]? = some (.cells #[v, .map (some mb), .string ⟨d.toArray⟩] 93 (0, 0)) ∧ W.ownsRow 0 63 2 v l.length (docVs l) ∧ MapS W mb (entK l l.length)
theorem SegAt.stays {W W' : World} {p : Nat} {l : List DocL} {d : Bytes} (h : SegAt W p l d) (q : Q W W') : SegAt W' p l d := by
  obtain ⟨v, mb, h1, h2, h3⟩ := h
  exact ⟨v, mb, block_stays' q h1, ownsRow_below h2 q, h3.stays q⟩
set_option maxRecDepth 100000 in
set_option maxHeartbeats 4000000 in
theorem Open_ok (l : List DocL) (w : World) (h : ¬ (l.length < 1 ∨ 500 < l.length)) (hok : docsOk l) (hT : Tabs w) (hSp : Spans w) :
    Calls Tryz.prog 91 #[.string ⟨(segE l (idxS l)).toArray⟩] w fun e w' => (∃ p, e = .returned (.tuple #[.pointer (some ⟨p, 0, none⟩), .int .i64 0]) ∧ SegAt w' p l (idxS l)) ∧ Q w w' := by
  have hlen : ∀ d ∈ l, d.1.length ≤ 40 ∧ d.2.length ≤ 2000 := fun d hd => rightB_len (hok.1 d hd)
  have hdl := dictL_len ((sortL ((ixAll l).map (·.1))).map (entS (ixAll l)))
  rw [show dictL ((sortL ((ixAll l).map (·.1))).map (entS (ixAll l))) = idxS l from rfl] at hdl
  have hrb := read_body l (idxS l) (by omega) hlen (by omega)
  have hpre := prefix_ok l (idxS l)
  have hbs : buildS l = (segE l (idxS l), 0) := by unfold buildS; rw [if_neg h, if_pos hok]
  have hsl : (segE l (idxS l)).length = (segBody l (idxS l)).length + 4 := by simp [segE, length_fixedL]
  have hbl : (segBody l (idxS l)).length ≤ 6000000000000 ∧ 4 ≤ (segBody l (idxS l)).length := by
    have h1 := varE_len l.length
    have h2 := docsE_len l hlen
    have h3 := textE_len (idxS l)
    simp only [segBody, List.length_append, magicL, List.length_cons, List.length_nil]
    omega
  have hst : (segE l (idxS l)).take (segBody l (idxS l)).length = segBody l (idxS l) := by unfold segE; exact List.take_left
  have hsd : (segE l (idxS l)).drop (segBody l (idxS l)).length = fixedL (crcL (segBody l (idxS l))) := by unfold segE; exact List.drop_left
  have HL := Lib.hid hlen; have HRB := Lib.hid hrb; have HPRE := Lib.hid hpre; have HBS := Lib.hid hbs; have HST := Lib.hid hst; have HSD := Lib.hid hsd; have HT := Lib.hid hT; have HSP := Lib.hid hSp; have HOK := Lib.hid hok
  clear hlen hrb hpre hbs hst hsd hT hSp hok
  generalize hsg : segE l (idxS l) = sg at *
  generalize hbd : segBody l (idxS l) = bd at *
  generalize hdx : idxS l = dx at *
  have HDX := Lib.hid hdx
  clear hsg hbd hdx
  have c1 := Tryz.strings_CutPrefix ⟨sg.toArray⟩ ⟨#[67, 68, 88, 71]⟩ w
  rw [show Lib.hasPrefix (⟨sg.toArray⟩ : ByteArray).data.toList (⟨#[67, 68, 88, 71]⟩ : ByteArray).data.toList = true from HPRE.out.1, show Lib.trimPrefix (⟨sg.toArray⟩ : ByteArray).data.toList (⟨#[67, 68, 88, 71]⟩ : ByteArray).data.toList = sg.drop 4 from HPRE.out.2] at c1
  have C1 := Lib.hid c1
  have hrl : (sg.drop 4).length = sg.length - 4 := by simp
  clear c1
  go_enter Tryz.func91, Tryz.ntmps91
  go_wp2_with fail
  refine C1.out.mono ?_
  rintro e w1 ⟨rfl, rfl⟩
  have hbx : ({ data := sg.toArray } : ByteArray).extract 0 bd.length = ⟨bd.toArray⟩ := by rw [bytes_take, HST.out]
  have hx4 : ({ data := bd.toArray } : ByteArray).extract 4 bd.length = ⟨(bd.drop 4).toArray⟩ := bytes_drop bd 4
  go_wp2_with fail
  have hmx : Tryz.prog.follows .mixedOrders = true := by kernel_rfl
  have hxd : ({ data := sg.toArray } : ByteArray).extract bd.length sg.length = ⟨(fixedL (crcL bd)).toArray⟩ := by rw [bytes_drop, HSD.out]
  rw [hsl] at hxd
  have hflat : [bd].flatten = bd := by simp
  have hcl := crcL_lt bd
  have hone : [bd].length ≤ 9223372036854775807 := by simp
  have hbp : ∀ p ∈ [bd], p.length ≤ 9223372036854775807 := by intro p hp; rw [List.mem_singleton] at hp; subst hp; omega
  generalize hfx : fixedL (crcL bd) = fx at *
  have cfix := fun W => Fixed_any (crcL bd) W hcl
  rw [hfx] at cfix
  have hi1 : (0 : Int) ≤ (bd.length : Int) ∧ (bd.length : Int) ≤ (bd.length : Int) + 4 := by omega
  obtain ⟨hi2, hi3⟩ := hi1
  go_region_held3 (fun w' => True) (exact trivial)
    (first
      | (go_at_call 140; refine (Crc_any _ [bd] _ (by repeat (first | (with_reducible exact Strs.lit1 _ _ _) | with_reducible apply Strs.al | with_reducible apply Strs.dr)) hone hbp).mono ?_; rw [hflat]; rintro e w' ⟨rfl, rfl⟩)
      | (go_at_call 139; refine (cfix _).mono ?_; rintro e w' ⟨rfl, q⟩))
  have hq : Q w1 w' := ((Q.alloc w1 (.cells #[.string ⟨bd.toArray⟩] 9)).trans (Q.drew _)).trans q
  have cr := read_any (bd.drop 4) w' (by rw [List.length_drop]; omega)
  have CR := Lib.hid cr; have HQ := Lib.hid hq
  clear cr hq q cfix
  go_wp2_with fail
  refine CR.out.mono ?_
  rintro e w2 ⟨q2, hr⟩
  obtain ⟨v, hown2, rfl⟩ : ∃ v, w2.ownsRow w'.heap.size 63 2 v l.length (docVs l) ∧ e = .returned (.tuple #[v, strV dx, .bool true]) := by
    rcases hr with ⟨v, l', d', h1, h2, h3⟩ | ⟨h1, _⟩
    · obtain ⟨e1, e2⟩ := h1.same HRB.out
      rw [e1] at h2; rw [e2] at h3
      exact ⟨v, h2, h3⟩
    · exact absurd HRB.out (h1 _ _)
  have hdocs : Docs w2 v l := Sl.of_owns hown2
  have hw2 := owns_zero hown2
  have HW2 := Lib.hid hw2
  clear hown2 hw2
  have hb2 := HQ.out.trans q2
  have cb := Build_any v l w2 hdocs (by omega) (fun d hd => by have := HL.out d hd; omega) (HT.out.stays hb2) (HSP.out.stays hb2)
  rw [HBS.out] at cb
  obtain ⟨sa, scap, hsv⟩ : ∃ sa scap, v = .slice sa l.length scap := by obtain ⟨x, y, h, _⟩ := hdocs.value; exact ⟨x, y, h⟩
  subst hsv
  have CB := Lib.hid cb; have HQ2 := Lib.hid hb2; have HD := Lib.hid hdocs
  clear cb hb2 q2 hr hdocs CR HQ
  go_wp2_with fail
  refine CB.out.mono ?_
  rintro e w3 ⟨rfl, q3⟩
  have hd3 := HD.out.stays q3
  have hw3 := ownsRow_below HW2.out q3
  have HW3 := Lib.hid hw3
  clear hw3 HW2
  have hb3 := HQ2.out.trans q3
  have cg := gather_any _ l w3 hd3 (by omega) (fun d hd => by have := HL.out d hd; omega) (HT.out.stays hb3)
  have CG := Lib.hid cg; have HQ3 := Lib.hid hb3; have HD3 := Lib.hid hd3
  clear cg hb3 q3 hd3 CB HQ2 HD
  go_wp2_with fail
  refine CG.out.mono ?_
  rintro e w4 ⟨q4, hg⟩
  obtain ⟨mb, rfl, hm⟩ : ∃ b, e = .returned (.tuple #[.agg #[.slice sa l.length scap, .map (some b)], .bool true]) ∧ MapS w4 b (entK l l.length) := by
    rcases hg with ⟨h1, b, h2, h3⟩ | ⟨h1, _⟩
    · refine ⟨b, ?_, h3⟩
      rw [h2, decide_eq_true HOK.out.2]
    · exact absurd HOK.out.1 h1
  have hb4 := HQ3.out.trans q4
  have hd4 := ownsRow_below HW3.out q4
  have HQ4 := Lib.hid hb4; have HD4 := Lib.hid hd4; have HM := Lib.hid hm
  clear hb4 hd4 hm hg q4 CG HQ3 HD3 HW3
  go_wp2_with fail
  have hqq : Q w4 ((w4.alloc (.cells #[.slice sa l.length scap, .map (some mb)] 91)).alloc (.cells #[.slice sa l.length scap, .map (some mb), strV dx] 93)) := (Q.alloc _ _).trans (Q.alloc _ _)
  have hnew := heap_alloc_new (w4.alloc (.cells #[.slice sa l.length scap, .map (some mb)] 91)) (.cells #[.slice sa l.length scap, .map (some mb), strV dx] 93)
  rw [World.size_alloc] at hnew
  go_ret2
  exact ⟨⟨w4.heap.size + 1, rfl, _, mb, hnew, ownsRow_below HD4.out hqq, HM.out.stays hqq⟩, HQ4.out.trans hqq⟩
end Go.Proofs.YtcflpcpkmhljkaaGreatDoor
end

/- (WSegDocs) segment.docs.Docs, Find; slices.Clone at documents: walked. -/
section
namespace Go.Proofs.YtcflpcpkmhljkaaGreatDoor
open Go.RowKit
set_option linter.unusedVariables false

theorem docVs_one (l : List DocL) : ∀ u ∈ docVs l, u.oneCell' = true := by
  intro u hu
  obtain ⟨d, _, hd⟩ := List.mem_flatMap.1 hu
  simp at hd
  rcases hd with rfl | rfl <;> simp [Value.oneCell']
set_option maxRecDepth 100000 in
set_option maxHeartbeats 2000000 in
theorem Clone_docs (v : Value) (l : List DocL) (w : World) (hv : Docs w v l) (hn : l.length ≤ 1000000) :
    Calls Tryz.prog 72 #[v] w fun e w' => ∃ v', e = .returned v' ∧ w'.ownsRow w.heap.size 63 2 v' l.length (docVs l) ∧ Q w w' := by
  obtain ⟨i0, hi, hz0, hz1, hz2⟩ := info_parts tinfo63
  obtain ⟨hxs, a, cap, rfl, hcell⟩ := hv
  have hn2 : (docVs l).length = l.length * 2 := hxs
  have hone := docVs_one l
  cases a with
  | none =>
    have h0 : l.length = 0 := by
      by_cases h : l.length = 0
      · exact h
      · obtain ⟨b, off, e, _⟩ := hcell (by omega)
        cases e
    obtain rfl : l = [] := List.eq_nil_of_length_eq_zero h0
    clear hcell hxs hn2 hone
    go_enter Tryz.func72, Tryz.ntmps72
    go_wp2_with fail
    rw [Lib.run_eql_slice_nil _ _ _ _ _ _ _ _ Tryz.underlying43]
    go_wp2_with fail
    go_ret
    exact ⟨_, rfl, World.ownsRow_nil _ _ _ _, Q.refl _⟩
  | some ad =>
    have hcc : ∀ j u, (docVs l)[j]? = some u → (w.alloc (.cells #[] 63)).cell? (ad.add j) = some u := by
      intro j u hu
      have hjl : j < (docVs l).length := (List.getElem?_eq_some_iff.1 hu).1
      obtain ⟨b, off, e, hc⟩ := hcell (by omega)
      cases e
      rw [show (⟨b, off, none⟩ : Addr).add j = ⟨b, off + j, none⟩ by unfold Addr.add; split <;> simp_all]
      exact cell_stays (Q.alloc _ _) (hc j u hu)
    have hown : (w.alloc (.cells #[] 63)).ownsRow w.heap.size 63 2 (.slice (some ⟨w.heap.size, 0, none⟩) 0 0) 0 [] := ⟨rfl, .inr ⟨w.heap.size, 0, #[], rfl, Nat.le_refl _, heap_alloc_new _ _, by simp, by unfold maxLen; omega, rfl, rfl⟩⟩
    have h63 : 0 + l.length ≤ maxLen := by unfold maxLen; omega
    have hbytes : (0 + l.length) * 32 ≤ 140737488355328 := by omega
    have hbase : w.heap.size ≤ (w.alloc (.cells #[] 63)).heap.size := by simp
    generalize docVs l = xs at *
    clear hcell
    go_enter Tryz.func72, Tryz.ntmps72
    go_wp2_with fail
    rw [Lib.run_eql_slice_nil _ _ _ _ _ _ _ _ Tryz.underlying43]
    go_wp2_with (at_builtin; go_must (refine wpList_append_own (w.alloc (.cells #[] 63)) (by rfl) _ _ 43 (by rfl) w.heap.size 63 i0 (.agg #[strV [], strV []]) 2 32 Tryz.underlying43 hi hz0 hz1 hz2 rfl (by decide) _ 0 [] (by rfl) hown ad l.length cap xs (by rfl) hn2 hcc hone h63 hbytes hbase ?_))
    intro v' w' ho hg _
    have hb : Below w.heap.size w w' := ((Below.refl w.heap.size w).alloc (Nat.le_refl _) _).grown hg hbase (fun k hk => by simp [Value.ownBlock] at hk; omega)
    have HO := Lib.hid ho; have HB := Lib.hid hb
    clear ho hb hg
    go_wp2_with fail
    go_ret
    exact ⟨v', rfl, HO.out, HB.out⟩
theorem SegAt.cells {W : World} {p : Nat} {l : List DocL} {d : Bytes} (h : SegAt W p l d) : ∃ v mb, W.cell? ⟨p, 0, none⟩ = some v ∧ W.cell? ⟨p, 1, none⟩ = some (.map (some mb)) ∧ Docs W v l ∧ MapS W mb (entK l l.length) := by
  obtain ⟨v, mb, h1, h2, h3⟩ := h
  exact ⟨v, mb, by simp [World.cell?, h1], by simp [World.cell?, h1], Sl.of_owns h2, h3⟩
set_option maxRecDepth 100000 in
set_option maxHeartbeats 2000000 in
theorem SegDocs_any (p : Nat) (l : List DocL) (d : Bytes) (w : World) (h : SegAt w p l d) (hn : l.length ≤ 1000000) :
    Calls Tryz.prog 40 #[.pointer (some ⟨p, 0, none⟩)] w fun e w' => ∃ v', e = .returned v' ∧ w'.ownsRow w.heap.size 63 2 v' l.length (docVs l) ∧ Q w w' := by
  obtain ⟨v, mb, c0, c1, hd, _⟩ := h.cells
  have c := Clone_docs v l w hd hn
  have C := Lib.hid c
  clear c h hd c1
  go_enter Tryz.func40, Tryz.ntmps40
  go_wp2_with fail
  refine C.out.mono ?_
  rintro e w' ⟨v', rfl, ho, q⟩
  have HO := Lib.hid ho; have HQ := Lib.hid q
  clear ho q
  go_wp2_with fail
  go_ret
  exact ⟨v', rfl, HO.out, HQ.out⟩
theorem zeroInt (w : World) : (zeroValue 3).run Tryz.prog w = .ok (.int .i64 0) w := by
  simp [zeroValue, go_sem]
  rw [show Tryz.t3.zero = some (.int .i64 0) from by kernel_rfl]
  rfl
set_option maxRecDepth 100000 in
set_option maxHeartbeats 2000000 in
theorem SegFind_any (p : Nat) (l : List DocL) (d id : Bytes) (w : World) (h : SegAt w p l d) (hn : (l.map (·.1)).Nodup) :
    Calls Tryz.prog 55 #[.pointer (some ⟨p, 0, none⟩), .string ⟨id.toArray⟩] w fun e w' => e = .returned (.tuple #[.int .i64 (((findL l id).getD 0 : Nat) : Int), .bool (findL l id).isSome]) ∧ w = w' := by
  obtain ⟨v, mb, c0, c1, _, hm⟩ := h.cells
  have hg := entK_get l hn l.length (Nat.le_refl _) id
  rw [List.take_length] at hg
  have hu : (if true = true then Value.tuple #[(getM id (entK l l.length)).getD (.int .i64 0), .bool (getM id (entK l l.length)).isSome] else (getM id (entK l l.length)).getD (.int .i64 0)) = .tuple #[.int .i64 (((findL l id).getD 0 : Nat) : Int), .bool (findL l id).isSome] := by
    rw [hg, if_pos rfl]
    cases findL l id <;> rfl
  clear hg h
  generalize (findL l id).getD 0 = fi at *
  generalize (findL l id).isSome = fb at *
  go_enter Tryz.func55, Tryz.ntmps55
  go_wp2_with (at_lookup; go_must (refine wpList_lookup_map w (by rfl) _ _ 84 true (by rfl) 9 3 Tryz.underlying84 Tryz.underlying9 (.int .i64 0) (zeroInt _) mb (entK l l.length) hm id (by rfl) (by rfl) ?_; rw [hu]))
  go_ret2
  exact ⟨rfl, rfl⟩
end Go.Proofs.YtcflpcpkmhljkaaGreatDoor
end
