/- Joined texts of one proof: Toks0, WSk6, QryP, WSk7. -/
import Derived.Test.YtcflpcpkmhljkaaGreatDoorMWWordsToWPostA
import Derived.Test.YtcflpcpkmhljkaaGreatDoorMWSegPToPlc
import Derived.Test.YtcflpcpkmhljkaaGreatDoorMWSk2ToWBin
import Derived.Test.YtcflpcpkmhljkaaGreatDoorMQryMToWSk1
set_option linter.unusedSimpArgs false
set_option linter.unusedVariables false
set_option linter.unnecessarySimpa false
/- (Toks0) Tokens in memory; does a term stand at a place. -/
section
namespace Go.Proofs.YtcflpcpkmhljkaaGreatDoor
open Go.RowKit
set_option linter.unusedVariables false

/-- tokens in memory -/
def Toks (w : World) (v : Value) (l : List (Bytes × Nat)) : Prop := Sl w v l.length 2 (tokVs l)
theorem tokVs_at14 (l : List (Bytes × Nat)) (k : Nat) (h : k < l.length) : (tokVs l)[k * 2]? = some (strV l[k].1) ∧ (tokVs l)[k * 2 + 1]? = some (.int .i64 (l[k].2 : Nat)) := by
  induction l generalizing k with
  | nil => simp at h
  | cons d l ih =>
    have e : tokVs (d :: l) = strV d.1 :: .int .i64 (d.2 : Nat) :: tokVs l := by simp [tokVs]
    cases k with
    | zero => rw [e]; exact ⟨rfl, rfl⟩
    | succ k =>
      have := ih k (by simpa using h)
      rw [e, show (k + 1) * 2 = k * 2 + 1 + 1 by omega]
      exact this
theorem Toks.value {w : World} {v : Value} {l : List (Bytes × Nat)} (h : Toks w v l) : ∃ a cap, v = .slice a l.length cap ∧ (0 < l.length → ∃ b off, a = some ⟨b, off, none⟩ ∧ ∀ j (hj : j < l.length), w.cell? ⟨b, off + j * 2, none⟩ = some (strV l[j].1) ∧ w.cell? ⟨b, off + j * 2 + 1, none⟩ = some (.int .i64 (l[j].2 : Nat))) := by
  obtain ⟨_, a, cap, h2, h3⟩ := h
  refine ⟨a, cap, h2, fun hn => ?_⟩
  obtain ⟨b, off, h4, h5⟩ := h3 hn
  exact ⟨b, off, h4, fun j hj => ⟨h5 _ _ (tokVs_at14 l j hj).1, by rw [Nat.add_assoc]; exact h5 _ _ (tokVs_at14 l j hj).2⟩⟩
/-- does a term stand at a place? -/
def standsL : List (Bytes × Nat) → Bytes → Int → Bool
  | [], _, _ => false
  | x :: l, t, p => if (x.2 : Int) = p then decide (x.1 = t) else standsL l t p
theorem tokensR_rise (ws : List Bytes) (k : Nat) : (tokensF ws k).Pairwise (fun a b => a.2 < b.2) ∧ ∀ x ∈ tokensF ws k, k ≤ x.2 := by
  induction ws generalizing k with
  | nil => simp [tokensF]
  | cons w ws ih =>
    obtain ⟨h1, h2⟩ := ih (k + 1)
    rw [tokensF]
    split
    · refine ⟨List.pairwise_cons.2 ⟨fun x hx => by have := h2 x hx; simp only; omega, h1⟩, fun x hx => ?_⟩
      rcases List.mem_cons.1 hx with rfl | hx
      · exact Nat.le_refl _
      · have := h2 x hx; omega
    · exact ⟨h1, fun x hx => by have := h2 x hx; omega⟩
theorem standsL_of (toks : List (Bytes × Nat)) (h : toks.Pairwise (fun a b => a.2 < b.2)) (x : Bytes × Nat) (hx : x ∈ toks) : standsL toks x.1 (x.2 : Int) = true := by
  induction toks with
  | nil => simp at hx
  | cons y toks ih =>
    obtain ⟨h1, h2⟩ := List.pairwise_cons.1 h
    rw [standsL]
    rcases List.mem_cons.1 hx with rfl | hx
    · rw [if_pos rfl]; simp
    · have := h1 x hx
      rw [if_neg (by omega)]
      exact ih h2 hx
theorem standsL_places (s t : Bytes) (p : Int) (hp : p ∈ placesIn s t) : standsL (tokensL s) t p = true := by
  unfold placesIn at hp
  obtain ⟨x, hx, he⟩ := List.mem_filterMap.1 hp
  split at he
  · rename_i ht
    cases he
    subst ht
    exact standsL_of _ (tokensR_rise _ _).1 x hx
  · cases he
end Go.Proofs.YtcflpcpkmhljkaaGreatDoor
end

/- (WSk6) score: phrase.at: walked. -/
section
namespace Go.Proofs.YtcflpcpkmhljkaaGreatDoor
open Go.RowKit
set_option linter.unusedVariables false

theorem Toks.stays {w w' : World} {v : Value} {l : List (Bytes × Nat)} (h : Toks w v l) (q : Q w w') : Toks w' v l := Sl.stays h q
/-- postings of a phrase's terms in one document's text -/
def PhPosts (w : World) (v : Value) (s : Bytes) (p : TokL) : Prop := ∃ rs : List PostR, rs.length = p.length ∧ Posts w v rs ∧ ∀ i (h : i < rs.length) (h' : i < p.length), rs[i].2.2 = placesIn s p[i].1
theorem PhPosts.stays {w w' : World} {v : Value} {s : Bytes} {p : TokL} (h : PhPosts w v s p) (q : Q w w') : PhPosts w' v s p := by
  obtain ⟨rs, h1, h2, h3⟩ := h
  exact ⟨rs, h1, h2.stays q, h3⟩
theorem PhPosts.value {w : World} {v : Value} {s : Bytes} {p : TokL} (h : PhPosts w v s p) : ∃ a cap, v = .slice a p.length cap ∧ (0 < p.length → ∃ b off, a = some ⟨b, off, none⟩ ∧ ∀ j (hj : j < p.length), ∃ pa pc, w.cell? ⟨b, off + j * 2 + 1, none⟩ = some (.slice pa (placesIn s p[j].1).length pc) ∧
    (placesIn s p[j].1 ≠ [] → ∃ pb po, pa = some ⟨pb, po, none⟩ ∧ ∀ i (hi : i < (placesIn s p[j].1).length), w.cell? ⟨pb, po + i, none⟩ = some (.int .i64 (placesIn s p[j].1)[i]))) := by
  obtain ⟨rs, hl, hp, hr⟩ := h
  obtain ⟨a, cap, h1, h2⟩ := hp.value
  rw [hl] at h1
  refine ⟨a, cap, h1, fun hn => ?_⟩
  obtain ⟨b, off, h3, h4⟩ := h2 (by omega)
  refine ⟨b, off, h3, fun j hj => ?_⟩
  have hj' : j < rs.length := by omega
  obtain ⟨pa, pc, h5, h6⟩ := (hp.2 rs[j] (List.getElem_mem hj')).value
  have he := hr j hj' hj
  have hc := (h4 j hj').2
  rw [h5] at hc
  generalize rs[j].2.2 = xs at *
  subst he
  exact ⟨pa, pc, hc, fun hne => h6 (List.length_pos_iff.2 hne)⟩
def goodP (p : TokL) (s : Bytes) (x : Int) : Bool := p.all fun t => decide (x + (t.2 : Int) ∈ placesIn s t.1)
theorem countP_good (p : TokL) (s : Bytes) : countP p s = ((placesIn s (p.headD ([], 0)).1).filter (goodP p s)).length := rfl
theorem good_take (p : TokL) (s : Bytes) (x : Int) (k : Nat) (h : k < p.length) : goodP (p.take (k + 1)) s x = (goodP (p.take k) s x && (placesIn s p[k].1).contains (x + (p[k].2 : Int))) := by
  unfold goodP
  rw [List.take_succ_eq_append_getElem h, List.all_append]
  simp only [List.all_cons, List.all_nil, Bool.and_true]
  congr 1
  rw [Bool.eq_iff_iff, decide_eq_true_eq, List.contains_iff_mem]
theorem filt_take (l : List Int) (f : Int → Bool) (k : Nat) (h : k < l.length) : ((l.take (k + 1)).filter f).length = ((l.take k).filter f).length + (if f l[k] then 1 else 0) := by
  rw [List.take_succ_eq_append_getElem h, List.filter_append, List.length_append]
  cases hf : f l[k] <;> simp [hf]
set_option maxRecDepth 100000 in
set_option maxHeartbeats 8000000 in
theorem At_any (g : Value) (tv lv : Value) (wt : Int) (p : TokL) (s : Bytes) (w : World) (ht : Toks w tv p) (hl : PhPosts w lv s p) (hne : 0 < p.length) (hpl : ∀ t ∈ p, placesIn s t.1 ≠ []) (hp6 : p.length ≤ 1000000) (hs : s.length ≤ 1000000) (hps : ∀ t ∈ p, t.2 ≤ 1000000) :
    Calls Tryz.prog 247 #[.agg #[g, tv, .int .i64 wt], lv] w fun e w' => e = .returned (.int .i64 (countP p s : Nat)) ∧ Q w w' := by
  obtain ⟨ta, tc, rfl, htc⟩ := ht.value
  obtain ⟨la, lc, rfl, hlc⟩ := hl.value
  obtain ⟨tb, tf, rfl, ht2⟩ := htc hne
  obtain ⟨lb, lo, rfl, hl2⟩ := hlc hne
  obtain ⟨pa, pc, h0, h1⟩ := hl2 0 hne
  obtain ⟨pb, po, rfl, hpc⟩ := h1 (hpl _ (List.getElem_mem hne))
  have hhd : (p.headD ([], 0)).1 = p[0].1 := by cases p with | nil => simp at hne | cons a b => rfl
  have hcp := countP_good p s
  rw [hhd] at hcp
  obtain ⟨P0, hP0⟩ : ∃ P0, P0 = placesIn s p[0].1 := ⟨_, rfl⟩
  obtain ⟨hri, hrb⟩ := placesIn_rise s p[0].1
  rw [← hP0] at hcp h0 hpc hri hrb
  simp only [Nat.zero_mul, Nat.add_zero] at h0
  have hlen : P0.length ≤ 1000000 := by
    have := (risingI_len (-1) P0 s.length (rising_of (-1) P0 s.length hri hrb) (by omega)).1
    omega
  have HCP := Lib.hid hcp; have HT := Lib.hid ht2; have HL := Lib.hid hl2; have HPC := Lib.hid hpc; have HRB := Lib.hid hrb; have HPL := Lib.hid hpl; have HPS := Lib.hid hps; have H0 := Lib.hid h0
  clear hcp htc hlc ht2 hl2 hpc hrb hpl hps hri ht hl h1 hhd hP0 h0
  generalize countP p s = res at *
  obtain ⟨np, hnp⟩ : ∃ np, np = p.length := ⟨_, rfl⟩
  rw [← hnp] at hne hp6 ⊢
  obtain ⟨nP, hnP⟩ : ∃ nP, nP = P0.length := ⟨_, rfl⟩
  rw [← hnP] at hlen
  have H0' : Hid (w.cell? ⟨lb, lo + 1, none⟩ = some (.slice (some ⟨pb, po, none⟩) nP pc)) := by rw [hnP]; exact H0.out
  have HNP := Lib.hid hnp; have HNP0 := Lib.hid hnP
  clear hnp hnP H0
  have h0 := H0'.out
  have hq0 := Q.alloc w (.cells #[g, .slice (some ⟨tb, tf, none⟩) np tc, .int .i64 wt] 149)
  have hk0 := Blk.new w 149 #[g, .slice (some ⟨tb, tf, none⟩) np tc, .int .i64 wt]
  have hc0 := cell_stays hq0 h0
  have hn0 : (0 : Int) < (np : Int) := by omega
  have HQ0 := Lib.hid hq0; have HK0 := Lib.hid hk0
  clear hq0 hk0 h0
  go_enter Tryz.func247, Tryz.ntmps247
  go_wp2_with fail
  go_loopw [5, 18] (fun x i wr => ∃ k : Nat, k ≤ nP ∧ i = .int .i64 (k : Nat) ∧ x = .int .i64 (((P0.take k).filter (goodP p s)).length : Nat) ∧ Hid (Q w wr) ∧ Hid (Blk wr w.heap.size 149 #[g, .slice (some ⟨tb, tf, none⟩) np tc, .int .i64 wt])) (fun _ i _ => nP - (intOf i).toNat)
  case atStart => exact ⟨0, by omega, rfl, rfl, HQ0.out, HK0.out⟩
  case round =>
    obtain ⟨k, hk, rfl, rfl, HQ, HK⟩ := hrel
    clear hc0
    obtain ⟨wo, rfl⟩ : ∃ wo : World, wo = wr := ⟨_, rfl⟩
    by_cases hlt : k < nP
    · have hlt' : k < P0.length := by have := HNP0.out; omega
      have hx := cell_stays HQ.out (HPC.out k hlt')
      have hft := filt_take P0 (goodP p s) k hlt'
      have hxb := HRB.out P0[k] (List.getElem_mem hlt')
      generalize P0[k] = x at *
      have hfl : ((P0.take k).filter (goodP p s)).length ≤ 1000000 := Nat.le_trans (List.length_filter_le _ _) (by rw [List.length_take]; omega)
      generalize ((P0.take k).filter (goodP p s)).length = cnt at *
      obtain ⟨x1, x2⟩ := hxb
      have hx2 : x ≤ 1000000 := by omega
      obtain ⟨m0, m1, m2, _⟩ := HK.out.c3
      have HFT := Lib.hid hft
      clear hft hlt'
      go_wp2_with fail
      go_loopw [8, 25] (fun al i wr => ∃ j : Nat, j ≤ np ∧ i = .int .i64 (j : Nat) ∧ al = .bool (goodP (p.take j) s x) ∧ Hid (Q w wr) ∧ Hid (Blk wr w.heap.size 149 #[g, .slice (some ⟨tb, tf, none⟩) np tc, .int .i64 wt])) (fun _ i _ => np - (intOf i).toNat)
      case atStart => exact ⟨0, by omega, rfl, rfl, HQ.out, HK.out⟩
      case round =>
        obtain ⟨j, hj, rfl, rfl, HQ1, HK1⟩ := hrel
        clear m0 m1 m2 hx HQ HK
        obtain ⟨wo, rfl⟩ : ∃ wo : World, wo = wr := ⟨_, rfl⟩
        by_cases hjl : j < np
        · have hjl' : j < p.length := by have := HNP.out; omega
          obtain ⟨t0, t1⟩ := HT.out j hjl'
          have hgt := good_take p s x j hjl'
          obtain ⟨qa, qc, l1, l2⟩ := HL.out j hjl'
          obtain ⟨qb, qo, rfl, l3⟩ := l2 (HPL.out _ (List.getElem_mem hjl'))
          have htp := HPS.out _ (List.getElem_mem hjl')
          obtain ⟨hri, hrb⟩ := placesIn_rise s p[j].1
          generalize p[j] = tk at *
          obtain ⟨tt, tp⟩ := tk
          simp only at t0 t1 hgt l1 l3 htp hri hrb
          generalize placesIn s tt = zs at *
          have hzl : zs.length ≤ 1000000 := by
            have := (risingI_len (-1) zs s.length (rising_of (-1) zs s.length hri hrb) (by omega)).1
            omega
          have hzs : zs.Pairwise (· ≤ ·) := hri.imp (fun h => Int.le_of_lt h)
          have u0 := cell_stays HQ1.out t0
          have u1 := cell_stays HQ1.out t1
          have u2 := cell_stays HQ1.out l1
          have hq2 : Q w (wo.alloc (.cells #[strV tt, .int .i64 (tp : Nat)] 58)) := HQ1.out.trans (Q.alloc _ _)
          have hb : ∀ (n : Nat), Calls Tryz.prog 248 #[.slice (some ⟨qb, qo, none⟩) zs.length qc, .int .i64 (x + (tp : Int))] ((wo.alloc (.cells #[strV tt, .int .i64 (tp : Nat)] 58)).drewN n) fun e w'' => e = .returned (.tuple #[.int .i64 ((zs.countP (· < x + (tp : Int)) : Nat) : Int), .bool (zs.contains (x + (tp : Int)))]) ∧ w'' = (wo.alloc (.cells #[strV tt, .int .i64 (tp : Nat)] 58)).drewN n :=
            fun n => (Bin_any qb qo qc zs (x + (tp : Int)) ((wo.alloc (.cells #[strV tt, .int .i64 (tp : Nat)] 58)).drewN n) (by omega) (fun i hi => cell_stays (hq2.trans (Q.drewN _ n)) (l3 i hi)) hzs).mono fun e w' h => ⟨h.1, h.2.symm⟩
          have hk2 := HK1.out.alloc (.cells #[strV tt, .int .i64 (tp : Nat)] 58)
          obtain ⟨y0, y1, _⟩ := (Blk.new wo 58 #[strV tt, .int .i64 (tp : Nat)]).c2
          have u3 := cell_stays (Q.alloc wo (.cells #[strV tt, .int .i64 (tp : Nat)] 58)) u2
          have HB := Lib.hid hb; have HQ2 := Lib.hid hq2; have HK2 := Lib.hid hk2; have HGT := Lib.hid hgt
          clear hb hq2 hk2 hgt t0 t1 l1 l2 l3 hri hrb hzs hjl' u2 HQ1 HK1
          have hji0 : (0 : Int) ≤ (j : Int) := by omega
          have hji1 : (j : Int) < (np : Int) := by omega
          have hsum : IntKind.i64.wrap (x + (tp : Int)) = x + (tp : Int) := IntWalk.i64_in _ (by omega)
          generalize goodP (p.take j) s x = al at *
          generalize zs.countP (· < x + (tp : Int)) = ci at *
          generalize zs.contains (x + (tp : Int)) = co at *
          go_wp2_with fail
          go_quiet ((go_at_call 248; exact Calls.quiet_of_same (HB.out _)))
          cases al with
          | true =>
            cases co with
            | true =>
              go_wp2_with fail
              go_roundw
              case rel => exact ⟨j + 1, by omega, by go_num, by rw [HGT.out]; rfl, HQ2.out.trans (Q.drewN _ _), HK2.out.stays (Q.drewN _ _)⟩
              case measure => simp [intOf]; omega
            | false =>
              go_wp2_with fail
              go_roundw
              case rel => exact ⟨j + 1, by omega, by go_num, by rw [HGT.out]; rfl, HQ2.out.trans (Q.drewN _ _), HK2.out.stays (Q.drewN _ _)⟩
              case measure => simp [intOf]; omega
          | false =>
            go_wp2_with fail
            go_roundw
            case rel => exact ⟨j + 1, by omega, by go_num, by rw [HGT.out]; rfl, HQ2.out.trans (Q.drewN _ _), HK2.out.stays (Q.drewN _ _)⟩
            case measure => simp [intOf]; omega
        · have hje : j = np := by omega
          subst hje
          have hg : goodP (p.take j) s x = goodP p s x := by rw [HNP.out, List.take_length]
          rw [hg]
          have HFT2 := HFT; have HQ2 := HQ1; have HK2 := HK1
          clear hg HFT HQ1 HK1
          cases hgx : goodP p s x with
          | true =>
            have HF3 : Hid (((P0.take (k + 1)).filter (goodP p s)).length = cnt + 1) := by have := HFT2.out; rw [hgx] at this; exact this
            clear HFT2 hgx
            go_wp2_with fail
            go_roundw
            case rel => exact ⟨k + 1, by omega, by go_num, by rw [HF3.out]; go_num, HQ2, HK2⟩
            case measure => simp [intOf]; omega
          | false =>
            have HF3 : Hid (((P0.take (k + 1)).filter (goodP p s)).length = cnt) := by have := HFT2.out; rw [hgx] at this; exact this
            clear HFT2 hgx
            go_wp2_with fail
            go_roundw
            case rel => exact ⟨k + 1, by omega, by go_num, by rw [HF3.out], HQ2, HK2⟩
            case measure => simp [intOf]; omega
    · have hke : k = nP := by omega
      subst hke
      have hres : ((P0.take k).filter (goodP p s)).length = res := by rw [HNP0.out, List.take_length]; exact HCP.out.symm
      rw [hres]
      have HQ2 := HQ
      clear hres HQ HK
      go_wp2_with fail
      go_ret
      exact ⟨rfl, HQ2.out⟩
end Go.Proofs.YtcflpcpkmhljkaaGreatDoor
end

/- (QryP) Plain laws of chapter 18: how a phrase's postings are gathered. No program in sight. -/
section
namespace Go.Proofs.YtcflpcpkmhljkaaGreatDoor
set_option linter.unusedVariables false

/-- a phrase's postings, as far as its first i terms, from a document on; next: the last one's document -/
structure PhSt (l : List DocL) (p : TokL) (w : Nat) (doc i next : Nat) (rs : List PostL) : Prop where
  len : rs.length = i
  lo : doc ≤ next
  no : ∀ j, doc ≤ j → j < next → phraseF l p w j = none
  each : ∀ k (h : k < rs.length) (h' : k < p.length), ∃ (d : Nat) (e : DocL), l[d]? = some e ∧ rs[k] = ((d : Int), placesIn e.2 p[k].1) ∧ placesIn e.2 p[k].1 ≠ [] ∧ (rs.headD ((next : Int), [])).1 ≤ (d : Int) ∧ d ≤ next
  hd : (doc : Int) ≤ (rs.headD ((next : Int), [])).1
theorem PhSt.start (l : List DocL) (p : TokL) (w doc : Nat) : PhSt l p w doc 0 doc [] :=
  ⟨rfl, Nat.le_refl _, fun j h1 h2 => by omega, fun k h => absurd h (Nat.not_lt_zero _), Int.le_refl _⟩
theorem PhSt.none {l : List DocL} {p : TokL} {w doc i next : Nat} {rs : List PostL} (h : PhSt l p w doc i next rs) (hi : i < p.length) (hf : firstP p[i].1 l next = none) : NextIs (phraseF l p w) doc none := by
  intro j hj
  by_cases hjn : j < next
  · exact h.no j hj hjn
  · exact phrase_none (List.getElem_mem hi) (fun e he => firstP_none hf j e he (by omega))
theorem PhSt.step {l : List DocL} {p : TokL} {w doc i next : Nat} {rs : List PostL} (h : PhSt l p w doc i next rs) (hi : i < p.length) {x : PostL} (hf : firstP p[i].1 l next = some x) :
    ∃ (d : Nat) (e : DocL), l[d]? = some e ∧ x = ((d : Int), placesIn e.2 p[i].1) ∧ PhSt l p w doc (i + 1) d (rs ++ [x]) := by
  obtain ⟨d, e, h1, rfl, h3, h4, h5⟩ := firstP_some hf
  refine ⟨d, e, h1, rfl, by simp [h.len], by have := h.lo; omega, fun j j1 j2 => ?_, fun k hk hk' => ?_, ?_⟩
  · by_cases hjn : j < next
    · exact h.no j j1 hjn
    · exact phrase_none (List.getElem_mem hi) (fun y hy => h5 j y hy (by omega) j2)
  · by_cases hkr : k < rs.length
    · obtain ⟨d', e', g1, g2, g3, g4, g5⟩ := h.each k hkr hk'
      refine ⟨d', e', g1, by rw [List.getElem_append_left hkr]; exact g2, g3, ?_, by omega⟩
      cases rs with
      | nil => simp at hkr
      | cons a b => exact g4
    · have hke : k = rs.length := by simp at hk; omega
      subst hke
      have hil : rs.length = i := h.len
      subst hil
      refine ⟨d, e, h1, by simp, h3, ?_, Nat.le_refl _⟩
      cases rs with
      | nil => simp
      | cons a b =>
        obtain ⟨d', e', g1, g2, g3, g4, g5⟩ := h.each 0 (by simp) (by omega)
        simp only [List.getElem_cons_zero] at g2
        simp only [List.cons_append, List.headD_cons]
        rw [g2]; simp only; omega
  · cases rs with
    | nil =>
      have := h.lo
      simp only [List.nil_append, List.headD_cons]; omega
    | cons a b => exact h.hd
/-- all terms' postings are of one document -/
theorem PhSt.one {l : List DocL} {p : TokL} {w doc next : Nat} {rs : List PostL} (h : PhSt l p w doc p.length next rs) (hp : 0 < p.length) (x : PostL) (hx : rs[0]? = some x) (he : x.1 = (next : Int)) :
    ∃ e, l[next]? = some e ∧ ∀ k (h : k < rs.length) (h' : k < p.length), rs[k].2 = placesIn e.2 p[k].1 ∧ placesIn e.2 p[k].1 ≠ [] := by
  have hl := h.len
  cases rs with
  | nil => simp at hl; omega
  | cons a b =>
    simp at hx; subst hx
    obtain ⟨d, e, g1, g2, g3, g4, g5⟩ := h.each 0 (by simp) hp
    simp only [List.headD_cons] at g4
    have hd : d = next := by omega
    subst hd
    refine ⟨e, g1, fun k hk hk' => ?_⟩
    obtain ⟨d', e', f1, f2, f3, f4, f5⟩ := h.each k hk hk'
    simp only [List.headD_cons] at f4
    have : d' = d := by omega
    subst this
    rw [g1] at f1; cases f1
    exact ⟨by rw [f2], f3⟩
theorem PhSt.head_le {l : List DocL} {p : TokL} {w doc next : Nat} {rs : List PostL} (h : PhSt l p w doc p.length next rs) (hp : 0 < p.length) (x : PostL) (hx : rs[0]? = some x) : ∃ d : Nat, x.1 = (d : Int) ∧ doc ≤ d ∧ d ≤ next ∧ d < l.length := by
  have hl := h.len
  cases rs with
  | nil => simp at hl; omega
  | cons a b =>
    simp at hx; subst hx
    obtain ⟨d, e, g1, g2, g3, g4, g5⟩ := h.each 0 (by simp) hp
    simp only [List.getElem_cons_zero] at g2
    have hh := h.hd
    simp only [List.headD_cons] at hh
    rw [g2] at hh ⊢
    exact ⟨d, rfl, by simpa using hh, g5, (List.getElem?_eq_some_iff.1 g1).1⟩
theorem PhSt.next_lt {l : List DocL} {p : TokL} {w doc i next : Nat} {rs : List PostL} {x : PostL} (h : PhSt l p w doc i next (rs ++ [x])) : True := trivial
theorem phrase_yes {l : List DocL} {p : TokL} {w next : Nat} {e : DocL} (h1 : l[next]? = some e) : phraseF l p w next = if 0 < countP p e.2 then some (countP p e.2 * w) else none := by
  unfold phraseF; rw [h1]
theorem countP_le (p : TokL) (s : Bytes) : countP p s ≤ (placesIn s (p.headD ([], 0)).1).length := List.length_filter_le _ _
end Go.Proofs.YtcflpcpkmhljkaaGreatDoor
end

/- (WSk7) score: phrase.seek: walked. -/
section
namespace Go.Proofs.YtcflpcpkmhljkaaGreatDoor
open Go.RowKit
set_option linter.unusedVariables false

theorem ph_text {l : List DocL} (hok : docsOk l) {i : Nat} {e : DocL} (h : l[i]? = some e) : e.2.length ≤ 2000 := (rightB_len (hok.1 e (List.mem_of_getElem? h))).2
/-- the postings of a phrase's terms, all of one document -/
theorem ph_posts {w : World} {v : Value} {rs : List PostR} {base base' : Nat} {p : TokL} {s : Bytes} (ho : w.ownsRow base 211 2 v rs.length (postVs rs)) (hr : ∀ r ∈ rs, w.ownsRow base' 3 1 r.2.1 r.2.2.length (intVs r.2.2)) (hl : rs.length = p.length)
    (he : ∀ k (h : k < (postsOf rs).length) (h' : k < p.length), (postsOf rs)[k].2 = placesIn s p[k].1 ∧ placesIn s p[k].1 ≠ []) : PhPosts w v s p :=
  ⟨rs, hl, ⟨Sl.of_owns ho, fun r hr' => Sl.of_owns (hr r hr')⟩, fun i h h' => by
    have := (he i (by simp [postsOf]; exact h) h').1
    simpa [postsOf, postOf] using this⟩
set_option maxRecDepth 100000 in
set_option maxHeartbeats 8000000 in
theorem Phrase_any (g : Nat) (tv : Value) (wt : Nat) (p : TokL) (l : List DocL) (doc : Nat) (W : World) (hg : SegAt W g l (idxS l)) (ht : Toks W tv p) (hn : l.length ≤ 500) (hok : docsOk l) (hne : 0 < p.length) (hp6 : p.length ≤ 1000000) (hps : ∀ t ∈ p, t.2 ≤ 1000000) (hw : wt ≤ 1000000000) (hd : doc ≤ 1000000) :
    Calls Tryz.prog 245 #[.agg #[.pointer (some ⟨g, 0, none⟩), tv, .int .i64 (wt : Nat)], .int .i64 (doc : Nat)] W fun e w' => SeekEnd (phraseF l p wt) doc e ∧ Q W w' := by
  obtain ⟨i0, hi, hz0, hz1, hz2⟩ := info_parts tinfoPo
  have cf := fun t doc W' hq => First_any g l t doc W' (hg.stays hq) hn hok
  have cat := fun (w' : World) (hq : Q W w') lv s hl hpl hs => At_any (.pointer (some ⟨g, 0, none⟩)) tv lv (wt : Nat) p s w' (ht.stays hq) hl hne hpl hp6 hs hps
  have htx := fun i e => ph_text hok (i := i) (e := e)
  obtain ⟨ta, tc, rfl, htc⟩ := ht.value
  obtain ⟨tb, tf, rfl, ht2⟩ := htc hne
  obtain ⟨np, hnp⟩ : ∃ np, np = p.length := ⟨_, rfl⟩
  rw [← hnp] at hne hp6 cat ⊢
  have CF := Lib.hid cf; have CAT := Lib.hid cat; have HTX := Lib.hid htx; have HT := Lib.hid ht2; have HNP := Lib.hid hnp
  clear cf cat htx htc ht2 hg ht hok hps hnp
  have hq0 := Q.alloc W (.cells #[.pointer (some ⟨g, 0, none⟩), .slice (some ⟨tb, tf, none⟩) np tc, .int .i64 (wt : Nat)] 149)
  have hk0 := Blk.new W 149 #[.pointer (some ⟨g, 0, none⟩), .slice (some ⟨tb, tf, none⟩) np tc, .int .i64 (wt : Nat)]
  have HQ0 := Lib.hid hq0; have HK0 := Lib.hid hk0
  clear hq0 hk0
  go_enter Tryz.func245, Tryz.ntmps245
  go_wp2_with fail
  go_loopw [1] (fun i wr => ∃ k : Nat, doc ≤ k ∧ k ≤ 1000000 ∧ i = .int .i64 (k : Nat) ∧ Hid (∀ j, doc ≤ j → j < k → phraseF l p wt j = none) ∧ Hid (Q W wr) ∧ Hid (Blk wr W.heap.size 149 #[.pointer (some ⟨g, 0, none⟩), .slice (some ⟨tb, tf, none⟩) np tc, .int .i64 (wt : Nat)])) (fun i _ => 1000001 - (intOf i).toNat)
  case atStart => exact ⟨doc, Nat.le_refl _, hd, rfl, fun j h1 h2 => by omega, HQ0.out, HK0.out⟩
  case round =>
    obtain ⟨k, hk0, hk, rfl, HN, HQ, HK⟩ := hrel
    obtain ⟨wo, rfl⟩ : ∃ wo : World, wo = wr := ⟨_, rfl⟩
    obtain ⟨m0, m1, m2, _⟩ := HK.out.c3
    go_wp2_with fail
    go_loopw [7, 8, 18] (fun lv nx i wr => ∃ (j nxt : Nat) (rs : List PostR), j ≤ np ∧ nxt ≤ 1000000 ∧ i = .int .i64 (j : Nat) ∧ nx = .int .i64 (nxt : Nat) ∧ Hid (rs.length = j) ∧ Hid (PhSt l p wt k j nxt (postsOf rs)) ∧ Hid (wr.ownsRow W.heap.size 211 2 lv j (postVs rs)) ∧ Hid (∀ r ∈ rs, wr.ownsRow W.heap.size 3 1 r.2.1 r.2.2.length (intVs r.2.2)) ∧ Hid (Q W wr) ∧ Hid (Blk wr W.heap.size 149 #[.pointer (some ⟨g, 0, none⟩), .slice (some ⟨tb, tf, none⟩) np tc, .int .i64 (wt : Nat)])) (fun _ _ i _ => np - (intOf i).toNat)
    case atStart => exact ⟨0, k, [], by omega, hk, rfl, rfl, rfl, PhSt.start l p wt k, World.ownsRow_nil _ _ _ _, fun r hr => by simp at hr, HQ.out, HK.out⟩
    case round =>
      obtain ⟨j, nxt, rs, hj, hnx, rfl, rfl, HRL, HPH, HO, HR, HQ1, HK1⟩ := hrel
      clear m0 m1 m2 HQ HK
      obtain ⟨wo, rfl⟩ : ∃ wo : World, wo = wr := ⟨_, rfl⟩
      by_cases hjl : j < np
      · have hjl' : j < p.length := by have := HNP.out; omega
        obtain ⟨t0, t1⟩ := HT.out j hjl'
        have u0 := cell_stays HQ1.out t0
        have u1 := cell_stays HQ1.out t1
        obtain ⟨n0, n1, n2, _⟩ := HK1.out.c3
        have hstep := fun x (hf : firstP p[j].1 l nxt = some x) => HPH.out.step hjl' hf
        have hnone := fun (hf : firstP p[j].1 l nxt = none) => HPH.out.none hjl' hf
        generalize p[j] = tk at *
        obtain ⟨tt, tp⟩ := tk
        simp only at t0 t1 u0 u1 hstep hnone
        have hq2 : Q W (wo.alloc (.cells #[strV tt, .int .i64 (tp : Nat)] 58)) := HQ1.out.trans (Q.alloc _ _)
        have cf := CF.out tt nxt _ hq2
        obtain ⟨y0, y1, _⟩ := (Blk.new wo 58 #[strV tt, .int .i64 (tp : Nat)]).c2
        have v0 := cell_stays (Q.alloc wo (.cells #[strV tt, .int .i64 (tp : Nat)] 58)) n0
        have hji0 : (0 : Int) ≤ (j : Int) := by omega
        have hji1 : (j : Int) < (np : Int) := by omega
        have hb1 : W.heap.size ≤ (wo.alloc (.cells #[strV tt, .int .i64 (tp : Nat)] 58)).heap.size := hq2.size
        have C := Lib.hid cf; have HSTEP := Lib.hid hstep; have HNONE := Lib.hid hnone; have HQ2 := Lib.hid hq2
        clear cf hstep hnone t0 t1 hjl' hq2 HPH n0 n1 n2
        generalize firstP tt l nxt = r at *
        go_wp2_with fail
        refine C.out.mono ?_
        rintro e w1 ⟨hf, q1⟩
        have HQ3 := Lib.hid (HQ2.out.trans q1)
        cases r with
        | none =>
          simp only [FirstEnd] at hf
          subst hf
          have HX := Lib.hid (next_skip hk0 HN.out (HNONE.out rfl))
          clear q1 C HSTEP HNONE y0 y1 v0 u0 u1 HO HR HK1 HQ1 HQ2 HN
          go_wp2_with fail
          go_ret3
          exact ⟨SeekEnd.no (d := 0) (s := 0) rfl HX.out, HQ3.out.trans (Q.alloc _ _)⟩
        | some x =>
          obtain ⟨pv, rfl, ho⟩ := hf
          obtain ⟨d, e, hde, rfl, hph⟩ := HSTEP.out _ rfl
          have hd5 : d < l.length := (List.getElem?_eq_some_iff.1 hde).1
          simp only at ho
          generalize placesIn e.2 tt = ps at *
          obtain ⟨pa, pcap, rfl, _⟩ := owns_value ho
          have q2 : Q wo w1 := (Q.alloc _ _).trans q1
          have hp1 := owns_low ho hb1
          have qa := Q.alloc w1 (.cells #[.int .i64 (d : Int), .slice pa ps.length pcap] 211)
          have ho2 := ownsRow_below (ownsRow_below HO.out q2) qa
          have hr2 : ∀ r ∈ rs, (w1.alloc (.cells #[.int .i64 (d : Int), .slice pa ps.length pcap] 211)).ownsRow W.heap.size 3 1 r.2.1 r.2.2.length (intVs r.2.2) := fun r hr => ownsRow_below (ownsRow_below (HR.out r hr) q2) qa
          have hp2 := ownsRow_below hp1 qa
          have hk2 := (HK1.out.stays q2).stays qa
          have hq4 := HQ3.out.trans qa
          obtain ⟨z0, z1, _⟩ := (Blk.new w1 211 #[.int .i64 (d : Int), .slice pa ps.length pcap]).c2
          have hsz : W.heap.size ≤ (w1.alloc (.cells #[.int .i64 (d : Int), .slice pa ps.length pcap] 211)).heap.size := hq4.size
          have hrb : j ≤ 1000000 := by omega
          have HPH2 := Lib.hid hph; have HR2 := Lib.hid hr2; have HP2 := Lib.hid hp2; have HK2 := Lib.hid hk2; have HQ4 := Lib.hid hq4
          clear q1 C HSTEP HNONE y0 y1 v0 u0 u1 HO HR HK1 HQ1 HQ2 ho hph hp1 qa hr2 hp2 hk2 hq4 q2 hde HQ3
          go_wp2_with (at_builtin; go_must (refine wpList_app (w1.alloc (.cells #[.int .i64 (d : Int), .slice pa ps.length pcap] 211)) (by rfl) _ _ 174 (by rfl) W.heap.size 211 _ i0 (.agg #[.int .i64 0, .slice none 0 0]) 2 32 Tryz.underlying174 hi hz0 hz1 hz2 rfl (by decide) (by decide) _ _ _ (by rfl) ho2 #[.int .i64 (d : Int), .slice pa ps.length pcap] (by simp [Act.eval]) rfl ?c1 ?c2 hsz ?_))
          case c1 => simp [Value.oneCell']
          case c2 => omega
          intro g6 cap6 w6 hown6 hg6 hat6 hlt6 hsz6
          have q6 : Q W w6 := grown_below HQ4.out ho2 hg6 (Nat.le_refl _) (by omega)
          have k6 := blk_beside HK2.out ho2 hg6 (by decide)
          have r6 : ∀ r ∈ rs ++ [((d : Int), Value.slice pa ps.length pcap, ps)], w6.ownsRow W.heap.size 3 1 r.2.1 r.2.2.length (intVs r.2.2) := fun r hr => by
            rcases List.mem_append.1 hr with hr | hr
            · exact row_beside (HR2.out r hr) ho2 hg6 (by decide)
            · rw [List.mem_singleton] at hr
              subst hr
              exact row_beside HP2.out ho2 hg6 (by decide)
          have hown6 : w6.ownsRow W.heap.size 211 2 (.slice (some ⟨g6, 0, none⟩) (j + 1) cap6) (j + 1) (postVs (rs ++ [((d : Int), Value.slice pa ps.length pcap, ps)])) := by
            have e : postVs (rs ++ [((d : Int), Value.slice pa ps.length pcap, ps)]) = postVs rs ++ [.int .i64 (d : Int), .slice pa ps.length pcap] := by simp [postVs]
            rw [e]; simpa using hown6
          have hph3 : PhSt l p wt k (j + 1) d (postsOf (rs ++ [((d : Int), Value.slice pa ps.length pcap, ps)])) := by
            have e : postsOf (rs ++ [((d : Int), Value.slice pa ps.length pcap, ps)]) = postsOf rs ++ [((d : Int), ps)] := by simp [postsOf, postOf]
            rw [e]; exact HPH2.out
          have HO6 := Lib.hid hown6; have HQ6 := Lib.hid q6; have HR6 := Lib.hid r6; have HK6 := Lib.hid k6; have HPH3 := Lib.hid hph3
          clear hown6 q6 hg6 hat6 ho2 r6 k6 hph3 HPH2 HQ4 HK2 z0 z1 HR2 HP2
          go_wp2_with fail
          go_roundw
          case rel => exact ⟨j + 1, d, rs ++ [((d : Int), Value.slice pa ps.length pcap, ps)], by omega, by omega, by go_num, rfl, by show _ = _; rw [List.length_append, HRL.out]; rfl, HPH3, HO6, HR6, HQ6, HK6⟩
          case measure => simp [intOf]; omega
      · have hje : j = np := by omega
        subst hje
        have hrl := HRL.out
        have hP : Posts wo _ rs := ⟨by have := Sl.of_owns HO.out; rw [← hrl] at this; exact this, fun r hr => Sl.of_owns (HR.out r hr)⟩
        have hpl : p.length = rs.length := by have := HNP.out; omega
        have hppf := fun (e : DocL) hall => ph_posts (p := p) (s := e.2) (by have := HO.out; rw [← hrl] at this; exact this) HR.out hpl.symm hall
        obtain ⟨a, cap, hv, hva⟩ := hP.value
        rw [hrl] at hv
        obtain ⟨b, off, hab, hvc⟩ := hva (by omega)
        subst hab
        subst hv
        have hr0 : 0 < rs.length := by omega
        obtain ⟨hc0, _⟩ := hvc 0 hr0
        simp only [Nat.zero_mul, Nat.add_zero] at hc0
        have hph : PhSt l p wt k p.length nxt (postsOf rs) := by rw [hpl, hrl]; exact HPH.out
        have hx0 : (postsOf rs)[0]? = some (rs[0].1, rs[0].2.2) := by simp [postsOf, postOf, List.getElem?_eq_getElem hr0]
        obtain ⟨d0, hd0, hkd, hdn, hdl⟩ := hph.head_le (by omega) _ hx0
        simp only at hd0
        rw [hd0] at hc0
        obtain ⟨m0, m1, m2, _⟩ := HK1.out.c3
        have hi0 : (0 : Int) < (j : Int) := by omega
        by_cases he : d0 = nxt
        · subst he
          obtain ⟨e, he1, hall⟩ := hph.one (by omega) _ hx0 hd0
          have hplc : ∀ t ∈ p, placesIn e.2 t.1 ≠ [] := fun t ht => by
            obtain ⟨i, hi, rfl⟩ := List.getElem_of_mem ht
            exact (hall i (by simp [postsOf]; omega) hi).2
          have hpp := hppf e hall
          have cat := CAT.out wo HQ1.out _ e.2 hpp hplc (Nat.le_trans (HTX.out _ _ he1) (by decide))
          have hyes := phrase_yes (p := p) (w := wt) he1
          have hcl : countP p e.2 ≤ 1000000 := by
            have h1 := countP_le p e.2
            have h2 : (placesIn e.2 (p.headD ([], 0)).1).length ≤ (tokensL e.2).length := List.length_filterMap_le _ _
            have h3 := (tokensL_facts e.2 (HTX.out _ _ he1)).1
            omega
          have hnx2 : d0 ≤ 900000 := by omega
          have C := Lib.hid cat; have HY := Lib.hid hyes; have HNO := Lib.hid hph.no; have HNN := HN
          clear cat hyes hpp hppf hplc hall he1 hph hx0 hvc hva hP HPH HO HR hd0 HN hrl hpl HRL
          generalize countP p e.2 = cnt at *
          go_wp2_with fail
          refine C.out.mono ?_
          rintro e2 w2 ⟨rfl, q2⟩
          have HQ2 := Lib.hid (HQ1.out.trans q2); have HK2 := Lib.hid (HK1.out.stays q2)
          clear q2 C m0 m1 m2 hc0 HQ1 HK1
          obtain ⟨m0, m1, m2, _⟩ := HK2.out.c3
          by_cases hcn : 0 < cnt
          · have hy : phraseF l p wt d0 = some (cnt * wt) := by rw [HY.out, if_pos hcn]
            have hcb : decide ((0 : Int) < (cnt : Int)) = true := decide_eq_true (by omega)
            have hml : cnt * wt ≤ 1000000000000000 := Nat.mul_le_mul hcl hw
            have hwr : IntKind.i64.wrap ((cnt : Int) * (wt : Int)) = ((cnt * wt : Nat) : Int) := by rw [← Int.natCast_mul]; exact IntWalk.i64_in _ (by omega)
            have hX : NextIs (phraseF l p wt) doc (some (d0, cnt * wt)) := ⟨by omega, hy, fun j h1 h2 => by
              by_cases hj : j < k
              · exact HNN.out j h1 hj
              · exact HNO.out j (by omega) h2⟩
            have HX := Lib.hid hX
            clear hX hy HY HNO HNN
            go_wp2_with fail
            go_quiet (fail)
            go_wp2_with fail
            go_ret3
            exact ⟨SeekEnd.yes (d := d0) (s := cnt * wt) (by first | rfl | simp [hwr]) HX.out, by first | exact HQ2.out | exact HQ2.out.trans (Q.drewN _ _)⟩
          · have hc00 : cnt = 0 := by omega
            subst hc00
            have hy : phraseF l p wt d0 = none := by rw [HY.out, if_neg hcn]
            have hno : ∀ j, doc ≤ j → j < d0 + 1 → phraseF l p wt j = none := fun j h1 h2 => by
              by_cases hj : j < k
              · exact HNN.out j h1 hj
              · by_cases hj2 : j < d0
                · exact HNO.out j (by omega) hj2
                · rw [show j = d0 by omega]; exact hy
            have HN2 := Lib.hid hno
            clear hno hy HY HNO HNN hcn
            go_wp2_with fail
            go_roundw
            case rel => exact ⟨d0 + 1, by omega, by omega, by go_num, HN2, HQ2, HK2⟩
            case measure => simp [intOf]; omega
        · have hb : ((d0 : Int) == (nxt : Int)) = false := beq_eq_false_iff_ne.2 (by omega)
          have hno : ∀ j, doc ≤ j → j < nxt → phraseF l p wt j = none := fun j h1 h2 => by
            by_cases hj : j < k
            · exact HN.out j h1 hj
            · exact hph.no j (by omega) h2
          have HN2 := Lib.hid hno
          clear hno hph hx0 hvc hva hP HPH HO HR hd0 HN hppf hrl hpl HRL
          go_wp2_with fail
          go_roundw
          case rel => exact ⟨nxt, by omega, hnx, rfl, HN2, HQ1, HK1⟩
          case measure => simp [intOf]; omega
end Go.Proofs.YtcflpcpkmhljkaaGreatDoor
end
