/- Joined texts of one proof: WSegP, WTold, WLaw14a, WOpenS. -/
import Derived.Test.YtcblmcbpnakphaaGreatDoorMWPostIToWFold
import Derived.Test.YtcblmcbpnakphaaGreatDoorMWDictGToWDictX
import Derived.Test.YtcblmcbpnakphaaGreatDoorMIx2ToSegRd
import Derived.Test.YtcblmcbpnakphaaGreatDoorMWCrcToWSegDocs
import Derived.Test.YtcblmcbpnakphaaGreatDoorMWTokensToWIdxR
import Derived.Laws.StructEq
set_option linter.unusedSimpArgs false
set_option linter.unusedVariables false
set_option linter.unnecessarySimpa false
/- (WSegP) segment's Postings and Terms: walked, at a segment that was built. -/
section
namespace Go.Proofs.YtcblmcbpnakphaaGreatDoor
open Go.RowKit
set_option linter.unusedVariables false

/-- what tells postings: a function value whose iterator's contract is known in every later world -/
def PostSeq (gf : Nat) (lb : Array Value) (w w' : World) (xs : List PostL) : Prop :=
  (∀ args W, (callFunc gf args).run Tryz.prog W = .ok (.enter gf args) W) ∧ ∃ kp : Nat → Prop, (∀ k, kp k → w.heap.size ≤ k ∧ k < w'.heap.size) ∧
    ∀ W1 n₀, Q w' W1 → n₀ ≤ W1.heap.size → SeqP Tryz.prog gf lb (encP (W1.heap.size + 7)) (fun k => k = W1.heap.size + 1 ∨ k = W1.heap.size + 4) (fun k => kp k ∨ (W1.heap.size ≤ k ∧ k < W1.heap.size + 7)) n₀ xs W1
theorem seqP_keep {α : Type} {P : Program} {g : Nat} {lb : Array Value} {encs : α → World → Array Value → Prop} {own keep keep' : Nat → Prop} {n₀ : Nat} {xs : List α} {W : World} (h : SeqP P g lb encs own keep n₀ xs W) (he : ∀ k, keep k ↔ keep' k) : SeqP P g lb encs own keep' n₀ xs W := by
  rw [show keep' = keep from funext fun k => propext (he k).symm]; exact h
/-- nothing is told -/
theorem PNone_seq (encs : PostL → World → Array Value → Prop) (own keep : Nat → Prop) (n₀ : Nat) (W : World) : SeqP Tryz.prog 110 #[] encs own keep n₀ [] W := by
  intro n l J Jx hJ hJx hY h0
  have H0 := Lib.hid h0
  clear h0 hY
  refine callsIn_of_wp Tryz.func110 rfl trivial ?_ rfl
  simp only [Tryz.ntmps110, List.size_toArray, List.length_cons, List.length_nil, Nat.reduceAdd, Nat.reduceSub, Array.replicate_succ, Array.replicate_zero, List.push_toArray, List.append_toArray, List.nil_append, List.cons_append]
  gi_wp2
  go_end0
  exact ⟨⟨_, rfl⟩, .inl H0.out⟩
theorem docs_dict {l : List DocL} (h : l.length ≤ 500) (hok : docsOk l) : idxS l = dictE (entsL l) ∧ DOk (entsL l) := by
  have hl : ∀ d ∈ l, d.2.length ≤ 2000 := fun d hd => (rightB_len (hok.1 d hd)).2
  refine ⟨idx_dict l h hl, entsL_right l h hl, ?_⟩
  have := termsL_len l h hl
  unfold entsL; rw [List.length_map]; omega
theorem docs_posts {l : List DocL} (h : l.length ≤ 500) (hok : docsOk l) (t : Bytes) : postsRight (-1) (postsF t l 0) = true :=
  postsF_right t l 0 (by omega) (fun d hd => (rightB_len (hok.1 d hd)).2) (-1) (by omega)
set_option maxRecDepth 100000 in
set_option maxHeartbeats 2000000 in
theorem SegPostings_any (p : Nat) (l : List DocL) (t : Bytes) (doc : Int) (w : World) (hg : SegAt w p l (idxS l)) (hn : l.length ≤ 500) (hok : docsOk l) :
    Calls Tryz.prog 73 #[.pointer (some ⟨p, 0, none⟩), strV t, .int .i64 doc] w fun e w' => (∃ gf lb, e = .returned (.func (.func gf) #[] lb) ∧ PostSeq gf lb w w' (fromP (postsF t l 0) doc)) ∧ Q w w' := by
  obtain ⟨hd, hdo⟩ := docs_dict hn hok
  obtain ⟨v, mb, hseg, _, _⟩ := hg
  have c2 : w.cell? ⟨p, 2, none⟩ = some (strV (idxS l)) := Blk.cell (t := 67) hseg 2 _ rfl
  have cg := DGet_ok (entsL l) t w hdo
  rw [← hd, entsL_find] at cg
  have hpr := docs_posts hn hok t
  generalize idxS l = dx at *
  have HPR := Lib.hid hpr
  by_cases ht : t ∈ termsL l
  · rw [if_pos ht, packL_right _ hpr] at cg
    have CG := Lib.hid cg
    clear cg hd hdo hseg ht hpr
    go_enter Tryz.func73, Tryz.ntmps73
    go_wp2_with fail
    refine CG.out.mono ?_
    rintro e w1 ⟨rfl, q1⟩
    go_wp2_with fail
    refine (PFrom_any _ _ _).mono ?_
    rintro e w2 ⟨rfl, hw2⟩
    go_wp2_with fail
    go_ret
    subst hw2
    have hq2 := (Q.alloc w1 (.cells #[strV (postsE (postsF t l 0))] 9)).trans (Q.alloc _ (.cells #[.int .i64 doc] 3))
    have b1 : Boxed ((w1.alloc (.cells #[strV (postsE (postsF t l 0))] 9)).alloc (.cells #[.int .i64 doc] 3)) w1.heap.size 9 (strV (postsE (postsF t l 0))) := (Boxed.new w1 _ _).alloc _
    have b2 : Boxed ((w1.alloc (.cells #[strV (postsE (postsF t l 0))] 9)).alloc (.cells #[.int .i64 doc] 3)) (w1.heap.size + 1) 3 (.int .i64 doc) := by
      have := Boxed.new (w1.alloc (.cells #[strV (postsE (postsF t l 0))] 9)) 3 (.int .i64 doc)
      simpa using this
    refine ⟨⟨144, _, rfl, enters_of Tryz.func144 (by kernel_rfl) rfl, (fun k => k = w1.heap.size ∨ k = w1.heap.size + 1), (fun k hk => by have := q1.size; simp; omega), ?_⟩, q1.trans hq2⟩
    intro W1 n₀ hq hn0
    exact seqP_keep (PFrom_seq (postsF t l 0) doc w1.heap.size (w1.heap.size + 1) n₀ W1 HPR.out (block_stays' hq b1) (block_stays' hq b2) hn0) (fun k => by rw [or_assoc])
  · rw [if_neg ht] at cg
    have hnil : postsF t l 0 = [] := Classical.byContradiction fun h => ht ((mem_termsL_posts l t).2 h)
    have CG := Lib.hid cg; have HNIL := Lib.hid hnil
    clear cg hd hdo hseg ht hpr HPR hnil
    go_enter Tryz.func73, Tryz.ntmps73
    go_wp2_with fail
    refine CG.out.mono ?_
    rintro e w1 ⟨rfl, q1⟩
    go_wp2_with fail
    go_ret
    refine ⟨⟨110, #[], rfl, enters_of Tryz.func110 (by kernel_rfl) rfl, (fun k => False), (fun k hk => hk.elim), ?_⟩, q1⟩
    intro W1 n₀ hq hn0
    rw [HNIL.out]
    exact PNone_seq _ _ _ _ _
def fstVs (es : List EntryL) : List Value := es.map fun e => strV e.1
set_option maxRecDepth 100000 in
set_option maxHeartbeats 2000000 in
theorem SegTerms_any (p : Nat) (l : List DocL) (pre : Bytes) (w : World) (hg : SegAt w p l (idxS l)) (hn : l.length ≤ 500) (hok : docsOk l) (hp : pre.length ≤ 1000000000) :
    Calls Tryz.prog 39 #[.pointer (some ⟨p, 0, none⟩), strV pre] w fun e w' => ∃ v, e = .returned v ∧ w'.ownsRow w.heap.size 9 1 v ((termsL l).filter (fun t => pre.isPrefixOf t)).length (((termsL l).filter (fun t => pre.isPrefixOf t)).map strV) ∧ Q w w' := by
  obtain ⟨i0, hi, hz0, hz1, hz2⟩ := info_parts (show (Tryz.prog.info? 9).map (fun i => (i.zero, i.size, i.bytes)) = some (some (strV []), 1, 16) by kernel_rfl)
  obtain ⟨hd, hdo⟩ := docs_dict hn hok
  obtain ⟨v, mb, hseg, _, _⟩ := hg
  have c2 : w.cell? ⟨p, 2, none⟩ = some (strV (idxS l)) := Blk.cell (t := 67) hseg 2 _ rfl
  have cg := DPrefix_ok (entsL l) pre w hdo hp
  have hpf := entsL_prefix l pre
  have hlen : ((entsL l).filter (fun e => pre.isPrefixOf e.1)).length ≤ 1048576 := Nat.le_trans (List.length_filter_le _ _) hdo.2
  rw [← hd] at cg
  rw [← hpf]
  generalize idxS l = dx at *
  generalize (entsL l).filter (fun e => pre.isPrefixOf e.1) = es at *
  have CG := Lib.hid cg
  clear cg hd hdo hseg hpf
  go_enter Tryz.func39, Tryz.ntmps39
  go_wp2_with fail
  refine CG.out.mono ?_
  rintro e w1 ⟨v1, rfl, ho, q1⟩
  obtain ⟨a, cap, rfl, hsm⟩ := owns_value ho
  have HO := Lib.hid ho; have HQ1 := Lib.hid q1
  have hww := q1.size
  clear ho q1
  go_wp2_with fail
  obtain ⟨es', hes⟩ : ∃ es', es' = es := ⟨_, rfl⟩
  go_loopw [5, 15] (fun lv i wr => ∃ k : Nat, k ≤ es.length ∧ i = .int .i64 k ∧ Hid (wr.ownsRow w1.heap.size 9 1 lv k (fstVs (es.take k))) ∧ Hid (wr.ownsRow w.heap.size 140 2 (.slice a es.length cap) es.length (pairVs es)) ∧ Hid (Q w wr) ∧ w1.heap.size ≤ wr.heap.size) (fun _ i _ => es.length - (intOf i).toNat)
  case atStart => exact ⟨0, by omega, rfl, World.ownsRow_nil _ _ _ _, HO.out, HQ1.out, Nat.le_refl _⟩
  case round =>
    obtain ⟨k, hk, rfl, HT, HE, HQ, hsz⟩ := hrel
    obtain ⟨wo, rfl⟩ : ∃ wo : World, wo = wr := ⟨_, rfl⟩
    by_cases hlt : k < es.length
    · obtain ⟨g, rfl⟩ := hsm (by omega)
      have hpe := pairVs_at es k hlt
      have x0 := (HE.out.cellAt (k * 2) (by omega)).trans hpe.1
      have x1 := (HE.out.cellAt (k * 2 + 1) (by omega)).trans hpe.2
      have htk : fstVs (es.take (k + 1)) = fstVs (es.take k) ++ [strV es[k].1] := by
        unfold fstVs; rw [List.take_succ_eq_append_getElem hlt, List.map_append]; rfl
      generalize es[k] = e at *
      obtain ⟨t, x⟩ := e
      simp only at x0 x1 htk
      have hT := HT.out.alloc (.cells #[strV t, strV x] 140)
      have hE := HE.out.alloc (.cells #[strV t, strV x] 140)
      have hQ := HQ.out.trans (Q.alloc wo (.cells #[strV t, strV x] 140))
      have hbz : w1.heap.size ≤ (wo.alloc (.cells #[strV t, strV x] 140)).heap.size := by simp; omega
      have HTK := Lib.hid htk; have HE1 := Lib.hid hE; have HQ2 := Lib.hid hQ
      clear htk hpe hE hQ
      go_wp2_with (at_builtin; go_must (refine wpList_app (wo.alloc (.cells #[strV t, strV x] 140)) (by rfl) _ _ 68 (by rfl) w1.heap.size 9 _ i0 (strV []) 1 16 Tryz.underlying68 hi hz0 hz1 hz2 rfl (by decide) (by decide) _ _ _ (by rfl) hT #[strV t] (by simp [Act.eval]) rfl ?c1 ?c2 hbz ?_))
      case c1 => simp [Value.oneCell']
      case c2 => omega
      intro g6 cap6 w6 hown6 hg6 hat6 hlt6 hsz6
      have e6 := row_beside HE1.out hT hg6 (by decide)
      have q6 : Q w w6 := grown_below HQ2.out hT hg6 hww (by omega)
      have hs6 : w1.heap.size ≤ w6.heap.size := Nat.le_trans hbz hg6.size
      rw [show fstVs (es.take k) ++ (#[strV t] : Array Value).toList = fstVs (es.take (k + 1)) from HTK.out.symm] at hown6
      have HO6 := Lib.hid hown6; have HE6 := Lib.hid e6; have HQ6 := Lib.hid q6
      clear hown6 e6 q6 hT hg6 hat6 HT HE HQ HE1 HQ2
      go_wp2_with fail
      go_roundw
      case rel => exact ⟨k + 1, by omega, by go_num, HO6, HE6, HQ6, hs6⟩
      case measure => simp [intOf]; omega
    · have hkk : k = es.length := by omega
      subst hkk
      have ho := HT.out
      rw [List.take_length] at ho
      have HOF := Lib.hid ho
      clear ho
      go_wp2_with fail
      go_ret
      refine ⟨_, rfl, ?_, HQ.out⟩
      rw [List.length_map, List.map_map]
      exact owns_low HOF.out hww
end Go.Proofs.YtcblmcbpnakphaaGreatDoor
end

/- (WTold) codexlaw14.told: walked. -/
section
namespace Go.Proofs.YtcblmcbpnakphaaGreatDoor
open Go.RowKit
set_option linter.unusedVariables false
attribute [local go_sem] Oper.semAt_some

/-- postings that a call has gathered: a row of its own, and a row for each one's places -/
def Told (w : World) (base : Nat) (v : Value) (xs : List PostL) : Prop :=
  ∃ rs : List PostR, postsOf rs = xs ∧ w.ownsRow base 74 2 v rs.length (postVs rs) ∧ ∀ r ∈ rs, w.ownsRow base 3 1 r.2.1 r.2.2.length (intVs r.2.2)
theorem Told.stays {w w' : World} {base : Nat} {v : Value} {xs : List PostL} (h : Told w base v xs) (q : Q w w') : Told w' base v xs := by
  obtain ⟨rs, h1, h2, h3⟩ := h
  exact ⟨rs, h1, ownsRow_below h2 q, fun r hr => ownsRow_below (h3 r hr) q⟩
theorem Told.low {w : World} {base base' : Nat} {v : Value} {xs : List PostL} (h : Told w base v xs) (hb : base' ≤ base) : Told w base' v xs := by
  obtain ⟨rs, h1, h2, h3⟩ := h
  exact ⟨rs, h1, owns_low h2 hb, fun r hr => owns_low (h3 r hr) hb⟩
theorem Told.posts {w : World} {base : Nat} {v : Value} {xs : List PostL} (h : Told w base v xs) : ∃ rs : List PostR, postsOf rs = xs ∧ Posts w v rs := by
  obtain ⟨rs, h1, h2, h3⟩ := h
  exact ⟨rs, h1, Sl.of_owns h2, fun r hr => Sl.of_owns (h3 r hr)⟩
theorem Told.nil (w : World) (base : Nat) : Told w base (.slice none 0 0) [] := ⟨[], rfl, World.ownsRow_nil _ _ _ _, by simp⟩
theorem tinfoPo : (Tryz.prog.info? 74).map (fun i => (i.zero, i.size, i.bytes)) = some (some (.agg #[.int .i64 0, .slice none 0 0]), 2, 32) := by kernel_rfl
theorem seq_not_nil (gf : Nat) (lb : Array Value) (W : World) : (binOp .eql 136 (.func (.func gf) #[] lb) .nilFunc).run Tryz.prog W = .ok (.bool false) W := by kernel_rfl
set_option maxRecDepth 100000 in
set_option maxHeartbeats 4000000 in
theorem Told_any (p : Nat) (l : List DocL) (t : Bytes) (doc : Int) (w : World) (hg : SegAt w p l (idxS l)) (hn : l.length ≤ 500) (hok : docsOk l) :
    Calls Tryz.prog 37 #[.pointer (some ⟨p, 0, none⟩), strV t, .int .i64 doc] w fun e w' => ∃ v, e = .returned v ∧ Told w' w.heap.size v (fromP (postsF t l 0) doc) ∧ Q w w' := by
  obtain ⟨i0, hi, hz0, hz1, hz2⟩ := info_parts tinfoPo
  have hpr := docs_posts hn hok t
  have hsm := (posts_small _ hpr).1
  have hfl : (fromP (postsF t l 0) doc).length ≤ 500 := Nat.le_trans (List.length_filter_le _ _) hsm
  have hxne : ∀ x ∈ fromP (postsF t l 0) doc, x.2 ≠ [] := fun x hx => ((posts_small _ hpr).2.1 x (List.mem_filter.1 hx).1).2.1
  have c := fun w hg => SegPostings_any p l t doc w hg hn hok
  have C := Lib.hid c; have HG := Lib.hid hg; have HXN := Lib.hid hxne
  generalize fromP (postsF t l 0) doc = xs at *
  clear c hg hpr hsm hxne
  refine (callsIn_wide (n := 0)).1 ?_
  refine callsIn_of_wp_marks Tryz.func37 rfl trivial ?_ rfl
  simp only [Tryz.ntmps37, List.size_toArray, List.length_cons, List.length_nil, Nat.reduceAdd, Nat.reduceSub, Array.replicate_succ, Array.replicate_zero, List.push_toArray, List.append_toArray, List.nil_append, List.cons_append]
  gi_wp2_with fail
  refine ⟨trivial, rfl, (callsIn_wide.2 (C.out _ (HG.out.stays (Q.alloc _ _)))).mono ?_⟩
  rintro e w1 ⟨⟨gf, lb, rfl, hen, kp, hkp, hseq⟩, q1⟩
  have b1 : Boxed w1 w.heap.size 70 (.slice none 0 0) := block_stays' q1 (Boxed.new w _ _)
  have hq1 := (Q.alloc w _).trans q1
  have hB := hq1.size
  have hs1 := q1.size
  simp only [World.size_alloc] at hs1 hkp
  clear q1 C HG
  have HB1 := Lib.hid b1; have HQ1 := Lib.hid hq1; have HSEQ := Lib.hid hseq; have HKP := Lib.hid hkp; have HEN := Lib.hid hen
  clear b1 hq1 hseq hkp hen
  have hnl := seq_not_nil gf lb
  gi_wp2_with fail
  refine wpIn_act (fun A0 hA0 => ?_)
  refine wp_rangeP (gf := gf) (lb := lb) (by rw [hA0]; rfl) HEN.out (encs := encP (w1.heap.size + 2 + 7)) (own := fun k => k = w1.heap.size + 2 + 1 ∨ k = w1.heap.size + 2 + 4) (keep := fun k => kp k ∨ (w1.heap.size + 2 ≤ k ∧ k < w1.heap.size + 2 + 7)) (n₀ := w.heap.size) (xs := xs)
    (fun W1 hq hz => by
      have h := HSEQ.out W1 w.heap.size hq (by omega)
      rw [hz] at h
      exact h)
    (fun k h => by omega) (fun k h => by rcases h with h | h; · have := HKP.out k h; omega
                                         · omega) (by omega) (fun x W1 args h => by obtain ⟨v, rfl, _⟩ := h; rfl)
    (fun k W => ∃ (v : Value) (rs : List PostR), postsOf rs = xs.take k ∧ Boxed W w.heap.size 70 v ∧ W.ownsRow w.heap.size 74 2 v rs.length (postVs rs) ∧ (∀ g, v.ownBlock = some g → w1.heap.size + 9 ≤ g) ∧ (∀ r ∈ rs, W.ownsRow (w1.heap.size + 9) 3 1 r.2.1 r.2.2.length (intVs r.2.2)) ∧ Below w.heap.size w W)
    (fun _ _ _ => False)
    (fun k a' W => ∃ (x : PostL) (pv : Value) (B : Nat), xs[k]? = some x ∧ a' = { tmps := (A0.tmps.setIfInBounds 17 (.agg #[.int .i64 x.1, pv])).setIfInBounds 9 (.pointer (some ⟨B, 0, none⟩)), defers := [] } ∧ Blk W B 74 #[.int .i64 x.1, pv] ∧ W.ownsRow (w1.heap.size + 9) 3 1 pv x.2.length (intVs x.2) ∧ w1.heap.size + 9 ≤ B)
    ?hI (fun _ _ _ _ h _ => h) ?hAx ?h0 ?assign ?body ?done (fun _ _ _ _ _ _ h _ => h.elim)
  case hI =>
    rintro k A B ⟨v, rs, h1, h2, h3, h4, h5, h6⟩ hi
    exact ⟨v, rs, h1, hi.boxed h2 (by omega), hi.owns h3 (fun g hg => by have := h4 g hg; omega), h4, fun r hr => hi.owns (h5 r hr) (fun g hg => by have := ((h5 r hr).lt g hg).1; omega), hi.below h6 (by omega) h6.size (fun k h => by omega)⟩
  case hAx =>
    rintro k a' A C ⟨x, v, B, h1, h2, h3, h4, h5⟩ hi
    exact ⟨x, v, B, h1, h2, hi.get h3 (by omega), hi.owns h4 (fun g hg => by have := (h4.lt g hg).1; omega), h5⟩
  case h0 => exact ⟨_, [], rfl, HB1.out, World.ownsRow_nil _ _ _ _, by simp [Value.ownBlock], by simp, HQ1.out⟩
  case assign =>
    intro l' k hk W' args K hi henc hz hK
    obtain ⟨v, rfl, ho⟩ := henc
    obtain ⟨a, cap, rfl, hsm⟩ := owns_value ho
    have hB9 : w1.heap.size + 9 ≤ W'.heap.size := by
      obtain ⟨g, rfl⟩ := hsm (List.length_pos_iff.2 (HXN.out _ (List.getElem_mem hk)))
      have := ho.lt g rfl
      omega
    obtain ⟨v, rs, h1, h2, h3, h4, h5, h6⟩ := hi
    have hq := Q.alloc W' (.cells #[.int .i64 xs[k].1, .slice a xs[k].2.length cap] 74)
    have hm := Blk.new W' 74 #[.int .i64 xs[k].1, .slice a xs[k].2.length cap]
    have g2 : Boxed _ w.heap.size 70 v := block_stays' hq h2
    have G1 := Lib.hid hq; have G2 := Lib.hid g2; have G3 := Lib.hid (ownsRow_below h3 hq); have G4 := Lib.hid h4; have G5 := Lib.hid (fun r hr => ownsRow_below (h5 r hr) hq); have G6 := Lib.hid (h6.trans (Below.mono hq h6.size)); have GM := Lib.hid hm; have GO := Lib.hid (ownsRow_below ho hq); have G0 := Lib.hid h1
    have HK := Lib.hid hK
    subst hA0
    clear hq hm ho h1 h2 h3 h4 h5 h6 hK g2
    gi_wp2
    refine HK.out _ _ G1.out ⟨v, rs, G0.out, G2.out, G3.out, G4.out, G5.out, G6.out⟩ ⟨xs[k], .slice a xs[k].2.length cap, W'.heap.size, List.getElem?_eq_getElem hk, ?_, GM.out, GO.out, by omega⟩
    rfl
  case body =>
    rintro l' k hk a' W' ⟨⟨rc, hrc⟩, hdf⟩ hl ⟨v, rs, h1, h2, h3, h4, h5, h6⟩ ⟨x, pv, B, hx, rfl, hm, ho, hB⟩ hkb hz
    subst hA0
    obtain ⟨m0, m1, _⟩ := hm.c2
    have cv := h2.cell; have fv := h2.frozen
    obtain ⟨a, cap, rfl, hsm⟩ := owns_value ho
    obtain ⟨va, vcap, rfl, hvs⟩ := owns_value h3
    have hlen : rs.length ≤ 500 ∧ rs.length = k := by
      refine (fun e => ⟨by omega, e⟩) ?_
      have := congrArg List.length h1; simpa [Nat.min_eq_left (Nat.le_of_lt hk)] using this
    have htk : xs.take (k + 1) = xs.take k ++ [x] := by
      obtain ⟨hlt, hxe⟩ := List.getElem?_eq_some_iff.1 hx
      rw [List.take_succ_eq_append_getElem hlt, hxe]
    have hkb7 : w1.heap.size + 2 + 7 ≤ W'.heap.size := by have := hkb (w1.heap.size + 2 + 6) (.inr ⟨by omega, by omega⟩); omega
    have hnW := h6.size
    have H1 := Lib.hid h1; have H2 := Lib.hid h2; have H3 := Lib.hid h3; have H4 := Lib.hid h4; have H5 := Lib.hid h5; have H6 := Lib.hid h6; have HM := Lib.hid hm; have HO := Lib.hid ho; have HTK := Lib.hid htk; have HLN := Lib.hid hlen.2; have hl5 := hlen.1
    clear h1 h2 h3 h4 h5 h6 hm ho htk hrc hdf hkb hx hlen
    simp only [List.setIfInBounds_toArray, List.set_cons_succ, List.set_cons_zero]
    have h600 : ¬ (600 : Int) < rs.length := by omega
    gi_wp2_with (gi_at_builtin; go_must (refine wpListIn_appN W' (by rfl) _ _ 70 (by rfl) w.heap.size 74 _ i0 (.agg #[.int .i64 0, .slice none 0 0]) 2 32 Tryz.underlying70 hi hz0 hz1 hz2 rfl (by decide) (by decide) _ _ _ (by rfl) H3.out 1 (by decide) #[.int .i64 x.1, .slice a x.2.length cap] (by rfl) rfl ?c1 ?c2 hnW ?_))
    case c1 => simp [Value.oneCell']
    case c2 => omega
    intro g6 cap6 w6 hown6 hg6 hat6 hlt6 hsz6
    have hn0 : some w.heap.size ≠ Value.ownBlock (.slice va rs.length vcap) := fun e => by have := H4.out w.heap.size e.symm; omega
    have b6 : Boxed w6 w.heap.size 70 (.slice va rs.length vcap) := H2.out.kept hg6 hn0
    have r6 : ∀ r ∈ rs, w6.ownsRow (w1.heap.size + 9) 3 1 r.2.1 r.2.2.length (intVs r.2.2) := fun r hr => row_beside (H5.out r hr) H3.out hg6 (by decide)
    have o6 := row_beside HO.out H3.out hg6 (by decide)
    have hge : w1.heap.size + 9 ≤ g6 := by
      rcases hat6 with h | h
      · exact H4.out g6 h
      · omega
    have k6 : Bk (fun b => (kp b ∨ w1.heap.size + 2 ≤ b ∧ b < w1.heap.size + 2 + 7) ∨ b = w1.heap.size ∨ b = w1.heap.size + 1) w.heap.size W' w6 := Bk.grown hg6 hnW (fun j hj => by
      have := H4.out j hj
      obtain ⟨cs, hcs⟩ := owns_kind H3.out j hj
      refine ⟨by omega, ?_, cs, _, _, hcs⟩
      rintro ((h | h) | h)
      · have := HKP.out j h; omega
      · omega
      · omega)
    have hb6 := H6.out.grown hg6 hnW (fun j hj => by have := H4.out j hj; omega)
    have c6 := b6.cell; have f6 := b6.frozen
    rw [show postVs rs ++ (#[.int .i64 x.1, .slice a x.2.length cap] : Array Value).toList = postVs (rs ++ [(x.1, .slice a x.2.length cap, x.2)]) by simp [postVs]] at hown6
    have hl6 : rs.length + 1 = (rs ++ [(x.1, Value.slice a x.2.length cap, x.2)]).length := by simp
    have B6 := Lib.hid b6; have R6 := Lib.hid r6; have O6 := Lib.hid o6; have K6 := Lib.hid k6; have HB6 := Lib.hid hb6; have W6 := Lib.hid hown6; have L6 := Lib.hid hl6
    clear b6 r6 o6 k6 hb6 hown6 hg6 hat6 hn0 hl6 cv fv
    gi_wp2_with fail
    refine ⟨K6.out.trans (Bk.setCell _ (by simp) ?_ _), .slice (some ⟨g6, 0, none⟩) (rs.length + 1) cap6, rs ++ [(x.1, .slice a x.2.length cap, x.2)], ?_, B6.out.set _, ?_, ?_, ?_, HB6.out.setCell (by simp) _⟩
    · rintro ((h | h) | h)
      · have h := HKP.out _ h; simp at h; omega
      · simp at h; omega
      · simp at h; omega
    · rw [HTK.out, ← H1.out]; simp [postsOf]
    · have ho := W6.out
      rw [L6.out] at ho ⊢
      exact ownsRow_setCell_other ho (by simp [Value.ownBlock]; omega) _
    · intro g hg
      simp [Value.ownBlock] at hg
      omega
    · intro r hr
      rcases List.mem_append.1 hr with hr | hr
      · exact ownsRow_setCell_below (R6.out r hr) (by simp; omega) _
      · rw [List.mem_singleton] at hr
        subst hr
        exact ownsRow_setCell_below O6.out (by simp; omega) _
  case done =>
    rintro D W' hD hz ⟨v, rs, h1, h2, h3, h4, h5, h6⟩ hK
    rw [List.take_length] at h1
    have c0 := h2.cell
    obtain ⟨va, vcap, rfl, hvs⟩ := owns_value h3
    have H1 := Lib.hid h1; have H3 := Lib.hid h3; have H5 := Lib.hid h5; have H6 := Lib.hid h6; have HK := Lib.hid hK
    have hD9 : D ≠ w.heap.size := by omega
    subst hA0
    clear h1 h2 h3 h4 h5 h6 hK
    gi_wp2_with fail
    refine ⟨by simp, .inl ⟨_, _, rfl, run_takeDeferred HK.out, ?_⟩⟩
    refine ⟨_, results_tmp rfl _ _ _, _, rfl, ⟨rs, H1.out, ownsRow_putObj H3.out _ HK.out rfl, fun r hr => owns_low (ownsRow_putObj (H5.out r hr) _ HK.out rfl) (by omega)⟩, ?_⟩
    exact H6.out.trans (Bk.put (own := fun _ => False) (n₀ := w.heap.size) _ HK.out rfl (by omega) (fun h => h)).below
end Go.Proofs.YtcblmcbpnakphaaGreatDoor
end

/- (WLaw14a) codexlaw14: sameDocs, sameTexts, samePostings, small, pick: walked. -/
section
namespace Go.Proofs.YtcblmcbpnakphaaGreatDoor
open Go.RowKit
set_option linter.unusedVariables false

theorem bytes_eqb4 (a b : Bytes) : (({ data := a.toArray } : ByteArray).toList == ({ data := b.toArray } : ByteArray).toList) = decide (a = b) := by
  rw [ByteArray.toList_eq, ByteArray.toList_eq]
  by_cases h : a = b <;> simp [h]
theorem eqDoc4 (i1 t1 i2 t2 : Bytes) (w : World) : (Op.equalIn 10000 52 (.agg #[strV i1, strV t1]) (.agg #[strV i2, strV t2])).run Tryz.prog w = .ok (decide (((i1, t1) : DocL) = (i2, t2))) w := by
  have u9 := Tryz.underlying9
  have hS : Tryz.prog.underlying 52 = some (.struct (Tryz.prog.fieldsOf 52)) := by kernel_rfl
  have hp : Tryz.prog.stoodInHeld 52 = false := by kernel_rfl
  rw [show (10000 : Nat) = 9999 + 1 from rfl, run_equalIn_agg w 9999 52 _ _ hS hp]
  simp only [Program.fieldsOf, Tryz.underlying52]
  go_simp
  by_cases h1 : i1 = i2 <;> by_cases h2 : t1 = t2 <;> simp [h1, h2, bytes_eqb4]
set_option maxRecDepth 100000 in
set_option maxHeartbeats 2000000 in
theorem sameDocs14_any (va vb : Value) (la lb : List DocL) (w : World) (ha : Docs w va la) (hb : Docs w vb lb) (hna : la.length ≤ 1000000000) (hnb : lb.length ≤ 1000000000) :
    Calls Tryz.prog 30 #[va, vb] w fun e w' => e = .returned (.bool (decide (la = lb))) ∧ Q w w' := by
  obtain ⟨aa, ca, rfl, hca⟩ := ha.value
  obtain ⟨ab, cb, rfl, hcb⟩ := hb.value
  have HA := Lib.hid hca; have HB := Lib.hid hcb
  clear ha hb hca hcb
  by_cases hl : la.length = lb.length
  · have HLL := Lib.hid hl
    rw [← hl]
    clear hl
    go_enter Tryz.func30, Tryz.ntmps30
    go_wp2_with fail
    go_loopw [5] (fun x wr => ∃ k : Nat, x = .int .i64 (k : Nat) ∧ k ≤ la.length ∧ Hid (la.take k = lb.take k) ∧ Hid (Q w wr)) (fun x _ => la.length - (intOf x).toNat)
    case atStart => exact ⟨0, rfl, by omega, rfl, Q.refl w⟩
    case round =>
      obtain ⟨k, rfl, hk, HT, HQ⟩ := hrel
      obtain ⟨wo, rfl⟩ : ∃ wo : World, wo = wr := ⟨_, rfl⟩
      by_cases hlt : k < la.length
      · obtain ⟨b1, o1, rfl, hc1⟩ := HA.out (by omega)
        have hltb : k < lb.length := by have := HLL.out; omega
        obtain ⟨b2, o2, rfl, hc2⟩ := HB.out (by omega)
        obtain ⟨x1, x2⟩ := hc1 k hlt
        obtain ⟨y1, y2⟩ := hc2 k hltb
        have k1 := cell_stays HQ.out x1
        have k2 := cell_stays HQ.out x2
        have k3 := cell_stays HQ.out y1
        have k4 := cell_stays HQ.out y2
        have hta := List.take_succ_eq_append_getElem hlt
        have htb := List.take_succ_eq_append_getElem hltb
        have hi0 : (0 : Int) ≤ (k : Int) := by omega
        have hi1 : (k : Int) < (la.length : Int) := by omega
        generalize hda : la[k] = da at *
        generalize hdb : lb[k] = db at *
        have HTA := Lib.hid hta; have HTB := Lib.hid htb; have HDA := Lib.hid hda; have HDB := Lib.hid hdb
        clear hc1 hc2 x1 x2 y1 y2 hta htb hda hdb
        obtain ⟨i1, t1⟩ := da
        obtain ⟨i2, t2⟩ := db
        simp only at k1 k2 k3 k4
        have hm : Tryz.prog.eqGuardType Tryz.prog.depth 52 = false := by kernel_rfl
        have heq := fun w => eqDoc4 i1 t1 i2 t2 w
        by_cases hd : ((i1, t1) : DocL) = (i2, t2)
        · rw [decide_eq_true hd] at heq
          have HD := Lib.hid hd; clear hd
          go_wp2_with fail
          go_quiet (fail)
          go_wp2_with fail
          go_roundw
          case rel => exact ⟨k + 1, by go_num, by omega, by show _ = _; rw [HTA.out, HTB.out, HT.out, HD.out], HQ.out.trans (Q.drewN _ _)⟩
          case measure => simp [intOf]; omega
        · rw [decide_eq_false hd] at heq
          have HD := Lib.hid hd; clear hd
          go_wp2_with fail
          go_quiet (fail)
          go_wp2_with fail
          go_ret
          have hdf : decide (la = lb) = false := by
            rw [decide_eq_false]; intro e
            have h1 := HTA.out; have h2 := HTB.out
            rw [← e, h1] at h2
            exact HD.out (by simpa using h2)
          exact ⟨by rw [hdf]; rfl, HQ.out.trans (Q.drewN _ _)⟩
      · have hke : k = la.length := by omega
        subst hke
        go_wp2_with fail
        go_ret
        have hdt : decide (la = lb) = true := by
          rw [decide_eq_true]
          have := HT.out
          rw [List.take_length, HLL.out, List.take_length] at this
          exact this
        exact ⟨by rw [hdt]; rfl, HQ.out⟩
  · have hne : ((la.length : Int) != (lb.length : Int)) = true := by simp; omega
    have HL := Lib.hid hl
    clear hl
    go_enter Tryz.func30, Tryz.ntmps30
    go_wp2_with fail
    go_ret
    have hdf : decide (la = lb) = false := decide_eq_false (fun e => HL.out (by rw [e]))
    exact ⟨by rw [hdf]; rfl, Q.refl _⟩

set_option maxRecDepth 100000 in
set_option maxHeartbeats 2000000 in
theorem sameTexts14_any (va vb : Value) (la lb : List Bytes) (w : World) (ha : Strs w va la) (hb : Strs w vb lb) (hna : la.length ≤ 1000000000) (hnb : lb.length ≤ 1000000000) :
    Calls Tryz.prog 38 #[va, vb] w fun e w' => e = .returned (.bool (decide (la = lb))) ∧ Q w w' := by
  obtain ⟨aa, ca, rfl, hca⟩ := ha.value
  obtain ⟨ab, cb, rfl, hcb⟩ := hb.value
  have HA := Lib.hid hca; have HB := Lib.hid hcb
  clear ha hb hca hcb
  by_cases hl : la.length = lb.length
  · have HLL := Lib.hid hl
    rw [← hl]
    clear hl
    go_enter Tryz.func38, Tryz.ntmps38
    go_wp2_with fail
    go_loopw [5] (fun x wr => ∃ k : Nat, x = .int .i64 (k : Nat) ∧ k ≤ la.length ∧ Hid (la.take k = lb.take k) ∧ Hid (Q w wr)) (fun x _ => la.length - (intOf x).toNat)
    case atStart => exact ⟨0, rfl, by omega, rfl, Q.refl w⟩
    case round =>
      obtain ⟨k, rfl, hk, HT, HQ⟩ := hrel
      obtain ⟨wo, rfl⟩ : ∃ wo : World, wo = wr := ⟨_, rfl⟩
      by_cases hlt : k < la.length
      · obtain ⟨b1, o1, rfl, hc1⟩ := HA.out (by omega)
        have hltb : k < lb.length := by have := HLL.out; omega
        obtain ⟨b2, o2, rfl, hc2⟩ := HB.out (by omega)
        have k1 := cell_stays HQ.out (hc1 k hlt)
        have k2 := cell_stays HQ.out (hc2 k hltb)
        have hta := List.take_succ_eq_append_getElem hlt
        have htb := List.take_succ_eq_append_getElem hltb
        have hi0 : (0 : Int) ≤ (k : Int) := by omega
        have hi1 : (k : Int) < (la.length : Int) := by omega
        generalize hda : la[k] = da at *
        generalize hdb : lb[k] = db at *
        have HTA := Lib.hid hta; have HTB := Lib.hid htb
        clear hc1 hc2 hta htb hda hdb
        by_cases hd : da = db
        · subst hd
          go_wp2_with fail
          go_quiet (fail)
          go_wp2_with fail
          go_roundw
          case rel => exact ⟨k + 1, by go_num, by omega, by show _ = _; rw [HTA.out, HTB.out, HT.out], HQ.out.trans (Q.drewN _ _)⟩
          case measure => simp [intOf]; omega
        · have hdd : (da == db) = false := by simpa using hd
          have HD := Lib.hid hd
          go_wp2_with fail
          go_quiet (fail)
          go_wp2_with fail
          go_ret
          have hdf : decide (la = lb) = false := by
            rw [decide_eq_false]; intro e
            have h1 := HTA.out; have h2 := HTB.out
            rw [← e, h1] at h2
            exact HD.out (by simpa using h2)
          exact ⟨by rw [hdf]; rfl, HQ.out.trans (Q.drewN _ _)⟩
      · have hke : k = la.length := by omega
        subst hke
        go_wp2_with fail
        go_ret
        have hdt : decide (la = lb) = true := by
          rw [decide_eq_true]
          have := HT.out
          rw [List.take_length, HLL.out, List.take_length] at this
          exact this
        exact ⟨by rw [hdt]; rfl, HQ.out⟩
  · have hne : ((la.length : Int) != (lb.length : Int)) = true := by simp; omega
    have HL := Lib.hid hl
    clear hl
    go_enter Tryz.func38, Tryz.ntmps38
    go_wp2_with fail
    go_ret
    have hdf : decide (la = lb) = false := decide_eq_false (fun e => HL.out (by rw [e]))
    exact ⟨by rw [hdf]; rfl, Q.refl _⟩
theorem take_eq {α : Type} {la lb : List α} (h : la.length = lb.length) (k : Nat) (hk : k = la.length) (ht : la.take k = lb.take k) : la = lb := by
  rw [hk, List.take_length, h, List.take_length] at ht; exact ht
set_option maxRecDepth 100000 in
set_option maxHeartbeats 4000000 in
theorem samePosts14_any (va vb : Value) (la lb : List PostR) (w : World) (ha : Posts w va la) (hb : Posts w vb lb) (hna : la.length ≤ 1000000000) (hnb : lb.length ≤ 1000000000) (hla : ∀ r ∈ la, r.2.2.length ≤ 1000000000) (hlb : ∀ r ∈ lb, r.2.2.length ≤ 1000000000) :
    Calls Tryz.prog 36 #[va, vb] w fun e w' => e = .returned (.bool (decide (postsOf la = postsOf lb))) ∧ Q w w' := by
  obtain ⟨aa, ca, rfl, hca⟩ := ha.value
  obtain ⟨ab, cb, rfl, hcb⟩ := hb.value
  have hpa := ha.2; have hpb := hb.2
  have HA := Lib.hid hca; have HB := Lib.hid hcb; have HPA := Lib.hid hpa; have HPB := Lib.hid hpb; have HLA := Lib.hid hla; have HLB := Lib.hid hlb
  clear ha hb hca hcb hpa hpb hla hlb
  by_cases hl : la.length = lb.length
  · have HLL := Lib.hid hl
    rw [← hl]
    clear hl
    go_enter Tryz.func36, Tryz.ntmps36
    go_wp2_with fail
    go_loopw [5] (fun x wr => ∃ k : Nat, x = .int .i64 (k : Nat) ∧ k ≤ la.length ∧ Hid (postsOf (la.take k) = postsOf (lb.take k)) ∧ Hid (Q w wr)) (fun x _ => la.length - (intOf x).toNat)
    case atStart => exact ⟨0, rfl, by omega, rfl, Q.refl w⟩
    case round =>
      obtain ⟨k, rfl, hk, HT, HQ⟩ := hrel
      obtain ⟨wo, rfl⟩ : ∃ wo : World, wo = wr := ⟨_, rfl⟩
      by_cases hlt : k < la.length
      · obtain ⟨b1, o1, rfl, hc1⟩ := HA.out (by omega)
        have hltb : k < lb.length := by have := HLL.out; omega
        obtain ⟨b2, o2, rfl, hc2⟩ := HB.out (by omega)
        obtain ⟨x1, x2⟩ := hc1 k hlt
        obtain ⟨y1, y2⟩ := hc2 k hltb
        have k1 := cell_stays HQ.out x1
        have k2 := cell_stays HQ.out x2
        have k3 := cell_stays HQ.out y1
        have k4 := cell_stays HQ.out y2
        have hta : postsOf (la.take (k + 1)) = postsOf (la.take k) ++ [postOf la[k]] := by unfold postsOf; rw [List.take_succ_eq_append_getElem hlt, List.map_append]; rfl
        have htb : postsOf (lb.take (k + 1)) = postsOf (lb.take k) ++ [postOf lb[k]] := by unfold postsOf; rw [List.take_succ_eq_append_getElem hltb, List.map_append]; rfl
        have hia := HPA.out _ (List.getElem_mem hlt)
        have hib := HPB.out _ (List.getElem_mem hltb)
        have hal := HLA.out _ (List.getElem_mem hlt)
        have hbl := HLB.out _ (List.getElem_mem hltb)
        have hi0 : (0 : Int) ≤ (k : Int) := by omega
        have hi1 : (k : Int) < (la.length : Int) := by omega
        generalize hda : la[k] = da at *
        generalize hdb : lb[k] = db at *
        obtain ⟨d1, v1, p1⟩ := da
        obtain ⟨d2, v2, p2⟩ := db
        simp only at k1 k2 k3 k4 hia hib hal hbl
        obtain ⟨a1, c1, rfl, hq1⟩ := hia.value
        obtain ⟨a2, c2, rfl, hq2⟩ := hib.value
        have HTA := Lib.hid hta; have HTB := Lib.hid htb; have HQ1 := Lib.hid hq1; have HQ2 := Lib.hid hq2
        have hno : ((d1, p1) : PostL) ≠ (d2, p2) → decide (postsOf la = postsOf lb) = false := fun hd => by
          rw [decide_eq_false]; intro e
          have h1 := hta; have h2 := htb
          have e2 : postsOf (la.take (k + 1)) = postsOf (lb.take (k + 1)) := by unfold postsOf at e ⊢; rw [List.map_take, List.map_take, e]
          rw [e2, h2] at h1
          rw [HT.out] at h1
          exact hd (by simpa [postOf] using h1.symm)
        have HNO := Lib.hid hno
        clear hc1 hc2 x1 x2 y1 y2 hta htb hda hdb hia hib hq1 hq2 hno
        by_cases hd : d1 = d2
        · subst hd
          by_cases hpl : p1.length = p2.length
          · have HPL := Lib.hid hpl
            rw [← hpl] at k4
            clear hpl
            go_wp2_with fail
            go_quiet (fail)
            go_wp2_with fail
            go_loopw [6] (fun x wr => ∃ j : Nat, x = .int .i64 (j : Nat) ∧ j ≤ p1.length ∧ Hid (p1.take j = p2.take j) ∧ Hid (Q wo wr)) (fun x _ => p1.length - (intOf x).toNat)
            case atStart => exact ⟨0, rfl, by omega, rfl, Q.drewN _ _⟩
            case round =>
              obtain ⟨j, rfl, hj, HJT, HJQ⟩ := hrel
              obtain ⟨wj, rfl⟩ : ∃ wj : World, wj = wr := ⟨_, rfl⟩
              have l1 := cell_stays HJQ.out k1
              have l2 := cell_stays HJQ.out k2
              have l3 := cell_stays HJQ.out k3
              have l4 := cell_stays HJQ.out k4
              clear k1 k2 k3 k4
              have hj0 : (0 : Int) ≤ (j : Int) := by omega
              by_cases hjl : j < p1.length
              · have hj2 : j < p2.length := by have := HPL.out; omega
                have hj1 : (j : Int) < (p1.length : Int) := by omega
                obtain ⟨b3, o3, rfl, hc3⟩ := HQ1.out (by omega)
                obtain ⟨b4, o4, rfl, hc4⟩ := HQ2.out (by omega)
                have m1 := cell_stays HJQ.out (cell_stays HQ.out (hc3 j hjl))
                have m2 := cell_stays HJQ.out (cell_stays HQ.out (hc4 j hj2))
                have hta := List.take_succ_eq_append_getElem hjl
                have htb := List.take_succ_eq_append_getElem hj2
                generalize hda : p1[j] = da at *
                generalize hdb : p2[j] = db at *
                have HTC := Lib.hid hta; have HTD := Lib.hid htb
                clear hc3 hc4 hta htb hda hdb
                by_cases hd : da = db
                · subst hd
                  go_wp2_with fail
                  go_quiet (fail)
                  go_wp2_with fail
                  go_roundw
                  case rel => exact ⟨j + 1, by go_num, by omega, by show _ = _; rw [HTC.out, HTD.out, HJT.out], HJQ.out.trans (Q.drewN _ _)⟩
                  case measure => simp [intOf]; omega
                · have hdd : (da != db) = true := by simpa using hd
                  have hr := HNO.out (fun e => by
                    have e1 : p1 = p2 := by cases e; rfl
                    have h1 := HTC.out; have h2 := HTD.out
                    rw [e1, h2] at h1
                    exact hd (by simpa using h1.symm))
                  have HR := Lib.hid hr
                  clear hr hd
                  go_wp2_with fail
                  go_quiet (fail)
                  go_wp2_with fail
                  go_ret
                  exact ⟨by rw [HR.out]; rfl, (HQ.out.trans HJQ.out).trans (Q.drewN _ _)⟩
              · have hp12 : p1 = p2 := take_eq HPL.out j (by omega) HJT.out
                have hn : postsOf (la.take (k + 1)) = postsOf (lb.take (k + 1)) := by rw [HTA.out, HTB.out, HT.out, hp12]
                have HN := Lib.hid hn
                clear hp12 hn
                go_wp2_with fail
                go_roundw
                case rel => exact ⟨k + 1, by go_num, by omega, HN.out, HQ.out.trans HJQ.out⟩
                case measure => simp [intOf]; omega
          · have hnl : ((p1.length : Int) != (p2.length : Int)) = true := by simp; omega
            have hr := HNO.out (fun e => hpl (by cases e; rfl))
            have HR := Lib.hid hr
            clear hr hpl
            go_wp2_with fail
            go_quiet (fail)
            go_wp2_with fail
            go_ret
            exact ⟨by rw [HR.out]; rfl, HQ.out.trans (Q.drewN _ _)⟩
        · have hnd : (d1 != d2) = true := by simpa using hd
          have hr := HNO.out (fun e => hd (by cases e; rfl))
          have HR := Lib.hid hr
          clear hr hd
          go_wp2_with fail
          go_quiet (fail)
          go_wp2_with fail
          go_ret
          exact ⟨by rw [HR.out]; rfl, HQ.out.trans (Q.drewN _ _)⟩
      · have hke : k = la.length := by omega
        subst hke
        go_wp2_with fail
        go_ret
        have hdt : decide (postsOf la = postsOf lb) = true := by
          rw [decide_eq_true]
          have := HT.out
          rw [List.take_length, HLL.out, List.take_length] at this
          exact this
        exact ⟨by rw [hdt]; rfl, HQ.out⟩
  · have hne : ((la.length : Int) != (lb.length : Int)) = true := by simp; omega
    have HL := Lib.hid hl
    clear hl
    go_enter Tryz.func36, Tryz.ntmps36
    go_wp2_with fail
    go_ret
    have hdf : decide (postsOf la = postsOf lb) = false := decide_eq_false (fun e => HL.out (by have := congrArg List.length e; simpa [postsOf] using this))
    exact ⟨by rw [hdf]; rfl, Q.refl _⟩
def smallD (d : DocL) : Bool := decide (d.1.length ≤ 100) && decide (d.2.length ≤ 2100)
def small4 (l : List DocL) : Bool := decide (l.length ≤ 40) && l.all smallD
set_option maxRecDepth 100000 in
set_option maxHeartbeats 4000000 in
theorem small14_any (v : Value) (l : List DocL) (w : World) (hv : Docs w v l) (hn : l.length ≤ 9223372036854775807) (hl : ∀ d ∈ l, d.1.length ≤ 9223372036854775807 ∧ d.2.length ≤ 9223372036854775807) :
    Calls Tryz.prog 20 #[v] w fun e w' => e = .returned (.bool (small4 l)) ∧ Q w w' := by
  obtain ⟨a, cap, rfl, hcell⟩ := hv.value
  have HC := Lib.hid hcell; have HL := Lib.hid hl
  clear hv hcell hl
  by_cases h40 : l.length ≤ 40
  · have hsb : small4 l = l.all smallD := by unfold small4; rw [decide_eq_true h40]; rfl
    have HSB := Lib.hid hsb; clear hsb
    have h40i : ¬ ((40 : Int) < (l.length : Int)) := by omega
    go_enter Tryz.func20, Tryz.ntmps20
    go_wp2_with fail
    go_loopw [3] (fun x wr => ∃ k : Nat, x = .int .i64 (k : Nat) ∧ k ≤ l.length ∧ Hid (l.all smallD = (l.drop k).all smallD) ∧ Hid (Q w wr)) (fun x _ => l.length - (intOf x).toNat)
    case atStart => exact ⟨0, rfl, by omega, rfl, Q.refl w⟩
    case round =>
      obtain ⟨k, rfl, hk, HK, HQ⟩ := hrel
      obtain ⟨wo, rfl⟩ : ∃ wo : World, wo = wr := ⟨_, rfl⟩
      by_cases hlt : k < l.length
      · obtain ⟨b, off, rfl, hc⟩ := HC.out (by omega)
        obtain ⟨x0, x1⟩ := hc k hlt
        have c0 := cell_stays HQ.out x0
        have c1 := cell_stays HQ.out x1
        obtain ⟨hl1, hl2⟩ := HL.out _ (List.getElem_mem hlt)
        have hall : l.all smallD = (smallD l[k] && (l.drop (k + 1)).all smallD) := by rw [HK.out, List.drop_eq_getElem_cons hlt, List.all_cons]
        have hi0 : (0 : Int) ≤ (k : Int) := by omega
        have hi1 : (k : Int) < (l.length : Int) := by omega
        generalize l[k] = d at *
        obtain ⟨id, tx⟩ := d
        simp only at c0 c1 hl1 hl2
        clear hc x0 x1
        by_cases h1 : id.length ≤ 100
        · have h1i : ¬ ((100 : Int) < (id.length : Int)) := by omega
          by_cases h2 : tx.length ≤ 2100
          · have hso : l.all smallD = (l.drop (k + 1)).all smallD := by rw [hall]; simp [smallD, h1, h2]
            have HSO := Lib.hid hso
            clear hso hall
            have h2i : ¬ ((2100 : Int) < (tx.length : Int)) := by omega
            go_wp2_with fail
            go_roundw
            case rel => exact ⟨k + 1, by go_num, by omega, HSO, HQ.out⟩
            case measure => simp [intOf]; omega
          · have hso : l.all smallD = false := by rw [hall]; simp [smallD]; omega
            have HSO := Lib.hid hso
            clear hso hall
            have h2i : (2100 : Int) < (tx.length : Int) := by omega
            go_wp2_with fail
            go_ret
            exact ⟨by rw [HSB.out, HSO.out]; rfl, HQ.out⟩
        · have hso : l.all smallD = false := by rw [hall]; simp [smallD]; omega
          have HSO := Lib.hid hso
          clear hso hall
          have h1i : (100 : Int) < (id.length : Int) := by omega
          go_wp2_with fail
          go_ret
          exact ⟨by rw [HSB.out, HSO.out]; rfl, HQ.out⟩
      · have hke : k = l.length := by omega
        subst hke
        have hso : l.all smallD = true := by rw [HK.out, List.drop_length]; rfl
        have HSO := Lib.hid hso
        clear hso
        go_wp2_with fail
        go_ret
        exact ⟨by rw [HSB.out, HSO.out]; rfl, HQ.out⟩
  · have hso : small4 l = false := by unfold small4; rw [decide_eq_false h40]; rfl
    have HSO := Lib.hid hso
    clear hso
    have h40i : ((40 : Int) < (l.length : Int)) := by omega
    go_enter Tryz.func20, Tryz.ntmps20
    go_wp2_with fail
    go_ret
    exact ⟨by rw [HSO.out]; rfl, Q.refl _⟩
/-- the thing that a raw number speaks of -/
def pickL (c : Int) (n : Nat) : Nat := ((if c < 0 then -(c + 1) else c) % (n : Int)).toNat
theorem pickL_lt (c : Int) (n : Nat) (h : 0 < n) : pickL c n < n := by
  unfold pickL
  have h1 := Int.emod_lt_of_pos (if c < 0 then -(c + 1) else c) (show (0 : Int) < n by omega)
  have h2 := Int.emod_nonneg (if c < 0 then -(c + 1) else c) (show (n : Int) ≠ 0 by omega)
  omega
set_option maxHeartbeats 1000000 in
theorem pick14_any (c : Int) (n : Nat) (w : World) (h0 : -9223372036854775808 ≤ c) (h1 : c ≤ 9223372036854775807) (hn : 0 < n) (hn2 : n ≤ 9223372036854775807) :
    Calls Tryz.prog 26 #[.int .i64 c, .int .i64 n] w fun e w' => e = .returned (.int .i64 (pickL c n)) ∧ Q w w' := by
  have hp : ((pickL c n : Nat) : Int) = (if c < 0 then -(c + 1) else c) % (n : Int) := by
    unfold pickL
    have h2 := Int.emod_nonneg (if c < 0 then -(c + 1) else c) (show (n : Int) ≠ 0 by omega)
    omega
  by_cases hc : c < 0
  · rw [if_pos hc] at hp
    have hw : IntKind.i64.wrap (c + 1) = c + 1 := IntWalk.i64_in _ (by omega)
    have HP := Lib.hid hp
    clear hp
    go_enter Tryz.func26, Tryz.ntmps26
    go_wp2_with fail
    go_ret
    refine ⟨ret_int ?_, Q.refl _⟩
    rw [HP.out]
    have h3 : (-(c + 1)).tmod (n : Int) = (-(c + 1)) % (n : Int) := Int.tmod_eq_emod_of_nonneg (by omega)
    rw [← h3, Int.neg_tmod]
  · rw [if_neg hc] at hp
    have HP := Lib.hid hp
    clear hp
    go_enter Tryz.func26, Tryz.ntmps26
    go_wp2_with fail
    go_ret
    refine ⟨ret_int ?_, Q.refl _⟩
    rw [HP.out]
end Go.Proofs.YtcblmcbpnakphaaGreatDoor
end

/- (WOpenS) segment.Open at few bytes: walked. -/
section
namespace Go.Proofs.YtcblmcbpnakphaaGreatDoor
open Go.RowKit
set_option linter.unusedVariables false
set_option maxHeartbeats 2000000 in
theorem Open_short (s : Bytes) (w : World) (hs : s.length < 8) :
    Calls Tryz.prog 29 #[.string ⟨s.toArray⟩] w fun e w' => e = .returned (.tuple #[.pointer none, .int .i64 7]) ∧ Q w w' := by
  have c1 := Tryz.strings_CutPrefix ⟨s.toArray⟩ ⟨#[67, 68, 88, 71]⟩ w
  by_cases hp : Lib.hasPrefix s [67, 68, 88, 71] = true
  · have hl : (Lib.trimPrefix s [67, 68, 88, 71]).length < 4 := by
      unfold Lib.trimPrefix
      rw [if_pos hp, List.length_drop]
      simp; omega
    rw [show Lib.hasPrefix (⟨s.toArray⟩ : ByteArray).data.toList (⟨#[67, 68, 88, 71]⟩ : ByteArray).data.toList = true from hp] at c1
    rw [show Lib.trimPrefix (⟨s.toArray⟩ : ByteArray).data.toList (⟨#[67, 68, 88, 71]⟩ : ByteArray).data.toList = Lib.trimPrefix s [67, 68, 88, 71] from rfl] at c1
    generalize Lib.trimPrefix s [67, 68, 88, 71] = r at *
    have C1 := Lib.hid c1
    clear c1 hp
    go_enter Tryz.func29, Tryz.ntmps29
    go_wp2_with fail
    refine C1.out.mono ?_
    rintro e w1 ⟨rfl, rfl⟩
    go_wp2_with fail
    go_ret2
    exact ⟨rfl, Q.refl _⟩
  · have hp : Lib.hasPrefix s [67, 68, 88, 71] = false := by simpa using hp
    rw [show Lib.hasPrefix (⟨s.toArray⟩ : ByteArray).data.toList (⟨#[67, 68, 88, 71]⟩ : ByteArray).data.toList = false from hp] at c1
    have C1 := Lib.hid c1
    clear c1 hp
    go_enter Tryz.func29, Tryz.ntmps29
    go_wp2_with fail
    refine C1.out.mono ?_
    rintro e w1 ⟨rfl, rfl⟩
    go_wp2_with fail
    go_ret2
    exact ⟨rfl, Q.refl _⟩
end Go.Proofs.YtcblmcbpnakphaaGreatDoor
end
