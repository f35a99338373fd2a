/- Joined texts of one proof: WSegP, WSk5, Places14, Plc. -/
import Derived.Test.YtcflpcpkmhljkaaGreatDoorMWCrcToRange2
import Derived.Test.YtcflpcpkmhljkaaGreatDoorMWPostIToWSegDocs
import Derived.Test.YtcflpcpkmhljkaaGreatDoorMWDictGToWDictX
import Derived.Test.YtcflpcpkmhljkaaGreatDoorMSegRdToWDictPR
import Derived.Test.YtcflpcpkmhljkaaGreatDoorMQryMToWSk1
import Derived.Test.YtcflpcpkmhljkaaGreatDoorMMapsToLive
set_option linter.unusedSimpArgs false
set_option linter.unusedVariables false
set_option linter.unnecessarySimpa false
/- (WSegP) segment's Postings and Terms: walked, at a segment that was built. -/
section
namespace Go.Proofs.YtcflpcpkmhljkaaGreatDoor
open Go.RowKit
set_option linter.unusedVariables false

/-- what tells postings: a function value whose iterator's contract is known in every later world -/
def PostSeq (gf : Nat) (lb : Array Value) (w w' : World) (xs : List PostL) : Prop :=
  (∀ args W, (callFunc gf args).run Tryz.prog W = .ok (.enter gf args) W) ∧ ∃ kp : Nat → Prop, (∀ k, kp k → w.heap.size ≤ k ∧ k < w'.heap.size) ∧
    ∀ W1 n₀, Q w' W1 → n₀ ≤ W1.heap.size → SeqP Tryz.prog gf lb (encP (W1.heap.size + 7)) (fun k => k = W1.heap.size + 1 ∨ k = W1.heap.size + 4) (fun k => kp k ∨ (W1.heap.size ≤ k ∧ k < W1.heap.size + 7)) n₀ xs W1
theorem seqP_keep {α : Type} {P : Program} {g : Nat} {lb : Array Value} {encs : α → World → Array Value → Prop} {own keep keep' : Nat → Prop} {n₀ : Nat} {xs : List α} {W : World} (h : SeqP P g lb encs own keep n₀ xs W) (he : ∀ k, keep k ↔ keep' k) : SeqP P g lb encs own keep' n₀ xs W := by
  rw [show keep' = keep from funext fun k => propext (he k).symm]; exact h
/-- nothing is told -/
theorem PNone_seq (encs : PostL → World → Array Value → Prop) (own keep : Nat → Prop) (n₀ : Nat) (W : World) : SeqP Tryz.prog 162 #[] encs own keep n₀ [] W := by
  intro n l J Jx hJ hJx hY h0
  have H0 := Lib.hid h0
  clear h0 hY
  refine callsIn_of_wp Tryz.func162 rfl trivial ?_ rfl
  simp only [Tryz.ntmps162, List.size_toArray, List.length_cons, List.length_nil, Nat.reduceAdd, Nat.reduceSub, Array.replicate_succ, Array.replicate_zero, List.push_toArray, List.append_toArray, List.nil_append, List.cons_append]
  gi_wp2
  go_end0
  exact ⟨⟨_, rfl⟩, .inl H0.out⟩
theorem docs_dict {l : List DocL} (h : l.length ≤ 500) (hok : docsOk l) : idxS l = dictE (entsL l) ∧ DOk (entsL l) := by
  have hl : ∀ d ∈ l, d.2.length ≤ 2000 := fun d hd => (rightB_len (hok.1 d hd)).2
  refine ⟨idx_dict l h hl, entsL_right l h hl, ?_⟩
  have := termsL_len l h hl
  unfold entsL; rw [List.length_map]; omega
set_option maxRecDepth 100000 in
set_option maxHeartbeats 2000000 in
theorem SegPostings_any (p : Nat) (l : List DocL) (t : Bytes) (doc : Int) (w : World) (hg : SegAt w p l (idxS l)) (hn : l.length ≤ 500) (hok : docsOk l) :
    Calls Tryz.prog 118 #[.pointer (some ⟨p, 0, none⟩), strV t, .int .i64 doc] w fun e w' => (∃ gf lb, e = .returned (.func (.func gf) #[] lb) ∧ PostSeq gf lb w w' (fromP (postsF t l 0) doc)) ∧ Q w w' := by
  obtain ⟨hd, hdo⟩ := docs_dict hn hok
  obtain ⟨v, mb, hseg, _, _⟩ := hg
  have c2 : w.cell? ⟨p, 2, none⟩ = some (strV (idxS l)) := Blk.cell (t := 93) hseg 2 _ rfl
  have cg := DGet_ok (entsL l) t w hdo
  rw [← hd, entsL_find] at cg
  have hpr := docs_posts hn hok t
  generalize idxS l = dx at *
  have HPR := Lib.hid hpr
  by_cases ht : t ∈ termsL l
  · rw [if_pos ht, packL_right _ hpr] at cg
    have CG := Lib.hid cg
    clear cg hd hdo hseg ht hpr
    go_enter Tryz.func118, Tryz.ntmps118
    go_wp2_with fail
    refine CG.out.mono ?_
    rintro e w1 ⟨rfl, q1⟩
    go_wp2_with fail
    refine (PFrom_any _ _ _).mono ?_
    rintro e w2 ⟨rfl, hw2⟩
    go_wp2_with fail
    go_ret
    subst hw2
    have hq2 := (Q.alloc w1 (.cells #[strV (postsE (postsF t l 0))] 9)).trans (Q.alloc _ (.cells #[.int .i64 doc] 3))
    have b1 : Boxed ((w1.alloc (.cells #[strV (postsE (postsF t l 0))] 9)).alloc (.cells #[.int .i64 doc] 3)) w1.heap.size 9 (strV (postsE (postsF t l 0))) := (Boxed.new w1 _ _).alloc _
    have b2 : Boxed ((w1.alloc (.cells #[strV (postsE (postsF t l 0))] 9)).alloc (.cells #[.int .i64 doc] 3)) (w1.heap.size + 1) 3 (.int .i64 doc) := by
      have := Boxed.new (w1.alloc (.cells #[strV (postsE (postsF t l 0))] 9)) 3 (.int .i64 doc)
      simpa using this
    refine ⟨⟨191, _, rfl, enters_of Tryz.func191 (by kernel_rfl) rfl, (fun k => k = w1.heap.size ∨ k = w1.heap.size + 1), (fun k hk => by have := q1.size; simp; omega), ?_⟩, q1.trans hq2⟩
    intro W1 n₀ hq hn0
    exact seqP_keep (PFrom_seq (postsF t l 0) doc w1.heap.size (w1.heap.size + 1) n₀ W1 HPR.out (block_stays' hq b1) (block_stays' hq b2) hn0) (fun k => by rw [or_assoc])
  · rw [if_neg ht] at cg
    have hnil : postsF t l 0 = [] := Classical.byContradiction fun h => ht ((mem_termsL_posts l t).2 h)
    have CG := Lib.hid cg; have HNIL := Lib.hid hnil
    clear cg hd hdo hseg ht hpr HPR hnil
    go_enter Tryz.func118, Tryz.ntmps118
    go_wp2_with fail
    refine CG.out.mono ?_
    rintro e w1 ⟨rfl, q1⟩
    go_wp2_with fail
    go_ret
    refine ⟨⟨162, #[], rfl, enters_of Tryz.func162 (by kernel_rfl) rfl, (fun k => False), (fun k hk => hk.elim), ?_⟩, q1⟩
    intro W1 n₀ hq hn0
    rw [HNIL.out]
    exact PNone_seq _ _ _ _ _
def fstVs (es : List EntryL) : List Value := es.map fun e => strV e.1
set_option maxRecDepth 100000 in
set_option maxHeartbeats 2000000 in
theorem SegTerms_any (p : Nat) (l : List DocL) (pre : Bytes) (w : World) (hg : SegAt w p l (idxS l)) (hn : l.length ≤ 500) (hok : docsOk l) (hp : pre.length ≤ 1000000000) :
    Calls Tryz.prog 110 #[.pointer (some ⟨p, 0, none⟩), strV pre] w fun e w' => ∃ v, e = .returned v ∧ w'.ownsRow w.heap.size 9 1 v ((termsL l).filter (fun t => pre.isPrefixOf t)).length (((termsL l).filter (fun t => pre.isPrefixOf t)).map strV) ∧ Q w w' := by
  obtain ⟨i0, hi, hz0, hz1, hz2⟩ := info_parts (show (Tryz.prog.info? 9).map (fun i => (i.zero, i.size, i.bytes)) = some (some (strV []), 1, 16) by kernel_rfl)
  obtain ⟨hd, hdo⟩ := docs_dict hn hok
  obtain ⟨v, mb, hseg, _, _⟩ := hg
  have c2 : w.cell? ⟨p, 2, none⟩ = some (strV (idxS l)) := Blk.cell (t := 93) hseg 2 _ rfl
  have cg := DPrefix_ok (entsL l) pre w hdo hp
  have hpf := entsL_prefix l pre
  have hlen : ((entsL l).filter (fun e => pre.isPrefixOf e.1)).length ≤ 1048576 := Nat.le_trans (List.length_filter_le _ _) hdo.2
  rw [← hd] at cg
  rw [← hpf]
  generalize idxS l = dx at *
  generalize (entsL l).filter (fun e => pre.isPrefixOf e.1) = es at *
  have CG := Lib.hid cg
  clear cg hd hdo hseg hpf
  go_enter Tryz.func110, Tryz.ntmps110
  go_wp2_with fail
  refine CG.out.mono ?_
  rintro e w1 ⟨v1, rfl, ho, q1⟩
  obtain ⟨a, cap, rfl, hsm⟩ := owns_value ho
  have HO := Lib.hid ho; have HQ1 := Lib.hid q1
  have hww := q1.size
  clear ho q1
  go_wp2_with fail
  obtain ⟨es', hes⟩ : ∃ es', es' = es := ⟨_, rfl⟩
  go_loopw [5, 15] (fun lv i wr => ∃ k : Nat, k ≤ es.length ∧ i = .int .i64 k ∧ Hid (wr.ownsRow w1.heap.size 9 1 lv k (fstVs (es.take k))) ∧ Hid (wr.ownsRow w.heap.size 240 2 (.slice a es.length cap) es.length (pairVs es)) ∧ Hid (Q w wr) ∧ w1.heap.size ≤ wr.heap.size) (fun _ i _ => es.length - (intOf i).toNat)
  case atStart => exact ⟨0, by omega, rfl, World.ownsRow_nil _ _ _ _, HO.out, HQ1.out, Nat.le_refl _⟩
  case round =>
    obtain ⟨k, hk, rfl, HT, HE, HQ, hsz⟩ := hrel
    obtain ⟨wo, rfl⟩ : ∃ wo : World, wo = wr := ⟨_, rfl⟩
    by_cases hlt : k < es.length
    · obtain ⟨g, rfl⟩ := hsm (by omega)
      have hpe := pairVs_at es k hlt
      have x0 := (HE.out.cellAt (k * 2) (by omega)).trans hpe.1
      have x1 := (HE.out.cellAt (k * 2 + 1) (by omega)).trans hpe.2
      have htk : fstVs (es.take (k + 1)) = fstVs (es.take k) ++ [strV es[k].1] := by
        unfold fstVs; rw [List.take_succ_eq_append_getElem hlt, List.map_append]; rfl
      generalize es[k] = e at *
      obtain ⟨t, x⟩ := e
      simp only at x0 x1 htk
      have hT := HT.out.alloc (.cells #[strV t, strV x] 240)
      have hE := HE.out.alloc (.cells #[strV t, strV x] 240)
      have hQ := HQ.out.trans (Q.alloc wo (.cells #[strV t, strV x] 240))
      have hbz : w1.heap.size ≤ (wo.alloc (.cells #[strV t, strV x] 240)).heap.size := by simp; omega
      have HTK := Lib.hid htk; have HE1 := Lib.hid hE; have HQ2 := Lib.hid hQ
      clear htk hpe hE hQ
      go_wp2_with (at_builtin; go_must (refine wpList_app (wo.alloc (.cells #[strV t, strV x] 240)) (by rfl) _ _ 126 (by rfl) w1.heap.size 9 _ i0 (strV []) 1 16 Tryz.underlying126 hi hz0 hz1 hz2 rfl (by decide) (by decide) _ _ _ (by rfl) hT #[strV t] (by simp [Act.eval]) rfl ?c1 ?c2 hbz ?_))
      case c1 => simp [Value.oneCell']
      case c2 => omega
      intro g6 cap6 w6 hown6 hg6 hat6 hlt6 hsz6
      have e6 := row_beside HE1.out hT hg6 (by decide)
      have q6 : Q w w6 := grown_below HQ2.out hT hg6 hww (by omega)
      have hs6 : w1.heap.size ≤ w6.heap.size := Nat.le_trans hbz hg6.size
      rw [show fstVs (es.take k) ++ (#[strV t] : Array Value).toList = fstVs (es.take (k + 1)) from HTK.out.symm] at hown6
      have HO6 := Lib.hid hown6; have HE6 := Lib.hid e6; have HQ6 := Lib.hid q6
      clear hown6 e6 q6 hT hg6 hat6 HT HE HQ HE1 HQ2
      go_wp2_with fail
      go_roundw
      case rel => exact ⟨k + 1, by omega, by go_num, HO6, HE6, HQ6, hs6⟩
      case measure => simp [intOf]; omega
    · have hkk : k = es.length := by omega
      subst hkk
      have ho := HT.out
      rw [List.take_length] at ho
      have HOF := Lib.hid ho
      clear ho
      go_wp2_with fail
      go_ret
      refine ⟨_, rfl, ?_, HQ.out⟩
      rw [List.length_map, List.map_map]
      exact owns_low HOF.out hww
end Go.Proofs.YtcflpcpkmhljkaaGreatDoor
end

/- (WSk5) score.first, term.seek: walked. -/
section
namespace Go.Proofs.YtcflpcpkmhljkaaGreatDoor
open Go.RowKit
set_option linter.unusedVariables false
attribute [local go_sem] Oper.semAt_some

/-- what 'first' tells -/
def FirstEnd (base : Nat) (r : Option PostL) (e : Ending) (w' : World) : Prop := match r with
  | none => e = .returned (.tuple #[.agg #[.int .i64 0, .slice none 0 0], .bool false])
  | some x => ∃ pv, e = .returned (.tuple #[.agg #[.int .i64 x.1, pv], .bool true]) ∧ w'.ownsRow base 3 1 pv x.2.length (intVs x.2)
set_option maxRecDepth 100000 in
set_option maxHeartbeats 4000000 in
theorem First_any (p : Nat) (l : List DocL) (t : Bytes) (doc : Nat) (w : World) (hg : SegAt w p l (idxS l)) (hn : l.length ≤ 500) (hok : docsOk l) :
    Calls Tryz.prog 246 #[.pointer (some ⟨p, 0, none⟩), strV t, .int .i64 (doc : Nat)] w fun e w' => FirstEnd w.heap.size (firstP t l doc) e w' ∧ Q w w' := by
  have hpr := docs_posts hn hok t
  have hsm := (posts_small _ hpr).1
  have hfl : (fromP (postsF t l 0) (doc : Int)).length ≤ 500 := Nat.le_trans (List.length_filter_le _ _) hsm
  have hxne : ∀ x ∈ fromP (postsF t l 0) (doc : Int), x.2 ≠ [] := fun x hx => ((posts_small _ hpr).2.1 x (List.mem_filter.1 hx).1).2.1
  have c := fun w hg => SegPostings_any p l t (doc : Int) w hg hn hok
  unfold firstP
  have C := Lib.hid c; have HG := Lib.hid hg; have HXN := Lib.hid hxne
  generalize fromP (postsF t l 0) (doc : Int) = xs at *
  clear c hg hpr hsm hxne
  refine (callsIn_wide (n := 0)).1 ?_
  refine callsIn_of_wp_marks Tryz.func246 rfl trivial ?_ rfl
  simp only [Tryz.ntmps246, List.size_toArray, List.length_cons, List.length_nil, Nat.reduceAdd, Nat.reduceSub, Array.replicate_succ, Array.replicate_zero, List.push_toArray, List.append_toArray, List.nil_append, List.cons_append]
  gi_wp2_with fail
  refine ⟨trivial, rfl, (callsIn_wide.2 (C.out _ (HG.out.stays ((Q.alloc _ _).trans (Q.alloc _ _))))).mono ?_⟩
  rintro e w1 ⟨⟨gf, lb, rfl, hen, kp, hkp, hseq⟩, q1⟩
  have b1 : Blk w1 w.heap.size 211 #[.int .i64 0, .slice none 0 0] := ((Blk.new w _ _).alloc _).stays q1
  have b2 : Boxed w1 (w.heap.size + 1) 4 (.bool false) := block_stays' q1 (by have := Boxed.new (w.alloc (.cells #[.int .i64 0, .slice none 0 0] 211)) 4 (.bool false); rw [World.size_alloc] at this; exact this)
  have hq1 := ((Q.alloc w _).trans (Q.alloc _ _)).trans q1
  have hB := hq1.size
  have hs1 := q1.size
  simp only [World.size_alloc] at hs1 hkp
  clear q1 C HG
  have HB1 := Lib.hid b1; have HB2 := Lib.hid b2; have HQ1 := Lib.hid hq1; have HSEQ := Lib.hid hseq; have HKP := Lib.hid hkp; have HEN := Lib.hid hen
  clear b1 b2 hq1 hseq hkp hen
  gi_wp2_with fail
  refine wpIn_act (fun A0 hA0 => ?_)
  refine wp_rangeP (gf := gf) (lb := lb) (by rw [hA0]; rfl) HEN.out (encs := encP (w1.heap.size + 2 + 7)) (own := fun k => k = w1.heap.size + 2 + 1 ∨ k = w1.heap.size + 2 + 4) (keep := fun k => kp k ∨ (w1.heap.size + 2 ≤ k ∧ k < w1.heap.size + 2 + 7)) (n₀ := w.heap.size) (xs := xs)
    (fun W1 hq hz => by
      have h := HSEQ.out W1 w.heap.size hq (by omega)
      rw [hz] at h
      exact h)
    (fun k h => by omega) (fun k h => by rcases h with h | h; · have := HKP.out k h; omega
                                         · omega) (by omega) (fun x W1 args h => by obtain ⟨v, rfl, _⟩ := h; rfl)
    (fun k W => k = 0 ∧ Blk W w.heap.size 211 #[.int .i64 0, .slice none 0 0] ∧ Boxed W (w.heap.size + 1) 4 (.bool false) ∧ Below w.heap.size w W)
    (fun c k W => c = .ret ∧ (∃ (x : PostL) (pv : Value), xs.head? = some x ∧ Blk W w.heap.size 211 #[.int .i64 x.1, pv] ∧ Boxed W (w.heap.size + 1) 4 (.bool true) ∧ W.ownsRow (w1.heap.size + 9) 3 1 pv x.2.length (intVs x.2)) ∧ Below w.heap.size w W)
    (fun k a' W => ∃ (x : PostL) (pv : Value) (B : Nat), xs[k]? = some x ∧ a' = { tmps := (A0.tmps.setIfInBounds 13 (.agg #[.int .i64 x.1, pv])).setIfInBounds 8 (.pointer (some ⟨B, 0, none⟩)), defers := [] } ∧ Blk W B 211 #[.int .i64 x.1, pv] ∧ W.ownsRow (w1.heap.size + 9) 3 1 pv x.2.length (intVs x.2) ∧ w1.heap.size + 9 ≤ B)
    ?hI ?hIx ?hAx ?h0 ?assign ?body ?done ?stop
  case hI =>
    rintro k A B ⟨h0, h1, h2, h3⟩ hi
    exact ⟨h0, hi.get h1 (by omega), hi.boxed h2 (by omega), hi.below h3 (by omega) h3.size (fun k h => by omega)⟩
  case hIx =>
    rintro c k A B ⟨h0, ⟨x, pv, h1, h2, h3, h4⟩, h5⟩ hi
    exact ⟨h0, ⟨x, pv, h1, hi.get h2 (by omega), hi.boxed h3 (by omega), hi.owns h4 (fun g hg => by have := (h4.lt g hg).1; omega)⟩, hi.below h5 (by omega) h5.size (fun k h => by omega)⟩
  case hAx =>
    rintro k a' A C ⟨x, v, B, h1, h2, h3, h4, h5⟩ hi
    exact ⟨x, v, B, h1, h2, hi.get h3 (by omega), hi.owns h4 (fun g hg => by have := (h4.lt g hg).1; omega), h5⟩
  case h0 => exact ⟨rfl, HB1.out, HB2.out, HQ1.out⟩
  case assign =>
    intro l' k hk W' args K hi henc hz hK
    obtain ⟨v, rfl, ho⟩ := henc
    obtain ⟨a, cap, rfl, hsm⟩ := owns_value ho
    have hB9 : w1.heap.size + 9 ≤ W'.heap.size := by
      obtain ⟨g, rfl⟩ := hsm (List.length_pos_iff.2 (HXN.out _ (List.getElem_mem hk)))
      have := ho.lt g rfl
      omega
    obtain ⟨h1, h2, h3, h4⟩ := hi
    have hq := Q.alloc W' (.cells #[.int .i64 xs[k].1, .slice a xs[k].2.length cap] 211)
    have hm := Blk.new W' 211 #[.int .i64 xs[k].1, .slice a xs[k].2.length cap]
    have g3 : Boxed _ (w.heap.size + 1) 4 (.bool false) := block_stays' hq h3
    have G1 := Lib.hid hq; have G2 := Lib.hid (h2.stays hq); have G3 := Lib.hid g3; have G4 := Lib.hid (h4.trans (Below.mono hq h4.size)); have GM := Lib.hid hm; have GO := Lib.hid (ownsRow_below ho hq); have G0 := Lib.hid h1
    have HK := Lib.hid hK
    subst hA0
    clear hq hm ho h1 h2 h3 h4 hK g3
    gi_wp2
    refine HK.out _ _ G1.out ⟨G0.out, G2.out, G3.out, G4.out⟩ ⟨xs[k], .slice a xs[k].2.length cap, W'.heap.size, List.getElem?_eq_getElem hk, ?_, GM.out, GO.out, by omega⟩
    rfl
  case body =>
    rintro l' k hk a' W' ⟨⟨rc, hrc⟩, hdf⟩ hl ⟨rfl, h1, h2, h3⟩ ⟨x, pv, B, hx, rfl, hm, ho, hB⟩ hkb hz
    subst hA0
    obtain ⟨m0, m1, _⟩ := hm.c2
    obtain ⟨r0, r1, f0, f1⟩ := h1.c2
    have c2 := h2.cell; have f2 := h2.frozen
    obtain ⟨a, cap, rfl, hsm⟩ := owns_value ho
    have hhd : xs.head? = some x := by rw [List.head?_eq_getElem?]; exact hx
    have hnW := h3.size
    have hkb7 : w1.heap.size + 2 + 7 ≤ W'.heap.size := by have := hkb (w1.heap.size + 2 + 6) (.inr ⟨by omega, by omega⟩); omega
    have H1 := Lib.hid h1; have H2 := Lib.hid h2; have H3 := Lib.hid h3; have HM := Lib.hid hm; have HO := Lib.hid ho; have HHD := Lib.hid hhd
    clear h1 h2 h3 hm ho hrc hdf hkb hx hhd
    simp only [List.setIfInBounds_toArray, List.set_cons_succ, List.set_cons_zero]
    gi_wp2_with fail
    have e1 : Blk W' (w.heap.size + 1) 4 #[.bool false] := H2.out
    refine ⟨((Bk.setCell _ (by simp) ?_ _).trans (Bk.setCell _ (by simp) ?_ _)).trans (Bk.setCell _ (by simp) ?_ _), rfl, ⟨x, .slice a x.2.length cap, HHD.out, ?_, ?_, ?_⟩, ((H3.out.setCell (by simp) _).setCell (by simp) _).setCell (by simp) _⟩
    · rintro ((h | h) | h)
      · have h := HKP.out _ h; simp at h; omega
      · simp at h; omega
      · simp at h; omega
    · rintro ((h | h) | h)
      · have h := HKP.out _ h; simp at h; omega
      · simp at h; omega
      · simp at h; omega
    · rintro ((h | h) | h)
      · have h := HKP.out _ h; simp at h; omega
      · simp at h; omega
      · simp at h; omega
    · exact (((H1.out.set 0 _).set 1 _).other ⟨w.heap.size + 1, 0, none⟩ _ (by simp))
    · exact ((e1.other ⟨w.heap.size, 0, none⟩ _ (by simp)).other ⟨w.heap.size, 1, none⟩ _ (by simp)).set 0 _
    · exact ownsRow_setCell_below (ownsRow_setCell_below (ownsRow_setCell_below HO.out (by simp; omega) _) (by simp; omega) _) (by simp; omega) _
  case done =>
    rintro D W' hD hz ⟨h0, h1, h2, h3⟩ hK
    have hnil : xs = [] := List.eq_nil_of_length_eq_zero h0
    subst hnil
    obtain ⟨r0, r1, f0, f1⟩ := h1.c2
    have c2 := h2.cell; have f2 := h2.frozen
    have H1 := Lib.hid h1; have H2 := Lib.hid h2; have H3 := Lib.hid h3; have HK := Lib.hid hK
    subst hA0
    clear h1 h2 h3 hK h0
    gi_wp2_with fail
    have hK3 : (((W'.setCell ⟨w.heap.size, 0, none⟩ (.int .i64 0)).setCell ⟨w.heap.size, 1, none⟩ (.slice none 0 0)).setCell ⟨w.heap.size + 1, 0, none⟩ (.bool false)).heap[D]? = some (.deferred (some [])) := by
      rw [Below.heap_setCell _ _ _ _ (by simp; omega), Below.heap_setCell _ _ _ _ (by simp; omega), Below.heap_setCell _ _ _ _ (by simp; omega)]; exact HK.out
    have e1 : Blk W' (w.heap.size + 1) 4 #[.bool false] := H2.out
    have k1 := (((H1.out.set 0 (.int .i64 0)).set 1 (.slice none 0 0)).other ⟨w.heap.size + 1, 0, none⟩ (.bool false) (by simp))
    have k2 := ((e1.other ⟨w.heap.size, 0, none⟩ (.int .i64 0) (by simp)).other ⟨w.heap.size, 1, none⟩ (.slice none 0 0) (by simp)).set 0 (.bool false)
    have hbl : Below w.heap.size w (((W'.setCell ⟨w.heap.size, 0, none⟩ (.int .i64 0)).setCell ⟨w.heap.size, 1, none⟩ (.slice none 0 0)).setCell ⟨w.heap.size + 1, 0, none⟩ (.bool false)) := ((H3.out.setCell (by simp) _).setCell (by simp) _).setCell (by simp) _
    generalize ((W'.setCell ⟨w.heap.size, 0, none⟩ (.int .i64 0)).setCell ⟨w.heap.size, 1, none⟩ (.slice none 0 0)).setCell ⟨w.heap.size + 1, 0, none⟩ (.bool false) = W3 at *
    refine ⟨by simp, .inl ⟨_, _, rfl, run_takeDeferred hK3, ?_⟩⟩
    have hp : Itk (fun _ => False) w.heap.size W3 (W3.putObj D (.deferred none)) := Itk.put _ hK3 rfl (by omega)
    have hb2 := hp.below hbl (Nat.le_refl _) hbl.size (fun _ h => h.elim)
    obtain ⟨z0, z1, _⟩ := Blk.c2 (Cs.blk hp k1)
    have z2 := Blk.cell (Cs.blk hp k2) 0 _ rfl
    refine ⟨.tuple #[.agg #[.int .i64 0, .slice none 0 0], .bool false], ?_, rfl, hb2⟩
    simp [results, Tryz.results246, go_sem, z0, z1, z2]
  case stop =>
    rintro D c k W' hD hk ⟨rfl, ⟨x, pv, h1, h2, h3, h4⟩, h5⟩ hK
    obtain ⟨r0, r1, f0, f1⟩ := h2.c2
    have c2 := h3.cell; have f2 := h3.frozen
    have H1 := Lib.hid h1; have H2 := Lib.hid h2; have H3 := Lib.hid h3; have HK := Lib.hid hK; have H4 := Lib.hid h4; have H5 := Lib.hid h5
    subst hA0
    clear h1 h2 h3 hK h4 h5
    gi_wp2_with fail
    refine ⟨by simp, .inl ⟨_, _, rfl, run_takeDeferred HK.out, ?_⟩⟩
    have hp : Itk (fun _ => False) w.heap.size W' (W'.putObj D (.deferred none)) := Itk.put _ HK.out rfl (by omega)
    have hb2 := hp.below H5.out (Nat.le_refl _) H5.out.size (fun _ h => h.elim)
    obtain ⟨z0, z1, _⟩ := Blk.c2 (Cs.blk hp H2.out)
    have z2 := (hp.boxed H3.out (fun h => h)).cell
    have ho := owns_low (base' := w.heap.size) (hp.owns H4.out (fun _ _ h => h)) (by omega)
    refine ⟨.tuple #[.agg #[.int .i64 x.1, pv], .bool true], ?_, ?_, hb2⟩
    · simp [results, Tryz.results246, go_sem, z0, z1, z2]
    · rw [H1.out]; exact ⟨pv, rfl, ho⟩
set_option maxRecDepth 100000 in
set_option maxHeartbeats 4000000 in
theorem Term_any (p : Nat) (l : List DocL) (t : Bytes) (doc : Nat) (w : World) (hg : SegAt w p l (idxS l)) (hn : l.length ≤ 500) (hok : docsOk l) :
    Calls Tryz.prog 251 #[.agg #[.pointer (some ⟨p, 0, none⟩), strV t], .int .i64 (doc : Nat)] w fun e w' => SeekEnd (termF l t) doc e ∧ Q w w' := by
  have c := fun W hg => First_any p l t doc W hg hn hok
  have hx := next_term t l doc
  have hone : ∀ x, firstP t l doc = some x → _ := fun x h => firstP_some h
  have C := Lib.hid c; have HG := Lib.hid hg; have HX := Lib.hid hx; have HONE := Lib.hid hone
  clear c hg hx hn hok hone
  generalize firstP t l doc = r at *
  go_enter Tryz.func251, Tryz.ntmps251
  go_wp2_with fail
  refine (C.out _ (HG.out.stays (Q.alloc _ _))).mono ?_
  rintro e w1 ⟨hf, q1⟩
  have hq1 := (Q.alloc _ _).trans q1
  cases r with
  | none =>
    simp only [FirstEnd] at hf
    subst hf
    have HQ1 := Lib.hid hq1
    clear hq1 q1 C HONE
    have KK := (Blk.new w1 211 #[.int .i64 0, .slice none 0 0]).c2
    obtain ⟨z0, z1, _⟩ := KK
    go_wp2_with fail
    go_quiet (fail)
    go_wp2_with fail
    go_ret3
    exact ⟨SeekEnd.no (d := 0) (s := 0) rfl HX.out, by first | exact (HQ1.out.trans (Q.alloc _ _)).trans (Q.drewN _ _) | exact HQ1.out.trans (Q.alloc _ _)⟩
  | some x =>
    obtain ⟨pv, rfl, ho⟩ := hf
    obtain ⟨k, d, _, rfl, _⟩ := HONE.out _ rfl
    obtain ⟨a, cap, rfl, _⟩ := owns_value ho
    have HQ1 := Lib.hid hq1
    clear hq1 q1 C HONE ho
    simp only [Option.map_some, Int.toNat_natCast] at HX
    generalize placesIn d.2 t = pl at *
    obtain ⟨z0, z1, _⟩ := (Blk.new w1 211 #[.int .i64 (k : Nat), .slice a pl.length cap]).c2
    go_wp2_with fail
    go_quiet (fail)
    go_wp2_with fail
    go_ret3
    exact ⟨SeekEnd.yes (d := k) (s := pl.length) rfl HX.out, by first | exact (HQ1.out.trans (Q.alloc _ _)).trans (Q.drewN _ _) | exact HQ1.out.trans (Q.alloc _ _)⟩
end Go.Proofs.YtcflpcpkmhljkaaGreatDoor
end

/- (Places14) Plain: all terms' postings together are the documents' words (SegmentPlaces). No program in sight. -/
section
namespace Go.Proofs.YtcflpcpkmhljkaaGreatDoor
set_option linter.unusedVariables false

def sumL : List Nat → Nat
  | [] => 0
  | x :: xs => x + sumL xs
theorem sumL_append (a b : List Nat) : sumL (a ++ b) = sumL a + sumL b := by
  induction a with
  | nil => simp [sumL]
  | cons x a ih => rw [List.cons_append, sumL, sumL, ih]; omega
theorem sumL_add {α : Type} (l : List α) (f g : α → Nat) : sumL (l.map fun x => f x + g x) = sumL (l.map f) + sumL (l.map g) := by
  induction l with
  | nil => rfl
  | cons x l ih => simp only [List.map_cons, sumL, ih]; omega
theorem sumL_zero {α : Type} (l : List α) : sumL (l.map fun _ => 0) = 0 := by
  induction l with
  | nil => rfl
  | cons x l ih => simp only [List.map_cons, sumL, ih]
theorem sumL_congr {α : Type} (l : List α) (f g : α → Nat) (h : ∀ x ∈ l, f x = g x) : sumL (l.map f) = sumL (l.map g) := by
  rw [List.map_congr_left h]
/-- the places of all postings of a term -/
def placesP (ps : List PostL) : Nat := sumL (ps.map fun p => p.2.length)
theorem placesP_posts (t : Bytes) (l : List DocL) (i : Nat) : placesP (postsF t l i) = sumL (l.map fun d => (placesIn d.2 t).length) := by
  induction l generalizing i with
  | nil => rfl
  | cons d l ih =>
    rw [postsF, List.map_cons, sumL, ← ih (i + 1)]
    split
    · rename_i h; rw [h]; simp
    · rfl
theorem one_term (ts : List Bytes) (t : Bytes) (hn : ts.Nodup) (hm : t ∈ ts) : sumL (ts.map fun u => if t = u then 1 else 0) = 1 := by
  induction ts with
  | nil => simp at hm
  | cons u ts ih =>
    obtain ⟨h1, h2⟩ := List.nodup_cons.1 hn
    rw [List.map_cons, sumL]
    by_cases h : t = u
    · subst h
      rw [if_pos rfl, sumL_congr ts _ (fun _ => 0) (fun x hx => if_neg (by intro e; subst e; exact h1 hx)), sumL_zero]
    · rw [if_neg h, ih h2 (by simpa [h] using hm)]
theorem tokens_places (toks : List (Bytes × Nat)) (ts : List Bytes) (hn : ts.Nodup) (hm : ∀ x ∈ toks, x.1 ∈ ts) : sumL (ts.map fun t => (toks.filterMap fun x => if x.1 = t then some (x.2 : Int) else none).length) = toks.length := by
  induction toks with
  | nil => simp only [List.filterMap_nil, List.length_nil]; exact sumL_zero ts
  | cons x toks ih =>
    have e : (fun t : Bytes => ((x :: toks).filterMap fun x => if x.1 = t then some (x.2 : Int) else none).length) = fun t => (if x.1 = t then 1 else 0) + (toks.filterMap fun x => if x.1 = t then some (x.2 : Int) else none).length := by
      funext t
      rw [List.filterMap_cons]
      by_cases h : x.1 = t
      · simp [h]; omega
      · simp [h]
    rw [e, sumL_add, ih (fun y hy => hm y (by simp [hy])), one_term ts x.1 hn (hm x (by simp)), List.length_cons]
    omega
theorem sumL_swap {α β : Type} (a : List α) (b : List β) (f : α → β → Nat) : sumL (a.map fun x => sumL (b.map fun y => f x y)) = sumL (b.map fun y => sumL (a.map fun x => f x y)) := by
  induction a with
  | nil => simp only [List.map_nil, sumL]; exact (sumL_zero b).symm
  | cons x a ih =>
    rw [List.map_cons, sumL, ih, ← sumL_add]
    rfl
/-- the law -/
theorem places_all (l : List DocL) : sumL ((termsL l).map fun t => placesP (postsF t l 0)) = sumL (l.map fun d => (tokensL d.2).length) := by
  have hn : (termsL l).Nodup := (termsL_rise l).imp (fun h e => by subst e; exact absurd h (List.lt_irrefl _))
  rw [sumL_congr _ _ (fun t => sumL (l.map fun d => (placesIn d.2 t).length)) (fun t _ => placesP_posts t l 0), sumL_swap]
  refine sumL_congr l _ _ (fun d hd => ?_)
  exact tokens_places (tokensL d.2) (termsL l) hn (fun x hx => (mem_termsL l x.1).2 (List.mem_flatMap.2 ⟨d, hd, List.mem_map.2 ⟨x, hx, rfl⟩⟩))
end Go.Proofs.YtcflpcpkmhljkaaGreatDoor
end

/- (Plc) Plain: where the live documents of parts stand (live.places, live.docs). No program in sight. -/
section
namespace Go.Proofs.YtcflpcpkmhljkaaGreatDoor
set_option linter.unusedVariables false

abbrev PlL := List (Bytes × (Nat × Nat))
def plIn (p : PartL) (i : Nat) (m : PlL) : Nat → PlL
  | 0 => m
  | k + 1 => if bit p.2 k then plIn p i m k else putM (p.1.getD k ([], [])).1 (i, k) (plIn p i m k)
def plTo (ps : List PartL) : Nat → PlL
  | 0 => []
  | i + 1 => plIn (ps.getD i ([], [])) i (plTo ps i) (ps.getD i ([], [])).1.length
def plAll (ps : List PartL) : PlL := plTo ps ps.length
def docAt (ps : List PartL) (a : Nat × Nat) : DocL := (ps.getD a.1 ([], [])).1.getD a.2 ([], [])
theorem putM_mapP {α β : Type} (f : α → β) (k : Bytes) (v : α) (m : List (Bytes × α)) : (putM k v m).map (fun x => (x.1, f x.2)) = putM k (f v) (m.map (fun x => (x.1, f x.2))) := by
  induction m with
  | nil => rfl
  | cons x m ih =>
    by_cases h : x.1 = k
    · simp [putM, h]
    · simp only [putM, h, if_false, List.map_cons, ih]
theorem mem_put {α : Type} (k : Bytes) (v : α) (m : List (Bytes × α)) (x : Bytes × α) (h : x ∈ putM k v m) : x = (k, v) ∨ x ∈ m := by
  induction m with
  | nil => simpa [putM] using h
  | cons y m ih =>
    by_cases hy : y.1 = k
    · simp only [putM, hy, if_true, List.mem_cons] at h
      rcases h with h | h
      · exact .inl h
      · exact .inr (List.mem_cons_of_mem _ h)
    · simp only [putM, hy, if_false, List.mem_cons] at h
      rcases h with h | h
      · exact .inr (by rw [h]; exact List.mem_cons_self)
      · exact (ih h).imp id (List.mem_cons_of_mem _)
theorem liveF_snoc (g : Bytes) (l : List DocL) (d : DocL) (k : Nat) : liveF g (l ++ [d]) k = liveF g l k ++ (if bit g (k + l.length) then [] else [d]) := by
  induction l generalizing k with
  | nil => simp only [List.nil_append, liveF, List.length_nil, Nat.add_zero]
  | cons x l ih =>
    rw [List.cons_append, liveF, liveF, ih, List.length_cons, show k + 1 + l.length = k + (l.length + 1) by omega]
    by_cases hb : bit g k = true
    · simp only [hb, if_true]
    · simp only [hb, if_false, List.cons_append]; rfl
/-- each entry stands where it says -/
def PlOk (ps : List PartL) (n k : Nat) (m : PlL) : Prop := ∀ x ∈ m, (x.2.1 < n ∨ x.2.1 = n ∧ x.2.2 < k) ∧ x.2.2 < (ps.getD x.2.1 ([], [])).1.length ∧ (docAt ps x.2).1 = x.1
theorem plIn_ok (ps : List PartL) (i : Nat) (m : PlL) (h : PlOk ps i 0 m) (k : Nat) (hk : k ≤ (ps.getD i ([], [])).1.length) : PlOk ps i k (plIn (ps.getD i ([], [])) i m k) := by
  induction k with
  | zero => exact h
  | succ k ih =>
    have ih := ih (by omega)
    unfold plIn
    split
    · intro x hx
      obtain ⟨a, b, c⟩ := ih x hx
      exact ⟨by omega, b, c⟩
    · intro x hx
      rcases mem_put _ _ _ _ hx with rfl | hx
      · exact ⟨.inr ⟨rfl, by simp⟩, by simp only; omega, rfl⟩
      · obtain ⟨a, b, c⟩ := ih x hx
        exact ⟨by omega, b, c⟩
theorem plTo_ok (ps : List PartL) (n : Nat) : PlOk ps n 0 (plTo ps n) := by
  induction n with
  | zero => intro x hx; cases hx
  | succ n ih =>
    intro x hx
    obtain ⟨a, b, c⟩ := plIn_ok ps n _ ih _ (Nat.le_refl _) x hx
    exact ⟨by omega, b, c⟩
abbrev textsM (ps : List PartL) (m : PlL) : List DocL := m.map fun x => (x.1, (docAt ps x.2).2)
theorem plIn_texts (ps : List PartL) (i : Nat) (m : PlL) (k : Nat) (hk : k ≤ (ps.getD i ([], [])).1.length) :
    textsM ps (plIn (ps.getD i ([], [])) i m k) = (liveF (ps.getD i ([], [])).2 ((ps.getD i ([], [])).1.take k) 0).foldl (fun m d => putM d.1 d.2 m) (textsM ps m) := by
  induction k with
  | zero => simp [plIn, liveF]
  | succ k ih =>
    have hlt : k < (ps.getD i ([], [])).1.length := by omega
    rw [List.take_succ_eq_append_getElem hlt, liveF_snoc, List.foldl_append, ← ih (by omega), List.length_take, Nat.min_eq_left (by omega), Nat.zero_add, plIn]
    by_cases hb : bit (ps.getD i ([], [])).2 k = true
    · rw [if_pos hb, if_pos hb]; rfl
    · rw [if_neg hb, if_neg hb]
      unfold textsM
      rw [putM_mapP (fun a : Nat × Nat => (docAt ps a).2)]
      have e : (ps.getD i ([], [])).1.getD k ([], []) = (ps.getD i ([], [])).1[k] := by rw [List.getD_eq_getElem?_getD, List.getElem?_eq_getElem hlt]; rfl
      simp only [docAt, e, List.foldl_cons, List.foldl_nil]
theorem plTo_texts (ps : List PartL) (n : Nat) (hn : n ≤ ps.length) : textsM ps (plTo ps n) = liveM (ps.take n) := by
  induction n with
  | zero => rfl
  | succ n ih =>
    have hlt : n < ps.length := by omega
    have e : ps.getD n ([], []) = ps[n] := by rw [List.getD_eq_getElem?_getD, List.getElem?_eq_getElem hlt]; rfl
    rw [plTo, plIn_texts _ _ _ _ (Nat.le_refl _), ih (by omega), List.take_length, List.take_succ_eq_append_getElem hlt]
    unfold liveM
    rw [liveL_append, List.foldl_append, e]
    simp [liveL, liveOf]
theorem plAll_texts (ps : List PartL) : textsM ps (plAll ps) = liveM ps := by
  have := plTo_texts ps ps.length (Nat.le_refl _)
  rwa [List.take_length] at this
theorem plAll_length (ps : List PartL) : (plAll ps).length = (liveM ps).length := by rw [← plAll_texts]; simp
theorem plAll_keys (ps : List PartL) : (plAll ps).map (·.1) = (liveM ps).map (·.1) := by
  rw [← plAll_texts, List.map_map]; rfl
theorem getM_mapP {α β : Type} (f : α → β) (k : Bytes) (m : List (Bytes × α)) : getM k (m.map (fun x => (x.1, f x.2))) = (getM k m).map f := by
  induction m with
  | nil => rfl
  | cons x m ih =>
    by_cases h : x.1 = k
    · simp [getM, h]
    · simp [getM, h, ih]
theorem getM_in {α : Type} (k : Bytes) (v : α) (m : List (Bytes × α)) (h : getM k m = some v) : (k, v) ∈ m := by
  induction m with
  | nil => cases h
  | cons x m ih =>
    by_cases hx : x.1 = k
    · simp only [getM, hx, if_true, Option.some.injEq] at h
      rw [← hx, ← h]; exact List.mem_cons_self
    · simp only [getM, hx, if_false] at h
      exact List.mem_cons_of_mem _ (ih h)
/-- the documents by their IDs: where they stand -/
theorem docsL_places (ps : List PartL) : docsL ps = (((plAll ps).map (·.1)).mergeSort leB).map fun id => docAt ps ((getM id (plAll ps)).getD (0, 0)) := by
  unfold docsL
  rw [plAll_keys]
  refine List.map_congr_left fun id hid => ?_
  have hin : id ∈ (liveM ps).map (·.1) := by simpa using hid
  rw [← plAll_keys] at hin
  have hs := getM_some id (plAll ps)
  rw [decide_eq_true hin] at hs
  obtain ⟨a, ha⟩ := Option.isSome_iff_exists.1 hs
  have hok := (plTo_ok ps ps.length (id, a) (getM_in _ _ _ ha)).2.2
  rw [← plAll_texts, getM_mapP (fun a : Nat × Nat => (docAt ps a).2), ha]
  simp only [Option.map_some, Option.getD_some]
  exact Prod.ext hok.symm rfl
theorem plAll_get (ps : List PartL) (id : Bytes) (hin : id ∈ (plAll ps).map (·.1)) : ∃ a, getM id (plAll ps) = some a ∧ a.1 < ps.length ∧ a.2 < (ps.getD a.1 ([], [])).1.length := by
  have hs := getM_some id (plAll ps)
  rw [decide_eq_true hin] at hs
  obtain ⟨a, ha⟩ := Option.isSome_iff_exists.1 hs
  obtain ⟨h1, h2, _⟩ := plTo_ok ps ps.length (id, a) (getM_in _ _ _ ha)
  exact ⟨a, ha, by simp only at h1; omega, h2⟩
theorem plIn_length (p : PartL) (i : Nat) (m : PlL) (k : Nat) : (plIn p i m k).length ≤ m.length + k := by
  induction k with
  | zero => exact Nat.le_refl _
  | succ k ih =>
    unfold plIn
    split
    · omega
    · have : ∀ (a : Bytes) (v : Nat × Nat) (m : PlL), (putM a v m).length ≤ m.length + 1 := by
        intro a v m
        induction m with
        | nil => simp [putM]
        | cons x m ih => by_cases h : x.1 = a <;> simp [putM, h]; omega
      have := this (p.1.getD k ([], [])).1 (i, k) (plIn p i m k)
      omega
end Go.Proofs.YtcflpcpkmhljkaaGreatDoor
end
