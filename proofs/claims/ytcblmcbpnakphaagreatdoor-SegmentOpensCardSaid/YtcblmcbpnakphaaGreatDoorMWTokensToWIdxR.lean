/- Joined texts of one proof: WTokens, WPostA, WPostB, WIdxR. -/
import Derived.Test.YtcblmcbpnakphaaGreatDoorMWVarsToBld2
import Derived.Test.YtcblmcbpnakphaaGreatDoorMWWordsRToWStop
import Derived.OneCell
import Derived.Test.YtcblmcbpnakphaaGreatDoorProg
import Derived.Test.YtcblmcbpnakphaaGreatDoorMKitToSegSpec
import Derived.Test.YtcblmcbpnakphaaGreatDoorMTokToWDictR
import Derived.WalkKit
import Derived.WalkSpells
import Derived.WalkLawsBesides
import Derived.Outline
import Derived.Deep.DeepMust
import Derived.Deep.RegionHeld3
import Derived.Deep.AppendLies
set_option linter.unusedSimpArgs false
set_option linter.unusedVariables false
set_option linter.unnecessarySimpa false
/- (WTokens) token.Tokens: walked. -/
section
namespace Go.Proofs.YtcblmcbpnakphaaGreatDoor
open Go.RowKit
set_option linter.unusedVariables false
attribute [local go_sem] Oper.semAt_some

theorem wpListIn_appN {F : Fence} {n' : Nat} {P : Program} (W : World) {ops : Array Oper} {rest : List Oper} {o : Oper} {a : Act} {Q : Exit → Act → World → Prop} (hgd : o.guard = none) (s x : Operand) (t : TypeId)
    (ho : o.op = .call { callee := .builtin .append, args := #[s, x], argTypes := #[t, t] })
    (base : Nat) (e e' : TypeId) (i : TypeInfo) (z : Value) (size bytes : Nat) (ht : P.underlying t = some (.slice e)) (hi : P.info? e = some i) (hz : i.zero = some z)
    (hsize : i.size = size) (hby : i.bytes = bytes) (hzs : z.cells.size = size) (hsz : 0 < size) (hbz : 0 < bytes)
    (v : Value) (n : Nat) (xs : List Value) (hs : a.eval s = v) (hown : W.ownsRow base e size v n xs)
    (m : Nat) (hm : 0 < m) (news : Array Value) (hx : a.eval x = .slice (some ⟨W.heap.size, 0, none⟩) m m) (hl : news.size = m * size) (h1 : ∀ u ∈ news.toList, u.oneCell' = true)
    (hb : (n + m) * bytes ≤ 140737488355328) (hbase : base ≤ W.heap.size)
    (h : ∀ g cap w', w'.ownsRow base e size (.slice (some ⟨g, 0, none⟩) (n + m) cap) (n + m) (xs ++ news.toList) → W.grownBy w' v.ownBlock → (v.ownBlock = some g ∨ W.heap.size < g) → g < w'.heap.size → W.heap.size < w'.heap.size →
      wpListIn F n' P ops Q rest (a.put o.dst (.slice (some ⟨g, 0, none⟩) (n + m) cap)) w') : wpListIn F n' P ops Q (o :: rest) a (W.alloc (.cells news e')) := by
  obtain ⟨g, cap, w', hr, h2, h3, h4, h5, h6⟩ := run_appN (P := P) W t o.type base e e' i z size bytes ht hi hz hsize hby hzs hsz hbz v n xs hown m hm news hl h1 hb hbase
  refine wpListIn_plain hgd fun _ hK => ?_
  unfold Oper.wpIn
  refine ⟨?_, ?_⟩
  · simp [Oper.about, ho, resolve, Target.leads, Sem.run_pure]
  · rw [Oper.semAt_plain F _ _ (by rw [ho]; intro c hc'; cases hc')]
    unfold execOp
    simp only [ho, resolve, invoke, builtin, Sem.run_bind, Sem.run_pure, Result.andThen_ok, List.map_toArray, List.map_cons, List.map_nil, hs, hx, hr]
    exact hK _ _ (h g cap w' h2 h3 h4 h5 h6)

/-! ### plain -/
theorem wordsF_len (cs : List (Int × Bytes)) (st : Option Bytes) : (wordsF cs st).flatten.length ≤ (st.getD []).length + (cs.flatMap (·.2)).length ∧ (wordsF cs st).length ≤ cs.length + 1 := by
  induction cs generalizing st with
  | nil => cases st <;> simp [wordsF]
  | cons c cs ih =>
    cases st with
    | none =>
      rw [wordsF]
      split
      · have := ih (some c.2); simp at this ⊢; omega
      · have := ih none; simp at this ⊢; omega
    | some w =>
      rw [wordsF]
      split
      · have := ih (some (w ++ c.2)); simp at this ⊢; omega
      · have := ih none; simp at this ⊢; omega
theorem wordsL_len (s : Bytes) : (wordsL s).length ≤ s.length + 1 ∧ ∀ w ∈ wordsL s, w.length ≤ s.length := by
  obtain ⟨h1, h2⟩ := wordsF_len (chunks s) none
  have h3 := chunksF_len s.length s
  have h4 := chunks_bytes s.length s (Nat.le_refl _)
  rw [show chunksF s.length s = chunks s from rfl] at h3 h4
  rw [h4] at h1
  refine ⟨by unfold wordsL; omega, fun w hw => ?_⟩
  have : w.length ≤ (wordsL s).flatten.length := by
    generalize wordsL s = l at hw
    induction l with
    | nil => simp at hw
    | cons a l ih =>
      rw [List.flatten_cons, List.length_append]
      rcases List.mem_cons.1 hw with rfl | h
      · omega
      · have := ih h; omega
  unfold wordsL at this
  simp at h1 this
  omega
theorem foldedL_len (s : Bytes) : (foldedL s).length ≤ 4 * s.length := by
  have := foldCs_len (chunks s)
  have h3 := chunksF_len s.length s
  rw [show chunksF s.length s = chunks s from rfl] at h3
  unfold foldedL; omega
def tokOf (w : Bytes) (k : Nat) : List (Bytes × Nat) := if (foldedL w).length ≤ 40 ∧ stopL (foldedL w) = false then [(foldedL w, k)] else []
theorem tokensF_snoc (ws : List Bytes) (w : Bytes) (k : Nat) : tokensF (ws ++ [w]) k = tokensF ws k ++ tokOf w (k + ws.length) := by
  induction ws generalizing k with
  | nil => simp [tokensF, tokOf]
  | cons a ws ih =>
    rw [List.cons_append, tokensF, tokensF, ih]
    rw [show k + 1 + ws.length = k + (a :: ws).length by simp; omega]
    split <;> rfl
def tokTo (s : Bytes) (k : Nat) : List (Bytes × Nat) := tokensF ((wordsL s).take k) 0
theorem tokTo_succ (s : Bytes) (k : Nat) (h : k < (wordsL s).length) : tokTo s (k + 1) = tokTo s k ++ tokOf (wordsL s)[k] k := by
  unfold tokTo
  rw [List.take_succ_eq_append_getElem h, tokensF_snoc, List.length_take, Nat.min_eq_left (by omega), Nat.zero_add]
theorem tokensF_len (ws : List Bytes) (k : Nat) : (tokensF ws k).length ≤ ws.length := by
  induction ws generalizing k with
  | nil => simp [tokensF]
  | cons a ws ih => rw [tokensF]; have := ih (k + 1); split <;> simp <;> omega
theorem tokTo_len (s : Bytes) (k : Nat) : (tokTo s k).length ≤ k := by
  have := tokensF_len ((wordsL s).take k) 0
  rw [List.length_take] at this
  unfold tokTo; omega
theorem tinfo142 : (Tryz.prog.info? 142).map (fun i => (i.zero, i.size, i.bytes)) = some (some (.agg #[strV [], .int .i64 0]), 2, 24) := by kernel_rfl
abbrev tokVs (l : List (Bytes × Nat)) : List Value := l.flatMap fun d => [strV d.1, .int .i64 (d.2 : Nat)]
theorem tokVs_append (l : List (Bytes × Nat)) (d : Bytes × Nat) : tokVs (l ++ [d]) = tokVs l ++ [strV d.1, .int .i64 (d.2 : Nat)] := by simp [tokVs]

/-- behind k words -/
def TokI (w : World) (s : Bytes) (k : Nat) (W : World) : Prop :=
  (∃ v, Boxed W w.heap.size 83 v ∧ W.ownsRow w.heap.size 142 2 v (tokTo s k).length (tokVs (tokTo s k)) ∧ (∀ g, v.ownBlock = some g → w.heap.size + 10 ≤ g)) ∧ Boxed W (w.heap.size + 1) 3 (.int .i64 (k : Nat)) ∧ Below w.heap.size w W
theorem TokI.next {w A : World} {s : Bytes} {k : Nat} {v : Value} (h0 : Boxed A w.heap.size 83 v) (ho : A.ownsRow w.heap.size 142 2 v (tokTo s (k + 1)).length (tokVs (tokTo s (k + 1)))) (hg : ∀ g, v.ownBlock = some g → w.heap.size + 10 ≤ g)
    (h1 : Boxed A (w.heap.size + 1) 3 (.int .i64 (k : Nat))) (hb : Below w.heap.size w A) : TokI w s (k + 1) (A.setCell ⟨w.heap.size + 1, 0, none⟩ (.int .i64 ((k : Int) + 1))) := by
  refine ⟨⟨v, h0.kept (grownBy_setCell' A _ _) (by simp), ownsRow_setCell_other ho (fun e => by have := hg _ e; simp at this) _, hg⟩, ?_, hb.setCell (by simp) _⟩
  have := h1.set (.int .i64 ((k : Int) + 1))
  simpa using this
set_option maxRecDepth 100000 in
set_option maxHeartbeats 4000000 in
theorem Tokens_any (s : Bytes) (w : World) (hs : s.length ≤ 1000000000) (hT : Tabs w) (hSp : Spans w) :
    Calls Tryz.prog 94 #[.string ⟨s.toArray⟩] w fun e w' => ∃ v, e = .returned v ∧ w'.ownsRow w.heap.size 142 2 v (tokensL s).length (tokVs (tokensL s)) ∧ Q w w' := by
  obtain ⟨i0, hi, hz0, hz1, hz2⟩ := info_parts tinfo142
  have hwl := wordsL_len s
  refine (callsIn_wide (n := 0)).1 ?_
  refine callsIn_of_wp_marks Tryz.func94 rfl trivial ?_ rfl
  simp only [Tryz.ntmps94, List.size_toArray, List.length_cons, List.length_nil, Nat.reduceAdd, Nat.reduceSub, Array.replicate_succ, Array.replicate_zero, List.push_toArray, List.append_toArray, List.nil_append, List.cons_append]
  gi_wp2_with fail
  refine ⟨trivial, rfl, (callsIn_wide.2 (words_any s _)).mono ?_⟩
  rintro e w1 ⟨rfl, rfl⟩
  gi_wp2_with fail
  have hB0 : Below w.heap.size w (((w.alloc (.cells #[.slice none 0 0] 83)).alloc (.cells #[.int .i64 0] 3)).alloc (.cells #[strV s] 9)) := (((Below.refl _ w).alloc (Nat.le_refl _) _).alloc (by simp) _).alloc (by simp; omega) _
  have hsz : (((w.alloc (.cells #[.slice none 0 0] 83)).alloc (.cells #[.int .i64 0] 3)).alloc (.cells #[strV s] 9)).heap.size = w.heap.size + 3 := by simp
  have b0 : Boxed (((w.alloc (.cells #[.slice none 0 0] 83)).alloc (.cells #[.int .i64 0] 3)).alloc (.cells #[strV s] 9)) w.heap.size 83 (.slice none 0 0) := ((Boxed.new w _ _).alloc _).alloc _
  have b1 : Boxed (((w.alloc (.cells #[.slice none 0 0] 83)).alloc (.cells #[.int .i64 0] 3)).alloc (.cells #[strV s] 9)) (w.heap.size + 1) 3 (.int .i64 0) := by
    have := (Boxed.new (w.alloc (.cells #[.slice none 0 0] 83)) 3 (.int .i64 0)).alloc (.cells #[strV s] 9)
    simpa using this
  have b2 : Boxed (((w.alloc (.cells #[.slice none 0 0] 83)).alloc (.cells #[.int .i64 0] 3)).alloc (.cells #[strV s] 9)) (w.heap.size + 2) 9 (strV s) := by
    have := Boxed.new ((w.alloc (.cells #[.slice none 0 0] 83)).alloc (.cells #[.int .i64 0] 3)) 9 (strV s)
    simpa using this
  have HT := Lib.hid hT; have HSP := Lib.hid hSp; clear hT hSp
  obtain ⟨W0, hW0⟩ : ∃ W0, ((w.alloc (.cells #[.slice none 0 0] 83)).alloc (.cells #[.int .i64 0] 3)).alloc (.cells #[strV s] 9) = W0 := ⟨_, rfl⟩
  rw [hW0] at hB0 hsz b0 b1 b2 ⊢
  clear hW0
  refine wp_range (gf := 157) (lb := #[.pointer (some ⟨w.heap.size + 1 + 1, 0, none⟩)]) rfl (enters_of Tryz.func157 (by kernel_rfl) rfl) (encs := encStr1) (own := fun k => k = w.heap.size + 6) (keep := fun k => k = w.heap.size + 2 ∨ (w.heap.size + 5 ≤ k ∧ k < w.heap.size + 10)) (n₀ := w.heap.size) (xs := wordsL s)
    (fun W1 hq hz => by
      have h := words_seq s (w.heap.size + 2) w.heap.size W1 (by omega) (block_stays' hq b2) (by omega) (fun W' hb => ⟨HT.out.stays ((hB0.trans (Below.mono hq (by omega))).trans hb), HSP.out.stays ((hB0.trans (Below.mono hq (by omega))).trans hb)⟩)
      rw [hz, hsz] at h
      exact h)
    (fun k h => by omega) (fun k h => by omega) (by omega) (fun _ => rfl)
    (fun k W => TokI w s k W)
    (fun _ _ _ => False)
    (fun k a' _ => ∃ (x : Bytes), (wordsL s)[k]? = some x ∧ a' = { tmps := #[.string ⟨s.toArray⟩, undef, .slice none 0 0, .pointer (some ⟨w.heap.size, 0, none⟩), .pointer (some ⟨w.heap.size + 1, 0, none⟩), strV x, undef, .string ⟨s.toArray⟩, .func (.func 157) #[] #[.pointer (some ⟨w.heap.size + 1 + 1, 0, none⟩)], strV x, undef, undef, undef, undef, undef, undef, undef, undef, undef, undef, undef, undef, undef, undef, undef, undef, undef, undef, undef], defers := [] })
    (fun k A B hI hi => by
      obtain ⟨⟨v, h0, ho, hg⟩, h1, hb⟩ := hI
      exact ⟨⟨v, hi.boxed h0 (by omega), hi.owns ho (fun g e => by have := hg g e; omega), hg⟩, hi.boxed h1 (by omega), hi.below hb (by omega) hb.size (fun k h => by omega)⟩)
    (fun _ _ _ _ h _ => h) (fun _ _ _ _ h _ => h) ⟨⟨_, b0, World.ownsRow_nil _ _ _ _, by simp [Value.ownBlock]⟩, b1, hB0⟩ ?assign ?body ?done ?stop
  case assign =>
    intro l k hk W K hi hz hK
    gi_wp2
    exact hK _ _ (Q.refl _) hi ⟨_, List.getElem?_eq_getElem hk, rfl⟩
  case body =>
    rintro l k hk a' W ⟨⟨rc, hrc⟩, hdf⟩ hl ⟨⟨v, h0, ho, hg⟩, h1, hb⟩ ⟨x, hx, rfl⟩ hkb hz
    have hx2 : (wordsL s)[k] = x := Option.some.inj ((List.getElem?_eq_getElem hk).symm.trans hx)
    have hxl : x.length ≤ s.length := by rw [← hx2]; exact hwl.2 _ (List.getElem_mem _)
    have hfl := foldedL_len x
    have hst := tokTo_succ s k hk
    rw [hx2] at hst
    have htl := tokTo_len s k
    have hsW := hb.size
    have hkb2 : w.heap.size + 10 ≤ W.heap.size := by have := hkb (w.heap.size + 9) (.inr (by omega)); omega
    have hkl := hwl.1
    subst hl
    have cf := Folded_any x W (by omega) (HT.out.stays hb)
    have CF := Lib.hid cf; have HST := Lib.hid hst; have H0 := Lib.hid h0; have HO := Lib.hid ho; have HGG := Lib.hid hg; have H1 := Lib.hid h1; have HB := Lib.hid hb
    clear cf hst h0 ho hg h1 hb hx hx2 hdf hrc
    gi_wp2_with fail
    refine ⟨trivial, rfl, (calls_round _ CF.out).mono ?_⟩
    rintro e w3 ⟨rfl, q3⟩
    have b03 : Boxed w3 w.heap.size 83 v := block_stays' q3 H0.out
    have b13 : Boxed w3 (w.heap.size + 1) 3 (.int .i64 (k : Nat)) := block_stays' q3 H1.out
    have o3 := ownsRow_below HO.out q3
    have hb3 := HB.out.trans (Below.mono q3 hsW)
    have kk : Bk (fun b => (b = w.heap.size + 2 ∨ (w.heap.size + 5 ≤ b ∧ b < w.heap.size + 10)) ∨ b = W0.heap.size ∨ b = W0.heap.size + 1) w.heap.size W w3 := Bk.of_q q3 hsW
    have hsz3 := q3.size
    have cst := Stop_any (foldedL x) w3
    have CST := Lib.hid cst; have B0 := Lib.hid b03; have B1 := Lib.hid b13; have O3 := Lib.hid o3; have HB3 := Lib.hid hb3; have KK := Lib.hid kk
    clear cst b03 b13 o3 hb3 kk q3 CF H0 H1 HO HB
    by_cases hf : (foldedL x).length ≤ 40 ∧ stopL (foldedL x) = false
    · have htk : tokOf x k = [(foldedL x, k)] := by unfold tokOf; rw [if_pos hf]
      have HTK := Lib.hid htk; clear htk
      obtain ⟨hf1, hf2⟩ := hf
      rw [hf2] at CST
      generalize foldedL x = t at *
      have c0 := B0.out.cell
      have c1 := B1.out.cell; have f1 := B1.out.frozen
      gi_wp2_with fail
      refine ⟨trivial, rfl, (calls_round _ CST.out).mono ?_⟩
      rintro e w4 ⟨rfl, rfl⟩
      have hbase : w.heap.size ≤ w3.heap.size := by omega
      gi_wp2_with (gi_at_builtin; go_must (refine wpListIn_appN w3 (by rfl) _ _ 83 (by rfl) w.heap.size 142 _ i0 (.agg #[strV [], .int .i64 0]) 2 24 Tryz.underlying83 hi hz0 hz1 hz2 rfl (by decide) (by decide) _ _ _ (by rfl) O3.out 1 (by decide) #[strV t, .int .i64 (k : Nat)] (by rfl) rfl ?c1 ?c2 hbase ?_))
      case c1 => simp [Value.oneCell']
      case c2 => omega
      intro g cp w4 ho4 hg4 hat hlt4 hsz4
      have hn0 : some w.heap.size ≠ v.ownBlock := B0.out.not_row (by decide) O3.out
      have hn1 : some (w.heap.size + 1) ≠ v.ownBlock := B1.out.not_row (by decide) O3.out
      have hge : w.heap.size + 10 ≤ g := by
        rcases hat with h | h
        · exact HGG.out g h
        · omega
      have b04 : Boxed w4 w.heap.size 83 v := B0.out.kept hg4 hn0
      have b14 : Boxed w4 (w.heap.size + 1) 3 (.int .i64 (k : Nat)) := B1.out.kept hg4 hn1
      have hb4 := HB3.out.grown hg4 hbase (fun j hj => by have := HGG.out j hj; omega)
      have kk4 : Bk (fun b => (b = w.heap.size + 2 ∨ (w.heap.size + 5 ≤ b ∧ b < w.heap.size + 10)) ∨ b = W0.heap.size ∨ b = W0.heap.size + 1) w.heap.size W w4 :=
        KK.out.trans (Bk.grown hg4 hbase (fun j hj => by
          have := HGG.out j hj
          obtain ⟨cs, hcs⟩ := owns_kind O3.out j hj
          exact ⟨by omega, by omega, cs, _, _, hcs⟩))
      have hst2 : (tokTo s k).length + 1 = (tokTo s (k + 1)).length ∧ tokVs (tokTo s k) ++ (#[strV t, .int .i64 (k : Nat)] : Array Value).toList = tokVs (tokTo s (k + 1)) := by
        rw [HST.out, HTK.out]; exact ⟨by simp, (tokVs_append (tokTo s k) (t, k)).symm⟩
      rw [hst2.1, hst2.2] at ho4
      have hlen4 := hst2.1
      have B04 := Lib.hid b04; have B14 := Lib.hid b14; have O4 := Lib.hid ho4; have HB4 := Lib.hid hb4; have KK4 := Lib.hid kk4
      have c04 := b04.cell; have f04 := b04.frozen; have c14 := b14.cell; have f14 := b14.frozen
      clear b04 b14 ho4 hb4 kk4 hst2 hg4 hat c0 c1
      gi_wp2_with fail
      refine ⟨KK4.out.trans ((Bk.setCell _ (by simp) (by simp; omega) _).trans (Bk.setCell _ (by simp) (by simp; omega) _)), TokI.next (v := .slice (some ⟨g, 0, none⟩) (tokTo s (k + 1)).length cp) (B04.out.set _) (ownsRow_setCell_other O4.out (by simp [Value.ownBlock]; omega) _) (fun j e => by simp [Value.ownBlock] at e; omega) (B14.out.kept (grownBy_setCell' w4 _ _) (by simp)) (HB4.out.setCell (by simp) _)⟩
    · have htk : tokOf x k = [] := by unfold tokOf; rw [if_neg hf]
      have HTK := Lib.hid htk; clear htk
      by_cases hf1 : (foldedL x).length ≤ 40
      · have hf2 : stopL (foldedL x) = true := by simpa [hf1] using hf
        rw [hf2] at CST
        clear hf hf2
        generalize foldedL x = t at *
        gi_wp2_with fail
        refine ⟨trivial, rfl, (calls_round _ CST.out).mono ?_⟩
        rintro e w4 ⟨rfl, rfl⟩
        have c1 := B1.out.cell; have f1 := B1.out.frozen
        gi_wp2_with fail
        refine ⟨KK.out.trans (Bk.setCell _ (by simp) (by simp; omega) _), TokI.next B0.out (by rw [HST.out, HTK.out, List.append_nil]; exact O3.out) HGG.out B1.out HB3.out⟩
      · generalize foldedL x = t at *
        have hf3 : decide ((t.length : Int) ≤ 40) = false := by simp; omega
        clear hf hf1
        have c1 := B1.out.cell; have f1 := B1.out.frozen
        gi_wp2_with fail
        refine ⟨trivial, ?_⟩
        gi_wp2_with fail
        refine ⟨KK.out.trans (Bk.setCell _ (by simp) (by simp; omega) _), TokI.next B0.out (by rw [HST.out, HTK.out, List.append_nil]; exact O3.out) HGG.out B1.out HB3.out⟩
  case done =>
    rintro D W hD _ ⟨⟨v, h0, ho, hg⟩, h1, hb⟩ hK
    obtain rfl : D = w.heap.size + 3 := by omega
    rw [show tokTo s (wordsL s).length = tokensL s by unfold tokTo tokensL; rw [List.take_length]] at ho
    have c0 := h0.cell
    have HO := Lib.hid ho; have HK := Lib.hid hK; have HB := Lib.hid hb
    clear ho hK hb h1 h0 hD
    gi_wp2_with fail
    refine ⟨by simp, .inl ⟨_, _, rfl, run_takeDeferred HK.out, ?_⟩⟩
    exact ⟨_, results_tmp rfl _ _ _, v, rfl, ownsRow_putObj HO.out _ HK.out rfl, HB.out.trans (Bk.put (own := fun _ => False) (n₀ := w.heap.size) _ HK.out rfl (by omega) (fun h => h)).below⟩
  case stop =>
    rintro D c k W _ _ h _
    exact h.elim
end Go.Proofs.YtcblmcbpnakphaaGreatDoor
end

/- (WPostA) postings.rising: walked. -/
section
namespace Go.Proofs.YtcblmcbpnakphaaGreatDoor
open Go.RowKit
set_option linter.unusedVariables false

theorem rising_any (a n b : Int) (w : World) :
    Calls Tryz.prog 163 #[.int .i64 a, .int .i64 n, .int .i64 b] w fun e w' => e = .returned (.bool (decide (a < n) && decide (n < b))) ∧ w = w' := by
  by_cases h1 : a < n
  · by_cases h2 : n < b
    · go_enter Tryz.func163, Tryz.ntmps163
      go_wp2
      go_ret
      exact ⟨ret_bool (by simp [h1, h2]), rfl⟩
    · go_enter Tryz.func163, Tryz.ntmps163
      go_wp2
      go_ret
      exact ⟨ret_bool (by simp [h1, h2]), rfl⟩
  · go_enter Tryz.func163, Tryz.ntmps163
    go_wp2
    go_ret
    exact ⟨ret_bool (by rw [decide_eq_false (by omega)]; rfl), rfl⟩
end Go.Proofs.YtcblmcbpnakphaaGreatDoor
end

/- (WPostB) postings.Right, postings.one: walked. -/
section
namespace Go.Proofs.YtcblmcbpnakphaaGreatDoor
open Go.RowKit
set_option linter.unusedVariables false

abbrev intVs (l : List Int) : List Value := l.map fun k => .int .i64 k
def Ints (w : World) (v : Value) (l : List Int) : Prop := Sl w v l.length 1 (intVs l)
theorem Ints.stays {w w' : World} {v : Value} {l : List Int} (h : Ints w v l) (hb : Below w.heap.size w w') : Ints w' v l := Sl.stays h hb
theorem Ints.value {w : World} {v : Value} {l : List Int} (h : Ints w v l) : ∃ a cap, v = .slice a l.length cap ∧ (0 < l.length → ∃ b off, a = some ⟨b, off, none⟩ ∧ ∀ j (hj : j < l.length), w.cell? ⟨b, off + j, none⟩ = some (.int .i64 l[j])) := by
  obtain ⟨_, a, cap, h2, h3⟩ := h
  refine ⟨a, cap, h2, fun hn => ?_⟩
  obtain ⟨b, off, h4, h5⟩ := h3 hn
  exact ⟨b, off, h4, fun j hj => h5 j _ (by simp [hj])⟩
/-- a posting in memory: its document, the value of its places, and these -/
abbrev PostR := Int × Value × List Int
abbrev postOf (p : PostR) : PostL := (p.1, p.2.2)
abbrev postVs (l : List PostR) : List Value := l.flatMap fun p => [.int .i64 p.1, p.2.1]
/-- a slice of postings -/
def Posts (w : World) (v : Value) (l : List PostR) : Prop := Sl w v l.length 2 (postVs l) ∧ ∀ p ∈ l, Ints w p.2.1 p.2.2
theorem Posts.stays {w w' : World} {v : Value} {l : List PostR} (h : Posts w v l) (hb : Below w.heap.size w w') : Posts w' v l := ⟨Sl.stays h.1 hb, fun p hp => (h.2 p hp).stays hb⟩
theorem postVs_at (l : List PostR) (k : Nat) (h : k < l.length) : (postVs l)[k * 2]? = some (.int .i64 l[k].1) ∧ (postVs l)[k * 2 + 1]? = some l[k].2.1 := by
  induction l generalizing k with
  | nil => simp at h
  | cons d l ih =>
    have e : postVs (d :: l) = .int .i64 d.1 :: d.2.1 :: postVs l := by simp [postVs]
    cases k with
    | zero => rw [e]; exact ⟨rfl, rfl⟩
    | succ k =>
      have := ih k (by simpa using h)
      rw [e, show (k + 1) * 2 = k * 2 + 1 + 1 by omega]
      exact this
theorem Posts.value {w : World} {v : Value} {l : List PostR} (h : Posts w v l) : ∃ a cap, v = .slice a l.length cap ∧ (0 < l.length → ∃ b off, a = some ⟨b, off, none⟩ ∧ ∀ j (hj : j < l.length), w.cell? ⟨b, off + j * 2, none⟩ = some (.int .i64 l[j].1) ∧ w.cell? ⟨b, off + j * 2 + 1, none⟩ = some l[j].2.1) := by
  obtain ⟨⟨_, a, cap, h2, h3⟩, _⟩ := h
  refine ⟨a, cap, h2, fun hn => ?_⟩
  obtain ⟨b, off, h4, h5⟩ := h3 hn
  exact ⟨b, off, h4, fun j hj => ⟨h5 _ _ (postVs_at l j hj).1, by rw [Nat.add_assoc]; exact h5 _ _ (postVs_at l j hj).2⟩⟩
abbrev postsOf (l : List PostR) : List PostL := l.map postOf

set_option maxRecDepth 100000 in
set_option maxHeartbeats 2000000 in
theorem PRight_any (v : Value) (l : List PostR) (w : World) (hv : Posts w v l) (hn : l.length ≤ 1000000000000) (hl : ∀ p ∈ l, p.2.2.length ≤ 1000000000000) :
    Calls Tryz.prog 131 #[v] w fun e w' => e = .returned (.bool (postsRight (-1) (postsOf l))) ∧ Q w w' := by
  obtain ⟨a, cap, rfl, hcell⟩ := hv.value
  have hin := hv.2
  have HC := Lib.hid hcell; have HIN := Lib.hid hin; have HL := Lib.hid hl; clear hcell hv hin hl
  have c := rising_any
  have C := Lib.hid c; clear c
  go_enter Tryz.func131, Tryz.ntmps131
  go_wp2_with fail
  go_loopw [3, 11] (fun ls i wr => ∃ (k : Nat) (last : Int), k ≤ l.length ∧ i = .int .i64 k ∧ ls = .int .i64 last ∧ Hid (postsRight (-1) (postsOf l) = postsRight last (postsOf (l.drop k))) ∧ Hid (Q w wr)) (fun _ i _ => l.length - (intOf i).toNat)
  case atStart => exact ⟨0, -1, by omega, rfl, rfl, rfl, Q.refl w⟩
  case round =>
    obtain ⟨k, last, hk, rfl, rfl, HE, HQ⟩ := hrel
    by_cases hlt : k < l.length
    · obtain ⟨b, off, rfl, hc⟩ := HC.out (by omega)
      obtain ⟨hc1, hc2⟩ := hc k hlt
      have hw1 := cell_stays HQ.out hc1
      have hw2 := cell_stays HQ.out hc2
      have hpos := HIN.out _ (List.getElem_mem hlt)
      have hlen := HL.out _ (List.getElem_mem hlt)
      have hstep : postsRight last (postsOf (l.drop k)) = (decide (last < l[k].1) && decide (l[k].1 < 500) && !l[k].2.2.isEmpty && risingI (-1) l[k].2.2 2000 && postsRight l[k].1 (postsOf (l.drop (k + 1)))) := by
        rw [List.drop_eq_getElem_cons hlt]; rfl
      clear hc hc1 hc2
      generalize l[k] = p at *
      obtain ⟨d, pv, ps⟩ := p
      simp only at hw1 hw2 hpos hlen hstep
      obtain ⟨pa, pcap, rfl, hpc⟩ := hpos.value
      have HS := Lib.hid hstep; have HPC := Lib.hid hpc; clear hstep hpos hpc
      obtain ⟨wo, rfl⟩ : ∃ wo : World, wo = wr := ⟨_, rfl⟩
      go_wp2_with fail
      refine (C.out _ _ _ _).mono ?_
      rintro e w1 ⟨rfl, rfl⟩
      cases hr : (decide (last < d) && decide (d < 500)) with
      | false =>
        have hres : postsRight (-1) (postsOf l) = false := by rw [HE.out, HS.out, hr]; rfl
        have HR := Lib.hid hres; clear hr hres
        go_wp2_with fail
        go_ret
        exact ⟨ret_bool HR.out.symm, HQ.out.trans (Q.alloc _ _)⟩
      | true =>
        have HR1 := Lib.hid hr; clear hr
        by_cases h0 : ps.length = 0
        · have hres : postsRight (-1) (postsOf l) = false := by
            have : ps = [] := List.eq_nil_of_length_eq_zero h0
            rw [HE.out, HS.out, HR1.out, this]; rfl
          have HR := Lib.hid hres; clear hres
          have hz : ((ps.length : Int) == 0) = true := by rw [h0]; rfl
          clear h0
          go_wp2_with fail
          go_ret
          exact ⟨ret_bool HR.out.symm, HQ.out.trans (Q.alloc _ _)⟩
        · have hz : ((ps.length : Int) == 0) = false := by simpa using h0
          have hne : (!ps.isEmpty) = true := by cases ps <;> simp_all
          have HNE := Lib.hid hne; have H0 := Lib.hid h0; clear hne h0
          go_wp2_with fail
          go_loopw [6, 31] (fun at_ i wr => ∃ (j : Nat) (x : Int), j ≤ ps.length ∧ i = .int .i64 j ∧ at_ = .int .i64 x ∧ Hid (risingI (-1) ps 2000 = risingI x (ps.drop j) 2000) ∧ Hid (Q w wr)) (fun _ i _ => ps.length - (intOf i).toNat)
          case atStart => exact ⟨0, -1, by omega, rfl, rfl, rfl, HQ.out.trans (Q.alloc _ _)⟩
          case round =>
            obtain ⟨j, x, hj, rfl, rfl, HJ, HQ2⟩ := hrel
            by_cases hjl : j < ps.length
            · obtain ⟨b2, off2, rfl, hc2⟩ := HPC.out (by omega)
              have hw3 := cell_stays HQ2.out ((hc2 j hjl))
              have hst : risingI x (ps.drop j) 2000 = (decide (x < ps[j]) && decide (ps[j] < 2000) && risingI ps[j] (ps.drop (j + 1)) 2000) := by
                rw [List.drop_eq_getElem_cons hjl]; rfl
              clear hc2
              generalize ps[j] = y at *
              have HST := Lib.hid hst; clear hst
              go_wp2_with fail
              refine (C.out _ _ _ _).mono ?_
              rintro e w1 ⟨rfl, rfl⟩
              cases hr2 : (decide (x < y) && decide (y < 2000)) with
              | false =>
                have hres : postsRight (-1) (postsOf l) = false := by rw [HE.out, HS.out, HJ.out, HST.out, hr2]; simp
                have HR := Lib.hid hres; clear hr2 hres
                go_wp2_with fail
                go_ret
                exact ⟨ret_bool HR.out.symm, HQ2.out⟩
              | true =>
                have HR2 := Lib.hid hr2; clear hr2
                go_wp2_with fail
                go_roundw
                case rel => exact ⟨j + 1, y, by omega, by go_num, rfl, by show _ = _; rw [HJ.out, HST.out, HR2.out]; rfl, HQ2.out⟩
                case measure => simp [intOf]; omega
            · have hri : risingI (-1) ps 2000 = true := by rw [HJ.out, List.drop_eq_nil_of_le (by omega)]; rfl
              have HRI := Lib.hid hri; clear hri
              go_wp2_with fail
              go_roundw
              case rel => exact ⟨k + 1, d, by omega, by go_num, rfl, by show _ = _; rw [HE.out, HS.out, HR1.out, HNE.out, HRI.out]; rfl, HQ2.out⟩
              case measure => simp [intOf]; omega
    · have he : postsRight (-1) (postsOf l) = true := by rw [HE.out, List.drop_eq_nil_of_le (by omega)]; rfl
      have HEE := Lib.hid he; clear he
      go_wp2_with fail
      go_ret
      exact ⟨ret_bool HEE.out.symm, HQ.out⟩

theorem gaps_take (l : List Int) (at_ : Int) (k : Nat) (h : k < l.length) : gapsL at_ (l.take (k + 1)) = gapsL at_ (l.take k) ++ [(l[k] - (if k = 0 then at_ else l.getD (k - 1) 0)).toNat] := by
  induction l generalizing at_ k with
  | nil => simp at h
  | cons x l ih =>
    cases k with
    | zero => simp [gapsL]
    | succ k =>
      have := ih x k (by simpa using h)
      simp only [List.take_succ_cons, gapsL, this, List.cons_append, List.getElem_cons_succ]
      cases k with
      | zero => simp
      | succ k => simp
theorem length_gaps (l : List Int) (a : Int) : (gapsL a l).length = l.length := by
  induction l generalizing a with
  | nil => rfl
  | cons x l ih => simp [gapsL, ih]
theorem tinfo115 : (Tryz.prog.info? 115).map (fun i => (i.zero, i.size, i.bytes)) = some (some (.int .u64 0), 1, 8) := by kernel_rfl
/-- the places rise from 'a' on -/
def Rises : Int → List Int → Prop
  | _, [] => True
  | a, x :: l => a < x ∧ x < 2000 ∧ Rises x l
theorem rises_of (a : Int) (l : List Int) (h : risingI a l 2000 = true) : Rises a l := by
  induction l generalizing a with
  | nil => trivial
  | cons x l ih =>
    simp only [risingI, Bool.and_eq_true, decide_eq_true_eq] at h
    exact ⟨h.1.1, h.1.2, ih x h.2⟩
theorem Rises.at_ (a : Int) (l : List Int) (h : Rises a l) (k : Nat) (hk : k < l.length) : (if k = 0 then a else l.getD (k - 1) 0) < l[k] ∧ l[k] < 2000 ∧ a ≤ (if k = 0 then a else l.getD (k - 1) 0) := by
  induction l generalizing a k with
  | nil => simp at hk
  | cons x l ih =>
    cases k with
    | zero => exact ⟨by simpa using h.1, h.2.1, by simp⟩
    | succ k =>
      have := ih x h.2.2 k (by simpa using hk)
      have hx := h.1
      cases k with
      | zero => simp at this ⊢; exact ⟨this.1, this.2, by omega⟩
      | succ k => simp at this ⊢; exact ⟨this.1, this.2.1, by omega⟩
abbrev u64Vs (ns : List Nat) : List Value := ns.map fun n : Nat => .int .u64 (n : Int)
def oneNums (d last : Int) (ps : List Int) (k : Nat) : List Nat := (d - last).toNat :: ps.length :: gapsL (-1) (ps.take k)
theorem gaps_lt (l : List Int) (a : Int) (h : Rises a l) (ha : -1 ≤ a) : ∀ n ∈ gapsL a l, n < 18446744073709551616 := by
  induction l generalizing a with
  | nil => intro n hn; simp [gapsL] at hn
  | cons x l ih =>
    obtain ⟨h1, h2, h3⟩ := h
    intro n hn
    simp only [gapsL, List.mem_cons] at hn
    rcases hn with hn | hn
    · omega
    · exact ih x h3 (by omega) n hn
theorem owns_lit (W : World) (base : Nat) (e : TypeId) (cs : Array Value) (n : Nat) (hn : cs.size = n) (hb : base ≤ W.heap.size) (hm : n ≤ maxLen) : (W.alloc (.cells cs e)).ownsRow base e 1 (.slice (some ⟨W.heap.size, 0, none⟩) n n) n cs.toList :=
  ⟨by simpa using hn, .inr ⟨W.heap.size, n, cs, rfl, hb, heap_alloc_new W _, Nat.le_refl _, hm, by omega, by rw [List.take_of_length_le]; simp; omega⟩⟩
set_option maxRecDepth 100000 in
set_option maxHeartbeats 2000000 in
/-- a posting's bytes behind a document: where both are right -/
theorem one_any (d last : Int) (pv : Value) (ps : List Int) (w : World) (hv : Ints w pv ps) (hd : last < d) (h1 : -1 ≤ last) (h2 : d < 500) (hr : Rises (-1) ps) (hn : ps.length ≤ 1000000) :
    Calls Tryz.prog 133 #[.agg #[.int .i64 d, pv], .int .i64 last] w fun e w' => e = .returned (.string ⟨(oneE (d, ps) last).toArray⟩) ∧ Q w w' := by
  obtain ⟨a, cap, rfl, hcell⟩ := hv.value
  have HC := Lib.hid hcell; have HR := Lib.hid hr; clear hcell hv hr
  obtain ⟨i0, hi, hz0, hz1, hz2⟩ := info_parts tinfo115
  go_enter Tryz.func133, Tryz.ntmps133
  have hnum : ((d - last).toNat : Int) = d - last := by omega
  go_wp2_with fail
  go_loopw [5, 6, 22] (fun lv at_ i wr => ∃ (k : Nat) (x : Int), k ≤ ps.length ∧ i = .int .i64 k ∧ at_ = .int .i64 x ∧ Hid (x = if k = 0 then -1 else ps.getD (k - 1) 0) ∧
      Hid (wr.ownsRow w.heap.size 115 1 lv (oneNums d last ps k).length (u64Vs (oneNums d last ps k))) ∧ Hid (Below w.heap.size w wr)) (fun _ _ i _ => ps.length - (intOf i).toNat)
  case atStart =>
    refine ⟨0, -1, by omega, rfl, rfl, rfl, ?_, ((Below.refl _ _).alloc (Nat.le_refl _) _).alloc (by simp) _⟩
    have := owns_lit (w.alloc (.cells #[.int .i64 d, .slice a ps.length cap] 74)) w.heap.size 115 #[.int .u64 (d - last), .int .u64 ps.length] 2 rfl (by simp) (by decide)
    have e : u64Vs (oneNums d last ps 0) = [.int .u64 (d - last), .int .u64 ps.length] := by simp [oneNums, gapsL, u64Vs, hnum]
    show World.ownsRow _ _ _ _ _ _ _
    have e0 : (oneNums d last ps 0).length = 2 := by simp [oneNums, gapsL]
    rw [e, e0]
    simpa using this
  case round =>
    obtain ⟨k, x, hk, rfl, rfl, HX, HO, HB⟩ := hrel
    obtain ⟨wo, rfl⟩ : ∃ wo : World, wo = wr := ⟨_, rfl⟩
    have hln : (oneNums d last ps k).length = k + 2 := by simp [oneNums, length_gaps]; omega
    by_cases hlt : k < ps.length
    · obtain ⟨b, off, rfl, hc⟩ := HC.out (by omega)
      have hw := cell_stays HB.out (hc k hlt)
      obtain ⟨q1, q2, q3⟩ := Rises.at_ _ _ HR.out k hlt
      rw [← HX.out] at q1 q3
      have hst : oneNums d last ps (k + 1) = oneNums d last ps k ++ [(ps[k] - x).toNat] := by
        unfold oneNums
        rw [gaps_take ps (-1) k hlt, HX.out]; rfl
      have hnext : ps[k] = if k + 1 = 0 then -1 else ps.getD (k + 1 - 1) 0 := by
        rw [if_neg (by omega), List.getD_eq_getElem?_getD, show k + 1 - 1 = k by omega, List.getElem?_eq_getElem hlt]; rfl
      clear hc
      generalize ps[k] = y at *
      have hyn : ((y - x).toNat : Int) = y - x := by omega
      have e : u64Vs (oneNums d last ps k) ++ (#[.int .u64 (y - x)] : Array Value).toList = u64Vs (oneNums d last ps (k + 1)) := by rw [hst]; simp [u64Vs, hyn]
      have el : (oneNums d last ps k).length + 1 = (oneNums d last ps (k + 1)).length := by rw [hst]; simp
      have HST := Lib.hid hst; have HN := Lib.hid hnext; have E := Lib.hid e; have EL := Lib.hid el; have HLN := Lib.hid hln
      have hown := HO.out
      have hsz := HB.out.size
      have hll : ((oneNums d last ps k).length + 1) * 8 ≤ 140737488355328 := by omega
      clear hst hnext hyn e el hln
      go_wp2_with (at_builtin; go_must (refine wpList_app wo (by rfl) _ _ 159 (by rfl) w.heap.size 115 _ i0 (.int .u64 0) 1 8 Tryz.underlying159 hi hz0 hz1 hz2 rfl (by decide) (by decide) _ _ _ (by rfl) hown #[.int .u64 (y - x)] (by rfl) rfl ?c1 ?c2 hsz ?_))
      case c1 => simp [Value.oneCell']
      try (case c2 => exact hll)
      intro g cp w4 hown1 hg1 hat hlt1 hsz1
      have hb1 := HB.out.grown hg1 HB.out.size (fun k hk => by have := (hown.lt k hk).1; omega)
      rw [E.out, EL.out] at hown1
      clear hown hat hg1
      have HB1 := Lib.hid hb1; have HO1 := Lib.hid hown1; clear hb1 hown1
      go_wp2_with fail
      go_roundw
      case rel => exact ⟨k + 1, y, by omega, by go_num, rfl, HN.out, by rw [EL.out]; exact HO1, HB1⟩
      case measure => simp [intOf]; omega
    · have hkk : k = ps.length := by omega
      subst hkk
      have ef : oneE (d, ps) last = varsE (oneNums d last ps ps.length) := by unfold oneNums; rw [List.take_length]; rfl
      have c := Var_any _ (oneNums d last ps ps.length) wo (Sl.of_owns HO.out) (by omega) (by
        intro n hn
        unfold oneNums at hn
        simp only [List.mem_cons] at hn
        rcases hn with hn | hn | hn
        · omega
        · omega
        · have := gaps_lt ps (-1) HR.out (by omega) n (by rw [List.take_length] at hn; exact hn); omega)
      have C := Lib.hid c; have EF := Lib.hid ef; clear c ef hln
      go_wp2_with fail
      refine C.out.mono ?_
      rintro e w3 ⟨rfl, q3⟩
      have HQ3 := Lib.hid q3; clear q3
      go_wp2_with fail
      go_ret
      exact ⟨ret_str EF.out.symm, HB.out.trans (HQ3.out.mono HB.out.size)⟩
end Go.Proofs.YtcblmcbpnakphaaGreatDoor
end

/- (WIdxR) segment.index: the region that puts a place behind a posting. -/
section
namespace Go.Proofs.YtcblmcbpnakphaaGreatDoor
open Go.RowKit
set_option linter.unusedVariables false

theorem grown_of {w V wa : World} {row : Option Nat} (q : Q w V) (h : V.grownBy wa row) : w.grownBy wa row :=
  { os := h.os.trans q.os, tape := h.tape.trans q.tape, output := h.output.trans q.output, size := Nat.le_trans q.size h.size, block := fun k hk hr => (h.block k (Nat.lt_of_lt_of_le hk q.size) hr).trans (q.block k hk) }
theorem cell_drew (w : World) (a : Addr) : w.drew.cell? a = w.cell? a := rfl
theorem frozen_drew (w : World) (a : Addr) : w.drew.frozen? a = w.frozen? a := rfl
theorem rowAl {w : World} {base : Nat} {e : TypeId} {size : Nat} {v : Value} {n : Nat} {xs : List Value} (o : Obj) (h : w.ownsRow base e size v n xs) : (w.alloc o).ownsRow base e size v n xs := h.alloc _
theorem rowDr {w : World} {base : Nat} {e : TypeId} {size : Nat} {v : Value} {n : Nat} {xs : List Value} (h : w.ownsRow base e size v n xs) : w.drew.ownsRow base e size v n xs := h
theorem frozen_far {w wa : World} {row : Option Nat} (hg : w.grownBy wa row) {a : Addr} (hl : a.block < w.heap.size) (hne : row ≠ some a.block) : wa.frozen? a = w.frozen? a := by
  have := hg.block a.block hl (fun e => hne e.symm)
  simp [World.frozen?, this]
theorem frozen_stays {w w' : World} (q : Q w w') {a : Addr} (hl : a.block < w.heap.size) : w'.frozen? a = w.frozen? a := by
  have := q.block a.block hl
  simp [World.frozen?, this]
theorem drewSize (w : World) : w.drew.heap.size = w.heap.size := rfl
noncomputable def idxRow : Code := ((Tryz.f57.body.bind (findRegion 12)).getD .skip)
theorem tinfo3 : (Tryz.prog.info? 3).map (fun i => (i.zero, i.size, i.bytes)) = some (some (.int .i64 0), 1, 8) := by kernel_rfl
set_option maxRecDepth 100000 in
set_option maxHeartbeats 1000000 in
theorem idx_row (base g off X : Nat) (q : Int) (v : Value) (ps : List Int) (w : World) (cL : w.cell? ⟨g, off + 1, none⟩ = some v) (cF : w.frozen? ⟨g, off + 1, none⟩ = false) (cX : w.cell? ⟨X, 1, none⟩ = some (.int .i64 q))
    (hown : w.ownsRow base 3 1 v ps.length (intVs ps)) (hb : base ≤ w.heap.size) (hlen : ps.length ≤ 1000000000) (hgt : v.ownBlock ≠ some g)
    (Qx : Exit → Act → World → Prop) (x0 x1 x2 x3 x4 x5 x6 x8 x10 x11 x12 x13 x14 x15 x16 x17 x18 x19 x20 x21 x22 x23 x24 x25 x26 x27 x28 x29 x30 x31 x32 x33 x34 x35 x36 x37 x38 x39 x40 x41 x42 x43 x44 x45 x46 x47 x48 x49 x50 x51 x52 x53 x54 x55 x56 x57 x58 x59 x60 x61 x62 x63 x64 x65 x66 x67 x68 x69 x70 x71 x72 x73 x74 x75 x76 x77 x78 x79 x80 x81 x82 x83 x84 x85 x86 x87 x88 x89 x90 x91 x92 x93 x94 x95 x96 x97 x98 x99 x100 x101 x102 x103 x104 x105 : Value)
    (hQ : ∀ wa g2 cap z61 z62 z63 z64 z65 z66 z67 z68 z69 z70 z71, wa.ownsRow base 3 1 (.slice (some ⟨g2, 0, none⟩) (ps.length + 1) cap) (ps.length + 1) (intVs (ps ++ [q])) → w.grownBy wa v.ownBlock → (v.ownBlock = some g2 ∨ w.heap.size < g2) → g2 < wa.heap.size →
      Qx .normal ⟨#[x0, x1, x2, x3, x4, x5, x6, .pointer (some ⟨X, 0, none⟩), x8, .pointer (some ⟨g, off, none⟩), x10, x11, x12, x13, x14, x15, x16, x17, x18, x19, x20, x21, x22, x23, x24, x25, x26, x27, x28, x29, x30, x31, x32, x33, x34, x35, x36, x37, x38, x39, x40, x41, x42, x43, x44, x45, x46, x47, x48, x49, x50, x51, x52, x53, x54, x55, x56, x57, x58, x59, x60, z61, z62, z63, z64, z65, z66, z67, z68, z69, z70, z71, x72, x73, x74, x75, x76, x77, x78, x79, x80, x81, x82, x83, x84, x85, x86, x87, x88, x89, x90, x91, x92, x93, x94, x95, x96, x97, x98, x99, x100, x101, x102, x103, x104, x105], []⟩ (wa.setCell ⟨g, off + 1, none⟩ (.slice (some ⟨g2, 0, none⟩) (ps.length + 1) cap))) :
    idxRow.wp Tryz.prog Qx ⟨#[x0, x1, x2, x3, x4, x5, x6, .pointer (some ⟨X, 0, none⟩), x8, .pointer (some ⟨g, off, none⟩), x10, x11, x12, x13, x14, x15, x16, x17, x18, x19, x20, x21, x22, x23, x24, x25, x26, x27, x28, x29, x30, x31, x32, x33, x34, x35, x36, x37, x38, x39, x40, x41, x42, x43, x44, x45, x46, x47, x48, x49, x50, x51, x52, x53, x54, x55, x56, x57, x58, x59, x60, x61, x62, x63, x64, x65, x66, x67, x68, x69, x70, x71, x72, x73, x74, x75, x76, x77, x78, x79, x80, x81, x82, x83, x84, x85, x86, x87, x88, x89, x90, x91, x92, x93, x94, x95, x96, x97, x98, x99, x100, x101, x102, x103, x104, x105], []⟩ w := by
  obtain ⟨i0, hi, hz0, hz1, hz2⟩ := info_parts tinfo3
  conv => arg 2; whnf
  have hmx : Tryz.prog.follows .mixedOrders = true := by kernel_rfl
  have HQX := Lib.hid hQ; clear hQ
  have HO := Lib.hid hown; clear hown
  have hgl : g < w.heap.size := cell_lt cL
  have hXl : X < w.heap.size := cell_lt cX
  have hB1 : (ps.length + 1) * 8 ≤ 140737488355328 := by omega
  have hB2 : ps.length + 1 ≤ maxLen := by unfold maxLen; omega
  have hone : ∀ u ∈ [Value.int .i64 q], u.oneCell' = true := by simp [Value.oneCell']
  have hb2 : base ≤ (w.alloc (.cells #[.int .i64 q] 3)).drew.heap.size := by simp [drewSize]; omega
  have hq : Q w (w.alloc (.cells #[.int .i64 q] 3)).drew := (Q.alloc w _).trans (Q.drew _)
  have hH : (w.alloc (.cells #[.int .i64 q] 3)).drew.heap.size = w.heap.size + 1 := by simp [drewSize]
  refine wp_region_noPanic ?_
  go_region_law (first | (refine step_append_lies _ (by rfl) _ _ 72 (by rfl) base 3 i0 (.int .i64 0) 1 8 Tryz.underlying72 hi hz0 hz1 hz2 rfl (by decide) v ps.length (intVs ps) (by rfl) (rowDr (rowAl _ HO.out)) ⟨w.heap.size, 0, none⟩ 1 1 [.int .i64 q] (by rfl) rfl (World.news_of_block (heap_alloc_new w _)) hone (by decide) hB2 hB1 hb2 (w.heap.size + 1) hH ?_; intro g2 cap wa hown1 hgrow hat hlt; have hgr := grown_of hq hgrow; have cw := hgr.cell cL (Ne.symm hgt); have fw := (frozen_far hgr hgl hgt).trans cF; have HW := Lib.hid hown1; have HG := Lib.hid hgr; clear hown1 hgr hgrow))
  all_goals exact HQX.out wa g2 cap _ _ _ _ _ _ _ _ _ _ _ (by simpa [intVs] using HW.out) HG.out (hat.imp id (fun h => by omega)) hlt
end Go.Proofs.YtcblmcbpnakphaaGreatDoor
end
