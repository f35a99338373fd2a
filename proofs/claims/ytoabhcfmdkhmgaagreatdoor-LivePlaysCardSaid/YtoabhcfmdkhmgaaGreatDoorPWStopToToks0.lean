/- Joined texts of one proof: WStop, WTokens, WRef11c, Toks0. -/
import Derived.Test.YtoabhcfmdkhmgaaGreatDoorProg
import Derived.Test.YtoabhcfmdkhmgaaGreatDoorPKitToSegSpec
import Derived.Test.YtoabhcfmdkhmgaaGreatDoorPTokToWDictR
import Derived.WalkKit
import Derived.WalkSpells
import Derived.WalkLawsBesides
import Derived.Outline
import Derived.Test.YtoabhcfmdkhmgaaGreatDoorPBld2ToWWords
import Derived.OneCell
import Derived.Test.YtoabhcfmdkhmgaaGreatDoorPWRef11aToBase
set_option linter.unusedSimpArgs false
set_option linter.unusedVariables false
set_option linter.unnecessarySimpa false
/- (WStop) token.Stop: walked. -/
section
namespace Go.Proofs.YtoabhcfmdkhmgaaGreatDoor
open Go.RowKit
set_option linter.unusedVariables false

theorem stops_eq : stopsL = [[97], [97, 110], [97, 110, 100], [97, 114, 101], [97, 115], [97, 116], [98, 101], [98, 121], [102, 111, 114], [105, 110], [105, 115], [105, 116], [111, 102], [111, 110], [111, 114], [116, 104, 101], [116, 111], [119, 105, 116, 104]] := by decide
set_option maxRecDepth 100000 in
set_option maxHeartbeats 2000000 in
theorem Stop_any (t : Bytes) (w : World) :
    Calls Tryz.prog 118 #[.string ⟨t.toArray⟩] w fun e w' => e = .returned (.bool (stopL t)) ∧ w = w' := by
  by_cases hm : t ∈ stopsL
  · have hs : stopL t = true := by unfold stopL; simpa using hm
    rw [stops_eq] at hm
    simp only [List.mem_cons, List.not_mem_nil, or_false] at hm
    have HS := Lib.hid hs; clear hs
    rcases hm with rfl | rfl | rfl | rfl | rfl | rfl | rfl | rfl | rfl | rfl | rfl | rfl | rfl | rfl | rfl | rfl | rfl | rfl
    all_goals
      go_enter Tryz.func118, Tryz.ntmps118
      go_wp2
      go_ret
      exact ⟨ret_bool HS.out.symm, rfl⟩
  · have hs : stopL t = false := by unfold stopL; simpa using hm
    have HS := Lib.hid hs; clear hs
    rw [stops_eq] at hm
    simp only [List.mem_cons, List.not_mem_nil, or_false, not_or] at hm
    have hf : ∀ x : Bytes, t ≠ x → (t == x) = false := fun x h => by simpa using h
    obtain ⟨m0, m1, m2, m3, m4, m5, m6, m7, m8, m9, m10, m11, m12, m13, m14, m15, m16, m17⟩ := hm
    have e0 := hf _ m0; clear m0
    have e1 := hf _ m1; clear m1
    have e2 := hf _ m2; clear m2
    have e3 := hf _ m3; clear m3
    have e4 := hf _ m4; clear m4
    have e5 := hf _ m5; clear m5
    have e6 := hf _ m6; clear m6
    have e7 := hf _ m7; clear m7
    have e8 := hf _ m8; clear m8
    have e9 := hf _ m9; clear m9
    have e10 := hf _ m10; clear m10
    have e11 := hf _ m11; clear m11
    have e12 := hf _ m12; clear m12
    have e13 := hf _ m13; clear m13
    have e14 := hf _ m14; clear m14
    have e15 := hf _ m15; clear m15
    have e16 := hf _ m16; clear m16
    have e17 := hf _ m17; clear m17
    clear hf
    go_enter Tryz.func118, Tryz.ntmps118
    go_wp2
    go_ret
    exact ⟨ret_bool HS.out.symm, rfl⟩
end Go.Proofs.YtoabhcfmdkhmgaaGreatDoor
end

/- (WTokens) token.Tokens: walked. -/
section
namespace Go.Proofs.YtoabhcfmdkhmgaaGreatDoor
open Go.RowKit
set_option linter.unusedVariables false
attribute [local go_sem] Oper.semAt_some

theorem wpListIn_appN {F : Fence} {n' : Nat} {P : Program} (W : World) {ops : Array Oper} {rest : List Oper} {o : Oper} {a : Act} {Q : Exit → Act → World → Prop} (hgd : o.guard = none) (s x : Operand) (t : TypeId)
    (ho : o.op = .call { callee := .builtin .append, args := #[s, x], argTypes := #[t, t] })
    (base : Nat) (e e' : TypeId) (i : TypeInfo) (z : Value) (size bytes : Nat) (ht : P.underlying t = some (.slice e)) (hi : P.info? e = some i) (hz : i.zero = some z)
    (hsize : i.size = size) (hby : i.bytes = bytes) (hzs : z.cells.size = size) (hsz : 0 < size) (hbz : 0 < bytes)
    (v : Value) (n : Nat) (xs : List Value) (hs : a.eval s = v) (hown : W.ownsRow base e size v n xs)
    (m : Nat) (hm : 0 < m) (news : Array Value) (hx : a.eval x = .slice (some ⟨W.heap.size, 0, none⟩) m m) (hl : news.size = m * size) (h1 : ∀ u ∈ news.toList, u.oneCell' = true)
    (hb : (n + m) * bytes ≤ 140737488355328) (hbase : base ≤ W.heap.size)
    (h : ∀ g cap w', w'.ownsRow base e size (.slice (some ⟨g, 0, none⟩) (n + m) cap) (n + m) (xs ++ news.toList) → W.grownBy w' v.ownBlock → (v.ownBlock = some g ∨ W.heap.size < g) → g < w'.heap.size → W.heap.size < w'.heap.size →
      wpListIn F n' P ops Q rest (a.put o.dst (.slice (some ⟨g, 0, none⟩) (n + m) cap)) w') : wpListIn F n' P ops Q (o :: rest) a (W.alloc (.cells news e')) := by
  obtain ⟨g, cap, w', hr, h2, h3, h4, h5, h6⟩ := run_appN (P := P) W t o.type base e e' i z size bytes ht hi hz hsize hby hzs hsz hbz v n xs hown m hm news hl h1 hb hbase
  refine wpListIn_plain hgd fun _ hK => ?_
  unfold Oper.wpIn
  refine ⟨?_, ?_⟩
  · simp [Oper.about, ho, resolve, Target.leads, Sem.run_pure]
  · rw [Oper.semAt_plain F _ _ (by rw [ho]; intro c hc'; cases hc')]
    unfold execOp
    simp only [ho, resolve, invoke, builtin, Sem.run_bind, Sem.run_pure, Result.andThen_ok, List.map_toArray, List.map_cons, List.map_nil, hs, hx, hr]
    exact hK _ _ (h g cap w' h2 h3 h4 h5 h6)

/-! ### plain -/
theorem wordsF_len (cs : List (Int × Bytes)) (st : Option Bytes) : (wordsF cs st).flatten.length ≤ (st.getD []).length + (cs.flatMap (·.2)).length ∧ (wordsF cs st).length ≤ cs.length + 1 := by
  induction cs generalizing st with
  | nil => cases st <;> simp [wordsF]
  | cons c cs ih =>
    cases st with
    | none =>
      rw [wordsF]
      split
      · have := ih (some c.2); simp at this ⊢; omega
      · have := ih none; simp at this ⊢; omega
    | some w =>
      rw [wordsF]
      split
      · have := ih (some (w ++ c.2)); simp at this ⊢; omega
      · have := ih none; simp at this ⊢; omega
theorem wordsL_len (s : Bytes) : (wordsL s).length ≤ s.length + 1 ∧ ∀ w ∈ wordsL s, w.length ≤ s.length := by
  obtain ⟨h1, h2⟩ := wordsF_len (chunks s) none
  have h3 := chunksF_len s.length s
  have h4 := chunks_bytes s.length s (Nat.le_refl _)
  rw [show chunksF s.length s = chunks s from rfl] at h3 h4
  rw [h4] at h1
  refine ⟨by unfold wordsL; omega, fun w hw => ?_⟩
  have : w.length ≤ (wordsL s).flatten.length := by
    generalize wordsL s = l at hw
    induction l with
    | nil => simp at hw
    | cons a l ih =>
      rw [List.flatten_cons, List.length_append]
      rcases List.mem_cons.1 hw with rfl | h
      · omega
      · have := ih h; omega
  unfold wordsL at this
  simp at h1 this
  omega
theorem foldedL_len (s : Bytes) : (foldedL s).length ≤ 4 * s.length := by
  have := foldCs_len (chunks s)
  have h3 := chunksF_len s.length s
  rw [show chunksF s.length s = chunks s from rfl] at h3
  unfold foldedL; omega
def tokOf (w : Bytes) (k : Nat) : List (Bytes × Nat) := if (foldedL w).length ≤ 40 ∧ stopL (foldedL w) = false then [(foldedL w, k)] else []
theorem tokensF_snoc (ws : List Bytes) (w : Bytes) (k : Nat) : tokensF (ws ++ [w]) k = tokensF ws k ++ tokOf w (k + ws.length) := by
  induction ws generalizing k with
  | nil => simp [tokensF, tokOf]
  | cons a ws ih =>
    rw [List.cons_append, tokensF, tokensF, ih]
    rw [show k + 1 + ws.length = k + (a :: ws).length by simp; omega]
    split <;> rfl
def tokTo (s : Bytes) (k : Nat) : List (Bytes × Nat) := tokensF ((wordsL s).take k) 0
theorem tokTo_succ (s : Bytes) (k : Nat) (h : k < (wordsL s).length) : tokTo s (k + 1) = tokTo s k ++ tokOf (wordsL s)[k] k := by
  unfold tokTo
  rw [List.take_succ_eq_append_getElem h, tokensF_snoc, List.length_take, Nat.min_eq_left (by omega), Nat.zero_add]
theorem tokensF_len (ws : List Bytes) (k : Nat) : (tokensF ws k).length ≤ ws.length := by
  induction ws generalizing k with
  | nil => simp [tokensF]
  | cons a ws ih => rw [tokensF]; have := ih (k + 1); split <;> simp <;> omega
theorem tokTo_len (s : Bytes) (k : Nat) : (tokTo s k).length ≤ k := by
  have := tokensF_len ((wordsL s).take k) 0
  rw [List.length_take] at this
  unfold tokTo; omega
theorem tinfo162 : (Tryz.prog.info? 162).map (fun i => (i.zero, i.size, i.bytes)) = some (some (.agg #[strV [], .int .i64 0]), 2, 24) := by kernel_rfl
abbrev tokVs (l : List (Bytes × Nat)) : List Value := l.flatMap fun d => [strV d.1, .int .i64 (d.2 : Nat)]
theorem tokVs_append (l : List (Bytes × Nat)) (d : Bytes × Nat) : tokVs (l ++ [d]) = tokVs l ++ [strV d.1, .int .i64 (d.2 : Nat)] := by simp [tokVs]

/-- behind k words -/
def TokI (w : World) (s : Bytes) (k : Nat) (W : World) : Prop :=
  (∃ v, Boxed W w.heap.size 159 v ∧ W.ownsRow w.heap.size 162 2 v (tokTo s k).length (tokVs (tokTo s k)) ∧ (∀ g, v.ownBlock = some g → w.heap.size + 10 ≤ g)) ∧ Boxed W (w.heap.size + 1) 3 (.int .i64 (k : Nat)) ∧ Below w.heap.size w W
theorem TokI.next {w A : World} {s : Bytes} {k : Nat} {v : Value} (h0 : Boxed A w.heap.size 159 v) (ho : A.ownsRow w.heap.size 162 2 v (tokTo s (k + 1)).length (tokVs (tokTo s (k + 1)))) (hg : ∀ g, v.ownBlock = some g → w.heap.size + 10 ≤ g)
    (h1 : Boxed A (w.heap.size + 1) 3 (.int .i64 (k : Nat))) (hb : Below w.heap.size w A) : TokI w s (k + 1) (A.setCell ⟨w.heap.size + 1, 0, none⟩ (.int .i64 ((k : Int) + 1))) := by
  refine ⟨⟨v, h0.kept (grownBy_setCell' A _ _) (by simp), ownsRow_setCell_other ho (fun e => by have := hg _ e; simp at this) _, hg⟩, ?_, hb.setCell (by simp) _⟩
  have := h1.set (.int .i64 ((k : Int) + 1))
  simpa using this
set_option maxRecDepth 100000 in
set_option maxHeartbeats 4000000 in
theorem Tokens_any (s : Bytes) (w : World) (hs : s.length ≤ 1000000000) (hT : Tabs w) (hSp : Spans w) :
    Calls Tryz.prog 90 #[.string ⟨s.toArray⟩] w fun e w' => ∃ v, e = .returned v ∧ w'.ownsRow w.heap.size 162 2 v (tokensL s).length (tokVs (tokensL s)) ∧ Q w w' := by
  obtain ⟨i0, hi, hz0, hz1, hz2⟩ := info_parts tinfo162
  have hwl := wordsL_len s
  refine (callsIn_wide (n := 0)).1 ?_
  refine callsIn_of_wp_marks Tryz.func90 rfl trivial ?_ rfl
  simp only [Tryz.ntmps90, List.size_toArray, List.length_cons, List.length_nil, Nat.reduceAdd, Nat.reduceSub, Array.replicate_succ, Array.replicate_zero, List.push_toArray, List.append_toArray, List.nil_append, List.cons_append]
  gi_wp2_with fail
  refine ⟨trivial, rfl, (callsIn_wide.2 (words_any s _)).mono ?_⟩
  rintro e w1 ⟨rfl, rfl⟩
  gi_wp2_with fail
  have hB0 : Below w.heap.size w (((w.alloc (.cells #[.slice none 0 0] 159)).alloc (.cells #[.int .i64 0] 3)).alloc (.cells #[strV s] 9)) := (((Below.refl _ w).alloc (Nat.le_refl _) _).alloc (by simp) _).alloc (by simp; omega) _
  have hsz : (((w.alloc (.cells #[.slice none 0 0] 159)).alloc (.cells #[.int .i64 0] 3)).alloc (.cells #[strV s] 9)).heap.size = w.heap.size + 3 := by simp
  have b0 : Boxed (((w.alloc (.cells #[.slice none 0 0] 159)).alloc (.cells #[.int .i64 0] 3)).alloc (.cells #[strV s] 9)) w.heap.size 159 (.slice none 0 0) := ((Boxed.new w _ _).alloc _).alloc _
  have b1 : Boxed (((w.alloc (.cells #[.slice none 0 0] 159)).alloc (.cells #[.int .i64 0] 3)).alloc (.cells #[strV s] 9)) (w.heap.size + 1) 3 (.int .i64 0) := by
    have := (Boxed.new (w.alloc (.cells #[.slice none 0 0] 159)) 3 (.int .i64 0)).alloc (.cells #[strV s] 9)
    simpa using this
  have b2 : Boxed (((w.alloc (.cells #[.slice none 0 0] 159)).alloc (.cells #[.int .i64 0] 3)).alloc (.cells #[strV s] 9)) (w.heap.size + 2) 9 (strV s) := by
    have := Boxed.new ((w.alloc (.cells #[.slice none 0 0] 159)).alloc (.cells #[.int .i64 0] 3)) 9 (strV s)
    simpa using this
  have HT := Lib.hid hT; have HSP := Lib.hid hSp; clear hT hSp
  obtain ⟨W0, hW0⟩ : ∃ W0, ((w.alloc (.cells #[.slice none 0 0] 159)).alloc (.cells #[.int .i64 0] 3)).alloc (.cells #[strV s] 9) = W0 := ⟨_, rfl⟩
  rw [hW0] at hB0 hsz b0 b1 b2 ⊢
  clear hW0
  refine wp_range (gf := 138) (lb := #[.pointer (some ⟨w.heap.size + 1 + 1, 0, none⟩)]) rfl (enters_of Tryz.func138 (by kernel_rfl) rfl) (encs := encStr1) (own := fun k => k = w.heap.size + 6) (keep := fun k => k = w.heap.size + 2 ∨ (w.heap.size + 5 ≤ k ∧ k < w.heap.size + 10)) (n₀ := w.heap.size) (xs := wordsL s)
    (fun W1 hq hz => by
      have h := words_seq s (w.heap.size + 2) w.heap.size W1 (by omega) (block_stays' hq b2) (by omega) (fun W' hb => ⟨HT.out.stays ((hB0.trans (Below.mono hq (by omega))).trans hb), HSP.out.stays ((hB0.trans (Below.mono hq (by omega))).trans hb)⟩)
      rw [hz, hsz] at h
      exact h)
    (fun k h => by omega) (fun k h => by omega) (by omega) (fun _ => rfl)
    (fun k W => TokI w s k W)
    (fun _ _ _ => False)
    (fun k a' _ => ∃ (x : Bytes), (wordsL s)[k]? = some x ∧ a' = { tmps := #[.string ⟨s.toArray⟩, undef, .slice none 0 0, .pointer (some ⟨w.heap.size, 0, none⟩), .pointer (some ⟨w.heap.size + 1, 0, none⟩), strV x, undef, .string ⟨s.toArray⟩, .func (.func 138) #[] #[.pointer (some ⟨w.heap.size + 1 + 1, 0, none⟩)], strV x, undef, undef, undef, undef, undef, undef, undef, undef, undef, undef, undef, undef, undef, undef, undef, undef, undef, undef, undef], defers := [] })
    (fun k A B hI hi => by
      obtain ⟨⟨v, h0, ho, hg⟩, h1, hb⟩ := hI
      exact ⟨⟨v, hi.boxed h0 (by omega), hi.owns ho (fun g e => by have := hg g e; omega), hg⟩, hi.boxed h1 (by omega), hi.below hb (by omega) hb.size (fun k h => by omega)⟩)
    (fun _ _ _ _ h _ => h) (fun _ _ _ _ h _ => h) ⟨⟨_, b0, World.ownsRow_nil _ _ _ _, by simp [Value.ownBlock]⟩, b1, hB0⟩ ?assign ?body ?done ?stop
  case assign =>
    intro l k hk W K hi hz hK
    gi_wp2
    exact hK _ _ (Q.refl _) hi ⟨_, List.getElem?_eq_getElem hk, rfl⟩
  case body =>
    rintro l k hk a' W ⟨⟨rc, hrc⟩, hdf⟩ hl ⟨⟨v, h0, ho, hg⟩, h1, hb⟩ ⟨x, hx, rfl⟩ hkb hz
    have hx2 : (wordsL s)[k] = x := Option.some.inj ((List.getElem?_eq_getElem hk).symm.trans hx)
    have hxl : x.length ≤ s.length := by rw [← hx2]; exact hwl.2 _ (List.getElem_mem _)
    have hfl := foldedL_len x
    have hst := tokTo_succ s k hk
    rw [hx2] at hst
    have htl := tokTo_len s k
    have hsW := hb.size
    have hkb2 : w.heap.size + 10 ≤ W.heap.size := by have := hkb (w.heap.size + 9) (.inr (by omega)); omega
    have hkl := hwl.1
    subst hl
    have cf := Folded_any x W (by omega) (HT.out.stays hb)
    have CF := Lib.hid cf; have HST := Lib.hid hst; have H0 := Lib.hid h0; have HO := Lib.hid ho; have HGG := Lib.hid hg; have H1 := Lib.hid h1; have HB := Lib.hid hb
    clear cf hst h0 ho hg h1 hb hx hx2 hdf hrc
    gi_wp2_with fail
    refine ⟨trivial, rfl, (calls_round _ CF.out).mono ?_⟩
    rintro e w3 ⟨rfl, q3⟩
    have b03 : Boxed w3 w.heap.size 159 v := block_stays' q3 H0.out
    have b13 : Boxed w3 (w.heap.size + 1) 3 (.int .i64 (k : Nat)) := block_stays' q3 H1.out
    have o3 := ownsRow_below HO.out q3
    have hb3 := HB.out.trans (Below.mono q3 hsW)
    have kk : Bk (fun b => (b = w.heap.size + 2 ∨ (w.heap.size + 5 ≤ b ∧ b < w.heap.size + 10)) ∨ b = W0.heap.size ∨ b = W0.heap.size + 1) w.heap.size W w3 := Bk.of_q q3 hsW
    have hsz3 := q3.size
    have cst := Stop_any (foldedL x) w3
    have CST := Lib.hid cst; have B0 := Lib.hid b03; have B1 := Lib.hid b13; have O3 := Lib.hid o3; have HB3 := Lib.hid hb3; have KK := Lib.hid kk
    clear cst b03 b13 o3 hb3 kk q3 CF H0 H1 HO HB
    by_cases hf : (foldedL x).length ≤ 40 ∧ stopL (foldedL x) = false
    · have htk : tokOf x k = [(foldedL x, k)] := by unfold tokOf; rw [if_pos hf]
      have HTK := Lib.hid htk; clear htk
      obtain ⟨hf1, hf2⟩ := hf
      rw [hf2] at CST
      generalize foldedL x = t at *
      have c0 := B0.out.cell
      have c1 := B1.out.cell; have f1 := B1.out.frozen
      gi_wp2_with fail
      refine ⟨trivial, rfl, (calls_round _ CST.out).mono ?_⟩
      rintro e w4 ⟨rfl, rfl⟩
      have hbase : w.heap.size ≤ w3.heap.size := by omega
      gi_wp2_with (gi_at_builtin; go_must (refine wpListIn_appN w3 (by rfl) _ _ 159 (by rfl) w.heap.size 162 _ i0 (.agg #[strV [], .int .i64 0]) 2 24 Tryz.underlying159 hi hz0 hz1 hz2 rfl (by decide) (by decide) _ _ _ (by rfl) O3.out 1 (by decide) #[strV t, .int .i64 (k : Nat)] (by rfl) rfl ?c1 ?c2 hbase ?_))
      case c1 => simp [Value.oneCell']
      case c2 => omega
      intro g cp w4 ho4 hg4 hat hlt4 hsz4
      have hn0 : some w.heap.size ≠ v.ownBlock := B0.out.not_row (by decide) O3.out
      have hn1 : some (w.heap.size + 1) ≠ v.ownBlock := B1.out.not_row (by decide) O3.out
      have hge : w.heap.size + 10 ≤ g := by
        rcases hat with h | h
        · exact HGG.out g h
        · omega
      have b04 : Boxed w4 w.heap.size 159 v := B0.out.kept hg4 hn0
      have b14 : Boxed w4 (w.heap.size + 1) 3 (.int .i64 (k : Nat)) := B1.out.kept hg4 hn1
      have hb4 := HB3.out.grown hg4 hbase (fun j hj => by have := HGG.out j hj; omega)
      have kk4 : Bk (fun b => (b = w.heap.size + 2 ∨ (w.heap.size + 5 ≤ b ∧ b < w.heap.size + 10)) ∨ b = W0.heap.size ∨ b = W0.heap.size + 1) w.heap.size W w4 :=
        KK.out.trans (Bk.grown hg4 hbase (fun j hj => by
          have := HGG.out j hj
          obtain ⟨cs, hcs⟩ := owns_kind O3.out j hj
          exact ⟨by omega, by omega, cs, _, _, hcs⟩))
      have hst2 : (tokTo s k).length + 1 = (tokTo s (k + 1)).length ∧ tokVs (tokTo s k) ++ (#[strV t, .int .i64 (k : Nat)] : Array Value).toList = tokVs (tokTo s (k + 1)) := by
        rw [HST.out, HTK.out]; exact ⟨by simp, (tokVs_append (tokTo s k) (t, k)).symm⟩
      rw [hst2.1, hst2.2] at ho4
      have hlen4 := hst2.1
      have B04 := Lib.hid b04; have B14 := Lib.hid b14; have O4 := Lib.hid ho4; have HB4 := Lib.hid hb4; have KK4 := Lib.hid kk4
      have c04 := b04.cell; have f04 := b04.frozen; have c14 := b14.cell; have f14 := b14.frozen
      clear b04 b14 ho4 hb4 kk4 hst2 hg4 hat c0 c1
      gi_wp2_with fail
      refine ⟨KK4.out.trans ((Bk.setCell _ (by simp) (by simp; omega) _).trans (Bk.setCell _ (by simp) (by simp; omega) _)), TokI.next (v := .slice (some ⟨g, 0, none⟩) (tokTo s (k + 1)).length cp) (B04.out.set _) (ownsRow_setCell_other O4.out (by simp [Value.ownBlock]; omega) _) (fun j e => by simp [Value.ownBlock] at e; omega) (B14.out.kept (grownBy_setCell' w4 _ _) (by simp)) (HB4.out.setCell (by simp) _)⟩
    · have htk : tokOf x k = [] := by unfold tokOf; rw [if_neg hf]
      have HTK := Lib.hid htk; clear htk
      by_cases hf1 : (foldedL x).length ≤ 40
      · have hf2 : stopL (foldedL x) = true := by simpa [hf1] using hf
        rw [hf2] at CST
        clear hf hf2
        generalize foldedL x = t at *
        gi_wp2_with fail
        refine ⟨trivial, rfl, (calls_round _ CST.out).mono ?_⟩
        rintro e w4 ⟨rfl, rfl⟩
        have c1 := B1.out.cell; have f1 := B1.out.frozen
        gi_wp2_with fail
        refine ⟨KK.out.trans (Bk.setCell _ (by simp) (by simp; omega) _), TokI.next B0.out (by rw [HST.out, HTK.out, List.append_nil]; exact O3.out) HGG.out B1.out HB3.out⟩
      · generalize foldedL x = t at *
        have hf3 : decide ((t.length : Int) ≤ 40) = false := by simp; omega
        clear hf hf1
        have c1 := B1.out.cell; have f1 := B1.out.frozen
        gi_wp2_with fail
        refine ⟨trivial, ?_⟩
        gi_wp2_with fail
        refine ⟨KK.out.trans (Bk.setCell _ (by simp) (by simp; omega) _), TokI.next B0.out (by rw [HST.out, HTK.out, List.append_nil]; exact O3.out) HGG.out B1.out HB3.out⟩
  case done =>
    rintro D W hD _ ⟨⟨v, h0, ho, hg⟩, h1, hb⟩ hK
    obtain rfl : D = w.heap.size + 3 := by omega
    rw [show tokTo s (wordsL s).length = tokensL s by unfold tokTo tokensL; rw [List.take_length]] at ho
    have c0 := h0.cell
    have HO := Lib.hid ho; have HK := Lib.hid hK; have HB := Lib.hid hb
    clear ho hK hb h1 h0 hD
    gi_wp2_with fail
    refine ⟨by simp, .inl ⟨_, _, rfl, run_takeDeferred HK.out, ?_⟩⟩
    exact ⟨_, results_tmp rfl _ _ _, v, rfl, ownsRow_putObj HO.out _ HK.out rfl, HB.out.trans (Bk.put (own := fun _ => False) (n₀ := w.heap.size) _ HK.out rfl (by omega) (fun h => h)).below⟩
  case stop =>
    rintro D c k W _ _ h _
    exact h.elim
end Go.Proofs.YtoabhcfmdkhmgaaGreatDoor
end

/- (WRef11c) codexref11: Tokens: walked. -/
section
namespace Go.Proofs.YtoabhcfmdkhmgaaGreatDoor
open Go.RowKit
set_option linter.unusedVariables false

set_option maxRecDepth 100000 in
set_option maxHeartbeats 4000000 in
theorem RTokens_any (s : Bytes) (w : World) (hs : s.length ≤ 100000000) :
    Calls Tryz.prog 98 #[strV s] w fun e w' => ∃ v, e = .returned v ∧ w'.ownsRow w.heap.size 162 2 v (tokensL s).length (tokVs (tokensL s)) ∧ Q w w' := by
  obtain ⟨i0, hi, hz0, hz1, hz2⟩ := info_parts tinfo162
  have cw := RWords_any s w (by omega)
  have CW := Lib.hid cw
  clear cw
  go_enter Tryz.func98, Tryz.ntmps98
  go_wp2_with fail
  refine CW.out.mono ?_
  rintro e w1 ⟨v1, rfl, ho1, q1⟩
  obtain ⟨a1, c1, rfl, hg1⟩ := owns_value ho1
  have HS1 := Lib.hid (show Strs w1 (.slice a1 (wordsL s).length c1) (wordsL s) from by have := Sl.of_owns ho1; exact this)
  have HQ1 := Lib.hid q1
  have hwl := wordsL_len s
  clear ho1 q1 CW
  go_wp2_with fail
  go_loopw [3, 5] (fun ov i wr => ∃ k : Nat, k ≤ (wordsL s).length ∧ i = .int .i64 (k : Nat) ∧ Hid (wr.ownsRow w1.heap.size 162 2 ov (tokTo s k).length (tokVs (tokTo s k))) ∧ Hid (Q w1 wr)) (fun _ i _ => (wordsL s).length - (intOf i).toNat)
  case atStart => exact ⟨0, by omega, rfl, World.ownsRow_nil _ _ _ _, Q.refl _⟩
  case round =>
    obtain ⟨k, hk, rfl, HO, HQ⟩ := hrel
    obtain ⟨wo, rfl⟩ : ∃ wo : World, wo = wr := ⟨_, rfl⟩
    by_cases hlt : k < (wordsL s).length
    · obtain ⟨aa, cc, hvv, hcc⟩ := HS1.out.value
      cases hvv
      obtain ⟨b, o, rfl, hc⟩ := hcc (by omega)
      have t0 := cell_stays HQ.out (hc k hlt)
      have hki : (k : Int) < ((wordsL s).length : Int) := by omega
      have hk0 : (0 : Int) ≤ (k : Int) := by omega
      have hsc := tokTo_succ s k hlt
      have htl := tokTo_len s k
      have hx := hwl.2 _ (List.getElem_mem hlt)
      have hwl1 := hwl.1
      clear hc hcc
      generalize (wordsL s)[k] = x at *
      have hfl := foldedL_len x
      have cf := fun W => RFolded_any x W (by omega)
      have hto : tokOf x k = if (foldedL x).length ≤ 40 ∧ stopL (foldedL x) = false then [(foldedL x, k)] else [] := rfl
      have cs := fun W => RStop_any (foldedL x) W
      generalize foldedL x = f at *
      have HSC := Lib.hid hsc
      clear hsc hwl
      generalize htk : tokTo s k = tk at *
      have HTK := Lib.hid htk
      clear htk
      have hsz : w1.heap.size ≤ wo.heap.size := HQ.out.size
      cases hst : stopL f with
      | true =>
        rw [hst] at cs hto
        rw [if_neg (by simp)] at hto
        have HTO := Lib.hid hto
        clear hto hst
        go_wp2_with fail
        refine (cf _).mono ?_
        rintro e w2 ⟨rfl, q2⟩
        have HQ2 := Lib.hid (HQ.out.trans q2)
        have HO2 := Lib.hid (ownsRow_below HO.out q2)
        clear q2 HQ HO cf
        go_wp2_with fail
        refine (cs _).mono ?_
        rintro e w3 ⟨rfl, q3⟩
        have HQ3 := Lib.hid (HQ2.out.trans q3)
        have HO3 := Lib.hid (ownsRow_below HO2.out q3)
        clear q3 HQ2 HO2 cs
        go_wp2_with fail
        go_roundw
        case rel => exact ⟨k + 1, by omega, by go_num, by show World.ownsRow _ _ _ _ _ _ _; rw [HSC.out, HTO.out, List.append_nil]; exact HO3.out, HQ3⟩
        case measure => simp [intOf]; omega
      | false =>
        rw [hst] at cs hto
        clear hst
        by_cases h40 : f.length ≤ 40
        · rw [if_pos ⟨h40, rfl⟩] at hto
          have h40i : (f.length : Int) ≤ 40 := by omega
          have HTO := Lib.hid hto
          clear hto
          go_wp2_with fail
          refine (cf _).mono ?_
          rintro e w2 ⟨rfl, q2⟩
          have HQ2 := Lib.hid (HQ.out.trans q2)
          have HO2 := Lib.hid (ownsRow_below HO.out q2)
          clear q2 HQ HO cf
          go_wp2_with fail
          refine (cs _).mono ?_
          rintro e w3 ⟨rfl, q3⟩
          have HQ3 := Lib.hid (HQ2.out.trans q3)
          have ho3 := ownsRow_below HO2.out q3
          have hsz3 : w1.heap.size ≤ w3.heap.size := HQ3.out.size
          clear q3 HQ2 HO2 cs
          go_wp2_with (at_builtin; go_must (refine wpList_app w3 (by rfl) _ _ 159 (by rfl) w1.heap.size 162 _ i0 (.agg #[strV [], .int .i64 0]) 2 24 Tryz.underlying159 hi hz0 hz1 hz2 rfl (by decide) (by decide) _ _ _ (by rfl) ho3 #[strV f, .int .i64 (k : Nat)] (by simp [Act.eval]) rfl ?c1 ?c2 hsz3 ?_))
          case c1 => simp [Value.oneCell']
          case c2 => omega
          intro g6 cap6 w6 hown6 hg6 hat6 hlt6 hsz6
          have q6 : Q w1 w6 := grown_below HQ3.out ho3 hg6 (Nat.le_refl _) (by omega)
          rw [show tokVs tk ++ (#[strV f, .int .i64 (k : Nat)] : Array Value).toList = tokVs (tk ++ [(f, k)]) from (tokVs_append tk (f, k)).symm] at hown6
          have hln : (tk ++ [(f, k)]).length = tk.length + 1 := by simp
          have HO6 := Lib.hid hown6; have HQ6 := Lib.hid q6; have HLN := Lib.hid hln
          clear hown6 q6 hg6 hat6 ho3 hln
          go_wp2_with fail
          go_roundw
          case rel => exact ⟨k + 1, by omega, by go_num, by show World.ownsRow _ _ _ _ _ _ _; rw [HSC.out, HTO.out, HLN.out]; exact HO6.out, HQ6⟩
          case measure => simp [intOf]; omega
        · rw [if_neg (fun h => h40 h.1)] at hto
          have h40i : ¬ ((f.length : Int) ≤ 40) := by omega
          have HTO := Lib.hid hto
          clear hto
          go_wp2_with fail
          refine (cf _).mono ?_
          rintro e w2 ⟨rfl, q2⟩
          have HQ2 := Lib.hid (HQ.out.trans q2)
          have HO2 := Lib.hid (ownsRow_below HO.out q2)
          clear q2 HQ HO cf
          go_wp2_with fail
          refine (cs _).mono ?_
          rintro e w3 ⟨rfl, q3⟩
          have HQ3 := Lib.hid (HQ2.out.trans q3)
          have HO3 := Lib.hid (ownsRow_below HO2.out q3)
          clear q3 HQ2 HO2 cs
          go_wp2_with fail
          go_roundw
          case rel => exact ⟨k + 1, by omega, by go_num, by show World.ownsRow _ _ _ _ _ _ _; rw [HSC.out, HTO.out, List.append_nil]; exact HO3.out, HQ3⟩
          case measure => simp [intOf]; omega
    · have hke : k = (wordsL s).length := by omega
      subst hke
      have hall : tokTo s (wordsL s).length = tokensL s := by unfold tokTo tokensL; rw [List.take_length]
      have ho := HO.out
      rw [hall] at ho
      have HOF := Lib.hid ho
      clear ho hall HO
      go_wp2_with fail
      go_ret
      exact ⟨_, rfl, owns_low HOF.out HQ1.out.size, HQ1.out.trans HQ.out⟩
end Go.Proofs.YtoabhcfmdkhmgaaGreatDoor
end

/- (Toks0) Tokens in memory; does a term stand at a place. -/
section
namespace Go.Proofs.YtoabhcfmdkhmgaaGreatDoor
open Go.RowKit
set_option linter.unusedVariables false

/-- tokens in memory -/
def Toks (w : World) (v : Value) (l : List (Bytes × Nat)) : Prop := Sl w v l.length 2 (tokVs l)
theorem tokVs_at14 (l : List (Bytes × Nat)) (k : Nat) (h : k < l.length) : (tokVs l)[k * 2]? = some (strV l[k].1) ∧ (tokVs l)[k * 2 + 1]? = some (.int .i64 (l[k].2 : Nat)) := by
  induction l generalizing k with
  | nil => simp at h
  | cons d l ih =>
    have e : tokVs (d :: l) = strV d.1 :: .int .i64 (d.2 : Nat) :: tokVs l := by simp [tokVs]
    cases k with
    | zero => rw [e]; exact ⟨rfl, rfl⟩
    | succ k =>
      have := ih k (by simpa using h)
      rw [e, show (k + 1) * 2 = k * 2 + 1 + 1 by omega]
      exact this
theorem Toks.value {w : World} {v : Value} {l : List (Bytes × Nat)} (h : Toks w v l) : ∃ a cap, v = .slice a l.length cap ∧ (0 < l.length → ∃ b off, a = some ⟨b, off, none⟩ ∧ ∀ j (hj : j < l.length), w.cell? ⟨b, off + j * 2, none⟩ = some (strV l[j].1) ∧ w.cell? ⟨b, off + j * 2 + 1, none⟩ = some (.int .i64 (l[j].2 : Nat))) := by
  obtain ⟨_, a, cap, h2, h3⟩ := h
  refine ⟨a, cap, h2, fun hn => ?_⟩
  obtain ⟨b, off, h4, h5⟩ := h3 hn
  exact ⟨b, off, h4, fun j hj => ⟨h5 _ _ (tokVs_at14 l j hj).1, by rw [Nat.add_assoc]; exact h5 _ _ (tokVs_at14 l j hj).2⟩⟩
/-- does a term stand at a place? -/
def standsL : List (Bytes × Nat) → Bytes → Int → Bool
  | [], _, _ => false
  | x :: l, t, p => if (x.2 : Int) = p then decide (x.1 = t) else standsL l t p
theorem tokensR_rise (ws : List Bytes) (k : Nat) : (tokensF ws k).Pairwise (fun a b => a.2 < b.2) ∧ ∀ x ∈ tokensF ws k, k ≤ x.2 := by
  induction ws generalizing k with
  | nil => simp [tokensF]
  | cons w ws ih =>
    obtain ⟨h1, h2⟩ := ih (k + 1)
    rw [tokensF]
    split
    · refine ⟨List.pairwise_cons.2 ⟨fun x hx => by have := h2 x hx; simp only; omega, h1⟩, fun x hx => ?_⟩
      rcases List.mem_cons.1 hx with rfl | hx
      · exact Nat.le_refl _
      · have := h2 x hx; omega
    · exact ⟨h1, fun x hx => by have := h2 x hx; omega⟩
theorem standsL_of (toks : List (Bytes × Nat)) (h : toks.Pairwise (fun a b => a.2 < b.2)) (x : Bytes × Nat) (hx : x ∈ toks) : standsL toks x.1 (x.2 : Int) = true := by
  induction toks with
  | nil => simp at hx
  | cons y toks ih =>
    obtain ⟨h1, h2⟩ := List.pairwise_cons.1 h
    rw [standsL]
    rcases List.mem_cons.1 hx with rfl | hx
    · rw [if_pos rfl]; simp
    · have := h1 x hx
      rw [if_neg (by omega)]
      exact ih h2 hx
theorem standsL_places (s t : Bytes) (p : Int) (hp : p ∈ placesIn s t) : standsL (tokensL s) t p = true := by
  unfold placesIn at hp
  obtain ⟨x, hx, he⟩ := List.mem_filterMap.1 hp
  split at he
  · rename_i ht
    cases he
    subst ht
    exact standsL_of _ (tokensR_rise _ _).1 x hx
  · cases he
end Go.Proofs.YtoabhcfmdkhmgaaGreatDoor
end
