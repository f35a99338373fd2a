/- Joined texts of one proof: WWords, WStop, WTokens, WPostA. -/
import Derived.Test.YtcflpcpkmhljkaaGreatDoorMWFoldedToWWordsR
import Derived.Test.YtcflpcpkmhljkaaGreatDoorProg
import Derived.Test.YtcflpcpkmhljkaaGreatDoorMKitToSegSpec
import Derived.Test.YtcflpcpkmhljkaaGreatDoorMTokToWDictR
import Derived.WalkKit
import Derived.WalkSpells
import Derived.WalkLawsBesides
import Derived.Outline
import Derived.OneCell
set_option linter.unusedSimpArgs false
set_option linter.unusedVariables false
set_option linter.unnecessarySimpa false
/- (WWords) token.words: the iterator over a text's words: its contract. -/
section
namespace Go.Proofs.YtcflpcpkmhljkaaGreatDoor
open Go.RowKit
set_option linter.unusedVariables false
attribute [local go_sem] Oper.semAt_some

theorem words_any (s : Bytes) (w : World) :
    Calls Tryz.prog 152 #[.string ⟨s.toArray⟩] w fun e w' => e = .returned (.func (.func 183) #[] #[.pointer (some ⟨w.heap.size, 0, none⟩)]) ∧ w.alloc (.cells #[strV s] 9) = w' := by
  go_enter Tryz.func152, Tryz.ntmps152
  go_wp2_with fail
  go_ret
  exact ⟨rfl, rfl⟩

abbrev encStr1 (x : Bytes) : Array Value := #[strV x]
/-- where the word that is under way begins; -1: none is -/
def fromI : Option Nat → Int
  | none => -1
  | some f => f
/-- k runes have come: j words have been told, the next rune stands at p, a word from st on is under way -/
def WordsMid (s : Bytes) (k j p : Nat) (st : Option Nat) : Prop :=
  (wordsL s).drop j = wordsF ((chunks s).drop k) (st.map fun f => (s.drop f).take (p - f)) ∧ (runePlaces s).drop k = runesAt p ((chunks s).drop k) ∧ (chunks s).drop k = chunks (s.drop p) ∧ p ≤ s.length ∧ (∀ f, st = some f → f < p) ∧ j ≤ (wordsL s).length
theorem WordsMid.start (s : Bytes) : WordsMid s 0 0 0 none := ⟨by simp [wordsL], by simp, by simp, by omega, by simp, by omega⟩

theorem take_more (l : Bytes) (a b : Nat) : l.take (a + b) = l.take a ++ (l.drop a).take b := by rw [List.take_add]
/-- the next rune -/
theorem WordsMid.next {s : Bytes} {k j p : Nat} {st : Option Nat} (h : WordsMid s k j p st) (hk : k < (runePlaces s).length) :
    ∃ c n, (runePlaces s)[k]? = some (p, c) ∧ (chunks s).drop k = (c, (s.drop p).take n) :: (chunks s).drop (k + 1) ∧ (runePlaces s).drop (k + 1) = runesAt (p + n) ((chunks s).drop (k + 1)) ∧ (chunks s).drop (k + 1) = chunks (s.drop (p + n)) ∧ 1 ≤ n ∧ p + n ≤ s.length ∧ -1 ≤ c ∧ c ≤ 1114111 := by
  obtain ⟨h1, h2, h3, h4, h5, h6⟩ := h
  have hkc : k < (chunks s).length := by rwa [runesAt_length] at hk
  have hne : s.drop p ≠ [] := by
    intro e
    rw [e, chunks_nil, List.drop_eq_getElem_cons hkc] at h3
    cases h3
  have hsz := rune1_size _ hne
  rw [List.length_drop] at hsz
  have hc := chunks_cons _ hne
  rw [List.drop_drop] at hc
  have e3 : (chunks s).drop (k + 1) = chunks (s.drop (p + (rune1 (s.drop p)).2)) := by
    have : (chunks s).drop (k + 1) = ((chunks s).drop k).drop 1 := by rw [List.drop_drop]
    rw [this, h3, hc]; rfl
  have e1 : (chunks s).drop k = ((rune1 (s.drop p)).1, (s.drop p).take (rune1 (s.drop p)).2) :: (chunks s).drop (k + 1) := by rw [h3, hc, e3]
  have hl : ((s.drop p).take (rune1 (s.drop p)).2).length = (rune1 (s.drop p)).2 := by rw [List.length_take, List.length_drop]; omega
  have hx : (runePlaces s).drop k = (p, (rune1 (s.drop p)).1) :: runesAt (p + (rune1 (s.drop p)).2) ((chunks s).drop (k + 1)) := by rw [h2, e1, runesAt, hl]
  have hxk : (runePlaces s)[k]? = some (p, (rune1 (s.drop p)).1) := by
    have := congrArg (fun l => l[0]?) hx
    simpa [List.getElem?_drop] using this
  obtain ⟨c, hc1, hc2, _, _, hlo, hhi⟩ := chunk_at s k _ hxk
  refine ⟨(rune1 (s.drop p)).1, (rune1 (s.drop p)).2, hxk, e1, ?_, e3, hsz.1, by omega, by simp only at hc2; omega, by simp only at hc2; omega⟩
  have : (runePlaces s).drop (k + 1) = ((runePlaces s).drop k).drop 1 := by rw [List.drop_drop]
  rw [this, hx]; rfl
theorem WordsMid.word_none {s : Bytes} {k j p : Nat} (h : WordsMid s k j p none) {c : Int} {n : Nat} (h1 : (chunks s).drop k = (c, (s.drop p).take n) :: (chunks s).drop (k + 1)) (h2 : (runePlaces s).drop (k + 1) = runesAt (p + n) ((chunks s).drop (k + 1))) (h3 : (chunks s).drop (k + 1) = chunks (s.drop (p + n))) (hn : 1 ≤ n) (hp : p + n ≤ s.length)
    (hw : wordRune c = true) : WordsMid s (k + 1) j (p + n) (some p) := by
  obtain ⟨a1, a2, a3, a4, a5, a6⟩ := h
  refine ⟨?_, h2, h3, hp, fun f e => by cases e; omega, a6⟩
  rw [a1, h1]
  simp only [Option.map_none, Option.map_some, wordsF, hw, if_true]
  rw [show p + n - p = n by omega]
theorem WordsMid.word_some {s : Bytes} {k j p f : Nat} (h : WordsMid s k j p (some f)) {c : Int} {n : Nat} (h1 : (chunks s).drop k = (c, (s.drop p).take n) :: (chunks s).drop (k + 1)) (h2 : (runePlaces s).drop (k + 1) = runesAt (p + n) ((chunks s).drop (k + 1))) (h3 : (chunks s).drop (k + 1) = chunks (s.drop (p + n))) (hn : 1 ≤ n) (hp : p + n ≤ s.length)
    (hw : wordRune c = true) : WordsMid s (k + 1) j (p + n) (some f) := by
  obtain ⟨a1, a2, a3, a4, a5, a6⟩ := h
  have hf := a5 f rfl
  refine ⟨?_, h2, h3, hp, fun g e => by cases e; omega, a6⟩
  rw [a1, h1]
  simp only [Option.map_some, wordsF, hw, if_true]
  have e : (s.drop f).take (p + n - f) = (s.drop f).take (p - f) ++ (s.drop p).take n := by
    rw [show p + n - f = (p - f) + n by omega, take_more, List.drop_drop, show f + (p - f) = p by omega]
  rw [e]
theorem WordsMid.other_none {s : Bytes} {k j p : Nat} (h : WordsMid s k j p none) {c : Int} {n : Nat} (h1 : (chunks s).drop k = (c, (s.drop p).take n) :: (chunks s).drop (k + 1)) (h2 : (runePlaces s).drop (k + 1) = runesAt (p + n) ((chunks s).drop (k + 1))) (h3 : (chunks s).drop (k + 1) = chunks (s.drop (p + n))) (hp : p + n ≤ s.length)
    (hw : wordRune c = false) : WordsMid s (k + 1) j (p + n) none := by
  obtain ⟨a1, a2, a3, a4, a5, a6⟩ := h
  refine ⟨?_, h2, h3, hp, fun f e => (by cases e), a6⟩
  rw [a1, h1]
  simp [wordsF, hw]
theorem WordsMid.other_some {s : Bytes} {k j p f : Nat} (h : WordsMid s k j p (some f)) {c : Int} {n : Nat} (h1 : (chunks s).drop k = (c, (s.drop p).take n) :: (chunks s).drop (k + 1)) (h2 : (runePlaces s).drop (k + 1) = runesAt (p + n) ((chunks s).drop (k + 1))) (h3 : (chunks s).drop (k + 1) = chunks (s.drop (p + n))) (hp : p + n ≤ s.length)
    (hw : wordRune c = false) : ∃ hj : j < (wordsL s).length, (wordsL s)[j] = (s.drop f).take (p - f) ∧ WordsMid s (k + 1) (j + 1) (p + n) none := by
  obtain ⟨a1, a2, a3, a4, a5, a6⟩ := h
  rw [h1] at a1
  simp only [Option.map_some, wordsF, hw, Bool.false_eq_true, if_false] at a1
  have hj : j < (wordsL s).length := by
    rcases Nat.lt_or_ge j (wordsL s).length with h | h
    · exact h
    · rw [List.drop_eq_nil_of_le h] at a1; cases a1
  rw [List.drop_eq_getElem_cons hj] at a1
  injection a1 with b1 b2
  exact ⟨hj, b1, b2, h2, h3, hp, fun f e => (by cases e), by omega⟩
theorem WordsMid.end_none {s : Bytes} {k j p : Nat} (h : WordsMid s k j p none) (hk : k = (runePlaces s).length) : j = (wordsL s).length := by
  obtain ⟨a1, a2, a3, a4, a5, a6⟩ := h
  rw [runesAt_length] at hk
  rw [hk, List.drop_length] at a1
  simp only [Option.map_none, wordsF] at a1
  have := congrArg List.length a1
  rw [List.length_drop, List.length_nil] at this
  omega
theorem WordsMid.end_some {s : Bytes} {k j p f : Nat} (h : WordsMid s k j p (some f)) (hk : k = (runePlaces s).length) : ∃ hj : j < (wordsL s).length, (wordsL s)[j] = s.drop f ∧ j + 1 = (wordsL s).length ∧ f < s.length := by
  obtain ⟨a1, a2, a3, a4, a5, a6⟩ := h
  have hf := a5 f rfl
  rw [runesAt_length] at hk
  rw [hk, List.drop_length] at a3
  have hp : p = s.length := by
    rcases Nat.lt_or_ge p s.length with h | h
    · have hne : s.drop p ≠ [] := fun e => by have := congrArg List.length e; rw [List.length_drop] at this; simp at this; omega
      rw [chunks_cons _ hne] at a3; cases a3
    · omega
  rw [hk, List.drop_length] at a1
  simp only [Option.map_some, wordsF] at a1
  rw [hp, List.take_of_length_le (by rw [List.length_drop]; omega)] at a1
  have hj : j < (wordsL s).length := by
    rcases Nat.lt_or_ge j (wordsL s).length with h | h
    · exact h
    · rw [List.drop_eq_nil_of_le h] at a1; cases a1
  rw [List.drop_eq_getElem_cons hj] at a1
  injection a1 with b1 b2
  refine ⟨hj, b1, ?_, by omega⟩
  have := congrArg List.length b2
  rw [List.length_drop, List.length_nil] at this
  omega

/-- what a call of yield leaves -/
def YP (J Jx : Nat → World → Prop) (j : Nat) (keep : Nat → Prop) (n₀ : Nat) (W1 : World) (b : Bool) (W' : World) : Prop := (b = true → J (j + 1) W' ∧ Bk keep n₀ W1 W') ∧ (b = false → Jx (j + 1) W' ∧ Bk keep n₀ W1 W')
theorem yield_post {J Jx : Nat → World → Prop} {j : Nat} {keep : Nat → Prop} {n₀ : Nat} {W1 : World} (e : Ending) (W' : World) (h : (e = .returned (.bool true) ∧ J (j + 1) W' ∧ Bk keep n₀ W1 W') ∨ (e = .returned (.bool false) ∧ Jx (j + 1) W' ∧ Bk keep n₀ W1 W')) :
    ∃ b : Bool, e = .returned (.bool b) ∧ YP J Jx j keep n₀ W1 b W' := by
  rcases h with ⟨rfl, h1, h2⟩ | ⟨rfl, h1, h2⟩
  · exact ⟨true, rfl, fun _ => ⟨h1, h2⟩, fun h => (by cases h)⟩
  · exact ⟨false, rfl, fun h => (by cases h), fun _ => ⟨h1, h2⟩⟩
def WordsI (s : Bytes) (B n₀ l : Nat) (W : World) (J : Nat → World → Prop) (k : Nat) (W1 : World) : Prop :=
  ∃ j p st, WordsMid s k j p st ∧ J j W1 ∧ Boxed W1 B 9 (strV s) ∧ Boxed W1 W.heap.size 128 (.func (.yield l) #[] #[]) ∧ Boxed W1 (W.heap.size + 1) 3 (.int .i64 (fromI st)) ∧ Boxed W1 (W.heap.size + 2) 9 (strV s) ∧ Below n₀ W W1
set_option maxRecDepth 100000 in
set_option maxHeartbeats 2000000 in
theorem words_seq (s : Bytes) (B n₀ : Nat) (W : World) (hs : s.length ≤ 10000000000000) (hb : Boxed W B 9 (strV s)) (hn : n₀ ≤ W.heap.size) (hTb : ∀ W', Below n₀ W W' → Tabs W' ∧ Spans W') :
    Seq Tryz.prog 183 #[.pointer (some ⟨B, 0, none⟩)] encStr1 (fun k => k = W.heap.size + 1) (fun k => k = B ∨ (W.heap.size ≤ k ∧ k < W.heap.size + 5)) n₀ (wordsL s) W := by
  intro n l J Jx hJ hJx hY h0
  have hBlt := hb.lt
  refine callsIn_wide.2 ((callsIn_wide (n := 0)).1 ?_)
  refine callsIn_of_wp_marks Tryz.func183 rfl trivial ?_ rfl
  simp only [Tryz.ntmps183, List.size_toArray, List.length_cons, List.length_nil, Nat.reduceAdd, Nat.reduceSub, Array.replicate_succ, Array.replicate_zero, List.push_toArray, List.append_toArray, List.nil_append, List.cons_append]
  have hc := hb.cell
  have hca : ((W.alloc (.cells #[.func (.yield l) #[] #[]] 128)).alloc (.cells #[.int .i64 (-1)] 3)).cell? ⟨B, 0, none⟩ = some (strV s) := ((hb.alloc _).alloc _).cell
  have HBX := Lib.hid hb; have HY := Lib.hid hY; have H0 := Lib.hid h0; have HTB := Lib.hid hTb; have HJ := Lib.hid hJ; have HJX := Lib.hid hJx; clear hb hY h0 hTb hJ hJx
  gi_wp2_with fail
  refine ⟨trivial, rfl, (callsIn_wide.2 (Runes_any s _)).mono ?_⟩
  rintro e w1 ⟨rfl, rfl⟩
  gi_wp2_with fail
  clear hca hc
  have hq0 : Q W (((W.alloc (.cells #[.func (.yield l) #[] #[]] 128)).alloc (.cells #[.int .i64 (-1)] 3)).alloc (.cells #[strV s] 9)) := ((Q.alloc W _).trans (Q.alloc _ _)).trans (Q.alloc _ _)
  have hsz : (((W.alloc (.cells #[.func (.yield l) #[] #[]] 128)).alloc (.cells #[.int .i64 (-1)] 3)).alloc (.cells #[strV s] 9)).heap.size = W.heap.size + 3 := by simp
  have b0 : Boxed (((W.alloc (.cells #[.func (.yield l) #[] #[]] 128)).alloc (.cells #[.int .i64 (-1)] 3)).alloc (.cells #[strV s] 9)) W.heap.size 128 (.func (.yield l) #[] #[]) := ((Boxed.new W _ _).alloc _).alloc _
  have b1 : Boxed (((W.alloc (.cells #[.func (.yield l) #[] #[]] 128)).alloc (.cells #[.int .i64 (-1)] 3)).alloc (.cells #[strV s] 9)) (W.heap.size + 1) 3 (.int .i64 (-1)) := by
    have := (Boxed.new (W.alloc (.cells #[.func (.yield l) #[] #[]] 128)) 3 (.int .i64 (-1))).alloc (.cells #[strV s] 9)
    simpa using this
  have b2 : Boxed (((W.alloc (.cells #[.func (.yield l) #[] #[]] 128)).alloc (.cells #[.int .i64 (-1)] 3)).alloc (.cells #[strV s] 9)) (W.heap.size + 2) 9 (strV s) := by
    have := Boxed.new ((W.alloc (.cells #[.func (.yield l) #[] #[]] 128)).alloc (.cells #[.int .i64 (-1)] 3)) 9 (strV s)
    simpa using this
  obtain ⟨W0, hW0⟩ : ∃ W0, ((W.alloc (.cells #[.func (.yield l) #[] #[]] 128)).alloc (.cells #[.int .i64 (-1)] 3)).alloc (.cells #[strV s] 9) = W0 := ⟨_, rfl⟩
  rw [hW0] at hq0 hsz b0 b1 b2 ⊢
  clear hW0
  have HSZ := Lib.hid hsz
  refine wp_range (gf := 155) (lb := #[.pointer (some ⟨W.heap.size + 1 + 1, 0, none⟩)]) rfl (enters_of Tryz.func155 (by kernel_rfl) rfl) (encs := encRune) (own := fun _ => False) (keep := fun k => k = W.heap.size + 2) (n₀ := n₀) (xs := runePlaces s)
    (fun W1 hq hz => Runes_seq s (W.heap.size + 2) n₀ W1 (by omega) (block_stays' hq b2) (by omega) (fun W' hb => (HTB.out W' (((Below.mono hq0 hn).trans (Below.mono hq (by omega))).trans hb)).1))
    (fun _ h => h.elim) (fun k h => by omega) (by omega) (fun _ => rfl)
    (WordsI s B n₀ l W J)
    (fun c _ W1 => c = .ret ∧ ∃ j, j ≤ (wordsL s).length ∧ Jx j W1)
    (fun k a' _ => ∃ (x : Nat × Int), (runePlaces s)[k]? = some x ∧ a' = { tmps := #[.func (.yield l) #[] #[], .pointer (some ⟨B, 0, none⟩), .pointer (some ⟨W.heap.size, 0, none⟩), .pointer (some ⟨W.heap.size + 1, 0, none⟩), .int .i64 x.1, .int .i64 x.2, undef, strV s, .func (.func 155) #[] #[.pointer (some ⟨W.heap.size + 1 + 1, 0, none⟩)], .int .i64 x.1, .int .i64 x.2,
      undef, undef, undef, undef, undef, undef, undef, undef, undef, undef, undef, undef, undef, undef, undef, undef, undef, undef, undef, undef, undef, undef, undef, undef, undef, undef, undef, undef, undef, undef, undef, undef, undef], defers := [] })
    (fun k A C hI hi => by
      obtain ⟨j, p, st, h1, h2, h3, h4, h5, h6, h7⟩ := hI
      exact ⟨j, p, st, h1, HJ.out _ _ _ h2 (hi.mono (fun _ h => h.elim) (by omega)), hi.boxed h3 (fun h => h), hi.boxed h4 (fun h => h), hi.boxed h5 (fun h => h), hi.boxed h6 (fun h => h), hi.below h7 (by omega) (by have := h7.size; omega) (fun _ h => h.elim)⟩)
    (fun c k A C h hi => ⟨h.1, by obtain ⟨j, h1, h2⟩ := h.2; exact ⟨j, h1, HJX.out _ _ _ h2 (hi.mono (fun _ h => h.elim) (by omega))⟩⟩) (fun _ _ _ _ h _ => h)
    ⟨0, 0, none, WordsMid.start s, HJ.out _ _ _ H0.out (Itk.of_q hq0), block_stays' hq0 HBX.out, b0, b1, b2, Below.mono hq0 hn⟩ ?assign ?body ?done ?stop
  case assign =>
    intro l' k hk W' K hi hz hK
    gi_wp2
    exact hK _ _ (Q.refl _) hi ⟨_, List.getElem?_eq_getElem hk, rfl⟩
  case body =>
    rintro l' k hk a' W' ⟨⟨rc, hrc⟩, hdf⟩ hl ⟨j, p, st, h1, h2, h3, h4, h5, h6, h7⟩ ⟨x, hx, rfl⟩ _ hz
    obtain ⟨c, n, hx', e1, e2, e3, hn1, hpn, hlo, hhi⟩ := h1.next hk
    rw [hx] at hx'
    simp only [Option.some.injEq] at hx'
    subst hx'
    subst hl
    simp only
    have hws : wordRune c = (decide (0 ≤ c) && (kindL c == 1 || kindL c == 2)) := rfl
    have hkb := kindL_bounds c
    have ck := Kind_any c W' hlo hhi (HTB.out W' h7).2
    have hnW := h7.size
    have CK := Lib.hid ck; have HWS := Lib.hid hws; have H1 := Lib.hid h1; have H2 := Lib.hid h2; have H3 := Lib.hid h3; have H4 := Lib.hid h4; have H5 := Lib.hid h5; have H6 := Lib.hid h6; have H7 := Lib.hid h7
    have E1 := Lib.hid e1; have E2 := Lib.hid e2; have E3 := Lib.hid e3; have HRC := Lib.hid hrc; have HDF := Lib.hid hdf
    clear ck hws h1 h2 h3 h4 h5 h6 h7 e1 e2 e3 hx hrc hdf hsz hq0 b0 b1 b2
    generalize kindL c = kd at *
    gi_wp2_with fail
    refine ⟨trivial, rfl, (calls_round _ CK.out).mono ?_⟩
    rintro e w3 ⟨rfl, q3⟩
    have k3 := block_stays' q3 H3.out
    have k4 := block_stays' q3 H4.out
    have k5 := block_stays' q3 H5.out
    have k6 := block_stays' q3 H6.out
    have kl := block_stays' q3 HRC.out
    have kd' := block_stays' q3 HDF.out
    have k7 := H7.out.trans (Below.mono q3 (by omega))
    have k2 := HJ.out _ _ _ H2.out (Itk.of_q q3)
    have kk : Bk (fun b => b = W.heap.size + 2 ∨ b = W0.heap.size ∨ b = W0.heap.size + 1) n₀ W' w3 := Bk.of_q q3 (by omega)
    have cS : w3.cell? ⟨B, 0, none⟩ = some (strV s) := Boxed.cell k3
    have cY : w3.cell? ⟨W.heap.size, 0, none⟩ = some (.func (.yield l) #[] #[]) := Boxed.cell k4
    have cF : w3.cell? ⟨W.heap.size + 1, 0, none⟩ = some (.int .i64 (fromI st)) := Boxed.cell k5
    have fF : w3.frozen? ⟨W.heap.size + 1, 0, none⟩ = false := Boxed.frozen k5
    have K3 := Lib.hid k3; have K4 := Lib.hid k4; have K5 := Lib.hid k5; have K6 := Lib.hid k6; have KL := Lib.hid kl; have KD := Lib.hid kd'; have K7 := Lib.hid k7; have K2 := Lib.hid k2; have KK := Lib.hid kk
    clear k3 k4 k5 k6 kl kd' k7 k2 kk q3
    cases hw : wordRune c with
    | true =>
      have hcc : 0 ≤ c ∧ (kd = 1 ∨ kd = 2) := by
        have := HWS.out; rw [hw] at this
        simpa using this.symm
      obtain ⟨hc0, hkd⟩ := hcc
      have HW := Lib.hid hw; clear hw
      cases st with
      | none =>
        rw [show fromI none = -1 from rfl] at cF
        rcases hkd with rfl | rfl
        all_goals
          gi_wp2_with fail
          refine ⟨KK.out.trans (Bk.setCell _ (by show n₀ ≤ W.heap.size + 1; omega) (by show ¬ (W.heap.size + 1 = W.heap.size + 2 ∨ W.heap.size + 1 = W0.heap.size ∨ W.heap.size + 1 = W0.heap.size + 1); have := HSZ.out; omega) _), j, p + n, some p, H1.out.word_none E1.out E2.out E3.out hn1 hpn HW.out, ?_, ?_, ?_, ?_, ?_, ?_⟩
          · exact HJ.out _ _ _ K2.out (Itk.setOwn (own := fun k => k = W.heap.size + 1) w3 (b := W.heap.size + 1) rfl ⟨W.heap.size + 1, 0, none⟩ rfl _)
          · exact Boxed.other K3.out (by omega) _
          · exact Boxed.other K4.out (by omega) _
          · exact Boxed.set _ K5.out
          · exact Boxed.other K6.out (by omega) _
          · exact K7.out.setCell (by show n₀ ≤ W.heap.size + 1; omega) _
      | some f =>
        rw [show fromI (some f) = (f : Int) from rfl] at cF
        rcases hkd with rfl | rfl
        all_goals
          gi_wp2_with fail
          exact ⟨KK.out, j, p + n, some f, H1.out.word_some E1.out E2.out E3.out hn1 hpn HW.out, K2.out, K3.out, K4.out, K5.out, K6.out, K7.out⟩
    | false =>
      have hcc : c < 0 ∨ (0 ≤ c ∧ (kd = 0 ∨ kd = 3)) := by
        have := HWS.out; rw [hw] at this
        simp at this
        omega
      have HW := Lib.hid hw; clear hw
      cases st with
      | none =>
        rw [show fromI none = -1 from rfl] at cF
        rcases hcc with hc0 | ⟨hc0, rfl | rfl⟩
        all_goals
          gi_wp2_with fail
          exact ⟨KK.out, j, p + n, none, H1.out.other_none E1.out E2.out E3.out hpn HW.out, K2.out, K3.out, K4.out, K5.out, K6.out, K7.out⟩
      | some f =>
        rw [show fromI (some f) = (f : Int) from rfl] at cF
        have hfp := H1.out.2.2.2.2.1 f rfl
        obtain ⟨hjl, hwd, hnx⟩ := H1.out.other_some E1.out E2.out E3.out hpn HW.out
        obtain ⟨fn, tmps, assign, body, hy, hR⟩ := HY.out j hjl w3.drew (HJ.out _ _ _ K2.out (Itk.of_q (Q.drew _))) (by
          intro b hb
          have h0 := KL.out
          have := lt_of_get h0
          have h1 := lt_of_get K3.out
          have := HSZ.out
          show b < w3.heap.size
          omega)
        rw [hwd] at hy
        dsimp only [encStr1] at hy
        rw [show strV ((s.drop f).take (p - f)) = .string (({ data := s.toArray } : ByteArray).extract f p) from by rw [bytes_extract]] at hy
        have hR2 := fun m => (hR m).mono yield_post
        have HR := Lib.hid hR2; have HNX := Lib.hid hnx; clear hR hR2 hnx hwd
        rcases hcc with hc0 | ⟨hc0, rfl | rfl⟩
        all_goals
          gi_wp2_with fail
          refine words_yield s l _ B W.heap.size (W.heap.size + 1) f p w3 (YP J Jx j (fun k => k = B ∨ (W.heap.size ≤ k ∧ k < W.heap.size + 5)) n₀ w3.drew) hfp (by omega) hs cS cY cF hy HR _ _ _ _ _ _ _ _ _ _ _ _ _ _ _ _ _ _ _ _ _ _ _ _ _ _ _ _ _ _ _ _ _ _ _ _ _ _ _ _ _ ?_
          intro b w4 hyp
          cases b with
          | true =>
            obtain ⟨hj4, hb4⟩ := hyp.1 rfl
            have m3 : Boxed w4 B 9 (strV s) := (hb4.own B (.inl rfl) (lt_of_get K3.out)).trans K3.out
            have m4 : Boxed w4 W.heap.size 128 (.func (.yield l) #[] #[]) := (hb4.own _ (.inr ⟨by omega, by omega⟩) (lt_of_get K4.out)).trans K4.out
            have m5 : Boxed w4 (W.heap.size + 1) 3 (.int .i64 (fromI (some f))) := (hb4.own _ (.inr ⟨by omega, by omega⟩) (lt_of_get K5.out)).trans K5.out
            have m6 : Boxed w4 (W.heap.size + 2) 9 (strV s) := (hb4.own _ (.inr ⟨by omega, by omega⟩) (lt_of_get K6.out)).trans K6.out
            have m7 := K7.out.drew.trans hb4.below
            have cF4 : w4.cell? ⟨W.heap.size + 1, 0, none⟩ = some (.int .i64 (fromI (some f))) := Boxed.cell m5
            have fF4 : w4.frozen? ⟨W.heap.size + 1, 0, none⟩ = false := Boxed.frozen m5
            have mk : Bk (fun b => b = W.heap.size + 2 ∨ b = W0.heap.size ∨ b = W0.heap.size + 1) n₀ W' w4 := (KK.out.trans (Bk.of_q (Q.drew _) (by have := K7.out.size; omega))).trans (hb4.mono (fun b h => by
              have := HSZ.out
              right
              rcases h with rfl | h | h <;> omega) (Nat.le_refl _))
            have hsz4 := m7.size
            have M3 := Lib.hid m3; have M4 := Lib.hid m4; have M5 := Lib.hid m5; have M6 := Lib.hid m6; have M7 := Lib.hid m7; have MK := Lib.hid mk; have MJ := Lib.hid hj4
            clear m3 m4 m5 m6 m7 mk hj4 hb4 hyp
            gi_wp2_with fail
            refine ⟨MK.out.trans (Bk.setCell _ (by show n₀ ≤ W.heap.size + 1; omega) (by show ¬ (W.heap.size + 1 = W.heap.size + 2 ∨ W.heap.size + 1 = W0.heap.size ∨ W.heap.size + 1 = W0.heap.size + 1); have := HSZ.out; omega) _), j + 1, p + n, none, HNX.out, ?_, ?_, ?_, ?_, ?_, ?_⟩
            · exact HJ.out _ _ _ MJ.out (Itk.setOwn (own := fun k => k = W.heap.size + 1) w4 (b := W.heap.size + 1) rfl ⟨W.heap.size + 1, 0, none⟩ rfl _)
            · exact Boxed.other M3.out (by omega) _
            · exact Boxed.other M4.out (by omega) _
            · exact Boxed.set _ M5.out
            · exact Boxed.other M6.out (by omega) _
            · exact M7.out.setCell (by show n₀ ≤ W.heap.size + 1; omega) _
          | false =>
            obtain ⟨hj4, hb4⟩ := hyp.2 rfl
            have mk : Bk (fun b => b = W.heap.size + 2 ∨ b = W0.heap.size ∨ b = W0.heap.size + 1) n₀ W' w4 := (KK.out.trans (Bk.of_q (Q.drew _) (by have := K7.out.size; omega))).trans (hb4.mono (fun b h => by
              have := HSZ.out
              right
              rcases h with rfl | h | h <;> omega) (Nat.le_refl _))
            have HJ4 := Lib.hid hj4; have MK := Lib.hid mk
            clear hj4 hb4 hyp mk
            gi_wp2_with fail
            exact ⟨MK.out, rfl, j + 1, by omega, HJ4.out⟩
  case done =>
    rintro D W' hD hWz ⟨j, p, st, h1, h2, h3, h4, h5, h6, h7⟩ hK
    obtain rfl : D = W.heap.size + 3 := by omega
    have hsz7 := h7.size
    have cS := h3.cell
    have cY := h4.cell
    have cF := h5.cell
    rw [hsz] at hWz
    clear hD hsz b0 b1 b2 hq0
    cases st with
    | none =>
      rw [show fromI none = -1 from rfl] at cF
      have hj := h1.end_none rfl
      have H2 := Lib.hid h2; have HK := Lib.hid hK; have HJE := Lib.hid hj; clear h2 hK hj h1 h3 h4 h5 h6
      gi_wp2_with fail
      refine ⟨by simp, .inl ⟨_, _, rfl, run_takeDeferred HK.out, ?_⟩⟩
      refine ⟨_, results_none rfl _ _ _, ⟨_, rfl⟩, .inl ?_⟩
      rw [← HJE.out]
      exact HJ.out _ _ _ H2.out (Itk.put _ HK.out rfl (by omega))
    | some f =>
      rw [show fromI (some f) = (f : Int) from rfl] at cF
      obtain ⟨hjl, hwd, hje, hfl⟩ := h1.end_some rfl
      obtain ⟨fn, tmps, assign, body, hy, hR⟩ := HY.out j hjl W'.drew (HJ.out _ _ _ h2 (Itk.of_q (Q.drew _))) (by
        intro b hb
        have h0 := lt_of_get hK
        have h1 := lt_of_get h3
        show b < W'.heap.size
        omega)
      rw [hwd] at hy
      dsimp only [encStr1] at hy
      rw [show strV (s.drop f) = .string (({ data := s.toArray } : ByteArray).extract f s.length) from by rw [bytes_drop]] at hy
      have hR2 := fun m => (hR m).mono yield_post
      have HR := Lib.hid hR2; have HK := Lib.hid hK; clear hR hR2 hwd hK h1 h2 h3 h4 h5 h6
      gi_wp2_with fail
      refine words_last s l B W.heap.size (W.heap.size + 1) f W' (YP J Jx j (fun k => k = B ∨ (W.heap.size ≤ k ∧ k < W.heap.size + 5)) n₀ W'.drew) hfl hs cS cY cF hy HR _ _ _ _ _ _ _ _ _ _ _ _ _ _ _ _ _ _ _ _ _ _ _ _ _ _ _ _ _ _ _ _ _ _ _ _ _ _ _ _ _ _ _ ?_
      intro b w4 z39 z40 z41 z42 z43 hyp
      have hb4 : Bk (fun k => k = B ∨ (W.heap.size ≤ k ∧ k < W.heap.size + 5)) n₀ W'.drew w4 := by
        cases b with
        | true => exact (hyp.1 rfl).2
        | false => exact (hyp.2 rfl).2
      have hk4 := (hb4.own (W.heap.size + 3) (.inr ⟨by omega, by omega⟩) (lt_of_get HK.out)).trans HK.out
      have HK4 := Lib.hid hk4; have HYP := Lib.hid hyp; clear hk4 hb4 hyp
      gi_wp2_with fail
      refine ⟨by simp, .inl ⟨_, _, rfl, run_takeDeferred HK4.out, ?_⟩⟩
      refine ⟨_, results_none rfl _ _ _, ⟨_, rfl⟩, ?_⟩
      cases b with
      | true =>
        left
        have := (HYP.out.1 rfl).1
        rw [hje] at this
        exact HJ.out _ _ _ this (Itk.put _ HK4.out rfl (by omega))
      | false =>
        right
        exact ⟨j + 1, by omega, HJX.out _ _ _ (HYP.out.2 rfl).1 (Itk.put _ HK4.out rfl (by omega))⟩
  case stop =>
    rintro D c k W' hD hk ⟨rfl, j, hj, hjx⟩ hK
    have HK := Lib.hid hK; have HX := Lib.hid hjx; clear hK hjx
    gi_wp2_with fail
    refine ⟨by simp, .inl ⟨_, _, rfl, run_takeDeferred HK.out, ?_⟩⟩
    exact ⟨_, results_none rfl _ _ _, ⟨_, rfl⟩, .inr ⟨j, hj, HJX.out _ _ _ HX.out (Itk.put _ HK.out rfl (by omega))⟩⟩
end Go.Proofs.YtcflpcpkmhljkaaGreatDoor
end

/- (WStop) token.Stop: walked. -/
section
namespace Go.Proofs.YtcflpcpkmhljkaaGreatDoor
open Go.RowKit
set_option linter.unusedVariables false

theorem stops_eq : stopsL = [[97], [97, 110], [97, 110, 100], [97, 114, 101], [97, 115], [97, 116], [98, 101], [98, 121], [102, 111, 114], [105, 110], [105, 115], [105, 116], [111, 102], [111, 110], [111, 114], [116, 104, 101], [116, 111], [119, 105, 116, 104]] := by decide
set_option maxRecDepth 100000 in
set_option maxHeartbeats 2000000 in
theorem Stop_any (t : Bytes) (w : World) :
    Calls Tryz.prog 153 #[.string ⟨t.toArray⟩] w fun e w' => e = .returned (.bool (stopL t)) ∧ w = w' := by
  by_cases hm : t ∈ stopsL
  · have hs : stopL t = true := by unfold stopL; simpa using hm
    rw [stops_eq] at hm
    simp only [List.mem_cons, List.not_mem_nil, or_false] at hm
    have HS := Lib.hid hs; clear hs
    rcases hm with rfl | rfl | rfl | rfl | rfl | rfl | rfl | rfl | rfl | rfl | rfl | rfl | rfl | rfl | rfl | rfl | rfl | rfl
    all_goals
      go_enter Tryz.func153, Tryz.ntmps153
      go_wp2
      go_ret
      exact ⟨ret_bool HS.out.symm, rfl⟩
  · have hs : stopL t = false := by unfold stopL; simpa using hm
    have HS := Lib.hid hs; clear hs
    rw [stops_eq] at hm
    simp only [List.mem_cons, List.not_mem_nil, or_false, not_or] at hm
    have hf : ∀ x : Bytes, t ≠ x → (t == x) = false := fun x h => by simpa using h
    obtain ⟨m0, m1, m2, m3, m4, m5, m6, m7, m8, m9, m10, m11, m12, m13, m14, m15, m16, m17⟩ := hm
    have e0 := hf _ m0; clear m0
    have e1 := hf _ m1; clear m1
    have e2 := hf _ m2; clear m2
    have e3 := hf _ m3; clear m3
    have e4 := hf _ m4; clear m4
    have e5 := hf _ m5; clear m5
    have e6 := hf _ m6; clear m6
    have e7 := hf _ m7; clear m7
    have e8 := hf _ m8; clear m8
    have e9 := hf _ m9; clear m9
    have e10 := hf _ m10; clear m10
    have e11 := hf _ m11; clear m11
    have e12 := hf _ m12; clear m12
    have e13 := hf _ m13; clear m13
    have e14 := hf _ m14; clear m14
    have e15 := hf _ m15; clear m15
    have e16 := hf _ m16; clear m16
    have e17 := hf _ m17; clear m17
    clear hf
    go_enter Tryz.func153, Tryz.ntmps153
    go_wp2
    go_ret
    exact ⟨ret_bool HS.out.symm, rfl⟩
end Go.Proofs.YtcflpcpkmhljkaaGreatDoor
end

/- (WTokens) token.Tokens: walked. -/
section
namespace Go.Proofs.YtcflpcpkmhljkaaGreatDoor
open Go.RowKit
set_option linter.unusedVariables false
attribute [local go_sem] Oper.semAt_some

theorem wpListIn_appN {F : Fence} {n' : Nat} {P : Program} (W : World) {ops : Array Oper} {rest : List Oper} {o : Oper} {a : Act} {Q : Exit → Act → World → Prop} (hgd : o.guard = none) (s x : Operand) (t : TypeId)
    (ho : o.op = .call { callee := .builtin .append, args := #[s, x], argTypes := #[t, t] })
    (base : Nat) (e e' : TypeId) (i : TypeInfo) (z : Value) (size bytes : Nat) (ht : P.underlying t = some (.slice e)) (hi : P.info? e = some i) (hz : i.zero = some z)
    (hsize : i.size = size) (hby : i.bytes = bytes) (hzs : z.cells.size = size) (hsz : 0 < size) (hbz : 0 < bytes)
    (v : Value) (n : Nat) (xs : List Value) (hs : a.eval s = v) (hown : W.ownsRow base e size v n xs)
    (m : Nat) (hm : 0 < m) (news : Array Value) (hx : a.eval x = .slice (some ⟨W.heap.size, 0, none⟩) m m) (hl : news.size = m * size) (h1 : ∀ u ∈ news.toList, u.oneCell' = true)
    (hb : (n + m) * bytes ≤ 140737488355328) (hbase : base ≤ W.heap.size)
    (h : ∀ g cap w', w'.ownsRow base e size (.slice (some ⟨g, 0, none⟩) (n + m) cap) (n + m) (xs ++ news.toList) → W.grownBy w' v.ownBlock → (v.ownBlock = some g ∨ W.heap.size < g) → g < w'.heap.size → W.heap.size < w'.heap.size →
      wpListIn F n' P ops Q rest (a.put o.dst (.slice (some ⟨g, 0, none⟩) (n + m) cap)) w') : wpListIn F n' P ops Q (o :: rest) a (W.alloc (.cells news e')) := by
  obtain ⟨g, cap, w', hr, h2, h3, h4, h5, h6⟩ := run_appN (P := P) W t o.type base e e' i z size bytes ht hi hz hsize hby hzs hsz hbz v n xs hown m hm news hl h1 hb hbase
  refine wpListIn_plain hgd fun _ hK => ?_
  unfold Oper.wpIn
  refine ⟨?_, ?_⟩
  · simp [Oper.about, ho, resolve, Target.leads, Sem.run_pure]
  · rw [Oper.semAt_plain F _ _ (by rw [ho]; intro c hc'; cases hc')]
    unfold execOp
    simp only [ho, resolve, invoke, builtin, Sem.run_bind, Sem.run_pure, Result.andThen_ok, List.map_toArray, List.map_cons, List.map_nil, hs, hx, hr]
    exact hK _ _ (h g cap w' h2 h3 h4 h5 h6)

/-! ### plain -/
theorem wordsF_len (cs : List (Int × Bytes)) (st : Option Bytes) : (wordsF cs st).flatten.length ≤ (st.getD []).length + (cs.flatMap (·.2)).length ∧ (wordsF cs st).length ≤ cs.length + 1 := by
  induction cs generalizing st with
  | nil => cases st <;> simp [wordsF]
  | cons c cs ih =>
    cases st with
    | none =>
      rw [wordsF]
      split
      · have := ih (some c.2); simp at this ⊢; omega
      · have := ih none; simp at this ⊢; omega
    | some w =>
      rw [wordsF]
      split
      · have := ih (some (w ++ c.2)); simp at this ⊢; omega
      · have := ih none; simp at this ⊢; omega
theorem wordsL_len (s : Bytes) : (wordsL s).length ≤ s.length + 1 ∧ ∀ w ∈ wordsL s, w.length ≤ s.length := by
  obtain ⟨h1, h2⟩ := wordsF_len (chunks s) none
  have h3 := chunksF_len s.length s
  have h4 := chunks_bytes s.length s (Nat.le_refl _)
  rw [show chunksF s.length s = chunks s from rfl] at h3 h4
  rw [h4] at h1
  refine ⟨by unfold wordsL; omega, fun w hw => ?_⟩
  have : w.length ≤ (wordsL s).flatten.length := by
    generalize wordsL s = l at hw
    induction l with
    | nil => simp at hw
    | cons a l ih =>
      rw [List.flatten_cons, List.length_append]
      rcases List.mem_cons.1 hw with rfl | h
      · omega
      · have := ih h; omega
  unfold wordsL at this
  simp at h1 this
  omega
theorem foldedL_len (s : Bytes) : (foldedL s).length ≤ 4 * s.length := by
  have := foldCs_len (chunks s)
  have h3 := chunksF_len s.length s
  rw [show chunksF s.length s = chunks s from rfl] at h3
  unfold foldedL; omega
def tokOf (w : Bytes) (k : Nat) : List (Bytes × Nat) := if (foldedL w).length ≤ 40 ∧ stopL (foldedL w) = false then [(foldedL w, k)] else []
theorem tokensF_snoc (ws : List Bytes) (w : Bytes) (k : Nat) : tokensF (ws ++ [w]) k = tokensF ws k ++ tokOf w (k + ws.length) := by
  induction ws generalizing k with
  | nil => simp [tokensF, tokOf]
  | cons a ws ih =>
    rw [List.cons_append, tokensF, tokensF, ih]
    rw [show k + 1 + ws.length = k + (a :: ws).length by simp; omega]
    split <;> rfl
def tokTo (s : Bytes) (k : Nat) : List (Bytes × Nat) := tokensF ((wordsL s).take k) 0
theorem tokTo_succ (s : Bytes) (k : Nat) (h : k < (wordsL s).length) : tokTo s (k + 1) = tokTo s k ++ tokOf (wordsL s)[k] k := by
  unfold tokTo
  rw [List.take_succ_eq_append_getElem h, tokensF_snoc, List.length_take, Nat.min_eq_left (by omega), Nat.zero_add]
theorem tokensF_len (ws : List Bytes) (k : Nat) : (tokensF ws k).length ≤ ws.length := by
  induction ws generalizing k with
  | nil => simp [tokensF]
  | cons a ws ih => rw [tokensF]; have := ih (k + 1); split <;> simp <;> omega
theorem tokTo_len (s : Bytes) (k : Nat) : (tokTo s k).length ≤ k := by
  have := tokensF_len ((wordsL s).take k) 0
  rw [List.length_take] at this
  unfold tokTo; omega
theorem tinfo58 : (Tryz.prog.info? 58).map (fun i => (i.zero, i.size, i.bytes)) = some (some (.agg #[strV [], .int .i64 0]), 2, 24) := by kernel_rfl
abbrev tokVs (l : List (Bytes × Nat)) : List Value := l.flatMap fun d => [strV d.1, .int .i64 (d.2 : Nat)]
theorem tokVs_append (l : List (Bytes × Nat)) (d : Bytes × Nat) : tokVs (l ++ [d]) = tokVs l ++ [strV d.1, .int .i64 (d.2 : Nat)] := by simp [tokVs]

/-- behind k words -/
def TokI (w : World) (s : Bytes) (k : Nat) (W : World) : Prop :=
  (∃ v, Boxed W w.heap.size 54 v ∧ W.ownsRow w.heap.size 58 2 v (tokTo s k).length (tokVs (tokTo s k)) ∧ (∀ g, v.ownBlock = some g → w.heap.size + 10 ≤ g)) ∧ Boxed W (w.heap.size + 1) 3 (.int .i64 (k : Nat)) ∧ Below w.heap.size w W
theorem TokI.next {w A : World} {s : Bytes} {k : Nat} {v : Value} (h0 : Boxed A w.heap.size 54 v) (ho : A.ownsRow w.heap.size 58 2 v (tokTo s (k + 1)).length (tokVs (tokTo s (k + 1)))) (hg : ∀ g, v.ownBlock = some g → w.heap.size + 10 ≤ g)
    (h1 : Boxed A (w.heap.size + 1) 3 (.int .i64 (k : Nat))) (hb : Below w.heap.size w A) : TokI w s (k + 1) (A.setCell ⟨w.heap.size + 1, 0, none⟩ (.int .i64 ((k : Int) + 1))) := by
  refine ⟨⟨v, h0.kept (grownBy_setCell' A _ _) (by simp), ownsRow_setCell_other ho (fun e => by have := hg _ e; simp at this) _, hg⟩, ?_, hb.setCell (by simp) _⟩
  have := h1.set (.int .i64 ((k : Int) + 1))
  simpa using this
set_option maxRecDepth 100000 in
set_option maxHeartbeats 4000000 in
theorem Tokens_any (s : Bytes) (w : World) (hs : s.length ≤ 1000000000) (hT : Tabs w) (hSp : Spans w) :
    Calls Tryz.prog 109 #[.string ⟨s.toArray⟩] w fun e w' => ∃ v, e = .returned v ∧ w'.ownsRow w.heap.size 58 2 v (tokensL s).length (tokVs (tokensL s)) ∧ Q w w' := by
  obtain ⟨i0, hi, hz0, hz1, hz2⟩ := info_parts tinfo58
  have hwl := wordsL_len s
  refine (callsIn_wide (n := 0)).1 ?_
  refine callsIn_of_wp_marks Tryz.func109 rfl trivial ?_ rfl
  simp only [Tryz.ntmps109, List.size_toArray, List.length_cons, List.length_nil, Nat.reduceAdd, Nat.reduceSub, Array.replicate_succ, Array.replicate_zero, List.push_toArray, List.append_toArray, List.nil_append, List.cons_append]
  gi_wp2_with fail
  refine ⟨trivial, rfl, (callsIn_wide.2 (words_any s _)).mono ?_⟩
  rintro e w1 ⟨rfl, rfl⟩
  gi_wp2_with fail
  have hB0 : Below w.heap.size w (((w.alloc (.cells #[.slice none 0 0] 54)).alloc (.cells #[.int .i64 0] 3)).alloc (.cells #[strV s] 9)) := (((Below.refl _ w).alloc (Nat.le_refl _) _).alloc (by simp) _).alloc (by simp; omega) _
  have hsz : (((w.alloc (.cells #[.slice none 0 0] 54)).alloc (.cells #[.int .i64 0] 3)).alloc (.cells #[strV s] 9)).heap.size = w.heap.size + 3 := by simp
  have b0 : Boxed (((w.alloc (.cells #[.slice none 0 0] 54)).alloc (.cells #[.int .i64 0] 3)).alloc (.cells #[strV s] 9)) w.heap.size 54 (.slice none 0 0) := ((Boxed.new w _ _).alloc _).alloc _
  have b1 : Boxed (((w.alloc (.cells #[.slice none 0 0] 54)).alloc (.cells #[.int .i64 0] 3)).alloc (.cells #[strV s] 9)) (w.heap.size + 1) 3 (.int .i64 0) := by
    have := (Boxed.new (w.alloc (.cells #[.slice none 0 0] 54)) 3 (.int .i64 0)).alloc (.cells #[strV s] 9)
    simpa using this
  have b2 : Boxed (((w.alloc (.cells #[.slice none 0 0] 54)).alloc (.cells #[.int .i64 0] 3)).alloc (.cells #[strV s] 9)) (w.heap.size + 2) 9 (strV s) := by
    have := Boxed.new ((w.alloc (.cells #[.slice none 0 0] 54)).alloc (.cells #[.int .i64 0] 3)) 9 (strV s)
    simpa using this
  have HT := Lib.hid hT; have HSP := Lib.hid hSp; clear hT hSp
  obtain ⟨W0, hW0⟩ : ∃ W0, ((w.alloc (.cells #[.slice none 0 0] 54)).alloc (.cells #[.int .i64 0] 3)).alloc (.cells #[strV s] 9) = W0 := ⟨_, rfl⟩
  rw [hW0] at hB0 hsz b0 b1 b2 ⊢
  clear hW0
  refine wp_range (gf := 183) (lb := #[.pointer (some ⟨w.heap.size + 1 + 1, 0, none⟩)]) rfl (enters_of Tryz.func183 (by kernel_rfl) rfl) (encs := encStr1) (own := fun k => k = w.heap.size + 6) (keep := fun k => k = w.heap.size + 2 ∨ (w.heap.size + 5 ≤ k ∧ k < w.heap.size + 10)) (n₀ := w.heap.size) (xs := wordsL s)
    (fun W1 hq hz => by
      have h := words_seq s (w.heap.size + 2) w.heap.size W1 (by omega) (block_stays' hq b2) (by omega) (fun W' hb => ⟨HT.out.stays ((hB0.trans (Below.mono hq (by omega))).trans hb), HSP.out.stays ((hB0.trans (Below.mono hq (by omega))).trans hb)⟩)
      rw [hz, hsz] at h
      exact h)
    (fun k h => by omega) (fun k h => by omega) (by omega) (fun _ => rfl)
    (fun k W => TokI w s k W)
    (fun _ _ _ => False)
    (fun k a' _ => ∃ (x : Bytes), (wordsL s)[k]? = some x ∧ a' = { tmps := #[.string ⟨s.toArray⟩, undef, .slice none 0 0, .pointer (some ⟨w.heap.size, 0, none⟩), .pointer (some ⟨w.heap.size + 1, 0, none⟩), strV x, undef, .string ⟨s.toArray⟩, .func (.func 183) #[] #[.pointer (some ⟨w.heap.size + 1 + 1, 0, none⟩)], strV x, undef, undef, undef, undef, undef, undef, undef, undef, undef, undef, undef, undef, undef, undef, undef, undef, undef, undef, undef], defers := [] })
    (fun k A B hI hi => by
      obtain ⟨⟨v, h0, ho, hg⟩, h1, hb⟩ := hI
      exact ⟨⟨v, hi.boxed h0 (by omega), hi.owns ho (fun g e => by have := hg g e; omega), hg⟩, hi.boxed h1 (by omega), hi.below hb (by omega) hb.size (fun k h => by omega)⟩)
    (fun _ _ _ _ h _ => h) (fun _ _ _ _ h _ => h) ⟨⟨_, b0, World.ownsRow_nil _ _ _ _, by simp [Value.ownBlock]⟩, b1, hB0⟩ ?assign ?body ?done ?stop
  case assign =>
    intro l k hk W K hi hz hK
    gi_wp2
    exact hK _ _ (Q.refl _) hi ⟨_, List.getElem?_eq_getElem hk, rfl⟩
  case body =>
    rintro l k hk a' W ⟨⟨rc, hrc⟩, hdf⟩ hl ⟨⟨v, h0, ho, hg⟩, h1, hb⟩ ⟨x, hx, rfl⟩ hkb hz
    have hx2 : (wordsL s)[k] = x := Option.some.inj ((List.getElem?_eq_getElem hk).symm.trans hx)
    have hxl : x.length ≤ s.length := by rw [← hx2]; exact hwl.2 _ (List.getElem_mem _)
    have hfl := foldedL_len x
    have hst := tokTo_succ s k hk
    rw [hx2] at hst
    have htl := tokTo_len s k
    have hsW := hb.size
    have hkb2 : w.heap.size + 10 ≤ W.heap.size := by have := hkb (w.heap.size + 9) (.inr (by omega)); omega
    have hkl := hwl.1
    subst hl
    have cf := Folded_any x W (by omega) (HT.out.stays hb)
    have CF := Lib.hid cf; have HST := Lib.hid hst; have H0 := Lib.hid h0; have HO := Lib.hid ho; have HGG := Lib.hid hg; have H1 := Lib.hid h1; have HB := Lib.hid hb
    clear cf hst h0 ho hg h1 hb hx hx2 hdf hrc
    gi_wp2_with fail
    refine ⟨trivial, rfl, (calls_round _ CF.out).mono ?_⟩
    rintro e w3 ⟨rfl, q3⟩
    have b03 : Boxed w3 w.heap.size 54 v := block_stays' q3 H0.out
    have b13 : Boxed w3 (w.heap.size + 1) 3 (.int .i64 (k : Nat)) := block_stays' q3 H1.out
    have o3 := ownsRow_below HO.out q3
    have hb3 := HB.out.trans (Below.mono q3 hsW)
    have kk : Bk (fun b => (b = w.heap.size + 2 ∨ (w.heap.size + 5 ≤ b ∧ b < w.heap.size + 10)) ∨ b = W0.heap.size ∨ b = W0.heap.size + 1) w.heap.size W w3 := Bk.of_q q3 hsW
    have hsz3 := q3.size
    have cst := Stop_any (foldedL x) w3
    have CST := Lib.hid cst; have B0 := Lib.hid b03; have B1 := Lib.hid b13; have O3 := Lib.hid o3; have HB3 := Lib.hid hb3; have KK := Lib.hid kk
    clear cst b03 b13 o3 hb3 kk q3 CF H0 H1 HO HB
    by_cases hf : (foldedL x).length ≤ 40 ∧ stopL (foldedL x) = false
    · have htk : tokOf x k = [(foldedL x, k)] := by unfold tokOf; rw [if_pos hf]
      have HTK := Lib.hid htk; clear htk
      obtain ⟨hf1, hf2⟩ := hf
      rw [hf2] at CST
      generalize foldedL x = t at *
      have c0 := B0.out.cell
      have c1 := B1.out.cell; have f1 := B1.out.frozen
      gi_wp2_with fail
      refine ⟨trivial, rfl, (calls_round _ CST.out).mono ?_⟩
      rintro e w4 ⟨rfl, rfl⟩
      have hbase : w.heap.size ≤ w3.heap.size := by omega
      gi_wp2_with (gi_at_builtin; go_must (refine wpListIn_appN w3 (by rfl) _ _ 54 (by rfl) w.heap.size 58 _ i0 (.agg #[strV [], .int .i64 0]) 2 24 Tryz.underlying54 hi hz0 hz1 hz2 rfl (by decide) (by decide) _ _ _ (by rfl) O3.out 1 (by decide) #[strV t, .int .i64 (k : Nat)] (by rfl) rfl ?c1 ?c2 hbase ?_))
      case c1 => simp [Value.oneCell']
      case c2 => omega
      intro g cp w4 ho4 hg4 hat hlt4 hsz4
      have hn0 : some w.heap.size ≠ v.ownBlock := B0.out.not_row (by decide) O3.out
      have hn1 : some (w.heap.size + 1) ≠ v.ownBlock := B1.out.not_row (by decide) O3.out
      have hge : w.heap.size + 10 ≤ g := by
        rcases hat with h | h
        · exact HGG.out g h
        · omega
      have b04 : Boxed w4 w.heap.size 54 v := B0.out.kept hg4 hn0
      have b14 : Boxed w4 (w.heap.size + 1) 3 (.int .i64 (k : Nat)) := B1.out.kept hg4 hn1
      have hb4 := HB3.out.grown hg4 hbase (fun j hj => by have := HGG.out j hj; omega)
      have kk4 : Bk (fun b => (b = w.heap.size + 2 ∨ (w.heap.size + 5 ≤ b ∧ b < w.heap.size + 10)) ∨ b = W0.heap.size ∨ b = W0.heap.size + 1) w.heap.size W w4 :=
        KK.out.trans (Bk.grown hg4 hbase (fun j hj => by
          have := HGG.out j hj
          obtain ⟨cs, hcs⟩ := owns_kind O3.out j hj
          exact ⟨by omega, by omega, cs, _, _, hcs⟩))
      have hst2 : (tokTo s k).length + 1 = (tokTo s (k + 1)).length ∧ tokVs (tokTo s k) ++ (#[strV t, .int .i64 (k : Nat)] : Array Value).toList = tokVs (tokTo s (k + 1)) := by
        rw [HST.out, HTK.out]; exact ⟨by simp, (tokVs_append (tokTo s k) (t, k)).symm⟩
      rw [hst2.1, hst2.2] at ho4
      have hlen4 := hst2.1
      have B04 := Lib.hid b04; have B14 := Lib.hid b14; have O4 := Lib.hid ho4; have HB4 := Lib.hid hb4; have KK4 := Lib.hid kk4
      have c04 := b04.cell; have f04 := b04.frozen; have c14 := b14.cell; have f14 := b14.frozen
      clear b04 b14 ho4 hb4 kk4 hst2 hg4 hat c0 c1
      gi_wp2_with fail
      refine ⟨KK4.out.trans ((Bk.setCell _ (by simp) (by simp; omega) _).trans (Bk.setCell _ (by simp) (by simp; omega) _)), TokI.next (v := .slice (some ⟨g, 0, none⟩) (tokTo s (k + 1)).length cp) (B04.out.set _) (ownsRow_setCell_other O4.out (by simp [Value.ownBlock]; omega) _) (fun j e => by simp [Value.ownBlock] at e; omega) (B14.out.kept (grownBy_setCell' w4 _ _) (by simp)) (HB4.out.setCell (by simp) _)⟩
    · have htk : tokOf x k = [] := by unfold tokOf; rw [if_neg hf]
      have HTK := Lib.hid htk; clear htk
      by_cases hf1 : (foldedL x).length ≤ 40
      · have hf2 : stopL (foldedL x) = true := by simpa [hf1] using hf
        rw [hf2] at CST
        clear hf hf2
        generalize foldedL x = t at *
        gi_wp2_with fail
        refine ⟨trivial, rfl, (calls_round _ CST.out).mono ?_⟩
        rintro e w4 ⟨rfl, rfl⟩
        have c1 := B1.out.cell; have f1 := B1.out.frozen
        gi_wp2_with fail
        refine ⟨KK.out.trans (Bk.setCell _ (by simp) (by simp; omega) _), TokI.next B0.out (by rw [HST.out, HTK.out, List.append_nil]; exact O3.out) HGG.out B1.out HB3.out⟩
      · generalize foldedL x = t at *
        have hf3 : decide ((t.length : Int) ≤ 40) = false := by simp; omega
        clear hf hf1
        have c1 := B1.out.cell; have f1 := B1.out.frozen
        gi_wp2_with fail
        refine ⟨trivial, ?_⟩
        gi_wp2_with fail
        refine ⟨KK.out.trans (Bk.setCell _ (by simp) (by simp; omega) _), TokI.next B0.out (by rw [HST.out, HTK.out, List.append_nil]; exact O3.out) HGG.out B1.out HB3.out⟩
  case done =>
    rintro D W hD _ ⟨⟨v, h0, ho, hg⟩, h1, hb⟩ hK
    obtain rfl : D = w.heap.size + 3 := by omega
    rw [show tokTo s (wordsL s).length = tokensL s by unfold tokTo tokensL; rw [List.take_length]] at ho
    have c0 := h0.cell
    have HO := Lib.hid ho; have HK := Lib.hid hK; have HB := Lib.hid hb
    clear ho hK hb h1 h0 hD
    gi_wp2_with fail
    refine ⟨by simp, .inl ⟨_, _, rfl, run_takeDeferred HK.out, ?_⟩⟩
    exact ⟨_, results_tmp rfl _ _ _, v, rfl, ownsRow_putObj HO.out _ HK.out rfl, HB.out.trans (Bk.put (own := fun _ => False) (n₀ := w.heap.size) _ HK.out rfl (by omega) (fun h => h)).below⟩
  case stop =>
    rintro D c k W _ _ h _
    exact h.elim
end Go.Proofs.YtcflpcpkmhljkaaGreatDoor
end

/- (WPostA) postings.rising: walked. -/
section
namespace Go.Proofs.YtcflpcpkmhljkaaGreatDoor
open Go.RowKit
set_option linter.unusedVariables false

theorem rising_any (a n b : Int) (w : World) :
    Calls Tryz.prog 223 #[.int .i64 a, .int .i64 n, .int .i64 b] w fun e w' => e = .returned (.bool (decide (a < n) && decide (n < b))) ∧ w = w' := by
  by_cases h1 : a < n
  · by_cases h2 : n < b
    · go_enter Tryz.func223, Tryz.ntmps223
      go_wp2
      go_ret
      exact ⟨ret_bool (by simp [h1, h2]), rfl⟩
    · go_enter Tryz.func223, Tryz.ntmps223
      go_wp2
      go_ret
      exact ⟨ret_bool (by simp [h1, h2]), rfl⟩
  · go_enter Tryz.func223, Tryz.ntmps223
    go_wp2
    go_ret
    exact ⟨ret_bool (by rw [decide_eq_false (by omega)]; rfl), rfl⟩
end Go.Proofs.YtcflpcpkmhljkaaGreatDoor
end
