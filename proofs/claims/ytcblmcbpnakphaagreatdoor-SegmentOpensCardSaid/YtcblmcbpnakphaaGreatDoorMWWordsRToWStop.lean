/- Joined texts of one proof: WWordsR, WWords, WStop. -/
import Derived.Test.YtcblmcbpnakphaaGreatDoorMWVarsToBld2
import Derived.Test.YtcblmcbpnakphaaGreatDoorMRangeToWKind
import Derived.Shelf.RegionOpen
import Derived.Test.YtcblmcbpnakphaaGreatDoorProg
import Derived.Test.YtcblmcbpnakphaaGreatDoorMKitToSegSpec
import Derived.Test.YtcblmcbpnakphaaGreatDoorMTokToWDictR
import Derived.WalkKit
import Derived.WalkSpells
import Derived.WalkLawsBesides
import Derived.Outline
set_option linter.unusedSimpArgs false
set_option linter.unusedVariables false
set_option linter.unnecessarySimpa false
/- (WWordsR) token.words: the two places where the iterator calls yield. -/
section
namespace Go.Proofs.YtcblmcbpnakphaaGreatDoor
open Go.RowKit
set_option linter.unusedVariables false
attribute [local go_sem] Oper.semAt_some

/-- a region of a code, by its number -/
def findRegion (id : Nat) : Code → Option Code
  | .region i ops b => if i = id then some (.region i ops b) else none
  | .seq a b => match findRegion id a with
    | some c => some c
    | none => findRegion id b
  | .block _ c => findRegion id c
  | .scope c => findRegion id c
  | .loop c => findRegion id c
  | .cond _ a b => match findRegion id a with
    | some c => some c
    | none => findRegion id b
  | .rangeFunc _ _ a b => match findRegion id a with
    | some c => some c
    | none => findRegion id b
  | _ => none
noncomputable def wordsYield : Code := ((Tryz.f157.body.bind (findRegion 10)).getD .skip)
noncomputable def wordsLast : Code := ((Tryz.f157.body.bind (findRegion 13)).getD .skip)
set_option maxRecDepth 100000 in
set_option maxHeartbeats 4000000 in
theorem words_yield (s : Bytes) (l l' B Y F f p : Nat) (w : World) (YPost : Bool → World → Prop) (hfp : f < p) (hp : p ≤ s.length) (hs : s.length ≤ 10000000000000)
    (cS : w.cell? ⟨B, 0, none⟩ = some (strV s)) (cY : w.cell? ⟨Y, 0, none⟩ = some (.func (.yield l) #[] #[])) (cF : w.cell? ⟨F, 0, none⟩ = some (.int .i64 (f : Int)))
    {fn : FuncId} {tmps : Array Value} {assign body : Code} (hy : (Instr.yield l #[.string (({ data := s.toArray } : ByteArray).extract f p)]).run Tryz.prog w.drew = .ok (.round l fn tmps assign body) w.drew)
    (HR : Hid (∀ m, RoundIn Fence.wide m Tryz.prog l fn tmps assign body w.drew fun e W' => ∃ b : Bool, e = .returned (.bool b) ∧ YPost b W'))
    (Qx : Exit → Act → World → Prop) (x0 u5 u6 u7 u8 u9 u10 u11 u12 u13 u14 u15 u16 u17 u18 u19 u20 u21 u22 u23 u24 u25 u26 u27 u28 u29 u30 u31 u32 u33 u34 u35 u36 u37 u38 u39 u40 u41 u42 u43 : Value)
    (hQ : ∀ b w4, YPost b w4 → Qx .normal ⟨#[x0, .pointer (some ⟨B, 0, none⟩), .pointer (some ⟨Y, 0, none⟩), .pointer (some ⟨F, 0, none⟩), .int .i64 p, u5, u6, u7, u8, u9, u10, u11, u12, u13, u14, u15, u16, u17, u18, u19, u20, u21, u22, u23, u24, u25, u26, u27, u28, u29, .func (.yield l) #[] #[], strV s, .int .i64 f, .int .i64 p, .string (({ data := s.toArray } : ByteArray).extract f p), .bool b, .bool !b, u37, u38, u39, u40, u41, u42, u43], []⟩ w4) :
    wordsYield.wpIn (Fence.wide.inRound l') 0 Tryz.prog Qx ⟨#[x0, .pointer (some ⟨B, 0, none⟩), .pointer (some ⟨Y, 0, none⟩), .pointer (some ⟨F, 0, none⟩), .int .i64 p, u5, u6, u7, u8, u9, u10, u11, u12, u13, u14, u15, u16, u17, u18, u19, u20, u21, u22, u23, u24, u25, u26, u27, u28, u29, u30, u31, u32, u33, u34, u35, u36, u37, u38, u39, u40, u41, u42, u43], []⟩ w := by
  conv => arg 4; whnf
  have hmx : Tryz.prog.follows .mixedOrders = true := by kernel_rfl
  have HQX := Lib.hid hQ; clear hQ
  gi_region_with_o ((refine ⟨rfl, (round_in _ (HR.out _)).mono ?_⟩; rintro e w4 ⟨b, rfl, hyp⟩))
  all_goals exact HQX.out b w4 hyp
set_option maxRecDepth 100000 in
set_option maxHeartbeats 4000000 in
theorem words_last (s : Bytes) (l B Y F f : Nat) (w : World) (YPost : Bool → World → Prop) (hf : f < s.length) (hs : s.length ≤ 10000000000000)
    (cS : w.cell? ⟨B, 0, none⟩ = some (strV s)) (cY : w.cell? ⟨Y, 0, none⟩ = some (.func (.yield l) #[] #[])) (cF : w.cell? ⟨F, 0, none⟩ = some (.int .i64 (f : Int)))
    {fn : FuncId} {tmps : Array Value} {assign body : Code} (hy : (Instr.yield l #[.string (({ data := s.toArray } : ByteArray).extract f s.length)]).run Tryz.prog w.drew = .ok (.round l fn tmps assign body) w.drew)
    (HR : Hid (∀ m, RoundIn Fence.wide m Tryz.prog l fn tmps assign body w.drew fun e W' => ∃ b : Bool, e = .returned (.bool b) ∧ YPost b W'))
    (ds : List Deferred) (Qx : Exit → Act → World → Prop) (x0 u4 u5 u6 u7 u8 u9 u10 u11 u12 u13 u14 u15 u16 u17 u18 u19 u20 u21 u22 u23 u24 u25 u26 u27 u28 u29 u30 u31 u32 u33 u34 u35 u36 u37 u38 u39 u40 u41 u42 u43 : Value)
    (hQ : ∀ b w4 z39 z40 z41 z42 z43, YPost b w4 → Qx .normal ⟨#[x0, .pointer (some ⟨B, 0, none⟩), .pointer (some ⟨Y, 0, none⟩), .pointer (some ⟨F, 0, none⟩), u4, u5, u6, u7, u8, u9, u10, u11, u12, u13, u14, u15, u16, u17, u18, u19, u20, u21, u22, u23, u24, u25, u26, u27, u28, u29, u30, u31, u32, u33, u34, u35, u36, u37, u38, z39, z40, z41, z42, z43], ds⟩ w4) :
    wordsLast.wpIn Fence.wide 0 Tryz.prog Qx ⟨#[x0, .pointer (some ⟨B, 0, none⟩), .pointer (some ⟨Y, 0, none⟩), .pointer (some ⟨F, 0, none⟩), u4, u5, u6, u7, u8, u9, u10, u11, u12, u13, u14, u15, u16, u17, u18, u19, u20, u21, u22, u23, u24, u25, u26, u27, u28, u29, u30, u31, u32, u33, u34, u35, u36, u37, u38, u39, u40, u41, u42, u43], ds⟩ w := by
  conv => arg 4; whnf
  have hmx : Tryz.prog.follows .mixedOrders = true := by kernel_rfl
  have HQX := Lib.hid hQ; clear hQ
  gi_region_with_o ((refine ⟨rfl, (HR.out _).mono ?_⟩; rintro e w4 ⟨b, rfl, hyp⟩))
  all_goals exact HQX.out b w4 _ _ _ _ _ hyp
end Go.Proofs.YtcblmcbpnakphaaGreatDoor
end

/- (WWords) token.words: the iterator over a text's words: its contract. -/
section
namespace Go.Proofs.YtcblmcbpnakphaaGreatDoor
open Go.RowKit
set_option linter.unusedVariables false
attribute [local go_sem] Oper.semAt_some

theorem words_any (s : Bytes) (w : World) :
    Calls Tryz.prog 127 #[.string ⟨s.toArray⟩] w fun e w' => e = .returned (.func (.func 157) #[] #[.pointer (some ⟨w.heap.size, 0, none⟩)]) ∧ w.alloc (.cells #[strV s] 9) = w' := by
  go_enter Tryz.func127, Tryz.ntmps127
  go_wp2_with fail
  go_ret
  exact ⟨rfl, rfl⟩

abbrev encStr1 (x : Bytes) : Array Value := #[strV x]
/-- where the word that is under way begins; -1: none is -/
def fromI : Option Nat → Int
  | none => -1
  | some f => f
/-- k runes have come: j words have been told, the next rune stands at p, a word from st on is under way -/
def WordsMid (s : Bytes) (k j p : Nat) (st : Option Nat) : Prop :=
  (wordsL s).drop j = wordsF ((chunks s).drop k) (st.map fun f => (s.drop f).take (p - f)) ∧ (runePlaces s).drop k = runesAt p ((chunks s).drop k) ∧ (chunks s).drop k = chunks (s.drop p) ∧ p ≤ s.length ∧ (∀ f, st = some f → f < p) ∧ j ≤ (wordsL s).length
theorem WordsMid.start (s : Bytes) : WordsMid s 0 0 0 none := ⟨by simp [wordsL], by simp, by simp, by omega, by simp, by omega⟩

theorem take_more (l : Bytes) (a b : Nat) : l.take (a + b) = l.take a ++ (l.drop a).take b := by rw [List.take_add]
/-- the next rune -/
theorem WordsMid.next {s : Bytes} {k j p : Nat} {st : Option Nat} (h : WordsMid s k j p st) (hk : k < (runePlaces s).length) :
    ∃ c n, (runePlaces s)[k]? = some (p, c) ∧ (chunks s).drop k = (c, (s.drop p).take n) :: (chunks s).drop (k + 1) ∧ (runePlaces s).drop (k + 1) = runesAt (p + n) ((chunks s).drop (k + 1)) ∧ (chunks s).drop (k + 1) = chunks (s.drop (p + n)) ∧ 1 ≤ n ∧ p + n ≤ s.length ∧ -1 ≤ c ∧ c ≤ 1114111 := by
  obtain ⟨h1, h2, h3, h4, h5, h6⟩ := h
  have hkc : k < (chunks s).length := by rwa [runesAt_length] at hk
  have hne : s.drop p ≠ [] := by
    intro e
    rw [e, chunks_nil, List.drop_eq_getElem_cons hkc] at h3
    cases h3
  have hsz := rune1_size _ hne
  rw [List.length_drop] at hsz
  have hc := chunks_cons _ hne
  rw [List.drop_drop] at hc
  have e3 : (chunks s).drop (k + 1) = chunks (s.drop (p + (rune1 (s.drop p)).2)) := by
    have : (chunks s).drop (k + 1) = ((chunks s).drop k).drop 1 := by rw [List.drop_drop]
    rw [this, h3, hc]; rfl
  have e1 : (chunks s).drop k = ((rune1 (s.drop p)).1, (s.drop p).take (rune1 (s.drop p)).2) :: (chunks s).drop (k + 1) := by rw [h3, hc, e3]
  have hl : ((s.drop p).take (rune1 (s.drop p)).2).length = (rune1 (s.drop p)).2 := by rw [List.length_take, List.length_drop]; omega
  have hx : (runePlaces s).drop k = (p, (rune1 (s.drop p)).1) :: runesAt (p + (rune1 (s.drop p)).2) ((chunks s).drop (k + 1)) := by rw [h2, e1, runesAt, hl]
  have hxk : (runePlaces s)[k]? = some (p, (rune1 (s.drop p)).1) := by
    have := congrArg (fun l => l[0]?) hx
    simpa [List.getElem?_drop] using this
  obtain ⟨c, hc1, hc2, _, _, hlo, hhi⟩ := chunk_at s k _ hxk
  refine ⟨(rune1 (s.drop p)).1, (rune1 (s.drop p)).2, hxk, e1, ?_, e3, hsz.1, by omega, by simp only at hc2; omega, by simp only at hc2; omega⟩
  have : (runePlaces s).drop (k + 1) = ((runePlaces s).drop k).drop 1 := by rw [List.drop_drop]
  rw [this, hx]; rfl
theorem WordsMid.word_none {s : Bytes} {k j p : Nat} (h : WordsMid s k j p none) {c : Int} {n : Nat} (h1 : (chunks s).drop k = (c, (s.drop p).take n) :: (chunks s).drop (k + 1)) (h2 : (runePlaces s).drop (k + 1) = runesAt (p + n) ((chunks s).drop (k + 1))) (h3 : (chunks s).drop (k + 1) = chunks (s.drop (p + n))) (hn : 1 ≤ n) (hp : p + n ≤ s.length)
    (hw : wordRune c = true) : WordsMid s (k + 1) j (p + n) (some p) := by
  obtain ⟨a1, a2, a3, a4, a5, a6⟩ := h
  refine ⟨?_, h2, h3, hp, fun f e => by cases e; omega, a6⟩
  rw [a1, h1]
  simp only [Option.map_none, Option.map_some, wordsF, hw, if_true]
  rw [show p + n - p = n by omega]
theorem WordsMid.word_some {s : Bytes} {k j p f : Nat} (h : WordsMid s k j p (some f)) {c : Int} {n : Nat} (h1 : (chunks s).drop k = (c, (s.drop p).take n) :: (chunks s).drop (k + 1)) (h2 : (runePlaces s).drop (k + 1) = runesAt (p + n) ((chunks s).drop (k + 1))) (h3 : (chunks s).drop (k + 1) = chunks (s.drop (p + n))) (hn : 1 ≤ n) (hp : p + n ≤ s.length)
    (hw : wordRune c = true) : WordsMid s (k + 1) j (p + n) (some f) := by
  obtain ⟨a1, a2, a3, a4, a5, a6⟩ := h
  have hf := a5 f rfl
  refine ⟨?_, h2, h3, hp, fun g e => by cases e; omega, a6⟩
  rw [a1, h1]
  simp only [Option.map_some, wordsF, hw, if_true]
  have e : (s.drop f).take (p + n - f) = (s.drop f).take (p - f) ++ (s.drop p).take n := by
    rw [show p + n - f = (p - f) + n by omega, take_more, List.drop_drop, show f + (p - f) = p by omega]
  rw [e]
theorem WordsMid.other_none {s : Bytes} {k j p : Nat} (h : WordsMid s k j p none) {c : Int} {n : Nat} (h1 : (chunks s).drop k = (c, (s.drop p).take n) :: (chunks s).drop (k + 1)) (h2 : (runePlaces s).drop (k + 1) = runesAt (p + n) ((chunks s).drop (k + 1))) (h3 : (chunks s).drop (k + 1) = chunks (s.drop (p + n))) (hp : p + n ≤ s.length)
    (hw : wordRune c = false) : WordsMid s (k + 1) j (p + n) none := by
  obtain ⟨a1, a2, a3, a4, a5, a6⟩ := h
  refine ⟨?_, h2, h3, hp, fun f e => (by cases e), a6⟩
  rw [a1, h1]
  simp [wordsF, hw]
theorem WordsMid.other_some {s : Bytes} {k j p f : Nat} (h : WordsMid s k j p (some f)) {c : Int} {n : Nat} (h1 : (chunks s).drop k = (c, (s.drop p).take n) :: (chunks s).drop (k + 1)) (h2 : (runePlaces s).drop (k + 1) = runesAt (p + n) ((chunks s).drop (k + 1))) (h3 : (chunks s).drop (k + 1) = chunks (s.drop (p + n))) (hp : p + n ≤ s.length)
    (hw : wordRune c = false) : ∃ hj : j < (wordsL s).length, (wordsL s)[j] = (s.drop f).take (p - f) ∧ WordsMid s (k + 1) (j + 1) (p + n) none := by
  obtain ⟨a1, a2, a3, a4, a5, a6⟩ := h
  rw [h1] at a1
  simp only [Option.map_some, wordsF, hw, Bool.false_eq_true, if_false] at a1
  have hj : j < (wordsL s).length := by
    rcases Nat.lt_or_ge j (wordsL s).length with h | h
    · exact h
    · rw [List.drop_eq_nil_of_le h] at a1; cases a1
  rw [List.drop_eq_getElem_cons hj] at a1
  injection a1 with b1 b2
  exact ⟨hj, b1, b2, h2, h3, hp, fun f e => (by cases e), by omega⟩
theorem WordsMid.end_none {s : Bytes} {k j p : Nat} (h : WordsMid s k j p none) (hk : k = (runePlaces s).length) : j = (wordsL s).length := by
  obtain ⟨a1, a2, a3, a4, a5, a6⟩ := h
  rw [runesAt_length] at hk
  rw [hk, List.drop_length] at a1
  simp only [Option.map_none, wordsF] at a1
  have := congrArg List.length a1
  rw [List.length_drop, List.length_nil] at this
  omega
theorem WordsMid.end_some {s : Bytes} {k j p f : Nat} (h : WordsMid s k j p (some f)) (hk : k = (runePlaces s).length) : ∃ hj : j < (wordsL s).length, (wordsL s)[j] = s.drop f ∧ j + 1 = (wordsL s).length ∧ f < s.length := by
  obtain ⟨a1, a2, a3, a4, a5, a6⟩ := h
  have hf := a5 f rfl
  rw [runesAt_length] at hk
  rw [hk, List.drop_length] at a3
  have hp : p = s.length := by
    rcases Nat.lt_or_ge p s.length with h | h
    · have hne : s.drop p ≠ [] := fun e => by have := congrArg List.length e; rw [List.length_drop] at this; simp at this; omega
      rw [chunks_cons _ hne] at a3; cases a3
    · omega
  rw [hk, List.drop_length] at a1
  simp only [Option.map_some, wordsF] at a1
  rw [hp, List.take_of_length_le (by rw [List.length_drop]; omega)] at a1
  have hj : j < (wordsL s).length := by
    rcases Nat.lt_or_ge j (wordsL s).length with h | h
    · exact h
    · rw [List.drop_eq_nil_of_le h] at a1; cases a1
  rw [List.drop_eq_getElem_cons hj] at a1
  injection a1 with b1 b2
  refine ⟨hj, b1, ?_, by omega⟩
  have := congrArg List.length b2
  rw [List.length_drop, List.length_nil] at this
  omega

/-- what a call of yield leaves -/
def YP (J Jx : Nat → World → Prop) (j : Nat) (keep : Nat → Prop) (n₀ : Nat) (W1 : World) (b : Bool) (W' : World) : Prop := (b = true → J (j + 1) W' ∧ Bk keep n₀ W1 W') ∧ (b = false → Jx (j + 1) W' ∧ Bk keep n₀ W1 W')
theorem yield_post {J Jx : Nat → World → Prop} {j : Nat} {keep : Nat → Prop} {n₀ : Nat} {W1 : World} (e : Ending) (W' : World) (h : (e = .returned (.bool true) ∧ J (j + 1) W' ∧ Bk keep n₀ W1 W') ∨ (e = .returned (.bool false) ∧ Jx (j + 1) W' ∧ Bk keep n₀ W1 W')) :
    ∃ b : Bool, e = .returned (.bool b) ∧ YP J Jx j keep n₀ W1 b W' := by
  rcases h with ⟨rfl, h1, h2⟩ | ⟨rfl, h1, h2⟩
  · exact ⟨true, rfl, fun _ => ⟨h1, h2⟩, fun h => (by cases h)⟩
  · exact ⟨false, rfl, fun h => (by cases h), fun _ => ⟨h1, h2⟩⟩
def WordsI (s : Bytes) (B n₀ l : Nat) (W : World) (J : Nat → World → Prop) (k : Nat) (W1 : World) : Prop :=
  ∃ j p st, WordsMid s k j p st ∧ J j W1 ∧ Boxed W1 B 9 (strV s) ∧ Boxed W1 W.heap.size 53 (.func (.yield l) #[] #[]) ∧ Boxed W1 (W.heap.size + 1) 3 (.int .i64 (fromI st)) ∧ Boxed W1 (W.heap.size + 2) 9 (strV s) ∧ Below n₀ W W1
set_option maxRecDepth 100000 in
set_option maxHeartbeats 2000000 in
theorem words_seq (s : Bytes) (B n₀ : Nat) (W : World) (hs : s.length ≤ 10000000000000) (hb : Boxed W B 9 (strV s)) (hn : n₀ ≤ W.heap.size) (hTb : ∀ W', Below n₀ W W' → Tabs W' ∧ Spans W') :
    Seq Tryz.prog 157 #[.pointer (some ⟨B, 0, none⟩)] encStr1 (fun k => k = W.heap.size + 1) (fun k => k = B ∨ (W.heap.size ≤ k ∧ k < W.heap.size + 5)) n₀ (wordsL s) W := by
  intro n l J Jx hJ hJx hY h0
  have hBlt := hb.lt
  refine callsIn_wide.2 ((callsIn_wide (n := 0)).1 ?_)
  refine callsIn_of_wp_marks Tryz.func157 rfl trivial ?_ rfl
  simp only [Tryz.ntmps157, List.size_toArray, List.length_cons, List.length_nil, Nat.reduceAdd, Nat.reduceSub, Array.replicate_succ, Array.replicate_zero, List.push_toArray, List.append_toArray, List.nil_append, List.cons_append]
  have hc := hb.cell
  have hca : ((W.alloc (.cells #[.func (.yield l) #[] #[]] 53)).alloc (.cells #[.int .i64 (-1)] 3)).cell? ⟨B, 0, none⟩ = some (strV s) := ((hb.alloc _).alloc _).cell
  have HBX := Lib.hid hb; have HY := Lib.hid hY; have H0 := Lib.hid h0; have HTB := Lib.hid hTb; have HJ := Lib.hid hJ; have HJX := Lib.hid hJx; clear hb hY h0 hTb hJ hJx
  gi_wp2_with fail
  refine ⟨trivial, rfl, (callsIn_wide.2 (Runes_any s _)).mono ?_⟩
  rintro e w1 ⟨rfl, rfl⟩
  gi_wp2_with fail
  clear hca hc
  have hq0 : Q W (((W.alloc (.cells #[.func (.yield l) #[] #[]] 53)).alloc (.cells #[.int .i64 (-1)] 3)).alloc (.cells #[strV s] 9)) := ((Q.alloc W _).trans (Q.alloc _ _)).trans (Q.alloc _ _)
  have hsz : (((W.alloc (.cells #[.func (.yield l) #[] #[]] 53)).alloc (.cells #[.int .i64 (-1)] 3)).alloc (.cells #[strV s] 9)).heap.size = W.heap.size + 3 := by simp
  have b0 : Boxed (((W.alloc (.cells #[.func (.yield l) #[] #[]] 53)).alloc (.cells #[.int .i64 (-1)] 3)).alloc (.cells #[strV s] 9)) W.heap.size 53 (.func (.yield l) #[] #[]) := ((Boxed.new W _ _).alloc _).alloc _
  have b1 : Boxed (((W.alloc (.cells #[.func (.yield l) #[] #[]] 53)).alloc (.cells #[.int .i64 (-1)] 3)).alloc (.cells #[strV s] 9)) (W.heap.size + 1) 3 (.int .i64 (-1)) := by
    have := (Boxed.new (W.alloc (.cells #[.func (.yield l) #[] #[]] 53)) 3 (.int .i64 (-1))).alloc (.cells #[strV s] 9)
    simpa using this
  have b2 : Boxed (((W.alloc (.cells #[.func (.yield l) #[] #[]] 53)).alloc (.cells #[.int .i64 (-1)] 3)).alloc (.cells #[strV s] 9)) (W.heap.size + 2) 9 (strV s) := by
    have := Boxed.new ((W.alloc (.cells #[.func (.yield l) #[] #[]] 53)).alloc (.cells #[.int .i64 (-1)] 3)) 9 (strV s)
    simpa using this
  obtain ⟨W0, hW0⟩ : ∃ W0, ((W.alloc (.cells #[.func (.yield l) #[] #[]] 53)).alloc (.cells #[.int .i64 (-1)] 3)).alloc (.cells #[strV s] 9) = W0 := ⟨_, rfl⟩
  rw [hW0] at hq0 hsz b0 b1 b2 ⊢
  clear hW0
  have HSZ := Lib.hid hsz
  refine wp_range (gf := 180) (lb := #[.pointer (some ⟨W.heap.size + 1 + 1, 0, none⟩)]) rfl (enters_of Tryz.func180 (by kernel_rfl) rfl) (encs := encRune) (own := fun _ => False) (keep := fun k => k = W.heap.size + 2) (n₀ := n₀) (xs := runePlaces s)
    (fun W1 hq hz => Runes_seq s (W.heap.size + 2) n₀ W1 (by omega) (block_stays' hq b2) (by omega) (fun W' hb => (HTB.out W' (((Below.mono hq0 hn).trans (Below.mono hq (by omega))).trans hb)).1))
    (fun _ h => h.elim) (fun k h => by omega) (by omega) (fun _ => rfl)
    (WordsI s B n₀ l W J)
    (fun c _ W1 => c = .ret ∧ ∃ j, j ≤ (wordsL s).length ∧ Jx j W1)
    (fun k a' _ => ∃ (x : Nat × Int), (runePlaces s)[k]? = some x ∧ a' = { tmps := #[.func (.yield l) #[] #[], .pointer (some ⟨B, 0, none⟩), .pointer (some ⟨W.heap.size, 0, none⟩), .pointer (some ⟨W.heap.size + 1, 0, none⟩), .int .i64 x.1, .int .i64 x.2, undef, strV s, .func (.func 180) #[] #[.pointer (some ⟨W.heap.size + 1 + 1, 0, none⟩)], .int .i64 x.1, .int .i64 x.2,
      undef, undef, undef, undef, undef, undef, undef, undef, undef, undef, undef, undef, undef, undef, undef, undef, undef, undef, undef, undef, undef, undef, undef, undef, undef, undef, undef, undef, undef, undef, undef, undef, undef], defers := [] })
    (fun k A C hI hi => by
      obtain ⟨j, p, st, h1, h2, h3, h4, h5, h6, h7⟩ := hI
      exact ⟨j, p, st, h1, HJ.out _ _ _ h2 (hi.mono (fun _ h => h.elim) (by omega)), hi.boxed h3 (fun h => h), hi.boxed h4 (fun h => h), hi.boxed h5 (fun h => h), hi.boxed h6 (fun h => h), hi.below h7 (by omega) (by have := h7.size; omega) (fun _ h => h.elim)⟩)
    (fun c k A C h hi => ⟨h.1, by obtain ⟨j, h1, h2⟩ := h.2; exact ⟨j, h1, HJX.out _ _ _ h2 (hi.mono (fun _ h => h.elim) (by omega))⟩⟩) (fun _ _ _ _ h _ => h)
    ⟨0, 0, none, WordsMid.start s, HJ.out _ _ _ H0.out (Itk.of_q hq0), block_stays' hq0 HBX.out, b0, b1, b2, Below.mono hq0 hn⟩ ?assign ?body ?done ?stop
  case assign =>
    intro l' k hk W' K hi hz hK
    gi_wp2
    exact hK _ _ (Q.refl _) hi ⟨_, List.getElem?_eq_getElem hk, rfl⟩
  case body =>
    rintro l' k hk a' W' ⟨⟨rc, hrc⟩, hdf⟩ hl ⟨j, p, st, h1, h2, h3, h4, h5, h6, h7⟩ ⟨x, hx, rfl⟩ _ hz
    obtain ⟨c, n, hx', e1, e2, e3, hn1, hpn, hlo, hhi⟩ := h1.next hk
    rw [hx] at hx'
    simp only [Option.some.injEq] at hx'
    subst hx'
    subst hl
    simp only
    have hws : wordRune c = (decide (0 ≤ c) && (kindL c == 1 || kindL c == 2)) := rfl
    have hkb := kindL_bounds c
    have ck := Kind_any c W' hlo hhi (HTB.out W' h7).2
    have hnW := h7.size
    have CK := Lib.hid ck; have HWS := Lib.hid hws; have H1 := Lib.hid h1; have H2 := Lib.hid h2; have H3 := Lib.hid h3; have H4 := Lib.hid h4; have H5 := Lib.hid h5; have H6 := Lib.hid h6; have H7 := Lib.hid h7
    have E1 := Lib.hid e1; have E2 := Lib.hid e2; have E3 := Lib.hid e3; have HRC := Lib.hid hrc; have HDF := Lib.hid hdf
    clear ck hws h1 h2 h3 h4 h5 h6 h7 e1 e2 e3 hx hrc hdf hsz hq0 b0 b1 b2
    generalize kindL c = kd at *
    gi_wp2_with fail
    refine ⟨trivial, rfl, (calls_round _ CK.out).mono ?_⟩
    rintro e w3 ⟨rfl, q3⟩
    have k3 := block_stays' q3 H3.out
    have k4 := block_stays' q3 H4.out
    have k5 := block_stays' q3 H5.out
    have k6 := block_stays' q3 H6.out
    have kl := block_stays' q3 HRC.out
    have kd' := block_stays' q3 HDF.out
    have k7 := H7.out.trans (Below.mono q3 (by omega))
    have k2 := HJ.out _ _ _ H2.out (Itk.of_q q3)
    have kk : Bk (fun b => b = W.heap.size + 2 ∨ b = W0.heap.size ∨ b = W0.heap.size + 1) n₀ W' w3 := Bk.of_q q3 (by omega)
    have cS : w3.cell? ⟨B, 0, none⟩ = some (strV s) := Boxed.cell k3
    have cY : w3.cell? ⟨W.heap.size, 0, none⟩ = some (.func (.yield l) #[] #[]) := Boxed.cell k4
    have cF : w3.cell? ⟨W.heap.size + 1, 0, none⟩ = some (.int .i64 (fromI st)) := Boxed.cell k5
    have fF : w3.frozen? ⟨W.heap.size + 1, 0, none⟩ = false := Boxed.frozen k5
    have K3 := Lib.hid k3; have K4 := Lib.hid k4; have K5 := Lib.hid k5; have K6 := Lib.hid k6; have KL := Lib.hid kl; have KD := Lib.hid kd'; have K7 := Lib.hid k7; have K2 := Lib.hid k2; have KK := Lib.hid kk
    clear k3 k4 k5 k6 kl kd' k7 k2 kk q3
    cases hw : wordRune c with
    | true =>
      have hcc : 0 ≤ c ∧ (kd = 1 ∨ kd = 2) := by
        have := HWS.out; rw [hw] at this
        simpa using this.symm
      obtain ⟨hc0, hkd⟩ := hcc
      have HW := Lib.hid hw; clear hw
      cases st with
      | none =>
        rw [show fromI none = -1 from rfl] at cF
        rcases hkd with rfl | rfl
        all_goals
          gi_wp2_with fail
          refine ⟨KK.out.trans (Bk.setCell _ (by show n₀ ≤ W.heap.size + 1; omega) (by show ¬ (W.heap.size + 1 = W.heap.size + 2 ∨ W.heap.size + 1 = W0.heap.size ∨ W.heap.size + 1 = W0.heap.size + 1); have := HSZ.out; omega) _), j, p + n, some p, H1.out.word_none E1.out E2.out E3.out hn1 hpn HW.out, ?_, ?_, ?_, ?_, ?_, ?_⟩
          · exact HJ.out _ _ _ K2.out (Itk.setOwn (own := fun k => k = W.heap.size + 1) w3 (b := W.heap.size + 1) rfl ⟨W.heap.size + 1, 0, none⟩ rfl _)
          · exact Boxed.other K3.out (by omega) _
          · exact Boxed.other K4.out (by omega) _
          · exact Boxed.set _ K5.out
          · exact Boxed.other K6.out (by omega) _
          · exact K7.out.setCell (by show n₀ ≤ W.heap.size + 1; omega) _
      | some f =>
        rw [show fromI (some f) = (f : Int) from rfl] at cF
        rcases hkd with rfl | rfl
        all_goals
          gi_wp2_with fail
          exact ⟨KK.out, j, p + n, some f, H1.out.word_some E1.out E2.out E3.out hn1 hpn HW.out, K2.out, K3.out, K4.out, K5.out, K6.out, K7.out⟩
    | false =>
      have hcc : c < 0 ∨ (0 ≤ c ∧ (kd = 0 ∨ kd = 3)) := by
        have := HWS.out; rw [hw] at this
        simp at this
        omega
      have HW := Lib.hid hw; clear hw
      cases st with
      | none =>
        rw [show fromI none = -1 from rfl] at cF
        rcases hcc with hc0 | ⟨hc0, rfl | rfl⟩
        all_goals
          gi_wp2_with fail
          exact ⟨KK.out, j, p + n, none, H1.out.other_none E1.out E2.out E3.out hpn HW.out, K2.out, K3.out, K4.out, K5.out, K6.out, K7.out⟩
      | some f =>
        rw [show fromI (some f) = (f : Int) from rfl] at cF
        have hfp := H1.out.2.2.2.2.1 f rfl
        obtain ⟨hjl, hwd, hnx⟩ := H1.out.other_some E1.out E2.out E3.out hpn HW.out
        obtain ⟨fn, tmps, assign, body, hy, hR⟩ := HY.out j hjl w3.drew (HJ.out _ _ _ K2.out (Itk.of_q (Q.drew _))) (by
          intro b hb
          have h0 := KL.out
          have := lt_of_get h0
          have h1 := lt_of_get K3.out
          have := HSZ.out
          show b < w3.heap.size
          omega)
        rw [hwd] at hy
        dsimp only [encStr1] at hy
        rw [show strV ((s.drop f).take (p - f)) = .string (({ data := s.toArray } : ByteArray).extract f p) from by rw [bytes_extract]] at hy
        have hR2 := fun m => (hR m).mono yield_post
        have HR := Lib.hid hR2; have HNX := Lib.hid hnx; clear hR hR2 hnx hwd
        rcases hcc with hc0 | ⟨hc0, rfl | rfl⟩
        all_goals
          gi_wp2_with fail
          refine words_yield s l _ B W.heap.size (W.heap.size + 1) f p w3 (YP J Jx j (fun k => k = B ∨ (W.heap.size ≤ k ∧ k < W.heap.size + 5)) n₀ w3.drew) hfp (by omega) hs cS cY cF hy HR _ _ _ _ _ _ _ _ _ _ _ _ _ _ _ _ _ _ _ _ _ _ _ _ _ _ _ _ _ _ _ _ _ _ _ _ _ _ _ _ _ ?_
          intro b w4 hyp
          cases b with
          | true =>
            obtain ⟨hj4, hb4⟩ := hyp.1 rfl
            have m3 : Boxed w4 B 9 (strV s) := (hb4.own B (.inl rfl) (lt_of_get K3.out)).trans K3.out
            have m4 : Boxed w4 W.heap.size 53 (.func (.yield l) #[] #[]) := (hb4.own _ (.inr ⟨by omega, by omega⟩) (lt_of_get K4.out)).trans K4.out
            have m5 : Boxed w4 (W.heap.size + 1) 3 (.int .i64 (fromI (some f))) := (hb4.own _ (.inr ⟨by omega, by omega⟩) (lt_of_get K5.out)).trans K5.out
            have m6 : Boxed w4 (W.heap.size + 2) 9 (strV s) := (hb4.own _ (.inr ⟨by omega, by omega⟩) (lt_of_get K6.out)).trans K6.out
            have m7 := K7.out.drew.trans hb4.below
            have cF4 : w4.cell? ⟨W.heap.size + 1, 0, none⟩ = some (.int .i64 (fromI (some f))) := Boxed.cell m5
            have fF4 : w4.frozen? ⟨W.heap.size + 1, 0, none⟩ = false := Boxed.frozen m5
            have mk : Bk (fun b => b = W.heap.size + 2 ∨ b = W0.heap.size ∨ b = W0.heap.size + 1) n₀ W' w4 := (KK.out.trans (Bk.of_q (Q.drew _) (by have := K7.out.size; omega))).trans (hb4.mono (fun b h => by
              have := HSZ.out
              right
              rcases h with rfl | h | h <;> omega) (Nat.le_refl _))
            have hsz4 := m7.size
            have M3 := Lib.hid m3; have M4 := Lib.hid m4; have M5 := Lib.hid m5; have M6 := Lib.hid m6; have M7 := Lib.hid m7; have MK := Lib.hid mk; have MJ := Lib.hid hj4
            clear m3 m4 m5 m6 m7 mk hj4 hb4 hyp
            gi_wp2_with fail
            refine ⟨MK.out.trans (Bk.setCell _ (by show n₀ ≤ W.heap.size + 1; omega) (by show ¬ (W.heap.size + 1 = W.heap.size + 2 ∨ W.heap.size + 1 = W0.heap.size ∨ W.heap.size + 1 = W0.heap.size + 1); have := HSZ.out; omega) _), j + 1, p + n, none, HNX.out, ?_, ?_, ?_, ?_, ?_, ?_⟩
            · exact HJ.out _ _ _ MJ.out (Itk.setOwn (own := fun k => k = W.heap.size + 1) w4 (b := W.heap.size + 1) rfl ⟨W.heap.size + 1, 0, none⟩ rfl _)
            · exact Boxed.other M3.out (by omega) _
            · exact Boxed.other M4.out (by omega) _
            · exact Boxed.set _ M5.out
            · exact Boxed.other M6.out (by omega) _
            · exact M7.out.setCell (by show n₀ ≤ W.heap.size + 1; omega) _
          | false =>
            obtain ⟨hj4, hb4⟩ := hyp.2 rfl
            have mk : Bk (fun b => b = W.heap.size + 2 ∨ b = W0.heap.size ∨ b = W0.heap.size + 1) n₀ W' w4 := (KK.out.trans (Bk.of_q (Q.drew _) (by have := K7.out.size; omega))).trans (hb4.mono (fun b h => by
              have := HSZ.out
              right
              rcases h with rfl | h | h <;> omega) (Nat.le_refl _))
            have HJ4 := Lib.hid hj4; have MK := Lib.hid mk
            clear hj4 hb4 hyp mk
            gi_wp2_with fail
            exact ⟨MK.out, rfl, j + 1, by omega, HJ4.out⟩
  case done =>
    rintro D W' hD hWz ⟨j, p, st, h1, h2, h3, h4, h5, h6, h7⟩ hK
    obtain rfl : D = W.heap.size + 3 := by omega
    have hsz7 := h7.size
    have cS := h3.cell
    have cY := h4.cell
    have cF := h5.cell
    rw [hsz] at hWz
    clear hD hsz b0 b1 b2 hq0
    cases st with
    | none =>
      rw [show fromI none = -1 from rfl] at cF
      have hj := h1.end_none rfl
      have H2 := Lib.hid h2; have HK := Lib.hid hK; have HJE := Lib.hid hj; clear h2 hK hj h1 h3 h4 h5 h6
      gi_wp2_with fail
      refine ⟨by simp, .inl ⟨_, _, rfl, run_takeDeferred HK.out, ?_⟩⟩
      refine ⟨_, results_none rfl _ _ _, ⟨_, rfl⟩, .inl ?_⟩
      rw [← HJE.out]
      exact HJ.out _ _ _ H2.out (Itk.put _ HK.out rfl (by omega))
    | some f =>
      rw [show fromI (some f) = (f : Int) from rfl] at cF
      obtain ⟨hjl, hwd, hje, hfl⟩ := h1.end_some rfl
      obtain ⟨fn, tmps, assign, body, hy, hR⟩ := HY.out j hjl W'.drew (HJ.out _ _ _ h2 (Itk.of_q (Q.drew _))) (by
        intro b hb
        have h0 := lt_of_get hK
        have h1 := lt_of_get h3
        show b < W'.heap.size
        omega)
      rw [hwd] at hy
      dsimp only [encStr1] at hy
      rw [show strV (s.drop f) = .string (({ data := s.toArray } : ByteArray).extract f s.length) from by rw [bytes_drop]] at hy
      have hR2 := fun m => (hR m).mono yield_post
      have HR := Lib.hid hR2; have HK := Lib.hid hK; clear hR hR2 hwd hK h1 h2 h3 h4 h5 h6
      gi_wp2_with fail
      refine words_last s l B W.heap.size (W.heap.size + 1) f W' (YP J Jx j (fun k => k = B ∨ (W.heap.size ≤ k ∧ k < W.heap.size + 5)) n₀ W'.drew) hfl hs cS cY cF hy HR _ _ _ _ _ _ _ _ _ _ _ _ _ _ _ _ _ _ _ _ _ _ _ _ _ _ _ _ _ _ _ _ _ _ _ _ _ _ _ _ _ _ _ ?_
      intro b w4 z39 z40 z41 z42 z43 hyp
      have hb4 : Bk (fun k => k = B ∨ (W.heap.size ≤ k ∧ k < W.heap.size + 5)) n₀ W'.drew w4 := by
        cases b with
        | true => exact (hyp.1 rfl).2
        | false => exact (hyp.2 rfl).2
      have hk4 := (hb4.own (W.heap.size + 3) (.inr ⟨by omega, by omega⟩) (lt_of_get HK.out)).trans HK.out
      have HK4 := Lib.hid hk4; have HYP := Lib.hid hyp; clear hk4 hb4 hyp
      gi_wp2_with fail
      refine ⟨by simp, .inl ⟨_, _, rfl, run_takeDeferred HK4.out, ?_⟩⟩
      refine ⟨_, results_none rfl _ _ _, ⟨_, rfl⟩, ?_⟩
      cases b with
      | true =>
        left
        have := (HYP.out.1 rfl).1
        rw [hje] at this
        exact HJ.out _ _ _ this (Itk.put _ HK4.out rfl (by omega))
      | false =>
        right
        exact ⟨j + 1, by omega, HJX.out _ _ _ (HYP.out.2 rfl).1 (Itk.put _ HK4.out rfl (by omega))⟩
  case stop =>
    rintro D c k W' hD hk ⟨rfl, j, hj, hjx⟩ hK
    have HK := Lib.hid hK; have HX := Lib.hid hjx; clear hK hjx
    gi_wp2_with fail
    refine ⟨by simp, .inl ⟨_, _, rfl, run_takeDeferred HK.out, ?_⟩⟩
    exact ⟨_, results_none rfl _ _ _, ⟨_, rfl⟩, .inr ⟨j, hj, HJX.out _ _ _ HX.out (Itk.put _ HK.out rfl (by omega))⟩⟩
end Go.Proofs.YtcblmcbpnakphaaGreatDoor
end

/- (WStop) token.Stop: walked. -/
section
namespace Go.Proofs.YtcblmcbpnakphaaGreatDoor
open Go.RowKit
set_option linter.unusedVariables false

theorem stops_eq : stopsL = [[97], [97, 110], [97, 110, 100], [97, 114, 101], [97, 115], [97, 116], [98, 101], [98, 121], [102, 111, 114], [105, 110], [105, 115], [105, 116], [111, 102], [111, 110], [111, 114], [116, 104, 101], [116, 111], [119, 105, 116, 104]] := by decide
set_option maxRecDepth 100000 in
set_option maxHeartbeats 2000000 in
theorem Stop_any (t : Bytes) (w : World) :
    Calls Tryz.prog 129 #[.string ⟨t.toArray⟩] w fun e w' => e = .returned (.bool (stopL t)) ∧ w = w' := by
  by_cases hm : t ∈ stopsL
  · have hs : stopL t = true := by unfold stopL; simpa using hm
    rw [stops_eq] at hm
    simp only [List.mem_cons, List.not_mem_nil, or_false] at hm
    have HS := Lib.hid hs; clear hs
    rcases hm with rfl | rfl | rfl | rfl | rfl | rfl | rfl | rfl | rfl | rfl | rfl | rfl | rfl | rfl | rfl | rfl | rfl | rfl
    all_goals
      go_enter Tryz.func129, Tryz.ntmps129
      go_wp2
      go_ret
      exact ⟨ret_bool HS.out.symm, rfl⟩
  · have hs : stopL t = false := by unfold stopL; simpa using hm
    have HS := Lib.hid hs; clear hs
    rw [stops_eq] at hm
    simp only [List.mem_cons, List.not_mem_nil, or_false, not_or] at hm
    have hf : ∀ x : Bytes, t ≠ x → (t == x) = false := fun x h => by simpa using h
    obtain ⟨m0, m1, m2, m3, m4, m5, m6, m7, m8, m9, m10, m11, m12, m13, m14, m15, m16, m17⟩ := hm
    have e0 := hf _ m0; clear m0
    have e1 := hf _ m1; clear m1
    have e2 := hf _ m2; clear m2
    have e3 := hf _ m3; clear m3
    have e4 := hf _ m4; clear m4
    have e5 := hf _ m5; clear m5
    have e6 := hf _ m6; clear m6
    have e7 := hf _ m7; clear m7
    have e8 := hf _ m8; clear m8
    have e9 := hf _ m9; clear m9
    have e10 := hf _ m10; clear m10
    have e11 := hf _ m11; clear m11
    have e12 := hf _ m12; clear m12
    have e13 := hf _ m13; clear m13
    have e14 := hf _ m14; clear m14
    have e15 := hf _ m15; clear m15
    have e16 := hf _ m16; clear m16
    have e17 := hf _ m17; clear m17
    clear hf
    go_enter Tryz.func129, Tryz.ntmps129
    go_wp2
    go_ret
    exact ⟨ret_bool HS.out.symm, rfl⟩
end Go.Proofs.YtcblmcbpnakphaaGreatDoor
end
