/- Joined texts of one proof: WFolded, Bld2, WWordsR. -/
import Derived.Test.YtcflpcpkmhljkaaGreatDoorMWRunesToWTexts
import Derived.Test.YtcflpcpkmhljkaaGreatDoorMOwnToWDictI
import Derived.Test.YtcflpcpkmhljkaaGreatDoorMRangeToWKind
import Derived.Shelf.RegionOpen
set_option linter.unusedSimpArgs false
set_option linter.unusedVariables false
set_option linter.unnecessarySimpa false
/- (WFolded) utf.Folded: walked. -/
section
namespace Go.Proofs.YtcflpcpkmhljkaaGreatDoor
open Go.RowKit
set_option linter.unusedVariables false
attribute [local go_sem] Oper.semAt_some

theorem String_step (B b : Nat) (r : Option Nat) (l : Bytes) (w : World) (h : Bld w B b r l) :
    Calls Tryz.prog 116 #[.pointer (some ⟨b, 0, none⟩)] w fun e w' => e = .returned (.string ⟨l.toArray⟩) ∧ Step2 w w' b r := by
  cases l with
  | nil => exact (String_nil B b r w h).mono fun e w' ⟨h1, h2⟩ => ⟨h1, ⟨h2.os, h2.tape, h2.output, h2.size, fun k hk _ _ => h2.block k hk⟩⟩
  | cons x l => exact (String_some B b r (x :: l) w h (by simp)).mono fun e w' ⟨h1, h2, _⟩ => ⟨h1, h2⟩
theorem Bld.cellsRow {w : World} {B b : Nat} {r : Option Nat} {l : Bytes} (h : Bld w B b r l) : ∀ g, r = some g → ∃ cs fz, w.heap[g]? = some (.cells cs 5 fz) := by
  obtain ⟨_, p, v, _, _, ho, hr, _, _⟩ := h
  intro g hg
  rcases ho.2 with ⟨hv, _⟩ | ⟨g', cap, cur, fz, hv, _, hgg, _⟩
  · rw [hv, hg] at hr; cases hr
  · rw [hv, hg] at hr
    simp only [Value.ownBlock, Option.some.injEq] at hr
    subst hr
    exact ⟨_, _, hgg⟩
theorem Bld.itk {w w' : World} {B b : Nat} {r : Option Nat} {l : Bytes} {own : Nat → Prop} {lo : Nat} (h : Bld w B b r l) (hi : Itk own lo w w') (hb : ¬ own b) (hr : ∀ g, r = some g → ¬ own g) : Bld w' B b r l := by
  obtain ⟨p, v, hbk⟩ : ∃ p v, w.heap[b]? = some (.cells #[p, v] 190 (0, 0)) := by obtain ⟨_, p, v, h2, _⟩ := h; exact ⟨p, v, h2⟩
  refine h.stays ((hi.get hbk hb).trans hbk.symm) (fun g hg => ?_) hi.size
  obtain ⟨cs, fz, hc⟩ := h.cellsRow g hg
  exact (hi.get hc (hr g hg)).trans hc.symm
/-- a builder and its row are no box of another type -/
theorem Bld.not_box {w : World} {B b : Nat} {r : Option Nat} {l : Bytes} (h : Bld w B b r l) {k : Nat} {t : TypeId} {v : Value} (hx : Boxed w k t v) (h1 : t ≠ 5) (h2 : t ≠ 190) : k ≠ b ∧ some k ≠ r := by
  refine ⟨fun e => ?_, fun e => ?_⟩
  · obtain ⟨_, p, v', h3, _⟩ := h
    rw [← e, show w.heap[k]? = _ from hx] at h3
    injection h3 with h3
    injection h3 with _ h3 _
    exact h2 h3
  · obtain ⟨cs, fz, hc⟩ := h.cellsRow k e.symm
    rw [show w.heap[k]? = _ from hx] at hc
    cases hc
    exact h1 rfl
/-- a builder's step keeps a box of another type -/
theorem Step2.boxed {w w' : World} {B b : Nat} {r : Option Nat} {l : Bytes} (hs : Step2 w w' b r) (h : Bld w B b r l) {k : Nat} {t : TypeId} {v : Value} (hx : Boxed w k t v) (h1 : t ≠ 5) (h2 : t ≠ 190) : Boxed w' k t v := by
  obtain ⟨a, b'⟩ := h.not_box hx h1 h2
  exact (hs.block k hx.lt a b').trans hx
theorem Step2.walks {w w' : World} {B b : Nat} {r : Option Nat} {l : Bytes} (hs : Step2 w w' b r) (h : Bld w B b r l) {k : Nat} {o : Obj} (hk : w.heap[k]? = some o) (ho : o.isCells = false) : w'.heap[k]? = some o := by
  refine (hs.block k (lt_of_get hk) (fun e => ?_) (fun e => ?_)).trans hk
  · obtain ⟨_, p, v', h3, _⟩ := h
    rw [e, h3] at hk; cases hk; cases ho
  · obtain ⟨cs, fz, hc⟩ := h.cellsRow k e.symm
    rw [hc] at hk; cases hk; cases ho

/-- a builder's step in a round -/
theorem Bk.of_step {W W' : World} {B b : Nat} {r : Option Nat} {l : Bytes} {keep : Nat → Prop} (h : Bld W B b r l) (hs : Step2 W W' b r) (hB : B ≤ W.heap.size) (hk : ∀ k, keep k → k < W.heap.size → k ≠ b ∧ some k ≠ r) : Bk keep B W W' :=
  ⟨h.below hs hB, fun k h1 h2 => hs.block k h2 (hk k h1 h2).1 (hk k h1 h2).2, fun k o h1 h2 => hs.walks h h1 (Obj.not_cells_of_walk h2)⟩
theorem Bld.not_other {w : World} {B b : Nat} {r : Option Nat} {l : Bytes} (h : Bld w B b r l) {k : Nat} {o : Obj} (hk : w.heap[k]? = some o) (ho : o.isCells = false) : k ≠ b ∧ some k ≠ r := by
  refine ⟨fun e => ?_, fun e => ?_⟩
  · obtain ⟨_, p, v', h3, _⟩ := h
    rw [e, h3] at hk; cases hk; cases ho
  · obtain ⟨cs, fz, hc⟩ := h.cellsRow k e.symm
    rw [hc] at hk; cases hk; cases ho
theorem chunksF_at (s : Bytes) (n p : Nat) (h : (s.drop p).length ≤ n) (k : Nat) (c : Int × Bytes) (hc : (chunksF n (s.drop p))[k]? = some c) :
    ∃ q, (runesAt p (chunksF n (s.drop p)))[k]? = some (q, c.1) ∧ q < s.length ∧ c.2.take 1 = [s.getD q 0] ∧ -1 ≤ c.1 ∧ c.1 ≤ 1114111 := by
  induction n generalizing p k with
  | zero => simp [chunksF] at hc
  | succ n ih =>
    rw [chunksF] at hc ⊢
    by_cases h0 : s.drop p = []
    · rw [if_pos h0] at hc; simp at hc
    · rw [if_neg h0] at hc ⊢
      have hsz := rune1_size _ h0
      rw [List.length_drop] at hsz h
      cases k with
      | zero =>
        simp only [List.getElem?_cons_zero, Option.some.injEq] at hc
        subst hc
        refine ⟨p, by simp [runesAt], by omega, ?_, ?_⟩
        · rw [List.take_take, Nat.min_eq_left (by omega)]
          cases hd : s.drop p with
          | nil => exact absurd hd h0
          | cons b t =>
            have hb : s.getD p 0 = b := by
              have : s[p]? = some b := by
                have := congrArg (fun l => l[0]?) hd
                simpa [List.getElem?_drop] using this
              rw [List.getD_eq_getElem?_getD, this]; rfl
            rw [hb]; rfl
        · have := (decode_drop s p (by omega))
          cases hd : s.drop p with
          | nil => exact absurd hd h0
          | cons b t =>
            have hb := (decodeN_bounds (b :: t).length ((b :: t).getD 0 0).toNat ((b :: t).getD 1 0).toNat ((b :: t).getD 2 0).toNat ((b :: t).getD 3 0).toNat).1
            unfold rune1
            simp only []
            split <;> simp only [] <;> omega
      | succ k =>
        rw [List.getElem?_cons_succ] at hc
        rw [List.drop_drop] at hc
        obtain ⟨q, h1, h2⟩ := ih (p + (rune1 (s.drop p)).2) (by rw [List.length_drop]; omega) k hc
        refine ⟨q, ?_, h2⟩
        rw [runesAt, List.getElem?_cons_succ, List.length_take, List.length_drop, Nat.min_eq_left (by omega), List.drop_drop]
        exact h1
theorem chunk_at (s : Bytes) (k : Nat) (x : Nat × Int) (hx : (runePlaces s)[k]? = some x) : ∃ c, (chunks s)[k]? = some c ∧ x.2 = c.1 ∧ x.1 < s.length ∧ c.2.take 1 = [s.getD x.1 0] ∧ -1 ≤ c.1 ∧ c.1 ≤ 1114111 := by
  have hk : k < (chunks s).length := by
    have := (List.getElem?_eq_some_iff.1 hx).1
    rwa [runesAt_length] at this
  obtain ⟨q, h1, h2⟩ := chunksF_at s s.length 0 (by simp) k (chunks s)[k] (by simpa [chunks] using hk)
  rw [List.drop_zero] at h1
  have : (runePlaces s)[k]? = some (q, (chunks s)[k].1) := h1
  rw [hx] at this
  cases this
  exact ⟨_, List.getElem?_eq_getElem hk, rfl, h2⟩
theorem foldC_len (c : Int × Bytes) : (foldC c).length ≤ 4 := by
  unfold foldC
  split
  · rw [List.length_take]; omega
  · have := (Lib.runeCells_le (runeOfL (foldL c.1))).2
    rwa [Lib.runeCells_length] at this
theorem foldCs_len (l : List (Int × Bytes)) : (l.flatMap foldC).length ≤ 4 * l.length := by
  induction l with
  | nil => simp
  | cons c l ih =>
    have := foldC_len c
    rw [List.flatMap_cons, List.length_append, List.length_cons]; omega
theorem chunksF_len (n : Nat) (s : Bytes) : (chunksF n s).length ≤ n := by
  induction n generalizing s with
  | zero => simp [chunksF]
  | succ n ih => rw [chunksF]; split <;> simp; exact ih _
theorem foldL_bounds (r : Int) (h0 : 0 ≤ r) (h1 : r ≤ 1114111) : -9223372036854775808 ≤ foldL r ∧ foldL r ≤ 9223372036854775807 := by
  unfold foldL
  repeat' split
  all_goals omega
theorem runeOfL_bounds (r : Int) : -2147483648 ≤ runeOfL r ∧ runeOfL r ≤ 2147483647 := by
  unfold runeOfL
  split <;> omega

set_option maxRecDepth 100000 in
set_option maxHeartbeats 4000000 in
theorem Folded_any (s : Bytes) (w : World) (hs : s.length ≤ 10000000000000) (hT : Tabs w) :
    Calls Tryz.prog 75 #[.string ⟨s.toArray⟩] w fun e w' => e = .returned (.string ⟨(foldedL s).toArray⟩) ∧ Q w w' := by
  refine (callsIn_wide (n := 0)).1 ?_
  refine callsIn_of_wp_marks Tryz.func75 rfl trivial ?_ rfl
  simp only [Tryz.ntmps75, List.size_toArray, List.length_cons, List.length_nil, Nat.reduceAdd, Nat.reduceSub, Array.replicate_succ, Array.replicate_zero, List.push_toArray, List.append_toArray, List.nil_append, List.cons_append]
  gi_wp2_with fail
  refine ⟨trivial, rfl, (callsIn_wide.2 (Runes_any s _)).mono ?_⟩
  rintro e w1 ⟨rfl, rfl⟩
  gi_wp2_with fail
  have hB0 : Below w.heap.size w (((w.alloc (.cells #[strV s] 9)).alloc (.cells #[.pointer none, .slice none 0 0] 190)).alloc (.cells #[strV s] 9)) := (((Below.refl _ w).alloc (Nat.le_refl _) _).alloc (by simp) _).alloc (by simp; omega) _
  have hsz : (((w.alloc (.cells #[strV s] 9)).alloc (.cells #[.pointer none, .slice none 0 0] 190)).alloc (.cells #[strV s] 9)).heap.size = w.heap.size + 3 := by simp
  have b0 : Boxed (((w.alloc (.cells #[strV s] 9)).alloc (.cells #[.pointer none, .slice none 0 0] 190)).alloc (.cells #[strV s] 9)) w.heap.size 9 (strV s) := ((Boxed.new w _ _).alloc _).alloc _
  have b2 : Boxed (((w.alloc (.cells #[strV s] 9)).alloc (.cells #[.pointer none, .slice none 0 0] 190)).alloc (.cells #[strV s] 9)) (w.heap.size + 2) 9 (strV s) := by
    have := Boxed.new ((w.alloc (.cells #[strV s] 9)).alloc (.cells #[.pointer none, .slice none 0 0] 190)) 9 (strV s)
    simpa using this
  have b1 : Bld (((w.alloc (.cells #[strV s] 9)).alloc (.cells #[.pointer none, .slice none 0 0] 190)).alloc (.cells #[strV s] 9)) w.heap.size (w.heap.size + 1) none [] := by
    have := (Bld.new (w.alloc (.cells #[strV s] 9)) w.heap.size (by simp)).alloc (.cells #[strV s] 9)
    simpa using this
  have HT := Lib.hid hT; clear hT
  obtain ⟨W0, hW0⟩ : ∃ W0, ((w.alloc (.cells #[strV s] 9)).alloc (.cells #[.pointer none, .slice none 0 0] 190)).alloc (.cells #[strV s] 9) = W0 := ⟨_, rfl⟩
  rw [hW0] at hB0 hsz b0 b1 b2 ⊢
  clear hW0
  refine wp_range (gf := 155) (lb := #[.pointer (some ⟨w.heap.size + 1 + 1, 0, none⟩)]) rfl (enters_of Tryz.func155 (by kernel_rfl) rfl) (encs := encRune) (own := fun _ => False) (keep := fun k => k = w.heap.size + 2) (n₀ := w.heap.size) (xs := runePlaces s)
    (fun W1 hq hz => Runes_seq s (w.heap.size + 2) w.heap.size W1 (by omega) (block_stays' hq b2) (by omega) (fun W' hb => HT.out.stays ((hB0.trans (Below.mono hq (by omega))).trans hb)))
    (fun _ h => h.elim) (fun k h => by omega) (by omega) (fun _ => rfl)
    (fun k W => (∃ r, Bld W w.heap.size (w.heap.size + 1) r (((chunks s).take k).flatMap foldC)) ∧ Boxed W w.heap.size 9 (strV s) ∧ Boxed W (w.heap.size + 2) 9 (strV s) ∧ Below w.heap.size w W)
    (fun _ _ _ => False)
    (fun k a' _ => ∃ (x : Nat × Int), (runePlaces s)[k]? = some x ∧ a' = { tmps := #[.string ⟨s.toArray⟩, .pointer (some ⟨w.heap.size, 0, none⟩), .string ⟨#[]⟩, .pointer (some ⟨w.heap.size + 1, 0, none⟩), .int .i64 x.1, .int .i64 x.2, .string ⟨s.toArray⟩, .func (.func 155) #[] #[.pointer (some ⟨w.heap.size + 1 + 1, 0, none⟩)], .int .i64 x.1, .int .i64 x.2, undef, undef, undef, undef, undef, undef, undef, undef, undef, undef, undef], defers := [] })
    (fun k A B hI hi => by
      obtain ⟨⟨r, hr⟩, h0, h2, hb⟩ := hI
      exact ⟨⟨r, hr.itk hi (fun h => h) (fun _ _ h => h)⟩, hi.boxed h0 (fun h => h), hi.boxed h2 (fun h => h), hi.below hb (by omega) hb.size (fun _ h => h.elim)⟩)
    (fun _ _ _ _ h _ => h) (fun _ _ _ _ h _ => h) ⟨⟨none, b1⟩, b0, b2, hB0⟩ ?assign ?body ?done ?stop
  case assign =>
    intro l k hk W K hi hz hK
    gi_wp2
    exact hK _ _ (Q.refl _) hi ⟨_, List.getElem?_eq_getElem hk, rfl⟩
  case body =>
    rintro l k hk a' W ⟨⟨rc, hrc⟩, hdf⟩ hl ⟨⟨r, hr⟩, h0, h2, hb⟩ ⟨x, hx, rfl⟩ _ hz
    obtain ⟨c, hck, hc1, hp, ht1, hlo, hhi⟩ := chunk_at s k x hx
    obtain ⟨p, rr⟩ := x
    simp only at hc1 hp ht1 ⊢
    subst hc1
    have hkl : k < (chunks s).length := (List.getElem?_eq_some_iff.1 hck).1
    have hstep : ((chunks s).take (k + 1)).flatMap foldC = ((chunks s).take k).flatMap foldC ++ foldC c := by
      rw [List.take_succ_eq_append_getElem hkl, List.flatMap_append]
      have : (chunks s)[k] = c := Option.some.inj ((List.getElem?_eq_getElem hkl).symm.trans hck)
      rw [this]; simp
    have hlen := foldCs_len ((chunks s).take k)
    have hl2 := chunksF_len s.length s
    have hl3 : ((chunks s).take k).length ≤ (chunks s).length := by rw [List.length_take]; omega
    have hl4 : (chunks s).length ≤ s.length := hl2
    have hsW := hb.size
    have c0 := h0.cell
    subst hl
    have hkp : ∀ j, (j = w.heap.size + 2 ∨ j = W0.heap.size ∨ j = W0.heap.size + 1) → j < W.heap.size → j ≠ w.heap.size + 1 ∧ some j ≠ r := by
      rintro j (rfl | rfl | rfl) _
      · exact hr.not_box h2 (by decide) (by decide)
      · exact hr.not_other hdf rfl
      · exact hr.not_other hrc rfl
    have HKP := Lib.hid hkp; clear hkp hdf
    have HST := Lib.hid hstep; have HR := Lib.hid hr; have HB0 := Lib.hid h0; have HB2 := Lib.hid h2; have HB := Lib.hid hb
    clear hstep hr h0 h2 hb hl2
    generalize hpre : ((chunks s).take k).flatMap foldC = pre at *
    have HPR := Lib.hid hpre; clear hpre hx hck hrc
    by_cases hneg : c.1 < 0
    · have hgd : s.getD p 0 = s[p] := by rw [List.getD_eq_getElem?_getD, List.getElem?_eq_getElem hp]; rfl
      have hf : foldC c = [s[p]] := by unfold foldC; rw [if_pos hneg, ht1, hgd]
      have cw := WriteByte_any w.heap.size (w.heap.size + 1) r pre s[p] (({ data := s.toArray } : ByteArray)[p]'hp).toNat W HR.out rfl (by omega) (by omega)
      have CW := Lib.hid cw; have HF := Lib.hid hf; clear cw hf hgd ht1
      gi_wp2_with fail
      refine ⟨trivial, rfl, (calls_round _ CW.out).mono ?_⟩
      rintro e w3 ⟨rfl, hs3, r', hbld', hfr⟩
      have e1 := hs3.boxed HR.out HB0.out (by decide) (by decide)
      have e2 := hs3.boxed HR.out HB2.out (by decide) (by decide)
      have e3 := HB.out.trans (HR.out.below hs3 hsW)
      have e4 := Bk.of_step (keep := fun j => j = w.heap.size + 2 ∨ j = W0.heap.size ∨ j = W0.heap.size + 1) HR.out hs3 hsW HKP.out
      rw [← HF.out, ← HST.out] at hbld'
      have HBL := Lib.hid hbld'; have E1 := Lib.hid e1; have E2 := Lib.hid e2; have E3 := Lib.hid e3; have E4 := Lib.hid e4
      clear hs3 hbld' hfr e1 e2 e3 e4
      gi_wp2_with fail
      exact ⟨E4.out, ⟨r', HBL.out⟩, E1.out, E2.out, E3.out⟩
    · have hnn : ((c.1.toNat : Nat) : Int) = c.1 := by omega
      have hf : foldC c = Lib.encodeRune (runeOfL (foldL c.1)) := by unfold foldC; rw [if_neg hneg]
      have cf := Fold_any c.1.toNat W (by omega)
      rw [hnn] at cf
      obtain ⟨g1, g2⟩ := foldL_bounds c.1 (by omega) hhi
      obtain ⟨g3, g4⟩ := runeOfL_bounds (foldL c.1)
      have CF := Lib.hid cf; have HF := Lib.hid hf; clear cf hf ht1 hnn
      generalize foldL c.1 = fr at *
      gi_wp2_with fail
      refine ⟨trivial, rfl, (calls_round _ CF.out).mono ?_⟩
      rintro e w3 ⟨rfl, q3⟩
      have hr3 := HR.out.q q3
      have k0 := block_stays' q3 HB0.out
      have k2 := block_stays' q3 HB2.out
      have kb := HB.out.trans (Below.mono q3 hsW)
      have kk : Bk (fun j => j = w.heap.size + 2 ∨ j = W0.heap.size ∨ j = W0.heap.size + 1) w.heap.size W w3 := Bk.of_q q3 hsW
      have kp : ∀ j, (j = w.heap.size + 2 ∨ j = W0.heap.size ∨ j = W0.heap.size + 1) → j < w3.heap.size → j ≠ w.heap.size + 1 ∧ some j ≠ r := fun j h1 h2 => HKP.out j h1 (by have := lt_of_get HB2.out; rcases h1 with h1 | h1 | h1 <;> omega)
      have hs3 := kb.size
      have cw := WriteRune_any w.heap.size (w.heap.size + 1) r pre (runeOfL fr) w3 hr3 g3 g4 (by omega) (by omega)
      have co := runeOf_any fr w3 g1 g2
      have CW := Lib.hid cw; have CO := Lib.hid co; have HR3 := Lib.hid hr3; have K0 := Lib.hid k0; have K2 := Lib.hid k2; have KB := Lib.hid kb; have KK := Lib.hid kk; have KP := Lib.hid kp
      clear cw co hr3 k0 k2 kb kk kp q3
      gi_wp2_with fail
      refine ⟨trivial, rfl, (calls_round _ CO.out).mono ?_⟩
      rintro e w4 ⟨rfl, rfl⟩
      gi_wp2_with fail
      refine ⟨trivial, rfl, (calls_round _ CW.out).mono ?_⟩
      rintro e w4 ⟨⟨nn, rfl⟩, hs4, r', hbld'⟩
      have e1 := hs4.boxed HR3.out K0.out (by decide) (by decide)
      have e2 := hs4.boxed HR3.out K2.out (by decide) (by decide)
      have e3 := KB.out.trans (HR3.out.below hs4 hs3)
      have e4 := KK.out.trans (Bk.of_step (keep := fun j => j = w.heap.size + 2 ∨ j = W0.heap.size ∨ j = W0.heap.size + 1) HR3.out hs4 hs3 KP.out)
      rw [← HF.out, ← HST.out] at hbld'
      have HBL := Lib.hid hbld'; have E1 := Lib.hid e1; have E2 := Lib.hid e2; have E3 := Lib.hid e3; have E4 := Lib.hid e4
      clear hs4 hbld' e1 e2 e3 e4
      gi_wp2_with fail
      exact ⟨E4.out, ⟨r', HBL.out⟩, E1.out, E2.out, E3.out⟩
  case done =>
    rintro D W hD _ ⟨⟨r, hr⟩, h0, h2, hb⟩ hK
    obtain rfl : D = w.heap.size + 3 := by omega
    clear hD hsz
    have hlf : (runePlaces s).length = (chunks s).length := runesAt_length _ _
    rw [hlf, List.take_length] at hr
    have hsW := hb.size
    have c := String_step w.heap.size (w.heap.size + 1) r (foldedL s) W hr
    have HBD := Lib.hid hr
    have hDc : r ≠ some (w.heap.size + 3) ∧ w.heap.size + 3 ≠ w.heap.size + 1 := by
      obtain ⟨a, b⟩ := hr.not_other hK rfl
      exact ⟨fun e => b e.symm, a⟩
    have C := Lib.hid c; have HB := Lib.hid hb; have HK := Lib.hid hK; have HDD := Lib.hid hDc
    clear c hb hK h0 h2 hr hlf hDc
    gi_wp2_with fail
    refine ⟨trivial, rfl, (callsIn_wide.2 C.out).mono ?_⟩
    rintro e w3 ⟨rfl, hs3⟩
    have hk3 := hs3.walks HBD.out HK.out rfl
    have hb3 := HB.out.trans (HBD.out.below hs3 hsW)
    have HB3 := Lib.hid hb3; have HK3 := Lib.hid hk3; clear hs3 hb3 hk3
    gi_wp2_with fail
    refine ⟨by simp, .inl ⟨_, _, rfl, run_takeDeferred HK3.out, ?_⟩⟩
    exact ⟨_, results_tmp rfl _ _ _, rfl, HB3.out.trans (Bk.put (own := fun _ => False) (n₀ := w.heap.size) _ HK3.out rfl (by omega) (fun h => h)).below⟩
  case stop =>
    rintro D c k W _ _ h _
    exact h.elim
end Go.Proofs.YtcflpcpkmhljkaaGreatDoor
end

/- (Bld2) More of builders: Len; rows of other types beside them. -/
section
namespace Go.Proofs.YtcflpcpkmhljkaaGreatDoor
open Go.RowKit
set_option linter.unusedVariables false

set_option maxHeartbeats 1000000 in
theorem Len_any (B b : Nat) (r : Option Nat) (l : Bytes) (w : World) (h : Bld w B b r l) :
    Calls Tryz.prog 206 #[.pointer (some ⟨b, 0, none⟩)] w fun e w' => e = .returned (.int .i64 l.length) ∧ w = w' := by
  obtain ⟨hB, p, v, hbk, hp, hown, hvr, hne, hnl⟩ := h
  have c1 : w.cell? ⟨b, 1, none⟩ = some v := by simp [World.cell?, hbk]
  obtain ⟨ao, cap, rfl⟩ : ∃ ao cap, v = .slice ao l.length cap := by
    rcases hown.2 with ⟨hv, h0⟩ | ⟨g, cap, cur, fz, hv, _⟩
    · exact ⟨_, _, by rw [hv, h0]⟩
    · exact ⟨_, _, hv⟩
  clear hown hvr hne hnl hp hbk
  go_enter Tryz.func206, Tryz.ntmps206
  go_wp2_with fail
  go_ret
  exact ⟨rfl, rfl⟩
theorem run_appN {P : Program} (W : World) (t ty : TypeId) (base : Nat) (e e' : TypeId) (i : TypeInfo) (z : Value) (size bytes : Nat) (ht : P.underlying t = some (.slice e)) (hi : P.info? e = some i) (hz : i.zero = some z)
    (hsize : i.size = size) (hby : i.bytes = bytes) (hzs : z.cells.size = size) (hsz : 0 < size) (hbz : 0 < bytes)
    (v : Value) (n : Nat) (xs : List Value) (hown : W.ownsRow base e size v n xs)
    (m : Nat) (hm : 0 < m) (news : Array Value) (hl : news.size = m * size) (h1 : ∀ u ∈ news.toList, u.oneCell' = true) (hb : (n + m) * bytes ≤ 140737488355328) (hbase : base ≤ W.heap.size) :
    ∃ g cap w', (Builtin.append_ #[t, t] ty #[v, .slice (some ⟨W.heap.size, 0, none⟩) m m]).run P (W.alloc (.cells news e')) = .ok (.slice (some ⟨g, 0, none⟩) (n + m) cap) w' ∧
      w'.ownsRow base e size (.slice (some ⟨g, 0, none⟩) (n + m) cap) (n + m) (xs ++ news.toList) ∧ W.grownBy w' v.ownBlock ∧ (v.ownBlock = some g ∨ W.heap.size < g) ∧ g < w'.heap.size ∧ W.heap.size < w'.heap.size := by
  have h63 : n + m ≤ maxLen := by
    have := Nat.le_mul_of_pos_right (n + m) hbz
    simp only [maxLen]; omega
  obtain ⟨g, cap, w', hr, h2, h3, h4, h5⟩ := run_append_lies (P := P) (W.alloc (.cells news e')) t ty base e i z size bytes ht hi hz hsize hby hzs hsz v n xs (hown.alloc _) ⟨W.heap.size, 0, none⟩ m m news.toList (by simpa using hl)
    (fun j u hj => by
      rw [add_head]
      simp only [World.cell?, heap_alloc_new]
      simpa using hj) h1 hm h63 hb (by simp; omega) (W.heap.size + 1) (by simp)
  refine ⟨g, cap, w', hr, h2, ⟨h3.os.trans rfl, h3.tape.trans rfl, h3.output.trans rfl, by have := h3.size; simp at this; omega, fun k hk hne => ?_⟩, h4.imp id (fun h => by omega), h5, by have := h3.size; simp at this; omega⟩
  rw [h3.block k (by simp; omega) hne, Below.heap_alloc _ _ _ hk]

theorem wpList_appN {P : Program} (W : World) {ops : Array Oper} {rest : List Oper} {o : Oper} {a : Act} {Q : Exit → Act → World → Prop} (hgd : o.guard = none) (s x : Operand) (t : TypeId)
    (ho : o.op = .call { callee := .builtin .append, args := #[s, x], argTypes := #[t, t] })
    (base : Nat) (e e' : TypeId) (i : TypeInfo) (z : Value) (size bytes : Nat) (ht : P.underlying t = some (.slice e)) (hi : P.info? e = some i) (hz : i.zero = some z)
    (hsize : i.size = size) (hby : i.bytes = bytes) (hzs : z.cells.size = size) (hsz : 0 < size) (hbz : 0 < bytes)
    (v : Value) (n : Nat) (xs : List Value) (hs : a.eval s = v) (hown : W.ownsRow base e size v n xs)
    (m : Nat) (hm : 0 < m) (news : Array Value) (hx : a.eval x = .slice (some ⟨W.heap.size, 0, none⟩) m m) (hl : news.size = m * size) (h1 : ∀ u ∈ news.toList, u.oneCell' = true)
    (hb : (n + m) * bytes ≤ 140737488355328) (hbase : base ≤ W.heap.size)
    (h : ∀ g cap w', w'.ownsRow base e size (.slice (some ⟨g, 0, none⟩) (n + m) cap) (n + m) (xs ++ news.toList) → W.grownBy w' v.ownBlock → (v.ownBlock = some g ∨ W.heap.size < g) → g < w'.heap.size → W.heap.size < w'.heap.size →
      wpList P ops Q rest (a.put o.dst (.slice (some ⟨g, 0, none⟩) (n + m) cap)) w') : wpList P ops Q (o :: rest) a (W.alloc (.cells news e')) := by
  obtain ⟨g, cap, w', hr, h2, h3, h4, h5, h6⟩ := run_appN (P := P) W t o.type base e e' i z size bytes ht hi hz hsize hby hzs hsz hbz v n xs hown m hm news hl h1 hb hbase
  refine wpList_plain hgd fun _ hK => ?_
  unfold Oper.wp execOp
  simp only [ho, resolve, invoke, builtin, Sem.run_bind, Sem.run_pure, Result.andThen_ok, List.map_toArray, List.map_cons, List.map_nil, hs, hx, hr]
  exact hK _ _ (h g cap w' h2 h3 h4 h5 h6)

theorem Bld.not_cells {w : World} {B b : Nat} {r : Option Nat} {l : Bytes} (h : Bld w B b r l) {k : Nat} {cs : Array Value} {t : TypeId} {fz : Nat × Nat} (hk : w.heap[k]? = some (.cells cs t fz)) (h1 : t ≠ 5) (h2 : t ≠ 190) : k ≠ b ∧ some k ≠ r := by
  refine ⟨fun e' => ?_, fun e' => ?_⟩
  · obtain ⟨_, p, v', h3, _⟩ := h
    rw [← e', hk] at h3
    injection h3 with h3
    injection h3 with _ h3 _
    exact h2 h3
  · obtain ⟨cs', fz', hc'⟩ := h.cellsRow k e'.symm
    rw [hk] at hc'
    injection hc' with h3
    injection h3 with _ h3 _
    exact h1 h3
theorem Step2.cells {w w' : World} {B b : Nat} {r : Option Nat} {l : Bytes} (hs : Step2 w w' b r) (h : Bld w B b r l) {k : Nat} {cs : Array Value} {t : TypeId} {fz : Nat × Nat} (hk : w.heap[k]? = some (.cells cs t fz)) (h1 : t ≠ 5) (h2 : t ≠ 190) : w'.heap[k]? = some (.cells cs t fz) := by
  obtain ⟨a, b'⟩ := h.not_cells hk h1 h2
  exact (hs.block k (lt_of_get hk) a b').trans hk
theorem cells2 {w : World} {k : Nat} {x y : Value} {t : TypeId} (h : w.heap[k]? = some (.cells #[x, y] t (0, 0))) : w.cell? ⟨k, 0, none⟩ = some x ∧ w.cell? ⟨k, 1, none⟩ = some y := by
  simp [World.cell?, h]
theorem Bld.not_row {w : World} {B b : Nat} {r : Option Nat} {l : Bytes} (h : Bld w B b r l) {base : Nat} {e : TypeId} {size : Nat} {v : Value} {n : Nat} {xs : List Value} (ho : w.ownsRow base e size v n xs) (h1 : e ≠ 5) (h2 : e ≠ 190) :
    ∀ g, v.ownBlock = some g → g ≠ b ∧ some g ≠ r := by
  intro g hg
  obtain ⟨cs, hc⟩ := owns_kind ho g hg
  refine ⟨fun e' => ?_, fun e' => ?_⟩
  · obtain ⟨_, p, v', h3, _⟩ := h
    rw [← e', hc] at h3
    injection h3 with h3
    injection h3 with _ h3 _
    exact h2 h3
  · obtain ⟨cs', fz, hc'⟩ := h.cellsRow g e'.symm
    rw [hc] at hc'
    injection hc' with h3
    injection h3 with _ h3 _
    exact h1 h3
/-- a builder's step keeps a row of another type -/
theorem Step2.owns {w w' : World} {B b : Nat} {r : Option Nat} {l : Bytes} (hs : Step2 w w' b r) (h : Bld w B b r l) {base : Nat} {e : TypeId} {size : Nat} {v : Value} {n : Nat} {xs : List Value} (ho : w.ownsRow base e size v n xs) (h1 : e ≠ 5) (h2 : e ≠ 190) : w'.ownsRow base e size v n xs := by
  have hn := h.not_row ho h1 h2
  obtain ⟨a1, a2⟩ := ho
  refine ⟨a1, ?_⟩
  rcases a2 with a2 | ⟨g, cap, cur, rfl, hb, hg, rest⟩
  · exact .inl a2
  · obtain ⟨n1, n2⟩ := hn g rfl
    exact .inr ⟨g, cap, cur, rfl, hb, (hs.block g (lt_of_get hg) n1 n2).trans hg, rest⟩
/-- a row of another type turns: the builder stands -/
theorem Bld.grown {w w' : World} {B b : Nat} {r : Option Nat} {l : Bytes} (h : Bld w B b r l) {base : Nat} {e : TypeId} {size : Nat} {v : Value} {n : Nat} {xs : List Value} (ho : w.ownsRow base e size v n xs) (h1 : e ≠ 5) (h2 : e ≠ 190) (hg : w.grownBy w' v.ownBlock) : Bld w' B b r l := by
  have hn := h.not_row ho h1 h2
  exact h.stays (hg.block b h.lt (fun e' => (hn b e'.symm).1 rfl)) (fun k hk => hg.block k (h.row k hk).2 (fun e' => (hn k e'.symm).2 hk.symm)) hg.size
end Go.Proofs.YtcflpcpkmhljkaaGreatDoor
end

/- (WWordsR) token.words: the two places where the iterator calls yield. -/
section
namespace Go.Proofs.YtcflpcpkmhljkaaGreatDoor
open Go.RowKit
set_option linter.unusedVariables false
attribute [local go_sem] Oper.semAt_some

/-- a region of a code, by its number -/
def findRegion (id : Nat) : Code → Option Code
  | .region i ops b => if i = id then some (.region i ops b) else none
  | .seq a b => match findRegion id a with
    | some c => some c
    | none => findRegion id b
  | .block _ c => findRegion id c
  | .scope c => findRegion id c
  | .loop c => findRegion id c
  | .cond _ a b => match findRegion id a with
    | some c => some c
    | none => findRegion id b
  | .rangeFunc _ _ a b => match findRegion id a with
    | some c => some c
    | none => findRegion id b
  | _ => none
noncomputable def wordsYield : Code := ((Tryz.f183.body.bind (findRegion 10)).getD .skip)
noncomputable def wordsLast : Code := ((Tryz.f183.body.bind (findRegion 13)).getD .skip)
set_option maxRecDepth 100000 in
set_option maxHeartbeats 4000000 in
theorem words_yield (s : Bytes) (l l' B Y F f p : Nat) (w : World) (YPost : Bool → World → Prop) (hfp : f < p) (hp : p ≤ s.length) (hs : s.length ≤ 10000000000000)
    (cS : w.cell? ⟨B, 0, none⟩ = some (strV s)) (cY : w.cell? ⟨Y, 0, none⟩ = some (.func (.yield l) #[] #[])) (cF : w.cell? ⟨F, 0, none⟩ = some (.int .i64 (f : Int)))
    {fn : FuncId} {tmps : Array Value} {assign body : Code} (hy : (Instr.yield l #[.string (({ data := s.toArray } : ByteArray).extract f p)]).run Tryz.prog w.drew = .ok (.round l fn tmps assign body) w.drew)
    (HR : Hid (∀ m, RoundIn Fence.wide m Tryz.prog l fn tmps assign body w.drew fun e W' => ∃ b : Bool, e = .returned (.bool b) ∧ YPost b W'))
    (Qx : Exit → Act → World → Prop) (x0 u5 u6 u7 u8 u9 u10 u11 u12 u13 u14 u15 u16 u17 u18 u19 u20 u21 u22 u23 u24 u25 u26 u27 u28 u29 u30 u31 u32 u33 u34 u35 u36 u37 u38 u39 u40 u41 u42 u43 : Value)
    (hQ : ∀ b w4, YPost b w4 → Qx .normal ⟨#[x0, .pointer (some ⟨B, 0, none⟩), .pointer (some ⟨Y, 0, none⟩), .pointer (some ⟨F, 0, none⟩), .int .i64 p, u5, u6, u7, u8, u9, u10, u11, u12, u13, u14, u15, u16, u17, u18, u19, u20, u21, u22, u23, u24, u25, u26, u27, u28, u29, .func (.yield l) #[] #[], strV s, .int .i64 f, .int .i64 p, .string (({ data := s.toArray } : ByteArray).extract f p), .bool b, .bool !b, u37, u38, u39, u40, u41, u42, u43], []⟩ w4) :
    wordsYield.wpIn (Fence.wide.inRound l') 0 Tryz.prog Qx ⟨#[x0, .pointer (some ⟨B, 0, none⟩), .pointer (some ⟨Y, 0, none⟩), .pointer (some ⟨F, 0, none⟩), .int .i64 p, u5, u6, u7, u8, u9, u10, u11, u12, u13, u14, u15, u16, u17, u18, u19, u20, u21, u22, u23, u24, u25, u26, u27, u28, u29, u30, u31, u32, u33, u34, u35, u36, u37, u38, u39, u40, u41, u42, u43], []⟩ w := by
  conv => arg 4; whnf
  have hmx : Tryz.prog.follows .mixedOrders = true := by kernel_rfl
  have HQX := Lib.hid hQ; clear hQ
  gi_region_with_o ((refine ⟨rfl, (round_in _ (HR.out _)).mono ?_⟩; rintro e w4 ⟨b, rfl, hyp⟩))
  all_goals exact HQX.out b w4 hyp
set_option maxRecDepth 100000 in
set_option maxHeartbeats 4000000 in
theorem words_last (s : Bytes) (l B Y F f : Nat) (w : World) (YPost : Bool → World → Prop) (hf : f < s.length) (hs : s.length ≤ 10000000000000)
    (cS : w.cell? ⟨B, 0, none⟩ = some (strV s)) (cY : w.cell? ⟨Y, 0, none⟩ = some (.func (.yield l) #[] #[])) (cF : w.cell? ⟨F, 0, none⟩ = some (.int .i64 (f : Int)))
    {fn : FuncId} {tmps : Array Value} {assign body : Code} (hy : (Instr.yield l #[.string (({ data := s.toArray } : ByteArray).extract f s.length)]).run Tryz.prog w.drew = .ok (.round l fn tmps assign body) w.drew)
    (HR : Hid (∀ m, RoundIn Fence.wide m Tryz.prog l fn tmps assign body w.drew fun e W' => ∃ b : Bool, e = .returned (.bool b) ∧ YPost b W'))
    (ds : List Deferred) (Qx : Exit → Act → World → Prop) (x0 u4 u5 u6 u7 u8 u9 u10 u11 u12 u13 u14 u15 u16 u17 u18 u19 u20 u21 u22 u23 u24 u25 u26 u27 u28 u29 u30 u31 u32 u33 u34 u35 u36 u37 u38 u39 u40 u41 u42 u43 : Value)
    (hQ : ∀ b w4 z39 z40 z41 z42 z43, YPost b w4 → Qx .normal ⟨#[x0, .pointer (some ⟨B, 0, none⟩), .pointer (some ⟨Y, 0, none⟩), .pointer (some ⟨F, 0, none⟩), u4, u5, u6, u7, u8, u9, u10, u11, u12, u13, u14, u15, u16, u17, u18, u19, u20, u21, u22, u23, u24, u25, u26, u27, u28, u29, u30, u31, u32, u33, u34, u35, u36, u37, u38, z39, z40, z41, z42, z43], ds⟩ w4) :
    wordsLast.wpIn Fence.wide 0 Tryz.prog Qx ⟨#[x0, .pointer (some ⟨B, 0, none⟩), .pointer (some ⟨Y, 0, none⟩), .pointer (some ⟨F, 0, none⟩), u4, u5, u6, u7, u8, u9, u10, u11, u12, u13, u14, u15, u16, u17, u18, u19, u20, u21, u22, u23, u24, u25, u26, u27, u28, u29, u30, u31, u32, u33, u34, u35, u36, u37, u38, u39, u40, u41, u42, u43], ds⟩ w := by
  conv => arg 4; whnf
  have hmx : Tryz.prog.follows .mixedOrders = true := by kernel_rfl
  have HQX := Lib.hid hQ; clear hQ
  gi_region_with_o ((refine ⟨rfl, (HR.out _).mono ?_⟩; rintro e w4 ⟨b, rfl, hyp⟩))
  all_goals exact HQX.out b w4 _ _ _ _ _ hyp
end Go.Proofs.YtcflpcpkmhljkaaGreatDoor
end
