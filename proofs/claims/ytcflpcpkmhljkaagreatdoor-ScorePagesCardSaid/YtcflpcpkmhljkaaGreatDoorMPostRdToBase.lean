/- Joined texts of one proof: PostRd, WPostN, WPostS, Base. -/
import Derived.Test.YtcflpcpkmhljkaaGreatDoorMTokToWDictR
import Derived.Test.YtcflpcpkmhljkaaGreatDoorMTurn
import Derived.Test.YtcflpcpkmhljkaaGreatDoorMWire2ToMem3
import Derived.Handy
import Derived.Deep.DeepMust
import Derived.Test.YtcflpcpkmhljkaaGreatDoorMKitToSegSpec
import Derived.WalkKit
import Derived.Lib.Hide
import Derived.Deep.QuietTactic
import Derived.BigQuiet
set_option linter.unusedSimpArgs false
set_option linter.unusedVariables false
set_option linter.unnecessarySimpa false
/- (PostRd) Plain: postings read again (postings.From). No program in sight. -/
section
namespace Go.Proofs.YtcflpcpkmhljkaaGreatDoor
set_option linter.unusedVariables false

/-- the bytes of postings behind a document -/
def bodyF : Int → List PostL → Bytes
  | _, [] => []
  | last, p :: l => oneE p last ++ bodyF p.1 l
/-- the last document of postings behind a document -/
def endF : Int → List PostL → Int
  | last, [] => last
  | _, p :: l => endF p.1 l
theorem endF_append (last : Int) (a b : List PostL) : endF last (a ++ b) = endF (endF last a) b := by
  induction a generalizing last with
  | nil => rfl
  | cons p a ih => exact ih p.1
theorem bodyF_append (last : Int) (a b : List PostL) : bodyF last (a ++ b) = bodyF last a ++ bodyF (endF last a) b := by
  induction a generalizing last with
  | nil => rfl
  | cons p a ih => rw [List.cons_append, bodyF, bodyF, ih, endF, List.append_assoc]
def dAt (l : List PostL) (k : Nat) : Int := endF (-1) (l.take k)
def sAt (l : List PostL) (k : Nat) : Nat := (bodyF (-1) (l.take k)).length
def skipsTo (l : List PostL) : Nat → List Nat
  | 0 => []
  | m + 1 => skipsTo l m ++ [(dAt l (8 * (m + 1)) - dAt l (8 * m)).toNat, sAt l (8 * (m + 1)) - sAt l (8 * m)]
theorem skipsTo_length (l : List PostL) (m : Nat) : (skipsTo l m).length = 2 * m := by
  induction m with
  | zero => rfl
  | succ m ih => rw [skipsTo, List.length_append, ih]; simp; omega
theorem skipsTo_drop (l : List PostL) (m M : Nat) (h : m < M) : (skipsTo l M).drop (2 * m) = (dAt l (8 * (m + 1)) - dAt l (8 * m)).toNat :: (sAt l (8 * (m + 1)) - sAt l (8 * m)) :: (skipsTo l M).drop (2 * (m + 1)) := by
  induction M with
  | zero => omega
  | succ M ih =>
    have hl := skipsTo_length l M
    rw [skipsTo]
    by_cases e : m = M
    · subst e
      rw [List.drop_append_of_le_length (by omega), List.drop_eq_nil_of_le (by omega), List.drop_eq_nil_of_le (by simp; omega)]
      rfl
    · rw [List.drop_append_of_le_length (by omega), List.drop_append_of_le_length (by omega), ih (by omega)]
      rfl
def stAt (l : List PostL) (k : Nat) : PackSt :=
  { skips := skipsTo l ((k - 1) / 8), body := bodyF (-1) (l.take k), last := dAt l (8 * ((k - 1) / 8)), doc := dAt l k, from_ := sAt l (8 * ((k - 1) / 8)) }
theorem stAt_step (l : List PostL) (k : Nat) (h : k < l.length) : packStep (stAt l k) k l[k] = stAt l (k + 1) := by
  have hb : bodyF (-1) (l.take (k + 1)) = bodyF (-1) (l.take k) ++ oneE l[k] (dAt l k) := by
    rw [List.take_succ_eq_append_getElem h, bodyF_append]
    simp [bodyF, dAt]
  have hd : dAt l (k + 1) = l[k].1 := by
    unfold dAt
    rw [List.take_succ_eq_append_getElem h, endF_append]; rfl
  unfold packStep
  by_cases hk : 0 < k ∧ k % 8 = 0
  · rw [if_pos hk]
    unfold stAt
    simp only [hb, hd]
    rw [show k + 1 - 1 = k by omega, show k / 8 = (k - 1) / 8 + 1 by omega, show 8 * ((k - 1) / 8 + 1) = k by omega, skipsTo, show 8 * ((k - 1) / 8 + 1) = k by omega]
    rfl
  · rw [if_neg hk]
    unfold stAt
    simp only [hb, hd]
    rw [show k + 1 - 1 = k by omega, show k / 8 = (k - 1) / 8 by omega]
theorem packF_at (l : List PostL) (k : Nat) (h : k ≤ l.length) : packF (stAt l k) k (l.drop k) = stAt l l.length := by
  obtain ⟨n, hn⟩ : ∃ n, n = l.length - k := ⟨_, rfl⟩
  induction n generalizing k with
  | zero => rw [show k = l.length by omega, List.drop_length]; rfl
  | succ n ih =>
    rw [List.drop_eq_getElem_cons (by omega), packF, stAt_step l k (by omega)]
    exact ih (k + 1) (by omega) (by omega)
theorem postsE_parts (l : List PostL) : postsE l = varE l.length ++ (varsE (skipsTo l ((l.length - 1) / 8)) ++ bodyF (-1) l) := by
  have h := packF_at l 0 (by omega)
  rw [List.drop_zero, show stAt l 0 = ⟨[], [], -1, -1, 0⟩ by simp [stAt, skipsTo, dAt, sAt, bodyF, endF]] at h
  unfold postsE
  rw [h]
  simp only [stAt, List.take_length]
/-! ### right postings -/
theorem risingI_len (last : Int) (l : List Int) (m : Int) (h : risingI last l m = true) (hm : last < m) : (l.length : Int) ≤ m - 1 - last ∧ ∀ x ∈ l, last < x ∧ x < m := by
  induction l generalizing last with
  | nil => simp; omega
  | cons a l ih =>
    rw [risingI] at h
    simp only [Bool.and_eq_true, decide_eq_true_eq] at h
    obtain ⟨i1, i2⟩ := ih a h.2 h.1.2
    refine ⟨by simp; omega, fun x hx => ?_⟩
    rcases List.mem_cons.1 hx with rfl | hx
    · exact h.1
    · have := i2 x hx; omega
theorem postsRight_cons {last : Int} {p : PostL} {l : List PostL} (h : postsRight last (p :: l) = true) : last < p.1 ∧ p.1 < 500 ∧ p.2 ≠ [] ∧ risingI (-1) p.2 2000 = true ∧ postsRight p.1 l = true := by
  rw [postsRight] at h
  simp only [Bool.and_eq_true, decide_eq_true_eq, Bool.not_eq_true', List.isEmpty_eq_false_iff] at h
  obtain ⟨⟨⟨⟨a, b⟩, c⟩, d⟩, e⟩ := h
  exact ⟨a, b, c, d, e⟩
theorem postsRd_len (last : Int) (l : List PostL) (h : postsRight last l = true) (hl : last < 500) : (l.length : Int) ≤ 499 - last ∧ ∀ p ∈ l, last < p.1 ∧ p.1 < 500 ∧ p.2 ≠ [] ∧ risingI (-1) p.2 2000 = true := by
  induction l generalizing last with
  | nil => simp; omega
  | cons p l ih =>
    obtain ⟨a, b, c, d, e⟩ := postsRight_cons h
    obtain ⟨i1, i2⟩ := ih p.1 e b
    refine ⟨by simp; omega, fun x hx => ?_⟩
    rcases List.mem_cons.1 hx with rfl | hx
    · exact ⟨a, b, c, d⟩
    · have := i2 x hx
      exact ⟨by omega, this.2⟩
theorem postsRight_drop (last : Int) (l : List PostL) (k : Nat) (h : postsRight last l = true) : postsRight (endF last (l.take k)) (l.drop k) = true := by
  induction l generalizing last k with
  | nil => simp [postsRight]
  | cons p l ih =>
    cases k with
    | zero => simpa [endF] using h
    | succ k =>
      obtain ⟨_, _, _, _, e⟩ := postsRight_cons h
      rw [List.take_succ_cons, List.drop_succ_cons, endF]
      exact ih p.1 k e
theorem postsRight_end (last : Int) (l : List PostL) (h : postsRight last l = true) (hl : last < 500) : last ≤ endF last l ∧ endF last l < 500 ∧ ∀ p ∈ l, p.1 ≤ endF last l := by
  induction l generalizing last with
  | nil => simp [endF]; omega
  | cons p l ih =>
    obtain ⟨a, b, _, _, e⟩ := postsRight_cons h
    obtain ⟨i1, i2, i3⟩ := ih p.1 e b
    rw [endF]
    refine ⟨by omega, i2, fun x hx => ?_⟩
    rcases List.mem_cons.1 hx with rfl | hx
    · exact i1
    · exact i3 x hx
theorem postsRight_take (last : Int) (l : List PostL) (k : Nat) (h : postsRight last l = true) : postsRight last (l.take k) = true := by
  induction l generalizing last k with
  | nil => simp [postsRight]
  | cons p l ih =>
    cases k with
    | zero => simp [postsRight]
    | succ k =>
      obtain ⟨a, b, c, d, e⟩ := postsRight_cons h
      rw [List.take_succ_cons, postsRight, ih p.1 k e, d, decide_eq_true a, decide_eq_true b]
      cases hp : p.2 with
      | nil => exact absurd hp c
      | cons _ _ => rfl
theorem dAt_bounds (l : List PostL) (h : postsRight (-1) l = true) (k : Nat) : -1 ≤ dAt l k ∧ dAt l k < 500 ∧ ∀ p ∈ l.take k, p.1 ≤ dAt l k := postsRight_end (-1) (l.take k) (postsRight_take _ l k h) (by omega)
theorem dAt_mono (l : List PostL) (h : postsRight (-1) l = true) (j k : Nat) (hjk : j ≤ k) : dAt l j ≤ dAt l k := by
  unfold dAt
  rw [show l.take k = l.take j ++ (l.drop j).take (k - j) by
    rw [← List.take_add, Nat.add_sub_cancel' hjk], endF_append]
  have h1 := postsRight_drop (-1) l j h
  have h2 := (dAt_bounds l h j).2.1
  exact (postsRight_end _ _ (postsRight_take _ _ (k - j) h1) h2).1
theorem gapsL_length (at_ : Int) (l : List Int) : (gapsL at_ l).length = l.length := by
  induction l generalizing at_ with
  | nil => rfl
  | cons a l ih => simp [gapsL, ih]
theorem oneRd_len (p : PostL) (last : Int) : (oneE p last).length ≤ 10 * (p.2.length + 2) := by
  have := varsE_len ((p.1 - last).toNat :: p.2.length :: gapsL (-1) p.2)
  rw [List.length_cons, List.length_cons, gapsL_length] at this
  exact this
theorem bodyF_len (last : Int) (l : List PostL) (h : ∀ p ∈ l, p.2.length ≤ 2000) : (bodyF last l).length ≤ l.length * 20020 := by
  induction l generalizing last with
  | nil => simp [bodyF]
  | cons p l ih =>
    rw [bodyF, List.length_append, List.length_cons, Nat.add_mul]
    have h1 := oneRd_len p last
    have h2 := h p (by simp)
    have h3 := ih p.1 (fun x hx => h x (by simp [hx]))
    omega
theorem posts_small (l : List PostL) (h : postsRight (-1) l = true) : l.length ≤ 500 ∧ (∀ p ∈ l, p.2.length ≤ 2000 ∧ p.2 ≠ [] ∧ -1 < p.1 ∧ p.1 < 500 ∧ risingI (-1) p.2 2000 = true) ∧ (bodyF (-1) l).length ≤ 10010000 := by
  obtain ⟨a, b⟩ := postsRd_len (-1) l h (by omega)
  have hp : ∀ p ∈ l, p.2.length ≤ 2000 := fun p hp => by
    have := risingI_len (-1) p.2 2000 (b p hp).2.2.2 (by omega)
    omega
  refine ⟨by omega, fun p hp' => ⟨hp p hp', (b p hp').2.2.1, (b p hp').1, (b p hp').2.1, (b p hp').2.2.2⟩, ?_⟩
  have := bodyF_len (-1) l hp
  have h5 : l.length * 20020 ≤ 500 * 20020 := Nat.mul_le_mul_right _ (by omega)
  omega
theorem sAt_mono (l : List PostL) (j k : Nat) (h : j ≤ k) : sAt l j ≤ sAt l k := by
  unfold sAt
  rw [show l.take k = l.take j ++ (l.drop j).take (k - j) by
    rw [← List.take_add, Nat.add_sub_cancel' h], bodyF_append]
  simp
theorem sAt_le (l : List PostL) (j : Nat) : sAt l j ≤ (bodyF (-1) l).length := by
  unfold sAt
  conv => rhs; rw [← List.take_append_drop j l, bodyF_append]
  simp
/-- behind the groups that are skipped: the bytes of those that are left -/
theorem body_drop (l : List PostL) (j : Nat) : (bodyF (-1) l).drop (sAt l j) = bodyF (dAt l j) (l.drop j) := by
  conv => lhs; rw [← List.take_append_drop j l, bodyF_append]
  unfold sAt dAt
  rw [List.take_append_drop]
  simp
def fromP (l : List PostL) (doc : Int) : List PostL := l.filter fun p => decide (doc ≤ p.1)
theorem fromP_drop (l : List PostL) (h : postsRight (-1) l = true) (j : Nat) (doc : Int) (hd : j = 0 ∨ dAt l j < doc) : fromP (l.drop j) doc = fromP l doc := by
  conv => rhs; rw [← List.take_append_drop j l]
  unfold fromP
  rw [List.filter_append]
  have : (l.take j).filter (fun p => decide (doc ≤ p.1)) = [] := by
    rw [List.filter_eq_nil_iff]
    intro p hp
    rcases hd with rfl | hd
    · simp at hp
    · have := (dAt_bounds l h j).2.2 p hp
      simp; omega
  rw [this, List.nil_append]
theorem fromP_take (L : List PostL) (doc : Int) (k : Nat) (hk : k < L.length) : fromP (L.take (k + 1)) doc = fromP (L.take k) doc ++ (if doc ≤ L[k].1 then [L[k]] else []) := by
  unfold fromP
  rw [List.take_succ_eq_append_getElem hk, List.filter_append]
  congr 1
  by_cases h : doc ≤ L[k].1
  · rw [if_pos h]; simp [h]
  · rw [if_neg h]; simp [h]
theorem fromP_at (L : List PostL) (doc : Int) (k : Nat) (hk : k < L.length) (h : doc ≤ L[k].1) : ∃ hi : (fromP (L.take k) doc).length < (fromP L doc).length, (fromP L doc)[(fromP (L.take k) doc).length] = L[k] := by
  have e : fromP L doc = fromP (L.take k) doc ++ (L[k] :: fromP (L.drop (k + 1)) doc) := by
    conv => lhs; rw [← List.take_append_drop k L]
    unfold fromP
    rw [List.filter_append, List.drop_eq_getElem_cons hk, List.filter_cons, if_pos (by simpa using h)]
  refine ⟨by rw [e, List.length_append, List.length_cons]; omega, ?_⟩
  have : (fromP L doc)[(fromP (L.take k) doc).length]? = some L[k] := by
    rw [e, List.getElem?_append_right (by omega), Nat.sub_self]; rfl
  exact (List.getElem?_eq_some_iff.1 this).2
theorem fromP_le (L : List PostL) (doc : Int) (k : Nat) : (fromP (L.take k) doc).length ≤ (fromP L doc).length := by
  have : fromP L doc = fromP (L.take k) doc ++ fromP (L.drop k) doc := by
    conv => lhs; rw [← List.take_append_drop k L]
    unfold fromP
    rw [List.filter_append]
  rw [this, List.length_append]; omega
end Go.Proofs.YtcflpcpkmhljkaaGreatDoor
end

/- (WPostN) postings' reader.number and reader.posting: walked, at what is there. -/
section
namespace Go.Proofs.YtcflpcpkmhljkaaGreatDoor
open Go.RowKit
set_option linter.unusedVariables false

/-- the reader at R has s left -/
def Rdr (w : World) (R : Nat) (s : Bytes) : Prop := Blk w R 283 #[strV s, .bool false]
theorem Rdr.stays {w w' : World} {R : Nat} {s : Bytes} (h : Rdr w R s) (q : Q w w') : Rdr w' R s := Blk.stays h q
set_option maxHeartbeats 1000000 in
theorem PNum_ok (R : Nat) (s : Bytes) (v : Nat) (r : Bytes) (w : World) (hb : Rdr w R s) (hs : s.length ≤ 9223372036854775807) (h : IsVar s v r) (hv : v ≤ 2147483647) :
    Calls Tryz.prog 192 #[.pointer (some ⟨R, 0, none⟩)] w fun e w' => e = .returned (.int .i64 v) ∧ Rdr w' R r ∧ Turn (· = R) w w' := by
  have c := ToVar_some s v r w hs h
  obtain ⟨c0, c1, f0, f1⟩ := Blk.c2 hb
  have C := Lib.hid c; have HB := Lib.hid hb
  clear c h hb
  have hlt : ¬ 2147483647 < v := by omega
  go_enter Tryz.func192, Tryz.ntmps192
  go_wp2_with fail
  refine C.out.mono ?_
  rintro e w1 ⟨rfl, q1⟩
  have hb1 := HB.out.stays q1
  obtain ⟨d0, d1, g0, g1⟩ := Blk.c2 hb1
  have HB1 := Lib.hid hb1; have HQ1 := Lib.hid q1
  clear hb1 q1 c0 c1 f0 f1
  go_wp2_with fail
  go_ret
  exact ⟨rfl, Blk.set HB1.out 0 (strV r), Turn.setCell (own := (· = R)) (Turn.of_q HQ1.out) (.inl rfl) _⟩
def intCs (l : List Int) : List Value := l.map fun x => .int .i64 x
set_option maxRecDepth 100000 in
set_option maxHeartbeats 2000000 in
theorem PPost_ok (R : Nat) (p : PostL) (last : Int) (s r : Bytes) (w : World) (hb : Rdr w R s) (hs : s.length ≤ 1000000000000) (h : s = oneE p last ++ r) (h0 : -1 ≤ last) (h1 : last < p.1) (h2 : p.1 < 500) (h3 : risingI (-1) p.2 2000 = true) :
    Calls Tryz.prog 219 #[.pointer (some ⟨R, 0, none⟩), .int .i64 last] w fun e w' => ∃ v, e = .returned (.agg #[.int .i64 p.1, v]) ∧ w'.ownsRow w.heap.size 3 1 v p.2.length (intCs p.2) ∧ Rdr w' R r ∧ Turn (· = R) w w' := by
  obtain ⟨i0, hi, hz0, hz1, hz2⟩ := info_parts (show (Tryz.prog.info? 3).map (fun i => (i.zero, i.size, i.bytes)) = some (some (.int .i64 0), 1, 8) by kernel_rfl)
  obtain ⟨d, ps⟩ := p
  simp only at h h1 h2 h3 ⊢
  have hlen := (risingI_len (-1) ps 2000 h3 (by omega)).1
  obtain ⟨s1, hs1⟩ : ∃ s1, s1 = varE ps.length ++ (varsE (gapsL (-1) ps) ++ r) := ⟨_, rfl⟩
  obtain ⟨s2, hs2⟩ : ∃ s2, s2 = varsE (gapsL (-1) ps) ++ r := ⟨_, rfl⟩
  have hss : s = varE (d - last).toNat ++ s1 := by rw [h, hs1]; simp [oneE, varsE]
  rw [← hs2] at hs1
  have hl1 : s1.length ≤ 1000000000000 := by have := congrArg List.length hss; rw [List.length_append] at this; omega
  have hl2 : s2.length ≤ 1000000000000 := by have := congrArg List.length hs1; rw [List.length_append] at this; omega
  have c := fun w hb => PNum_ok R s (d - last).toNat s1 w hb (by omega) ⟨by omega, hss⟩ (by omega)
  have c2 := fun w hb => PNum_ok R s1 ps.length s2 w hb (by omega) ⟨by omega, hs1⟩ (by omega)
  have hdn : ((d - last).toNat : Int) = d - last := by omega
  generalize (d - last).toNat = dn at *
  have C := Lib.hid c; have C2 := Lib.hid c2; have HB := Lib.hid hb; have HS2 := Lib.hid hs2; have H3 := Lib.hid h3
  clear c c2 hb hs1 hs2 hss h h3
  go_enter Tryz.func219, Tryz.ntmps219
  go_wp2_with fail
  refine (C.out _ (HB.out.stays (Q.alloc _ _))).mono ?_
  rintro e w1 ⟨rfl, hb1, t1⟩
  have hRw : R < w.heap.size := HB.out.lt
  have z1 : Blk w1 w.heap.size 211 #[.int .i64 0, .slice none 0 0] := t1.blk (Blk.new w _ _) (by omega)
  have tt1 : Turn (· = R) w w1 := (Turn.of_q (Q.alloc w _)).trans t1
  have hs1 : w.heap.size < w1.heap.size := by have := t1.size; simp at this; omega
  rw [hdn]
  have hrd1 := HB.out
  have HB1 := Lib.hid hb1; have HZ1 := Lib.hid z1; have HT1 := Lib.hid tt1
  clear hb1 z1 tt1 t1 C hrd1
  go_wp2_with fail
  have hd2 : last + (d - last) = d := by omega
  rw [hd2]
  clear hd2
  refine (C2.out _ (HB1.out.stays (Q.alloc _ _))).mono ?_
  rintro e w2 ⟨rfl, hb2, t2⟩
  have hR1 : R < w1.heap.size := by omega
  have z2 : Blk w2 w.heap.size 211 #[.int .i64 0, .slice none 0 0] := t2.blk ((HZ1.out).alloc _) (by omega)
  have p2 : Blk w2 w1.heap.size 211 #[.int .i64 d, .slice none 0 0] := t2.blk (Blk.new w1 _ _) (by omega)
  have tt2 : Turn (· = R) w w2 := (HT1.out.trans (Turn.of_q (Q.alloc w1 _))).trans t2
  have hs2' : w1.heap.size < w2.heap.size := by have := t2.size; simp at this; omega
  have HB2 := Lib.hid hb2; have HZ2 := Lib.hid z2; have HP2 := Lib.hid p2; have HT2 := Lib.hid tt2
  clear hb2 z2 p2 tt2 t2 C2 HB1 HZ1 HT1 HB
  have hle : ¬ (2000 : Int) < (ps.length : Int) := by omega
  go_wp2_with fail
  go_loopw [6, 15] (fun av i wr => ∃ (k : Nat) (q : Int) (s' : Bytes) (pv : Value), k ≤ ps.length ∧ i = .int .i64 k ∧ av = .int .i64 q ∧ Hid (s' = varsE (gapsL q (ps.drop k)) ++ r) ∧ Hid (risingI q (ps.drop k) 2000 = true) ∧ -1 ≤ q ∧ q < 2000 ∧ s'.length ≤ 1000000000000 ∧
    Hid (Rdr wr R s') ∧ Hid (Blk wr w.heap.size 211 #[.int .i64 0, .slice none 0 0]) ∧ Hid (Blk wr w1.heap.size 211 #[.int .i64 d, pv]) ∧
    Hid (wr.ownsRow (w1.heap.size + 1) 3 1 pv k (intCs (ps.take k))) ∧ Hid (Turn (· = R) w wr) ∧ w1.heap.size < wr.heap.size) (fun _ i _ => ps.length - (intOf i).toNat)
  case atStart => exact ⟨0, -1, s2, .slice none 0 0, by omega, rfl, rfl, HS2.out, H3.out, by omega, by omega, hl2, HB2.out, HZ2.out, HP2.out, World.ownsRow_nil _ _ _ _, HT2.out, by omega⟩
  case round =>
    obtain ⟨k, q, s', pv, hk, rfl, rfl, HS, HR, hq0, hq1, hsl, HB, HZ, HP, HO, HT, hsz⟩ := hrel
    obtain ⟨wo, rfl⟩ : ∃ wo : World, wo = wr := ⟨_, rfl⟩
    by_cases hlt : k < ps.length
    · have hri := HR.out
      rw [List.drop_eq_getElem_cons hlt, risingI] at hri
      simp only [Bool.and_eq_true, decide_eq_true_eq] at hri
      obtain ⟨⟨hx1, hx2⟩, hx3⟩ := hri
      have hst : s' = varE (ps[k] - q).toNat ++ (varsE (gapsL ps[k] (ps.drop (k + 1))) ++ r) := by
        rw [HS.out, List.drop_eq_getElem_cons hlt, gapsL]; simp [varsE]
      have hiv : intCs (ps.take (k + 1)) = intCs (ps.take k) ++ [.int .i64 ps[k]] := by
        unfold intCs; rw [List.take_succ_eq_append_getElem hlt, List.map_append]; rfl
      generalize ps[k] = x at *
      obtain ⟨s3, hs3⟩ : ∃ s3, s3 = varsE (gapsL x (ps.drop (k + 1))) ++ r := ⟨_, rfl⟩
      rw [← hs3] at hst
      have hl3 : s3.length ≤ 1000000000000 := by have := congrArg List.length hst; rw [List.length_append] at this; omega
      have c := fun w hb => PNum_ok R s' (x - q).toNat s3 w hb (by omega) ⟨by omega, hst⟩ (by omega)
      have hxn : ((x - q).toNat : Int) = x - q := by omega
      generalize (x - q).toNat = xn at *
      have C := Lib.hid c; have HS3 := Lib.hid hs3; have HX3 := Lib.hid hx3; have HIV := Lib.hid hiv
      clear c hs3 hx3 hst hiv HS HR
      go_wp2_with fail
      refine (C.out _ HB.out).mono ?_
      rintro e w3 ⟨rfl, hb3, t3⟩
      rw [hxn]
      have z3 := t3.blk HZ.out (by omega)
      have p3 := t3.blk HP.out (by omega)
      have o3 := t3.owns HO.out (fun g hg e' => by have := (HO.out.lt g hg).1; omega)
      have tt3 := HT.out.trans t3
      have hs3' : w1.heap.size < w3.heap.size := by have := t3.size; omega
      obtain ⟨a, cap, rfl, hsm⟩ := owns_value o3
      obtain ⟨pc0, pc1, pf0, pf1⟩ := p3.c2
      have HB3 := Lib.hid hb3; have HZ3 := Lib.hid z3; have HP3 := Lib.hid p3; have HO3 := Lib.hid o3; have HT3 := Lib.hid tt3
      clear hb3 z3 p3 o3 tt3 t3 HB HZ HP HO HT C
      have hown := HO3.out
      have hqx : q + (x - q) = x := by omega
      have hz9 : w1.heap.size + 1 ≤ w3.heap.size := by omega
      go_wp2_with (at_builtin; go_must (refine wpList_app w3 (by rfl) _ _ 209 (by rfl) (w1.heap.size + 1) 3 _ i0 (.int .i64 0) 1 8 Tryz.underlying209 hi hz0 hz1 hz2 rfl (by decide) (by decide) _ _ _ (by rfl) hown #[.int .i64 x] (by simp [Act.eval]) rfl ?c1 ?c2 hz9 ?_))
      case c1 => simp [Value.oneCell']
      case c2 => omega
      intro g6 cap6 w6 hown6 hg6 hat6 hlt6 hsz6
      have hne : ∀ {kk : Nat} {cs : Array Value}, Blk w3 kk 211 cs → Blk w6 kk 211 cs := fun {kk cs} hb => blk_beside hb hown hg6 (by decide)
      have z6 := hne HZ3.out
      have p6 := hne HP3.out
      have b6 : Rdr w6 R s3 := blk_beside HB3.out hown hg6 (by decide)
      have t6 := HT3.out.grown hown hg6 (by omega)
      have hs6 : w1.heap.size < w6.heap.size := by have := hg6.size; omega
      rw [show intCs (ps.take k) ++ (#[.int .i64 x] : Array Value).toList = intCs (ps.take (k + 1)) from HIV.out.symm] at hown6
      obtain ⟨qc0, qc1, qf0, qf1⟩ := p6.c2
      have HZ6 := Lib.hid z6; have HP6 := Lib.hid p6; have HB6 := Lib.hid b6; have HT6 := Lib.hid t6; have HO6 := Lib.hid hown6
      clear z6 p6 b6 t6 hown6 hg6 hat6 hown hne pc0 pc1 pf0 pf1 HB3 HZ3 HP3 HO3 HT3
      have hb0 := (HB6.out.c2).2.1
      have hb0' : w6.cell? ⟨R, 1, none⟩ = some (.bool false) := hb0
      go_wp2_with fail
      have t7 := HT6.out.setCell (a := ⟨w1.heap.size, 1, none⟩) (.inr (by simp; omega)) (.slice (some ⟨g6, 0, none⟩) (k + 1) cap6)
      have z7 := HZ6.out.other ⟨w1.heap.size, 1, none⟩ (.slice (some ⟨g6, 0, none⟩) (k + 1) cap6) (by simp; omega)
      have p7 := HP6.out.set 1 (.slice (some ⟨g6, 0, none⟩) (k + 1) cap6)
      have b7 : Rdr _ R s3 := Blk.other HB6.out ⟨w1.heap.size, 1, none⟩ (.slice (some ⟨g6, 0, none⟩) (k + 1) cap6) (by simp; omega)
      have o7 := ownsRow_setCell_below HO6.out (a := ⟨w1.heap.size, 1, none⟩) (by simp) (.slice (some ⟨g6, 0, none⟩) (k + 1) cap6)
      have HT7 := Lib.hid t7; have HZ7 := Lib.hid z7; have HP7 := Lib.hid p7; have HB7 := Lib.hid b7; have HO7 := Lib.hid o7
      clear t7 z7 p7 b7 o7
      go_roundw
      case rel => exact ⟨k + 1, x, s3, _, by omega, by go_num, rfl, HS3.out, HX3.out, by omega, by omega, hl3, HB7.out, HZ7.out, HP7.out, HO7.out, HT7.out, by simp; omega⟩
      case measure => simp [intOf]; omega
    · have hkk : k = ps.length := by omega
      subst hkk
      have hr : s' = r := by rw [HS.out, List.drop_length]; simp [gapsL, varsE]
      subst hr
      have ho := HO.out
      rw [List.take_length] at ho
      obtain ⟨a, cap, rfl, hsm⟩ := owns_value ho
      obtain ⟨pc0, pc1, pf0, pf1⟩ := HP.out.c2
      obtain ⟨zc0, zc1, zf0, zf1⟩ := HZ.out.c2
      have HOF := Lib.hid ho
      clear ho HS HR HO
      go_wp2_with fail
      obtain ⟨s0, s1⟩ := HZ.out.s2
      refine bodyPost_ret (v := .agg #[.int .i64 d, .slice a ps.length cap]) ?_ rfl ?_
      · simp [results, Tryz.results219, go_sem, s0, s1]
      refine ⟨_, rfl, owns_low (ownsRow_setCell_below (ownsRow_setCell_below HOF.out (by simp; omega) _) (by simp; omega) _) (by omega), Blk.other (Blk.other HB.out _ _ (by simp; omega)) _ _ (by simp; omega), (HT.out.setCell (.inr (by simp)) _).setCell (.inr (by simp)) _⟩
end Go.Proofs.YtcflpcpkmhljkaaGreatDoor
end

/- (WPostS) wire.ToVar and reader.number: they make no memory. -/
section
namespace Go.Proofs.YtcflpcpkmhljkaaGreatDoor
open Go.RowKit
set_option linter.unusedVariables false

set_option maxHeartbeats 1000000 in
theorem ToVar_still (s : Bytes) (v : Nat) (r : Bytes) (w : World) (hs : s.length ≤ 9223372036854775807) (h : IsVar s v r) :
    Calls Tryz.prog 176 #[.string ⟨s.toArray⟩] w fun e w' => e = .returned (.tuple #[.int .u64 v, .string ⟨r.toArray⟩, .bool true]) ∧ ∃ m, w' = w.drewN m := by
  obtain ⟨k0, hk10, hends, h9⟩ := ends_of_isVar s v r h
  obtain ⟨rfl, rfl⟩ := IsVar.one h (isVar_of_ends s k0 hends hk10 h9)
  clear h
  obtain ⟨e1, e2, e3, e4⟩ := hends
  have E2 := Lib.hid e2; have E4 := Lib.hid e4; have H9 := Lib.hid h9
  clear e2 e4 h9
  by_cases hl : s.length ≤ 10
  all_goals
    go_enter Tryz.func176, Tryz.ntmps176
    go_wp2_with fail
    go_loop [11, 5, 6, 7] (fun i x _ _ => ∃ k : Nat, k ≤ k0 ∧ i = .int .i64 k ∧ x = .int .u64 (accN s k : Nat)) (fun i _ _ _ => 10 - (intOf i).toNat)
    case atStart => exact ⟨0, by omega, rfl, rfl⟩
    case round =>
      obtain ⟨k, hk, rfl, rfl⟩ := hrel
      have hb := byteN_lt s k
      have hacc := accN_lt s k
      have hsl : k < s.length := by omega
      have hbk : ((({ data := s.toArray } : ByteArray)[k]'hsl).toNat : Int) = (byteN s k : Nat) := byteAt s k hsl
      by_cases hlt : k < k0
      · have hb2 := E2.out k hlt
        have hw := walk_or s k (byteN s k) rfl (by omega) (fun h => by omega)
        have hx1 : (127 : Int) < (({ data := s.toArray } : ByteArray)[k]'hsl).toNat := by rw [hbk]; omega
        rw [← hbk] at hw
        have HW := Lib.hid hw; clear hw hbk
        go_wp2_with fail
        go_round
        case rel => exact ⟨k + 1, by omega, by go_num, int_eq (by rw [← HW.out])⟩
        case measure => simp [intOf]; omega
      · have hkk : k = k0 := by omega
        subst hkk
        have hw := walk_or s k (byteN s k) rfl hk10 H9.out
        rw [← hbk] at hw
        have hx1 : (({ data := s.toArray } : ByteArray)[k]'hsl).toNat ≤ (127 : Int) := by rw [hbk]; omega
        have hx0 : (0 : Int) ≤ (({ data := s.toArray } : ByteArray)[k]'hsl).toNat := by omega
        have h9b : k = 9 → ((({ data := s.toArray } : ByteArray)[k]'hsl).toNat : Int) ≤ 1 := fun h => by rw [hbk]; have := H9.out h; omega
        have h0b : 0 < k → ((((({ data := s.toArray } : ByteArray)[k]'hsl).toNat : Int)) == 0) = false := fun h => by
          rw [beq_eq_false_iff_ne, hbk]; have := E4.out h; omega
        have hdrop : s.drop (k + 1) = (s.drop (k + 1)) := rfl
        have HW := Lib.hid hw; have H9B := Lib.hid h9b; have H0B := Lib.hid h0b; clear hw hbk h9b h0b hdrop
        by_cases h9 : k = 9
        · have q9 : ((k : Int) == 9) = true := by rw [beq_iff_eq]; omega
          have q1 := H9B.out h9
          have q0 := H0B.out (by omega)
          have hk0 : 0 < k := by omega
          clear h9
          go_wp2_with fail
          have z1 : IntKind.i64.wrap ((k : Int) + 1) = (k : Int) + 1 := IntWalk.i64_in _ (by omega)
          have z2 : (0 : Int) ≤ (k : Int) + 1 := by omega
          have z3 : ((k : Int) + 1).toNat = k + 1 := by omega
          go_quiet (fail)
          clear z1 z2 z3
          go_wp2_with fail
          go_ret3
          exact ⟨ret_num_str HW.out (bytes_drop s (k + 1)), _, rfl⟩
        · have q9 : ((k : Int) == 9) = false := by rw [beq_eq_false_iff_ne]; omega
          clear h9
          by_cases hk0 : 0 < k
          · have q0 := H0B.out hk0
            go_wp2_with fail
            have z1 : IntKind.i64.wrap ((k : Int) + 1) = (k : Int) + 1 := IntWalk.i64_in _ (by omega)
            have z2 : (0 : Int) ≤ (k : Int) + 1 := by omega
            have z3 : ((k : Int) + 1).toNat = k + 1 := by omega
            go_quiet (fail)
            clear z1 z2 z3
            go_wp2_with fail
            go_ret3
            exact ⟨ret_num_str HW.out (bytes_drop s (k + 1)), _, rfl⟩
          · have hk0 : k = 0 := by omega
            subst hk0
            have hw0 := HW.out
            rw [show ((2 : Int) ^ (7 * 0)) = 1 from rfl, Int.mul_one] at hw0
            have HW := Lib.hid hw0
            clear hw0
            go_wp2_with fail
            have z1 : IntKind.i64.wrap 1 = 1 := IntWalk.i64_in _ (by omega)
            go_quiet (fail)
            clear z1
            go_wp2_with fail
            go_ret3
            exact ⟨ret_num_str HW.out (bytes_drop s (0 + 1)), _, rfl⟩

set_option maxHeartbeats 1000000 in
theorem PNum_still (R : Nat) (s : Bytes) (v : Nat) (r : Bytes) (w : World) (hb : Rdr w R s) (hs : s.length ≤ 9223372036854775807) (h : IsVar s v r) (hv : v ≤ 2147483647) :
    Calls Tryz.prog 192 #[.pointer (some ⟨R, 0, none⟩)] w fun e w' => e = .returned (.int .i64 v) ∧ Rdr w' R r ∧ Turn (· = R) w w' ∧ w'.heap.size = w.heap.size := by
  have c := ToVar_still s v r w hs h
  obtain ⟨c0, c1, f0, f1⟩ := Blk.c2 hb
  have C := Lib.hid c; have HB := Lib.hid hb
  clear c h hb
  have hlt : ¬ 2147483647 < v := by omega
  go_enter Tryz.func192, Tryz.ntmps192
  go_wp2_with fail
  refine C.out.mono ?_
  rintro e w1 ⟨rfl, m, hw1⟩
  have q1 : Q w w1 := by rw [hw1]; exact Q.drewN _ _
  have hsz : w1.heap.size = w.heap.size := by rw [hw1]; rfl
  have hb1 := HB.out.stays q1
  obtain ⟨d0, d1, g0, g1⟩ := Blk.c2 hb1
  have HB1 := Lib.hid hb1; have HQ1 := Lib.hid q1; have HSZ := Lib.hid hsz
  clear hb1 q1 c0 c1 f0 f1 hw1 hsz
  go_wp2_with fail
  go_ret
  exact ⟨rfl, Blk.set HB1.out 0 (strV r), Turn.setCell (own := (· = R)) (Turn.of_q HQ1.out) (.inl rfl) _, by simpa using HSZ.out⟩
end Go.Proofs.YtcflpcpkmhljkaaGreatDoor
end

/- (Base) Plain facts on lists of bytes and on bits, used by all walks of this seat. No program in sight. -/
section
namespace Go.Proofs.YtcflpcpkmhljkaaGreatDoor
open Go.RowKit

/-- bit i of a bitmap; off behind the end -/
def bit (l : List UInt8) (i : Nat) : Bool := (l.getD (i / 8) 0).toNat.testBit (i % 8)
def bitI (l : List UInt8) (i : Int) : Bool := decide (0 ≤ i) && bit l i.toNat

theorem bit_of_ge (l : List UInt8) (i : Nat) (h : 8 * l.length ≤ i) : bit l i = false := by
  unfold bit
  rw [List.getD_eq_getElem?_getD, List.getElem?_eq_none (by omega)]
  simp

theorem bitI_neg (l : List UInt8) (i : Int) (h : i < 0) : bitI l i = false := by
  simp [bitI]; omega
theorem bitI_ge (l : List UInt8) (i : Int) (h : 8 * l.length ≤ i) : bitI l i = false := by
  unfold bitI; rw [bit_of_ge _ _ (by omega)]; simp
theorem bitI_nat (l : List UInt8) (i : Nat) : bitI l i = bit l i := by simp [bitI]

/-- the walk's spelling of bit k of the byte x -/
theorem walk_bit (x k : Nat) (hx : x < 256) : (bits BinOp.and IntKind.u8 ((x : Int) / 2 ^ k) 1 == 1) = x.testBit k := by
  have h1 : ((x : Int) / 2 ^ k) = ((x / 2 ^ k : Nat) : Int) := by simp
  have h2 : x / 2 ^ k < 256 := Nat.lt_of_le_of_lt (Nat.div_le_self _ _) hx
  rw [h1]
  have := u8_and_nat (x / 2 ^ k) 1 h2 (by omega)
  rw [show ((1 : Nat) : Int) = 1 from rfl] at this
  rw [this, Nat.and_one_is_mod, Nat.testBit_eq_decide_div_mod_eq]
  by_cases h : x / 2 ^ k % 2 = 1
  · simp [h]
  · have : x / 2 ^ k % 2 = 0 := by omega
    rw [this]; simp

theorem bitI_in (l : List UInt8) (i : Int) (hi : 0 ≤ i) (h : (i / 8).toNat < l.length) :
    bitI l i = (l[(i / 8).toNat]).toNat.testBit (i % 8).toNat := by
  unfold bitI bit
  have e1 : i.toNat / 8 = (i / 8).toNat := by omega
  have e2 : i.toNat % 8 = (i % 8).toNat := by omega
  rw [e1, e2, List.getD_eq_getElem?_getD, List.getElem?_eq_getElem h]
  simp [hi]

theorem and_one (x : Nat) : (x &&& 1 == 1) = decide (x % 2 = 1) := by
  rw [Nat.and_one_is_mod]; rfl



theorem div_two_pow (x k : Nat) : ((x / 2 ^ k : Nat) : Int) / 2 = ((x / 2 ^ (k + 1) : Nat) : Int) := by
  rw [Nat.pow_succ, ← Nat.div_div_eq_div_mul]; rfl
theorem mod_two_one (x k : Nat) : (((x / 2 ^ k : Nat) : Int) % 2 == 1) = x.testBit k := by
  rw [Nat.testBit_eq_decide_div_mod_eq, Bool.eq_iff_iff]
  generalize x / 2 ^ k = y
  rw [beq_iff_eq, decide_eq_true_iff]
  omega

/-- block B holds (at least) the bytes l, and these may be written -/
def ByteRow (w : World) (B : Nat) (l : List UInt8) : Prop :=
  ∃ cur e lo hi, w.heap[B]? = some (.cells cur e (lo, hi)) ∧ (hi ≤ lo ∨ l.length ≤ lo) ∧ ∀ j (_ : j < l.length), cur[j]? = some (.int .u8 l[j].toNat)
theorem ByteRow.cell {w : World} {B : Nat} {l : List UInt8} (h : ByteRow w B l) (j : Nat) (hj : j < l.length) : w.cell? ⟨B, j, none⟩ = some (.int .u8 l[j].toNat) := by
  obtain ⟨cur, e, lo, hi, h1, h2, h3⟩ := h
  simp [World.cell?, h1, h3 j hj]
theorem ByteRow.frozen {w : World} {B : Nat} {l : List UInt8} (h : ByteRow w B l) (j : Nat) (hj : j < l.length) : w.frozen? ⟨B, j, none⟩ = false := by
  obtain ⟨cur, e, lo, hi, h1, h2, h3⟩ := h
  simp [World.frozen?, h1]; omega
theorem ByteRow.at {w : World} {B : Nat} {l : List UInt8} (h : ByteRow w B l) (j : Nat) (hj : j < l.length) : ∃ x : Nat, x < 256 ∧ Hid ((l.getD j 0).toNat = x) ∧ w.cell? ⟨B, j, none⟩ = some (.int .u8 x) ∧ w.frozen? ⟨B, j, none⟩ = false :=
  ⟨l[j].toNat, UInt8.toNat_lt _, by unfold Hid; rw [List.getD_eq_getElem?_getD, List.getElem?_eq_getElem hj]; rfl, h.cell j hj, h.frozen j hj⟩
theorem ByteRow.drew {w : World} {B : Nat} {l : List UInt8} (h : ByteRow w B l) : ByteRow w.drew B l := h
theorem ByteRow.drewN {w : World} {B : Nat} {l : List UInt8} (h : ByteRow w B l) (n : Nat) : ByteRow (w.drewN n) B l := h
theorem ByteRow.below {w w' : World} {B N : Nat} {l : List UInt8} (h : ByteRow w B l) (hb : Below N w w') (hB : B < N) : ByteRow w' B l := by
  obtain ⟨cur, e, lo, hi, h1, h2⟩ := h
  exact ⟨cur, e, lo, hi, by rw [hb.block B hB]; exact h1, h2⟩
theorem ByteRow.alloc {w : World} {B : Nat} {l : List UInt8} (h : ByteRow w B l) (o : Obj) : ByteRow (w.alloc o) B l := by
  obtain ⟨cur, e, lo, hi, h1, h2⟩ := h
  refine ⟨cur, e, lo, hi, ?_, h2⟩
  rw [Below.heap_alloc _ _ _ (Array.getElem?_eq_some_iff.1 h1).1]; exact h1
theorem ByteRow.set {w : World} {B : Nat} {l : List UInt8} (h : ByteRow w B l) (j : Nat) (v : Int) (x : UInt8) (hv : v = x.toNat) : ByteRow (w.setCell ⟨B, j, none⟩ (.int .u8 v)) B (l.set j x) := by
  obtain ⟨cur, e, lo, hi, h1, h2, h3⟩ := h
  subst hv
  refine ⟨cur.setIfInBounds j (.int .u8 x.toNat), e, lo, hi, ?_, by simpa using h2, ?_⟩
  · simp [World.setCell, Array.getElem?_modify, h1]
  · intro k hk
    have hk' : k < l.length := by simpa using hk
    rw [Array.getElem?_setIfInBounds]
    have := h3 k hk'
    have hs : k < cur.size := (Array.getElem?_eq_some_iff.1 this).1
    by_cases e : j = k
    · subst e; simp [hs]
    · simp [e, this]
theorem ByteRow.made (w : World) (l : List UInt8) (cap : Nat) (e : TypeId) : ByteRow (w.alloc (.cells (bytesRow ⟨l.toArray⟩ cap) e ((bytesRow ⟨l.toArray⟩ cap).size, (bytesRow ⟨l.toArray⟩ cap).size + 1))) w.heap.size l := by
  refine ⟨_, _, _, _, heap_alloc_new w _, Or.inr (by simp [bytesRow]), ?_⟩
  intro j hj
  have := bytesRow_at ⟨l.toArray⟩ cap j (by simpa using hj)
  simpa using this
/-- 'string(b)' of a row -/
theorem ByteRow.back {P : Program} {w : World} {B : Nat} {l : List UInt8} (h : ByteRow w B l) (src dst e : TypeId) (cap : Nat) (hs : P.underlying src = some (.slice e)) (he : P.underlying e = some (.int .u8)) (hd : P.underlying dst = some .string) :
    (convert src dst (.slice (some ⟨B, 0, none⟩) l.length cap)).run P w = .ok (.string ⟨l.toArray⟩) w :=
  run_convert_bytes_back w src dst e _ cap l hs he hd (fun j hj => by
    have : (⟨B, 0, none⟩ : Addr).add j = ⟨B, j, none⟩ := by unfold Addr.add; split <;> simp_all
    rw [this]; exact h.cell j hj)

/-- a byte with its bit k on or off -/
def byteSet (x k : Nat) (on : Bool) : Nat := if on then x ||| 2 ^ k else x &&& (255 - 2 ^ k)
def setBit (l : List UInt8) (i : Nat) (on : Bool) : List UInt8 := l.set (i / 8) (UInt8.ofNat (byteSet (l.getD (i / 8) 0).toNat (i % 8) on))
def setTo (l : List UInt8) (start : Nat) (on : Bool) : Nat → List UInt8
  | 0 => l
  | k + 1 => setBit (setTo l start on k) (start + k) on
theorem length_setBit (l : List UInt8) (i : Nat) (on : Bool) : (setBit l i on).length = l.length := by simp [setBit]
theorem length_setTo (l : List UInt8) (s : Nat) (on : Bool) (k : Nat) : (setTo l s on k).length = l.length := by
  induction k with
  | zero => rfl
  | succ k ih => rw [setTo, length_setBit, ih]

theorem two_pow_mod (k : Nat) (hk : k < 8) : ((2 : Int) ^ k % 256) = ((2 ^ k : Nat) : Int) := by
  have h : ∀ k : Fin 8, ((2 : Int) ^ k.val % 256) = ((2 ^ k.val : Nat) : Int) := by decide
  exact h ⟨k, hk⟩
theorem two_pow_lt (k : Nat) (hk : k < 8) : 2 ^ k < 256 := by
  have h : ∀ k : Fin 8, 2 ^ k.val < 256 := by decide
  exact h ⟨k, hk⟩
theorem byteSet_lt (x k : Nat) (on : Bool) (hx : x < 256) (hk : k < 8) : byteSet x k on < 256 := by
  unfold byteSet
  split
  · exact Nat.or_lt_two_pow (n := 8) hx (two_pow_lt k hk)
  · exact Nat.lt_of_le_of_lt Nat.and_le_left hx
theorem clear_or (x k : Nat) (hx : x < 256) (hk : k < 8) : (x &&& (255 - 2 ^ k)) ||| 2 ^ k = x ||| 2 ^ k := by
  have h : ∀ (x : Fin 256) (k : Fin 8), (x.val &&& (255 - 2 ^ k.val)) ||| 2 ^ k.val = x.val ||| 2 ^ k.val := by decide +kernel
  exact h ⟨x, hx⟩ ⟨k, hk⟩
theorem walk_clear (x k : Nat) (hx : x < 256) (hk : k < 8) : bits BinOp.andNot IntKind.u8 (x : Int) (2 ^ k % 256) = ((byteSet x k false : Nat) : Int) := by
  rw [two_pow_mod k hk, u8_andNot_nat _ _ hx (two_pow_lt k hk)]; rfl
theorem walk_turn (x k : Nat) (hx : x < 256) (hk : k < 8) : bits BinOp.or IntKind.u8 (bits BinOp.andNot IntKind.u8 (x : Int) (2 ^ k % 256)) (2 ^ k % 256) = ((byteSet x k true : Nat) : Int) := by
  rw [walk_clear x k hx hk, two_pow_mod k hk, u8_or_nat _ _ (byteSet_lt x k false hx hk) (two_pow_lt k hk)]
  unfold byteSet
  simp [clear_or x k hx hk]
theorem set_set (l : List UInt8) (i : Nat) (a b : UInt8) : (l.set i a).set i b = l.set i b := by simp
theorem ofNat_toNat (n : Nat) (h : n < 256) : ((UInt8.ofNat n).toNat : Int) = n := by
  rw [UInt8.toNat_ofNat']; omega

/-- so many bits are the first n -/
def firstN (l : List UInt8) (n : Int) : Nat := (max 0 (min n (8 * l.length))).toNat
theorem firstN_le (l : List UInt8) (n : Int) : firstN l n ≤ 8 * l.length := by unfold firstN; omega
theorem firstN_int (l : List UInt8) (n : Int) : ((firstN l n : Nat) : Int) = max 0 (min n (8 * l.length)) := by unfold firstN; omega
/-- how many of the first k bits are off -/
def cnt (l : List UInt8) : Nat → Nat
  | 0 => 0
  | k + 1 => cnt l k + if bit l k then 0 else 1
theorem cnt_le (l : List UInt8) (k : Nat) : cnt l k ≤ k := by
  induction k with
  | zero => exact Nat.le_refl _
  | succ k ih => rw [cnt]; split <;> omega
def makeL (n : Int) : List UInt8 := if 1 ≤ n ∧ n ≤ 32768 then List.replicate ((n + 7) / 8).toNat 0 else []

theorem ByteRow.zeros (w : World) (n : Nat) (e : TypeId) : ByteRow (w.alloc (.cells (madeCells #[.int .u8 0] n) e)) w.heap.size (List.replicate n 0) := by
  refine ⟨_, _, _, _, heap_alloc_new w _, Or.inl (Nat.le_refl _), ?_⟩
  intro j hj
  have hj' : j < n := by simpa using hj
  simp [madeCells, hj', Nat.mod_one]

theorem xor_set (x k : Nat) (on : Bool) (hx : x < 256) (hk : k < 8) (h : (x.testBit k == on) = false) : x ^^^ 2 ^ k = byteSet x k on := by
  have h' : ∀ (x : Fin 256) (k : Fin 8) (on : Bool), (x.val.testBit k.val == on) = false → x.val ^^^ 2 ^ k.val = byteSet x.val k.val on := by decide +kernel
  exact h' ⟨x, hx⟩ ⟨k, hk⟩ on h
theorem same_set (x k : Nat) (on : Bool) (hx : x < 256) (hk : k < 8) (h : (x.testBit k == on) = true) : x = byteSet x k on := by
  have h' : ∀ (x : Fin 256) (k : Fin 8) (on : Bool), (x.val.testBit k.val == on) = true → x.val = byteSet x.val k.val on := by decide +kernel
  exact h' ⟨x, hx⟩ ⟨k, hk⟩ on h

/-- the runs of free bits among the first k, as pairs: where, how many -/
def bump : List (Nat × Nat) → List (Nat × Nat)
  | [] => []
  | [r] => [(r.1, r.2 + 1)]
  | r :: rs => r :: bump rs
def runsTo (l : List UInt8) : Nat → List (Nat × Nat)
  | 0 => []
  | k + 1 => if bit l k then runsTo l k else if 0 < k ∧ bit l (k - 1) = false then bump (runsTo l k) else runsTo l k ++ [(k, 1)]
def ext (rs : List (Nat × Nat)) : List Value := rs.flatMap fun r => [.int .i64 r.1, .int .i64 r.2]
theorem length_ext (rs : List (Nat × Nat)) : (ext rs).length = rs.length * 2 := by
  induction rs with
  | nil => rfl
  | cons r rs ih => simp only [ext, List.flatMap_cons, List.length_append] at ih ⊢; simp at ih ⊢; omega
theorem ext_append (a b : List (Nat × Nat)) : ext (a ++ b) = ext a ++ ext b := by simp [ext]
theorem ext_at (rs : List (Nat × Nat)) (j : Nat) (h : j < rs.length) : (ext rs)[2 * j]? = some (.int .i64 rs[j].1) ∧ (ext rs)[2 * j + 1]? = some (.int .i64 rs[j].2) := by
  induction rs generalizing j with
  | nil => simp at h
  | cons r rs ih =>
    cases j with
    | zero => simp [ext]
    | succ j =>
      have := ih j (by simpa using h)
      have e : ext (r :: rs) = .int .i64 r.1 :: .int .i64 r.2 :: ext rs := by simp [ext]
      rw [e]
      have e2 : 2 * (j + 1) = 2 * j + 1 + 1 := by omega
      rw [e2]
      simpa using this
theorem length_bump (rs : List (Nat × Nat)) : (bump rs).length = rs.length := by
  induction rs with
  | nil => rfl
  | cons r rs ih => cases rs with
    | nil => rfl
    | cons q qs => simp only [bump, List.length_cons] at ih ⊢; omega
theorem runsTo_length (l : List UInt8) (k : Nat) : (runsTo l k).length ≤ k := by
  induction k with
  | zero => exact Nat.le_refl _
  | succ k ih =>
    rw [runsTo]
    split
    · omega
    · split
      · rw [length_bump]; omega
      · simp; omega
theorem bump_snoc (rs : List (Nat × Nat)) (r : Nat × Nat) : bump (rs ++ [r]) = rs ++ [(r.1, r.2 + 1)] := by
  induction rs with
  | nil => rfl
  | cons q qs ih =>
    rw [List.cons_append]
    cases h : qs ++ [r] with
    | nil => simp at h
    | cons a az =>
      rw [h] at ih
      simp only [bump, ih, List.cons_append]
/-- behind a free bit there is a run, and it ends there -/
theorem runsTo_last (l : List UInt8) (k : Nat) (h : bit l k = false) : ∃ rs r, runsTo l (k + 1) = rs ++ [r] ∧ r.1 + r.2 = k + 1 ∧ 1 ≤ r.2 := by
  induction k with
  | zero => exact ⟨[], (0, 1), by simp [runsTo, h], by omega, by omega⟩
  | succ k ih =>
    rw [runsTo, h]
    by_cases hk : bit l k = false
    · obtain ⟨rs, r, e, h1, h2⟩ := ih hk
      rw [e]
      refine ⟨rs, (r.1, r.2 + 1), ?_, by simp; omega, by simp⟩
      simp [hk, bump_snoc]
    · exact ⟨runsTo l (k + 1), (k + 1, 1), by simp [hk], by omega, by omega⟩

theorem ext_set (rs : List (Nat × Nat)) (r1 r2 : Nat) : (ext rs ++ ext [(r1, r2)]).set (rs.length * 2 + 1) (.int .i64 ((r2 : Int) + 1)) = ext (rs ++ [(r1, r2 + 1)]) := by
  rw [ext_append, List.set_append_right _ _ (by rw [length_ext]; omega), length_ext]
  have : rs.length * 2 + 1 - rs.length * 2 = 1 := by omega
  rw [this]
  simp [ext]

theorem pairs_differ (ra rb : List (Nat × Nat)) (k : Nat) (h1 : k < ra.length) (h2 : k < rb.length) (h : (!((ra[k].1 : Int) == (rb[k].1 : Int))) = true ∨ (!((ra[k].2 : Int) == (rb[k].2 : Int))) = true) : decide (ra = rb) = false := by
  rw [decide_eq_false_iff_not]
  intro e
  subst e
  simp at h
theorem pairs_same (ra rb : List (Nat × Nat)) (k : Nat) (h1 : k < ra.length) (h2 : k < rb.length) (h : (!((ra[k].1 : Int) == (rb[k].1 : Int))) = false ∧ (!((ra[k].2 : Int) == (rb[k].2 : Int))) = false) (hj : ∀ j, j < k → ra[j]? = rb[j]?) : ∀ j, j < k + 1 → ra[j]? = rb[j]? := by
  intro j hjk
  by_cases e : j = k
  · subst e
    simp at h
    rw [List.getElem?_eq_getElem h1, List.getElem?_eq_getElem h2]
    congr 1
    exact Prod.ext (by omega) (by omega)
  · exact hj j (by omega)

end Go.Proofs.YtcflpcpkmhljkaaGreatDoor
end
