/- Joined texts of one proof: Tok, Idx, WAlike, WDictR. -/
import Derived.Test.YtcflpcpkmhljkaaGreatDoorMKitToSegSpec
import Derived.Lib.DecodeN
import Derived.Lib.RuneBytes
import Derived.Lib.Small
import Derived.Test.YtcflpcpkmhljkaaGreatDoorProg
import Derived.WalkKit
import Derived.WalkSpells
import Derived.WalkLawsBesides
import Derived.Outline
set_option linter.unusedSimpArgs false
set_option linter.unusedVariables false
set_option linter.unnecessarySimpa false
/- (Tok) Plain laws of chapters 10 and 11: runes, words, terms of a text. No program in sight. -/
section
namespace Go.Proofs.YtcflpcpkmhljkaaGreatDoor

/-- the first rune of a text (-1: none), and how many bytes it has -/
def rune1 (s : Bytes) : Int × Nat :=
  match s with
  | [] => (-1, 0)
  | _ => let d := Lib.decodeN s.length (s.getD 0 0).toNat (s.getD 1 0).toNat (s.getD 2 0).toNat (s.getD 3 0).toNat
         if d.1 = 65533 ∧ d.2 < 3 then (-1, d.2) else ((d.1 : Int), d.2)
theorem decodeN_size (n b0 b1 b2 b3 : Nat) (hn : 0 < n) : 1 ≤ (Lib.decodeN n b0 b1 b2 b3).2 ∧ (Lib.decodeN n b0 b1 b2 b3).2 ≤ n := by
  unfold Lib.decodeN
  repeat' split
  all_goals (simp only []; omega)
theorem decodeN_bounds (n b0 b1 b2 b3 : Nat) : (Lib.decodeN n b0 b1 b2 b3).1 ≤ 1114111 ∧ (Lib.decodeN n b0 b1 b2 b3).2 ≤ 4 := by
  unfold Lib.decodeN
  repeat' split
  all_goals (simp only []; omega)
theorem rune1_size (s : Bytes) (h : s ≠ []) : 1 ≤ (rune1 s).2 ∧ (rune1 s).2 ≤ s.length := by
  cases s with
  | nil => exact absurd rfl h
  | cons b s =>
    have := decodeN_size (b :: s).length ((b :: s).getD 0 0).toNat ((b :: s).getD 1 0).toNat ((b :: s).getD 2 0).toNat ((b :: s).getD 3 0).toNat (by simp)
    unfold rune1
    simp only []
    split <;> exact this

/-- a text taken apart: its runes, each with its bytes -/
def chunksF : Nat → Bytes → List (Int × Bytes)
  | 0, _ => []
  | n + 1, s => if s = [] then [] else ((rune1 s).1, s.take (rune1 s).2) :: chunksF n (s.drop (rune1 s).2)
def chunks (s : Bytes) : List (Int × Bytes) := chunksF s.length s
theorem chunksF_enough (n m : Nat) (s : Bytes) (hn : s.length ≤ n) (hm : s.length ≤ m) : chunksF n s = chunksF m s := by
  induction n generalizing m s with
  | zero =>
    have : s = [] := List.eq_nil_of_length_eq_zero (by omega)
    subst this
    cases m <;> simp [chunksF]
  | succ n ih =>
    cases m with
    | zero =>
      have : s = [] := List.eq_nil_of_length_eq_zero (by omega)
      subst this; simp [chunksF]
    | succ m =>
      rw [chunksF, chunksF]
      split
      · rfl
      · rename_i h
        have := rune1_size s h
        rw [ih m (s.drop (rune1 s).2) (by rw [List.length_drop]; omega) (by rw [List.length_drop]; omega)]
theorem chunks_cons (s : Bytes) (h : s ≠ []) : chunks s = ((rune1 s).1, s.take (rune1 s).2) :: chunks (s.drop (rune1 s).2) := by
  have h1 := rune1_size s h
  have hl : 0 < s.length := by omega
  unfold chunks
  obtain ⟨k, hk⟩ : ∃ k, s.length = k + 1 := ⟨s.length - 1, by omega⟩
  rw [hk, chunksF, if_neg h, chunksF_enough k (s.drop (rune1 s).2).length _ (by rw [List.length_drop]; omega) (Nat.le_refl _)]
theorem chunks_nil : chunks [] = [] := rfl
theorem chunks_bytes (n : Nat) (s : Bytes) (h : s.length ≤ n) : (chunksF n s).flatMap (·.2) = s := by
  induction n generalizing s with
  | zero => have : s = [] := List.eq_nil_of_length_eq_zero (by omega); subst this; rfl
  | succ n ih =>
    rw [chunksF]
    split
    · rename_i h; subst h; rfl
    · rename_i hne
      have := rune1_size s hne
      rw [List.flatMap_cons, ih _ (by rw [List.length_drop]; omega), List.take_append_drop]
def validL (s : Bytes) : Bool := (chunks s).all fun c => decide (0 ≤ c.1)

/-- the spans of runes of one kind: letters 1, digits 2, blanks 3 -/
def spansL : List (Int × Int × Int) := [
  (9, 13, 3), (32, 32, 3), (48, 57, 2), (65, 90, 1), (97, 122, 1), (133, 133, 3), (160, 160, 3), (170, 170, 1), (181, 181, 1), (186, 186, 1),
  (192, 214, 1), (216, 246, 1), (248, 591, 1), (880, 884, 1), (886, 887, 1), (890, 893, 1), (895, 895, 1), (902, 902, 1), (904, 906, 1), (908, 908, 1),
  (910, 929, 1), (931, 1013, 1), (1015, 1153, 1), (1162, 1327, 1), (1329, 1366, 1), (1377, 1415, 1), (1488, 1514, 1), (1632, 1641, 2), (2406, 2415, 2), (8192, 8202, 3),
  (8232, 8233, 3), (12288, 12288, 3), (19968, 40959, 1), (44032, 55203, 1)]
def kindL (r : Int) : Int := match spansL.find? (fun x => decide (r ≤ x.2.1)) with
  | some x => if x.1 ≤ r then x.2.2 else 0
  | none => 0
def wordRune (r : Int) : Bool := decide (0 ≤ r) && (kindL r == 1 || kindL r == 2)

/-- the words among some runes; w: the word that is under way -/
def wordsF : List (Int × Bytes) → Option Bytes → List Bytes
  | [], none => []
  | [], some w => [w]
  | c :: cs, none => if wordRune c.1 then wordsF cs (some c.2) else wordsF cs none
  | c :: cs, some w => if wordRune c.1 then wordsF cs (some (w ++ c.2)) else w :: wordsF cs none
def wordsL (s : Bytes) : List Bytes := wordsF (chunks s) none

def inL (r lo hi : Int) : Bool := decide (lo ≤ r) && decide (r ≤ hi)
/-- small letters of capital ones -/
def foldL (r : Int) : Int :=
  if r = 215 ∨ r = 930 then r
  else if inL r 65 90 || inL r 192 222 || inL r 1040 1071 || inL r 913 937 then r + 32
  else if r = 962 then 963
  else if inL r 1024 1039 then r + 80
  else if inL r 256 303 || inL r 330 375 || inL r 1120 1153 || inL r 1162 1215 || inL r 1232 1327 then r + 1 - r % 2
  else if inL r 313 328 || inL r 377 382 then r + r % 2
  else if inL r 1329 1366 then r + 48
  else r
/-- a number's rune; U+FFFD, if it is none -/
def runeOfL (r : Int) : Int := if r < 0 ∨ 1114111 < r ∨ Lib.validRune r = false then 65533 else r
def foldC (c : Int × Bytes) : Bytes := if c.1 < 0 then c.2.take 1 else Lib.encodeRune (runeOfL (foldL c.1))
def foldedL (s : Bytes) : Bytes := (chunks s).flatMap foldC
def stopsL : List Bytes := ["a", "an", "and", "are", "as", "at", "be", "by", "for", "in", "is", "it", "of", "on", "or", "the", "to", "with"].map fun s => s.toUTF8.data.toList
def stopL (t : Bytes) : Bool := stopsL.contains t
/-- the terms of a text, and their places -/
def tokensF : List Bytes → Nat → List (Bytes × Nat)
  | [], _ => []
  | w :: ws, k => if (foldedL w).length ≤ 40 ∧ stopL (foldedL w) = false then (foldedL w, k) :: tokensF ws (k + 1) else tokensF ws (k + 1)
def tokensL (s : Bytes) : List (Bytes × Nat) := tokensF (wordsL s) 0
end Go.Proofs.YtcflpcpkmhljkaaGreatDoor
end

/- (Idx) Plain laws of chapters 12, 13, 14: postings and a dictionary as bytes; the index of documents. No program in sight. -/
section
namespace Go.Proofs.YtcflpcpkmhljkaaGreatDoor

/-- the places of a term in a document -/
abbrev PostL := Int × List Int
def risingI : Int → List Int → Int → Bool
  | _, [], _ => true
  | last, n :: l, below => decide (last < n) && decide (n < below) && risingI n l below
def postsRight : Int → List PostL → Bool
  | _, [] => true
  | last, p :: l => decide (last < p.1) && decide (p.1 < 500) && !p.2.isEmpty && risingI (-1) p.2 2000 && postsRight p.1 l
def gapsL : Int → List Int → List Nat
  | _, [] => []
  | at_, k :: l => (k - at_).toNat :: gapsL k l
/-- a posting behind the document 'last' -/
def oneE (p : PostL) (last : Int) : Bytes := varsE ((p.1 - last).toNat :: p.2.length :: gapsL (-1) p.2)
structure PackSt where
  skips : List Nat
  body : Bytes
  last : Int
  doc : Int
  from_ : Nat
def packStep (st : PackSt) (i : Nat) (p : PostL) : PackSt :=
  if 0 < i ∧ i % 8 = 0 then
    { skips := st.skips ++ [(st.doc - st.last).toNat, st.body.length - st.from_], body := st.body ++ oneE p st.doc, last := st.doc, doc := p.1, from_ := st.body.length }
  else { st with body := st.body ++ oneE p st.doc, doc := p.1 }
def packF : PackSt → Nat → List PostL → PackSt
  | st, _, [] => st
  | st, i, p :: l => packF (packStep st i p) (i + 1) l
def postsE (l : List PostL) : Bytes :=
  let st := packF ⟨[], [], -1, -1, 0⟩ 0 l
  varE l.length ++ (varsE st.skips ++ st.body)
def packL (l : List PostL) : Bytes := if postsRight (-1) l then postsE l else []

def alikeN : Bytes → Bytes → Nat
  | a :: s, b :: t => if a = b then alikeN s t + 1 else 0
  | _, _ => 0
/-- is a text less than another one, byte by byte? -/
def lessL : Bytes → Bytes → Bool
  | [], [] => false
  | [], _ :: _ => true
  | _ :: _, [] => false
  | a :: s, b :: t => if a = b then lessL s t else decide (a.toNat < b.toNat)
abbrev EntryL := Bytes × Bytes
def entriesRight : Bytes → List EntryL → Bool
  | _, [] => true
  | last, e :: l => lessL last e.1 && decide (e.1.length ≤ 40) && decide (e.2.length ≤ 4194304) && entriesRight e.1 l
def blockE : Bytes → List EntryL → Bytes
  | _, [] => []
  | last, e :: l => varE (alikeN last e.1) ++ (textE (e.1.drop (alikeN last e.1)) ++ (textE e.2 ++ blockE e.1 l))
def groupsF : Nat → List EntryL → List (List EntryL)
  | 0, _ => []
  | n + 1, l => if l = [] then [] else l.take 16 :: groupsF n (l.drop 16)
def dictE (l : List EntryL) : Bytes :=
  varE l.length ++ ((groupsF l.length l).flatMap (fun g => textE (g.headD ([], [])).1 ++ varE (blockE [] g).length) ++ (groupsF l.length l).flatMap (blockE []))
def dictL (l : List EntryL) : Bytes := if entriesRight [] l && decide (l.length ≤ 1048576) then dictE l else []

/-- a term's places in one text -/
def placesIn (s : Bytes) (t : Bytes) : List Int := (tokensL s).filterMap fun x => if x.1 = t then some (x.2 : Int) else none
def postsF (t : Bytes) : List DocL → Nat → List PostL
  | [], _ => []
  | d :: l, i => if placesIn d.2 t = [] then postsF t l (i + 1) else ((i : Int), placesIn d.2 t) :: postsF t l (i + 1)
/-- put a text where it belongs among rising ones, if it is not there -/
def putL (t : Bytes) : List Bytes → List Bytes
  | [] => [t]
  | x :: l => if x = t then x :: l else if lessL t x then t :: x :: l else x :: putL t l
def termsL (l : List DocL) : List Bytes := (l.flatMap fun d => (tokensL d.2).map (·.1)).foldl (fun a t => putL t a) []
def idxL (l : List DocL) : Bytes := dictL ((termsL l).map fun t => (t, packL (postsF t l 0)))
/-- may it be a document? -/
def rightL (d : DocL) : Bool := !d.1.isEmpty && decide (d.1.length ≤ 40) && decide (d.2.length ≤ 2000) && validL d.1 && validL d.2
/-- may these be documents of a segment? -/
def docsRight (l : List DocL) : Bool := l.all rightL && decide ((l.map (·.1)).Nodup)
def buildL (l : List DocL) : Bytes × Int :=
  if l.length < 1 ∨ 500 < l.length then ([], 6) else if docsRight l then (segE l (idxL l), 0) else ([], 1)
end Go.Proofs.YtcflpcpkmhljkaaGreatDoor
end

/- (WAlike) dict.alike: walked. -/
section
namespace Go.Proofs.YtcflpcpkmhljkaaGreatDoor
open Go.RowKit
set_option linter.unusedVariables false

theorem alike_step (a b : Bytes) (k : Nat) (ha : k < a.length) (hb : k < b.length) : alikeN (a.drop k) (b.drop k) = if a[k] = b[k] then alikeN (a.drop (k + 1)) (b.drop (k + 1)) + 1 else 0 := by
  rw [List.drop_eq_getElem_cons ha, List.drop_eq_getElem_cons hb, alikeN]
theorem alike_stop (a b : Bytes) (k : Nat) (h : ¬ (k < a.length ∧ k < b.length)) : alikeN (a.drop k) (b.drop k) = 0 := by
  by_cases ha : k < a.length
  · rw [List.drop_eq_nil_of_le (show b.length ≤ k by omega)]
    cases a.drop k <;> rfl
  · rw [List.drop_eq_nil_of_le (show a.length ≤ k by omega)]; rfl
theorem byte_eq (a b : Bytes) (k : Nat) (ha : k < a.length) (hb : k < b.length) : (((({ data := a.toArray } : ByteArray)[k]'ha).toNat : Int) == ((({ data := b.toArray } : ByteArray)[k]'hb).toNat : Int)) = decide (a[k] = b[k]) := by
  have e1 : (({ data := a.toArray } : ByteArray)[k]'ha) = a[k] := rfl
  have e2 : (({ data := b.toArray } : ByteArray)[k]'hb) = b[k] := rfl
  rw [e1, e2]
  by_cases h : a[k] = b[k]
  · simp [h]
  · rw [decide_eq_false h]
    simp only [beq_eq_false_iff_ne, ne_eq]
    intro hh
    exact h (UInt8.toNat_inj.1 (by omega))
set_option maxHeartbeats 1000000 in
theorem alike_any (a b : Bytes) (w : World) (ha : a.length ≤ 9223372036854775807) (hb : b.length ≤ 9223372036854775807) :
    Calls Tryz.prog 209 #[.string ⟨a.toArray⟩, .string ⟨b.toArray⟩] w fun e w' => e = .returned (.int .i64 (alikeN a b)) ∧ Q w w' := by
  go_enter Tryz.func209, Tryz.ntmps209
  go_wp2_with fail
  go_loopw [5] (fun i wr => ∃ k : Nat, i = .int .i64 k ∧ k ≤ a.length ∧ k ≤ b.length ∧ Hid (alikeN a b = k + alikeN (a.drop k) (b.drop k)) ∧ Hid (Q w wr)) (fun i _ => a.length - (intOf i).toNat)
  case atStart => exact ⟨0, rfl, by omega, by omega, by show _ = _; simp, Q.refl w⟩
  case round =>
    obtain ⟨k, rfl, hka, hkb, HA, HQ⟩ := hrel
    by_cases hlt : k < a.length ∧ k < b.length
    · obtain ⟨h1, h2⟩ := hlt
      have hs := alike_step a b k h1 h2
      have he := byte_eq a b k h1 h2
      have HS := Lib.hid hs; clear hs
      by_cases hab : a[k] = b[k]
      · rw [decide_eq_true hab] at he
        have HAB := Lib.hid hab; clear hab
        by_cases hba : b.length < a.length
        all_goals
          go_wp2_with fail
          go_quiet (fail)
          go_wp2_with fail
          go_roundw
          case rel => exact ⟨k + 1, by go_num, by omega, by omega, by show _ = _; rw [HA.out, HS.out, if_pos HAB.out]; omega, HQ.out.trans (Q.drewN _ _)⟩
          case measure => simp [intOf]; omega
      · rw [decide_eq_false hab] at he
        have HAB := Lib.hid hab; clear hab
        by_cases hba : b.length < a.length
        all_goals
          go_wp2_with fail
          go_quiet (fail)
          go_wp2_with fail
          go_ret
          exact ⟨ret_int (by rw [HA.out, HS.out, if_neg HAB.out]; omega), HQ.out.trans (Q.drewN _ _)⟩
    · have hs := alike_stop a b k hlt
      have HS := Lib.hid hs; clear hs
      by_cases hba : b.length < a.length
      · have hk : decide (k < b.length) = false := decide_eq_false (by omega)
        clear hlt
        go_wp2_with fail
        go_quiet (fail)
        go_wp2_with fail
        go_ret
        exact ⟨ret_int (by rw [HA.out, HS.out]; omega), HQ.out.trans (Q.drewN _ _)⟩
      · have hk : decide (k < a.length) = false := decide_eq_false (by omega)
        clear hlt
        go_wp2_with fail
        go_quiet (fail)
        go_wp2_with fail
        go_ret
        exact ⟨ret_int (by rw [HA.out, HS.out]; omega), HQ.out.trans (Q.drewN _ _)⟩
end Go.Proofs.YtcflpcpkmhljkaaGreatDoor
end

/- (WDictR) dict.Right: walked. -/
section
namespace Go.Proofs.YtcflpcpkmhljkaaGreatDoor
open Go.RowKit
set_option linter.unusedVariables false

/-- pairs of texts, as cells -/
abbrev pairVs (l : List (Bytes × Bytes)) : List Value := l.flatMap fun d => [strV d.1, strV d.2]
/-- a slice of pairs of texts -/
def Pairs (w : World) (v : Value) (l : List (Bytes × Bytes)) : Prop := Sl w v l.length 2 (pairVs l)
theorem Pairs.stays {w w' : World} {v : Value} {l : List (Bytes × Bytes)} (h : Pairs w v l) (hb : Below w.heap.size w w') : Pairs w' v l := Sl.stays h hb
theorem pairVs_append (l : List (Bytes × Bytes)) (d : Bytes × Bytes) : pairVs (l ++ [d]) = pairVs l ++ [strV d.1, strV d.2] := by simp [pairVs]
theorem pairVs_at (l : List (Bytes × Bytes)) (k : Nat) (h : k < l.length) : (pairVs l)[k * 2]? = some (strV l[k].1) ∧ (pairVs l)[k * 2 + 1]? = some (strV l[k].2) := by
  induction l generalizing k with
  | nil => simp at h
  | cons d l ih =>
    have e : pairVs (d :: l) = strV d.1 :: strV d.2 :: pairVs l := by simp [pairVs]
    cases k with
    | zero => rw [e]; exact ⟨rfl, rfl⟩
    | succ k =>
      have := ih k (by simpa using h)
      rw [e, show (k + 1) * 2 = k * 2 + 1 + 1 by omega]
      exact this
theorem Pairs.value {w : World} {v : Value} {l : List (Bytes × Bytes)} (h : Pairs w v l) : ∃ a cap, v = .slice a l.length cap ∧ (0 < l.length → ∃ b off, a = some ⟨b, off, none⟩ ∧ ∀ j (hj : j < l.length), w.cell? ⟨b, off + j * 2, none⟩ = some (strV l[j].1) ∧ w.cell? ⟨b, off + j * 2 + 1, none⟩ = some (strV l[j].2)) := by
  obtain ⟨_, a, cap, h2, h3⟩ := h
  refine ⟨a, cap, h2, fun hn => ?_⟩
  obtain ⟨b, off, h4, h5⟩ := h3 hn
  exact ⟨b, off, h4, fun j hj => ⟨h5 _ _ (pairVs_at l j hj).1, by rw [Nat.add_assoc]; exact h5 _ _ (pairVs_at l j hj).2⟩⟩

/-- is a text less than another one, in the model's words? -/
theorem lessL_eq (a b : Bytes) : Op.bytesLess a b = lessL a b := by
  induction a generalizing b with
  | nil => cases b <;> rfl
  | cons x a ih =>
    cases b with
    | nil => rfl
    | cons y b =>
      rw [lessL]
      unfold Op.bytesLess
      by_cases h : x = y
      · subst h
        have e : ¬ x < x := by rw [UInt8.lt_iff_toNat_lt]; omega
        simp [ih]
      · have h2 : (x == y) = false := by simpa using h
        rw [if_neg h, h2, Bool.false_and, Bool.or_false]
        rw [Bool.eq_iff_iff]; simp [UInt8.lt_iff_toNat_lt]
theorem lessL_not (a b : Bytes) : lessL a b = true → lessL b a = false ∧ b ≠ a := by
  induction a generalizing b with
  | nil => cases b <;> simp [lessL]
  | cons x a ih =>
    cases b with
    | nil => simp [lessL]
    | cons y b =>
      rw [lessL, lessL]
      by_cases h : x = y
      · subst h
        simp only [if_true]
        intro hh
        exact ⟨(ih b hh).1, fun e => (ih b hh).2 (List.cons.inj e).2⟩
      · rw [if_neg h, if_neg (Ne.symm h)]
        intro hh
        simp only [decide_eq_true_eq] at hh
        exact ⟨decide_eq_false (by omega), fun e => h (List.cons.inj e).1.symm⟩
theorem lessL_or (a b : Bytes) : lessL a b = false → lessL b a = true ∨ b = a := by
  induction a generalizing b with
  | nil => cases b <;> simp [lessL]
  | cons x a ih =>
    cases b with
    | nil => simp [lessL]
    | cons y b =>
      rw [lessL, lessL]
      by_cases h : x = y
      · subst h
        simp only [if_true]
        intro hh
        rcases ih b hh with h1 | h1
        · exact .inl h1
        · exact .inr (by rw [h1])
      · rw [if_neg h, if_neg (Ne.symm h)]
        intro hh
        simp only [decide_eq_false_iff_not] at hh
        have : x.toNat ≠ y.toNat := fun e => h (UInt8.toNat_inj.1 e)
        exact .inl (decide_eq_true (by omega))
set_option maxRecDepth 100000 in
set_option maxHeartbeats 1000000 in
theorem DRight_any (v : Value) (l : List (Bytes × Bytes)) (w : World) (hv : Pairs w v l) (hn : l.length ≤ 9223372036854775807) (hl : ∀ e ∈ l, e.1.length ≤ 9223372036854775807 ∧ e.2.length ≤ 9223372036854775807) :
    Calls Tryz.prog 208 #[v] w fun e w' => e = .returned (.bool (entriesRight [] l && decide (l.length ≤ 1048576))) ∧ Q w w' := by
  obtain ⟨a, cap, rfl, hcell⟩ := hv.value
  have HC := Lib.hid hcell; have HLN := Lib.hid hl; clear hcell hv hl
  go_enter Tryz.func208, Tryz.ntmps208
  go_wp2_with fail
  go_loopw [3, 8] (fun ls i wr => ∃ (k : Nat) (last : Bytes), k ≤ l.length ∧ i = .int .i64 k ∧ ls = strV last ∧ Hid (entriesRight [] l = entriesRight last (l.drop k)) ∧ Hid (Q w wr)) (fun _ i _ => l.length - (intOf i).toNat)
  case atStart => exact ⟨0, [], by omega, rfl, rfl, rfl, Q.refl w⟩
  case round =>
    obtain ⟨k, last, hk, rfl, rfl, HE, HQ⟩ := hrel
    by_cases hlt : k < l.length
    · obtain ⟨b, off, rfl, hc⟩ := HC.out (by omega)
      obtain ⟨hc1, hc2⟩ := hc k hlt
      have hw1 := cell_stays HQ.out hc1
      have hw2 := cell_stays HQ.out hc2
      have hlen := HLN.out _ (List.getElem_mem hlt)
      have hstep : entriesRight last (l.drop k) = (lessL last l[k].1 && decide (l[k].1.length ≤ 40) && decide (l[k].2.length ≤ 4194304) && entriesRight l[k].1 (l.drop (k + 1))) := by
        rw [List.drop_eq_getElem_cons hlt, entriesRight]
      clear hc hc1 hc2
      generalize l[k] = e at *
      obtain ⟨t, x⟩ := e
      simp only at hw1 hw2 hlen hstep
      obtain ⟨ht, hx⟩ := hlen
      have HS := Lib.hid hstep; clear hstep
      cases hlt2 : lessL last t with
      | true =>
        obtain ⟨h1, h2⟩ := lessL_not _ _ hlt2
        have hb : Op.bytesLess t last = false := by rw [lessL_eq]; exact h1
        have he : (t == last) = false := by simpa using h2
        have HL := Lib.hid hlt2; clear hlt2 h1
        by_cases h40 : t.length ≤ 40
        · by_cases h4m : x.length ≤ 4194304
          · go_wp2_with fail
            go_roundw
            case rel => exact ⟨k + 1, t, by omega, by go_num, rfl, by show _ = _; rw [HE.out, HS.out, HL.out]; simp [h40, h4m], HQ.out.trans (Q.alloc _ _)⟩
            case measure => simp [intOf]; omega
          · go_wp2_with fail
            go_ret
            exact ⟨ret_bool (by rw [HE.out, HS.out, HL.out, decide_eq_false (show ¬ x.length ≤ 4194304 by omega)]; simp), HQ.out.trans (Q.alloc _ _)⟩
        · go_wp2_with fail
          go_ret
          exact ⟨ret_bool (by rw [HE.out, HS.out, HL.out, decide_eq_false (show ¬ t.length ≤ 40 by omega)]; simp), HQ.out.trans (Q.alloc _ _)⟩
      | false =>
        have hr : (entriesRight [] l && decide (l.length ≤ 1048576)) = false := by rw [HE.out, HS.out, hlt2]; rfl
        have HR := Lib.hid hr; clear hr
        rcases lessL_or _ _ hlt2 with h1 | h1
        · have hb : Op.bytesLess t last = true := by rw [lessL_eq]; exact h1
          clear hlt2 h1
          go_wp2_with fail
          go_ret
          exact ⟨ret_bool HR.out.symm, HQ.out.trans (Q.alloc _ _)⟩
        · subst h1
          have hb : Op.bytesLess t t = false := by rw [lessL_eq]; exact hlt2
          clear hlt2
          go_wp2_with fail
          go_ret
          exact ⟨ret_bool HR.out.symm, HQ.out.trans (Q.alloc _ _)⟩
    · have hk2 : l.length = k := by omega
      have he : entriesRight [] l = true := by rw [HE.out, List.drop_eq_nil_of_le (by omega)]; rfl
      have HEE := Lib.hid he; clear he hk2
      by_cases hmx : l.length ≤ 1048576
      · go_wp2_with fail
        go_ret
        exact ⟨ret_bool (by rw [HEE.out, Bool.true_and, Bool.eq_iff_iff]; simp only [decide_eq_true_eq]; omega), HQ.out⟩
      · go_wp2_with fail
        go_ret
        exact ⟨ret_bool (by rw [HEE.out, Bool.true_and, Bool.eq_iff_iff]; simp only [decide_eq_true_eq]; omega), HQ.out⟩
end Go.Proofs.YtcflpcpkmhljkaaGreatDoor
end
