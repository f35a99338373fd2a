/- Joined texts of one proof: what is needed of Base, Base2, Base3, Sto. -/
import Derived.Test.YtnmijegmbomfdaaGreatDoorJJrn3
import Derived.WalkKit
import Derived.Lib.Hide
import Derived.Deep.QuietTactic
import Derived.BigQuiet
set_option linter.unusedSimpArgs false
set_option linter.unusedVariables false
set_option linter.unnecessarySimpa false
set_option maxRecDepth 100000
set_option maxHeartbeats 16000000
namespace Go.Proofs.YtnmijegmbomfdaaGreatDoor
section
open Go.RowKit
def bit (l : List UInt8) (i : Nat) : Bool := (l.getD (i / 8) 0).toNat.testBit (i % 8)
def bitI (l : List UInt8) (i : Int) : Bool := decide (0 ≤ i) && bit l i.toNat
theorem bit_of_ge (l : List UInt8) (i : Nat) (h : 8 * l.length ≤ i) : bit l i = false := by
  unfold bit
  rw [List.getD_eq_getElem?_getD, List.getElem?_eq_none (by omega)]
  simp
theorem bitI_neg (l : List UInt8) (i : Int) (h : i < 0) : bitI l i = false := by
  simp [bitI]; omega
theorem bitI_ge (l : List UInt8) (i : Int) (h : 8 * l.length ≤ i) : bitI l i = false := by
  unfold bitI; rw [bit_of_ge _ _ (by omega)]; simp
theorem bitI_nat (l : List UInt8) (i : Nat) : bitI l i = bit l i := by simp [bitI]
theorem walk_bit (x k : Nat) (hx : x < 256) : (bits BinOp.and IntKind.u8 ((x : Int) / 2 ^ k) 1 == 1) = x.testBit k := by
  have h1 : ((x : Int) / 2 ^ k) = ((x / 2 ^ k : Nat) : Int) := by simp
  have h2 : x / 2 ^ k < 256 := Nat.lt_of_le_of_lt (Nat.div_le_self _ _) hx
  rw [h1]
  have := u8_and_nat (x / 2 ^ k) 1 h2 (by omega)
  rw [show ((1 : Nat) : Int) = 1 from rfl] at this
  rw [this, Nat.and_one_is_mod, Nat.testBit_eq_decide_div_mod_eq]
  by_cases h : x / 2 ^ k % 2 = 1
  · simp [h]
  · have : x / 2 ^ k % 2 = 0 := by omega
    rw [this]; simp
theorem bitI_in (l : List UInt8) (i : Int) (hi : 0 ≤ i) (h : (i / 8).toNat < l.length) :
    bitI l i = (l[(i / 8).toNat]).toNat.testBit (i % 8).toNat := by
  unfold bitI bit
  have e1 : i.toNat / 8 = (i / 8).toNat := by omega
  have e2 : i.toNat % 8 = (i % 8).toNat := by omega
  rw [e1, e2, List.getD_eq_getElem?_getD, List.getElem?_eq_getElem h]
  simp [hi]
theorem div_two_pow (x k : Nat) : ((x / 2 ^ k : Nat) : Int) / 2 = ((x / 2 ^ (k + 1) : Nat) : Int) := by
  rw [Nat.pow_succ, ← Nat.div_div_eq_div_mul]; rfl
theorem mod_two_one (x k : Nat) : (((x / 2 ^ k : Nat) : Int) % 2 == 1) = x.testBit k := by
  rw [Nat.testBit_eq_decide_div_mod_eq, Bool.eq_iff_iff]
  generalize x / 2 ^ k = y
  rw [beq_iff_eq, decide_eq_true_iff]
  omega
def ByteRow (w : World) (B : Nat) (l : List UInt8) : Prop :=
  ∃ cur e lo hi, w.heap[B]? = some (.cells cur e (lo, hi)) ∧ (hi ≤ lo ∨ l.length ≤ lo) ∧ ∀ j (_ : j < l.length), cur[j]? = some (.int .u8 l[j].toNat)
theorem ByteRow.cell {w : World} {B : Nat} {l : List UInt8} (h : ByteRow w B l) (j : Nat) (hj : j < l.length) : w.cell? ⟨B, j, none⟩ = some (.int .u8 l[j].toNat) := by
  obtain ⟨cur, e, lo, hi, h1, h2, h3⟩ := h
  simp [World.cell?, h1, h3 j hj]
theorem ByteRow.frozen {w : World} {B : Nat} {l : List UInt8} (h : ByteRow w B l) (j : Nat) (hj : j < l.length) : w.frozen? ⟨B, j, none⟩ = false := by
  obtain ⟨cur, e, lo, hi, h1, h2, h3⟩ := h
  simp [World.frozen?, h1]; omega
theorem ByteRow.at {w : World} {B : Nat} {l : List UInt8} (h : ByteRow w B l) (j : Nat) (hj : j < l.length) : ∃ x : Nat, x < 256 ∧ Hid ((l.getD j 0).toNat = x) ∧ w.cell? ⟨B, j, none⟩ = some (.int .u8 x) ∧ w.frozen? ⟨B, j, none⟩ = false :=
  ⟨l[j].toNat, UInt8.toNat_lt _, by unfold Hid; rw [List.getD_eq_getElem?_getD, List.getElem?_eq_getElem hj]; rfl, h.cell j hj, h.frozen j hj⟩
theorem ByteRow.drew {w : World} {B : Nat} {l : List UInt8} (h : ByteRow w B l) : ByteRow w.drew B l := h
theorem ByteRow.drewN {w : World} {B : Nat} {l : List UInt8} (h : ByteRow w B l) (n : Nat) : ByteRow (w.drewN n) B l := h
theorem ByteRow.below {w w' : World} {B N : Nat} {l : List UInt8} (h : ByteRow w B l) (hb : Below N w w') (hB : B < N) : ByteRow w' B l := by
  obtain ⟨cur, e, lo, hi, h1, h2⟩ := h
  exact ⟨cur, e, lo, hi, by rw [hb.block B hB]; exact h1, h2⟩
theorem ByteRow.alloc {w : World} {B : Nat} {l : List UInt8} (h : ByteRow w B l) (o : Obj) : ByteRow (w.alloc o) B l := by
  obtain ⟨cur, e, lo, hi, h1, h2⟩ := h
  refine ⟨cur, e, lo, hi, ?_, h2⟩
  rw [Below.heap_alloc _ _ _ (Array.getElem?_eq_some_iff.1 h1).1]; exact h1
theorem ByteRow.set {w : World} {B : Nat} {l : List UInt8} (h : ByteRow w B l) (j : Nat) (v : Int) (x : UInt8) (hv : v = x.toNat) : ByteRow (w.setCell ⟨B, j, none⟩ (.int .u8 v)) B (l.set j x) := by
  obtain ⟨cur, e, lo, hi, h1, h2, h3⟩ := h
  subst hv
  refine ⟨cur.setIfInBounds j (.int .u8 x.toNat), e, lo, hi, ?_, by simpa using h2, ?_⟩
  · simp [World.setCell, Array.getElem?_modify, h1]
  · intro k hk
    have hk' : k < l.length := by simpa using hk
    rw [Array.getElem?_setIfInBounds]
    have := h3 k hk'
    have hs : k < cur.size := (Array.getElem?_eq_some_iff.1 this).1
    by_cases e : j = k
    · subst e; simp [hs]
    · simp [e, this]
theorem ByteRow.made (w : World) (l : List UInt8) (cap : Nat) (e : TypeId) : ByteRow (w.alloc (.cells (bytesRow ⟨l.toArray⟩ cap) e ((bytesRow ⟨l.toArray⟩ cap).size, (bytesRow ⟨l.toArray⟩ cap).size + 1))) w.heap.size l := by
  refine ⟨_, _, _, _, heap_alloc_new w _, Or.inr (by simp [bytesRow]), ?_⟩
  intro j hj
  have := bytesRow_at ⟨l.toArray⟩ cap j (by simpa using hj)
  simpa using this
theorem ByteRow.back {P : Program} {w : World} {B : Nat} {l : List UInt8} (h : ByteRow w B l) (src dst e : TypeId) (cap : Nat) (hs : P.underlying src = some (.slice e)) (he : P.underlying e = some (.int .u8)) (hd : P.underlying dst = some .string) :
    (convert src dst (.slice (some ⟨B, 0, none⟩) l.length cap)).run P w = .ok (.string ⟨l.toArray⟩) w :=
  run_convert_bytes_back w src dst e _ cap l hs he hd (fun j hj => by
    have : (⟨B, 0, none⟩ : Addr).add j = ⟨B, j, none⟩ := by unfold Addr.add; split <;> simp_all
    rw [this]; exact h.cell j hj)
def byteSet (x k : Nat) (on : Bool) : Nat := if on then x ||| 2 ^ k else x &&& (255 - 2 ^ k)
def setBit (l : List UInt8) (i : Nat) (on : Bool) : List UInt8 := l.set (i / 8) (UInt8.ofNat (byteSet (l.getD (i / 8) 0).toNat (i % 8) on))
def setTo (l : List UInt8) (start : Nat) (on : Bool) : Nat → List UInt8
  | 0 => l
  | k + 1 => setBit (setTo l start on k) (start + k) on
theorem length_setBit (l : List UInt8) (i : Nat) (on : Bool) : (setBit l i on).length = l.length := by simp [setBit]
theorem length_setTo (l : List UInt8) (s : Nat) (on : Bool) (k : Nat) : (setTo l s on k).length = l.length := by
  induction k with
  | zero => rfl
  | succ k ih => rw [setTo, length_setBit, ih]
theorem two_pow_mod (k : Nat) (hk : k < 8) : ((2 : Int) ^ k % 256) = ((2 ^ k : Nat) : Int) := by
  have h : ∀ k : Fin 8, ((2 : Int) ^ k.val % 256) = ((2 ^ k.val : Nat) : Int) := by decide
  exact h ⟨k, hk⟩
theorem two_pow_lt (k : Nat) (hk : k < 8) : 2 ^ k < 256 := by
  have h : ∀ k : Fin 8, 2 ^ k.val < 256 := by decide
  exact h ⟨k, hk⟩
theorem byteSet_lt (x k : Nat) (on : Bool) (hx : x < 256) (hk : k < 8) : byteSet x k on < 256 := by
  unfold byteSet
  split
  · exact Nat.or_lt_two_pow (n := 8) hx (two_pow_lt k hk)
  · exact Nat.lt_of_le_of_lt Nat.and_le_left hx
theorem clear_or (x k : Nat) (hx : x < 256) (hk : k < 8) : (x &&& (255 - 2 ^ k)) ||| 2 ^ k = x ||| 2 ^ k := by
  have h : ∀ (x : Fin 256) (k : Fin 8), (x.val &&& (255 - 2 ^ k.val)) ||| 2 ^ k.val = x.val ||| 2 ^ k.val := by decide +kernel
  exact h ⟨x, hx⟩ ⟨k, hk⟩
theorem walk_clear (x k : Nat) (hx : x < 256) (hk : k < 8) : bits BinOp.andNot IntKind.u8 (x : Int) (2 ^ k % 256) = ((byteSet x k false : Nat) : Int) := by
  rw [two_pow_mod k hk, u8_andNot_nat _ _ hx (two_pow_lt k hk)]; rfl
theorem walk_turn (x k : Nat) (hx : x < 256) (hk : k < 8) : bits BinOp.or IntKind.u8 (bits BinOp.andNot IntKind.u8 (x : Int) (2 ^ k % 256)) (2 ^ k % 256) = ((byteSet x k true : Nat) : Int) := by
  rw [walk_clear x k hx hk, two_pow_mod k hk, u8_or_nat _ _ (byteSet_lt x k false hx hk) (two_pow_lt k hk)]
  unfold byteSet
  simp [clear_or x k hx hk]
theorem set_set (l : List UInt8) (i : Nat) (a b : UInt8) : (l.set i a).set i b = l.set i b := by simp
theorem ofNat_toNat (n : Nat) (h : n < 256) : ((UInt8.ofNat n).toNat : Int) = n := by
  rw [UInt8.toNat_ofNat']; omega
def firstN (l : List UInt8) (n : Int) : Nat := (max 0 (min n (8 * l.length))).toNat
theorem firstN_le (l : List UInt8) (n : Int) : firstN l n ≤ 8 * l.length := by unfold firstN; omega
theorem firstN_int (l : List UInt8) (n : Int) : ((firstN l n : Nat) : Int) = max 0 (min n (8 * l.length)) := by unfold firstN; omega
def cnt (l : List UInt8) : Nat → Nat
  | 0 => 0
  | k + 1 => cnt l k + if bit l k then 0 else 1
theorem cnt_le (l : List UInt8) (k : Nat) : cnt l k ≤ k := by
  induction k with
  | zero => exact Nat.le_refl _
  | succ k ih => rw [cnt]; split <;> omega
def makeL (n : Int) : List UInt8 := if 1 ≤ n ∧ n ≤ 32768 then List.replicate ((n + 7) / 8).toNat 0 else []
theorem ByteRow.zeros (w : World) (n : Nat) (e : TypeId) : ByteRow (w.alloc (.cells (madeCells #[.int .u8 0] n) e)) w.heap.size (List.replicate n 0) := by
  refine ⟨_, _, _, _, heap_alloc_new w _, Or.inl (Nat.le_refl _), ?_⟩
  intro j hj
  have hj' : j < n := by simpa using hj
  simp [madeCells, hj', Nat.mod_one]
theorem xor_set (x k : Nat) (on : Bool) (hx : x < 256) (hk : k < 8) (h : (x.testBit k == on) = false) : x ^^^ 2 ^ k = byteSet x k on := by
  have h' : ∀ (x : Fin 256) (k : Fin 8) (on : Bool), (x.val.testBit k.val == on) = false → x.val ^^^ 2 ^ k.val = byteSet x.val k.val on := by decide +kernel
  exact h' ⟨x, hx⟩ ⟨k, hk⟩ on h
theorem same_set (x k : Nat) (on : Bool) (hx : x < 256) (hk : k < 8) (h : (x.testBit k == on) = true) : x = byteSet x k on := by
  have h' : ∀ (x : Fin 256) (k : Fin 8) (on : Bool), (x.val.testBit k.val == on) = true → x.val = byteSet x.val k.val on := by decide +kernel
  exact h' ⟨x, hx⟩ ⟨k, hk⟩ on h
def bump : List (Nat × Nat) → List (Nat × Nat)
  | [] => []
  | [r] => [(r.1, r.2 + 1)]
  | r :: rs => r :: bump rs
def runsTo (l : List UInt8) : Nat → List (Nat × Nat)
  | 0 => []
  | k + 1 => if bit l k then runsTo l k else if 0 < k ∧ bit l (k - 1) = false then bump (runsTo l k) else runsTo l k ++ [(k, 1)]
def ext (rs : List (Nat × Nat)) : List Value := rs.flatMap fun r => [.int .i64 r.1, .int .i64 r.2]
theorem length_ext (rs : List (Nat × Nat)) : (ext rs).length = rs.length * 2 := by
  induction rs with
  | nil => rfl
  | cons r rs ih => simp only [ext, List.flatMap_cons, List.length_append] at ih ⊢; simp at ih ⊢; omega
theorem ext_append (a b : List (Nat × Nat)) : ext (a ++ b) = ext a ++ ext b := by simp [ext]
theorem ext_at (rs : List (Nat × Nat)) (j : Nat) (h : j < rs.length) : (ext rs)[2 * j]? = some (.int .i64 rs[j].1) ∧ (ext rs)[2 * j + 1]? = some (.int .i64 rs[j].2) := by
  induction rs generalizing j with
  | nil => simp at h
  | cons r rs ih =>
    cases j with
    | zero => simp [ext]
    | succ j =>
      have := ih j (by simpa using h)
      have e : ext (r :: rs) = .int .i64 r.1 :: .int .i64 r.2 :: ext rs := by simp [ext]
      rw [e]
      have e2 : 2 * (j + 1) = 2 * j + 1 + 1 := by omega
      rw [e2]
      simpa using this
theorem length_bump (rs : List (Nat × Nat)) : (bump rs).length = rs.length := by
  induction rs with
  | nil => rfl
  | cons r rs ih => cases rs with
    | nil => rfl
    | cons q qs => simp only [bump, List.length_cons] at ih ⊢; omega
theorem runsTo_length (l : List UInt8) (k : Nat) : (runsTo l k).length ≤ k := by
  induction k with
  | zero => exact Nat.le_refl _
  | succ k ih =>
    rw [runsTo]
    split
    · omega
    · split
      · rw [length_bump]; omega
      · simp; omega
theorem bump_snoc (rs : List (Nat × Nat)) (r : Nat × Nat) : bump (rs ++ [r]) = rs ++ [(r.1, r.2 + 1)] := by
  induction rs with
  | nil => rfl
  | cons q qs ih =>
    rw [List.cons_append]
    cases h : qs ++ [r] with
    | nil => simp at h
    | cons a az =>
      rw [h] at ih
      simp only [bump, ih, List.cons_append]
theorem runsTo_last (l : List UInt8) (k : Nat) (h : bit l k = false) : ∃ rs r, runsTo l (k + 1) = rs ++ [r] ∧ r.1 + r.2 = k + 1 ∧ 1 ≤ r.2 := by
  induction k with
  | zero => exact ⟨[], (0, 1), by simp [runsTo, h], by omega, by omega⟩
  | succ k ih =>
    rw [runsTo, h]
    by_cases hk : bit l k = false
    · obtain ⟨rs, r, e, h1, h2⟩ := ih hk
      rw [e]
      refine ⟨rs, (r.1, r.2 + 1), ?_, by simp; omega, by simp⟩
      simp [hk, bump_snoc]
    · exact ⟨runsTo l (k + 1), (k + 1, 1), by simp [hk], by omega, by omega⟩
theorem ext_set (rs : List (Nat × Nat)) (r1 r2 : Nat) : (ext rs ++ ext [(r1, r2)]).set (rs.length * 2 + 1) (.int .i64 ((r2 : Int) + 1)) = ext (rs ++ [(r1, r2 + 1)]) := by
  rw [ext_append, List.set_append_right _ _ (by rw [length_ext]; omega), length_ext]
  have : rs.length * 2 + 1 - rs.length * 2 = 1 := by omega
  rw [this]
  simp [ext]
end
section
theorem runs_stay (l : List UInt8) (k : Nat) (h : bit l k = true) : runsTo l (k + 1) = runsTo l k := by rw [runsTo, h]; rfl
def tail (l : List UInt8) : Nat → Nat
  | 0 => 0
  | k + 1 => if bit l k then 0 else tail l k + 1
theorem tail_le (l : List UInt8) (k : Nat) : tail l k ≤ k := by
  induction k with
  | zero => exact Nat.le_refl _
  | succ k ih => rw [tail]; split <;> omega
def fitN (l : List UInt8) (c : Nat) : Nat → Option Nat
  | 0 => none
  | k + 1 => match fitN l c k with
    | some s => some s
    | none => if tail l (k + 1) = c then some (k + 1 - c) else none
def fitO : Option Nat → Int × Bool
  | some s => ((s : Int), true)
  | none => (0, false)
def fitR (l : List UInt8) (n c : Int) : Int × Bool := if c < 1 then (0, false) else fitO (fitN l c.toNat (firstN l n))
theorem fitN_mono (l : List UInt8) (c k s : Nat) (h : fitN l c k = some s) (m : Nat) (hm : k ≤ m) : fitN l c m = some s := by
  induction m with
  | zero => rw [← h]; congr 1; omega
  | succ m ih =>
    by_cases e : k = m + 1
    · rw [← e]; exact h
    · rw [fitN, ih (by omega)]
theorem runs_tail (l : List UInt8) (k : Nat) (h : bit l k = false) : ∃ rs a, runsTo l (k + 1) = rs ++ [(a, tail l (k + 1))] ∧ a + tail l (k + 1) = k + 1 := by
  induction k with
  | zero => exact ⟨[], 0, by simp [runsTo, tail, h], by simp [tail, h]⟩
  | succ k ih =>
    by_cases hk : bit l k = false
    · obtain ⟨rs, a, h1, h2⟩ := ih hk
      refine ⟨rs, a, ?_, ?_⟩
      · rw [runsTo, h, if_neg (by simp), if_pos ⟨by omega, hk⟩, h1, bump_snoc, tail.eq_2 l (k + 1), h]; rfl
      · rw [tail, h]; simp; omega
    · have hk' : bit l k = true := by simpa using hk
      refine ⟨runsTo l (k + 1), k + 1, ?_, ?_⟩
      · rw [runsTo, h, if_neg (by simp), if_neg (by simp [hk']), tail, h, tail, hk']; rfl
      · rw [tail, h, tail, hk']; simp
theorem mask_bit (k j : Nat) (hk : k < 8) (hj : j < 8) : (255 - 2 ^ k).testBit j = decide (j ≠ k) := by
  have h : ∀ (k j : Fin 8), (255 - 2 ^ k.val).testBit j.val = decide (j.val ≠ k.val) := by decide +kernel
  exact h ⟨k, hk⟩ ⟨j, hj⟩
theorem byteSet_bit (x k j : Nat) (on : Bool) (hk : k < 8) (hj : j < 8) : (byteSet x k on).testBit j = if j = k then on else x.testBit j := by
  unfold byteSet
  cases on with
  | true =>
    simp only [if_true, Nat.testBit_or, Nat.testBit_two_pow]
    by_cases h : j = k
    · simp [h]
    · simp [h]; omega
  | false =>
    simp only [Bool.false_eq_true, if_false, Nat.testBit_and, mask_bit k j hk hj]
    by_cases h : j = k <;> simp [h]
theorem bit_setBit (l : List UInt8) (i j : Nat) (on : Bool) (hi : i < 8 * l.length) : bit (setBit l i on) j = if j = i then on else bit l j := by
  have hi8 : i / 8 < l.length := by omega
  unfold bit setBit
  rw [List.getD_eq_getElem?_getD, List.getElem?_set]
  by_cases h : i / 8 = j / 8
  · rw [if_pos h, if_pos hi8, Option.getD_some, UInt8.toNat_ofNat', Nat.mod_eq_of_lt (byteSet_lt _ _ _ (UInt8.toNat_lt _) (Nat.mod_lt _ (by omega))),
      byteSet_bit _ _ _ _ (Nat.mod_lt _ (by omega)) (Nat.mod_lt _ (by omega)), h]
    by_cases h2 : j = i
    · rw [if_pos (by omega), if_pos h2]
    · rw [if_neg (by omega), if_neg h2]
  · rw [if_neg h, if_neg (by intro e; exact h (by rw [e])), ← List.getD_eq_getElem?_getD]
theorem bit_setTo (l : List UInt8) (s c j : Nat) (on : Bool) (h : c + s ≤ 8 * l.length) : bit (setTo l s on c) j = if s ≤ j ∧ j < s + c then on else bit l j := by
  induction c with
  | zero => rw [setTo, if_neg (by omega)]
  | succ c ih =>
    rw [setTo, bit_setBit _ _ _ _ (by rw [length_setTo]; omega), ih (by omega)]
    by_cases h1 : j = s + c
    · rw [if_pos h1, if_pos (by omega)]
    · rw [if_neg h1]
      by_cases h2 : s ≤ j ∧ j < s + c
      · rw [if_pos h2, if_pos (by omega)]
      · rw [if_neg h2, if_neg (by omega)]
theorem byte_ext (x y : Nat) (hx : x < 256) (hy : y < 256) (h : ∀ j, j < 8 → x.testBit j = y.testBit j) : x = y := by
  apply Nat.eq_of_testBit_eq
  intro i
  by_cases hi : i < 8
  · exact h i hi
  · have h8 : 2 ^ 8 ≤ 2 ^ i := Nat.pow_le_pow_right (by decide) (by omega)
    rw [Nat.testBit_lt_two_pow (by omega), Nat.testBit_lt_two_pow (by omega)]
theorem bits_ext (a b : List UInt8) (hl : a.length = b.length) (h : ∀ j, j < 8 * a.length → bit a j = bit b j) : a = b := by
  refine List.ext_getElem hl (fun k h1 h2 => ?_)
  apply UInt8.toNat_inj.1
  refine byte_ext _ _ (UInt8.toNat_lt _) (UInt8.toNat_lt _) (fun j hj => ?_)
  have := h (8 * k + j) (by omega)
  unfold bit at this
  rw [show (8 * k + j) / 8 = k by omega, show (8 * k + j) % 8 = j by omega, List.getD_eq_getElem?_getD, List.getD_eq_getElem?_getD, List.getElem?_eq_getElem h1, List.getElem?_eq_getElem h2] at this
  exact this
theorem setTo_back (l : List UInt8) (s c : Nat) (h : c + s ≤ 8 * l.length) (hf : ∀ j, s ≤ j → j < s + c → bit l j = false) : setTo (setTo l s true c) s false c = l := by
  refine bits_ext _ _ (by rw [length_setTo, length_setTo]) (fun j hj => ?_)
  rw [bit_setTo _ _ _ _ _ (by rw [length_setTo]; exact h), bit_setTo _ _ _ _ _ h]
  by_cases h1 : s ≤ j ∧ j < s + c
  · rw [if_pos h1, hf j h1.1 h1.2]
  · rw [if_neg h1, if_neg h1]
theorem cnt_set (l m : List UInt8) (s c : Nat) (hm : ∀ j, bit m j = if s ≤ j ∧ j < s + c then true else bit l j) (hf : ∀ j, s ≤ j → j < s + c → bit l j = false) (k : Nat) :
    cnt m k + (min k (s + c) - min k s) = cnt l k := by
  induction k with
  | zero => simp [cnt]
  | succ k ih =>
    rw [cnt, cnt, hm]
    by_cases h1 : s ≤ k ∧ k < s + c
    · rw [if_pos h1, hf k h1.1 h1.2]; simp; omega
    · rw [if_neg h1]; split <;> omega
theorem tail_free (l : List UInt8) (k j : Nat) (h1 : k - tail l k ≤ j) (h2 : j < k) : bit l j = false := by
  induction k with
  | zero => omega
  | succ k ih =>
    rw [tail] at h1
    cases hb : bit l k with
    | true => rw [hb] at h1; simp at h1; omega
    | false =>
      rw [hb] at h1; simp at h1
      by_cases e : j = k
      · rw [e]; exact hb
      · exact ih (by omega) (by omega)
theorem fit_some (l : List UInt8) (c N s : Nat) (h : fitN l c N = some s) : tail l (s + c) = c ∧ s + c ≤ N ∧ (1 ≤ c → fitN l c (s + c - 1) = none) := by
  induction N with
  | zero => cases h
  | succ k ih =>
    rw [fitN] at h
    cases hk : fitN l c k with
    | some t =>
      rw [hk] at h
      obtain ⟨h1, h2, h3⟩ := ih (by rw [hk]; simpa using h)
      exact ⟨h1, by omega, h3⟩
    | none =>
      rw [hk] at h
      simp at h
      have := tail_le l (k + 1)
      have e : s + c = k + 1 := by omega
      rw [e]
      exact ⟨h.1, Nat.le_refl _, fun _ => hk⟩
def RunOk (l : List UInt8) (k : Nat) (r : Nat × Nat) : Prop :=
  (∀ j, r.1 ≤ j → j < r.1 + r.2 → bit l j = false) ∧ (0 < r.1 → bit l (r.1 - 1) = true) ∧ 1 ≤ r.2 ∧ r.1 + r.2 ≤ k ∧ (r.1 + r.2 < k → bit l (r.1 + r.2) = true)
def total (rs : List (Nat × Nat)) : Nat := (rs.map (·.2)).sum
theorem total_snoc (rs : List (Nat × Nat)) (r : Nat × Nat) : total (rs ++ [r]) = total rs + r.2 := by simp [total]
theorem runs_ok (l : List UInt8) (k : Nat) : (∀ r ∈ runsTo l k, RunOk l k r) ∧ (runsTo l k).Pairwise (fun r q => r.1 + r.2 < q.1) ∧ total (runsTo l k) = cnt l k := by
  induction k with
  | zero => exact ⟨by simp [runsTo], by simp [runsTo], by simp [runsTo, total, cnt]⟩
  | succ k ih =>
    obtain ⟨h1, h2, h3⟩ := ih
    cases hb : bit l k with
    | true =>
      rw [runs_stay l k hb]
      refine ⟨fun r hr => ?_, h2, by rw [h3, cnt, hb]; rfl⟩
      obtain ⟨a, b, c, d, e⟩ := h1 r hr
      refine ⟨a, b, c, by omega, fun h => ?_⟩
      by_cases e1 : r.1 + r.2 = k
      · rw [e1]; exact hb
      · exact e (by omega)
    | false =>
      by_cases hp : 0 < k ∧ bit l (k - 1) = false
      · obtain ⟨rs, a, h4, h5⟩ := runs_tail l (k - 1) hp.2
        rw [show k - 1 + 1 = k by omega] at h4 h5
        generalize tail l k = t at *
        have e : runsTo l (k + 1) = rs ++ [(a, t + 1)] := by rw [runsTo, hb, if_neg (by simp), if_pos hp, h4, bump_snoc]
        rw [h4] at h1 h2 h3
        rw [e]
        rw [List.pairwise_append] at h2
        obtain ⟨p1, p2, p3⟩ := h2
        refine ⟨fun r hr => ?_, ?_, ?_⟩
        · rw [List.mem_append] at hr
          rcases hr with hr | hr
          · obtain ⟨a1, b1, c1, d1, e1⟩ := h1 r (by simp [hr])
            have := p3 r hr (a, t) (by simp)
            exact ⟨a1, b1, c1, by omega, fun h => e1 (by simp at this; omega)⟩
          · simp at hr
            subst hr
            obtain ⟨a1, b1, c1, d1, e1⟩ := h1 (a, t) (by simp)
            refine ⟨fun j j1 j2 => ?_, b1, by simp, by simp; omega, fun h => by simp at h; omega⟩
            by_cases ej : j = k
            · rw [ej]; exact hb
            · exact a1 j j1 (by simp at j2 ⊢; omega)
        · rw [List.pairwise_append]
          refine ⟨p1, by simp, fun r hr q hq => ?_⟩
          have := p3 r hr (a, t) (by simp)
          simp at hq; subst hq; exact this
        · rw [total_snoc] at h3 ⊢
          rw [cnt, hb]; simp at h3 ⊢; omega
      · have e : runsTo l (k + 1) = runsTo l k ++ [(k, 1)] := by rw [runsTo, hb, if_neg (by simp), if_neg hp]
        have hlt : ∀ r ∈ runsTo l k, r.1 + r.2 < k := by
          intro r hr
          obtain ⟨a1, b1, c1, d1, e1⟩ := h1 r hr
          by_cases e2 : r.1 + r.2 = k
          · exact absurd ⟨by omega, a1 (k - 1) (by omega) (by omega)⟩ hp
          · omega
        rw [e]
        refine ⟨fun r hr => ?_, ?_, ?_⟩
        · rw [List.mem_append] at hr
          rcases hr with hr | hr
          · obtain ⟨a1, b1, c1, d1, e1⟩ := h1 r hr
            exact ⟨a1, b1, c1, by omega, fun h => e1 (hlt r hr)⟩
          · simp at hr
            subst hr
            refine ⟨fun j j1 j2 => ?_, fun h => ?_, by simp, by simp, fun h => by simp at h⟩
            · have : j = k := by simp at j1 j2; omega
              rw [this]; exact hb
            · simp at h
              cases hq : bit l (k - 1) with
              | true => rfl
              | false => exact absurd ⟨h, hq⟩ hp
        · rw [List.pairwise_append]
          refine ⟨h2, by simp, fun r hr q hq => ?_⟩
          simp at hq; subst hq; exact hlt r hr
        · rw [total_snoc, h3, cnt, hb]; rfl
def partsN (n : Nat) : Nat := (n + 2047) / 2048
def firstD (n : Nat) : Nat := 63 + partsN n
def titleL (n : Nat) : Bytes := [67, 68, 88, 66] ++ (fixedL n ++ zerosL 248)
theorem titleL_length (n : Nat) : (titleL n).length = 256 := by simp only [titleL, List.length_append, length_fixedL, zerosL_length]; rfl
def partL (b : Bytes) (i : Nat) : Bytes := (b.drop (i * 256)).take 256
def mapC (n : Nat) (C : Nat → Bytes) : Bytes := ((List.range (partsN n)).map fun i => C (63 + i)).flatten
theorem partsN_pos (n : Nat) (h : 0 < n) : 1 ≤ partsN n ∧ 2048 * partsN n ≥ n ∧ 2048 * partsN n < n + 2048 := by unfold partsN; omega
theorem firstD_lt (n : Nat) (h : 128 ≤ n) (hm : n ≤ 4096) : firstD n < n ∧ partsN n ≤ 2 := by unfold firstD partsN; omega
theorem parts_flat (p : Nat) (f : Nat → Bytes) (hf : ∀ i, i < p → (f i).length = 256) : ((List.range p).map f).flatten.length = 256 * p ∧ ∀ i, i < p → partL ((List.range p).map f).flatten i = f i := by
  induction p with
  | zero => exact ⟨rfl, fun i h => by omega⟩
  | succ p ih =>
    obtain ⟨h1, h2⟩ := ih (fun i hi => hf i (by omega))
    rw [List.range_succ, List.map_append, List.flatten_append]
    simp only [List.map_cons, List.map_nil, List.flatten_cons, List.flatten_nil, List.append_nil]
    refine ⟨by rw [List.length_append, h1, hf p (by omega)]; omega, fun i hi => ?_⟩
    unfold partL
    by_cases hp : i = p
    · subst hp
      rw [List.drop_left' (by rw [h1]; omega), List.take_of_length_le (by rw [hf i hi]; exact Nat.le_refl _)]
    · rw [List.drop_append_of_le_length (by rw [h1]; omega), List.take_append_of_le_length (by rw [List.length_drop, h1]; omega)]
      exact h2 i (by omega)
theorem flat_parts (p : Nat) : ∀ (b : Bytes), b.length = 256 * p → ((List.range p).map (partL b)).flatten = b := by
  induction p with
  | zero => intro b h; rw [List.eq_nil_of_length_eq_zero (l := b) (by omega)]; rfl
  | succ p ih =>
    intro b h
    have h1 := ih (b.take (256 * p)) (by rw [List.length_take]; omega)
    have e : (List.range p).map (partL b) = (List.range p).map (partL (b.take (256 * p))) := by
      refine List.map_congr_left (fun i hi => ?_)
      have := List.mem_range.1 hi
      unfold partL
      rw [List.drop_take, List.take_take]
      congr 1; omega
    rw [List.range_succ, List.map_append, List.flatten_append, e, h1]
    simp only [List.map_cons, List.map_nil, List.flatten_cons, List.flatten_nil, List.append_nil]
    unfold partL
    rw [Nat.mul_comm p 256, List.take_of_length_le (l := b.drop (256 * p)) (by rw [List.length_drop]; omega), List.take_append_drop]
def withL : List WrL → WrL → List WrL
  | [], w => [w]
  | x :: l, w => if x.1 < w.1 then x :: withL l w else if x.1 = w.1 then w :: l else w :: x :: l
def touchL (tx l : List WrL) : List WrL := l.foldl withL tx
abbrev Rise (l : List WrL) : Prop := l.Pairwise fun x y => x.1 < y.1
theorem with_mem (l : List WrL) (w x : WrL) (h : x ∈ withL l w) : x = w ∨ x ∈ l := by
  induction l with
  | nil => left; simpa [withL] using h
  | cons y l ih =>
    unfold withL at h
    split at h
    · rcases List.mem_cons.1 h with rfl | h
      · right; exact List.mem_cons_self ..
      · rcases ih h with h | h
        · exact .inl h
        · exact .inr (List.mem_cons_of_mem _ h)
    · split at h
      · rcases List.mem_cons.1 h with rfl | h
        · exact .inl rfl
        · exact .inr (List.mem_cons_of_mem _ h)
      · rcases List.mem_cons.1 h with rfl | h
        · exact .inl rfl
        · exact .inr h
theorem with_rise (l : List WrL) (w : WrL) (h : Rise l) : Rise (withL l w) := by
  induction l with
  | nil => simp [withL, Rise]
  | cons y l ih =>
    obtain ⟨h1, h2⟩ := List.pairwise_cons.1 h
    unfold withL
    split
    · rename_i hy
      refine List.pairwise_cons.2 ⟨fun x hx => ?_, ih h2⟩
      rcases with_mem l w x hx with rfl | hx
      · exact hy
      · exact h1 x hx
    · split
      · rename_i _ hy
        exact List.pairwise_cons.2 ⟨fun x hx => by rw [← hy]; exact h1 x hx, h2⟩
      · rename_i hy1 hy2
        refine List.pairwise_cons.2 ⟨fun x hx => ?_, h⟩
        rcases List.mem_cons.1 hx with rfl | hx
        · omega
        · have := h1 x hx; omega
theorem with_lastP (l : List WrL) (w : WrL) (h : Rise l) (i : Nat) (s : Bytes) : lastP (withL l w) i s = if w.1 = i then w.2 else lastP l i s := by
  induction l generalizing s with
  | nil => simp [withL, lastP]
  | cons y l ih =>
    obtain ⟨h1, h2⟩ := List.pairwise_cons.1 h
    unfold withL
    split
    · rename_i hy
      rw [lastP, ih h2]
      rfl
    · split
      · rename_i hy1 hy
        rw [lastP, lastP]
        by_cases hi : w.1 = i
        · rw [if_pos hi, if_pos hi]
          exact lastP_none l i _ (fun x hx e => by have := h1 x hx; omega)
        · rw [if_neg hi, if_neg hi, if_neg (by omega)]
      · rename_i hy1 hy2
        rw [lastP, lastP]
        by_cases hi : w.1 = i
        · rw [if_pos hi, if_pos hi, if_neg (by omega)]
          exact lastP_none l i _ (fun x hx e => by have := h1 x hx; omega)
        · rw [if_neg hi, if_neg hi, lastP]
theorem touch_rise (l tx : List WrL) (h : Rise tx) : Rise (touchL tx l) := by
  unfold touchL
  induction l generalizing tx with
  | nil => exact h
  | cons w l ih => rw [List.foldl_cons]; exact ih _ (with_rise tx w h)
theorem touch_lastP (l tx : List WrL) (h : Rise tx) (i : Nat) (s : Bytes) : lastP (touchL tx l) i s = lastP l i (lastP tx i s) := by
  unfold touchL
  induction l generalizing tx with
  | nil => rfl
  | cons w l ih => rw [List.foldl_cons, ih _ (with_rise tx w h), with_lastP tx w h, lastP]
theorem touch_mem (l tx : List WrL) (x : WrL) (h : x ∈ touchL tx l) : x ∈ l ∨ x ∈ tx := by
  unfold touchL at h
  induction l generalizing tx with
  | nil => exact .inr h
  | cons w l ih =>
    rw [List.foldl_cons] at h
    rcases ih _ h with h | h
    · exact .inl (List.mem_cons_of_mem _ h)
    · rcases with_mem tx w x h with rfl | h
      · exact .inl (List.mem_cons_self ..)
      · exact .inr h
structure StL where
  j : JL
  map1 : Bytes
  was : Bytes
  open_ : Bool
  tx : List WrL
namespace StL
def n (σ : StL) : Nat := σ.j.d.l.length
def dead (σ : StL) : Bool := σ.j.d.dead
def isData (σ : StL) (i : Int) : Bool := decide ((firstD σ.n : Int) ≤ i ∧ i < σ.n)
def get (σ : StL) (i : Nat) : Bytes := lastP σ.tx i (σ.j.d.get i)
def read (σ : StL) (i : Int) : Bytes × Int := if σ.dead then ([], 4) else if σ.isData i then (σ.get i.toNat, 0) else ([], 2)
def state (σ : StL) (o : Bool) : Int := if σ.dead then 4 else if σ.open_ = o then 0 else 15
def begin (σ : StL) : StL × Int := if σ.state false ≠ 0 then (σ, σ.state false) else ({ σ with open_ := true, was := σ.map1 }, 0)
def touch (σ : StL) (l : List WrL) : StL × Int := if (touchL σ.tx l).length > 48 then (σ, 6) else ({ σ with tx := touchL σ.tx l }, 0)
def write (σ : StL) (i : Int) (s : Bytes) : StL × Int :=
  if σ.state true ≠ 0 then (σ, σ.state true) else if σ.isData i = false then (σ, 2) else if bit σ.map1 i.toNat = false then (σ, 10) else if s.length ≠ 256 then (σ, 3) else σ.touch [(i.toNat, s)]
def turned (σ : StL) (b : Bytes) : List WrL := ((List.range (partsN σ.n)).filter fun i => partL b i != partL σ.map1 i).map fun i => (63 + i, partL b i)
def turn (σ : StL) (start c : Nat) (on : Bool) : StL × Int :=
  if (σ.touch (σ.turned (setTo σ.map1 start on c))).2 ≠ 0 then σ.touch (σ.turned (setTo σ.map1 start on c)) else ({ (σ.touch (σ.turned (setTo σ.map1 start on c))).1 with map1 := setTo σ.map1 start on c }, 0)
def alloc (σ : StL) (c : Int) : StL × Int × Int :=
  if σ.state true ≠ 0 then (σ, 0, σ.state true) else if c < 1 then (σ, 0, 1) else
  match fitN σ.map1 c.toNat σ.n with
  | none => (σ, 0, 9)
  | some a => if (σ.turn a c.toNat true).2 ≠ 0 then ((σ.turn a c.toNat true).1, 0, (σ.turn a c.toNat true).2) else ((σ.turn a c.toNat true).1, a, 0)
def release (σ : StL) (start c : Int) : StL × Int :=
  if σ.state true ≠ 0 then (σ, σ.state true) else if c < 1 ∨ σ.isData start = false ∨ (σ.n : Int) - start < c then (σ, 2) else
  if ∃ i, i < c.toNat ∧ bit σ.map1 (start.toNat + i) = false then (σ, 10) else σ.turn start.toNat c.toNat false
def close (σ : StL) : StL := { σ with open_ := false, tx := [] }
def abort (σ : StL) : StL := if σ.open_ then { σ.close with map1 := σ.was } else σ
def commit (σ : StL) : StL × Int :=
  if σ.state true ≠ 0 then (σ, σ.state true) else if σ.tx = [] then (σ.close, 0) else
  if (σ.j.commit σ.tx).2 = 0 then ({ σ.close with j := (σ.j.commit σ.tx).1 }, 0) else ({ σ.close with j := (σ.j.commit σ.tx).1, map1 := σ.was }, (σ.j.commit σ.tx).2)
def free (σ : StL) : Nat := cnt σ.map1 σ.n
end StL
structure GoodMap (n : Nat) (b : Bytes) : Prop where
  len : b.length = 256 * partsN n
  low : ∀ i, i < firstD n → bit b i = true
  high : ∀ i, n ≤ i → bit b i = false
structure GoodC (n : Nat) (C : Nat → Bytes) : Prop where
  title : C 62 = titleL n
  map : GoodMap n (mapC n C)
structure StInv (K : Nat) (σ : StL) (fr : List (List WrL)) (C : Nat → Bytes) : Prop where
  inv : JInv 60 K σ.j fr C
  big : 128 ≤ σ.n
  good : GoodC σ.n C
  map : GoodMap σ.n σ.map1
  now : σ.map1 = mapC σ.n (updC C σ.tx)
  rise : Rise σ.tx
  txok : ∀ w ∈ σ.tx, 63 ≤ w.1 ∧ w.1 < σ.n ∧ w.2.length = 256
  short : σ.tx.length ≤ 48
  hwas : σ.open_ = true → σ.was = mapC σ.n C
  closed : σ.open_ = false → σ.tx = []
theorem StInv.max {K : Nat} {σ : StL} {fr : List (List WrL)} {C : Nat → Bytes} (h : StInv K σ fr C) : σ.n ≤ 4096 := h.inv.ok.max
theorem StInv.len {K : Nat} {σ : StL} {fr : List (List WrL)} {C : Nat → Bytes} (h : StInv K σ fr C) (i : Nat) (h1 : 62 ≤ i) (h2 : i < σ.n) : (C i).length = 256 := by
  rw [← h.inv.get i h1 h2]; exact DevL.get_len h.inv.ok i h2
theorem upd_len {n : Nat} {C : Nat → Bytes} (hC : ∀ i, 62 ≤ i → i < n → (C i).length = 256) {l : List WrL} (hl : ∀ w ∈ l, w.2.length = 256) (i : Nat) (h1 : 62 ≤ i) (h2 : i < n) : (updC C l i).length = 256 := by
  unfold updC
  by_cases hx : ∃ w ∈ l, w.1 = i
  · obtain ⟨w, hw, _, e⟩ := lastP_mem l i (C i) hx
    rw [e]; exact hl w hw
  · rw [lastP_none _ _ _ (fun w hw e => hx ⟨w, hw, e⟩)]; exact hC i h1 h2
theorem StInv.get {K : Nat} {σ : StL} {fr : List (List WrL)} {C : Nat → Bytes} (h : StInv K σ fr C) (i : Nat) (h1 : 62 ≤ i) (h2 : i < σ.n) : σ.get i = updC C σ.tx i := by
  unfold StL.get updC; rw [h.inv.get i h1 h2]
theorem map_len {n : Nat} (hn : 128 ≤ n) (hm : n ≤ 4096) {C : Nat → Bytes} (hC : ∀ i, 62 ≤ i → i < n → (C i).length = 256) : (mapC n C).length = 256 * partsN n ∧ ∀ i, i < partsN n → partL (mapC n C) i = C (63 + i) :=
  parts_flat _ _ (fun i hi => hC _ (by omega) (by have := firstD_lt n hn hm; unfold firstD at this; omega))
theorem map_ext {n : Nat} {C D : Nat → Bytes} (h : ∀ i, i < partsN n → C (63 + i) = D (63 + i)) : mapC n C = mapC n D := by
  unfold mapC
  congr 1
  exact List.map_congr_left (fun i hi => h i (List.mem_range.1 hi))
theorem turned_map {K : Nat} {σ : StL} {fr : List (List WrL)} {C : Nat → Bytes} (h : StInv K σ fr C) (b : Bytes) (hb : b.length = σ.map1.length) : mapC σ.n (updC C (touchL σ.tx (σ.turned b))) = b ∧ ∀ w ∈ σ.turned b, 63 ≤ w.1 ∧ w.1 < firstD σ.n ∧ w.2.length = 256 := by
  have hm := h.max
  have hf := firstD_lt σ.n h.big hm
  have hlen := h.map.len
  have hmap := map_len h.big hm (C := updC C σ.tx) (upd_len (h.len) (fun w hw => (h.txok w hw).2.2))
  have hmem : ∀ w ∈ σ.turned b, ∃ i, i < partsN σ.n ∧ w = (63 + i, partL b i) := fun w hw => by
    obtain ⟨i, hi, rfl⟩ := List.mem_map.1 hw
    exact ⟨i, List.mem_range.1 (List.mem_filter.1 hi).1, rfl⟩
  constructor
  · have e : mapC σ.n (updC C (touchL σ.tx (σ.turned b))) = ((List.range (partsN σ.n)).map (partL b)).flatten := by
      unfold mapC
      congr 1
      refine List.map_congr_left (fun i hi => ?_)
      have hi' := List.mem_range.1 hi
      unfold updC
      rw [touch_lastP _ _ h.rise]
      by_cases hx : ∃ w ∈ σ.turned b, w.1 = 63 + i
      · obtain ⟨w, hw, hw1, hw2⟩ := lastP_mem _ _ (lastP σ.tx (63 + i) (C (63 + i))) hx
        obtain ⟨i2, _, rfl⟩ := hmem w hw
        rw [hw2]
        simp only at hw1
        rw [show i2 = i by omega]
      · rw [lastP_none _ _ _ (fun w hw e => hx ⟨w, hw, e⟩)]
        have h1 := hmap.2 i hi'
        rw [← h.now] at h1
        show updC C σ.tx (63 + i) = _
        rw [← h1]
        by_cases hne : partL b i = partL σ.map1 i
        · exact hne.symm
        · exfalso
          refine hx ⟨(63 + i, partL b i), List.mem_map.2 ⟨i, List.mem_filter.2 ⟨hi, ?_⟩, rfl⟩, rfl⟩
          simpa using hne
    rw [e]
    exact flat_parts _ _ (by rw [hb, hlen])
  · intro w hw
    obtain ⟨i, hi, rfl⟩ := hmem w hw
    refine ⟨by simp only; omega, by simp only [firstD]; omega, ?_⟩
    show (partL b i).length = 256
    unfold partL
    rw [List.length_take, List.length_drop, hb, hlen]; omega
theorem map_same {n : Nat} {C : Nat → Bytes} {tx : List WrL} (hr : Rise tx) {w : WrL} (hw : firstD n ≤ w.1) : mapC n (updC C (touchL tx [w])) = mapC n (updC C tx) := by
  refine map_ext (fun i hi => ?_)
  unfold updC
  rw [touch_lastP _ _ hr, lastP, lastP, if_neg (by unfold firstD at hw; omega)]
theorem touch_inv {K : Nat} {σ : StL} {fr : List (List WrL)} {C : Nat → Bytes} (h : StInv K σ fr C) (ho : σ.open_ = true) (l : List WrL) (hl : ∀ w ∈ l, 63 ≤ w.1 ∧ w.1 < σ.n ∧ w.2.length = 256) (b : Bytes) (hb : GoodMap σ.n b) (hm : mapC σ.n (updC C (touchL σ.tx l)) = b) :
    (σ.touch l = (σ, 6)) ∨ ((σ.touch l).2 = 0 ∧ StInv K { (σ.touch l).1 with map1 := b } fr C) := by
  unfold StL.touch
  split
  · exact .inl rfl
  · rename_i hs
    right
    refine ⟨rfl, ⟨h.inv, h.big, h.good, hb, hm.symm, touch_rise _ _ h.rise, fun w hw => ?_, by show (touchL σ.tx l).length ≤ 48; omega, h.hwas, fun hc => ?_⟩⟩
    · rcases touch_mem _ _ _ hw with hw | hw
      · exact hl w hw
      · exact h.txok w hw
    · have : σ.open_ = false := hc
      rw [ho] at this; exact absurd this (by decide)
theorem begin_inv {K : Nat} {σ : StL} {fr : List (List WrL)} {C : Nat → Bytes} (h : StInv K σ fr C) : StInv K σ.begin.1 fr C := by
  unfold StL.begin
  split
  · exact h
  · rename_i hs
    have ho : σ.open_ = false := by
      unfold StL.state at hs
      cases hx : σ.open_ with
      | false => rfl
      | true => rw [hx] at hs; simp at hs; split at hs <;> simp at hs
    have ht := h.closed ho
    exact ⟨h.inv, h.big, h.good, h.map, h.now, h.rise, h.txok, h.short, fun _ => by
      have := h.now
      rw [ht] at this
      exact this, fun hc => ht⟩
theorem abort_inv {K : Nat} {σ : StL} {fr : List (List WrL)} {C : Nat → Bytes} (h : StInv K σ fr C) : StInv K σ.abort fr C := by
  unfold StL.abort
  cases ho : σ.open_ with
  | false => rw [if_neg (by decide)]; exact h
  | true =>
    rw [if_pos rfl]
    have hw := h.hwas ho
    refine ⟨h.inv, h.big, h.good, ?_, ?_, List.Pairwise.nil, fun w hw => by simp [StL.close] at hw, by simp [StL.close], fun hc => by simp [StL.close] at hc, fun _ => rfl⟩
    · show GoodMap σ.n σ.was
      rw [hw]; exact h.good.map
    · show σ.was = mapC σ.n (updC C [])
      rw [hw]; rfl
theorem state_open {σ : StL} {o : Bool} (h : σ.state o = 0) : σ.dead = false ∧ σ.open_ = o := by
  unfold StL.state at h
  cases hd : σ.dead
  · rw [hd] at h
    simp only [Bool.false_eq_true, if_false] at h
    split at h
    · exact ⟨rfl, by assumption⟩
    · exact absurd h (by decide)
  · rw [hd] at h; simp at h
theorem write_inv {K : Nat} {σ : StL} {fr : List (List WrL)} {C : Nat → Bytes} (h : StInv K σ fr C) (i : Int) (s : Bytes) : StInv K (σ.write i s).1 fr C := by
  unfold StL.write
  split
  · exact h
  · rename_i hs
    obtain ⟨_, ho⟩ := state_open (by simpa using hs : σ.state true = 0)
    split
    · exact h
    · rename_i hd
      split
      · exact h
      · split
        · exact h
        · rename_i hl
          have hi : (firstD σ.n : Int) ≤ i ∧ i < σ.n := by simpa [StL.isData] using hd
          rcases touch_inv h ho [(i.toNat, s)] (fun w hw => by
            rw [List.mem_singleton] at hw; subst hw
            exact ⟨by simp only [firstD] at hi ⊢; omega, by simp only; omega, by simpa using hl⟩) σ.map1 h.map (by rw [map_same h.rise (by simp only; omega)]; exact h.now.symm) with e | ⟨e1, e2⟩
          · rw [e]; exact h
          · have : ({ (σ.touch [(i.toNat, s)]).1 with map1 := σ.map1 } : StL) = (σ.touch [(i.toNat, s)]).1 := by unfold StL.touch; split <;> rfl
            rw [this] at e2; exact e2
theorem turn_inv {K : Nat} {σ : StL} {fr : List (List WrL)} {C : Nat → Bytes} (h : StInv K σ fr C) (ho : σ.open_ = true) (a c : Nat) (on : Bool) (h1 : firstD σ.n ≤ a) (h2 : a + c ≤ σ.n) :
    (σ.turn a c on).1 = σ ∧ (σ.turn a c on).2 = 6 ∨ ((σ.turn a c on).2 = 0 ∧ (σ.turn a c on).1.map1 = setTo σ.map1 a on c ∧ StInv K (σ.turn a c on).1 fr C) := by
  have hm := h.max
  have hp := partsN_pos σ.n (by have := h.big; omega)
  have hbit := fun j => bit_setTo σ.map1 a c j on (by rw [h.map.len]; omega)
  obtain ⟨t1, t2⟩ := turned_map h (setTo σ.map1 a on c) (length_setTo _ _ _ _)
  have hf := firstD_lt σ.n h.big hm
  have hg : GoodMap σ.n (setTo σ.map1 a on c) := by
    refine ⟨by rw [length_setTo]; exact h.map.len, fun i hi => ?_, fun i hi => ?_⟩
    · rw [hbit, if_neg (by omega)]; exact h.map.low i hi
    · rw [hbit, if_neg (by omega)]; exact h.map.high i hi
  unfold StL.turn
  rcases touch_inv h ho _ (fun w hw => ⟨(t2 w hw).1, by have := (t2 w hw).2.1; omega, (t2 w hw).2.2⟩) _ hg t1 with e | ⟨e1, e2⟩
  · left; rw [e]; exact ⟨rfl, rfl⟩
  · right
    rw [if_neg (by rw [e1]; simp)]
    exact ⟨rfl, rfl, e2⟩
end
end Go.Proofs.YtnmijegmbomfdaaGreatDoor
