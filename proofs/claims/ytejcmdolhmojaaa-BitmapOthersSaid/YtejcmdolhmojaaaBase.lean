/- Plain facts on lists of bytes and on bits, used by all walks of this seat. No program in sight. -/
import Derived.WalkKit
import Derived.Lib.Hide
import Derived.Deep.QuietTactic
import Derived.BigQuiet
namespace Go.Proofs.Ytejcmdolhmojaaa
open Go.RowKit

/-- bit i of a bitmap; off behind the end -/
def bit (l : List UInt8) (i : Nat) : Bool := (l.getD (i / 8) 0).toNat.testBit (i % 8)
def bitI (l : List UInt8) (i : Int) : Bool := decide (0 ≤ i) && bit l i.toNat

theorem bit_of_ge (l : List UInt8) (i : Nat) (h : 8 * l.length ≤ i) : bit l i = false := by
  unfold bit
  rw [List.getD_eq_getElem?_getD, List.getElem?_eq_none (by omega)]
  simp

theorem bitI_neg (l : List UInt8) (i : Int) (h : i < 0) : bitI l i = false := by
  simp [bitI]; omega
theorem bitI_ge (l : List UInt8) (i : Int) (h : 8 * l.length ≤ i) : bitI l i = false := by
  unfold bitI; rw [bit_of_ge _ _ (by omega)]; simp
theorem bitI_nat (l : List UInt8) (i : Nat) : bitI l i = bit l i := by simp [bitI]

/-- the walk's spelling of bit k of the byte x -/
theorem walk_bit (x k : Nat) (hx : x < 256) : (bits BinOp.and IntKind.u8 ((x : Int) / 2 ^ k) 1 == 1) = x.testBit k := by
  have h1 : ((x : Int) / 2 ^ k) = ((x / 2 ^ k : Nat) : Int) := by simp
  have h2 : x / 2 ^ k < 256 := Nat.lt_of_le_of_lt (Nat.div_le_self _ _) hx
  rw [h1]
  have := u8_and_nat (x / 2 ^ k) 1 h2 (by omega)
  rw [show ((1 : Nat) : Int) = 1 from rfl] at this
  rw [this, Nat.and_one_is_mod, Nat.testBit_eq_decide_div_mod_eq]
  by_cases h : x / 2 ^ k % 2 = 1
  · simp [h]
  · have : x / 2 ^ k % 2 = 0 := by omega
    rw [this]; simp

theorem bitI_in (l : List UInt8) (i : Int) (hi : 0 ≤ i) (h : (i / 8).toNat < l.length) :
    bitI l i = (l[(i / 8).toNat]).toNat.testBit (i % 8).toNat := by
  unfold bitI bit
  have e1 : i.toNat / 8 = (i / 8).toNat := by omega
  have e2 : i.toNat % 8 = (i % 8).toNat := by omega
  rw [e1, e2, List.getD_eq_getElem?_getD, List.getElem?_eq_getElem h]
  simp [hi]

theorem and_one (x : Nat) : (x &&& 1 == 1) = decide (x % 2 = 1) := by
  rw [Nat.and_one_is_mod]; rfl


theorem ret_int {k : IntKind} {a b : Int} (h : a = b) : Ending.returned (.int k a) = .returned (.int k b) := by rw [h]
theorem ret_bool {a b : Bool} (h : a = b) : Ending.returned (.bool a) = .returned (.bool b) := by rw [h]
theorem ret_str {a b : List UInt8} (h : a = b) : Ending.returned (.string ⟨a.toArray⟩) = .returned (.string ⟨b.toArray⟩) := by rw [h]
theorem int_eq {k : IntKind} {a b : Int} (h : a = b) : Value.int k a = .int k b := by rw [h]

theorem w64b (b : UInt8) : wrap64 (b.toNat : Int) = b.toNat := by
  have := UInt8.toNat_lt b
  exact IntWalk.wrap64_in _ (by omega)
theorem div_two_pow (x k : Nat) : ((x / 2 ^ k : Nat) : Int) / 2 = ((x / 2 ^ (k + 1) : Nat) : Int) := by
  rw [Nat.pow_succ, ← Nat.div_div_eq_div_mul]; rfl
theorem mod_two_one (x k : Nat) : (((x / 2 ^ k : Nat) : Int) % 2 == 1) = x.testBit k := by
  rw [Nat.testBit_eq_decide_div_mod_eq, Bool.eq_iff_iff]
  generalize x / 2 ^ k = y
  rw [beq_iff_eq, decide_eq_true_iff]
  omega

/-- block B holds (at least) the bytes l, and these may be written -/
def ByteRow (w : World) (B : Nat) (l : List UInt8) : Prop :=
  ∃ cur e lo hi, w.heap[B]? = some (.cells cur e (lo, hi)) ∧ (hi ≤ lo ∨ l.length ≤ lo) ∧ ∀ j (_ : j < l.length), cur[j]? = some (.int .u8 l[j].toNat)
theorem ByteRow.cell {w : World} {B : Nat} {l : List UInt8} (h : ByteRow w B l) (j : Nat) (hj : j < l.length) : w.cell? ⟨B, j, none⟩ = some (.int .u8 l[j].toNat) := by
  obtain ⟨cur, e, lo, hi, h1, h2, h3⟩ := h
  simp [World.cell?, h1, h3 j hj]
theorem ByteRow.frozen {w : World} {B : Nat} {l : List UInt8} (h : ByteRow w B l) (j : Nat) (hj : j < l.length) : w.frozen? ⟨B, j, none⟩ = false := by
  obtain ⟨cur, e, lo, hi, h1, h2, h3⟩ := h
  simp [World.frozen?, h1]; omega
theorem ByteRow.at {w : World} {B : Nat} {l : List UInt8} (h : ByteRow w B l) (j : Nat) (hj : j < l.length) : ∃ x : Nat, x < 256 ∧ Hid ((l.getD j 0).toNat = x) ∧ w.cell? ⟨B, j, none⟩ = some (.int .u8 x) ∧ w.frozen? ⟨B, j, none⟩ = false :=
  ⟨l[j].toNat, UInt8.toNat_lt _, by unfold Hid; rw [List.getD_eq_getElem?_getD, List.getElem?_eq_getElem hj]; rfl, h.cell j hj, h.frozen j hj⟩
theorem ByteRow.drew {w : World} {B : Nat} {l : List UInt8} (h : ByteRow w B l) : ByteRow w.drew B l := h
theorem ByteRow.drewN {w : World} {B : Nat} {l : List UInt8} (h : ByteRow w B l) (n : Nat) : ByteRow (w.drewN n) B l := h
theorem ByteRow.below {w w' : World} {B N : Nat} {l : List UInt8} (h : ByteRow w B l) (hb : Below N w w') (hB : B < N) : ByteRow w' B l := by
  obtain ⟨cur, e, lo, hi, h1, h2⟩ := h
  exact ⟨cur, e, lo, hi, by rw [hb.block B hB]; exact h1, h2⟩
theorem ByteRow.alloc {w : World} {B : Nat} {l : List UInt8} (h : ByteRow w B l) (o : Obj) : ByteRow (w.alloc o) B l := by
  obtain ⟨cur, e, lo, hi, h1, h2⟩ := h
  refine ⟨cur, e, lo, hi, ?_, h2⟩
  rw [Below.heap_alloc _ _ _ (Array.getElem?_eq_some_iff.1 h1).1]; exact h1
theorem ByteRow.set {w : World} {B : Nat} {l : List UInt8} (h : ByteRow w B l) (j : Nat) (v : Int) (x : UInt8) (hv : v = x.toNat) : ByteRow (w.setCell ⟨B, j, none⟩ (.int .u8 v)) B (l.set j x) := by
  obtain ⟨cur, e, lo, hi, h1, h2, h3⟩ := h
  subst hv
  refine ⟨cur.setIfInBounds j (.int .u8 x.toNat), e, lo, hi, ?_, by simpa using h2, ?_⟩
  · simp [World.setCell, Array.getElem?_modify, h1]
  · intro k hk
    have hk' : k < l.length := by simpa using hk
    rw [Array.getElem?_setIfInBounds]
    have := h3 k hk'
    have hs : k < cur.size := (Array.getElem?_eq_some_iff.1 this).1
    by_cases e : j = k
    · subst e; simp [hs]
    · simp [e, this]
theorem ByteRow.made (w : World) (l : List UInt8) (cap : Nat) (e : TypeId) : ByteRow (w.alloc (.cells (bytesRow ⟨l.toArray⟩ cap) e ((bytesRow ⟨l.toArray⟩ cap).size, (bytesRow ⟨l.toArray⟩ cap).size + 1))) w.heap.size l := by
  refine ⟨_, _, _, _, heap_alloc_new w _, Or.inr (by simp [bytesRow]), ?_⟩
  intro j hj
  have := bytesRow_at ⟨l.toArray⟩ cap j (by simpa using hj)
  simpa using this
/-- 'string(b)' of a row -/
theorem ByteRow.back {P : Program} {w : World} {B : Nat} {l : List UInt8} (h : ByteRow w B l) (src dst e : TypeId) (cap : Nat) (hs : P.underlying src = some (.slice e)) (he : P.underlying e = some (.int .u8)) (hd : P.underlying dst = some .string) :
    (convert src dst (.slice (some ⟨B, 0, none⟩) l.length cap)).run P w = .ok (.string ⟨l.toArray⟩) w :=
  run_convert_bytes_back w src dst e _ cap l hs he hd (fun j hj => by
    have : (⟨B, 0, none⟩ : Addr).add j = ⟨B, j, none⟩ := by unfold Addr.add; split <;> simp_all
    rw [this]; exact h.cell j hj)

/-- a byte with its bit k on or off -/
def byteSet (x k : Nat) (on : Bool) : Nat := if on then x ||| 2 ^ k else x &&& (255 - 2 ^ k)
def setBit (l : List UInt8) (i : Nat) (on : Bool) : List UInt8 := l.set (i / 8) (UInt8.ofNat (byteSet (l.getD (i / 8) 0).toNat (i % 8) on))
def setTo (l : List UInt8) (start : Nat) (on : Bool) : Nat → List UInt8
  | 0 => l
  | k + 1 => setBit (setTo l start on k) (start + k) on
theorem length_setBit (l : List UInt8) (i : Nat) (on : Bool) : (setBit l i on).length = l.length := by simp [setBit]
theorem length_setTo (l : List UInt8) (s : Nat) (on : Bool) (k : Nat) : (setTo l s on k).length = l.length := by
  induction k with
  | zero => rfl
  | succ k ih => rw [setTo, length_setBit, ih]

theorem two_pow_mod (k : Nat) (hk : k < 8) : ((2 : Int) ^ k % 256) = ((2 ^ k : Nat) : Int) := by
  have h : ∀ k : Fin 8, ((2 : Int) ^ k.val % 256) = ((2 ^ k.val : Nat) : Int) := by decide
  exact h ⟨k, hk⟩
theorem two_pow_lt (k : Nat) (hk : k < 8) : 2 ^ k < 256 := by
  have h : ∀ k : Fin 8, 2 ^ k.val < 256 := by decide
  exact h ⟨k, hk⟩
theorem byteSet_lt (x k : Nat) (on : Bool) (hx : x < 256) (hk : k < 8) : byteSet x k on < 256 := by
  unfold byteSet
  split
  · exact Nat.or_lt_two_pow (n := 8) hx (two_pow_lt k hk)
  · exact Nat.lt_of_le_of_lt Nat.and_le_left hx
theorem clear_or (x k : Nat) (hx : x < 256) (hk : k < 8) : (x &&& (255 - 2 ^ k)) ||| 2 ^ k = x ||| 2 ^ k := by
  have h : ∀ (x : Fin 256) (k : Fin 8), (x.val &&& (255 - 2 ^ k.val)) ||| 2 ^ k.val = x.val ||| 2 ^ k.val := by decide +kernel
  exact h ⟨x, hx⟩ ⟨k, hk⟩
theorem walk_clear (x k : Nat) (hx : x < 256) (hk : k < 8) : bits BinOp.andNot IntKind.u8 (x : Int) (2 ^ k % 256) = ((byteSet x k false : Nat) : Int) := by
  rw [two_pow_mod k hk, u8_andNot_nat _ _ hx (two_pow_lt k hk)]; rfl
theorem walk_turn (x k : Nat) (hx : x < 256) (hk : k < 8) : bits BinOp.or IntKind.u8 (bits BinOp.andNot IntKind.u8 (x : Int) (2 ^ k % 256)) (2 ^ k % 256) = ((byteSet x k true : Nat) : Int) := by
  rw [walk_clear x k hx hk, two_pow_mod k hk, u8_or_nat _ _ (byteSet_lt x k false hx hk) (two_pow_lt k hk)]
  unfold byteSet
  simp [clear_or x k hx hk]
theorem set_set (l : List UInt8) (i : Nat) (a b : UInt8) : (l.set i a).set i b = l.set i b := by simp
theorem ofNat_toNat (n : Nat) (h : n < 256) : ((UInt8.ofNat n).toNat : Int) = n := by
  rw [UInt8.toNat_ofNat']; omega

/-- so many bits are the first n -/
def firstN (l : List UInt8) (n : Int) : Nat := (max 0 (min n (8 * l.length))).toNat
theorem firstN_le (l : List UInt8) (n : Int) : firstN l n ≤ 8 * l.length := by unfold firstN; omega
theorem firstN_int (l : List UInt8) (n : Int) : ((firstN l n : Nat) : Int) = max 0 (min n (8 * l.length)) := by unfold firstN; omega
/-- how many of the first k bits are off -/
def cnt (l : List UInt8) : Nat → Nat
  | 0 => 0
  | k + 1 => cnt l k + if bit l k then 0 else 1
theorem cnt_le (l : List UInt8) (k : Nat) : cnt l k ≤ k := by
  induction k with
  | zero => exact Nat.le_refl _
  | succ k ih => rw [cnt]; split <;> omega
def makeL (n : Int) : List UInt8 := if 1 ≤ n ∧ n ≤ 32768 then List.replicate ((n + 7) / 8).toNat 0 else []

theorem ByteRow.zeros (w : World) (n : Nat) (e : TypeId) : ByteRow (w.alloc (.cells (madeCells #[.int .u8 0] n) e)) w.heap.size (List.replicate n 0) := by
  refine ⟨_, _, _, _, heap_alloc_new w _, Or.inl (Nat.le_refl _), ?_⟩
  intro j hj
  have hj' : j < n := by simpa using hj
  simp [madeCells, hj', Nat.mod_one]

theorem xor_set (x k : Nat) (on : Bool) (hx : x < 256) (hk : k < 8) (h : (x.testBit k == on) = false) : x ^^^ 2 ^ k = byteSet x k on := by
  have h' : ∀ (x : Fin 256) (k : Fin 8) (on : Bool), (x.val.testBit k.val == on) = false → x.val ^^^ 2 ^ k.val = byteSet x.val k.val on := by decide +kernel
  exact h' ⟨x, hx⟩ ⟨k, hk⟩ on h
theorem same_set (x k : Nat) (on : Bool) (hx : x < 256) (hk : k < 8) (h : (x.testBit k == on) = true) : x = byteSet x k on := by
  have h' : ∀ (x : Fin 256) (k : Fin 8) (on : Bool), (x.val.testBit k.val == on) = true → x.val = byteSet x.val k.val on := by decide +kernel
  exact h' ⟨x, hx⟩ ⟨k, hk⟩ on h

/-- the runs of free bits among the first k, as pairs: where, how many -/
def bump : List (Nat × Nat) → List (Nat × Nat)
  | [] => []
  | [r] => [(r.1, r.2 + 1)]
  | r :: rs => r :: bump rs
def runsTo (l : List UInt8) : Nat → List (Nat × Nat)
  | 0 => []
  | k + 1 => if bit l k then runsTo l k else if 0 < k ∧ bit l (k - 1) = false then bump (runsTo l k) else runsTo l k ++ [(k, 1)]
def ext (rs : List (Nat × Nat)) : List Value := rs.flatMap fun r => [.int .i64 r.1, .int .i64 r.2]
theorem length_ext (rs : List (Nat × Nat)) : (ext rs).length = rs.length * 2 := by
  induction rs with
  | nil => rfl
  | cons r rs ih => simp only [ext, List.flatMap_cons, List.length_append] at ih ⊢; simp at ih ⊢; omega
theorem ext_append (a b : List (Nat × Nat)) : ext (a ++ b) = ext a ++ ext b := by simp [ext]
theorem ext_at (rs : List (Nat × Nat)) (j : Nat) (h : j < rs.length) : (ext rs)[2 * j]? = some (.int .i64 rs[j].1) ∧ (ext rs)[2 * j + 1]? = some (.int .i64 rs[j].2) := by
  induction rs generalizing j with
  | nil => simp at h
  | cons r rs ih =>
    cases j with
    | zero => simp [ext]
    | succ j =>
      have := ih j (by simpa using h)
      have e : ext (r :: rs) = .int .i64 r.1 :: .int .i64 r.2 :: ext rs := by simp [ext]
      rw [e]
      have e2 : 2 * (j + 1) = 2 * j + 1 + 1 := by omega
      rw [e2]
      simpa using this
theorem length_bump (rs : List (Nat × Nat)) : (bump rs).length = rs.length := by
  induction rs with
  | nil => rfl
  | cons r rs ih => cases rs with
    | nil => rfl
    | cons q qs => simp only [bump, List.length_cons] at ih ⊢; omega
theorem runsTo_length (l : List UInt8) (k : Nat) : (runsTo l k).length ≤ k := by
  induction k with
  | zero => exact Nat.le_refl _
  | succ k ih =>
    rw [runsTo]
    split
    · omega
    · split
      · rw [length_bump]; omega
      · simp; omega
theorem bump_snoc (rs : List (Nat × Nat)) (r : Nat × Nat) : bump (rs ++ [r]) = rs ++ [(r.1, r.2 + 1)] := by
  induction rs with
  | nil => rfl
  | cons q qs ih =>
    rw [List.cons_append]
    cases h : qs ++ [r] with
    | nil => simp at h
    | cons a as =>
      rw [h] at ih
      simp only [bump, ih, List.cons_append]
/-- behind a free bit there is a run, and it ends there -/
theorem runsTo_last (l : List UInt8) (k : Nat) (h : bit l k = false) : ∃ rs r, runsTo l (k + 1) = rs ++ [r] ∧ r.1 + r.2 = k + 1 ∧ 1 ≤ r.2 := by
  induction k with
  | zero => exact ⟨[], (0, 1), by simp [runsTo, h], by omega, by omega⟩
  | succ k ih =>
    rw [runsTo, h]
    by_cases hk : bit l k = false
    · obtain ⟨rs, r, e, h1, h2⟩ := ih hk
      rw [e]
      refine ⟨rs, (r.1, r.2 + 1), ?_, by simp; omega, by simp⟩
      simp [hk, bump_snoc]
    · exact ⟨runsTo l (k + 1), (k + 1, 1), by simp [hk], by omega, by omega⟩

theorem ext_set (rs : List (Nat × Nat)) (r1 r2 : Nat) : (ext rs ++ ext [(r1, r2)]).set (rs.length * 2 + 1) (.int .i64 ((r2 : Int) + 1)) = ext (rs ++ [(r1, r2 + 1)]) := by
  rw [ext_append, List.set_append_right _ _ (by rw [length_ext]; omega), length_ext]
  have : rs.length * 2 + 1 - rs.length * 2 = 1 := by omega
  rw [this]
  simp [ext]

theorem pairs_differ (ra rb : List (Nat × Nat)) (k : Nat) (h1 : k < ra.length) (h2 : k < rb.length) (h : (!((ra[k].1 : Int) == (rb[k].1 : Int))) = true ∨ (!((ra[k].2 : Int) == (rb[k].2 : Int))) = true) : decide (ra = rb) = false := by
  rw [decide_eq_false_iff_not]
  intro e
  subst e
  simp at h
theorem pairs_same (ra rb : List (Nat × Nat)) (k : Nat) (h1 : k < ra.length) (h2 : k < rb.length) (h : (!((ra[k].1 : Int) == (rb[k].1 : Int))) = false ∧ (!((ra[k].2 : Int) == (rb[k].2 : Int))) = false) (hj : ∀ j, j < k → ra[j]? = rb[j]?) : ∀ j, j < k + 1 → ra[j]? = rb[j]? := by
  intro j hjk
  by_cases e : j = k
  · subst e
    simp at h
    rw [List.getElem?_eq_getElem h1, List.getElem?_eq_getElem h2]
    congr 1
    exact Prod.ext (by omega) (by omega)
  · exact hj j (by omega)

end Go.Proofs.Ytejcmdolhmojaaa
