/- Joined texts of one proof: Base, Base2, Base3. -/
import Derived.Test.YtcblmcbpnakphaaGreatDoorMKitToSegSpec
import Derived.WalkKit
import Derived.Lib.Hide
import Derived.Deep.QuietTactic
import Derived.BigQuiet
set_option linter.unusedSimpArgs false
set_option linter.unusedVariables false
set_option linter.unnecessarySimpa false
/- (Base) Plain facts on lists of bytes and on bits, used by all walks of this seat. No program in sight. -/
section
namespace Go.Proofs.YtcblmcbpnakphaaGreatDoor
open Go.RowKit

/-- bit i of a bitmap; off behind the end -/
def bit (l : List UInt8) (i : Nat) : Bool := (l.getD (i / 8) 0).toNat.testBit (i % 8)
def bitI (l : List UInt8) (i : Int) : Bool := decide (0 ≤ i) && bit l i.toNat

theorem bit_of_ge (l : List UInt8) (i : Nat) (h : 8 * l.length ≤ i) : bit l i = false := by
  unfold bit
  rw [List.getD_eq_getElem?_getD, List.getElem?_eq_none (by omega)]
  simp

theorem bitI_neg (l : List UInt8) (i : Int) (h : i < 0) : bitI l i = false := by
  simp [bitI]; omega
theorem bitI_ge (l : List UInt8) (i : Int) (h : 8 * l.length ≤ i) : bitI l i = false := by
  unfold bitI; rw [bit_of_ge _ _ (by omega)]; simp
theorem bitI_nat (l : List UInt8) (i : Nat) : bitI l i = bit l i := by simp [bitI]

/-- the walk's spelling of bit k of the byte x -/
theorem walk_bit (x k : Nat) (hx : x < 256) : (bits BinOp.and IntKind.u8 ((x : Int) / 2 ^ k) 1 == 1) = x.testBit k := by
  have h1 : ((x : Int) / 2 ^ k) = ((x / 2 ^ k : Nat) : Int) := by simp
  have h2 : x / 2 ^ k < 256 := Nat.lt_of_le_of_lt (Nat.div_le_self _ _) hx
  rw [h1]
  have := u8_and_nat (x / 2 ^ k) 1 h2 (by omega)
  rw [show ((1 : Nat) : Int) = 1 from rfl] at this
  rw [this, Nat.and_one_is_mod, Nat.testBit_eq_decide_div_mod_eq]
  by_cases h : x / 2 ^ k % 2 = 1
  · simp [h]
  · have : x / 2 ^ k % 2 = 0 := by omega
    rw [this]; simp

theorem bitI_in (l : List UInt8) (i : Int) (hi : 0 ≤ i) (h : (i / 8).toNat < l.length) :
    bitI l i = (l[(i / 8).toNat]).toNat.testBit (i % 8).toNat := by
  unfold bitI bit
  have e1 : i.toNat / 8 = (i / 8).toNat := by omega
  have e2 : i.toNat % 8 = (i % 8).toNat := by omega
  rw [e1, e2, List.getD_eq_getElem?_getD, List.getElem?_eq_getElem h]
  simp [hi]

theorem and_one (x : Nat) : (x &&& 1 == 1) = decide (x % 2 = 1) := by
  rw [Nat.and_one_is_mod]; rfl



theorem div_two_pow (x k : Nat) : ((x / 2 ^ k : Nat) : Int) / 2 = ((x / 2 ^ (k + 1) : Nat) : Int) := by
  rw [Nat.pow_succ, ← Nat.div_div_eq_div_mul]; rfl
theorem mod_two_one (x k : Nat) : (((x / 2 ^ k : Nat) : Int) % 2 == 1) = x.testBit k := by
  rw [Nat.testBit_eq_decide_div_mod_eq, Bool.eq_iff_iff]
  generalize x / 2 ^ k = y
  rw [beq_iff_eq, decide_eq_true_iff]
  omega

/-- block B holds (at least) the bytes l, and these may be written -/
def ByteRow (w : World) (B : Nat) (l : List UInt8) : Prop :=
  ∃ cur e lo hi, w.heap[B]? = some (.cells cur e (lo, hi)) ∧ (hi ≤ lo ∨ l.length ≤ lo) ∧ ∀ j (_ : j < l.length), cur[j]? = some (.int .u8 l[j].toNat)
theorem ByteRow.cell {w : World} {B : Nat} {l : List UInt8} (h : ByteRow w B l) (j : Nat) (hj : j < l.length) : w.cell? ⟨B, j, none⟩ = some (.int .u8 l[j].toNat) := by
  obtain ⟨cur, e, lo, hi, h1, h2, h3⟩ := h
  simp [World.cell?, h1, h3 j hj]
theorem ByteRow.frozen {w : World} {B : Nat} {l : List UInt8} (h : ByteRow w B l) (j : Nat) (hj : j < l.length) : w.frozen? ⟨B, j, none⟩ = false := by
  obtain ⟨cur, e, lo, hi, h1, h2, h3⟩ := h
  simp [World.frozen?, h1]; omega
theorem ByteRow.at {w : World} {B : Nat} {l : List UInt8} (h : ByteRow w B l) (j : Nat) (hj : j < l.length) : ∃ x : Nat, x < 256 ∧ Hid ((l.getD j 0).toNat = x) ∧ w.cell? ⟨B, j, none⟩ = some (.int .u8 x) ∧ w.frozen? ⟨B, j, none⟩ = false :=
  ⟨l[j].toNat, UInt8.toNat_lt _, by unfold Hid; rw [List.getD_eq_getElem?_getD, List.getElem?_eq_getElem hj]; rfl, h.cell j hj, h.frozen j hj⟩
theorem ByteRow.drew {w : World} {B : Nat} {l : List UInt8} (h : ByteRow w B l) : ByteRow w.drew B l := h
theorem ByteRow.drewN {w : World} {B : Nat} {l : List UInt8} (h : ByteRow w B l) (n : Nat) : ByteRow (w.drewN n) B l := h
theorem ByteRow.below {w w' : World} {B N : Nat} {l : List UInt8} (h : ByteRow w B l) (hb : Below N w w') (hB : B < N) : ByteRow w' B l := by
  obtain ⟨cur, e, lo, hi, h1, h2⟩ := h
  exact ⟨cur, e, lo, hi, by rw [hb.block B hB]; exact h1, h2⟩
theorem ByteRow.alloc {w : World} {B : Nat} {l : List UInt8} (h : ByteRow w B l) (o : Obj) : ByteRow (w.alloc o) B l := by
  obtain ⟨cur, e, lo, hi, h1, h2⟩ := h
  refine ⟨cur, e, lo, hi, ?_, h2⟩
  rw [Below.heap_alloc _ _ _ (Array.getElem?_eq_some_iff.1 h1).1]; exact h1
theorem ByteRow.set {w : World} {B : Nat} {l : List UInt8} (h : ByteRow w B l) (j : Nat) (v : Int) (x : UInt8) (hv : v = x.toNat) : ByteRow (w.setCell ⟨B, j, none⟩ (.int .u8 v)) B (l.set j x) := by
  obtain ⟨cur, e, lo, hi, h1, h2, h3⟩ := h
  subst hv
  refine ⟨cur.setIfInBounds j (.int .u8 x.toNat), e, lo, hi, ?_, by simpa using h2, ?_⟩
  · simp [World.setCell, Array.getElem?_modify, h1]
  · intro k hk
    have hk' : k < l.length := by simpa using hk
    rw [Array.getElem?_setIfInBounds]
    have := h3 k hk'
    have hs : k < cur.size := (Array.getElem?_eq_some_iff.1 this).1
    by_cases e : j = k
    · subst e; simp [hs]
    · simp [e, this]
theorem ByteRow.made (w : World) (l : List UInt8) (cap : Nat) (e : TypeId) : ByteRow (w.alloc (.cells (bytesRow ⟨l.toArray⟩ cap) e ((bytesRow ⟨l.toArray⟩ cap).size, (bytesRow ⟨l.toArray⟩ cap).size + 1))) w.heap.size l := by
  refine ⟨_, _, _, _, heap_alloc_new w _, Or.inr (by simp [bytesRow]), ?_⟩
  intro j hj
  have := bytesRow_at ⟨l.toArray⟩ cap j (by simpa using hj)
  simpa using this
/-- 'string(b)' of a row -/
theorem ByteRow.back {P : Program} {w : World} {B : Nat} {l : List UInt8} (h : ByteRow w B l) (src dst e : TypeId) (cap : Nat) (hs : P.underlying src = some (.slice e)) (he : P.underlying e = some (.int .u8)) (hd : P.underlying dst = some .string) :
    (convert src dst (.slice (some ⟨B, 0, none⟩) l.length cap)).run P w = .ok (.string ⟨l.toArray⟩) w :=
  run_convert_bytes_back w src dst e _ cap l hs he hd (fun j hj => by
    have : (⟨B, 0, none⟩ : Addr).add j = ⟨B, j, none⟩ := by unfold Addr.add; split <;> simp_all
    rw [this]; exact h.cell j hj)

/-- a byte with its bit k on or off -/
def byteSet (x k : Nat) (on : Bool) : Nat := if on then x ||| 2 ^ k else x &&& (255 - 2 ^ k)
def setBit (l : List UInt8) (i : Nat) (on : Bool) : List UInt8 := l.set (i / 8) (UInt8.ofNat (byteSet (l.getD (i / 8) 0).toNat (i % 8) on))
def setTo (l : List UInt8) (start : Nat) (on : Bool) : Nat → List UInt8
  | 0 => l
  | k + 1 => setBit (setTo l start on k) (start + k) on
theorem length_setBit (l : List UInt8) (i : Nat) (on : Bool) : (setBit l i on).length = l.length := by simp [setBit]
theorem length_setTo (l : List UInt8) (s : Nat) (on : Bool) (k : Nat) : (setTo l s on k).length = l.length := by
  induction k with
  | zero => rfl
  | succ k ih => rw [setTo, length_setBit, ih]

theorem two_pow_mod (k : Nat) (hk : k < 8) : ((2 : Int) ^ k % 256) = ((2 ^ k : Nat) : Int) := by
  have h : ∀ k : Fin 8, ((2 : Int) ^ k.val % 256) = ((2 ^ k.val : Nat) : Int) := by decide
  exact h ⟨k, hk⟩
theorem two_pow_lt (k : Nat) (hk : k < 8) : 2 ^ k < 256 := by
  have h : ∀ k : Fin 8, 2 ^ k.val < 256 := by decide
  exact h ⟨k, hk⟩
theorem byteSet_lt (x k : Nat) (on : Bool) (hx : x < 256) (hk : k < 8) : byteSet x k on < 256 := by
  unfold byteSet
  split
  · exact Nat.or_lt_two_pow (n := 8) hx (two_pow_lt k hk)
  · exact Nat.lt_of_le_of_lt Nat.and_le_left hx
theorem clear_or (x k : Nat) (hx : x < 256) (hk : k < 8) : (x &&& (255 - 2 ^ k)) ||| 2 ^ k = x ||| 2 ^ k := by
  have h : ∀ (x : Fin 256) (k : Fin 8), (x.val &&& (255 - 2 ^ k.val)) ||| 2 ^ k.val = x.val ||| 2 ^ k.val := by decide +kernel
  exact h ⟨x, hx⟩ ⟨k, hk⟩
theorem walk_clear (x k : Nat) (hx : x < 256) (hk : k < 8) : bits BinOp.andNot IntKind.u8 (x : Int) (2 ^ k % 256) = ((byteSet x k false : Nat) : Int) := by
  rw [two_pow_mod k hk, u8_andNot_nat _ _ hx (two_pow_lt k hk)]; rfl
theorem walk_turn (x k : Nat) (hx : x < 256) (hk : k < 8) : bits BinOp.or IntKind.u8 (bits BinOp.andNot IntKind.u8 (x : Int) (2 ^ k % 256)) (2 ^ k % 256) = ((byteSet x k true : Nat) : Int) := by
  rw [walk_clear x k hx hk, two_pow_mod k hk, u8_or_nat _ _ (byteSet_lt x k false hx hk) (two_pow_lt k hk)]
  unfold byteSet
  simp [clear_or x k hx hk]
theorem set_set (l : List UInt8) (i : Nat) (a b : UInt8) : (l.set i a).set i b = l.set i b := by simp
theorem ofNat_toNat (n : Nat) (h : n < 256) : ((UInt8.ofNat n).toNat : Int) = n := by
  rw [UInt8.toNat_ofNat']; omega

/-- so many bits are the first n -/
def firstN (l : List UInt8) (n : Int) : Nat := (max 0 (min n (8 * l.length))).toNat
theorem firstN_le (l : List UInt8) (n : Int) : firstN l n ≤ 8 * l.length := by unfold firstN; omega
theorem firstN_int (l : List UInt8) (n : Int) : ((firstN l n : Nat) : Int) = max 0 (min n (8 * l.length)) := by unfold firstN; omega
/-- how many of the first k bits are off -/
def cnt (l : List UInt8) : Nat → Nat
  | 0 => 0
  | k + 1 => cnt l k + if bit l k then 0 else 1
theorem cnt_le (l : List UInt8) (k : Nat) : cnt l k ≤ k := by
  induction k with
  | zero => exact Nat.le_refl _
  | succ k ih => rw [cnt]; split <;> omega
def makeL (n : Int) : List UInt8 := if 1 ≤ n ∧ n ≤ 32768 then List.replicate ((n + 7) / 8).toNat 0 else []

theorem ByteRow.zeros (w : World) (n : Nat) (e : TypeId) : ByteRow (w.alloc (.cells (madeCells #[.int .u8 0] n) e)) w.heap.size (List.replicate n 0) := by
  refine ⟨_, _, _, _, heap_alloc_new w _, Or.inl (Nat.le_refl _), ?_⟩
  intro j hj
  have hj' : j < n := by simpa using hj
  simp [madeCells, hj', Nat.mod_one]

theorem xor_set (x k : Nat) (on : Bool) (hx : x < 256) (hk : k < 8) (h : (x.testBit k == on) = false) : x ^^^ 2 ^ k = byteSet x k on := by
  have h' : ∀ (x : Fin 256) (k : Fin 8) (on : Bool), (x.val.testBit k.val == on) = false → x.val ^^^ 2 ^ k.val = byteSet x.val k.val on := by decide +kernel
  exact h' ⟨x, hx⟩ ⟨k, hk⟩ on h
theorem same_set (x k : Nat) (on : Bool) (hx : x < 256) (hk : k < 8) (h : (x.testBit k == on) = true) : x = byteSet x k on := by
  have h' : ∀ (x : Fin 256) (k : Fin 8) (on : Bool), (x.val.testBit k.val == on) = true → x.val = byteSet x.val k.val on := by decide +kernel
  exact h' ⟨x, hx⟩ ⟨k, hk⟩ on h

/-- the runs of free bits among the first k, as pairs: where, how many -/
def bump : List (Nat × Nat) → List (Nat × Nat)
  | [] => []
  | [r] => [(r.1, r.2 + 1)]
  | r :: rs => r :: bump rs
def runsTo (l : List UInt8) : Nat → List (Nat × Nat)
  | 0 => []
  | k + 1 => if bit l k then runsTo l k else if 0 < k ∧ bit l (k - 1) = false then bump (runsTo l k) else runsTo l k ++ [(k, 1)]
def ext (rs : List (Nat × Nat)) : List Value := rs.flatMap fun r => [.int .i64 r.1, .int .i64 r.2]
theorem length_ext (rs : List (Nat × Nat)) : (ext rs).length = rs.length * 2 := by
  induction rs with
  | nil => rfl
  | cons r rs ih => simp only [ext, List.flatMap_cons, List.length_append] at ih ⊢; simp at ih ⊢; omega
theorem ext_append (a b : List (Nat × Nat)) : ext (a ++ b) = ext a ++ ext b := by simp [ext]
theorem ext_at (rs : List (Nat × Nat)) (j : Nat) (h : j < rs.length) : (ext rs)[2 * j]? = some (.int .i64 rs[j].1) ∧ (ext rs)[2 * j + 1]? = some (.int .i64 rs[j].2) := by
  induction rs generalizing j with
  | nil => simp at h
  | cons r rs ih =>
    cases j with
    | zero => simp [ext]
    | succ j =>
      have := ih j (by simpa using h)
      have e : ext (r :: rs) = .int .i64 r.1 :: .int .i64 r.2 :: ext rs := by simp [ext]
      rw [e]
      have e2 : 2 * (j + 1) = 2 * j + 1 + 1 := by omega
      rw [e2]
      simpa using this
theorem length_bump (rs : List (Nat × Nat)) : (bump rs).length = rs.length := by
  induction rs with
  | nil => rfl
  | cons r rs ih => cases rs with
    | nil => rfl
    | cons q qs => simp only [bump, List.length_cons] at ih ⊢; omega
theorem runsTo_length (l : List UInt8) (k : Nat) : (runsTo l k).length ≤ k := by
  induction k with
  | zero => exact Nat.le_refl _
  | succ k ih =>
    rw [runsTo]
    split
    · omega
    · split
      · rw [length_bump]; omega
      · simp; omega
theorem bump_snoc (rs : List (Nat × Nat)) (r : Nat × Nat) : bump (rs ++ [r]) = rs ++ [(r.1, r.2 + 1)] := by
  induction rs with
  | nil => rfl
  | cons q qs ih =>
    rw [List.cons_append]
    cases h : qs ++ [r] with
    | nil => simp at h
    | cons a as =>
      rw [h] at ih
      simp only [bump, ih, List.cons_append]
/-- behind a free bit there is a run, and it ends there -/
theorem runsTo_last (l : List UInt8) (k : Nat) (h : bit l k = false) : ∃ rs r, runsTo l (k + 1) = rs ++ [r] ∧ r.1 + r.2 = k + 1 ∧ 1 ≤ r.2 := by
  induction k with
  | zero => exact ⟨[], (0, 1), by simp [runsTo, h], by omega, by omega⟩
  | succ k ih =>
    rw [runsTo, h]
    by_cases hk : bit l k = false
    · obtain ⟨rs, r, e, h1, h2⟩ := ih hk
      rw [e]
      refine ⟨rs, (r.1, r.2 + 1), ?_, by simp; omega, by simp⟩
      simp [hk, bump_snoc]
    · exact ⟨runsTo l (k + 1), (k + 1, 1), by simp [hk], by omega, by omega⟩

theorem ext_set (rs : List (Nat × Nat)) (r1 r2 : Nat) : (ext rs ++ ext [(r1, r2)]).set (rs.length * 2 + 1) (.int .i64 ((r2 : Int) + 1)) = ext (rs ++ [(r1, r2 + 1)]) := by
  rw [ext_append, List.set_append_right _ _ (by rw [length_ext]; omega), length_ext]
  have : rs.length * 2 + 1 - rs.length * 2 = 1 := by omega
  rw [this]
  simp [ext]

theorem pairs_differ (ra rb : List (Nat × Nat)) (k : Nat) (h1 : k < ra.length) (h2 : k < rb.length) (h : (!((ra[k].1 : Int) == (rb[k].1 : Int))) = true ∨ (!((ra[k].2 : Int) == (rb[k].2 : Int))) = true) : decide (ra = rb) = false := by
  rw [decide_eq_false_iff_not]
  intro e
  subst e
  simp at h
theorem pairs_same (ra rb : List (Nat × Nat)) (k : Nat) (h1 : k < ra.length) (h2 : k < rb.length) (h : (!((ra[k].1 : Int) == (rb[k].1 : Int))) = false ∧ (!((ra[k].2 : Int) == (rb[k].2 : Int))) = false) (hj : ∀ j, j < k → ra[j]? = rb[j]?) : ∀ j, j < k + 1 → ra[j]? = rb[j]? := by
  intro j hjk
  by_cases e : j = k
  · subst e
    simp at h
    rw [List.getElem?_eq_getElem h1, List.getElem?_eq_getElem h2]
    congr 1
    exact Prod.ext (by omega) (by omega)
  · exact hj j (by omega)

end Go.Proofs.YtcblmcbpnakphaaGreatDoor
end

/- (Base2) Plain facts on runs of free bits. -/
section
namespace Go.Proofs.YtcblmcbpnakphaaGreatDoor

theorem runs_step (l : List UInt8) (i : Nat) (hi : i = 0 ∨ bit l (i - 1) = true) (m : Nat) (h : ∀ j, i ≤ j → j < i + m + 1 → bit l j = false) : runsTo l (i + m + 1) = runsTo l i ++ [(i, m + 1)] := by
  induction m with
  | zero =>
    rw [Nat.add_zero, runsTo, h i (Nat.le_refl _) (by omega), if_neg (by simp), if_neg]
    rintro ⟨h0, h1⟩
    rcases hi with hi | hi
    · omega
    · rw [hi] at h1; cases h1
  | succ m ih =>
    have := ih (fun j h1 h2 => h j h1 (by omega))
    rw [show i + (m + 1) + 1 = (i + m + 1) + 1 by omega, runsTo, h _ (by omega) (by omega), if_neg (by simp), if_pos ⟨by omega, h _ (by omega) (by omega)⟩, this, bump_snoc]
theorem runs_stay (l : List UInt8) (k : Nat) (h : bit l k = true) : runsTo l (k + 1) = runsTo l k := by rw [runsTo, h]; rfl
/-- one more run, and the used bit behind it, or the end -/
theorem runs_more (l : List UInt8) (i k N : Nat) (hi : i = 0 ∨ bit l (i - 1) = true) (hik : i < k) (hkN : k ≤ N) (h : ∀ j, i ≤ j → j < k → bit l j = false) (hk : k = N ∨ bit l k = true) :
    runsTo l (min (k + 1) N) = runsTo l i ++ [(i, k - i)] := by
  have := runs_step l i hi (k - i - 1) (fun j h1 h2 => h j h1 (by omega))
  rw [show i + (k - i - 1) + 1 = k by omega, show k - i - 1 + 1 = k - i by omega] at this
  rcases hk with hk | hk
  · rw [← this]; congr 1; omega
  · by_cases e : k = N
    · rw [← this]; congr 1; omega
    · rw [show min (k + 1) N = k + 1 by omega, runs_stay l k hk, this]
theorem runs_none (l : List UInt8) (k N : Nat) (hkN : k ≤ N) (hk : k = N ∨ bit l k = true) : runsTo l (min (k + 1) N) = runsTo l k := by
  rcases hk with hk | hk
  · congr 1; omega
  · by_cases e : k = N
    · congr 1; omega
    · rw [show min (k + 1) N = k + 1 by omega, runs_stay l k hk]

/-- how many free bits stand right ahead of bit k -/
def tail (l : List UInt8) : Nat → Nat
  | 0 => 0
  | k + 1 => if bit l k then 0 else tail l k + 1
theorem tail_le (l : List UInt8) (k : Nat) : tail l k ≤ k := by
  induction k with
  | zero => exact Nat.le_refl _
  | succ k ih => rw [tail]; split <;> omega
/-- the first place where c free bits stand, among the first k -/
def fitN (l : List UInt8) (c : Nat) : Nat → Option Nat
  | 0 => none
  | k + 1 => match fitN l c k with
    | some s => some s
    | none => if tail l (k + 1) = c then some (k + 1 - c) else none
def fitO : Option Nat → Int × Bool
  | some s => ((s : Int), true)
  | none => (0, false)
def fitR (l : List UInt8) (n c : Int) : Int × Bool := if c < 1 then (0, false) else fitO (fitN l c.toNat (firstN l n))
theorem fitN_mono (l : List UInt8) (c k s : Nat) (h : fitN l c k = some s) (m : Nat) (hm : k ≤ m) : fitN l c m = some s := by
  induction m with
  | zero => rw [← h]; congr 1; omega
  | succ m ih =>
    by_cases e : k = m + 1
    · rw [← e]; exact h
    · rw [fitN, ih (by omega)]
theorem fitN_none_mono (l : List UInt8) (c m : Nat) (h : fitN l c m = none) (k : Nat) (hm : k ≤ m) : fitN l c k = none := by
  cases e : fitN l c k with
  | none => rfl
  | some s => rw [fitN_mono l c k s e m hm] at h; cases h
theorem runs_tail (l : List UInt8) (k : Nat) (h : bit l k = false) : ∃ rs a, runsTo l (k + 1) = rs ++ [(a, tail l (k + 1))] ∧ a + tail l (k + 1) = k + 1 := by
  induction k with
  | zero => exact ⟨[], 0, by simp [runsTo, tail, h], by simp [tail, h]⟩
  | succ k ih =>
    by_cases hk : bit l k = false
    · obtain ⟨rs, a, h1, h2⟩ := ih hk
      refine ⟨rs, a, ?_, ?_⟩
      · rw [runsTo, h, if_neg (by simp), if_pos ⟨by omega, hk⟩, h1, bump_snoc, tail.eq_2 l (k + 1), h]; rfl
      · rw [tail, h]; simp; omega
    · have hk' : bit l k = true := by simpa using hk
      refine ⟨runsTo l (k + 1), k + 1, ?_, ?_⟩
      · rw [runsTo, h, if_neg (by simp), if_neg (by simp [hk']), tail, h, tail, hk']; rfl
      · rw [tail, h, tail, hk']; simp
theorem fit_eq (l : List UInt8) (c : Nat) (hc : 1 ≤ c) (N : Nat) : fitN l c N = ((runsTo l N).find? (fun r => decide (c ≤ r.2))).map (·.1) := by
  induction N with
  | zero => rfl
  | succ k ih =>
    cases hk : bit l k with
    | true =>
      rw [runs_stay l k hk, fitN, tail, hk, ← ih]
      cases fitN l c k with
      | none => simp; omega
      | some s => rfl
    | false =>
      obtain ⟨rs, a, h1, h2⟩ := runs_tail l k hk
      rw [h1, fitN]
      by_cases hp : 0 < k ∧ bit l (k - 1) = false
      · obtain ⟨rs', a', h3, h4⟩ := runs_tail l (k - 1) hp.2
        rw [show k - 1 + 1 = k by omega] at h3 h4
        have h5 := h1
        rw [runsTo, hk, if_neg (by simp), if_pos hp, h3, bump_snoc] at h5
        have e := List.append_inj' h5 rfl
        obtain ⟨rfl, e2⟩ := e
        simp at e2
        obtain ⟨rfl, e2⟩ := e2
        rw [ih, h3, List.find?_append, List.find?_append]
        cases hf : rs'.find? (fun r => decide (c ≤ r.2)) with
        | some r => simp
        | none =>
          simp only [Option.none_or, List.find?_cons, List.find?_nil]
          by_cases h6 : c ≤ tail l k
          · simp [h6, show c ≤ tail l (k + 1) by omega]
          · by_cases h7 : c ≤ tail l (k + 1)
            · simp [h6, h7, show tail l (k + 1) = c by omega]; omega
            · simp [h6, h7, show ¬ tail l (k + 1) = c by omega]
      · have h5 := h1
        rw [runsTo, hk, if_neg (by simp), if_neg hp] at h5
        have e := List.append_inj' h5 rfl
        obtain ⟨rfl, e2⟩ := e
        simp at e2
        obtain ⟨rfl, e2⟩ := e2
        rw [ih, List.find?_append]
        cases hf : (runsTo l k).find? (fun r => decide (c ≤ r.2)) with
        | some r => simp
        | none =>
          simp only [Option.none_or, List.find?_cons, List.find?_nil, Option.map_none]
          rw [← e2]
          by_cases h7 : c ≤ 1
          · simp [show c = 1 by omega]
          · simp [h7]; omega
def setOk (l : List UInt8) (s c : Int) : Bool := decide (0 ≤ s ∧ 0 ≤ c ∧ c + s ≤ 8 * l.length)
def setL (l : List UInt8) (s c : Int) (on : Bool) : List UInt8 := if setOk l s c then setTo l s.toNat on c.toNat else []
end Go.Proofs.YtcblmcbpnakphaaGreatDoor
end

/- (Base3) Plain laws of bitmaps: what turning bits does, how many are free, where they fit, what the runs are. No program in sight. -/
section
namespace Go.Proofs.YtcblmcbpnakphaaGreatDoor

theorem mask_bit (k j : Nat) (hk : k < 8) (hj : j < 8) : (255 - 2 ^ k).testBit j = decide (j ≠ k) := by
  have h : ∀ (k j : Fin 8), (255 - 2 ^ k.val).testBit j.val = decide (j.val ≠ k.val) := by decide +kernel
  exact h ⟨k, hk⟩ ⟨j, hj⟩
theorem byteSet_bit (x k j : Nat) (on : Bool) (hk : k < 8) (hj : j < 8) : (byteSet x k on).testBit j = if j = k then on else x.testBit j := by
  unfold byteSet
  cases on with
  | true =>
    simp only [if_true, Nat.testBit_or, Nat.testBit_two_pow]
    by_cases h : j = k
    · simp [h]
    · simp [h]; omega
  | false =>
    simp only [Bool.false_eq_true, if_false, Nat.testBit_and, mask_bit k j hk hj]
    by_cases h : j = k <;> simp [h]
theorem bit_setBit (l : List UInt8) (i j : Nat) (on : Bool) (hi : i < 8 * l.length) : bit (setBit l i on) j = if j = i then on else bit l j := by
  have hi8 : i / 8 < l.length := by omega
  unfold bit setBit
  rw [List.getD_eq_getElem?_getD, List.getElem?_set]
  by_cases h : i / 8 = j / 8
  · rw [if_pos h, if_pos hi8, Option.getD_some, UInt8.toNat_ofNat', Nat.mod_eq_of_lt (byteSet_lt _ _ _ (UInt8.toNat_lt _) (Nat.mod_lt _ (by omega))),
      byteSet_bit _ _ _ _ (Nat.mod_lt _ (by omega)) (Nat.mod_lt _ (by omega)), h]
    by_cases h2 : j = i
    · rw [if_pos (by omega), if_pos h2]
    · rw [if_neg (by omega), if_neg h2]
  · rw [if_neg h, if_neg (by intro e; exact h (by rw [e])), ← List.getD_eq_getElem?_getD]
theorem bit_setTo (l : List UInt8) (s c j : Nat) (on : Bool) (h : c + s ≤ 8 * l.length) : bit (setTo l s on c) j = if s ≤ j ∧ j < s + c then on else bit l j := by
  induction c with
  | zero => rw [setTo, if_neg (by omega)]
  | succ c ih =>
    rw [setTo, bit_setBit _ _ _ _ (by rw [length_setTo]; omega), ih (by omega)]
    by_cases h1 : j = s + c
    · rw [if_pos h1, if_pos (by omega)]
    · rw [if_neg h1]
      by_cases h2 : s ≤ j ∧ j < s + c
      · rw [if_pos h2, if_pos (by omega)]
      · rw [if_neg h2, if_neg (by omega)]
theorem byte_ext (x y : Nat) (hx : x < 256) (hy : y < 256) (h : ∀ j, j < 8 → x.testBit j = y.testBit j) : x = y := by
  apply Nat.eq_of_testBit_eq
  intro i
  by_cases hi : i < 8
  · exact h i hi
  · have h8 : 2 ^ 8 ≤ 2 ^ i := Nat.pow_le_pow_right (by decide) (by omega)
    rw [Nat.testBit_lt_two_pow (by omega), Nat.testBit_lt_two_pow (by omega)]
theorem bits_ext (a b : List UInt8) (hl : a.length = b.length) (h : ∀ j, j < 8 * a.length → bit a j = bit b j) : a = b := by
  refine List.ext_getElem hl (fun k h1 h2 => ?_)
  apply UInt8.toNat_inj.1
  refine byte_ext _ _ (UInt8.toNat_lt _) (UInt8.toNat_lt _) (fun j hj => ?_)
  have := h (8 * k + j) (by omega)
  unfold bit at this
  rw [show (8 * k + j) / 8 = k by omega, show (8 * k + j) % 8 = j by omega, List.getD_eq_getElem?_getD, List.getD_eq_getElem?_getD, List.getElem?_eq_getElem h1, List.getElem?_eq_getElem h2] at this
  exact this
theorem setTo_back (l : List UInt8) (s c : Nat) (h : c + s ≤ 8 * l.length) (hf : ∀ j, s ≤ j → j < s + c → bit l j = false) : setTo (setTo l s true c) s false c = l := by
  refine bits_ext _ _ (by rw [length_setTo, length_setTo]) (fun j hj => ?_)
  rw [bit_setTo _ _ _ _ _ (by rw [length_setTo]; exact h), bit_setTo _ _ _ _ _ h]
  by_cases h1 : s ≤ j ∧ j < s + c
  · rw [if_pos h1, hf j h1.1 h1.2]
  · rw [if_neg h1, if_neg h1]
theorem cnt_set (l m : List UInt8) (s c : Nat) (hm : ∀ j, bit m j = if s ≤ j ∧ j < s + c then true else bit l j) (hf : ∀ j, s ≤ j → j < s + c → bit l j = false) (k : Nat) :
    cnt m k + (min k (s + c) - min k s) = cnt l k := by
  induction k with
  | zero => simp [cnt]
  | succ k ih =>
    rw [cnt, cnt, hm]
    by_cases h1 : s ≤ k ∧ k < s + c
    · rw [if_pos h1, hf k h1.1 h1.2]; simp; omega
    · rw [if_neg h1]; split <;> omega
theorem tail_free (l : List UInt8) (k j : Nat) (h1 : k - tail l k ≤ j) (h2 : j < k) : bit l j = false := by
  induction k with
  | zero => omega
  | succ k ih =>
    rw [tail] at h1
    cases hb : bit l k with
    | true => rw [hb] at h1; simp at h1; omega
    | false =>
      rw [hb] at h1; simp at h1
      by_cases e : j = k
      · rw [e]; exact hb
      · exact ih (by omega) (by omega)
theorem fit_some (l : List UInt8) (c N s : Nat) (h : fitN l c N = some s) : tail l (s + c) = c ∧ s + c ≤ N ∧ (1 ≤ c → fitN l c (s + c - 1) = none) := by
  induction N with
  | zero => cases h
  | succ k ih =>
    rw [fitN] at h
    cases hk : fitN l c k with
    | some t =>
      rw [hk] at h
      obtain ⟨h1, h2, h3⟩ := ih (by rw [hk]; simpa using h)
      exact ⟨h1, by omega, h3⟩
    | none =>
      rw [hk] at h
      simp at h
      have := tail_le l (k + 1)
      have e : s + c = k + 1 := by omega
      rw [e]
      exact ⟨h.1, Nat.le_refl _, fun _ => hk⟩
theorem fit_none (l : List UInt8) (c N : Nat) (hc : 1 ≤ c) (h : fitN l c N = none) (k : Nat) (hk : k ≤ N) : tail l k < c := by
  induction k with
  | zero => rw [tail]; omega
  | succ k ih =>
    have h1 := ih (by omega)
    have h2 := fitN_none_mono l c N h (k + 1) hk
    have h3 := fitN_none_mono l c N h k (by omega)
    rw [fitN, h3] at h2
    simp at h2
    rw [tail] at h2 ⊢
    split <;> simp_all <;> omega
theorem fit_none_of (l : List UInt8) (c N : Nat) (h : ∀ k, k ≤ N → tail l k < c) : fitN l c N = none := by
  induction N with
  | zero => rfl
  | succ k ih =>
    rw [fitN, ih (fun j hj => h j (by omega))]
    have := h (k + 1) (Nat.le_refl _)
    simp; omega
theorem tail_mono (l m : List UInt8) (h : ∀ j, bit l j = true → bit m j = true) (k : Nat) : tail m k ≤ tail l k := by
  induction k with
  | zero => exact Nat.le_refl _
  | succ k ih =>
    rw [tail, tail]
    cases hl : bit l k with
    | true => rw [h k hl]; simp
    | false => cases bit m k <;> simp <;> omega
/-- behind taking what fits first, nothing ahead of its end fits -/
theorem fit_taken (l : List UInt8) (c N s K : Nat) (hc : 1 ≤ c) (h : fitN l c N = some s) (hl : c + s ≤ 8 * l.length) (hK : K ≤ s + c - 1) : fitN (setTo l s true c) c K = none := by
  obtain ⟨h1, h2, h3⟩ := fit_some l c N s h
  refine fit_none_of _ _ _ (fun k hk => ?_)
  have h4 := fit_none l c _ hc (h3 hc) k (by omega)
  have h5 := tail_mono l (setTo l s true c) (fun j hj => by rw [bit_setTo _ _ _ _ _ hl, hj]; split <;> rfl) k
  omega
/-- what is true of one run among the first k bits -/
def RunOk (l : List UInt8) (k : Nat) (r : Nat × Nat) : Prop :=
  (∀ j, r.1 ≤ j → j < r.1 + r.2 → bit l j = false) ∧ (0 < r.1 → bit l (r.1 - 1) = true) ∧ 1 ≤ r.2 ∧ r.1 + r.2 ≤ k ∧ (r.1 + r.2 < k → bit l (r.1 + r.2) = true)
def total (rs : List (Nat × Nat)) : Nat := (rs.map (·.2)).sum
theorem total_snoc (rs : List (Nat × Nat)) (r : Nat × Nat) : total (rs ++ [r]) = total rs + r.2 := by simp [total]
theorem runs_ok (l : List UInt8) (k : Nat) : (∀ r ∈ runsTo l k, RunOk l k r) ∧ (runsTo l k).Pairwise (fun r q => r.1 + r.2 < q.1) ∧ total (runsTo l k) = cnt l k := by
  induction k with
  | zero => exact ⟨by simp [runsTo], by simp [runsTo], by simp [runsTo, total, cnt]⟩
  | succ k ih =>
    obtain ⟨h1, h2, h3⟩ := ih
    cases hb : bit l k with
    | true =>
      rw [runs_stay l k hb]
      refine ⟨fun r hr => ?_, h2, by rw [h3, cnt, hb]; rfl⟩
      obtain ⟨a, b, c, d, e⟩ := h1 r hr
      refine ⟨a, b, c, by omega, fun h => ?_⟩
      by_cases e1 : r.1 + r.2 = k
      · rw [e1]; exact hb
      · exact e (by omega)
    | false =>
      by_cases hp : 0 < k ∧ bit l (k - 1) = false
      · obtain ⟨rs, a, h4, h5⟩ := runs_tail l (k - 1) hp.2
        rw [show k - 1 + 1 = k by omega] at h4 h5
        generalize tail l k = t at *
        have e : runsTo l (k + 1) = rs ++ [(a, t + 1)] := by rw [runsTo, hb, if_neg (by simp), if_pos hp, h4, bump_snoc]
        rw [h4] at h1 h2 h3
        rw [e]
        rw [List.pairwise_append] at h2
        obtain ⟨p1, p2, p3⟩ := h2
        refine ⟨fun r hr => ?_, ?_, ?_⟩
        · rw [List.mem_append] at hr
          rcases hr with hr | hr
          · obtain ⟨a1, b1, c1, d1, e1⟩ := h1 r (by simp [hr])
            have := p3 r hr (a, t) (by simp)
            exact ⟨a1, b1, c1, by omega, fun h => e1 (by simp at this; omega)⟩
          · simp at hr
            subst hr
            obtain ⟨a1, b1, c1, d1, e1⟩ := h1 (a, t) (by simp)
            refine ⟨fun j j1 j2 => ?_, b1, by simp, by simp; omega, fun h => by simp at h; omega⟩
            by_cases ej : j = k
            · rw [ej]; exact hb
            · exact a1 j j1 (by simp at j2 ⊢; omega)
        · rw [List.pairwise_append]
          refine ⟨p1, by simp, fun r hr q hq => ?_⟩
          have := p3 r hr (a, t) (by simp)
          simp at hq; subst hq; exact this
        · rw [total_snoc] at h3 ⊢
          rw [cnt, hb]; simp at h3 ⊢; omega
      · have e : runsTo l (k + 1) = runsTo l k ++ [(k, 1)] := by rw [runsTo, hb, if_neg (by simp), if_neg hp]
        have hlt : ∀ r ∈ runsTo l k, r.1 + r.2 < k := by
          intro r hr
          obtain ⟨a1, b1, c1, d1, e1⟩ := h1 r hr
          by_cases e2 : r.1 + r.2 = k
          · exact absurd ⟨by omega, a1 (k - 1) (by omega) (by omega)⟩ hp
          · omega
        rw [e]
        refine ⟨fun r hr => ?_, ?_, ?_⟩
        · rw [List.mem_append] at hr
          rcases hr with hr | hr
          · obtain ⟨a1, b1, c1, d1, e1⟩ := h1 r hr
            exact ⟨a1, b1, c1, by omega, fun h => e1 (hlt r hr)⟩
          · simp at hr
            subst hr
            refine ⟨fun j j1 j2 => ?_, fun h => ?_, by simp, by simp, fun h => by simp at h⟩
            · have : j = k := by simp at j1 j2; omega
              rw [this]; exact hb
            · simp at h
              cases hq : bit l (k - 1) with
              | true => rfl
              | false => exact absurd ⟨h, hq⟩ hp
        · rw [List.pairwise_append]
          refine ⟨h2, by simp, fun r hr q hq => ?_⟩
          simp at hq; subst hq; exact hlt r hr
        · rw [total_snoc, h3, cnt, hb]; rfl
theorem bit_append_left (a b : List UInt8) (j : Nat) (h : j < 8 * a.length) : bit (a ++ b) j = bit a j := by
  unfold bit
  rw [List.getD_eq_getElem?_getD, List.getD_eq_getElem?_getD, List.getElem?_append_left (by omega)]
theorem bit_append_right (a b : List UInt8) (j : Nat) : bit (a ++ b) (8 * a.length + j) = bit b j := by
  unfold bit
  rw [List.getD_eq_getElem?_getD, List.getD_eq_getElem?_getD, List.getElem?_append_right (by omega), show (8 * a.length + j) % 8 = j % 8 by omega, show (8 * a.length + j) / 8 - a.length = j / 8 by omega]
theorem cnt_append_left (a b : List UInt8) (k : Nat) (h : k ≤ 8 * a.length) : cnt (a ++ b) k = cnt a k := by
  induction k with
  | zero => rfl
  | succ k ih => rw [cnt, cnt, ih (by omega), bit_append_left _ _ _ (by omega)]
theorem cnt_append (a b : List UInt8) (k : Nat) : cnt (a ++ b) (8 * a.length + k) = cnt a (8 * a.length) + cnt b k := by
  induction k with
  | zero => rw [Nat.add_zero, cnt_append_left _ _ _ (Nat.le_refl _)]; rfl
  | succ k ih => rw [← Nat.add_assoc, cnt, ih, cnt, bit_append_right]; omega
end Go.Proofs.YtcblmcbpnakphaaGreatDoor
end
