/- Joined texts of one proof: Kit, Mem, Wire, SegSpec. -/
import Derived.WalkKit
import Derived.Lib.Hide
import Derived.Deep.QuietTactic
import Derived.BigQuiet
import Derived.Deep.Onto
import Derived.Deep.AppendLies
set_option linter.unusedSimpArgs false
set_option linter.unusedVariables false
set_option linter.unnecessarySimpa false
/- (Kit) Laws of walking that the kit lacks, over any program: appending one element that was built just now. -/
section
namespace Go.Proofs.YtcflpcpkmhljkaaGreatDoor
open Go.RowKit

theorem ret_int {k : IntKind} {a b : Int} (h : a = b) : Ending.returned (.int k a) = .returned (.int k b) := by rw [h]
theorem ret_bool {a b : Bool} (h : a = b) : Ending.returned (.bool a) = .returned (.bool b) := by rw [h]
theorem ret_str {a b : List UInt8} (h : a = b) : Ending.returned (.string ⟨a.toArray⟩) = .returned (.string ⟨b.toArray⟩) := by rw [h]
theorem int_eq {k : IntKind} {a b : Int} (h : a = b) : Value.int k a = .int k b := by rw [h]
theorem w64b (b : UInt8) : wrap64 (b.toNat : Int) = b.toNat := by
  have := UInt8.toNat_lt b
  exact IntWalk.wrap64_in _ (by omega)

theorem add_head (b j : Nat) : (⟨b, 0, none⟩ : Addr).add j = ⟨b, j, none⟩ := by unfold Addr.add; split <;> simp_all

theorem run_app {P : Program} (W : World) (t ty : TypeId) (base : Nat) (e e' : TypeId) (i : TypeInfo) (z : Value) (size bytes : Nat) (ht : P.underlying t = some (.slice e)) (hi : P.info? e = some i) (hz : i.zero = some z)
    (hsize : i.size = size) (hby : i.bytes = bytes) (hzs : z.cells.size = size) (hsz : 0 < size) (hbz : 0 < bytes)
    (v : Value) (n : Nat) (xs : List Value) (hown : W.ownsRow base e size v n xs)
    (news : Array Value) (hl : news.size = size) (h1 : ∀ u ∈ news.toList, u.oneCell' = true) (hb : (n + 1) * bytes ≤ 140737488355328) (hbase : base ≤ W.heap.size) :
    ∃ g cap w', (Builtin.append_ #[t, t] ty #[v, .slice (some ⟨W.heap.size, 0, none⟩) 1 1]).run P (W.alloc (.cells news e')) = .ok (.slice (some ⟨g, 0, none⟩) (n + 1) cap) w' ∧
      w'.ownsRow base e size (.slice (some ⟨g, 0, none⟩) (n + 1) cap) (n + 1) (xs ++ news.toList) ∧ W.grownBy w' v.ownBlock ∧ (v.ownBlock = some g ∨ W.heap.size < g) ∧ g < w'.heap.size ∧ W.heap.size < w'.heap.size := by
  have h63 : n + 1 ≤ maxLen := by
    have := Nat.le_mul_of_pos_right (n + 1) hbz
    simp only [maxLen]; omega
  obtain ⟨g, cap, w', hr, h2, h3, h4, h5⟩ := run_append_lies (P := P) (W.alloc (.cells news e')) t ty base e i z size bytes ht hi hz hsize hby hzs hsz v n xs (hown.alloc _) ⟨W.heap.size, 0, none⟩ 1 1 news.toList (by simpa using hl)
    (fun j u hj => by
      rw [add_head]
      simp only [World.cell?, heap_alloc_new]
      simpa using hj) h1 (by omega) h63 hb (by simp; omega) (W.heap.size + 1) (by simp)
  refine ⟨g, cap, w', hr, h2, ⟨h3.os.trans rfl, h3.tape.trans rfl, h3.output.trans rfl, by have := h3.size; simp at this; omega, fun k hk hne => ?_⟩, h4.imp id (fun h => by omega), h5, by have := h3.size; simp at this; omega⟩
  rw [h3.block k (by simp; omega) hne, Below.heap_alloc _ _ _ hk]

theorem wpList_app {P : Program} (W : World) {ops : Array Oper} {rest : List Oper} {o : Oper} {a : Act} {Q : Exit → Act → World → Prop} (hgd : o.guard = none) (s x : Operand) (t : TypeId)
    (ho : o.op = .call { callee := .builtin .append, args := #[s, x], argTypes := #[t, t] })
    (base : Nat) (e e' : TypeId) (i : TypeInfo) (z : Value) (size bytes : Nat) (ht : P.underlying t = some (.slice e)) (hi : P.info? e = some i) (hz : i.zero = some z)
    (hsize : i.size = size) (hby : i.bytes = bytes) (hzs : z.cells.size = size) (hsz : 0 < size) (hbz : 0 < bytes)
    (v : Value) (n : Nat) (xs : List Value) (hs : a.eval s = v) (hown : W.ownsRow base e size v n xs)
    (news : Array Value) (hx : a.eval x = .slice (some ⟨W.heap.size, 0, none⟩) 1 1) (hl : news.size = size) (h1 : ∀ u ∈ news.toList, u.oneCell' = true)
    (hb : (n + 1) * bytes ≤ 140737488355328) (hbase : base ≤ W.heap.size)
    (h : ∀ g cap w', w'.ownsRow base e size (.slice (some ⟨g, 0, none⟩) (n + 1) cap) (n + 1) (xs ++ news.toList) → W.grownBy w' v.ownBlock → (v.ownBlock = some g ∨ W.heap.size < g) → g < w'.heap.size → W.heap.size < w'.heap.size →
      wpList P ops Q rest (a.put o.dst (.slice (some ⟨g, 0, none⟩) (n + 1) cap)) w') : wpList P ops Q (o :: rest) a (W.alloc (.cells news e')) := by
  obtain ⟨g, cap, w', hr, h2, h3, h4, h5, h6⟩ := run_app (P := P) W t o.type base e e' i z size bytes ht hi hz hsize hby hzs hsz hbz v n xs hown news hl h1 hb hbase
  refine wpList_plain hgd fun _ hK => ?_
  unfold Oper.wp execOp
  simp only [ho, resolve, invoke, builtin, Sem.run_bind, Sem.run_pure, Result.andThen_ok, List.map_toArray, List.map_cons, List.map_nil, hs, hx, hr]
  exact hK _ _ (h g cap w' h2 h3 h4 h5 h6)

/-- what is below the base of an owned row is as it was -/
theorem grown_below {B base : Nat} {w0 W w' : World} {v : Value} {e : TypeId} {size n : Nat} {xs : List Value} (hb : Below B w0 W) (hown : W.ownsRow base e size v n xs) (hg : W.grownBy w' v.ownBlock) (hB : B ≤ base) (hW : B ≤ W.heap.size) : Below B w0 w' :=
  hb.grown hg hW (fun k hk => by have := (hown.lt k hk).1; omega)
theorem grown_cell {base : Nat} {W w' : World} {v : Value} {e : TypeId} {size n : Nat} {xs : List Value} (hown : W.ownsRow base e size v n xs) (hg : W.grownBy w' v.ownBlock) {p : Addr} {u : Value} (hp : p.block < base) (hc : W.cell? p = some u) : w'.cell? p = some u :=
  hg.cell hc (fun h => by have := (hown.lt p.block h.symm).1; omega)
theorem owns_value {w : World} {base : Nat} {e : TypeId} {size : Nat} {v : Value} {n : Nat} {xs : List Value} (h : w.ownsRow base e size v n xs) : ∃ a cap, v = .slice a n cap ∧ (0 < n → ∃ g, a = some ⟨g, 0, none⟩) := by
  rcases h.2 with ⟨rfl, rfl⟩ | ⟨g, cap, cur, rfl, _⟩
  · exact ⟨none, 0, rfl, fun h => by omega⟩
  · exact ⟨_, cap, rfl, fun _ => ⟨g, rfl⟩⟩
theorem ownsRow_below {w w' : World} {base : Nat} {e : TypeId} {size : Nat} {v : Value} {n : Nat} {xs : List Value} (h : w.ownsRow base e size v n xs) (hb : Below w.heap.size w w') : w'.ownsRow base e size v n xs :=
  h.kept (row := none) ⟨hb.os, hb.tape, hb.output, hb.size, fun k hk _ => hb.block k hk⟩ (by cases v.ownBlock <;> simp)
theorem bytes_extract (s : List UInt8) (a b : Nat) : ({ data := s.toArray } : ByteArray).extract a b = ⟨((s.drop a).take (b - a)).toArray⟩ := by
  apply ByteArray.ext
  rw [ByteArray.data_extract]
  simp [List.take_drop]
theorem bytes_drop (s : List UInt8) (a : Nat) : ({ data := s.toArray } : ByteArray).extract a s.length = ⟨(s.drop a).toArray⟩ := by
  rw [bytes_extract, List.take_of_length_le (by rw [List.length_drop]; omega)]
theorem bytes_take (s : List UInt8) (a : Nat) : ({ data := s.toArray } : ByteArray).extract 0 a = ⟨(s.take a).toArray⟩ := by
  rw [bytes_extract]; simp
theorem ret_num_str {k : IntKind} {x v : Int} {y : ByteArray} {r : List UInt8} {b : Bool} (h1 : x = v) (h2 : y = ⟨r.toArray⟩) :
    Ending.returned (.tuple #[.int k x, .string y, .bool b]) = .returned (.tuple #[.int k v, .string ⟨r.toArray⟩, .bool b]) := by rw [h1, h2]
theorem ret_str_str {x y : ByteArray} {q r : List UInt8} {b : Bool} (h1 : x = ⟨q.toArray⟩) (h2 : y = ⟨r.toArray⟩) :
    Ending.returned (.tuple #[.string x, .string y, .bool b]) = .returned (.tuple #[.string ⟨q.toArray⟩, .string ⟨r.toArray⟩, .bool b]) := by rw [h1, h2]
theorem bytes_append (a b : List UInt8) : ({ data := a.toArray } : ByteArray) ++ { data := b.toArray } = ⟨(a ++ b).toArray⟩ := by
  apply ByteArray.ext
  simp
end Go.Proofs.YtcflpcpkmhljkaaGreatDoor
end

/- (Mem) Slices that are only read: what they read as, and that it stays. Over any program. -/
section
namespace Go.Proofs.YtcflpcpkmhljkaaGreatDoor
open Go.RowKit

/-- slice v has n elements of 'size' cells each: the cells xs -/
def Sl (w : World) (v : Value) (n size : Nat) (xs : List Value) : Prop :=
  xs.length = n * size ∧ ∃ a cap, v = .slice a n cap ∧ (0 < n → ∃ b off, a = some ⟨b, off, none⟩ ∧ ∀ j u, xs[j]? = some u → w.cell? ⟨b, off + j, none⟩ = some u)
theorem cell_lt {w : World} {a : Addr} {u : Value} (h : w.cell? a = some u) : a.block < w.heap.size := World.block_lt_of_cell? w a h
theorem cell_stays {w w' : World} (hb : Below w.heap.size w w') {a : Addr} {u : Value} (h : w.cell? a = some u) : w'.cell? a = some u :=
  (hb.cell (cell_lt h)).trans h
theorem Sl.stays {w w' : World} {v : Value} {n size : Nat} {xs : List Value} (h : Sl w v n size xs) (hb : Below w.heap.size w w') : Sl w' v n size xs := by
  obtain ⟨h1, a, cap, h2, h3⟩ := h
  refine ⟨h1, a, cap, h2, fun hn => ?_⟩
  obtain ⟨b, off, h4, h5⟩ := h3 hn
  exact ⟨b, off, h4, fun j u hj => cell_stays hb (h5 j u hj)⟩
theorem Sl.nil (w : World) (size : Nat) : Sl w (.slice none 0 0) 0 size [] := ⟨by simp, none, 0, rfl, fun h => by omega⟩
theorem Sl.of_owns {w : World} {base : Nat} {e : TypeId} {size : Nat} {v : Value} {n : Nat} {xs : List Value} (h : w.ownsRow base e size v n xs) : Sl w v n size xs := by
  obtain ⟨a, cap, rfl, hs⟩ := owns_value h
  refine ⟨h.1, a, cap, rfl, fun hn => ?_⟩
  obtain ⟨g, rfl⟩ := hs hn
  refine ⟨g, 0, rfl, fun j u hj => ?_⟩
  have hlt : j < n * size := by rw [← h.1]; exact (List.getElem?_eq_some_iff.1 hj).1
  rw [Nat.zero_add, h.cellAt j hlt]; exact hj
/-- a slice literal that was built just now -/
theorem Sl.lit (w : World) (cs : Array Value) (e : TypeId) (n size : Nat) (h : cs.size = n * size) : Sl (w.alloc (.cells cs e)) (.slice (some ⟨w.heap.size, 0, none⟩) n n) n size cs.toList := by
  refine ⟨by simpa using h, _, n, rfl, fun hn => ⟨w.heap.size, 0, rfl, fun j u hj => ?_⟩⟩
  rw [Nat.zero_add]
  simp only [World.cell?, heap_alloc_new]
  simpa using hj
theorem Sl.value {w : World} {v : Value} {n size : Nat} {xs : List Value} (h : Sl w v n size xs) : ∃ a cap, v = .slice a n cap ∧ (0 < n → ∃ b off, a = some ⟨b, off, none⟩ ∧ ∀ j u, xs[j]? = some u → w.cell? ⟨b, off + j, none⟩ = some u) := h.2

abbrev strV (l : List UInt8) : Value := .string ⟨l.toArray⟩
def Strs (w : World) (v : Value) (ps : List (List UInt8)) : Prop := Sl w v ps.length 1 (ps.map strV)
def U64s (w : World) (v : Value) (ns : List Nat) : Prop := Sl w v ns.length 1 (ns.map fun n : Nat => .int .u64 (n : Int))
theorem Strs.stays {w w' : World} {v : Value} {ps : List (List UInt8)} (h : Strs w v ps) (hb : Below w.heap.size w w') : Strs w' v ps := Sl.stays h hb
theorem U64s.stays {w w' : World} {v : Value} {ns : List Nat} (h : U64s w v ns) (hb : Below w.heap.size w w') : U64s w' v ns := Sl.stays h hb
theorem Strs.value {w : World} {v : Value} {ps : List (List UInt8)} (h : Strs w v ps) : ∃ a cap, v = .slice a ps.length cap ∧ (0 < ps.length → ∃ b off, a = some ⟨b, off, none⟩ ∧ ∀ j (hj : j < ps.length), w.cell? ⟨b, off + j, none⟩ = some (.string ⟨ps[j].toArray⟩)) := by
  obtain ⟨_, a, cap, h2, h3⟩ := h
  refine ⟨a, cap, h2, fun hn => ?_⟩
  obtain ⟨b, off, h4, h5⟩ := h3 hn
  exact ⟨b, off, h4, fun j hj => h5 j _ (by simp [hj])⟩
theorem U64s.value {w : World} {v : Value} {ns : List Nat} (h : U64s w v ns) : ∃ a cap, v = .slice a ns.length cap ∧ (0 < ns.length → ∃ b off, a = some ⟨b, off, none⟩ ∧ ∀ j (hj : j < ns.length), w.cell? ⟨b, off + j, none⟩ = some (.int .u64 (ns[j] : Nat))) := by
  obtain ⟨_, a, cap, h2, h3⟩ := h
  refine ⟨a, cap, h2, fun hn => ?_⟩
  obtain ⟨b, off, h4, h5⟩ := h3 hn
  exact ⟨b, off, h4, fun j hj => h5 j _ (by simp [hj])⟩

/-- nothing that was there has turned -/
def Q (w w' : World) : Prop := Below w.heap.size w w'
theorem Q.refl (w : World) : Q w w := Below.refl _ _
theorem Q.trans {a b c : World} (h1 : Q a b) (h2 : Q b c) : Q a c := Below.trans h1 (Below.mono h2 h1.size)
theorem Q.of {w w' : World} (h : Below w.heap.size w w') : Q w w' := h
theorem Q.alloc (w : World) (o : Obj) : Q w (w.alloc o) := (Below.refl _ _).alloc (Nat.le_refl _) _
theorem Q.drewN (w : World) (n : Nat) : Q w (w.drewN n) := ⟨rfl, rfl, rfl, Nat.le_refl _, fun _ _ => rfl⟩
theorem Q.drew (w : World) : Q w w.drew := ⟨rfl, rfl, rfl, Nat.le_refl _, fun _ _ => rfl⟩
end Go.Proofs.YtcflpcpkmhljkaaGreatDoor
end

/- (Wire) Plain laws of chapter 2: numbers and texts as bytes. No program in sight. -/
section
namespace Go.Proofs.YtcflpcpkmhljkaaGreatDoor

abbrev Bytes := List UInt8

/-- a number in as few bytes as there can be, seven bits a byte (n bytes at the most) -/
def varF : Nat → Nat → Bytes
  | 0, _ => []
  | n + 1, v => if v < 128 then [UInt8.ofNat v] else UInt8.ofNat (v % 128 + 128) :: varF n (v / 128)
def varE (v : Nat) : Bytes := varF 10 v

theorem varF_pos (n v : Nat) (h : 0 < n) : 0 < (varF n v).length := by
  cases n with
  | zero => omega
  | succ n => rw [varF]; split <;> simp
theorem varF_len (n v : Nat) : (varF n v).length ≤ n := by
  induction n generalizing v with
  | zero => simp [varF]
  | succ n ih => rw [varF]; split <;> simp; exact ih _
theorem toNat_ofNat (n : Nat) (h : n < 256) : (UInt8.ofNat n).toNat = n := by
  rw [UInt8.toNat_ofNat']; omega
/-- two numbers with the same bytes ahead are one, and what stands behind them is the same -/
theorem varF_inj (n u v : Nat) (hu : u < 128 ^ n) (hv : v < 128 ^ n) (r s : Bytes) (h : varF n u ++ r = varF n v ++ s) : u = v ∧ r = s := by
  induction n generalizing u v with
  | zero => simp at hu hv; subst hu; subst hv; simpa [varF] using h
  | succ n ih =>
    rw [varF, varF] at h
    rw [Nat.pow_succ] at hu hv
    by_cases h1 : u < 128 <;> by_cases h2 : v < 128
    · rw [if_pos h1, if_pos h2] at h
      simp only [List.cons_append, List.nil_append, List.cons.injEq] at h
      have := congrArg UInt8.toNat h.1
      rw [toNat_ofNat _ (by omega), toNat_ofNat _ (by omega)] at this
      exact ⟨this, h.2⟩
    · rw [if_pos h1, if_neg h2] at h
      simp only [List.cons_append, List.nil_append, List.cons.injEq] at h
      have := congrArg UInt8.toNat h.1
      rw [toNat_ofNat _ (by omega), toNat_ofNat _ (by omega)] at this
      omega
    · rw [if_neg h1, if_pos h2] at h
      simp only [List.cons_append, List.nil_append, List.cons.injEq] at h
      have := congrArg UInt8.toNat h.1
      rw [toNat_ofNat _ (by omega), toNat_ofNat _ (by omega)] at this
      omega
    · rw [if_neg h1, if_neg h2] at h
      simp only [List.cons_append, List.nil_append, List.cons.injEq] at h
      have := congrArg UInt8.toNat h.1
      rw [toNat_ofNat _ (by omega), toNat_ofNat _ (by omega)] at this
      obtain ⟨e, e2⟩ := ih (u / 128) (v / 128) (by rw [Nat.div_lt_iff_lt_mul (by omega)]; omega) (by rw [Nat.div_lt_iff_lt_mul (by omega)]; omega) h.2
      exact ⟨by omega, e2⟩
theorem lt64 (v : Nat) (h : v < 18446744073709551616) : v < 128 ^ 10 := by
  have : (18446744073709551616 : Nat) ≤ 128 ^ 10 := by decide
  omega
theorem varE_inj (u v : Nat) (hu : u < 18446744073709551616) (hv : v < 18446744073709551616) (r s : Bytes) (h : varE u ++ r = varE v ++ s) : u = v ∧ r = s :=
  varF_inj 10 u v (lt64 u hu) (lt64 v hv) r s h
/-- what is read as a number, ahead of what is left -/
def IsVar (s : Bytes) (v : Nat) (rest : Bytes) : Prop := v < 18446744073709551616 ∧ s = varE v ++ rest
theorem IsVar.one {s : Bytes} {u v : Nat} {r t : Bytes} (h : IsVar s u r) (k : IsVar s v t) : u = v ∧ r = t :=
  varE_inj u v h.1 k.1 r t (h.2.symm.trans k.2)
/-- a text with its length ahead -/
def textE (s : Bytes) : Bytes := varE s.length ++ s
def IsText (s t rest : Bytes) : Prop := t.length < 18446744073709551616 ∧ s = textE t ++ rest
theorem IsText.one {s t u r v : Bytes} (h : IsText s t r) (k : IsText s u v) : t = u ∧ r = v := by
  have e := h.2.symm.trans k.2
  unfold textE at e
  rw [List.append_assoc, List.append_assoc] at e
  obtain ⟨e1, e2⟩ := varE_inj _ _ h.1 k.1 _ _ e
  exact List.append_inj e2 e1
/-- numbers as bytes, one behind the other -/
def varsE (l : List Nat) : Bytes := l.flatMap varE
theorem varE_len (v : Nat) : (varE v).length ≤ 10 := varF_len 10 v
theorem varsE_len (l : List Nat) : (varsE l).length ≤ 10 * l.length := by
  induction l with
  | nil => simp [varsE]
  | cons a l ih =>
    have := varE_len a
    simp only [varsE, List.flatMap_cons, List.length_append, List.length_cons] at ih ⊢
    omega
theorem varsE_take (l : List Nat) (k : Nat) (h : k < l.length) : varsE (l.take (k + 1)) = varsE (l.take k) ++ varE l[k] := by
  unfold varsE
  rw [List.take_succ_eq_append_getElem h, List.flatMap_append]; simp
theorem varF_small (m x : Nat) (hm : 0 < m) (h : x < 128) : varF m x = [UInt8.ofNat x] := by
  cases m with
  | zero => omega
  | succ m => rw [varF, if_pos h]
theorem varF_big (m x : Nat) (h : 128 ≤ x) (hx : x < 128 ^ m) : 1 < m ∧ varF m x = UInt8.ofNat (x % 128 + 128) :: varF (m - 1) (x / 128) ∧ x / 128 < 128 ^ (m - 1) := by
  cases m with
  | zero => simp at hx; omega
  | succ m =>
    cases m with
    | zero => simp at hx; omega
    | succ m =>
      rw [Nat.pow_succ] at hx
      refine ⟨by omega, ?_, ?_⟩
      · rw [varF, if_neg (by omega)]; rfl
      · rw [show m + 1 + 1 - 1 = m + 1 by omega, Nat.div_lt_iff_lt_mul (by omega)]; omega
theorem or128 (x : Nat) : (x % 256) ||| 128 = x % 128 + 128 := by
  have h : ∀ y : Fin 256, y.val ||| 128 = y.val % 128 + 128 := by decide +kernel
  have := h ⟨x % 256, Nat.mod_lt _ (by omega)⟩
  simp only at this
  rw [this]; omega
/-- texts with their lengths, one behind the other -/
def textsE (l : List Bytes) : Bytes := l.flatMap textE
theorem textsE_take (l : List Bytes) (k : Nat) (h : k < l.length) : textsE (l.take (k + 1)) = textsE (l.take k) ++ textE l[k] := by
  unfold textsE
  rw [List.take_succ_eq_append_getElem h, List.flatMap_append]; simp
theorem textE_len (s : Bytes) : (textE s).length ≤ s.length + 10 := by
  have := varE_len s.length
  unfold textE; rw [List.length_append]; omega
theorem textsE_len (l : List Bytes) (M : Nat) (h : ∀ s ∈ l, s.length ≤ M) : (textsE l).length ≤ l.length * (M + 10) := by
  induction l with
  | nil => simp [textsE]
  | cons a l ih =>
    have h1 := ih (fun s hs => h s (by simp [hs]))
    have h2 := textE_len a
    have h3 := h a (by simp)
    simp only [textsE, List.flatMap_cons, List.length_append, List.length_cons, Nat.add_mul] at h1 ⊢
    omega
end Go.Proofs.YtcflpcpkmhljkaaGreatDoor
end

/- (SegSpec) Plain laws of chapters 2 and 14: sums, documents as bytes; the bytes of documents are those of no others. No program in sight. -/
section
namespace Go.Proofs.YtcflpcpkmhljkaaGreatDoor

/-- one of the eight turns of the sum -/
def crcTurn (c : Nat) : Nat := if c % 2 = 1 then (c / 2) ^^^ 3988292384 else c / 2
def crcTurns : Nat → Nat → Nat
  | 0, c => c
  | k + 1, c => crcTurn (crcTurns k c)
def crcByte (c : Nat) (b : UInt8) : Nat := crcTurns 8 (c ^^^ b.toNat)
def crcRaw (s : Bytes) : Nat := s.foldl crcByte 4294967295
def crcL (s : Bytes) : Nat := crcRaw s ^^^ 4294967295
def fixedL (v : Nat) : Bytes := [UInt8.ofNat (v % 256), UInt8.ofNat (v / 256 % 256), UInt8.ofNat (v / 65536 % 256), UInt8.ofNat (v / 16777216 % 256)]

theorem crcTurn_lt (c : Nat) (h : c < 4294967296) : crcTurn c < 4294967296 := by
  unfold crcTurn
  split
  · exact Nat.xor_lt_two_pow (n := 32) (by omega) (by decide)
  · omega
theorem crcTurns_lt (k c : Nat) (h : c < 4294967296) : crcTurns k c < 4294967296 := by
  induction k with
  | zero => exact h
  | succ k ih => exact crcTurn_lt _ ih
theorem crcByte_lt (c : Nat) (b : UInt8) (h : c < 4294967296) : crcByte c b < 4294967296 :=
  crcTurns_lt 8 _ (Nat.xor_lt_two_pow (n := 32) h (Nat.lt_trans (UInt8.toNat_lt b) (by decide)))
theorem crcFold_lt (s : Bytes) (c : Nat) (h : c < 4294967296) : s.foldl crcByte c < 4294967296 := by
  induction s generalizing c with
  | nil => exact h
  | cons b s ih => exact ih _ (crcByte_lt c b h)
theorem crcRaw_lt (s : Bytes) : crcRaw s < 4294967296 := crcFold_lt s _ (by decide)
theorem crcL_lt (s : Bytes) : crcL s < 4294967296 := Nat.xor_lt_two_pow (n := 32) (crcRaw_lt s) (by decide)
theorem crcRaw_snoc (s : Bytes) (b : UInt8) : crcRaw (s ++ [b]) = crcByte (crcRaw s) b := by simp [crcRaw]
theorem length_fixedL (v : Nat) : (fixedL v).length = 4 := rfl

/-- a document: its ID and its text -/
abbrev DocL := Bytes × Bytes
def docsE : List DocL → Bytes
  | [] => []
  | d :: l => textE d.1 ++ (textE d.2 ++ docsE l)
def magicL : Bytes := [67, 68, 88, 71]
/-- a segment's bytes ahead of the sum, the dictionary d being given -/
def segBody (l : List DocL) (d : Bytes) : Bytes := magicL ++ (varE l.length ++ (docsE l ++ textE d))
def segE (l : List DocL) (d : Bytes) : Bytes := segBody l d ++ fixedL (crcL (segBody l d))
theorem docsE_append (a b : List DocL) : docsE (a ++ b) = docsE a ++ docsE b := by
  induction a with
  | nil => rfl
  | cons d l ih => simp [docsE, ih]
def shortDoc (d : DocL) : Prop := d.1.length < 18446744073709551616 ∧ d.2.length < 18446744073709551616
theorem docsE_inj (a b : List DocL) (hl : a.length = b.length) (ha : ∀ d ∈ a, shortDoc d) (hb : ∀ d ∈ b, shortDoc d) (r s : Bytes) (h : docsE a ++ r = docsE b ++ s) : a = b ∧ r = s := by
  induction a generalizing b with
  | nil =>
    have : b = [] := List.eq_nil_of_length_eq_zero hl.symm
    subst this
    exact ⟨rfl, by simpa [docsE] using h⟩
  | cons d a ih =>
    cases b with
    | nil => simp at hl
    | cons e b =>
      obtain ⟨d1, d2⟩ := d
      obtain ⟨e1, e2⟩ := e
      have hd := ha (d1, d2) (by simp)
      have he := hb (e1, e2) (by simp)
      simp only [docsE, List.append_assoc] at h
      obtain ⟨f1, f2⟩ := IsText.one (s := textE d1 ++ (textE d2 ++ (docsE a ++ r))) ⟨hd.1, rfl⟩ ⟨he.1, h⟩
      obtain ⟨f3, f4⟩ := IsText.one (s := textE d2 ++ (docsE a ++ r)) ⟨hd.2, rfl⟩ ⟨he.2, f2⟩
      obtain ⟨f5, f6⟩ := ih b (by simpa using hl) (fun x hx => ha x (by simp [hx])) (fun x hx => hb x (by simp [hx])) f4
      simp only at f1 f3
      exact ⟨by rw [f1, f3, f5], f6⟩
/-- the bytes of a segment are those of one list of documents alone -/
theorem segBody_inj (a b : List DocL) (c d : Bytes) (ha : ∀ x ∈ a, shortDoc x) (hb : ∀ x ∈ b, shortDoc x) (la : a.length < 18446744073709551616) (lb : b.length < 18446744073709551616)
    (hc : c.length < 18446744073709551616) (hd : d.length < 18446744073709551616) (h : segBody a c = segBody b d) : a = b ∧ c = d := by
  unfold segBody at h
  have h1 := List.append_cancel_left h
  obtain ⟨h2, h3⟩ := varE_inj _ _ la lb _ _ h1
  obtain ⟨h4, h5⟩ := docsE_inj a b h2 ha hb _ _ h3
  obtain ⟨h6, _⟩ := IsText.one (s := textE c ++ []) (r := []) (v := []) ⟨hc, rfl⟩ ⟨hd, by rw [h5]⟩
  exact ⟨h4, h6⟩
theorem crcRaw_append (a b : Bytes) : crcRaw (a ++ b) = b.foldl crcByte (crcRaw a) := by simp [crcRaw]
theorem crc_take (a p : Bytes) (j : Nat) (h : j < p.length) : crcRaw (a ++ p.take (j + 1)) = crcTurns 8 (crcRaw (a ++ p.take j) ^^^ p[j].toNat) := by
  rw [List.take_succ_eq_append_getElem h, ← List.append_assoc, crcRaw_snoc]; rfl
theorem flat_take (ps : List Bytes) (k : Nat) (h : k < ps.length) : (ps.take (k + 1)).flatten = (ps.take k).flatten ++ ps[k] := by
  rw [List.take_succ_eq_append_getElem h, List.flatten_append]; simp
end Go.Proofs.YtcflpcpkmhljkaaGreatDoor
end
