/- Laws of walking that the kit lacks, over any program: appending one element that was built just now. -/
import Derived.WalkKit
import Derived.Lib.Hide
import Derived.Deep.QuietTactic
import Derived.BigQuiet
import Derived.Deep.Onto
import Derived.Deep.AppendLies
namespace Go.Proofs.Ytejcmdolhmojaaa
open Go.RowKit

theorem add_head (b j : Nat) : (⟨b, 0, none⟩ : Addr).add j = ⟨b, j, none⟩ := by unfold Addr.add; split <;> simp_all

theorem run_app {P : Program} (W : World) (t ty : TypeId) (base : Nat) (e e' : TypeId) (i : TypeInfo) (z : Value) (size bytes : Nat) (ht : P.underlying t = some (.slice e)) (hi : P.info? e = some i) (hz : i.zero = some z)
    (hsize : i.size = size) (hby : i.bytes = bytes) (hzs : z.cells.size = size) (hsz : 0 < size) (hbz : 0 < bytes)
    (v : Value) (n : Nat) (xs : List Value) (hown : W.ownsRow base e size v n xs)
    (news : Array Value) (hl : news.size = size) (h1 : ∀ u ∈ news.toList, u.oneCell' = true) (hb : (n + 1) * bytes ≤ 140737488355328) (hbase : base ≤ W.heap.size) :
    ∃ g cap w', (Builtin.append_ #[t, t] ty #[v, .slice (some ⟨W.heap.size, 0, none⟩) 1 1]).run P (W.alloc (.cells news e')) = .ok (.slice (some ⟨g, 0, none⟩) (n + 1) cap) w' ∧
      w'.ownsRow base e size (.slice (some ⟨g, 0, none⟩) (n + 1) cap) (n + 1) (xs ++ news.toList) ∧ W.grownBy w' v.ownBlock ∧ (v.ownBlock = some g ∨ W.heap.size < g) ∧ g < w'.heap.size ∧ W.heap.size < w'.heap.size := by
  have h63 : n + 1 ≤ maxLen := by
    have := Nat.le_mul_of_pos_right (n + 1) hbz
    simp only [maxLen]; omega
  obtain ⟨g, cap, w', hr, h2, h3, h4, h5⟩ := run_append_lies (P := P) (W.alloc (.cells news e')) t ty base e i z size bytes ht hi hz hsize hby hzs hsz v n xs (hown.alloc _) ⟨W.heap.size, 0, none⟩ 1 1 news.toList (by simpa using hl)
    (fun j u hj => by
      rw [add_head]
      simp only [World.cell?, heap_alloc_new]
      simpa using hj) h1 (by omega) h63 hb (by simp; omega) (W.heap.size + 1) (by simp)
  refine ⟨g, cap, w', hr, h2, ⟨h3.os.trans rfl, h3.tape.trans rfl, h3.output.trans rfl, by have := h3.size; simp at this; omega, fun k hk hne => ?_⟩, h4.imp id (fun h => by omega), h5, by have := h3.size; simp at this; omega⟩
  rw [h3.block k (by simp; omega) hne, Below.heap_alloc _ _ _ hk]

theorem wpList_app {P : Program} (W : World) {ops : Array Oper} {rest : List Oper} {o : Oper} {a : Act} {Q : Exit → Act → World → Prop} (hgd : o.guard = none) (s x : Operand) (t : TypeId)
    (ho : o.op = .call { callee := .builtin .append, args := #[s, x], argTypes := #[t, t] })
    (base : Nat) (e e' : TypeId) (i : TypeInfo) (z : Value) (size bytes : Nat) (ht : P.underlying t = some (.slice e)) (hi : P.info? e = some i) (hz : i.zero = some z)
    (hsize : i.size = size) (hby : i.bytes = bytes) (hzs : z.cells.size = size) (hsz : 0 < size) (hbz : 0 < bytes)
    (v : Value) (n : Nat) (xs : List Value) (hs : a.eval s = v) (hown : W.ownsRow base e size v n xs)
    (news : Array Value) (hx : a.eval x = .slice (some ⟨W.heap.size, 0, none⟩) 1 1) (hl : news.size = size) (h1 : ∀ u ∈ news.toList, u.oneCell' = true)
    (hb : (n + 1) * bytes ≤ 140737488355328) (hbase : base ≤ W.heap.size)
    (h : ∀ g cap w', w'.ownsRow base e size (.slice (some ⟨g, 0, none⟩) (n + 1) cap) (n + 1) (xs ++ news.toList) → W.grownBy w' v.ownBlock → (v.ownBlock = some g ∨ W.heap.size < g) → g < w'.heap.size → W.heap.size < w'.heap.size →
      wpList P ops Q rest (a.put o.dst (.slice (some ⟨g, 0, none⟩) (n + 1) cap)) w') : wpList P ops Q (o :: rest) a (W.alloc (.cells news e')) := by
  obtain ⟨g, cap, w', hr, h2, h3, h4, h5, h6⟩ := run_app (P := P) W t o.type base e e' i z size bytes ht hi hz hsize hby hzs hsz hbz v n xs hown news hl h1 hb hbase
  refine wpList_plain hgd fun _ hK => ?_
  unfold Oper.wp execOp
  simp only [ho, resolve, invoke, builtin, Sem.run_bind, Sem.run_pure, Result.andThen_ok, List.map_toArray, List.map_cons, List.map_nil, hs, hx, hr]
  exact hK _ _ (h g cap w' h2 h3 h4 h5 h6)

/-- what is below the base of an owned row is as it was -/
theorem grown_below {B base : Nat} {w0 W w' : World} {v : Value} {e : TypeId} {size n : Nat} {xs : List Value} (hb : Below B w0 W) (hown : W.ownsRow base e size v n xs) (hg : W.grownBy w' v.ownBlock) (hB : B ≤ base) (hW : B ≤ W.heap.size) : Below B w0 w' :=
  hb.grown hg hW (fun k hk => by have := (hown.lt k hk).1; omega)
theorem grown_cell {base : Nat} {W w' : World} {v : Value} {e : TypeId} {size n : Nat} {xs : List Value} (hown : W.ownsRow base e size v n xs) (hg : W.grownBy w' v.ownBlock) {p : Addr} {u : Value} (hp : p.block < base) (hc : W.cell? p = some u) : w'.cell? p = some u :=
  hg.cell hc (fun h => by have := (hown.lt p.block h.symm).1; omega)
theorem owns_value {w : World} {base : Nat} {e : TypeId} {size : Nat} {v : Value} {n : Nat} {xs : List Value} (h : w.ownsRow base e size v n xs) : ∃ a cap, v = .slice a n cap ∧ (0 < n → ∃ g, a = some ⟨g, 0, none⟩) := by
  rcases h.2 with ⟨rfl, rfl⟩ | ⟨g, cap, cur, rfl, _⟩
  · exact ⟨none, 0, rfl, fun h => by omega⟩
  · exact ⟨_, cap, rfl, fun _ => ⟨g, rfl⟩⟩
theorem ownsRow_below {w w' : World} {base : Nat} {e : TypeId} {size : Nat} {v : Value} {n : Nat} {xs : List Value} (h : w.ownsRow base e size v n xs) (hb : Below w.heap.size w w') : w'.ownsRow base e size v n xs :=
  h.kept (row := none) ⟨hb.os, hb.tape, hb.output, hb.size, fun k hk _ => hb.block k hk⟩ (by cases v.ownBlock <;> simp)
end Go.Proofs.Ytejcmdolhmojaaa
