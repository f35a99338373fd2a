/- Joined texts of one proof: what is needed of MapI, Cac, CacM, WBlkA, WBlkC, WCacA. -/
import Derived.Test.YtnmijegmbomfdaaGreatDoorJSto2
import Derived.MapKept
import Derived.Carry
import Derived.Maps.Own
import Derived.Maps.OwnOps
import Derived.Maps.OwnSet
import Derived.Maps.RangeRun
import Derived.Test.YtnmijegmbomfdaaGreatDoorJMem3
import Derived.Deep.RegionHeld3
set_option linter.unusedSimpArgs false
set_option linter.unusedVariables false
set_option linter.unnecessarySimpa false
set_option maxRecDepth 100000
set_option maxHeartbeats 16000000
namespace Go.Proofs.YtnmijegmbomfdaaGreatDoor
section
open Go.RowKit Go.MapKept
def putI {α : Type} (k : Nat) (v : α) : List (Nat × α) → List (Nat × α)
  | [] => [(k, v)]
  | x :: m => if x.1 = k then (k, v) :: m else x :: putI k v m
def getI {α : Type} (k : Nat) : List (Nat × α) → Option α
  | [] => none
  | x :: m => if x.1 = k then some x.2 else getI k m
def delI {α : Type} (k : Nat) : List (Nat × α) → List (Nat × α)
  | [] => []
  | x :: m => if x.1 = k then m else x :: delI k m
abbrev keyI (k : Nat) : Value := .int .i64 (k : Nat)
abbrev kvI (e : MapEntry) : Value × Value := (e.key, e.val)
abbrev kvN (x : Nat × Value) : Value × Value := (keyI x.1, x.2)
def MapI (w : World) (b : Nat) (m : List (Nat × Value)) : Prop :=
  ∃ es clock, w.heap[b]? = some (.map es clock) ∧ Stamped es clock ∧ es.toList.map kvI = m.map kvN
theorem MapI.lt {w : World} {b : Nat} {m : List (Nat × Value)} (h : MapI w b m) : b < w.heap.size := by
  obtain ⟨es, clock, hb, _⟩ := h
  exact (Array.getElem?_eq_some_iff.1 hb).1
theorem MapI.same {w w' : World} {b : Nat} {m : List (Nat × Value)} (h : MapI w b m) (hb : w'.heap[b]? = w.heap[b]?) : MapI w' b m := by
  obtain ⟨es, clock, h1, h2, h3⟩ := h
  exact ⟨es, clock, hb.trans h1, h2, h3⟩
theorem MapI.made (w : World) : MapI (w.alloc (.map #[] 0)) w.heap.size [] := ⟨#[], 0, (MapKept.heap_alloc w _).1, stamped_empty 0, rfl⟩
theorem keyI_inj {a b : Nat} (h : keyI a = keyI b) : a = b := by
  injection h with _ h; omega
theorem sameNow_int (a b : Nat) : Instr.sameNow (.int .i64) (keyI a) (keyI b) = some (decide (a = b)) := by
  by_cases h : a = b
  · subst h; simp [Instr.sameNow]
  · have : ¬ ((a : Int) = b) := by omega
    simp [Instr.sameNow, this, h]
theorem MapI.nodup {w : World} {b : Nat} {m : List (Nat × Value)} (h : MapI w b m) : (m.map (·.1)).Nodup := by
  obtain ⟨es, clock, _, ⟨_, _, h3⟩, h4⟩ := h
  have e : es.toList.map (·.key) = m.map fun x => keyI x.1 := by
    have := congrArg (List.map Prod.fst) h4
    simpa [List.map_map, Function.comp_def] using this
  rw [e] at h3
  have : (m.map fun x => keyI x.1) = (m.map (·.1)).map keyI := by simp [List.map_map, Function.comp_def]
  rw [this] at h3
  exact (List.pairwise_map.1 h3).imp (fun hne e => hne (congrArg keyI e))
theorem findI (k : Nat) : ∀ (m : List (Nat × Value)) (l : List MapEntry) (i : Nat), l.map kvI = m.map kvN →
    (getI k m = none ∧ Instr.findNow (.int .i64) (keyI k) l i = some none ∧ (∀ e ∈ l, e.key ≠ keyI k) ∧ (∀ v, putI k v m = m ++ [(k, v)]) ∧ delI k m = m) ∨
    ∃ j e v, l[j]? = some e ∧ e.key = keyI k ∧ e.val = v ∧ m[j]? = some (k, v) ∧ getI k m = some v ∧ Instr.findNow (.int .i64) (keyI k) l i = some (some (i + j, v)) ∧ (∀ v', putI k v' m = m.set j (k, v')) ∧ delI k m = m.eraseIdx j
  | [], l, i, h => by
    have : l = [] := by simpa using h
    subst this
    exact Or.inl ⟨rfl, rfl, by simp, fun _ => rfl, rfl⟩
  | x :: m, l, i, h => by
    cases l with
    | nil => simp at h
    | cons e l =>
      simp only [List.map_cons, List.cons.injEq] at h
      obtain ⟨h1, h2⟩ := h
      have hk : e.key = keyI x.1 := congrArg Prod.fst h1
      have hv : e.val = x.2 := congrArg Prod.snd h1
      by_cases hx : x.1 = k
      · refine Or.inr ⟨0, e, x.2, rfl, by rw [hk, hx], hv, by rw [← hx]; rfl, by simp [getI, hx], ?_, fun v' => by simp [putI, hx], by simp [delI, hx]⟩
        have hs := sameNow_int k k
        rw [decide_eq_true rfl] at hs
        simp [Instr.findNow, hk, hx, hv, hs]
      · have hs : Instr.findNow (.int .i64) (keyI k) (e :: l) i = Instr.findNow (.int .i64) (keyI k) l (i + 1) := by
          have := sameNow_int k x.1
          simp [Instr.findNow, hk, this, Ne.symm hx]
        rcases findI k m l (i + 1) h2 with ⟨a, b, c, d, dd⟩ | ⟨j, e', v, a, b, c, d, f, g, p, dd⟩
        · refine Or.inl ⟨by simp [getI, hx, a], by rw [hs, b], ?_, fun v => by simp [putI, hx, d], by simp [delI, hx, dd]⟩
          intro e' he'
          rcases List.mem_cons.1 he' with rfl | he'
          · rw [hk]
            intro hh
            exact hx (keyI_inj hh)
          · exact c e' he'
        · exact Or.inr ⟨j + 1, e', v, by simpa using a, b, c, by simpa using d, by simp [getI, hx, f], by rw [hs, g]; simp; omega, fun v' => by simp [putI, hx, p], by simp [delI, hx, dd]⟩
theorem run_lookup_int {P : Program} {w : World} {b : Nat} {m : List (Nat × Value)} (h : MapI w b m) (t kt et : TypeId) (hm : P.underlying t = some (.map kt et)) (hd : P.underlying kt = some (.int .i64)) (z : Value) (hz : (zeroValue et).run P w = .ok z w) (k : Nat) (ok : Bool) :
    (Instr.lookup t (.map (some b)) (keyI k) ok).run P w = .ok (if ok then .tuple #[(getI k m).getD z, .bool (getI k m).isSome] else (getI k m).getD z) w := by
  obtain ⟨es, clock, hb, hs, hk⟩ := h
  have hkk : IsKey (.int .i64) (keyI k) := rfl
  rcases findI k m es.toList 0 hk with ⟨a, f, _, _⟩ | ⟨j, e, v, _, _, _, _, a, f, _⟩
  · simp [Instr.lookup, run_underlying hm, MapKept.run_getObj_map hb, run_checkKey hd hkk, run_findKey hd f, hz, Result.andThen, a]
  · simp [Instr.lookup, run_underlying hm, MapKept.run_getObj_map hb, run_checkKey hd hkk, run_findKey hd f, Result.andThen, a]
theorem run_update_int {P : Program} {w : World} {b : Nat} {m : List (Nat × Value)} (h : MapI w b m) (t kt et : TypeId) (hm : P.underlying t = some (.map kt et)) (hd : P.underlying kt = some (.int .i64)) (k : Nat) (v : Value) :
    ∃ w', (Instr.mapUpdate t (.map (some b)) (keyI k) v).run P w = .ok () w' ∧ MapI w' b (putI k v m) ∧ w.grownBy w' (some b) ∧ w'.heap.size = w.heap.size := by
  obtain ⟨es, clock, hb, hs, hk⟩ := h
  have hkk : IsKey (.int .i64) (keyI k) := rfl
  rcases findI k m es.toList 0 hk with ⟨a, f, g, p, _⟩ | ⟨j, e, u, hj, he, hv, hmj, a, f, p, _⟩
  · refine ⟨{ w with heap := w.heap.setIfInBounds b (.map (es.push { key := keyI k, val := v, born := clock }) (clock + 1)) }, ?_, ⟨_, _, (heap_set hb).1, stamped_push hs g, ?_⟩, ⟨rfl, rfl, rfl, by simp, fun i _ hi => (heap_set hb).2 i (fun e => hi (by rw [e]))⟩, by simp⟩
    · simp [Instr.mapUpdate, run_underlying hm, MapKept.run_getObj_map hb, run_checkKey hd hkk, run_findKey hd f, run_setObj_map _ hb, Result.andThen]
    · rw [p]; simp [hk]
  · have hj' : es[j]? = some e := by simpa using hj
    refine ⟨{ w with heap := w.heap.setIfInBounds b (.map (es.modify j fun e => { e with key := keyI k, val := v }) clock) }, ?_, ⟨_, _, (heap_set hb).1, stamped_modify hs _ _ (fun _ _ => rfl) (fun e' _ he' => by rw [hj'] at he'; cases he'; exact he.symm), ?_⟩, ⟨rfl, rfl, rfl, by simp, fun i _ hi => (heap_set hb).2 i (fun e => hi (by rw [e]))⟩, by simp⟩
    · simp [Instr.mapUpdate, run_underlying hm, MapKept.run_getObj_map hb, run_checkKey hd hkk, run_findKey hd f, hj', he, run_keyThatStays hkk, run_setObj_map _ hb, Result.andThen]
    · rw [p]
      apply List.ext_getElem?
      intro i
      have hi := congrArg (fun l => l[i]?) hk
      simp only [List.getElem?_map] at hi
      simp only [List.getElem?_map, Array.getElem?_toList, Array.getElem?_modify, List.getElem?_set]
      by_cases hij : j = i
      · subst hij
        have hlt : j < m.length := (List.getElem?_eq_some_iff.1 hmj).1
        simp [hj', hlt]
      · simp [hij]; simpa using hi
theorem map_eraseIdx' {α β : Type} (f : α → β) : ∀ (l : List α) (j : Nat), (l.eraseIdx j).map f = (l.map f).eraseIdx j
  | [], j => rfl
  | x :: l, 0 => rfl
  | x :: l, j + 1 => by simp [map_eraseIdx' f l j]
theorem run_delete_int {P : Program} {w : World} {b : Nat} {m : List (Nat × Value)} (h : MapI w b m) (t kt et : TypeId) (hm : P.underlying t = some (.map kt et)) (hd : P.underlying kt = some (.int .i64)) (k : Nat) :
    ∃ w', (∀ ty, (Builtin.delete_ #[t, kt] ty #[.map (some b), keyI k]).run P w = .ok (.tuple #[]) w') ∧ MapI w' b (delI k m) ∧ w.grownBy w' (some b) ∧ w'.heap.size = w.heap.size := by
  obtain ⟨es, clock, hb, hs, hk⟩ := h
  have hkk : IsKey (.int .i64) (keyI k) := rfl
  rcases findI k m es.toList 0 hk with ⟨a, f, g, _, p⟩ | ⟨j, e, u, hj, he, hv, hmj, a, f, _, p⟩
  · refine ⟨{ w with heap := w.heap.setIfInBounds b (.map es clock) }, ?_, ⟨_, _, (heap_set hb).1, hs, by rw [p]; exact hk⟩, ⟨rfl, rfl, rfl, by simp, fun i _ hi => (heap_set hb).2 i (fun e => hi (by rw [e]))⟩, by simp⟩
    intro ty; simp [Builtin.delete_, run_underlying hm, MapKept.run_getObj_map hb, run_checkKey hd hkk, run_findKey hd f, run_setObj_map _ hb, Result.andThen]
  · refine ⟨{ w with heap := w.heap.setIfInBounds b (.map (es.eraseIdxIfInBounds j) clock) }, ?_, ⟨_, _, (heap_set hb).1, stamped_erase hs j, ?_⟩, ⟨rfl, rfl, rfl, by simp, fun i _ hi => (heap_set hb).2 i (fun e => hi (by rw [e]))⟩, by simp⟩
    · intro ty; simp [Builtin.delete_, run_underlying hm, MapKept.run_getObj_map hb, run_checkKey hd hkk, run_findKey hd f, run_setObj_map _ hb, Result.andThen]
    · have hlt : j < es.size := by
        have := (List.getElem?_eq_some_iff.1 hj).1
        simpa using this
      rw [p, map_eraseIdx', ← hk, ← map_eraseIdx']
      congr 1
      unfold Array.eraseIdxIfInBounds
      rw [dif_pos hlt]
      simp
theorem run_clear_int {P : Program} {w : World} {b : Nat} {m : List (Nat × Value)} (h : MapI w b m) (t kt et ty : TypeId) (hm : P.underlying t = some (.map kt et)) :
    ∃ w', (Builtin.clear_ #[t] ty #[.map (some b)]).run P w = .ok (.tuple #[]) w' ∧ MapI w' b [] ∧ w.grownBy w' (some b) ∧ w'.heap.size = w.heap.size := by
  obtain ⟨es, clock, hb, hs, hk⟩ := h
  refine ⟨{ w with heap := w.heap.setIfInBounds b (.map #[] clock) }, ?_, ⟨_, _, (heap_set hb).1, stamped_empty _, rfl⟩, ⟨rfl, rfl, rfl, by simp, fun i _ hi => (heap_set hb).2 i (fun e => hi (by rw [e]))⟩, by simp⟩
  simp [Builtin.clear_, run_underlying hm, MapKept.run_getObj_map hb, run_setObj_map _ hb, Result.andThen]
section
variable {P : Program} (w : World) {ops : Array Oper} {rest : List Oper} {o : Oper} {a : Act} {Q : Exit → Act → World → Prop}
theorem wpList_update_int (hg : o.guard = none) (mo x vo : Operand) (t : TypeId) (hop : o.op = Op.mapUpdate t mo x vo)
    (kt et : TypeId) (hm : P.underlying t = some (.map kt et)) (hd : P.underlying kt = some (.int .i64)) (b : Nat) (m : List (Nat × Value)) (h : MapI w b m) (k : Nat) (v : Value) (hmo : a.eval mo = .map (some b)) (hx : a.eval x = keyI k) (hv : a.eval vo = v)
    (hK : ∀ w', MapI w' b (putI k v m) → w.grownBy w' (some b) → w'.heap.size = w.heap.size → wpList P ops Q rest (a.put o.dst undef) w') : wpList P ops Q (o :: rest) a w := by
  refine wpList_plain hg fun K' hK' => ?_
  obtain ⟨w', hrun, r1, r2, r3⟩ := run_update_int h t kt et hm hd k v
  unfold Oper.wp
  simp [execOp, hop, hmo, hx, hv, hrun, Result.andThen]
  exact hK' _ _ (hK w' r1 r2 r3)
theorem wpList_lookup_int (hg : o.guard = none) (mo x : Operand) (t : TypeId) (ok : Bool) (hop : o.op = Op.lookup t mo x ok)
    (kt et : TypeId) (hm : P.underlying t = some (.map kt et)) (hd : P.underlying kt = some (.int .i64)) (z : Value) (hz : (zeroValue et).run P w = .ok z w) (b : Nat) (m : List (Nat × Value)) (h : MapI w b m) (k : Nat) (hmo : a.eval mo = .map (some b)) (hx : a.eval x = keyI k)
    (hK : wpList P ops Q rest (a.put o.dst (if ok then .tuple #[(getI k m).getD z, .bool (getI k m).isSome] else (getI k m).getD z)) w) : wpList P ops Q (o :: rest) a w := by
  refine wpList_plain hg fun K' hK' => ?_
  have hrun := run_lookup_int h t kt et hm hd z hz k ok
  unfold Oper.wp
  simp [execOp, hop, hmo, hx, hrun, Result.andThen]
  exact hK' _ _ hK
theorem run_len_int {P : Program} {w : World} {b : Nat} {m : List (Nat × Value)} (h : MapI w b m) (t kt et r : TypeId) (hm : P.underlying t = some (.map kt et)) :
    (Builtin.len_ #[t] r #[.map (some b)]).run P w = .ok (.int .i64 m.length) w := by
  obtain ⟨es, clock, hb, hs, hk⟩ := h
  have : es.size = m.length := by have := congrArg List.length hk; simpa using this
  simp [Builtin.len_, run_underlying hm, MapKept.run_getObj_map hb, goInt, Result.andThen, this]
end
theorem getI_putI {α : Type} (k l : Nat) (v : α) (m : List (Nat × α)) : getI l (putI k v m) = if k = l then some v else getI l m := by
  induction m with
  | nil => simp [putI, getI]
  | cons x m ih =>
    by_cases hx : x.1 = k
    · by_cases hl : k = l <;> simp [putI, getI, hx, hl]
    · by_cases hl : k = l
      · subst hl; simp [putI, getI, hx, ih]
      · simp [putI, getI, hx, ih, hl]
theorem getI_mem {α : Type} {k : Nat} {v : α} {m : List (Nat × α)} (h : getI k m = some v) : (k, v) ∈ m := by
  induction m with
  | nil => simp [getI] at h
  | cons x m ih =>
    unfold getI at h
    split at h
    · rename_i hx
      injection h with h
      subst hx h
      exact List.mem_cons_self ..
    · exact List.mem_cons_of_mem _ (ih h)
theorem getI_of_mem {α : Type} {k : Nat} {v : α} {m : List (Nat × α)} (hn : (m.map (·.1)).Nodup) (h : (k, v) ∈ m) : getI k m = some v := by
  induction m with
  | nil => simp at h
  | cons x m ih =>
    simp only [List.map_cons, List.nodup_cons] at hn
    unfold getI
    rcases List.mem_cons.1 h with h | h
    · subst h; simp
    · rw [if_neg]
      · exact ih hn.2 h
      · intro e
        exact hn.1 (List.mem_map.2 ⟨(k, v), h, e.symm⟩)
theorem getI_none {α : Type} {k : Nat} {m : List (Nat × α)} : getI k m = none ↔ ∀ x ∈ m, x.1 ≠ k := by
  induction m with
  | nil => simp [getI]
  | cons x m ih =>
    unfold getI
    by_cases hx : x.1 = k
    · simp [hx]
    · simp [hx, ih]
theorem delI_eq {α : Type} (k : Nat) (m : List (Nat × α)) (hn : (m.map (·.1)).Nodup) : delI k m = m.filter fun x => x.1 != k := by
  induction m with
  | nil => rfl
  | cons x m ih =>
    simp only [List.map_cons, List.nodup_cons] at hn
    unfold delI
    by_cases hx : x.1 = k
    · rw [if_pos hx, List.filter_cons_of_neg (by simp [hx])]
      symm
      refine List.filter_eq_self.2 (fun y hy => ?_)
      have : y.1 ≠ k := fun e => hn.1 (List.mem_map.2 ⟨y, hy, by rw [e, hx]⟩)
      simpa using this
    · rw [if_neg hx, ih hn.2, List.filter_cons_of_pos (by simpa using hx)]
theorem putI_length {α : Type} (k : Nat) (v : α) (m : List (Nat × α)) : (putI k v m).length = if (getI k m).isSome then m.length else m.length + 1 := by
  induction m with
  | nil => rfl
  | cons x m ih =>
    unfold putI getI
    by_cases hx : x.1 = k
    · simp [hx]
    · simp only [hx, if_false, List.length_cons, ih]
      split <;> rfl
theorem putI_map {α β : Type} (f : α → β) (k : Nat) (v : α) (m : List (Nat × α)) : (putI k v m).map (fun x => (x.1, f x.2)) = putI k (f v) (m.map fun x => (x.1, f x.2)) := by
  induction m with
  | nil => rfl
  | cons x m ih =>
    unfold putI
    by_cases hx : x.1 = k
    · simp [hx]
    · simp [hx, ih]
theorem getI_map {α β : Type} (f : α → β) (k : Nat) (m : List (Nat × α)) : getI k (m.map fun x => (x.1, f x.2)) = (getI k m).map f := by
  induction m with
  | nil => rfl
  | cons x m ih =>
    simp only [List.map_cons, getI]
    by_cases hx : x.1 = k
    · simp [hx]
    · simp [hx, ih]
theorem delI_map {α β : Type} (f : α → β) (k : Nat) (m : List (Nat × α)) : (delI k m).map (fun x => (x.1, f x.2)) = delI k (m.map fun x => (x.1, f x.2)) := by
  induction m with
  | nil => rfl
  | cons x m ih =>
    unfold delI
    by_cases hx : x.1 = k
    · simp [hx]
    · simp [hx, ih]
theorem putI_keys {α : Type} (k : Nat) (v : α) (m : List (Nat × α)) : ∀ y, y ∈ (putI k v m).map (·.1) ↔ y = k ∨ y ∈ m.map (·.1) := by
  induction m with
  | nil => simp [putI]
  | cons x m ih =>
    intro y
    unfold putI
    by_cases hx : x.1 = k
    · simp [hx]
    · simp only [hx, if_false, List.map_cons, List.mem_cons, ih]
      grind
end
section
structure KeptL where
  p : Nat
  data : Bytes
  dirty : Bool
  used : Nat
abbrev KeptLs := List (Nat × KeptL)
structure CacOk (n most clock : Nat) (tx : List WrL) (g : Nat → Bytes) (m : KeptLs) : Prop where
  keys : (m.map (·.1)).Nodup
  ptrs : (m.map (·.2.p)).Nodup
  cap : 64 ≤ most ∧ most ≤ 1024
  len : m.length ≤ most
  data : ∀ x ∈ m, x.2.data = lastP tx x.1 (g x.1)
  dirty : ∀ x ∈ m, x.2.dirty = true ↔ ∃ w ∈ tx, w.1 = x.1
  all : ∀ w ∈ tx, ∃ x ∈ m, x.1 = w.1
  used : ∀ x ∈ m, x.2.used ≤ clock
  range : ∀ x ∈ m, 63 ≤ x.1 ∧ x.1 < n
  rise : Rise tx
  short : tx.length ≤ 48
theorem putI_mem {α : Type} {k : Nat} {v : α} {m : List (Nat × α)} {x : Nat × α} (h : x ∈ putI k v m) : x = (k, v) ∨ (x ∈ m ∧ (x.1 ≠ k ∨ getI k m = none ∨ True)) := by
  induction m with
  | nil => left; simpa [putI] using h
  | cons y m ih =>
    unfold putI at h
    split at h
    · rcases List.mem_cons.1 h with h | h
      · exact .inl h
      · exact .inr ⟨List.mem_cons_of_mem _ h, .inr (.inr trivial)⟩
    · rcases List.mem_cons.1 h with h | h
      · subst h; exact .inr ⟨List.mem_cons_self .., .inr (.inr trivial)⟩
      · rcases ih h with h | ⟨h, _⟩
        · exact .inl h
        · exact .inr ⟨List.mem_cons_of_mem _ h, .inr (.inr trivial)⟩
theorem putI_mem' {α : Type} {k : Nat} {v : α} {m : List (Nat × α)} (hn : (m.map (·.1)).Nodup) {x : Nat × α} : x ∈ putI k v m ↔ x = (k, v) ∨ (x ∈ m ∧ x.1 ≠ k) := by
  induction m with
  | nil => simp [putI]
  | cons y m ih =>
    simp only [List.map_cons, List.nodup_cons] at hn
    unfold putI
    by_cases hy : y.1 = k
    · rw [if_pos hy]
      constructor
      · intro h
        rcases List.mem_cons.1 h with h | h
        · exact .inl h
        · refine .inr ⟨List.mem_cons_of_mem _ h, fun e => hn.1 ?_⟩
          exact List.mem_map.2 ⟨x, h, by rw [e, hy]⟩
      · rintro (h | ⟨h, h2⟩)
        · exact List.mem_cons.2 (.inl h)
        · rcases List.mem_cons.1 h with h | h
          · subst h; exact absurd hy h2
          · exact List.mem_cons_of_mem _ h
    · rw [if_neg hy]
      constructor
      · intro h
        rcases List.mem_cons.1 h with h | h
        · subst h; exact .inr ⟨List.mem_cons_self .., hy⟩
        · rcases (ih hn.2).1 h with h | ⟨h, h2⟩
          · exact .inl h
          · exact .inr ⟨List.mem_cons_of_mem _ h, h2⟩
      · rintro (h | ⟨h, h2⟩)
        · exact List.mem_cons_of_mem _ ((ih hn.2).2 (.inl h))
        · rcases List.mem_cons.1 h with h | h
          · subst h; exact List.mem_cons_self ..
          · exact List.mem_cons_of_mem _ ((ih hn.2).2 (.inr ⟨h, h2⟩))
theorem putI_nodup {α : Type} (k : Nat) (v : α) (m : List (Nat × α)) (h : (m.map (·.1)).Nodup) : ((putI k v m).map (·.1)).Nodup := by
  induction m with
  | nil => simp [putI]
  | cons y m ih =>
    simp only [List.map_cons, List.nodup_cons] at h
    unfold putI
    by_cases hy : y.1 = k
    · rw [if_pos hy]
      simp only [List.map_cons, List.nodup_cons]
      exact ⟨by rw [← hy]; exact h.1, h.2⟩
    · rw [if_neg hy]
      simp only [List.map_cons, List.nodup_cons]
      refine ⟨fun hc => ?_, ih h.2⟩
      rcases (putI_keys k v m y.1).1 hc with hc | hc
      · exact hy hc
      · exact h.1 hc
theorem putI_ptrs {k : Nat} {v u : KeptL} {m : KeptLs} (hk : (m.map (·.1)).Nodup) (h : (m.map (·.2.p)).Nodup) (hg : getI k m = some u) (hp : v.p = u.p) : ((putI k v m).map (·.2.p)) = m.map (·.2.p) := by
  induction m with
  | nil => simp [getI] at hg
  | cons y m ih =>
    simp only [List.map_cons, List.nodup_cons] at hk h
    unfold putI
    unfold getI at hg
    by_cases hy : y.1 = k
    · rw [if_pos hy] at hg ⊢
      injection hg with hg
      subst hg
      simp [hp]
    · rw [if_neg hy] at hg ⊢
      simp only [List.map_cons, ih hk.2 h.2 hg]
theorem putI_none {α : Type} {k : Nat} {v : α} {m : List (Nat × α)} (hg : getI k m = none) : putI k v m = m ++ [(k, v)] := by
  induction m with
  | nil => rfl
  | cons y m ih =>
    unfold getI at hg
    unfold putI
    by_cases hy : y.1 = k
    · rw [if_pos hy] at hg; cases hg
    · rw [if_neg hy] at hg ⊢
      rw [ih hg]; rfl
theorem lastP_with (tx : List WrL) (h : Rise tx) (i : Nat) (s t : Bytes) (hw : (i, t) ∈ tx) : lastP tx i s = t := by
  refine lastP_only tx (i, t) s hw (fun x hx hxi => ?_)
  have hp := h
  clear h
  induction tx with
  | nil => simp at hw
  | cons y l ih =>
    have hp' := List.pairwise_cons.1 hp
    rcases List.mem_cons.1 hx with ex | hx <;> rcases List.mem_cons.1 hw with ew | hw
    · rw [ex, ← ew]
    · have := hp'.1 _ hw; rw [← ex] at this; simp only at this hxi; omega
    · have := hp'.1 _ hx; rw [← ew] at this; simp only at this hxi; omega
    · exact ih hw hx hp'.2
namespace CacOk
variable {n most clock : Nat} {tx : List WrL} {g : Nat → Bytes} {m : KeptLs}
theorem hit (h : CacOk n most clock tx g m) {i : Nat} {k : KeptL} (hg : getI i m = some k) : k.data = lastP tx i (g i) := h.data _ (getI_mem hg)
theorem miss (h : CacOk n most clock tx g m) {i : Nat} (hg : getI i m = none) : ∀ w ∈ tx, w.1 ≠ i := fun w hw e => by
  obtain ⟨x, hx, he⟩ := h.all w hw
  exact getI_none.1 hg x hx (by rw [he, e])
theorem use (h : CacOk n most clock tx g m) {i : Nat} {k : KeptL} (hg : getI i m = some k) : CacOk n most (clock + 1) tx g (putI i { k with used := clock + 1 } m) := by
  have hm := getI_mem hg
  have hmem := fun x => putI_mem' (k := i) (v := { k with used := clock + 1 }) h.keys (x := x)
  have hpt := putI_ptrs (v := ({ k with used := clock + 1 } : KeptL)) h.keys h.ptrs hg rfl
  refine ⟨putI_nodup _ _ _ h.keys, by rw [hpt]; exact h.ptrs, h.cap, by rw [putI_length, hg]; exact h.len, ?_, ?_, ?_, ?_, ?_, h.rise, h.short⟩
  · intro x hx
    rcases (hmem x).1 hx with rfl | ⟨hx, _⟩
    · exact h.data (i, k) hm
    · exact h.data x hx
  · intro x hx
    rcases (hmem x).1 hx with rfl | ⟨hx, _⟩
    · exact h.dirty (i, k) hm
    · exact h.dirty x hx
  · intro w hw
    obtain ⟨x, hx, he⟩ := h.all w hw
    by_cases hxi : x.1 = i
    · exact ⟨_, (hmem _).2 (.inl rfl), by rw [← he, hxi]⟩
    · exact ⟨x, (hmem x).2 (.inr ⟨hx, hxi⟩), he⟩
  · intro x hx
    rcases (hmem x).1 hx with rfl | ⟨hx, _⟩
    · exact Nat.le_refl _
    · exact Nat.le_succ_of_le (h.used x hx)
  · intro x hx
    rcases (hmem x).1 hx with rfl | ⟨hx, _⟩
    · exact h.range (i, k) hm
    · exact h.range x hx
theorem drop (h : CacOk n most clock tx g m) {i : Nat} {k : KeptL} (hg : getI i m = some k) (hd : k.dirty = false) : CacOk n most clock tx g (delI i m) ∧ (delI i m).length + 1 = m.length := by
  have hm := getI_mem hg
  have e := delI_eq i m h.keys
  have hsub : (delI i m).Sublist m := by rw [e]; exact List.filter_sublist
  have hmem : ∀ x, x ∈ delI i m ↔ x ∈ m ∧ x.1 ≠ i := fun x => by rw [e]; simp
  have hno : ¬ ∃ w ∈ tx, w.1 = i := fun hc => by
    have := (h.dirty _ hm).2 hc
    simp only [hd] at this; exact absurd this (by decide)
  have hlen : (delI i m).length + 1 = m.length := by
    clear hsub hmem hno e
    have hk := h.keys
    clear h hm
    induction m with
    | nil => simp [getI] at hg
    | cons y m ih =>
      unfold getI at hg
      unfold delI
      by_cases hy : y.1 = i
      · rw [if_pos hy]; rfl
      · rw [if_neg hy] at hg ⊢
        rw [List.length_cons, List.length_cons, ih hg (List.nodup_cons.1 hk).2]
  refine ⟨⟨(hsub.map _).nodup h.keys, (hsub.map _).nodup h.ptrs, h.cap, by have := h.len; omega, fun x hx => h.data x ((hmem x).1 hx).1, fun x hx => h.dirty x ((hmem x).1 hx).1, fun w hw => ?_, fun x hx => h.used x ((hmem x).1 hx).1, fun x hx => h.range x ((hmem x).1 hx).1, h.rise, h.short⟩, hlen⟩
  obtain ⟨x, hx, he⟩ := h.all w hw
  exact ⟨x, (hmem x).2 ⟨hx, fun hc => hno ⟨w, hw, by rw [← he, hc]⟩⟩, he⟩
theorem clean_one (h : CacOk n most clock tx g m) (hl : most ≤ m.length) : ∃ x ∈ m, x.2.dirty = false := by
  refine Decidable.byContradiction (fun hc => ?_)
  have hall : ∀ x ∈ m, x.2.dirty = true := fun x hx => by
    cases hd : x.2.dirty with
    | true => rfl
    | false => exact absurd ⟨x, hx, hd⟩ hc
  have hsub : m.map (·.1) ⊆ tx.map (·.1) := fun i hi => by
    obtain ⟨x, hx, rfl⟩ := List.mem_map.1 hi
    obtain ⟨w, hw, he⟩ := (h.dirty x hx).1 (hall x hx)
    exact List.mem_map.2 ⟨w, hw, he⟩
  have := List.Nodup.length_le_of_subset h.keys hsub
  simp only [List.length_map] at this
  have := h.short; have := h.cap.1
  omega
theorem lay (h : CacOk n most clock tx g m) {i : Nat} (hg : getI i m = none) (hl : m.length < most) (hi : 63 ≤ i ∧ i < n) (k : KeptL) (hp : ∀ x ∈ m, x.2.p ≠ k.p) (hd : k.data = g i) (hc : k.dirty = false) (hu : k.used ≤ clock) : CacOk n most clock tx g (putI i k m) := by
  have hmiss := h.miss hg
  rw [putI_none hg]
  have hnot := getI_none.1 hg
  refine ⟨?_, ?_, h.cap, by simp; omega, ?_, ?_, ?_, ?_, ?_, h.rise, h.short⟩
  · rw [List.map_append]
    refine List.nodup_append.2 ⟨h.keys, by simp, fun a ha b hb => ?_⟩
    obtain ⟨x, hx, rfl⟩ := List.mem_map.1 ha
    simp only [List.map_cons, List.map_nil, List.mem_singleton] at hb
    subst hb; exact hnot x hx
  · rw [List.map_append]
    refine List.nodup_append.2 ⟨h.ptrs, by simp, fun a ha b hb => ?_⟩
    obtain ⟨x, hx, rfl⟩ := List.mem_map.1 ha
    simp only [List.map_cons, List.map_nil, List.mem_singleton] at hb
    subst hb; exact hp x hx
  · intro x hx
    rcases List.mem_append.1 hx with hx | hx
    · exact h.data x hx
    · rw [List.mem_singleton] at hx; subst hx
      simp only [hd]
      rw [lastP_none _ _ _ hmiss]
  · intro x hx
    rcases List.mem_append.1 hx with hx | hx
    · exact h.dirty x hx
    · rw [List.mem_singleton] at hx; subst hx
      simp only [hc]
      exact ⟨fun e => absurd e (by decide), fun ⟨w, hw, e⟩ => absurd e (hmiss w hw)⟩
  · intro w hw
    obtain ⟨x, hx, he⟩ := h.all w hw
    exact ⟨x, List.mem_append_left _ hx, he⟩
  · intro x hx
    rcases List.mem_append.1 hx with hx | hx
    · exact h.used x hx
    · rw [List.mem_singleton] at hx; subst hx; exact hu
  · intro x hx
    rcases List.mem_append.1 hx with hx | hx
    · exact h.range x hx
    · rw [List.mem_singleton] at hx; subst hx; exact hi
theorem with_mem' (l : List WrL) (h : Rise l) (w x : WrL) : x ∈ withL l w ↔ x = w ∨ (x ∈ l ∧ x.1 ≠ w.1) := by
  induction l with
  | nil => simp [withL]
  | cons y l ih =>
    have hp := List.pairwise_cons.1 h
    unfold withL
    split
    · rename_i hlt
      rw [List.mem_cons, ih hp.2, List.mem_cons]
      constructor
      · rintro (rfl | h | h)
        · exact .inr ⟨.inl rfl, by omega⟩
        · exact .inl h
        · exact .inr ⟨.inr h.1, h.2⟩
      · rintro (h | ⟨h | h, h2⟩)
        · exact .inr (.inl h)
        · exact .inl h
        · exact .inr (.inr ⟨h, h2⟩)
    · split
      · rename_i hn he
        rw [List.mem_cons, List.mem_cons]
        constructor
        · rintro (h | h)
          · exact .inl h
          · exact .inr ⟨.inr h, by have := hp.1 _ h; omega⟩
        · rintro (h | ⟨h | h, h2⟩)
          · exact .inl h
          · subst h; exact absurd he h2
          · exact .inr h
      · rename_i hn he
        rw [List.mem_cons, List.mem_cons]
        constructor
        · rintro (h | h | h)
          · exact .inl h
          · subst h; exact .inr ⟨.inl rfl, by omega⟩
          · exact .inr ⟨.inr h, by have := hp.1 _ h; omega⟩
        · rintro (h | ⟨h, _⟩)
          · exact .inl h
          · exact .inr h
theorem putOld (h : CacOk n most clock tx g m) {i : Nat} {k : KeptL} (hg : getI i m = some k) (s : Bytes) (hs : (withL tx (i, s)).length ≤ 48) : CacOk n most (clock + 1) (withL tx (i, s)) g (putI i ⟨k.p, s, true, clock + 1⟩ m) := by
  have hm := getI_mem hg
  have hmem := fun x => putI_mem' (k := i) (v := ⟨k.p, s, true, clock + 1⟩) h.keys (x := x)
  have hpt := putI_ptrs (v := (⟨k.p, s, true, clock + 1⟩ : KeptL)) h.keys h.ptrs hg rfl
  have htx := with_mem' tx h.rise (i, s)
  have hl := fun j t => with_lastP tx (i, s) h.rise j t
  refine ⟨putI_nodup _ _ _ h.keys, by rw [hpt]; exact h.ptrs, h.cap, by rw [putI_length, hg]; exact h.len, ?_, ?_, ?_, ?_, ?_, with_rise _ _ h.rise, hs⟩
  · intro x hx
    rw [hl]
    rcases (hmem x).1 hx with rfl | ⟨hx, hne⟩
    · rw [if_pos rfl]
    · rw [if_neg (fun e => hne e.symm)]; exact h.data x hx
  · intro x hx
    rcases (hmem x).1 hx with rfl | ⟨hx, hne⟩
    · exact ⟨fun _ => ⟨(i, s), (htx _).2 (.inl rfl), rfl⟩, fun _ => rfl⟩
    · rw [h.dirty x hx]
      constructor
      · rintro ⟨w, hw, he⟩; exact ⟨w, (htx w).2 (.inr ⟨hw, by rw [he]; exact hne⟩), he⟩
      · rintro ⟨w, hw, he⟩
        rcases (htx w).1 hw with rfl | ⟨hw, _⟩
        · exact absurd he.symm hne
        · exact ⟨w, hw, he⟩
  · intro w hw
    rcases (htx w).1 hw with rfl | ⟨hw, hne⟩
    · exact ⟨_, (hmem _).2 (.inl rfl), rfl⟩
    · obtain ⟨x, hx, he⟩ := h.all w hw
      exact ⟨x, (hmem x).2 (.inr ⟨hx, by rw [he]; exact hne⟩), he⟩
  · intro x hx
    rcases (hmem x).1 hx with rfl | ⟨hx, _⟩
    · exact Nat.le_refl _
    · exact Nat.le_succ_of_le (h.used x hx)
  · intro x hx
    rcases (hmem x).1 hx with rfl | ⟨hx, _⟩
    · exact h.range (i, k) hm
    · exact h.range x hx
theorem putNew (h : CacOk n most clock tx g m) {i : Nat} (hg : getI i m = none) (hl : m.length < most) (hi : 63 ≤ i ∧ i < n) (p : Nat) (hp : ∀ x ∈ m, x.2.p ≠ p) (s : Bytes) (hs : (withL tx (i, s)).length ≤ 48) : CacOk n most (clock + 1) (withL tx (i, s)) g (putI i ⟨p, s, true, clock + 1⟩ m) := by
  have h1 := h.lay hg hl hi ⟨p, g i, false, clock⟩ hp rfl rfl (Nat.le_refl _)
  have hg2 : getI i (putI i (⟨p, g i, false, clock⟩ : KeptL) m) = some ⟨p, g i, false, clock⟩ := by rw [getI_putI, if_pos rfl]
  have h2 := h1.putOld hg2 s hs
  have e : putI i (⟨p, s, true, clock + 1⟩ : KeptL) (putI i ⟨p, g i, false, clock⟩ m) = putI i ⟨p, s, true, clock + 1⟩ m := by
    rw [putI_none hg, putI_none hg]
    have hnot := getI_none.1 hg
    clear h h1 h2 hg2 hl hp hg
    induction m with
    | nil => simp [putI]
    | cons y m ih =>
      rw [List.cons_append, putI, if_neg (hnot y (List.mem_cons_self ..)), ih (fun x hx => hnot x (List.mem_cons_of_mem _ hx))]; rfl
  rw [e] at h2
  exact h2
theorem cleaned (h : CacOk n most clock tx g m) (g' : Nat → Bytes) (hg : ∀ i, 63 ≤ i ∧ i < n → g' i = lastP tx i (g i)) : CacOk n most clock [] g' (m.map fun x => (x.1, { x.2 with dirty := false })) := by
  refine ⟨by simpa [List.map_map, Function.comp_def] using h.keys, by simpa [List.map_map, Function.comp_def] using h.ptrs, h.cap, by simpa using h.len, ?_, ?_, by simp, ?_, ?_, by simp [Rise], by simp⟩
  · intro x hx
    obtain ⟨y, hy, rfl⟩ := List.mem_map.1 hx
    show y.2.data = g' y.1
    rw [hg _ (h.range y hy)]; exact h.data y hy
  · intro x hx
    obtain ⟨y, hy, rfl⟩ := List.mem_map.1 hx
    simp
  · intro x hx
    obtain ⟨y, hy, rfl⟩ := List.mem_map.1 hx
    exact h.used y hy
  · intro x hx
    obtain ⟨y, hy, rfl⟩ := List.mem_map.1 hx
    exact h.range y hy
theorem dropped (h : CacOk n most clock tx g m) : CacOk n most clock [] g (m.filter fun x => !x.2.dirty) := by
  have hsub : (m.filter fun x => !x.2.dirty).Sublist m := List.filter_sublist
  have hmem : ∀ x, x ∈ m.filter (fun x => !x.2.dirty) → x ∈ m ∧ x.2.dirty = false := fun x hx => by
    have := List.mem_filter.1 hx
    simpa using this
  refine ⟨(hsub.map _).nodup h.keys, (hsub.map _).nodup h.ptrs, h.cap, Nat.le_trans hsub.length_le h.len, ?_, ?_, by simp, ?_, ?_, by simp [Rise], by simp⟩
  · intro x hx
    obtain ⟨h1, h2⟩ := hmem x hx
    have := h.data x h1
    rw [this, lastP_none _ _ _ (fun w hw e => ?_)]; rfl
    have := (h.dirty x h1).2 ⟨w, hw, e⟩
    rw [h2] at this; exact absurd this (by decide)
  · intro x hx
    obtain ⟨h1, h2⟩ := hmem x hx
    simp [h2]
  · intro x hx; exact h.used x (hmem x hx).1
  · intro x hx; exact h.range x (hmem x hx).1
theorem ext (h : CacOk n most clock tx g m) {g' : Nat → Bytes} (hg : ∀ i, 63 ≤ i ∧ i < n → g' i = g i) : CacOk n most clock tx g' m :=
  ⟨h.keys, h.ptrs, h.cap, h.len, fun x hx => by rw [hg _ (h.range x hx)]; exact h.data x hx, h.dirty, h.all, h.used, h.range, h.rise, h.short⟩
theorem empty (n most : Nat) (g : Nat → Bytes) (h : 64 ≤ most ∧ most ≤ 1024) : CacOk n most 0 [] g [] :=
  ⟨by simp, by simp, h, by simp, by simp, by simp, by simp, by simp, by simp, by simp [Rise], by simp⟩
theorem dirties (h : CacOk n most clock tx g m) (l : List Nat) (hl : l.Perm (m.map (·.1))) (hs : l.Pairwise (· ≤ ·)) : (l.filterMap fun i => (getI i m).bind fun k => if k.dirty then some (i, k.data) else none) = tx := by
  have hnd : l.Nodup := hl.nodup_iff.2 h.keys
  have hlt : l.Pairwise (· < ·) := by
    refine (List.pairwise_and_iff.2 ⟨hs, hnd⟩).imp (fun ⟨a, b⟩ => by omega)
  have hmem : ∀ x : WrL, x ∈ (l.filterMap fun i => (getI i m).bind fun k => if k.dirty then some (i, k.data) else none) ↔ x ∈ tx := fun x => by
    rw [List.mem_filterMap]
    constructor
    · rintro ⟨i, hi, hx⟩
      cases hg : getI i m with
      | none => rw [hg] at hx; cases hx
      | some k =>
        rw [hg] at hx
        simp only [Option.bind_some] at hx
        split at hx
        · rename_i hd
          injection hx with hx
          obtain ⟨w, hw, he⟩ := (h.dirty _ (getI_mem hg)).1 hd
          have hdat := h.hit hg
          have hw' : (i, w.2) ∈ tx := by simp only at he; rw [← he]; exact hw
          rw [lastP_with tx h.rise i _ w.2 hw'] at hdat
          rw [← hx, hdat]; exact hw'
        · cases hx
    · intro hx
      obtain ⟨y, hy, he⟩ := h.all x hx
      have hg := getI_of_mem h.keys (k := y.1) (v := y.2) hy
      refine ⟨y.1, hl.mem_iff.2 (List.mem_map.2 ⟨y, hy, rfl⟩), ?_⟩
      rw [hg]
      simp only [Option.bind_some]
      rw [if_pos ((h.dirty y hy).2 ⟨x, hx, he.symm⟩), h.data y hy]
      have : (y.1, x.2) ∈ tx := by rw [he]; exact hx
      rw [lastP_with tx h.rise y.1 _ x.2 this, he]
  have hr : Rise (l.filterMap fun i => (getI i m).bind fun k => if k.dirty then some (i, k.data) else none) := by
    refine List.Pairwise.filterMap _ (fun a b hab x hx y hy => ?_) hlt
    have hfst : ∀ (i : Nat) (x : WrL), (getI i m).bind (fun k => if k.dirty then some (i, k.data) else none) = some x → x.1 = i := fun i x hx => by
      cases hg : getI i m with
      | none => rw [hg] at hx; cases hx
      | some k =>
        rw [hg] at hx
        simp only [Option.bind_some] at hx
        split at hx
        · injection hx with hx; rw [← hx]
        · cases hx
    rw [hfst a x hx, hfst b y hy]; exact hab
  refine List.Perm.eq_of_pairwise (le := fun (x y : WrL) => x.1 < y.1) (fun a b _ _ h1 h2 => by omega) hr h.rise ?_
  refine (List.perm_ext_iff_of_nodup ?_ ?_).2 hmem
  · exact hr.imp (fun h e => by rw [e] at h; omega)
  · exact h.rise.imp (fun h e => by rw [e] at h; omega)
end CacOk
end
section
open Go.RowKit
def kcells (k : KeptL) : Array Value := #[strV k.data, .bool k.dirty, .int .i64 0, .int .i64 (k.used : Nat)]
def ccells (p most clock : Nat) (ms : Int) (mb : Nat) : Array Value := #[.iface 89 (ptrV p), .int .i64 (most : Nat), .int .i64 (clock : Nat), .int .i64 ms, .map (some mb)]
abbrev mapOf (m : KeptLs) : List (Nat × Value) := m.map fun x => (x.1, ptrV x.2.p)
structure CacG (w : World) (F : Nat → Prop) (cb p most clock : Nat) (ms : Int) (mb : Nat) (m : KeptLs) : Prop where
  box : Blk w cb 143 (ccells p most clock ms mb)
  fb : F cb
  map : MapI w mb (mapOf m)
  fm : F mb
  kept : ∀ x ∈ m, Blk w x.2.p 152 (kcells x.2) ∧ F x.2.p
  lt : ∀ k, F k → k < w.heap.size
theorem blk_not_map {w : World} {a b : Nat} {t : TypeId} {cs : Array Value} {m : List (Nat × Value)} (h : Blk w a t cs) (k : MapI w b m) : a ≠ b := by
  rintro rfl
  obtain ⟨es, clock, hb, _⟩ := k
  unfold Blk at h
  rw [h] at hb
  cases hb
namespace CacG
variable {w w' : World} {F G : Nat → Prop} {cb p most clock : Nat} {ms : Int} {mb : Nat} {m : KeptLs}
theorem mono (h : CacG w F cb p most clock ms mb m) (k : ∀ i, F i → G i) (hl : ∀ i, G i → i < w.heap.size) : CacG w G cb p most clock ms mb m :=
  ⟨h.box, k _ h.fb, h.map, k _ h.fm, fun x hx => ⟨(h.kept x hx).1, k _ (h.kept x hx).2⟩, hl⟩
theorem beside (h : CacG w F cb p most clock ms mb m) (t : Turn G w w') (hd : ∀ k, F k → ¬ G k) : CacG w' F cb p most clock ms mb m :=
  ⟨t.blk h.box (hd _ h.fb), h.fb, h.map.same (t.block _ h.map.lt (hd _ h.fm)), h.fm, fun x hx => ⟨t.blk (h.kept x hx).1 (hd _ (h.kept x hx).2), (h.kept x hx).2⟩, fun k hk => Nat.lt_of_lt_of_le (h.lt k hk) t.size⟩
theorem keep (h : CacG w F cb p most clock ms mb m) (q : Q w w') : CacG w' F cb p most clock ms mb m := h.beside (Turn.of_q (own := fun _ => False) q) (fun _ _ => id)
theorem apart (h : CacG w F cb p most clock ms mb m) : cb ≠ mb ∧ ∀ x ∈ m, x.2.p ≠ cb ∧ x.2.p ≠ mb :=
  ⟨blk_not_map h.box h.map, fun x hx => ⟨blk_ne (h.kept x hx).1 h.box (by decide), blk_not_map (h.kept x hx).1 h.map⟩⟩
theorem turnBox (h : CacG w F cb p most clock ms mb m) (t : Turn (fun k => k = cb) w w') {clock' : Nat} {ms' : Int} (hb : Blk w' cb 143 (ccells p most clock' ms' mb)) : CacG w' F cb p most clock' ms' mb m :=
  ⟨hb, h.fb, h.map.same (t.block _ h.map.lt (fun e => h.apart.1 e.symm)), h.fm, fun x hx => ⟨t.blk (h.kept x hx).1 (h.apart.2 x hx).1, (h.kept x hx).2⟩, fun k hk => Nat.lt_of_lt_of_le (h.lt k hk) t.size⟩
theorem ptr_inj {m : KeptLs} (hp : (m.map (·.2.p)).Nodup) {x y : Nat × KeptL} (hx : x ∈ m) (hy : y ∈ m) (e : x.2.p = y.2.p) : x = y := by
  induction m with
  | nil => simp at hx
  | cons z m ih =>
    simp only [List.map_cons, List.nodup_cons] at hp
    rcases List.mem_cons.1 hx with ex | hx <;> rcases List.mem_cons.1 hy with ey | hy
    · rw [ex, ey]
    · exact absurd (List.mem_map.2 ⟨y, hy, by rw [← e, ex]⟩) hp.1
    · exact absurd (List.mem_map.2 ⟨x, hx, by rw [e, ey]⟩) hp.1
    · exact ih hp.2 hx hy
theorem putI_same {α : Type} {k : Nat} {v : α} {m : List (Nat × α)} (h : getI k m = some v) : putI k v m = m := by
  induction m with
  | nil => cases h
  | cons y m ih =>
    unfold getI at h
    unfold putI
    by_cases hy : y.1 = k
    · rw [if_pos hy] at h ⊢
      injection h with h
      subst hy h; rfl
    · rw [if_neg hy] at h ⊢
      rw [ih h]
theorem turnKept (h : CacG w F cb p most clock ms mb m) (hk : (m.map (·.1)).Nodup) (hp : (m.map (·.2.p)).Nodup) {i : Nat} {k k' : KeptL} (hg : getI i m = some k) (he : k'.p = k.p) (t : Turn (fun x => x = k.p) w w') (hb : Blk w' k.p 152 (kcells k')) : CacG w' F cb p most clock ms mb (putI i k' m) := by
  have hm := getI_mem hg
  have hap := h.apart
  have e : mapOf (putI i k' m) = mapOf m := by
    unfold mapOf
    rw [putI_map (fun k : KeptL => ptrV k.p), he]
    exact putI_same (by rw [getI_map (fun k : KeptL => ptrV k.p), hg]; rfl)
  refine ⟨t.blk h.box (fun e => (hap.2 _ hm).1 e.symm), h.fb, by rw [e]; exact h.map.same (t.block _ h.map.lt (fun e => (hap.2 _ hm).2 e.symm)), h.fm, fun x hx => ?_, fun k hk => Nat.lt_of_lt_of_le (h.lt k hk) t.size⟩
  rcases (putI_mem' hk).1 hx with rfl | ⟨hx, hne⟩
  · exact ⟨by rw [he]; exact hb, by rw [he]; exact (h.kept _ hm).2⟩
  · exact ⟨t.blk (h.kept x hx).1 (fun e => hne (by rw [ptr_inj hp hx hm e])), (h.kept x hx).2⟩
theorem turn_of_map {w w' : World} {b : Nat} (hg : w.grownBy w' (some b)) : Turn (fun k => k = b) w w' :=
  ⟨hg.os, hg.tape, hg.output, hg.size, fun k h1 h2 => hg.block k h1 (fun e => h2 (by cases e; rfl))⟩
theorem laid (h : CacG w F cb p most clock ms mb m) {i g : Nat} {k : KeptL} (hg : getI i m = none) (hkp : k.p = g) (hb : Blk w g 152 (kcells k)) (hG : ∀ x, G x ↔ F x ∨ x = g) (hm : MapI w' mb (putI i (ptrV g) (mapOf m))) (t : Turn (fun x => x = mb) w w') : CacG w' G cb p most clock ms mb (putI i k m) := by
  have hap := h.apart
  have hgm := blk_not_map hb h.map
  have e : mapOf (putI i k m) = putI i (ptrV g) (mapOf m) := by
    unfold mapOf
    rw [putI_map (fun k : KeptL => ptrV k.p), hkp]
  refine ⟨t.blk h.box hap.1, (hG _).2 (.inl h.fb), by rw [e]; exact hm, (hG _).2 (.inl h.fm), fun x hx => ?_, fun x hx => ?_⟩
  · rw [putI_none hg] at hx
    rcases List.mem_append.1 hx with hx | hx
    · exact ⟨t.blk (h.kept x hx).1 (hap.2 x hx).2, (hG _).2 (.inl (h.kept x hx).2)⟩
    · rw [List.mem_singleton] at hx; subst hx
      exact ⟨by rw [hkp]; exact t.blk hb hgm, (hG _).2 (.inr hkp)⟩
  · rcases (hG x).1 hx with hx | rfl
    · exact Nat.lt_of_lt_of_le (h.lt x hx) t.size
    · exact Nat.lt_of_lt_of_le hb.lt t.size
theorem gone (h : CacG w F cb p most clock ms mb m) {i : Nat} (hk : (m.map (·.1)).Nodup) (hm : MapI w' mb (delI i (mapOf m))) (t : Turn (fun x => x = mb) w w') : CacG w' F cb p most clock ms mb (delI i m) := by
  have hap := h.apart
  have e : mapOf (delI i m) = delI i (mapOf m) := by unfold mapOf; rw [delI_map (fun k : KeptL => ptrV k.p)]
  have hsub : ∀ x ∈ delI i m, x ∈ m := fun x hx => by rw [delI_eq i m hk] at hx; exact (List.mem_filter.1 hx).1
  exact ⟨t.blk h.box hap.1, h.fb, by rw [e]; exact hm, h.fm, fun x hx => ⟨t.blk (h.kept x (hsub x hx)).1 (hap.2 x (hsub x hx)).2, (h.kept x (hsub x hx)).2⟩, fun x hx => Nat.lt_of_lt_of_le (h.lt x hx) t.size⟩
theorem look (h : CacG w F cb p most clock ms mb m) (i : Nat) : getI i (mapOf m) = (getI i m).map fun k => ptrV k.p := getI_map (fun k : KeptL => ptrV k.p) i m
theorem lookHit (h : CacG w F cb p most clock ms mb m) {i : Nat} {k : KeptL} (hg : getI i m = some k) : (getI i (mapOf m)).getD (.pointer none) = ptrV k.p := by rw [h.look, hg]; rfl
theorem lookMiss (h : CacG w F cb p most clock ms mb m) {i : Nat} (hg : getI i m = none) : (getI i (mapOf m)).getD (.pointer none) = .pointer none := by rw [h.look, hg]; rfl
theorem len (h : CacG w F cb p most clock ms mb m) : (mapOf m).length = m.length := List.length_map ..
end CacG
theorem run_mapElem (w : World) : (zeroValue 150).run Tryz.prog w = .ok (.pointer none) w := by kernel_rfl
end
section
open Go.RowKit
theorem Chk_any (w : World) (F : Nat → Prop) (b : Nat) (d : DevL) (i : Int) (h : DevAt w F b d) (hm : d.l.length ≤ 4096) :
    Calls Tryz.prog 98 #[ptrV b, .int .i64 i] w fun e w' => e = .returned (.int .i64 (d.chk i)) ∧ w = w' := by
  obtain ⟨g, cap, pv, hb, _, _, _, _, _⟩ := h
  obtain ⟨c0, c1, c2, c3, _⟩ := hb.c4
  unfold DevL.chk
  generalize d.dead = dd at *
  generalize d.l.length = n at *
  clear hb
  cases dd with
  | true =>
    simp only [if_true]
    go_enter Tryz.func98, Tryz.ntmps98
    go_wp2
    go_ret
    exact ⟨rfl, rfl⟩
  | false =>
    simp only [Bool.false_eq_true, if_false]
    by_cases h0 : i < 0
    · have e1 : decide (i < 0) = true := decide_eq_true h0
      rw [if_neg (by omega)]
      go_enter Tryz.func98, Tryz.ntmps98
      go_wp2
      go_ret
      exact ⟨rfl, rfl⟩
    · have e1 : decide (i < 0) = false := decide_eq_false h0
      by_cases h1 : i < n
      · have e2 : decide ((n : Int) ≤ i) = false := decide_eq_false (by omega)
        rw [if_pos ⟨by omega, h1⟩]
        go_enter Tryz.func98, Tryz.ntmps98
        go_wp2
        go_ret
        exact ⟨rfl, rfl⟩
      · have e2 : decide ((n : Int) ≤ i) = true := decide_eq_true (by omega)
        rw [if_neg (by omega)]
        go_enter Tryz.func98, Tryz.ntmps98
        go_wp2
        go_ret
        exact ⟨rfl, rfl⟩
theorem BTurn_any (w : World) (F : Nat → Prop) (b g cap : Nat) (pv : Value) (d : DevL) (h : DevG w F b g cap pv d) (hf : -1 ≤ d.fuse) (hf1 : d.fuse ≤ 9223372036854775807) :
    Calls Tryz.prog 168 #[ptrV b] w fun e w' => e = .returned (.int .i64 (if d.fuse = 0 then 4 else 0)) ∧ DevG w' F b g cap pv d.turn ∧ Turn F w w' ∧ w'.heap.size = w.heap.size := by
  obtain ⟨c0, c1, c2, c3, f0, f1, f2, f3⟩ := h.box.c4
  by_cases h0 : d.fuse = 0
  · have e1 : (d.fuse == 0) = true := beq_iff_eq.2 h0
    have hd : d.turn = { d with dead := true } := by unfold DevL.turn; rw [if_pos h0]
    have hend := h.dead true
    rw [if_pos h0, hd]
    have hsz := setCell_size w ⟨b, 3, none⟩ (.bool true)
    have HE := Lib.hid hend; have HS := Lib.hid hsz
    clear h hend hd hsz
    go_enter Tryz.func168, Tryz.ntmps168
    go_wp2
    go_ret
    exact ⟨rfl, HE.out.1, HE.out.2, HS.out⟩
  · rcases Int.lt_or_le (d.fuse - 1) (-1) with hm | hm
    · have e1 : (d.fuse == 0) = false := beq_eq_false_iff_ne.2 h0
      have hd : d.turn = { d with fuse := -1 } := by unfold DevL.turn; rw [if_neg h0, show max (d.fuse - 1) (-1) = -1 by omega]
      have hend := h.fuse (-1)
      rw [if_neg h0, hd]
      have hsz := setCell_size w ⟨b, 2, none⟩ (.int .i64 (-1))
      have HE := Lib.hid hend; have HS := Lib.hid hsz
      clear h hend hd hsz
      go_enter Tryz.func168, Tryz.ntmps168
      go_wp2
      go_ret
      exact ⟨rfl, HE.out.1, HE.out.2, HS.out⟩
    · have e1 : (d.fuse == 0) = false := beq_eq_false_iff_ne.2 h0
      have hd : d.turn = { d with fuse := d.fuse - 1 } := by unfold DevL.turn; rw [if_neg h0, show max (d.fuse - 1) (-1) = d.fuse - 1 by omega]
      have hend := h.fuse (d.fuse - 1)
      rw [if_neg h0, hd]
      have hsz := setCell_size w ⟨b, 2, none⟩ (.int .i64 (d.fuse - 1))
      have HE := Lib.hid hend; have HS := Lib.hid hsz
      clear h hend hd hsz
      go_enter Tryz.func168, Tryz.ntmps168
      go_wp2
      go_ret
      exact ⟨rfl, HE.out.1, HE.out.2, HS.out⟩
theorem Dead_any (w : World) (F : Nat → Prop) (b : Nat) (d : DevL) (h : DevAt w F b d) :
    Calls Tryz.prog 32 #[ptrV b] w fun e w' => e = .returned (.bool d.dead) ∧ w = w' := by
  obtain ⟨g, cap, pv, h⟩ := h
  obtain ⟨c0, c1, c2, c3, f0, f1, f2, f3⟩ := h.box.c4
  clear h
  go_enter Tryz.func32, Tryz.ntmps32
  go_wp2
  go_ret
  exact ⟨rfl, rfl⟩
theorem Blocks_any (w : World) (F : Nat → Prop) (b : Nat) (d : DevL) (h : DevAt w F b d) :
    Calls Tryz.prog 44 #[ptrV b] w fun e w' => e = .returned (.int .i64 (d.l.length : Nat)) ∧ w = w' := by
  obtain ⟨g, cap, pv, h⟩ := h
  obtain ⟨c0, c1, c2, c3, f0, f1, f2, f3⟩ := h.box.c4
  clear h
  go_enter Tryz.func44, Tryz.ntmps44
  go_wp2
  go_ret
  exact ⟨rfl, rfl⟩
theorem lastP_cut (p : List WrL) (i : Nat) (s : Bytes) (m : Nat) (h : ∀ j (hj : j < p.length), m ≤ j → p[j].1 ≠ i) : lastP p i s = lastP (p.take m) i s := by
  conv => lhs; rw [← List.take_append_drop m p]
  rw [lastP_append]
  refine lastP_none _ _ _ (fun w hw => ?_)
  obtain ⟨j, hj, rfl⟩ := List.getElem_of_mem hw
  rw [List.getElem_drop]
  exact h _ _ (by omega)
theorem lastP_hit (p : List WrL) (i : Nat) (s : Bytes) (m : Nat) (hm : m < p.length) (h : ∀ j (hj : j < p.length), m < j → p[j].1 ≠ i) (he : p[m].1 = i) : lastP p i s = p[m].2 := by
  rw [lastP_cut p i s (m + 1) h, List.take_succ_eq_append_getElem hm, lastP_snoc, if_pos he]
theorem Read_any (w : World) (F : Nat → Prop) (b : Nat) (d : DevL) (i : Int) (h : DevAt w F b d) (hm : d.l.length ≤ 4096) (hp : d.dead = false → d.p.length ≤ 1000000) :
    Calls Tryz.prog 47 #[ptrV b, .int .i64 i] w fun e w' => e = .returned (.tuple #[strV (d.read i).1, .int .i64 (d.read i).2]) ∧ Q w w' := by
  have hc := Chk_any w F b d i h hm
  by_cases h0 : d.chk i = 0
  · have hlive : d.dead = false := by
      unfold DevL.chk at h0
      cases hx : d.dead with
      | false => rfl
      | true => rw [hx] at h0; simp at h0
    obtain ⟨i, rfl⟩ : ∃ n : Nat, i = n := ⟨i.toNat, by
      unfold DevL.chk at h0
      rw [hlive] at h0
      simp only [Bool.false_eq_true, if_false] at h0
      split at h0
      · rename_i hx; omega
      · exact absurd h0 (by decide)⟩
    have hil : i < d.l.length := by
      unfold DevL.chk at h0
      rw [hlive] at h0
      simp only [Bool.false_eq_true, if_false] at h0
      split at h0
      · rename_i hx; omega
      · exact absurd h0 (by decide)
    have hpl := hp hlive
    have hrd : d.read i = (lastP d.p i (d.l.getD i []), 0) := by unfold DevL.read; rw [if_pos h0]; rfl
    rw [hrd]
    rw [h0] at hc
    obtain ⟨g, cap, pv, hg⟩ := h
    obtain ⟨c0, c1, c2, c3, _⟩ := hg.box.c4
    obtain ⟨pa, pc, hpv, hpa⟩ := owns_value hg.row
    have hsl := Sl.of_owns hg.row
    subst hpv
    have hdisk : w.cell? ⟨g, i, none⟩ = some (strV (d.l.getD i [])) := by
      rw [hg.disk.cell i _ (strCs_at d.l i hil), List.getD_eq_getElem?_getD, List.getElem?_eq_getElem hil]; rfl
    have hpc : ∀ m (hm : m < d.p.length), ∃ g2, pa = some ⟨g2, 0, none⟩ ∧ w.cell? ⟨g2, m * 2, none⟩ = some (.int .i64 (d.p[m].1 : Nat)) ∧ w.cell? ⟨g2, m * 2 + 1, none⟩ = some (strV d.p[m].2) := fun m hm => by
      obtain ⟨g2, rfl⟩ := hpa (by omega)
      obtain ⟨_, a, c, hv, hcc⟩ := hsl
      obtain ⟨b2, off, ha, hcell⟩ := hcc (by omega)
      simp only [Value.slice.injEq] at hv
      rw [← hv.1] at ha
      simp only [Option.some.injEq, Addr.mk.injEq] at ha
      obtain ⟨rfl, rfl, _⟩ := ha
      have h1 := hcell _ _ (wrVs_at d.p m hm).1
      have h2 := hcell _ _ (wrVs_at d.p m hm).2
      rw [Nat.zero_add] at h1 h2
      exact ⟨g2, rfl, h1, h2⟩
    generalize d.l.getD i [] = s0 at *
    generalize d.l.length = n at *
    have hcut := lastP_cut d.p i s0
    have hhit := lastP_hit d.p i s0
    generalize lastP d.p i s0 = sr at *
    generalize d.p = p at *
    have HC := Lib.hid hc; have HPC := Lib.hid hpc; have HCUT := Lib.hid hcut; have HHIT := Lib.hid hhit
    clear hc hpc hcut hhit hsl hpa hg h0 hp hrd hm
    go_enter Tryz.func47, Tryz.ntmps47
    go_wp2_with fail
    refine HC.out.mono ?_
    rintro e w1 ⟨rfl, rfl⟩
    go_wp2_with fail
    go_loopw [20] (fun v wr => ∃ k : Nat, v = .int .i64 (k : Nat) ∧ k ≤ p.length ∧ Hid (∀ j (hj : j < p.length), p.length - k ≤ j → p[j].1 ≠ i) ∧ Hid (Q w wr)) (fun v _ => p.length - (intOf v).toNat)
    case atStart => exact ⟨0, rfl, Nat.zero_le _, fun j hj hk => by omega, Q.refl _⟩
    case round =>
      obtain ⟨k, rfl, hk2, HK3, HK4⟩ := hrel
      have hk4 := HK4.out
      have d0 := cell_stays hk4 c0; have d1 := cell_stays hk4 c1
      by_cases hlt : k < p.length
      · have hki : (k : Int) < (p.length : Int) := by omega
        obtain ⟨g2, rfl, e1, e2⟩ := HPC.out (p.length - 1 - k) (by omega)
        have e1' := cell_stays hk4 e1; have e2' := cell_stays hk4 e2
        have hw1 : IntKind.i64.wrap ((p.length : Int) - 1) = ((p.length - 1 : Nat) : Int) := by rw [IntWalk.i64_in _ (by omega)]; omega
        have hw2 : IntKind.i64.wrap (((p.length - 1 : Nat) : Int) - (k : Int)) = ((p.length - 1 - k : Nat) : Int) := by rw [IntWalk.i64_in _ (by omega)]; omega
        have hml : ((p.length - 1 - k : Nat) : Int) < (p.length : Int) := by omega
        have hml0 : (0 : Int) ≤ ((p.length - 1 - k : Nat) : Int) := by omega
        clear e1 e2 hk4
        go_wp2_with fail
        go_region_held3 (fun w' => w'.cell? ⟨b, 1, none⟩ = some (.slice (some ⟨g2, 0, none⟩) p.length pc) ∧ w'.cell? ⟨g2, (p.length - 1 - k) * 2, none⟩ = some (.int .i64 (p[p.length - 1 - k].1 : Nat)) ∧ w'.cell? ⟨g2, (p.length - 1 - k) * 2 + 1, none⟩ = some (strV p[p.length - 1 - k].2))
          (first | exact ⟨d1, e1', e2'⟩ | exact three (by repeat (first | with_reducible exact Q.refl _ | with_reducible apply Qs.dr | with_reducible apply Qs.al | with_reducible refine Qs.st ?_ _ _ (Nat.le_refl _))) d1 e1' e2')
          (fail)
        all_goals
          by_cases hit : p[p.length - 1 - k].1 = i
          · have hb : (((p[p.length - 1 - k].1 : Nat) : Int) == (i : Nat)) = true := beq_iff_eq.2 (by omega)
            have hres := HHIT.out (p.length - 1 - k) (by omega) (fun j hj hjk => HK3.out j hj (by omega)) hit
            have HRES := Lib.hid hres
            clear hres hit
            go_wp2_with fail
            go_ret2
            exact ⟨by rw [HRES.out]; rfl, HK4.out.trans (by repeat (first | with_reducible exact Q.refl _ | with_reducible apply Qs.dr | with_reducible apply Qs.al | with_reducible refine Qs.st ?_ _ _ (Nat.le_refl _)))⟩
          · have hb : (((p[p.length - 1 - k].1 : Nat) : Int) == (i : Nat)) = false := beq_eq_false_iff_ne.2 (by omega)
            have HN := Lib.hid (show ∀ j (hj : j < p.length), p.length - (k + 1) ≤ j → p[j].1 ≠ i from fun j hj hjk => by
              by_cases he : j = p.length - 1 - k
              · subst he; exact hit
              · exact HK3.out j hj (by omega))
            clear hit
            go_wp2_with fail
            go_roundw
            case rel => exact ⟨k + 1, by go_num, by omega, HN.out, HK4.out.trans (by repeat (first | with_reducible exact Q.refl _ | with_reducible apply Qs.dr | with_reducible apply Qs.al | with_reducible refine Qs.st ?_ _ _ (Nat.le_refl _)))⟩
            case measure => simp [intOf]; omega
      · have hki : ¬ (k : Int) < (p.length : Int) := by omega
        have hres := HCUT.out 0 (fun j hj _ => HK3.out j hj (by omega))
        rw [List.take_zero] at hres
        have HRES := Lib.hid hres
        have d2 := cell_stays hk4 hdisk
        have hni : (i : Int) < (n : Int) := by omega
        clear hres hk4
        go_wp2_with fail
        go_ret2
        exact ⟨by rw [HRES.out]; rfl, HK4.out⟩
  · have e1 : (d.chk i == 0) = false := beq_eq_false_iff_ne.2 h0
    have hrd : d.read i = ([], d.chk i) := by unfold DevL.read; rw [if_neg h0]
    rw [hrd]
    generalize d.chk i = x at *
    have HC := Lib.hid hc
    clear hc h hp hrd h0
    go_enter Tryz.func47, Tryz.ntmps47
    go_wp2_with fail
    refine HC.out.mono ?_
    rintro e w1 ⟨rfl, rfl⟩
    go_wp2_with fail
    go_ret2
    exact ⟨rfl, Q.refl _⟩
theorem CNew_any (w : World) (p most : Nat) (h1 : 1 ≤ most) (h2 : most ≤ 1024) :
    Calls Tryz.prog 43 #[.iface 89 (ptrV p), .int .i64 (most : Nat)] w fun e w' => ∃ cb, e = .returned (.tuple #[ptrV cb, .int .i64 0]) ∧ CacG w' (fun k => w.heap.size ≤ k ∧ k < w'.heap.size) cb p most 0 0 w.heap.size [] ∧ Q w w' := by
  have e1 : ¬ (most : Int) < 1 := by omega
  have e2 : ¬ (1024 : Int) < (most : Int) := by omega
  have hmm := @run_makeMap Tryz.prog
  go_enter Tryz.func43, Tryz.ntmps43
  go_wp2_with fail
  go_ret2
  have hb : Blk ((w.alloc (.map #[] 0)).alloc (.cells (ccells p most 0 0 w.heap.size) 143)) (w.heap.size + 1) 143 (ccells p most 0 0 w.heap.size) := by
    have := Blk.new (w.alloc (.map #[] 0)) 143 (ccells p most 0 0 w.heap.size)
    rwa [World.size_alloc] at this
  exact ⟨w.heap.size + 1, rfl, ⟨hb, ⟨by omega, hb.lt⟩, (MapI.made w).same (Q.alloc _ _ |>.block _ (by simp)), ⟨Nat.le_refl _, by simp only [World.size_alloc]; omega⟩, by simp, fun k hk => hk.2⟩, (Q.alloc _ _).trans (Q.alloc _ _)⟩
theorem Use_any (w : World) (F : Nat → Prop) (cb p most clock : Nat) (ms : Int) (mb : Nat) (m : KeptLs) (i : Nat) (k : KeptL) (h : CacG w F cb p most clock ms mb m) (hg : getI i m = some k) (hk : (m.map (·.1)).Nodup) (hp : (m.map (·.2.p)).Nodup) (hc : clock ≤ 1000000000000000000) :
    Calls Tryz.prog 106 #[ptrV cb, ptrV k.p] w fun e w' => e = .returned (.tuple #[]) ∧ CacG w' F cb p most (clock + 1) ms mb (putI i { k with used := clock + 1 } m) ∧ Turn F w w' ∧ w'.heap.size = w.heap.size := by
  have hm := getI_mem hg
  have hb := h.box
  have hkb := (h.kept _ hm).1
  have hne : k.p ≠ cb := (h.apart.2 _ hm).1
  have c2 := hb.cell 2 (.int .i64 (clock : Nat)) rfl
  have f2 := hb.frozen 2
  have hb2 : Blk (w.setCell ⟨cb, 2, none⟩ (.int .i64 ((clock : Int) + 1))) cb 143 (ccells p most (clock + 1) ms mb) := hb.set 2 (.int .i64 ((clock : Int) + 1))
  have t2 : Turn (fun x => x = cb) w (w.setCell ⟨cb, 2, none⟩ (.int .i64 ((clock : Int) + 1))) := Turn.setCell (a := ⟨cb, 2, none⟩) (Turn.refl (fun x => x = cb) w) (.inl rfl) _
  have h2 := h.turnBox t2 hb2
  have hkb2 : Blk (w.setCell ⟨cb, 2, none⟩ (.int .i64 ((clock : Int) + 1))) k.p 152 (kcells k) := t2.blk hkb hne
  have d3 := hkb2.cell 3 (.int .i64 (k.used : Nat)) rfl
  have g3 := hkb2.frozen 3
  have hkb3 : Blk ((w.setCell ⟨cb, 2, none⟩ (.int .i64 ((clock : Int) + 1))).setCell ⟨k.p, 3, none⟩ (.int .i64 ((clock : Int) + 1))) k.p 152 (kcells { k with used := clock + 1 }) := hkb2.set 3 (.int .i64 ((clock : Int) + 1))
  have t3 : Turn (fun x => x = k.p) (w.setCell ⟨cb, 2, none⟩ (.int .i64 ((clock : Int) + 1))) ((w.setCell ⟨cb, 2, none⟩ (.int .i64 ((clock : Int) + 1))).setCell ⟨k.p, 3, none⟩ (.int .i64 ((clock : Int) + 1))) := Turn.setCell (a := ⟨k.p, 3, none⟩) (Turn.refl (fun x => x = k.p) _) (.inl rfl) _
  have hend := h2.turnKept hk hp hg (k' := { k with used := clock + 1 }) rfl t3 hkb3
  have ht := (t2.mono (fun x hx => by subst hx; exact h.fb)).trans (t3.mono (own' := F) (fun x hx => by subst hx; exact (h.kept _ hm).2))
  have hsz : ((w.setCell ⟨cb, 2, none⟩ (.int .i64 ((clock : Int) + 1))).setCell ⟨k.p, 3, none⟩ (.int .i64 ((clock : Int) + 1))).heap.size = w.heap.size := by rw [setCell_size, setCell_size]
  have HE := Lib.hid hend; have HT := Lib.hid ht; have HS := Lib.hid hsz
  have b2 := hb2.cell 2 (.int .i64 ((clock : Int) + 1)) rfl
  clear hend ht hsz hkb3 t3 h2 t2 hb2 hkb2 h hg hk hp hm hb hkb
  go_enter Tryz.func106, Tryz.ntmps106
  go_wp2
  go_end0
  exact ⟨rfl, HE.out, HT.out, HS.out⟩
theorem method_read (n : Nat) (w : World) (p b : Nat) (h : w.cell? ⟨p, 0, none⟩ = some (ptrV b)) :
    (method (n + 1) 89 (ptrV p) "Read").run Tryz.prog w = .ok (47, ptrV b) w := by
  have hx : ((Tryz.prog.info? 89).bind (fun i => i.methods.find? (·.name == "Read"))).map (fun m => (m.path.toList, m.func)) = some ([⟨103, 0, true⟩], some (47, true)) := by kernel_rfl
  cases hi : Tryz.prog.info? 89 with
  | none => rw [hi] at hx; cases hx
  | some i =>
    rw [hi] at hx
    simp only [Option.bind_some] at hx
    cases hf : i.methods.find? (·.name == "Read") with
    | none => rw [hf] at hx; cases hx
    | some m =>
      rw [hf] at hx
      simp only [Option.map_some, Option.some.injEq, Prod.mk.injEq] at hx
      unfold method
      simp only [Sem.run_bind, run_typeInfo w hi, Result.andThen, hf, hx.1, hx.2, follow, run_underlying (w := w) Tryz.underlying103]
      have hso : ∀ W, (sizeOf 32).run Tryz.prog W = .ok 1 W := fun W => by kernel_rfl
      simp [Place.get, asAddr, fieldPlace, receiverAt, hso, Result.andThen, run_underlying Tryz.underlying32, add_off, go_sem, h]
end
end Go.Proofs.YtnmijegmbomfdaaGreatDoor
