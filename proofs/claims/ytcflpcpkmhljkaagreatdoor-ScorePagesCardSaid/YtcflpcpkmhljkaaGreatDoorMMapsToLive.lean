/- Joined texts of one proof: Maps, Live. -/
import Derived.Test.YtcflpcpkmhljkaaGreatDoorMKitToSegSpec
import Derived.MapKept
import Derived.Carry
import Derived.Maps.Own
import Derived.Maps.OwnOps
import Derived.Maps.OwnSet
import Derived.Test.YtcflpcpkmhljkaaGreatDoorMBase2ToBase3
import Derived.Test.YtcflpcpkmhljkaaGreatDoorMTokToWDictR
import Derived.Sort.KeysCollected
import Derived.Lib.ValidLaws
set_option linter.unusedSimpArgs false
set_option linter.unusedVariables false
set_option linter.unnecessarySimpa false
/- (Maps) Maps whose keys are strings: their entries in the order in which they were put. Over any program. -/
section
namespace Go.Proofs.YtcflpcpkmhljkaaGreatDoor
open Go.RowKit Go.MapKept

/-- an entry put: in its place, or at the end -/
def putM {α : Type} (k : List UInt8) (v : α) : List (List UInt8 × α) → List (List UInt8 × α)
  | [] => [(k, v)]
  | x :: m => if x.1 = k then (k, v) :: m else x :: putM k v m
def getM {α : Type} (k : List UInt8) : List (List UInt8 × α) → Option α
  | [] => none
  | x :: m => if x.1 = k then some x.2 else getM k m
abbrev kvE (e : MapEntry) : Value × Value := (e.key, e.val)
abbrev kvL (x : List UInt8 × Value) : Value × Value := (strV x.1, x.2)
/-- block b is a map of these entries -/
def MapS (w : World) (b : Nat) (m : List (List UInt8 × Value)) : Prop :=
  ∃ es clock, w.heap[b]? = some (.map es clock) ∧ Stamped es clock ∧ es.toList.map kvE = m.map kvL
theorem MapS.lt {w : World} {b : Nat} {m : List (List UInt8 × Value)} (h : MapS w b m) : b < w.heap.size := by
  obtain ⟨es, clock, hb, _⟩ := h
  exact (Array.getElem?_eq_some_iff.1 hb).1
theorem MapS.same {w w' : World} {b : Nat} {m : List (List UInt8 × Value)} (h : MapS w b m) (hb : w'.heap[b]? = w.heap[b]?) : MapS w' b m := by
  obtain ⟨es, clock, h1, h2, h3⟩ := h
  exact ⟨es, clock, hb.trans h1, h2, h3⟩
theorem MapS.stays {w w' : World} {b : Nat} {m : List (List UInt8 × Value)} (h : MapS w b m) (hb : Below w.heap.size w w') : MapS w' b m := h.same (hb.block b h.lt)
theorem MapS.made (w : World) : MapS (w.alloc (.map #[] 0)) w.heap.size [] := ⟨#[], 0, (MapKept.heap_alloc w _).1, stamped_empty 0, rfl⟩
theorem sameNow_str (a b : List UInt8) : Instr.sameNow .string (strV a) (strV b) = some (decide (a = b)) := by
  have : ((⟨a.toArray⟩ : ByteArray) == ⟨b.toArray⟩) = decide (a = b) := by
    by_cases h : a = b
    · subst h; rw [decide_eq_true rfl]; exact (bytes_beq _ _).2 rfl
    · rw [decide_eq_false h]
      cases hh : ((⟨a.toArray⟩ : ByteArray) == ⟨b.toArray⟩) with
      | false => rfl
      | true => exact absurd (by have := (bytes_beq _ _).1 hh; simpa using congrArg ByteArray.data this) h
  simp [Instr.sameNow, this]
theorem find_map (k : List UInt8) : ∀ (m : List (List UInt8 × Value)) (l : List MapEntry) (i : Nat), l.map kvE = m.map kvL →
    (getM k m = none ∧ Instr.findNow .string (strV k) l i = some none ∧ (∀ e ∈ l, e.key ≠ strV k) ∧ ∀ v, putM k v m = m ++ [(k, v)]) ∨
    ∃ j e v, l[j]? = some e ∧ e.key = strV k ∧ e.val = v ∧ m[j]? = some (k, v) ∧ getM k m = some v ∧ Instr.findNow .string (strV k) l i = some (some (i + j, v)) ∧ ∀ v', putM k v' m = m.set j (k, v')
  | [], l, i, h => by
    have : l = [] := by simpa using h
    subst this
    exact Or.inl ⟨rfl, rfl, by simp, fun _ => rfl⟩
  | x :: m, l, i, h => by
    cases l with
    | nil => simp at h
    | cons e l =>
      simp only [List.map_cons, List.cons.injEq] at h
      obtain ⟨h1, h2⟩ := h
      have hk : e.key = strV x.1 := congrArg Prod.fst h1
      have hv : e.val = x.2 := congrArg Prod.snd h1
      by_cases hx : x.1 = k
      · refine Or.inr ⟨0, e, x.2, rfl, by rw [hk, hx], hv, by rw [← hx]; rfl, by simp [getM, hx], ?_, fun v' => by simp [putM, hx]⟩
        simp [Instr.findNow, hk, sameNow_str, hx, hv]
      · have hs : Instr.findNow .string (strV k) (e :: l) i = Instr.findNow .string (strV k) l (i + 1) := by
          simp [Instr.findNow, hk, sameNow_str, Ne.symm hx]
        rcases find_map k m l (i + 1) h2 with ⟨a, b, c, d⟩ | ⟨j, e', v, a, b, c, d, f, g, p⟩
        · refine Or.inl ⟨by simp [getM, hx, a], by rw [hs, b], ?_, fun v => by simp [putM, hx, d]⟩
          intro e' he'
          rcases List.mem_cons.1 he' with rfl | he'
          · rw [hk]
            intro hh
            exact hx (by injection hh with hh; injection hh with hh; simpa using hh)
          · exact c e' he'
        · exact Or.inr ⟨j + 1, e', v, by simpa using a, b, c, by simpa using d, by simp [getM, hx, f], by rw [hs, g]; simp; omega, fun v' => by simp [putM, hx, p]⟩
theorem keys_str {l : List MapEntry} {m : List (List UInt8 × Value)} (h : l.map kvE = m.map kvL) : ∀ x ∈ l, IsKey .string x.key := by
  intro x hx
  have : kvE x ∈ l.map kvE := List.mem_map.2 ⟨x, hx, rfl⟩
  rw [h] at this
  obtain ⟨y, _, e⟩ := List.mem_map.1 this
  have : x.key = strV y.1 := (congrArg Prod.fst e).symm
  rw [this]; trivial
theorem run_lookup_map {P : Program} {w : World} {b : Nat} {m : List (List UInt8 × Value)} (h : MapS w b m) (t kt et : TypeId) (hm : P.underlying t = some (.map kt et)) (hd : P.underlying kt = some .string) (z : Value) (hz : (zeroValue et).run P w = .ok z w) (k : List UInt8) (ok : Bool) :
    (Instr.lookup t (.map (some b)) (strV k) ok).run P w = .ok (if ok then .tuple #[(getM k m).getD z, .bool (getM k m).isSome] else (getM k m).getD z) w := by
  obtain ⟨es, clock, hb, hs, hk⟩ := h
  have hkk : IsKey .string (strV k) := trivial
  rcases find_map k m es.toList 0 hk with ⟨a, f, _, _⟩ | ⟨j, e, v, _, _, _, _, a, f, _⟩
  · simp [Instr.lookup, run_underlying hm, MapKept.run_getObj_map hb, run_checkKey hd hkk, run_findKey hd f, hz, Result.andThen, a]
  · simp [Instr.lookup, run_underlying hm, MapKept.run_getObj_map hb, run_checkKey hd hkk, run_findKey hd f, Result.andThen, a]
theorem run_update_map {P : Program} {w : World} {b : Nat} {m : List (List UInt8 × Value)} (h : MapS w b m) (t kt et : TypeId) (hm : P.underlying t = some (.map kt et)) (hd : P.underlying kt = some .string) (k : List UInt8) (v : Value) :
    ∃ w', (Instr.mapUpdate t (.map (some b)) (strV k) v).run P w = .ok () w' ∧ MapS w' b (putM k v m) ∧ w.grownBy w' (some b) := by
  obtain ⟨es, clock, hb, hs, hk⟩ := h
  have hkk : IsKey .string (strV k) := trivial
  rcases find_map k m es.toList 0 hk with ⟨a, f, g, p⟩ | ⟨j, e, u, hj, he, hv, hmj, a, f, p⟩
  · refine ⟨{ w with heap := w.heap.setIfInBounds b (.map (es.push { key := strV k, val := v, born := clock }) (clock + 1)) }, ?_, ⟨_, _, (heap_set hb).1, stamped_push hs g, ?_⟩, ⟨rfl, rfl, rfl, by simp, fun i _ hi => (heap_set hb).2 i (fun e => hi (by rw [e]))⟩⟩
    · simp [Instr.mapUpdate, run_underlying hm, MapKept.run_getObj_map hb, run_checkKey hd hkk, run_findKey hd f, run_setObj_map _ hb, Result.andThen]
    · rw [p]; simp [hk]
  · have hj' : es[j]? = some e := by simpa using hj
    refine ⟨{ w with heap := w.heap.setIfInBounds b (.map (es.modify j fun e => { e with key := strV k, val := v }) clock) }, ?_, ⟨_, _, (heap_set hb).1, stamped_modify hs _ _ (fun _ _ => rfl) (fun e' _ he' => by rw [hj'] at he'; cases he'; exact he.symm), ?_⟩, ⟨rfl, rfl, rfl, by simp, fun i _ hi => (heap_set hb).2 i (fun e => hi (by rw [e]))⟩⟩
    · simp [Instr.mapUpdate, run_underlying hm, MapKept.run_getObj_map hb, run_checkKey hd hkk, run_findKey hd f, hj', he, run_keyThatStays hkk, run_setObj_map _ hb, Result.andThen]
    · rw [p]
      apply List.ext_getElem?
      intro i
      have hi := congrArg (fun l => l[i]?) hk
      simp only [List.getElem?_map] at hi
      simp only [List.getElem?_map, Array.getElem?_toList, Array.getElem?_modify, List.getElem?_set]
      by_cases hij : j = i
      · subst hij
        have hlt : j < m.length := (List.getElem?_eq_some_iff.1 hmj).1
        simp [hj', hlt]
      · simp [hij]; simpa using hi
theorem wpList_update_map {P : Program} (w : World) {ops : Array Oper} {rest : List Oper} {o : Oper} {a : Act} {Q : Exit → Act → World → Prop} (hg : o.guard = none) (mo x vo : Operand) (t : TypeId) (hop : o.op = Op.mapUpdate t mo x vo)
    (kt et : TypeId) (hm : P.underlying t = some (.map kt et)) (hd : P.underlying kt = some .string) (b : Nat) (m : List (List UInt8 × Value)) (h : MapS w b m) (k : List UInt8) (v : Value) (hmo : a.eval mo = .map (some b)) (hx : a.eval x = strV k) (hv : a.eval vo = v)
    (hK : ∀ w', MapS w' b (putM k v m) → w.grownBy w' (some b) → wpList P ops Q rest (a.put o.dst undef) w') : wpList P ops Q (o :: rest) a w := by
  refine wpList_plain hg fun K' hK' => ?_
  obtain ⟨w', hrun, r1, r2⟩ := run_update_map h t kt et hm hd k v
  unfold Oper.wp
  simp [execOp, hop, hmo, hx, hv, hrun, Result.andThen]
  exact hK' _ _ (hK w' r1 r2)
theorem wpList_lookup_map {P : Program} (w : World) {ops : Array Oper} {rest : List Oper} {o : Oper} {a : Act} {Q : Exit → Act → World → Prop} (hg : o.guard = none) (mo x : Operand) (t : TypeId) (ok : Bool) (hop : o.op = Op.lookup t mo x ok)
    (kt et : TypeId) (hm : P.underlying t = some (.map kt et)) (hd : P.underlying kt = some .string) (z : Value) (hz : (zeroValue et).run P w = .ok z w) (b : Nat) (m : List (List UInt8 × Value)) (h : MapS w b m) (k : List UInt8) (hmo : a.eval mo = .map (some b)) (hx : a.eval x = strV k)
    (hK : wpList P ops Q rest (a.put o.dst (if ok then .tuple #[(getM k m).getD z, .bool (getM k m).isSome] else (getM k m).getD z)) w) : wpList P ops Q (o :: rest) a w := by
  refine wpList_plain hg fun K' hK' => ?_
  have hrun := run_lookup_map h t kt et hm hd z hz k ok
  unfold Oper.wp
  simp [execOp, hop, hmo, hx, hrun, Result.andThen]
  exact hK' _ _ hK
theorem run_len_map {P : Program} {w : World} {b : Nat} {m : List (List UInt8 × Value)} (h : MapS w b m) (t kt et r : TypeId) (hm : P.underlying t = some (.map kt et)) :
    (Builtin.len_ #[t] r #[.map (some b)]).run P w = .ok (.int .i64 m.length) w := by
  obtain ⟨es, clock, hb, hs, hk⟩ := h
  have : es.size = m.length := by have := congrArg List.length hk; simpa using this
  simp [Builtin.len_, run_underlying hm, MapKept.run_getObj_map hb, goInt, Result.andThen, this]
theorem wpList_len_map {P : Program} (w : World) {ops : Array Oper} {rest : List Oper} {o : Oper} {a : Act} {Q : Exit → Act → World → Prop} (hg : o.guard = none) (mo : Operand) (t : TypeId) (hop : o.op = Op.call { callee := Callee.builtin Builtin.len, args := #[mo], argTypes := #[t] })
    (kt et : TypeId) (hm : P.underlying t = some (.map kt et)) (b : Nat) (m : List (List UInt8 × Value)) (h : MapS w b m) (hmo : a.eval mo = .map (some b))
    (hK : wpList P ops Q rest (a.put o.dst (.int .i64 m.length)) w) : wpList P ops Q (o :: rest) a w := by
  refine wpList_plain hg fun K' hK' => ?_
  unfold Oper.wp
  simp [execOp, hop, resolve, invoke, builtin, hmo, run_len_map h t kt et o.type hm, Result.andThen]
  exact hK' _ _ hK
/-- what was put is what is found; nothing else has turned -/
theorem get_put {α : Type} (k l : List UInt8) (v : α) (m : List (List UInt8 × α)) : getM l (putM k v m) = if k = l then some v else getM l m := by
  induction m with
  | nil => simp [putM, getM]
  | cons x m ih =>
    by_cases hx : x.1 = k
    · by_cases hl : k = l <;> simp [putM, getM, hx, hl]
    · by_cases hl : k = l
      · subst hl; simp [putM, getM, hx, ih]
      · simp [putM, getM, hx, ih, hl]
theorem keys_put {α : Type} (k : List UInt8) (v : α) (m : List (List UInt8 × α)) : (putM k v m).map (·.1) = if k ∈ m.map (·.1) then m.map (·.1) else m.map (·.1) ++ [k] := by
  induction m with
  | nil => simp [putM]
  | cons x m ih =>
    by_cases hx : x.1 = k
    · simp [putM, hx]
    · simp only [putM, hx, if_false, List.map_cons, ih, List.mem_cons]
      by_cases hk : k ∈ m.map (·.1)
      · simp [hk]
      · simp [hk, Ne.symm hx]
end Go.Proofs.YtcflpcpkmhljkaaGreatDoor
end

/- (Live) Plain laws of chapter 15: parts, which documents live, bulks and merges. No program in sight. -/
section
namespace Go.Proofs.YtcflpcpkmhljkaaGreatDoor
open Go.Sort
set_option linter.unusedVariables false

/-- may a document be? (as the program asks) -/
def rightB (id text : Bytes) : Bool := !id.isEmpty && decide (id.length ≤ 40) && decide (text.length ≤ 2000) && Lib.validD id && Lib.validD text
def docsOk (l : List DocL) : Prop := (∀ d ∈ l, rightB d.1 d.2 = true) ∧ (l.map (·.1)).Nodup
abbrev OpL := Bool × DocL
abbrev PartL := List DocL × Bytes
def opRight (o : OpL) : Bool := if o.1 then !o.2.1.isEmpty && decide (o.2.1.length ≤ 40) && Lib.validD o.2.1 && o.2.2.isEmpty else rightB o.2.1 o.2.2
/-- the ops that count -/
def lastL : List OpL → List OpL
  | [] => []
  | o :: l => if o.2.1 ∈ l.map (fun p => p.2.1) then lastL l else o :: lastL l
def findL (l : List DocL) (id : Bytes) : Option Nat := l.findIdx? (fun d => d.1 == id)
def goneOne (id : Bytes) (p : PartL) : PartL := match findL p.1 id with
  | some k => (p.1, setTo p.2 k true 1)
  | none => p
def goneAll (ids : List Bytes) (ps : List PartL) : List PartL := ids.foldl (fun ps id => ps.map (goneOne id)) ps
def freshL (l : List DocL) : List PartL × Bytes := if l = [] then ([], []) else ([(l, makeL l.length)], segE l (idxL l))
def moreL (ops : List OpL) : List DocL := ((lastL ops).filter (fun o => !o.1)).map (·.2)
def idsL (ops : List OpL) : List Bytes := (lastL ops).map (fun o => o.2.1)
def applyL (ps : List PartL) (ops : List OpL) : List PartL × Bytes × Int :=
  if ops.length < 1 ∨ 50 < ops.length then (ps, [], 6)
  else if ops.all opRight then (goneAll (idsL ops) ps ++ (freshL (moreL ops)).1, (freshL (moreL ops)).2, 0) else (ps, [], 1)
/-- the live documents of a part, of parts -/
def liveF (g : Bytes) : List DocL → Nat → List DocL
  | [], _ => []
  | d :: l, k => if bit g k then liveF g l (k + 1) else d :: liveF g l (k + 1)
def liveOf (p : PartL) : List DocL := liveF p.2 p.1 0
def liveL (ps : List PartL) : List DocL := ps.flatMap liveOf
def liveM (ps : List PartL) : List DocL := (liveL ps).foldl (fun m d => putM d.1 d.2 m) []
def docsL (ps : List PartL) : List DocL := (((liveM ps).map (·.1)).mergeSort leB).map fun id => (id, (getM id (liveM ps)).getD [])
def getL (ps : List PartL) (id : Bytes) : Option Bytes := match ps with
  | [] => none
  | p :: ps => match findL p.1 id with
    | some k => if bit p.2 k then getL ps id else some (p.1.getD k ([], [])).2
    | none => getL ps id
def mergeL (ps : List PartL) (a b : Int) : List PartL × Bytes × Int :=
  if a < 0 ∨ b ≤ a ∨ (ps.length : Int) ≤ b then (ps, [], 1)
  else
    let all := docsL ((ps.take (b.toNat + 1)).drop a.toNat)
    if 500 < all.length then (ps, [], 6)
    else (ps.take a.toNat ++ ((freshL all).1 ++ ps.drop (b.toNat + 1)), (freshL all).2, 0)

theorem nodup_of_map {α β : Type} {f : α → β} {l : List α} (h : (l.map f).Nodup) : l.Nodup := List.Pairwise.of_map f (fun a b hab e => hab (by rw [e])) h
theorem sub_flatMap {α β : Type} {l m : List α} (h : l.Sublist m) (f : α → List β) : (l.flatMap f).Sublist (m.flatMap f) := by
  induction h with
  | slnil => exact List.Sublist.slnil
  | cons a _ ih => rw [List.flatMap_cons]; exact ih.trans (List.sublist_append_right _ _)
  | cons_cons a _ ih => rw [List.flatMap_cons, List.flatMap_cons]; exact (List.Sublist.refl _).append ih
/-! ### entries -/
theorem getM_some {α : Type} (k : Bytes) (m : List (Bytes × α)) : (getM k m).isSome = decide (k ∈ m.map (·.1)) := by
  induction m with
  | nil => simp [getM]
  | cons x m ih =>
    by_cases h : x.1 = k
    · simp [getM, h]
    · simp [getM, h, ih, Ne.symm h]
theorem getM_mem {α : Type} (k : Bytes) (v : α) (m : List (Bytes × α)) (hn : (m.map (·.1)).Nodup) : getM k m = some v ↔ (k, v) ∈ m := by
  induction m with
  | nil => simp [getM]
  | cons x m ih =>
    simp only [List.map_cons, List.nodup_cons] at hn
    by_cases h : x.1 = k
    · simp only [getM, h, if_true, List.mem_cons]
      constructor
      · intro e; cases e; left; rw [← h]
      · rintro (e | e)
        · rw [← e]
        · exact absurd (List.mem_map.2 ⟨_, e, rfl⟩) (by rw [← h]; exact hn.1)
    · simp only [getM, h, if_false, List.mem_cons]
      rw [ih hn.2]
      constructor
      · exact Or.inr
      · rintro (e | e)
        · exact absurd (by rw [← e]) h
        · exact e
theorem putM_new {α : Type} (k : Bytes) (v : α) (m : List (Bytes × α)) (h : k ∉ m.map (·.1)) : putM k v m = m ++ [(k, v)] := by
  induction m with
  | nil => rfl
  | cons x m ih =>
    simp only [List.map_cons, List.mem_cons, not_or] at h
    simp [putM, Ne.symm h.1, ih h.2]
theorem foldPut_nodup (l m : List DocL) (h : ((m ++ l).map (·.1)).Nodup) : l.foldl (fun m d => putM d.1 d.2 m) m = m ++ l := by
  induction l generalizing m with
  | nil => simp
  | cons d l ih =>
    have h' : (((m ++ [d]) ++ l).map (·.1)).Nodup := by simpa using h
    have hd : d.1 ∉ m.map (·.1) := by
      simp only [List.map_append, List.map_cons] at h
      exact fun hm => (List.nodup_append.1 h).2.2 _ hm _ (List.mem_cons_self) rfl
    rw [List.foldl_cons, putM_new _ _ _ hd]
    have := ih (m ++ [d]) h'
    simpa using this
theorem liveM_eq (ps : List PartL) (h : ((liveL ps).map (·.1)).Nodup) : liveM ps = liveL ps := by
  have := foldPut_nodup (liveL ps) [] (by simpa using h)
  simpa [liveM] using this
theorem leB_trans : ∀ a b c : List UInt8, leB a b = true → leB b c = true → leB a c = true := fun a b c h1 h2 => by
  simp only [leB, decide_eq_true_eq] at *; exact List.le_trans h1 h2
theorem leB_total : ∀ a b : List UInt8, (leB a b || leB b a) = true := fun a b => by
  simp only [leB, Bool.or_eq_true, decide_eq_true_eq]; exact List.le_total a b
/-- what is told of documents is just those that live, by their IDs -/
theorem mem_docsL (ps : List PartL) (h : ((liveL ps).map (·.1)).Nodup) (d : DocL) : d ∈ docsL ps ↔ d ∈ liveL ps := by
  unfold docsL
  rw [liveM_eq ps h]
  simp only [List.mem_map, List.mem_mergeSort]
  constructor
  · rintro ⟨id, ⟨x, hx, rfl⟩, rfl⟩
    have : getM x.1 (liveL ps) = some x.2 := (getM_mem _ _ _ h).2 hx
    rw [this]; exact hx
  · intro hd
    refine ⟨d.1, ⟨d, hd, rfl⟩, ?_⟩
    rw [(getM_mem d.1 d.2 _ h).2 hd]; rfl
theorem ids_docsL (ps : List PartL) : (docsL ps).map (·.1) = ((liveM ps).map (·.1)).mergeSort leB := by
  unfold docsL
  rw [List.map_map]
  exact List.map_id' _
theorem nodup_docsL (ps : List PartL) (h : ((liveL ps).map (·.1)).Nodup) : ((docsL ps).map (·.1)).Nodup := by
  rw [ids_docsL, liveM_eq ps h]
  exact (List.mergeSort_perm _ _).nodup_iff.2 h
theorem sorted_ext (a b : List DocL) (ha : (a.map (·.1)).Pairwise (fun x y => leB x y = true)) (hb : (b.map (·.1)).Pairwise (fun x y => leB x y = true)) (na : (a.map (·.1)).Nodup) (nb : (b.map (·.1)).Nodup)
    (h : ∀ d, d ∈ a ↔ d ∈ b) : a = b := by
  have hp : a.Perm b := (List.perm_ext_iff_of_nodup (nodup_of_map na) (nodup_of_map nb)).2 h
  refine List.Perm.eq_of_pairwise (le := fun x y => leB x.1 y.1 = true) (fun x y hx hy h1 h2 => ?_) (List.pairwise_map.1 ha) (List.pairwise_map.1 hb) hp
  simp only [leB, decide_eq_true_eq] at h1 h2
  have e : x.1 = y.1 := List.le_antisymm h1 h2
  have hx' : y ∈ a := hp.mem_iff.2 hy
  have g1 := (getM_mem x.1 x.2 a na).2 hx
  have g2 := (getM_mem y.1 y.2 a na).2 hx'
  rw [e] at g1
  rw [g1] at g2
  exact Prod.ext e (Option.some.inj g2)
theorem docsL_ext (ps qs : List PartL) (h1 : ((liveL ps).map (·.1)).Nodup) (h2 : ((liveL qs).map (·.1)).Nodup) (h : ∀ d, d ∈ liveL ps ↔ d ∈ liveL qs) : docsL ps = docsL qs := by
  refine sorted_ext _ _ ?_ ?_ (nodup_docsL ps h1) (nodup_docsL qs h2) (fun d => by rw [mem_docsL ps h1, mem_docsL qs h2, h])
  · rw [ids_docsL]; exact List.pairwise_mergeSort leB_trans leB_total _
  · rw [ids_docsL]; exact List.pairwise_mergeSort leB_trans leB_total _

/-! ### live documents -/
theorem mem_liveF (g : Bytes) (l : List DocL) (k : Nat) (d : DocL) : d ∈ liveF g l k ↔ ∃ i, l[i]? = some d ∧ bit g (k + i) = false := by
  induction l generalizing k with
  | nil => simp [liveF]
  | cons x l ih =>
    rw [liveF]
    have step : (∃ i, (x :: l)[i]? = some d ∧ bit g (k + i) = false) ↔ (x = d ∧ bit g k = false) ∨ ∃ i, l[i]? = some d ∧ bit g (k + 1 + i) = false := by
      constructor
      · rintro ⟨i, h1, h2⟩
        cases i with
        | zero => exact .inl ⟨by simpa using h1, h2⟩
        | succ i => exact .inr ⟨i, by simpa using h1, by rw [show k + 1 + i = k + (i + 1) by omega]; exact h2⟩
      · rintro (⟨h1, h2⟩ | ⟨i, h1, h2⟩)
        · exact ⟨0, by simp [h1], h2⟩
        · exact ⟨i + 1, by simpa using h1, by rw [show k + (i + 1) = k + 1 + i by omega]; exact h2⟩
    rw [step]
    cases hb : bit g k with
    | true => simp [ih]
    | false => simp only [Bool.false_eq_true, if_false, List.mem_cons, ih, and_true]; rw [eq_comm]
theorem liveF_sub (g : Bytes) (l : List DocL) (k : Nat) : (liveF g l k).Sublist l := by
  induction l generalizing k with
  | nil => exact List.Sublist.slnil
  | cons x l ih =>
    rw [liveF]
    split
    · exact (ih _).cons _
    · exact (ih _).cons_cons _
theorem findL_some (l : List DocL) (id : Bytes) (k : Nat) (h : findL l id = some k) : ∃ d, l[k]? = some d ∧ d.1 = id := by
  unfold findL at h
  rw [List.findIdx?_eq_some_iff_getElem] at h
  obtain ⟨hk, h1, _⟩ := h
  exact ⟨l[k], List.getElem?_eq_getElem hk, by simpa using h1⟩
theorem findL_none (l : List DocL) (id : Bytes) (h : findL l id = none) : id ∉ l.map (·.1) := by
  unfold findL at h
  rw [List.findIdx?_eq_none_iff] at h
  intro hm
  obtain ⟨d, hd, e⟩ := List.mem_map.1 hm
  have := h d hd
  simp [e] at this
theorem at_one {l : List DocL} (hn : (l.map (·.1)).Nodup) {i j : Nat} {d e : DocL} (hi : l[i]? = some d) (hj : l[j]? = some e) (h : d.1 = e.1) : i = j := by
  have h1 : (l.map (·.1))[i]? = some d.1 := by simp [hi]
  have h2 : (l.map (·.1))[j]? = some d.1 := by simp [hj, h]
  obtain ⟨a, b⟩ := List.getElem?_eq_some_iff.1 h1
  obtain ⟨a', b'⟩ := List.getElem?_eq_some_iff.1 h2
  exact (List.getElem_inj hn).1 (b.trans b'.symm)
theorem findL_of (l : List DocL) (hn : (l.map (·.1)).Nodup) (k : Nat) (d : DocL) (h : l[k]? = some d) : findL l d.1 = some k := by
  cases hf : findL l d.1 with
  | none => exact absurd (List.mem_map.2 ⟨d, List.mem_of_getElem? h, rfl⟩) (findL_none _ _ hf)
  | some j =>
    obtain ⟨e, h1, h2⟩ := findL_some _ _ _ hf
    rw [at_one hn h1 h h2]

/-- a part as it may be -/
def PartOk (p : PartL) : Prop := docsOk p.1 ∧ 1 ≤ p.1.length ∧ p.1.length ≤ 500 ∧ p.2.length = (p.1.length + 7) / 8
/-- parts as they may be: of one ID one document lives at the most -/
def PartsOk (ps : List PartL) : Prop := (∀ p ∈ ps, PartOk p) ∧ ((liveL ps).map (·.1)).Nodup

theorem goneOne_docs (id : Bytes) (p : PartL) : (goneOne id p).1 = p.1 := by unfold goneOne; split <;> rfl
theorem goneOne_len (id : Bytes) (p : PartL) : (goneOne id p).2.length = p.2.length := by
  unfold goneOne; split
  · exact length_setTo _ _ _ _
  · rfl
theorem goneOne_ok (id : Bytes) (p : PartL) (h : PartOk p) : PartOk (goneOne id p) := by
  unfold PartOk; rw [goneOne_docs, goneOne_len]; exact h
theorem mem_goneOne (id : Bytes) (p : PartL) (h : PartOk p) (d : DocL) : d ∈ liveOf (goneOne id p) ↔ d ∈ liveOf p ∧ d.1 ≠ id := by
  unfold liveOf
  rw [mem_liveF, mem_liveF, goneOne_docs]
  obtain ⟨⟨_, hn⟩, _, _, hl⟩ := h
  cases hf : findL p.1 id with
  | none =>
    have e : goneOne id p = p := by unfold goneOne; rw [hf]
    rw [e]
    constructor
    · rintro ⟨i, h1, h2⟩
      exact ⟨⟨i, h1, h2⟩, fun e => findL_none _ _ hf (by rw [← e]; exact List.mem_map.2 ⟨d, List.mem_of_getElem? h1, rfl⟩)⟩
    · exact fun h => h.1
  | some k =>
    have e : (goneOne id p).2 = setTo p.2 k true 1 := by unfold goneOne; rw [hf]
    obtain ⟨x, hx, hid⟩ := findL_some _ _ _ hf
    have hk : k < p.1.length := (List.getElem?_eq_some_iff.1 hx).1
    rw [e]
    have hb : ∀ j, bit (setTo p.2 k true 1) j = if k ≤ j ∧ j < k + 1 then true else bit p.2 j := fun j => bit_setTo p.2 k 1 j true (by omega)
    constructor
    · rintro ⟨i, h1, h2⟩
      rw [hb, Nat.zero_add] at h2
      by_cases hik : k ≤ i ∧ i < k + 1
      · rw [if_pos hik] at h2; cases h2
      · rw [if_neg hik] at h2
        refine ⟨⟨i, h1, by rw [Nat.zero_add]; exact h2⟩, fun e => hik ?_⟩
        have := at_one hn h1 hx (by rw [e, hid])
        omega
    · rintro ⟨⟨i, h1, h2⟩, hne⟩
      refine ⟨i, h1, ?_⟩
      rw [hb, if_neg]
      · exact h2
      · rintro ⟨h3, h4⟩
        have : i = k := by omega
        subst this
        rw [hx] at h1
        cases h1
        exact hne hid
theorem liveOf_sub_gone (id : Bytes) (p : PartL) (h : PartOk p) : (liveOf (goneOne id p)).Sublist (liveOf p) := by
  unfold liveOf
  rw [goneOne_docs]
  have hg : ∀ j, bit p.2 j = true → bit (goneOne id p).2 j = true := by
    intro j hj
    unfold goneOne
    split
    · rename_i k hk
      obtain ⟨x, hx, _⟩ := findL_some _ _ _ hk
      have hk' : k < p.1.length := (List.getElem?_eq_some_iff.1 hx).1
      obtain ⟨_, _, _, hl⟩ := h
      rw [bit_setTo p.2 k 1 j true (by omega)]
      split
      · rfl
      · exact hj
    · exact hj
  generalize (goneOne id p).2 = g at hg
  generalize p.2 = g0 at hg
  generalize p.1 = l
  generalize (0 : Nat) = k
  induction l generalizing k with
  | nil => exact List.Sublist.slnil
  | cons x l ih =>
    rw [liveF, liveF]
    by_cases h0 : bit g0 k = true
    · rw [if_pos h0, if_pos (hg k h0)]; exact ih _
    · rw [if_neg h0]
      split
      · exact (ih _).cons _
      · exact (ih _).cons_cons _
theorem goneAll_nil (ps : List PartL) : goneAll [] ps = ps := rfl
theorem goneAll_cons (id : Bytes) (ids : List Bytes) (ps : List PartL) : goneAll (id :: ids) ps = goneAll ids (ps.map (goneOne id)) := rfl
theorem goneAll_ok (ids : List Bytes) (ps : List PartL) (h : ∀ p ∈ ps, PartOk p) : ∀ p ∈ goneAll ids ps, PartOk p := by
  induction ids generalizing ps with
  | nil => exact h
  | cons id ids ih =>
    rw [goneAll_cons]
    exact ih _ (fun p hp => by obtain ⟨q, hq, rfl⟩ := List.mem_map.1 hp; exact goneOne_ok id q (h q hq))
theorem goneAll_length (ids : List Bytes) (ps : List PartL) : (goneAll ids ps).length = ps.length := by
  induction ids generalizing ps with
  | nil => rfl
  | cons id ids ih => rw [goneAll_cons, ih, List.length_map]
theorem liveL_map_gone (id : Bytes) (ps : List PartL) (h : ∀ p ∈ ps, PartOk p) (d : DocL) : d ∈ liveL (ps.map (goneOne id)) ↔ d ∈ liveL ps ∧ d.1 ≠ id := by
  unfold liveL
  simp only [List.mem_flatMap, List.mem_map]
  constructor
  · rintro ⟨q, ⟨p, hp, rfl⟩, hd⟩
    have := (mem_goneOne id p (h p hp) d).1 hd
    exact ⟨⟨p, hp, this.1⟩, this.2⟩
  · rintro ⟨⟨p, hp, hd⟩, hne⟩
    exact ⟨_, ⟨p, hp, rfl⟩, (mem_goneOne id p (h p hp) d).2 ⟨hd, hne⟩⟩
theorem mem_goneAll (ids : List Bytes) (ps : List PartL) (h : ∀ p ∈ ps, PartOk p) (d : DocL) : d ∈ liveL (goneAll ids ps) ↔ d ∈ liveL ps ∧ d.1 ∉ ids := by
  induction ids generalizing ps with
  | nil => simp [goneAll_nil]
  | cons id ids ih =>
    rw [goneAll_cons, ih _ (fun p hp => by obtain ⟨q, hq, rfl⟩ := List.mem_map.1 hp; exact goneOne_ok id q (h q hq)), liveL_map_gone id ps h]
    simp only [List.mem_cons, not_or]
    exact ⟨fun ⟨⟨a, b⟩, c⟩ => ⟨a, b, c⟩, fun ⟨a, b, c⟩ => ⟨⟨a, b⟩, c⟩⟩
theorem sub_goneAll (ids : List Bytes) (ps : List PartL) (h : ∀ p ∈ ps, PartOk p) : (liveL (goneAll ids ps)).Sublist (liveL ps) := by
  induction ids generalizing ps with
  | nil => exact List.Sublist.refl _
  | cons id ids ih =>
    rw [goneAll_cons]
    refine (ih _ (fun p hp => by obtain ⟨q, hq, rfl⟩ := List.mem_map.1 hp; exact goneOne_ok id q (h q hq))).trans ?_
    unfold liveL
    clear ih
    induction ps with
    | nil => exact List.Sublist.slnil
    | cons p ps ih =>
      rw [List.map_cons, List.flatMap_cons, List.flatMap_cons]
      exact (liveOf_sub_gone id p (h p (by simp))).append (ih (fun q hq => h q (by simp [hq])))

/-! ### the ops that count -/
theorem lastL_sub (l : List OpL) : (lastL l).Sublist l := by
  induction l with
  | nil => exact List.Sublist.slnil
  | cons o l ih =>
    rw [lastL]; split
    · exact ih.cons _
    · exact ih.cons_cons _
theorem lastL_ids (l : List OpL) (id : Bytes) : id ∈ idsL l ↔ id ∈ l.map (fun o => o.2.1) := by
  unfold idsL
  induction l with
  | nil => simp [lastL]
  | cons o l ih =>
    rw [lastL]
    by_cases h : o.2.1 ∈ l.map (fun p => p.2.1)
    · rw [if_pos h, ih, List.map_cons, List.mem_cons]
      constructor
      · exact Or.inr
      · rintro (e | e)
        · rw [e]; exact h
        · exact e
    · rw [if_neg h, List.map_cons, List.map_cons, List.mem_cons, List.mem_cons, ih]
theorem lastL_nodup (l : List OpL) : (idsL l).Nodup := by
  unfold idsL
  induction l with
  | nil => simp [lastL]
  | cons o l ih =>
    rw [lastL]
    by_cases h : o.2.1 ∈ l.map (fun p => p.2.1)
    · rw [if_pos h]; exact ih
    · rw [if_neg h, List.map_cons, List.nodup_cons]
      exact ⟨fun hm => h ((lastL_ids l _).1 hm), ih⟩
theorem more_ids (l : List OpL) : ((moreL l).map (·.1)).Sublist (idsL l) := by
  unfold moreL idsL
  rw [List.map_map]
  exact (List.filter_sublist (p := fun o : OpL => !o.1) (l := lastL l)).map (fun o : OpL => o.2.1)
theorem more_right (l : List OpL) (h : l.all opRight = true) : ∀ d ∈ moreL l, rightB d.1 d.2 = true := by
  intro d hd
  unfold moreL at hd
  obtain ⟨o, ho, rfl⟩ := List.mem_map.1 hd
  rw [List.mem_filter] at ho
  have h1 := List.all_eq_true.1 h o ((lastL_sub l).subset ho.1)
  have h2 : o.1 = false := by simpa using ho.2
  unfold opRight at h1
  rw [h2] at h1
  simpa using h1
theorem more_ok (l : List OpL) (h : l.all opRight = true) : docsOk (moreL l) := ⟨more_right l h, (more_ids l).nodup (lastL_nodup l)⟩
theorem bit_zeros (n j : Nat) : bit (List.replicate n 0) j = false := by
  unfold bit
  rw [List.getD_eq_getElem?_getD, List.getElem?_replicate]
  split <;> simp
theorem live_new (l : List DocL) : liveOf (l, makeL l.length) = l := by
  have hz : ∀ j, bit (makeL (l.length : Nat)) j = false := by
    intro j
    unfold makeL
    split
    · exact bit_zeros _ _
    · simp [bit]
  unfold liveOf
  simp only
  generalize makeL (l.length : Nat) = g at hz
  generalize (0 : Nat) = k
  induction l generalizing k with
  | nil => rfl
  | cons d l ih => rw [liveF, hz k]; simp [ih]
theorem live_fresh (l : List DocL) : liveL (freshL l).1 = l := by
  unfold freshL
  split
  · rename_i h; rw [h]; rfl
  · simp [liveL, live_new]
theorem fresh_ok (l : List DocL) (h : docsOk l) (hl : l.length ≤ 500) : ∀ p ∈ (freshL l).1, PartOk p := by
  unfold freshL
  split
  · intro p hp; simp at hp
  · rename_i hne
    intro p hp
    simp only [List.mem_singleton] at hp
    subst hp
    have h1 : 1 ≤ l.length := List.length_pos_iff.2 hne
    refine ⟨h, h1, hl, ?_⟩
    simp only [makeL]
    rw [if_pos (by omega), List.length_replicate]
    omega
theorem fresh_length (l : List DocL) : (freshL l).1.length ≤ 1 := by unfold freshL; split <;> simp
theorem liveL_append (a b : List PartL) : liveL (a ++ b) = liveL a ++ liveL b := by simp [liveL]
/-- what a bulk leads to -/
theorem mem_apply (ps : List PartL) (ops : List OpL) (h : ∀ p ∈ ps, PartOk p) (d : DocL) :
    d ∈ liveL (goneAll (idsL ops) ps ++ (freshL (moreL ops)).1) ↔ (d ∈ liveL ps ∧ d.1 ∉ idsL ops) ∨ d ∈ moreL ops := by
  rw [liveL_append, List.mem_append, mem_goneAll _ _ h, live_fresh]
theorem apply_parts (ps : List PartL) (ops : List OpL) (h : PartsOk ps) (hl : ops.length ≤ 50) (hr : ops.all opRight = true) : PartsOk (goneAll (idsL ops) ps ++ (freshL (moreL ops)).1) := by
  have hlen : (moreL ops).length ≤ 500 := by
    have h1 : (moreL ops).length ≤ (lastL ops).length := by unfold moreL; rw [List.length_map]; exact List.length_filter_le _ _
    have h2 := (lastL_sub ops).length_le
    omega
  refine ⟨fun p hp => ?_, ?_⟩
  · rcases List.mem_append.1 hp with hp | hp
    · exact goneAll_ok _ _ h.1 p hp
    · exact fresh_ok _ (more_ok ops hr) hlen p hp
  · rw [liveL_append, live_fresh, List.map_append, List.nodup_append]
    refine ⟨((sub_goneAll (idsL ops) ps h.1).map _).nodup h.2, (more_ok ops hr).2, ?_⟩
    intro a ha b hb e
    subst e
    obtain ⟨d, hd, rfl⟩ := List.mem_map.1 ha
    exact ((mem_goneAll (idsL ops) ps h.1 d).1 hd).2 ((more_ids ops).subset hb)
theorem apply_ok (ps : List PartL) (ops : List OpL) (h : PartsOk ps) : PartsOk (applyL ps ops).1 := by
  unfold applyL
  split
  · exact h
  · rename_i hl
    split
    · rename_i hr
      exact apply_parts ps ops h (by omega) hr
    · exact h
theorem apply_length (ps : List PartL) (ops : List OpL) : (applyL ps ops).1.length ≤ ps.length + 1 := by
  unfold applyL
  split
  · simp
  · split
    · simp only [List.length_append, goneAll_length]
      have := fresh_length (moreL ops)
      omega
    · simp
end Go.Proofs.YtcflpcpkmhljkaaGreatDoor
end
