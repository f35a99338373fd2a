/- Joined texts of one proof: Open0, Tabs. -/
import Derived.Test.YtcflpcpkmhljkaaGreatDoorMWPostIToWSegDocs
import Derived.Test.YtcflpcpkmhljkaaGreatDoorMOwnToWDictI
import Derived.Test.YtcflpcpkmhljkaaGreatDoorShelf
import Derived.Deep.Slices
import Derived.ProofKit
import Derived.OpenShut
import Derived.ShutString
import Derived.Carry
import Derived.LaidMore
import Derived.Lay
import Derived.Lib.LaidU8T
import Derived.PinnedBridge
import Derived.Test.YtcflpcpkmhljkaaGreatDoorRows
set_option linter.unusedSimpArgs false
set_option linter.unusedVariables false
set_option linter.unnecessarySimpa false
/- (Open0) Arguments opened to cells: slices; slices of documents. -/
section
namespace Go.Proofs.YtcflpcpkmhljkaaGreatDoor
open Go.ChangeShapes Go.WideShapes Go.ChangeAt Go.RowKit Go.Deep
set_option linter.unusedVariables false
set_option maxRecDepth 100000

theorem flatD_at (css : List (List Value)) (sz : Nat) (h : ∀ c ∈ css, c.length = sz) (j : Nat) (u : Value) (hj : css.flatten[j]? = some u) : ∃ i r c, css[i]? = some c ∧ c[r]? = some u ∧ j = i * sz + r ∧ r < sz := by
  induction css generalizing j with
  | nil => simp at hj
  | cons c css ih =>
    have hc := h c (by simp)
    rw [List.flatten_cons] at hj
    by_cases hlt : j < c.length
    · rw [List.getElem?_append_left hlt] at hj
      exact ⟨0, j, c, rfl, hj, by omega, by omega⟩
    · rw [List.getElem?_append_right (by omega)] at hj
      obtain ⟨i, r, c', h1, h2, h3, h4⟩ := ih (fun x hx => h x (by simp [hx])) _ hj
      exact ⟨i + 1, r, c', by simpa using h1, h2, by rw [Nat.add_mul]; omega, h4⟩
theorem flat_length (css : List (List Value)) (sz : Nat) (h : ∀ c ∈ css, c.length = sz) : css.flatten.length = css.length * sz := by
  induction css with
  | nil => simp
  | cons c css ih =>
    rw [List.flatten_cons, List.length_append, ih (fun x hx => h x (by simp [hx])), h c (by simp), List.length_cons, Nat.add_mul]; omega
section
variable {H : Type} {enc : TypeId × Value → H} {P : Program} {w : World} {base : Nat} {spare : Nat → Bool} {held : Bool}
/-- a slice that is read: its elements, one by one -/
theorem open_sl {α : Type} [Inhabited α] {t e : TypeId} (ht : P.underlying t = some (.slice e)) (sz : Nat) (hC : P.cellsOf e = sz) (hsz : 0 < sz) (R : List Value → α → Prop)
    (hR : ∀ n cs x, DataW.trod enc P w base spare held n e cs = some x → ∃ a, R cs a) {fuel : Nat} {v : Value} {x : DataW H × List MemPlace} (h : DataW.trod enc P w base spare held fuel t [v] = some x) :
    ∃ (xs : List α) (css : List (List Value)), xs.length = css.length ∧ Sl w v xs.length sz css.flatten ∧ (∀ (i : Nat) a c, css[i]? = some c → xs[i]? = some a → R c a) ∧ xs.length ≤ maxLen := by
  rcases open_slice ht h with ⟨h0, _⟩ | ⟨a, len, cap, m, n, D, Pl, hcs, _, hl, hm, hmm, _, hel⟩
  · obtain rfl : v = .slice none 0 0 := by simpa using h0
    exact ⟨[], [], rfl, Sl.nil _ _, fun i a c hc => by simp at hc, by simp⟩
  · obtain rfl : v = .slice (some a) len cap := by simpa using hcs
    have hlm : len ≤ m := by rw [hmm]; split <;> omega
    have hex : ∀ i : Nat, ∃ p : List Value × α, i < len → (w.cells? base (a.add (i * sz)) sz = some p.1 ∧ R p.1 p.2) := by
      intro i
      by_cases hi : i < len
      · obtain ⟨cs', h1, h2⟩ := hel i (by omega)
        rw [hC] at h1
        obtain ⟨b, hb⟩ := hR _ _ _ h2
        exact ⟨(cs', b), fun _ => ⟨h1, hb⟩⟩
      · exact ⟨([], default), fun h => absurd h hi⟩
    obtain ⟨f, hf⟩ := Classical.axiomOfChoice hex
    have hlen : ∀ c ∈ (List.range len).map (fun i => (f i).1), c.length = sz := by
      intro c hc
      obtain ⟨i, hi, rfl⟩ := List.mem_map.1 hc
      exact (World.cells?_some (hf i (List.mem_range.1 hi)).1).2.1
    refine ⟨(List.range len).map (fun i => (f i).2), (List.range len).map (fun i => (f i).1), by simp, ⟨?_, some a, cap, by simp, fun hn => ?_⟩, fun i b c hc hb => ?_, by simp; omega⟩
    · rw [flat_length _ sz hlen]; simp
    · simp only [List.length_map, List.length_range] at hn
      have h0 := (World.cells?_some (hf 0 hn).1).2.2 0 hsz
      obtain ⟨b, off, spot⟩ := a
      have hl0 := (World.cells?_some (hf 0 hn).1).2.1
      rw [List.getElem?_eq_getElem (by omega)] at h0
      have hspot : spot = none := by simpa [Addr.add] using World.cell?_spot h0
      subst hspot
      refine ⟨b, off, rfl, fun j u hj => ?_⟩
      obtain ⟨i, r, c, h1, h2, h3, h4⟩ := flatD_at _ sz hlen j u hj
      rw [List.getElem?_map] at h1
      cases hr : (List.range len)[i]? with
      | none => rw [hr] at h1; cases h1
      | some i' =>
        rw [hr] at h1
        cases h1
        obtain ⟨hil, hii⟩ := List.getElem?_eq_some_iff.1 hr
        rw [List.getElem_range] at hii
        subst hii
        have := (World.cells?_some (hf i (by simpa using hil)).1).2.2 r h4
        rw [h2, add_off, add_off] at this
        rw [h3, ← Nat.add_assoc]; exact this
    · rw [List.getElem?_map] at hc hb
      cases hr : (List.range len)[i]? with
      | none => rw [hr] at hc; cases hc
      | some i' =>
        rw [hr] at hc hb
        cases hc; cases hb
        obtain ⟨hil, hii⟩ := List.getElem?_eq_some_iff.1 hr
        rw [List.getElem_range] at hii
        subst hii
        exact (hf i (by simpa using hil)).2
end
section
variable {H : Type} {enc : TypeId × Value → H} {w : World} {base : Nat} {spare : Nat → Bool} {held : Bool}
theorem trod_str {n : Nat} {cs : List Value} {x : DataW H × List MemPlace} (h : DataW.trod enc Tryz.prog w base spare held n 9 cs = some x) : ∃ s : Bytes, cs = [strV s] ∧ s.length ≤ 9223372036854775807 := by
  obtain ⟨s, hs, _, hl⟩ := DataW.trod_string Tryz.underlying9 h
  refine ⟨s.data.toList, ?_, ?_⟩
  · rw [hs]
  · unfold maxLen at hl
    have e : s.data.toList.length = s.size := Array.length_toList
    rw [e]; exact hl
theorem trod_doc {n : Nat} {cs : List Value} {x : DataW H × List MemPlace} (h : DataW.trod enc Tryz.prog w base spare held n 63 cs = some x) : ∃ d : DocL, cs = [strV d.1, strV d.2] ∧ d.1.length ≤ 9223372036854775807 ∧ d.2.length ≤ 9223372036854775807 := by
  have c9 : Tryz.prog.cellsOf 9 = 1 := by kernel_rfl
  have c40 : Tryz.prog.cellsOf 63 = 2 := by kernel_rfl
  obtain ⟨xs, n', _, _, hcl, hxl, hf⟩ := DataW.trod_struct Tryz.underlying63 h
  rw [c40] at hcl
  match cs, hcl with
  | [a, b], _ =>
    have g0 : DataW.trod enc Tryz.prog w base spare held n' 9 (([a, b].drop 0).take (Tryz.prog.cellsOf 9)) = xs[0]? := hf 0 _ rfl
    rw [c9] at g0
    have h0 : DataW.trod enc Tryz.prog w base spare held n' 9 [a] = xs[0]? := g0
    have g1 : DataW.trod enc Tryz.prog w base spare held n' 9 (([a, b].drop 1).take (Tryz.prog.cellsOf 9)) = xs[1]? := hf 1 _ rfl
    rw [c9] at g1
    have h1 : DataW.trod enc Tryz.prog w base spare held n' 9 [b] = xs[1]? := g1
    have hx2 : xs.length = 2 := hxl
    rw [List.getElem?_eq_getElem (by omega)] at h0 h1
    obtain ⟨s, e0, l0⟩ := trod_str h0
    obtain ⟨t, e1, l1⟩ := trod_str h1
    cases e0; cases e1
    exact ⟨(s, t), rfl, l0, l1⟩
def DocR (cs : List Value) (d : DocL) : Prop := cs = [strV d.1, strV d.2] ∧ d.1.length ≤ 9223372036854775807 ∧ d.2.length ≤ 9223372036854775807
theorem flat_docs (l : List DocL) (css : List (List Value)) (hl : l.length = css.length) (h : ∀ (i : Nat) a c, css[i]? = some c → l[i]? = some a → DocR c a) : css.flatten = docVs l := by
  induction l generalizing css with
  | nil => have : css = [] := List.eq_nil_of_length_eq_zero hl.symm; subst this; rfl
  | cons o l ih =>
    cases css with
    | nil => simp at hl
    | cons c css =>
      have h0 := (h 0 o c rfl rfl).1
      rw [List.flatten_cons, ih css (by simpa using hl) (fun i a c hc ha => h (i + 1) a c (by simpa using hc) (by simpa using ha)), h0]
      simp [docVs]
def DocsWf (l : List DocL) : Prop := l.length ≤ 9223372036854775807 ∧ ∀ d ∈ l, d.1.length ≤ 9223372036854775807 ∧ d.2.length ≤ 9223372036854775807
theorem open_docs {fuel : Nat} {v : Value} {x : DataW H × List MemPlace} (h : DataW.trod enc Tryz.prog w base spare held fuel 43 [v] = some x) : ∃ l : List DocL, Docs w v l ∧ DocsWf l := by
  obtain ⟨l, css, hl, hs, hr, hm⟩ := open_sl (α := DocL) Tryz.underlying43 2 (by kernel_rfl) (by decide) DocR (fun n cs x h => trod_doc h) h
  refine ⟨l, ?_, by unfold maxLen at hm; exact hm, fun o ho => ?_⟩
  · unfold Docs; rw [← flat_docs l css hl hr]; exact hs
  · obtain ⟨i, hi⟩ := List.getElem?_of_mem ho
    have hil := (List.getElem?_eq_some_iff.1 hi).1
    exact (hr i o _ (List.getElem?_eq_getElem (by omega)) hi).2
end
end Go.Proofs.YtcflpcpkmhljkaaGreatDoor
end

/- (Tabs) What the listed variables say of memory: utf8's tables, the table of kinds. -/
section
namespace Go.Proofs.YtcflpcpkmhljkaaGreatDoor
open Go.ChangeShapes Go.WideShapes Go.ChangeAt Go.RowKit Go.Lib Go.Shelf
set_option linter.unusedVariables false
set_option maxRecDepth 100000

abbrev laidL : List (String × DataW Unit) := [("unicode/utf8.acceptRanges", Rows.laid_unicode_utf8_acceptRanges), ("codex/utf.spans", Rows.laid_codex_utf_spans), ("unicode/utf8.first", Rows.laid_unicode_utf8_first)]
theorem u8extra : U8Extra Tryz.prog Tryz.lays196_ren := ⟨by kernel_rfl, by kernel_rfl, by kernel_rfl, by kernel_rfl, by kernel_rfl, by kernel_rfl, by kernel_rfl⟩
theorem accept_eq : (Rows.laid_unicode_utf8_acceptRanges : DataW Unit) = acceptData := by kernel_rfl
theorem first_eq : Rows.laid_unicode_utf8_first = firstData := Pinned.utf8First_eq
theorem tabs_of {W : World} (h : laidMet Tryz.prog laidL W) : Tabs W := by
  have h1 := Lib.laidMet.reads h (n := "unicode/utf8.first") (d := Rows.laid_unicode_utf8_first) (by simp)
  have h2 := Lib.laidMet.reads h (n := "unicode/utf8.acceptRanges") (d := Rows.laid_unicode_utf8_acceptRanges) (by simp)
  rw [first_eq] at h1
  rw [accept_eq] at h2
  exact utf8Tabs_of_readsT (U8Types.of196 Tryz.lays196) u8extra h1 h2
def spansData : DataW Unit := .agg (spansL.map fun x => .agg [.lit (.int .i32 x.1), .lit (.int .i32 x.2.1), .lit (.int .i64 x.2.2)])
theorem spans_eq : (Rows.laid_codex_utf_spans : DataW Unit) = spansData := by kernel_rfl
theorem spans_of {W : World} (h : laidMet Tryz.prog laidL W) : Spans W := by
  have h1 := Lib.laidMet.reads h (n := "codex/utf.spans") (d := Rows.laid_codex_utf_spans) (by simp)
  rw [spans_eq] at h1
  obtain ⟨g, t, cs, fuel, p, hg, hty, hvar, hd⟩ := h1
  have n2 : Tryz.prog.globalNamed "codex/utf.spans" = some 2 := by kernel_rfl
  have y2 : (Tryz.prog.globals[2]?).map (·.type) = some 296 := by kernel_rfl
  obtain rfl := Option.some.inj (n2.symm.trans hg)
  obtain rfl := Option.some.inj (y2.symm.trans hty)
  have cE : Tryz.prog.cellsOf 295 = 3 := by kernel_rfl
  have c32 : Tryz.prog.cellsOf 21 = 1 := by kernel_rfl
  have c64 : Tryz.prog.cellsOf 3 = 1 := by kernel_rfl
  intro i x hx
  have hil : i < 34 := by have := (List.getElem?_eq_some_iff.1 hx).1; rwa [spans_len] at this
  obtain ⟨fuel', d, q, hdi, he⟩ := array_elem Tryz.underlying296 hd i hil
  rw [List.getElem?_map, hx] at hdi
  cases hdi
  rw [cE] at he
  obtain ⟨xs, n', _, hxx, hcl, hxl, hf⟩ := DataW.trod_struct Tryz.underlying295 he
  rw [cE] at hcl
  have hcell : ∀ r, r < 3 → W.cell? ⟨2, i * 3 + r, none⟩ = ((cs.toList.drop (i * 3)).take 3)[r]? := by
    intro r hr
    rw [World.var?_cell hg hvar (i * 3 + r), ← Array.getElem?_toList, List.getElem?_take, if_pos hr, List.getElem?_drop]
  generalize (cs.toList.drop (i * 3)).take 3 = c3 at *
  match c3, hcl with
  | [a, b, c], _ =>
    have g0 : DataW.trod (fun _ => ()) Tryz.prog W 0 (fun _ => true) false n' 21 (([a, b, c].drop 0).take (Tryz.prog.cellsOf 21)) = xs[0]? := hf 0 _ rfl
    have g1 : DataW.trod (fun _ => ()) Tryz.prog W 0 (fun _ => true) false n' 21 (([a, b, c].drop 1).take (Tryz.prog.cellsOf 21)) = xs[1]? := hf 1 _ rfl
    have g2 : DataW.trod (fun _ => ()) Tryz.prog W 0 (fun _ => true) false n' 3 (([a, b, c].drop 2).take (Tryz.prog.cellsOf 3)) = xs[2]? := hf 2 _ rfl
    rw [c32] at g0 g1
    rw [c64] at g2
    have hx3 : xs.length = 3 := hxl
    match xs, hx3 with
    | [x0, x1, x2], _ =>
      obtain ⟨z0, e0, f0, _⟩ := DataW.trod_int Tryz.underlying21 (show DataW.trod (fun _ => ()) Tryz.prog W 0 (fun _ => true) false n' 21 [a] = some x0 from g0)
      obtain ⟨z1, e1, f1, _⟩ := DataW.trod_int Tryz.underlying21 (show DataW.trod (fun _ => ()) Tryz.prog W 0 (fun _ => true) false n' 21 [b] = some x1 from g1)
      obtain ⟨z2, e2, f2, _⟩ := DataW.trod_int Tryz.underlying3 (show DataW.trod (fun _ => ()) Tryz.prog W 0 (fun _ => true) false n' 3 [c] = some x2 from g2)
      cases e0; cases e1; cases e2; subst f0; subst f1; subst f2
      simp only [Prod.mk.injEq, DataW.agg.injEq, List.map_cons, List.map_nil, List.cons.injEq, DataW.lit.injEq, Lit.int.injEq, true_and, and_true] at hxx
      obtain ⟨⟨q0, q1, q2⟩, _⟩ := hxx
      rw [q0, q1, q2]
      exact ⟨hcell 0 (by omega), hcell 1 (by omega), hcell 2 (by omega)⟩
end Go.Proofs.YtcflpcpkmhljkaaGreatDoor
end
