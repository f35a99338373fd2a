/- The opening of an argument that is a row of hits. -/
import Derived.Test.YtcflpcpkmhljkaaGreatDoorMWSrRToShown18
import Derived.Test.YtcflpcpkmhljkaaGreatDoorMOpen0ToTabs
set_option linter.unusedSimpArgs false
set_option linter.unusedVariables false
set_option linter.unnecessarySimpa false
namespace Go.Proofs.YtcflpcpkmhljkaaGreatDoor
open Go.ChangeShapes Go.WideShapes Go.ChangeAt Go.RowKit Go.Deep
set_option linter.unusedVariables false
set_option maxRecDepth 100000

/-- hits as a law's argument -/
def HitsArg (w : World) (v : Value) (l : List HitI) : Prop := HitsI w v l ∧ ∀ a n c, v = .slice a n c → n ≤ c
def HitsWf (l : List HitI) : Prop := l.length ≤ 9223372036854775807
section
variable {H : Type} {enc : TypeId × Value → H} {w : World} {base : Nat} {spare : Nat → Bool} {held : Bool}
theorem trod_i64 {n : Nat} {cs : List Value} {x : DataW H × List MemPlace} (h : DataW.trod enc Tryz.prog w base spare held n 3 cs = some x) : ∃ i : Int, cs = [.int .i64 i] := by
  obtain ⟨i, hi, _⟩ := DataW.trod_int Tryz.underlying3 h
  exact ⟨i, hi⟩
theorem trod_hit {n : Nat} {cs : List Value} {x : DataW H × List MemPlace} (h : DataW.trod enc Tryz.prog w base spare held n 49 cs = some x) : ∃ d : HitI, cs = [strV d.1, .int .i64 d.2] := by
  have c9 : Tryz.prog.cellsOf 9 = 1 := by kernel_rfl
  have c3 : Tryz.prog.cellsOf 3 = 1 := by kernel_rfl
  have c40 : Tryz.prog.cellsOf 49 = 2 := by kernel_rfl
  obtain ⟨xs, n', _, _, hcl, hxl, hf⟩ := DataW.trod_struct Tryz.underlying49 h
  rw [c40] at hcl
  match cs, hcl with
  | [a, b], _ =>
    have g0 : DataW.trod enc Tryz.prog w base spare held n' 9 (([a, b].drop 0).take (Tryz.prog.cellsOf 9)) = xs[0]? := hf 0 _ rfl
    rw [c9] at g0
    have h0 : DataW.trod enc Tryz.prog w base spare held n' 9 [a] = xs[0]? := g0
    have g1 : DataW.trod enc Tryz.prog w base spare held n' 3 (([a, b].drop 1).take (Tryz.prog.cellsOf 3)) = xs[1]? := hf 1 _ rfl
    rw [c3] at g1
    have h1 : DataW.trod enc Tryz.prog w base spare held n' 3 [b] = xs[1]? := g1
    have hx2 : xs.length = 2 := hxl
    rw [List.getElem?_eq_getElem (by omega)] at h0 h1
    obtain ⟨s, e0, l0⟩ := trod_str h0
    obtain ⟨t, e1⟩ := trod_i64 h1
    cases e0; cases e1
    exact ⟨(s, t), rfl⟩
def HitR (cs : List Value) (d : HitI) : Prop := cs = [strV d.1, .int .i64 d.2]
theorem flat_hits (l : List HitI) (css : List (List Value)) (hl : l.length = css.length) (h : ∀ (i : Nat) a c, css[i]? = some c → l[i]? = some a → HitR c a) : css.flatten = hitIVs l := by
  induction l generalizing css with
  | nil => have : css = [] := List.eq_nil_of_length_eq_zero hl.symm; subst this; rfl
  | cons o l ih =>
    cases css with
    | nil => simp at hl
    | cons c css =>
      have h0 := (h 0 o c rfl rfl)
      rw [List.flatten_cons, ih css (by simpa using hl) (fun i a c hc ha => h (i + 1) a c (by simpa using hc) (by simpa using ha)), show c = _ from h0]
      rfl
theorem open_hits {fuel : Nat} {v : Value} {x : DataW H × List MemPlace} (h : DataW.trod enc Tryz.prog w base spare held fuel 25 [v] = some x) : ∃ l : List HitI, HitsArg w v l ∧ HitsWf l := by
  obtain ⟨l, css, hl, hs, hr, hm⟩ := open_sl (α := HitI) Tryz.underlying25 2 (by kernel_rfl) (by decide) HitR (fun n cs x h => trod_hit h) h
  refine ⟨l, ⟨?_, fun a n c hv => ?_⟩, by unfold maxLen at hm; exact hm⟩
  · unfold HitsI; rw [← flat_hits l css hl hr]; exact hs
  · rcases open_slice Tryz.underlying25 h with ⟨h0, _⟩ | ⟨a', len, cap, m, n', D, Pl, hcs, _, hlc, _⟩
    · obtain rfl : v = .slice none 0 0 := by simpa using h0
      cases hv; exact Nat.le_refl _
    · obtain rfl : v = .slice (some a') len cap := by simpa using hcs
      cases hv; exact hlc
end
end Go.Proofs.YtcflpcpkmhljkaaGreatDoor
