/- Plain: documents in the other order (SegmentTurns). No program in sight. -/
import Derived.Test.YtplkkmmmmilceaaGreatDoorMIx2ToSegRd
set_option linter.unusedSimpArgs false
set_option linter.unusedVariables false
set_option linter.unnecessarySimpa false
namespace Go.Proofs.YtplkkmmmmilceaaGreatDoor
set_option linter.unusedVariables false

/-- the same posting in the other order of n documents -/
def turnP (n : Nat) (p : PostL) : PostL := ((n : Int) - 1 - p.1, p.2)
theorem postsF_shift (t : Bytes) (l : List DocL) (i : Nat) : postsF t l (i + 1) = (postsF t l i).map fun p => (p.1 + 1, p.2) := by
  induction l generalizing i with
  | nil => rfl
  | cons d l ih =>
    rw [postsF, postsF, ih (i + 1)]
    split
    · rfl
    · rw [List.map_cons]
      congr 1
theorem postsF_turn (t : Bytes) (l : List DocL) : postsF t l.reverse 0 = ((postsF t l 0).map (turnP l.length)).reverse := by
  induction l with
  | nil => rfl
  | cons d l ih =>
    rw [List.reverse_cons, postsF_snoc, ih, postsF, postsF_shift t l 0, List.length_reverse, Nat.zero_add]
    have e : ((postsF t l 0).map fun p => ((p.1 + 1, p.2) : PostL)).map (turnP (d :: l).length) = (postsF t l 0).map (turnP l.length) := by
      rw [List.map_map]
      refine List.map_congr_left fun p _ => ?_
      simp only [Function.comp, turnP, List.length_cons]
      congr 1
      omega
    by_cases h : placesIn d.2 t = []
    · rw [if_pos h, if_pos h, List.append_nil, e]
    · rw [if_neg h, if_neg h, List.map_cons, List.reverse_cons, e]
      congr 2
      simp only [turnP, List.length_cons]
      congr 1
      omega
theorem termsL_turn (l : List DocL) : termsL l.reverse = termsL l := by
  refine rise_ext _ _ (termsL_rise _) (termsL_rise _) (fun x => ?_)
  rw [mem_termsL, mem_termsL]
  simp only [List.mem_flatMap, List.mem_reverse]
theorem docsOk_turn (l : List DocL) : docsOk l.reverse ↔ docsOk l := by
  unfold docsOk
  rw [List.map_reverse, (List.reverse_perm _).nodup_iff]
  simp only [List.mem_reverse]
theorem fromP_zero (t : Bytes) (l : List DocL) : fromP (postsF t l 0) 0 = postsF t l 0 := by
  unfold fromP
  rw [List.filter_eq_self]
  intro p hp
  have := (postsF_docs t l 0 p hp).1
  simp at this ⊢
  omega
theorem postsF_turn_at (t : Bytes) (l : List DocL) (k : Nat) (hk : k < (postsF t l 0).length) : (postsF t l.reverse 0).length = (postsF t l 0).length ∧ (postsF t l.reverse 0)[(postsF t l 0).length - 1 - k]? = some (turnP l.length (postsF t l 0)[k]) := by
  rw [postsF_turn]
  refine ⟨by simp, ?_⟩
  rw [List.getElem?_reverse (by simp; omega), List.length_map, List.getElem?_map, show (postsF t l 0).length - 1 - ((postsF t l 0).length - 1 - k) = k by omega, List.getElem?_eq_getElem hk]
  rfl
theorem turnP_turn (n : Nat) (p : PostL) : turnP n (turnP n p) = p := by
  obtain ⟨d, ps⟩ := p
  simp only [turnP]
  congr 1
  omega
end Go.Proofs.YtplkkmmmmilceaaGreatDoor
