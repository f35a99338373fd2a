/- Plain: valid texts, in both spellings. -/
import Derived.Test.YtcblmcbpnakphaaGreatDoorMWRef10eToWRef11b
import Derived.Lib.ValidLaws
import Derived.Lib.TrimUEq
set_option linter.unusedSimpArgs false
set_option linter.unusedVariables false
set_option linter.unnecessarySimpa false
namespace Go.Proofs.YtcblmcbpnakphaaGreatDoor
set_option linter.unusedVariables false

theorem decodeN_none (n b0 b1 b2 b3 : Nat) (h : (Lib.decodeN n b0 b1 b2 b3).1 = 65533) : (Lib.decodeN n b0 b1 b2 b3).2 = 1 ∨ 3 ≤ (Lib.decodeN n b0 b1 b2 b3).2 := by
  unfold Lib.decodeN at h ⊢
  repeat' split
  all_goals (try simp only at h ⊢)
  all_goals first | omega | (simp_all; done) | (simp_all; omega)
theorem rune1_D (s : Bytes) (h : s ≠ []) : (0 ≤ (rune1 s).1 ↔ ¬ ((Lib.decodeL s).1 = 65533 ∧ (Lib.decodeL s).2 = 1)) ∧ (rune1 s).2 = (Lib.decodeL s).2 := by
  cases s with
  | nil => exact absurd rfl h
  | cons b t =>
    have hd : Lib.decodeL (b :: t) = Lib.decodeN (b :: t).length ((b :: t).getD 0 0).toNat ((b :: t).getD 1 0).toNat ((b :: t).getD 2 0).toNat ((b :: t).getD 3 0).toNat := Lib.decodeL_N _
    have h2 := decodeN_none (b :: t).length ((b :: t).getD 0 0).toNat ((b :: t).getD 1 0).toNat ((b :: t).getD 2 0).toNat ((b :: t).getD 3 0).toNat
    rw [← hd] at h2
    have hr : rune1 (b :: t) = if (Lib.decodeN (b :: t).length ((b :: t).getD 0 0).toNat ((b :: t).getD 1 0).toNat ((b :: t).getD 2 0).toNat ((b :: t).getD 3 0).toNat).1 = 65533 ∧ (Lib.decodeN (b :: t).length ((b :: t).getD 0 0).toNat ((b :: t).getD 1 0).toNat ((b :: t).getD 2 0).toNat ((b :: t).getD 3 0).toNat).2 < 3 then (-1, (Lib.decodeN (b :: t).length ((b :: t).getD 0 0).toNat ((b :: t).getD 1 0).toNat ((b :: t).getD 2 0).toNat ((b :: t).getD 3 0).toNat).2) else (((Lib.decodeN (b :: t).length ((b :: t).getD 0 0).toNat ((b :: t).getD 1 0).toNat ((b :: t).getD 2 0).toNat ((b :: t).getD 3 0).toNat).1 : Int), (Lib.decodeN (b :: t).length ((b :: t).getD 0 0).toNat ((b :: t).getD 1 0).toNat ((b :: t).getD 2 0).toNat ((b :: t).getD 3 0).toNat).2) := rfl
    rw [← hd] at hr
    rw [hr]
    clear hr hd
    generalize Lib.decodeL (b :: t) = d at *
    by_cases h1 : d.1 = 65533 ∧ d.2 < 3
    · rw [if_pos h1]
      have := h2 h1.1
      refine ⟨⟨fun h => by simp at h, fun h => absurd ⟨h1.1, by omega⟩ h⟩, rfl⟩
    · rw [if_neg h1]
      refine ⟨⟨fun _ hh => h1 ⟨hh.1, by omega⟩, fun _ => by simp⟩, rfl⟩
theorem validL_D (n : Nat) (s : Bytes) (hn : s.length ≤ n) : validL s = Lib.validD s := by
  induction n generalizing s with
  | zero =>
    have : s = [] := List.eq_nil_of_length_eq_zero (by omega)
    subst this; rfl
  | succ n ih =>
    by_cases h : s = []
    · subst h; rfl
    · obtain ⟨h1, h2⟩ := rune1_D s h
      have h3 := rune1_size s h
      rw [validL_step s h, Lib.validD_step s h, ← h2, ih _ (by rw [List.length_drop]; omega)]
      by_cases hb : (Lib.decodeL s).1 = 65533 ∧ (Lib.decodeL s).2 = 1
      · rw [if_pos (by rw [h2]; exact hb)]
        have : decide (0 ≤ (rune1 s).1) = false := decide_eq_false (fun h => h1.1 h hb)
        rw [this]; rfl
      · rw [if_neg (by rw [h2]; exact hb), decide_eq_true (h1.2 hb), Bool.true_and]
end Go.Proofs.YtcblmcbpnakphaaGreatDoor
