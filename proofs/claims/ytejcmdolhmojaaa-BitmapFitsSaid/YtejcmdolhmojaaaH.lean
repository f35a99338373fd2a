/- trial -/
import Derived.Test.YtejcmdolhmojaaaF
import Derived.Test.YtejcmdolhmojaaaKit
import Derived.Test.YtejcmdolhmojaaaBase2
import Derived.Deep.DeepMust
namespace Go.Proofs.Ytejcmdolhmojaaa
open Go.RowKit
set_option linter.unusedVariables false
theorem tinfo36 : (Try.prog.info? 36).map (fun i => (i.zero, i.size, i.bytes)) = some (some (.agg #[.int .i64 0, .int .i64 0]), 2, 16) := by kernel_rfl
set_option maxHeartbeats 1000000 in
theorem rRuns_any (l : List UInt8) (n : Int) (w : World) (hs : l.length ≤ 1099511627776) (h1 : -9223372036854775808 ≤ n) (h2 : n ≤ 9223372036854775807):
    Calls Try.prog 22 #[.string ⟨l.toArray⟩, .int .i64 n] w fun e w' => ∃ v, e = .returned v ∧ Below w.heap.size w w' ∧
      w'.ownsRow w.heap.size 36 2 v (runsTo l (firstN l n)).length (ext (runsTo l (firstN l n))) := by
  have hN := firstN_le l n
  have hs8 : l.length ≤ 9223372036854775807 / 8 := by omega
  have h4 : l.length ≤ 9223372036854775807 := by omega
  have hf := fun w => first_any l n w hs8 h1 h2
  generalize firstN l n = N at *
  have HF := Lib.hid hf; clear hf
  obtain ⟨i0, hi, hz0, hz1, hz2⟩ := info_parts tinfo36
  go_enter Try.func22, Try.ntmps22
  go_wp2_with fail
  refine (HF.out _).mono ?_
  rintro e w' ⟨rfl, rfl⟩
  go_wp2_with fail
  go_loopw [7, 5, 8] (fun i t _ wr => ∃ k : Nat, k ≤ N + 1 ∧ i = .int .i64 k ∧ wr.ownsRow w.heap.size 36 2 t (runsTo l (min k N)).length (ext (runsTo l (min k N))) ∧ Below w.heap.size w wr ∧
      Hid (k = 0 ∨ N < k ∨ bit l (k - 1) = true)) (fun i _ _ _ => N + 1 - (intOf i).toNat)
  case atStart => exact ⟨0, by omega, rfl, by rw [show min 0 N = 0 by omega]; exact World.ownsRow_nil _ _ _ _, Below.refl _ _, Or.inl rfl⟩
  case round =>
    obtain ⟨i, hi1, rfl, hown, hb, HI⟩ := hrel
    obtain ⟨wo, rfl⟩ : ∃ wo : World, wo = wr := ⟨_, rfl⟩
    by_cases hlt : i < N
    · have hI : i = 0 ∨ bit l (i - 1) = true := by
        rcases HI with h | h | h
        · exact Or.inl h
        · omega
        · exact Or.inr h
      rw [show min i N = i by omega] at hown
      have hlen := runsTo_length l i
      have HI := Lib.hid hI; have HO := Lib.hid hown; have HB := Lib.hid hb; clear hI hown hb
      go_wp2_with fail
      go_loop [8] (fun v => ∃ k : Nat, i ≤ k ∧ k ≤ N ∧ v = .int .i64 k ∧ Hid (∀ j, i ≤ j → j < k → bit l j = false)) (fun v => N - (intOf v).toNat)
      case atStart => exact ⟨i, by omega, by omega, rfl, fun j h1 h2 => by omega⟩
      case round =>
        obtain ⟨k, hk1, hk2, rfl, HJ⟩ := hrel
        by_cases hkN : k < N
        · cases hbk : bit l k with
          | false =>
            have HBK := Lib.hid hbk; clear hbk
            go_wp2_with fail
            refine (rget_any l k _ h4 (by omega)).mono ?_
            rintro e w' ⟨rfl, rfl⟩
            rw [bitI_nat, HBK.out]
            go_wp2_with fail
            go_round
            case rel => exact ⟨k + 1, by omega, by omega, by go_num, fun j h1 h2 => by
              by_cases e : j = k
              · subst e; exact HBK.out
              · exact HJ.out j h1 (by omega)⟩
            case measure => simp [intOf]; omega
          | true =>
            have HBK := Lib.hid hbk; clear hbk
            go_wp2_with fail
            refine (rget_any l k _ h4 (by omega)).mono ?_
            rintro e w' ⟨rfl, rfl⟩
            rw [bitI_nat, HBK.out]
            have hex : k = N ∨ bit l k = true := Or.inr HBK.out
            have HNX : Hid (k + 1 = 0 ∨ N < k + 1 ∨ bit l (k + 1 - 1) = true) := Or.inr (Or.inr HBK.out)
            by_cases hik : i < k
            · have hm := runs_more l i k N HI.out hik (by omega) HJ.out hex
              generalize runsTo l i = rs at *
              have HM := Lib.hid hm; clear hm hex
              have hown := HO.out
              go_wp2_with (at_builtin; go_must (refine wpList_app wo (by rfl) _ _ 32 (by rfl) w.heap.size 36 _ i0 (.agg #[.int .i64 0, .int .i64 0]) 2 16 Try.underlying32 hi hz0 hz1 hz2 rfl (by decide) (by decide) _ _ _ (by rfl) hown #[.int .i64 i, .int .i64 ((k : Int) - i)] (by rfl) rfl ?c1 ?c2 HB.out.size ?_))
              case c1 => simp [Value.oneCell']
              case c2 => omega
              intro g cap w1 hown1 hg1 hat hlt1 hsz1
              have hb1 := HB.out.grown hg1 HB.out.size (fun k hk => by have := (hown.lt k hk).1; omega)
              have e : ext rs ++ (#[Value.int .i64 i, .int .i64 ((k : Int) - i)] : Array Value).toList = ext (rs ++ [(i, k - i)]) := by
                rw [ext_append]; simp [ext]; omega
              rw [e] at hown1
              clear hown hat hg1 HB e
              have HB := Lib.hid hb1; have HO1 := Lib.hid hown1; clear hb1 hown1
              go_wp2_with fail
              go_roundw
              case rel => exact ⟨k + 1, by omega, by go_num, by rw [HM.out, List.length_append]; exact HO1.out, HB.out, HNX⟩
              case measure => simp [intOf]; omega
            · have hm := runs_none l k N (by omega) hex
              have hki : k = i := by omega
              subst hki
              have HM := Lib.hid hm; clear hm hex
              go_wp2_with fail
              go_roundw
              case rel => exact ⟨k + 1, by omega, by go_num, by rw [HM.out]; exact HO.out, HB.out, HNX⟩
              case measure => simp [intOf]; omega

        · have hkN : k = N := by omega
          have hex : k = N ∨ bit l k = true := Or.inl hkN
          have HNX : Hid (k + 1 = 0 ∨ N < k + 1 ∨ bit l (k + 1 - 1) = true) := Or.inr (Or.inl (by omega))
          have HKN := Lib.hid hkN; clear hkN
          have hkN : ¬ k < N := by rw [HKN.out]; omega
          by_cases hik : i < k
          · have hm := runs_more l i k N HI.out hik (by omega) HJ.out hex
            generalize runsTo l i = rs at *
            have HM := Lib.hid hm; clear hm hex
            have hown := HO.out
            go_wp2_with (at_builtin; go_must (refine wpList_app wo (by rfl) _ _ 32 (by rfl) w.heap.size 36 _ i0 (.agg #[.int .i64 0, .int .i64 0]) 2 16 Try.underlying32 hi hz0 hz1 hz2 rfl (by decide) (by decide) _ _ _ (by rfl) hown #[.int .i64 i, .int .i64 ((k : Int) - i)] (by rfl) rfl ?c1 ?c2 HB.out.size ?_))
            case c1 => simp [Value.oneCell']
            case c2 => omega
            intro g cap w1 hown1 hg1 hat hlt1 hsz1
            have hb1 := HB.out.grown hg1 HB.out.size (fun k hk => by have := (hown.lt k hk).1; omega)
            have e : ext rs ++ (#[Value.int .i64 i, .int .i64 ((k : Int) - i)] : Array Value).toList = ext (rs ++ [(i, k - i)]) := by
              rw [ext_append]; simp [ext]; omega
            rw [e] at hown1
            clear hown hat hg1 HB e
            have HB := Lib.hid hb1; have HO1 := Lib.hid hown1; clear hb1 hown1
            go_wp2_with fail
            go_roundw
            case rel => exact ⟨k + 1, by omega, by go_num, by rw [HM.out, List.length_append]; exact HO1.out, HB.out, HNX⟩
            case measure => simp [intOf]; omega
          · have hm := runs_none l k N (by omega) hex
            have hki : k = i := by omega
            subst hki
            have HM := Lib.hid hm; clear hm hex
            go_wp2_with fail
            go_roundw
            case rel => exact ⟨k + 1, by omega, by go_num, by rw [HM.out]; exact HO.out, HB.out, HNX⟩
            case measure => simp [intOf]; omega
    · go_wp2_with fail
      go_ret
      rw [show min i N = N by omega] at hown
      exact ⟨_, rfl, hb, hown⟩
end Go.Proofs.Ytejcmdolhmojaaa
