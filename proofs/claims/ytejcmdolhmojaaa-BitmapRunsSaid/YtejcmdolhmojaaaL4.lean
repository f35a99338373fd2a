/- the walk of BitmapRuns -/
import Derived.Test.YtejcmdolhmojaaaJ
import Derived.Test.YtejcmdolhmojaaaBase3
namespace Go.Proofs.Ytejcmdolhmojaaa
open Go.RowKit
set_option linter.unusedVariables false

/-- the end of the run ahead of run k; -1 if there is none -/
def endOf (rs : List (Nat × Nat)) (k : Nat) : Int := if k = 0 then -1 else (((rs.getD (k - 1) (0, 0)).1 + (rs.getD (k - 1) (0, 0)).2 : Nat) : Int)
theorem endOf_succ (rs : List (Nat × Nat)) (k : Nat) (h : k < rs.length) : endOf rs (k + 1) = (rs[k].1 : Int) + rs[k].2 := by
  unfold endOf
  rw [if_neg (by omega), Nat.add_sub_cancel, List.getD_eq_getElem?_getD, List.getElem?_eq_getElem h]
  simp
theorem total_take (rs : List (Nat × Nat)) (k : Nat) (h : k < rs.length) : total (rs.take (k + 1)) = total (rs.take k) + rs[k].2 := by
  rw [List.take_succ_eq_append_getElem h, total_snoc]
theorem total_take_le (rs : List (Nat × Nat)) (k : Nat) : total (rs.take k) ≤ total rs := by
  have h := List.take_append_drop k rs
  have : total (rs.take k ++ rs.drop k) = total (rs.take k) + total (rs.drop k) := by
    unfold total; rw [List.map_append, List.sum_append]
  rw [h] at this
  omega

set_option maxRecDepth 100000 in
set_option maxHeartbeats 4000000 in
theorem walk_BitmapRuns (b : List UInt8) (n : Int) (w : World) (hb : b.length ≤ 9223372036854775807)
    (n1 : -9223372036854775808 ≤ n) (n2 : n ≤ 9223372036854775807) :
    Calls Try.prog 6 #[.string ⟨b.toArray⟩, .int .i64 n] w fun e w' => e = .returned (.bool true) ∧ Below w.heap.size w w' := by
  by_cases hl : b.length ≤ 1000
  · have hb9 : b.length ≤ 1099511627776 := by omega
    have R := fun w => Runs_any b n w hb9 n1 n2
    have E := fun w => Free_any b n w (by omega) n1 n2
    have hN := firstN_le b n
    have hNi := firstN_int b n
    obtain ⟨k1, k2, k3⟩ := runs_ok b (firstN b n)
    have hlen := runsTo_length b (firstN b n)
    have hcl := cnt_le b (firstN b n)
    generalize runsTo b (firstN b n) = rs at *
    generalize firstN b n = N at *
    have hend : endOf rs rs.length = -1 ∨ (1 ≤ N ∧ endOf rs rs.length ≤ N) := by
      by_cases h0 : rs.length = 0
      · exact Or.inl (by unfold endOf; rw [if_pos h0])
      · right
        have h1 : rs.length - 1 < rs.length := by omega
        have h2 := endOf_succ rs (rs.length - 1) h1
        rw [Nat.sub_add_cancel (by omega)] at h2
        obtain ⟨_, _, g3, g4, _⟩ := k1 rs[rs.length - 1] (List.getElem_mem h1)
        omega
    have HR := Lib.hid R; have HE := Lib.hid E; have HK1 := Lib.hid k1; have HK2 := Lib.hid k2; have HK3 := Lib.hid k3; have HNI := Lib.hid hNi; have HEND := Lib.hid hend
    clear R E k1 k2 k3 hNi hend
    go_enter Try.func6, Try.ntmps6
    go_wp2_with fail
    refine (shown_any _).mono ?_
    rintro e w1 ⟨rfl, q1⟩
    go_wp2_with fail
    refine (HR.out _).mono ?_
    rintro e w2 ⟨v, rfl, q2, hown⟩
    have HQ := Lib.hid (q1.trans q2)
    clear q1 q2
    obtain ⟨a, cap, rfl, hsome⟩ := owns_value hown
    have HS := Lib.hid hsome; have HO := Lib.hid hown; clear hsome hown
    go_wp2_with fail
    go_loopw [9, 7, 8] (fun i t u wr => ∃ k : Nat, k ≤ rs.length ∧ i = .int .i64 k ∧ t = .int .i64 (total (rs.take k) : Nat) ∧ u = .int .i64 (endOf rs k) ∧ Hid (∃ q, wr = w2.drewN q)) (fun i _ _ _ => rs.length - (intOf i).toNat)
    case atStart => exact ⟨0, by omega, rfl, rfl, rfl, ⟨0, rfl⟩⟩
    case round =>
      obtain ⟨k, hk, rfl, rfl, rfl, q, rfl⟩ := hrel
      have htt := total_take_le rs k
      by_cases hlt : k < rs.length
      · obtain ⟨g, rfl⟩ := HS.out (by omega)
        obtain ⟨c1, c2⟩ := ext_cells HO.out k hlt
        obtain ⟨g1, g2, g3, g4, g5⟩ := HK1.out rs[k] (List.getElem_mem hlt)
        have b1 : bitI b (rs[k].1 : Int) = false := by rw [bitI_nat]; exact g1 _ (Nat.le_refl _) (by omega)
        have b2 : 0 < rs[k].1 → bitI b ((rs[k].1 : Int) - 1) = true := fun h => by
          rw [show (rs[k].1 : Int) - 1 = ((rs[k].1 - 1 : Nat) : Int) by omega, bitI_nat]; exact g2 h
        have b3 : rs[k].1 + rs[k].2 < N → bitI b ((rs[k].1 : Int) + rs[k].2) = true := fun h => by
          rw [show (rs[k].1 : Int) + rs[k].2 = ((rs[k].1 + rs[k].2 : Nat) : Int) by omega, bitI_nat]; exact g5 h
        have he : endOf rs k < rs[k].1 := by
          unfold endOf
          split
          · omega
          · rename_i h
            have := (List.pairwise_iff_getElem.1 HK2.out) (k - 1) k (by omega) hlt (by omega)
            rw [List.getD_eq_getElem?_getD, List.getElem?_eq_getElem (by omega)]
            simp only [Option.getD_some]
            omega
        have he2 : -9223372036854775808 ≤ endOf rs k := by unfold endOf; split <;> omega
        have hee := endOf_succ rs k hlt
        have hto := total_take rs k hlt
        have htt2 := total_take_le rs (k + 1)
        rw [HK3.out] at htt htt2
        rw [hto] at htt2
        have hor : (rs[k].1 + rs[k].2 < N ∧ (rs[k].1 : Int) + rs[k].2 < n) ∨ (¬ (rs[k].1 : Int) + rs[k].2 < n) ∨ ((rs[k].1 : Int) + rs[k].2 < n ∧ ¬ (rs[k].1 : Int) + rs[k].2 < 8 * b.length) := by
          have := HNI.out; omega
        generalize rs[k].1 = r1 at *
        generalize rs[k].2 = r2 at *
        generalize endOf rs k = ek at *
        generalize total (rs.take k) = tk at *
        have HB1 := Lib.hid b1; have HB2 := Lib.hid b2; have HB3 := Lib.hid b3; have HEE := Lib.hid hee; have HTO := Lib.hid hto
        clear b1 b2 b3 hee hto g1 g2 g5
        have hrd : ∀ W : World, True := fun _ => trivial
        by_cases hpos : 0 < r1
        · have HB2 := Lib.hid (HB2.out hpos)
          go_wp2_with fail
          refine (get_any b _ _ hb (by omega)).mono ?_
          rintro e w' ⟨rfl, rfl⟩
          rw [HB1.out]
          go_wp2_with fail
          refine (get_any b _ _ hb (by omega)).mono ?_
          rintro e w' ⟨rfl, rfl⟩
          rw [HB2.out]
          go_wp2_with fail
          have hsum : IntKind.i64.wrap ((r1 : Int) + r2) = (r1 : Int) + r2 := IntWalk.i64_in _ (by omega)
          go_quiet (fail)
          clear hsum
          rcases hor with ⟨h1, h2⟩ | h1 | ⟨h1, h2⟩
          · go_wp2_with fail
            refine (get_any b _ _ hb (by omega)).mono ?_
            rintro e w' ⟨rfl, rfl⟩
            rw [HB3.out h1]
            go_wp2_with fail
            exact ⟨⟨k + 1, by omega, by go_num, by rw [HTO.out]; go_num, by rw [HEE.out], ⟨_, rfl⟩⟩, by simp [intOf]; omega⟩
          · go_wp2_with fail
            exact ⟨⟨k + 1, by omega, by go_num, by rw [HTO.out]; go_num, by rw [HEE.out], ⟨_, rfl⟩⟩, by simp [intOf]; omega⟩
          · go_wp2_with fail
            exact ⟨⟨k + 1, by omega, by go_num, by rw [HTO.out]; go_num, by rw [HEE.out], ⟨_, rfl⟩⟩, by simp [intOf]; omega⟩
        · have h0 : r1 = 0 := by omega
          subst h0
          have c1 : w2.cell? ⟨g, k * 2, none⟩ = some (.int .i64 0) := c1
          have he : ek < 0 := he
          have g4 : r2 ≤ N := by omega
          have HEE : Hid (endOf rs (k + 1) = (r2 : Int)) := by unfold Hid; rw [HEE.out]; simp
          have HB3 : Hid (r2 < N → bitI b (r2 : Int) = true) := fun h => by have := HB3.out (by omega); simpa using this
          have hor : (r2 < N ∧ (r2 : Int) < n) ∨ (¬ (r2 : Int) < n) ∨ ((r2 : Int) < n ∧ ¬ (r2 : Int) < 8 * b.length) := by omega
          go_wp2_with fail
          refine (get_any b _ _ hb (by omega)).mono ?_
          rintro e w' ⟨rfl, rfl⟩
          rw [show bitI b 0 = false from HB1.out]
          go_wp2_with fail
          have hsum : IntKind.i64.wrap (r2 : Int) = (r2 : Int) := IntWalk.i64_in _ (by omega)
          go_quiet (fail)
          clear hsum
          rcases hor with ⟨h1, h2⟩ | h1 | ⟨h1, h2⟩
          · go_wp2_with fail
            refine (get_any b _ _ hb (by omega)).mono ?_
            rintro e w' ⟨rfl, rfl⟩
            rw [HB3.out h1]
            go_wp2_with fail
            exact ⟨⟨k + 1, by omega, by go_num, by rw [HTO.out]; go_num, by rw [HEE.out], ⟨_, rfl⟩⟩, by simp [intOf]; omega⟩
          · go_wp2_with fail
            exact ⟨⟨k + 1, by omega, by go_num, by rw [HTO.out]; go_num, by rw [HEE.out], ⟨_, rfl⟩⟩, by simp [intOf]; omega⟩
          · go_wp2_with fail
            exact ⟨⟨k + 1, by omega, by go_num, by rw [HTO.out]; go_num, by rw [HEE.out], ⟨_, rfl⟩⟩, by simp [intOf]; omega⟩
      · have hkk : k = rs.length := by omega
        have htot : total (rs.take k) = cnt b N := by rw [hkk, List.take_length]; exact HK3.out
        have hE : endOf rs k = -1 ∨ (0 ≤ n ∧ endOf rs k ≤ n ∧ -1 ≤ endOf rs k) := by
          rw [hkk]
          rcases HEND.out with h | ⟨h, h'⟩
          · exact Or.inl h
          · right
            have := HNI.out
            refine ⟨by omega, by omega, ?_⟩
            unfold endOf; split <;> omega
        rw [htot]
        generalize endOf rs k = E at *
        clear htot
        have HKK := Lib.hid hkk; clear hkk htt
        have hge : ¬ k < rs.length := hlt
        have hor : (n < -1 ∧ E = -1) ∨ (-1 ≤ n ∧ E ≤ n ∧ -1 ≤ E) := by omega
        clear hE
        rcases hor with ⟨h1, rfl⟩ | ⟨h1, h2, h3⟩
        all_goals
          go_wp2_with fail
          refine (HE.out _).mono ?_
          rintro e w3 ⟨rfl, q3⟩
          have HQ2 := Lib.hid (HQ.out.trans (Below.trans (⟨rfl, rfl, rfl, Nat.le_refl _, fun _ _ => rfl⟩ : Below w2.heap.size w2 (w2.drewN q)) q3))
          clear q3
          go_wp2_with fail
          go_ret
          exact ⟨rfl, HQ2.out⟩
  · go_enter Try.func6, Try.ntmps6
    go_wp2_with fail
    refine (shown_any _).mono ?_
    rintro e w1 ⟨rfl, q1⟩
    go_wp2_with fail
    go_ret
    exact ⟨rfl, q1⟩
end Go.Proofs.Ytejcmdolhmojaaa
