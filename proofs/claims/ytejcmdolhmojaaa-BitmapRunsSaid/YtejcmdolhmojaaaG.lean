/- trial -/
import Derived.Test.YtejcmdolhmojaaaF
import Derived.Test.YtejcmdolhmojaaaKit
import Derived.Deep.DeepMust
namespace Go.Proofs.Ytejcmdolhmojaaa
open Go.RowKit
set_option linter.unusedVariables false

theorem tinfo36 : (Try.prog.info? 36).map (fun i => (i.zero, i.size, i.bytes)) = some (some (.agg #[.int .i64 0, .int .i64 0]), 2, 16) := by kernel_rfl

set_option maxHeartbeats 1000000 in
theorem Runs_any (l : List UInt8) (n : Int) (w : World) (hs : l.length ≤ 1099511627776) (h1 : -9223372036854775808 ≤ n) (h2 : n ≤ 9223372036854775807):
    Calls Try.prog 21 #[.string ⟨l.toArray⟩, .int .i64 n] w fun e w' => ∃ v, e = .returned v ∧ Below w.heap.size w w' ∧
      w'.ownsRow w.heap.size 36 2 v (runsTo l (firstN l n)).length (ext (runsTo l (firstN l n))) := by
  have hN := firstN_le l n
  have hs8 : l.length ≤ 9223372036854775807 / 8 := by omega
  have hf := fun w => free_any l n w hs8 h1 h2
  generalize firstN l n = N at *
  have HF := Lib.hid hf; clear hf
  obtain ⟨i0, hi, hz0, hz1, hz2⟩ := info_parts tinfo36
  go_enter Try.func21, Try.ntmps21
  go_wp2_with fail
  refine (HF.out _).mono ?_
  rintro e w' ⟨rfl, rfl⟩
  go_wp2_with fail
  go_loopw [15, 6, 7, 23, 28] (fun i t _ _ _ wr => ∃ k : Nat, k ≤ N ∧ i = .int .i64 k ∧ wr.ownsRow (w.heap.size + 2) 36 2 t (runsTo l k).length (ext (runsTo l k)) ∧ Below w.heap.size w wr ∧
      w.heap.size + 2 ≤ wr.heap.size ∧ wr.cell? ⟨w.heap.size + 1, 0, none⟩ = some (.int .i64 N) ∧ wr.cell? ⟨w.heap.size, 0, none⟩ = some (.string ⟨l.toArray⟩)) (fun i _ _ _ _ _ => N - (intOf i).toNat)
  case atStart => exact ⟨0, by omega, rfl, World.ownsRow_nil _ _ _ _, ((Below.refl _ _).alloc (Nat.le_refl _) _).alloc (by simp) _, by simp, by go_simp, by go_simp⟩
  case round =>
    obtain ⟨k, hk, rfl, hown, hb, hsz, hc1, hc2⟩ := hrel
    by_cases hlt : k < N
    · cases hbk : bit l k with
      | true =>
        have hc : runsTo l (k + 1) = runsTo l k := by rw [runsTo, hbk]; rfl
        have HC := Lib.hid hc; have HBK := Lib.hid hbk; clear hc hbk
        have HO := Lib.hid hown; have HB := Lib.hid hb; clear hown hb
        go_wp2_with fail
        refine (isfree_any l N k _ _ _ hs8 hN hc1 hc2 (by omega) (by omega)).mono ?_
        rintro e w' ⟨rfl, rfl⟩
        rw [bitI_nat, HBK.out]
        go_wp2_with fail
        go_roundw
        case rel => exact ⟨k + 1, by omega, by go_num, by rw [HC.out]; exact HO.out, HB.out, hsz, hc1, hc2⟩
        case measure => simp [intOf]; omega
      | false =>
        by_cases hpr : 0 < k ∧ bit l (k - 1) = false
        · obtain ⟨h0, hp0⟩ := hpr
          obtain ⟨rs, r, er, hr1, hr2⟩ := runsTo_last l (k - 1) hp0
          have hc : runsTo l (k + 1) = rs ++ [(r.1, r.2 + 1)] := by
            rw [runsTo, hbk, if_neg (by simp), if_pos ⟨h0, hp0⟩, show k = k - 1 + 1 by omega, er, bump_snoc]
          have hp : bitI l ((k : Int) - 1) = false := by
            have : ((k : Int) - 1) = ((k - 1 : Nat) : Int) := by omega
            rw [this, bitI_nat]; exact hp0
          rw [show k - 1 + 1 = k by omega] at er
          have hlen := runsTo_length l k
          rw [er] at hown hlen
          simp only [List.length_append, List.length_cons, List.length_nil, Nat.zero_add, ext_append] at hown hlen
          obtain ⟨g, cap, rfl, hg1, hg2⟩ := hown.form (by omega)
          have hr2' : r.2 ≤ k := by omega
          obtain ⟨r1, r2⟩ := r
          have hcell : wr.cell? ⟨g, rs.length * 2 + 1, none⟩ = some (.int .i64 r2) := by
            rw [hown.cellAt _ (by omega), List.getElem?_append_right (by rw [length_ext]; omega), length_ext, show rs.length * 2 + 1 - rs.length * 2 = 1 by omega]; rfl
          have hfr := hown.frozenAt (rs.length * 2 + 1)
          have HC := Lib.hid hc; have HBK := Lib.hid hbk; have HP := Lib.hid hp; clear hc hbk hp er hp0 hr1
          have HB := Lib.hid hb; have HO := Lib.hid hown; clear hb hown
          go_wp2_with fail
          refine (isfree_any l N k _ _ _ hs8 hN hc1 hc2 (by omega) (by omega)).mono ?_
          rintro e w' ⟨rfl, rfl⟩
          rw [bitI_nat, HBK.out]
          go_wp2_with fail
          refine (isfree_any l N _ _ _ _ hs8 hN hc1 hc2 (by omega) (by omega)).mono ?_
          rintro e w' ⟨rfl, rfl⟩
          rw [HP.out]
          go_wp2_with fail
          have hst := HO.out.stored (rs.length * 2 + 1) (.int .i64 ((r2 : Int) + 1))
          rw [ext_set] at hst
          obtain ⟨hst1, hst2⟩ := hst
          have hb1 := HB.out.grown hst2 (by omega) (fun j hj => by cases hj; omega)
          have hc11 := hst2.cell hc1 (by simp; omega)
          have hc21 := hst2.cell hc2 (by simp; omega)
          have hsz1 := hst2.size
          clear hc1 hc2
          go_roundw
          case rel => exact ⟨k + 1, by omega, by go_num, by rw [HC.out, List.length_append]; exact hst1, hb1, by omega, hc11, hc21⟩
          case measure => simp [intOf]; omega
        · have hc : runsTo l (k + 1) = runsTo l k ++ [(k, 1)] := by rw [runsTo, hbk, if_neg (by simp), if_neg hpr]
          have hlen := runsTo_length l k
          generalize runsTo l k = rs at *
          by_cases h0 : 0 < k
          · have hp : bitI l ((k : Int) - 1) = true := by
              have : ((k : Int) - 1) = ((k - 1 : Nat) : Int) := by omega
              rw [this, bitI_nat]; simp [h0] at hpr; exact hpr
            have HC := Lib.hid hc; have HBK := Lib.hid hbk; have HP := Lib.hid hp; clear hc hbk hpr hp
            have HB := Lib.hid hb; clear hb
            go_wp2_with fail
            refine (isfree_any l N k _ _ _ hs8 hN hc1 hc2 (by omega) (by omega)).mono ?_
            rintro e w' ⟨rfl, rfl⟩
            rw [bitI_nat, HBK.out]
            go_wp2_with fail
            refine (isfree_any l N _ _ _ _ hs8 hN hc1 hc2 (by omega) (by omega)).mono ?_
            rintro e w' ⟨rfl, rfl⟩
            rw [HP.out]
            go_wp2_with (at_builtin; go_must (refine wpList_app wr (by rfl) _ _ 32 (by rfl) (w.heap.size + 2) 36 _ i0 (.agg #[.int .i64 0, .int .i64 0]) 2 16 Try.underlying32 hi hz0 hz1 hz2 rfl (by decide) (by decide) _ _ _ (by rfl) hown #[.int .i64 k, .int .i64 1] (by rfl) rfl ?c1 ?c2 hsz ?_))
            case c1 => simp [Value.oneCell']
            case c2 => omega
            intro g cap w1 hown1 hg1 hat hlt1 hsz1
            have hb1 := HB.out.grown hg1 (by omega) (fun k hk => by have := (hown.lt k hk).1; omega)
            have hc11 := grown_cell hown hg1 (by simp) hc1
            have hc21 := grown_cell hown hg1 (by simp) hc2
            clear hown hat hg1 HB
            have HB := Lib.hid hb1; have HO := Lib.hid hown1; clear hb1 hown1
            go_wp2_with fail
            go_roundw
            case rel => exact ⟨k + 1, by omega, by go_num, by rw [HC.out, List.length_append, ext_append]; exact HO.out, HB.out, by omega, hc11, hc21⟩
            case measure => simp [intOf]; omega
          · have hk0 : k = 0 := by omega
            subst hk0
            have HC := Lib.hid hc; have HBK := Lib.hid hbk; clear hc hbk hpr
            have HB := Lib.hid hb; clear hb
            go_wp2_with fail
            refine (isfree_any l N 0 _ _ _ hs8 hN hc1 hc2 (by omega) (by omega)).mono ?_
            rintro e w' ⟨rfl, rfl⟩
            rw [show bitI l 0 = false from (bitI_nat l 0).trans HBK.out]
            go_wp2_with (at_builtin; go_must (refine wpList_app wr (by rfl) _ _ 32 (by rfl) (w.heap.size + 2) 36 _ i0 (.agg #[.int .i64 0, .int .i64 0]) 2 16 Try.underlying32 hi hz0 hz1 hz2 rfl (by decide) (by decide) _ _ _ (by rfl) hown #[.int .i64 0, .int .i64 1] (by rfl) rfl ?c1 ?c2 hsz ?_))
            case c1 => simp [Value.oneCell']
            case c2 => omega
            intro g cap w1 hown1 hg1 hat hlt1 hsz1
            have hb1 := HB.out.grown hg1 (by omega) (fun k hk => by have := (hown.lt k hk).1; omega)
            have hc11 := grown_cell hown hg1 (by simp) hc1
            have hc21 := grown_cell hown hg1 (by simp) hc2
            clear hown hat hg1 HB
            have HB := Lib.hid hb1; have HO := Lib.hid hown1; clear hb1 hown1
            go_wp2_with fail
            go_roundw
            case rel => exact ⟨1, by omega, rfl, by rw [show 1 = 0 + 1 from rfl, HC.out, List.length_append, ext_append]; exact HO.out, HB.out, by omega, hc11, hc21⟩
            case measure => simp [intOf]; omega
    · have hk2 : k = N := by omega
      subst hk2
      go_wp2_with fail
      go_ret
      exact ⟨_, rfl, hb, hown.mono (by omega)⟩
end Go.Proofs.Ytejcmdolhmojaaa
