/- codexref13: block: walked. -/
import Derived.Test.YtcblmcbpnakphaaGreatDoorHWRef13a
set_option linter.unusedSimpArgs false
set_option linter.unusedVariables false
set_option linter.unnecessarySimpa false
namespace Go.Proofs.YtcblmcbpnakphaaGreatDoor
open Go.RowKit
set_option linter.unusedVariables false

theorem hsum_of (a b : Bytes) (h : a.length + b.length ≤ 9223372036854775807) (W : World) : (Op.stringOp .add ⟨a.toArray⟩ ⟨b.toArray⟩).run Tryz.prog W = .ok (strV (a ++ b)) W := by
  rw [run_string_add_sum W _ _ (by simpa [ByteArray.size] using h), bytes_append]
set_option maxRecDepth 100000 in
set_option maxHeartbeats 4000000 in
theorem RDBlock_any (v : Value) (g : List EntryL) (w : World) (hv : Pairs w v g) (hn : g.length ≤ 16) (hg : Small g) :
    Calls Tryz.prog 139 #[v] w fun e w' => e = .returned (strV (blockE [] g)) ∧ Q w w' := by
  obtain ⟨a, cap, rfl, hcell⟩ := hv.value
  have HC := Lib.hid hcell; have HG := Lib.hid hg
  clear hcell hv hg
  have hmx : Tryz.prog.follows .mixedOrders = true := by kernel_rfl
  go_enter Tryz.func139, Tryz.ntmps139
  go_wp2_with fail
  go_loopw [3, 4, 5] (fun sv i _ wr => ∃ (k : Nat) (s : Bytes), k ≤ g.length ∧ i = .int .i64 (k : Nat) ∧ sv = strV s ∧ s.length ≤ k * 4194400 ∧ Hid (s = blockE [] (g.take k)) ∧ Hid (Q w wr)) (fun _ i _ _ => g.length - (intOf i).toNat)
  case atStart => exact ⟨0, [], by omega, rfl, rfl, by simp, rfl, Q.refl _⟩
  case round =>
    obtain ⟨k, s, hk, rfl, rfl, hsl, HS, HQ⟩ := hrel
    obtain ⟨wo, rfl⟩ : ∃ wo : World, wo = wr := ⟨_, rfl⟩
    by_cases hlt : k < g.length
    · obtain ⟨bb, o, rfl, hc⟩ := HC.out (by omega)
      have z0 := (hc k hlt).1
      have z1 := (hc k hlt).2
      obtain ⟨r1, r2⟩ := HG.out _ (List.getElem_mem hlt)
      have hki : (k : Int) < (g.length : Int) := by omega
      have hk0 : (0 : Int) ≤ (k : Int) := by omega
      have hbt := blockE_take g k hlt
      have hal := (alikeN_le (lastAt g k) g[k].1).1
      have hlast : k ≠ 0 → lastAt g k = (g[k - 1]'(by omega)).1 := fun h => by
        unfold lastAt
        rw [if_neg h, List.getD_eq_getElem?_getD, List.getElem?_eq_getElem (by omega)]; rfl
      have hlast0 : k = 0 → lastAt g k = [] := fun h => by unfold lastAt; rw [if_pos h]
      have hprev : k ≠ 0 → w.cell? ⟨bb, o + (k - 1) * 2, none⟩ = some (strV (g[k - 1]'(by omega)).1) := fun h => (hc (k - 1) (by omega)).1
      have hpl : k ≠ 0 → (g[k - 1]'(by omega)).1.length ≤ 40 := fun h => (HG.out _ (List.getElem_mem (by omega))).1
      clear hc
      generalize g[k] = x at *
      obtain ⟨t, u⟩ := x
      simp only at z0 z1 r1 r2 hbt hal
      rw [← HS.out] at hbt
      generalize hla : lastAt g k = la at *
      have hn0 : alikeN [] t = 0 := by cases t <;> rfl
      obtain ⟨n, hnn⟩ : ∃ n, n = alikeN la t := ⟨_, rfl⟩
      rw [← hnn] at hbt hal
      have hdr := bytes_drop t n
      have hl1 := varE_len n
      have hl2 := textE_len (t.drop n)
      have hl3 := textE_len u
      have htd : (t.drop n).length ≤ t.length := by rw [List.length_drop]; omega
      have c1 := fun W => RDNum_int (n : Int) n rfl (by omega) W
      have c2 := fun W => RText_any (t.drop n) W (by omega)
      have c3 := fun W => RText_any u W (by omega)
      generalize hv1 : varE n = v1 at *
      generalize hv2 : textE (t.drop n) = v2 at *
      generalize hv3 : textE u = v3 at *
      obtain ⟨s1, es1⟩ : ∃ s1, s1 = s ++ v1 := ⟨_, rfl⟩
      obtain ⟨s2, es2⟩ : ∃ s2, s2 = s1 ++ v2 := ⟨_, rfl⟩
      obtain ⟨s3, es3⟩ : ∃ s3, s3 = s2 ++ v3 := ⟨_, rfl⟩
      have l1 : s1.length = s.length + v1.length := by rw [es1, List.length_append]
      have l2 : s2.length = s1.length + v2.length := by rw [es2, List.length_append]
      have l3 : s3.length = s2.length + v3.length := by rw [es3, List.length_append]
      have hs1 := hsum_of s v1 (by omega)
      have hs2 := hsum_of s1 v2 (by omega)
      have hs3 := hsum_of s2 v3 (by omega)
      rw [← es1] at hs1
      rw [← es2] at hs2
      rw [← es3] at hs3
      have hres : s3 = blockE [] (g.take (k + 1)) := by rw [hbt, es3, es2, es1]; simp
      have hlen : s3.length ≤ (k + 1) * 4194400 := by omega
      clear es1 es2 es3 l1 l2 l3
      generalize htdd : t.drop n = td at *
      have HRES := Lib.hid hres; have HLEN := Lib.hid hlen; have C1 := Lib.hid c1; have C2 := Lib.hid c2; have C3 := Lib.hid c3; have HN := Lib.hid hnn
      have Z0 := Lib.hid z0; have Z1 := Lib.hid z1
      clear hres hlen c1 c2 c3 hbt hv1 hv2 hv3 hnn z0 z1
      have hn1 : (0 : Int) ≤ (n : Int) := by omega
      have hn2 : (n : Int) ≤ (t.length : Int) := by omega
      by_cases hz : k = 0
      · subst hz
        have h0 := hlast0 rfl
        rw [h0] at HN
        have hnz : n = 0 := by rw [HN.out, hn0]
        have hdz : td = t := by rw [← htdd, hnz]; rfl
        subst hnz
        subst hdz
        have C1 : Hid (∀ W : World, Calls Tryz.prog 140 #[.int .i64 0] W fun e w' => e = .returned (strV v1) ∧ Q W w') := C1.out
        have d0 := cell_stays HQ.out Z0.out
        have d1 := cell_stays HQ.out Z1.out
        simp only [Nat.zero_mul, Nat.add_zero] at d0 d1 Z0 Z1
        have KK := HQ
        clear hlast hlast0 hprev hpl h0 hla hn0 htdd
        go_wp2_with fail
        go_region_held3 (fun w' => w'.cell? ⟨bb, o, none⟩ = some (strV td) ∧ w'.cell? ⟨bb, o + 1, none⟩ = some (strV u)) (first | exact ⟨d0, d1⟩ | exact ⟨cell_stays (Q.drew _) d0, cell_stays (Q.drew _) d1⟩ | exact ⟨cell_stays KK.out Z0.out, cell_stays KK.out Z1.out⟩ | exact ⟨cell_stays (KK.out.trans (Q.drew _)) Z0.out, cell_stays (KK.out.trans (Q.drew _)) Z1.out⟩)
          (first
            | (go_at_call 140; ((with_reducible refine (C1.out _).mono ?_); rintro e w' ⟨rfl, q⟩); have s' : Q w w' := Q.trans (by first | exact KK.out | exact KK.out.trans (Q.drew _)) q; clear KK; have KK := Lib.hid s'; clear s' q)
            | (go_at_call 62; ((with_reducible refine (C2.out _).mono ?_); rintro e w' ⟨rfl, q⟩); have s' : Q w w' := Q.trans (by first | exact KK.out | exact KK.out.trans (Q.drew _)) q; clear KK; have KK := Lib.hid s'; clear s' q)
            | (go_at_call 62; ((with_reducible refine (C3.out _).mono ?_); rintro e w' ⟨rfl, q⟩); have s' : Q w w' := Q.trans (by first | exact KK.out | exact KK.out.trans (Q.drew _)) q; clear KK; have KK := Lib.hid s'; clear s' q))
        all_goals
          clear d0 d1
          go_wp2_with fail
          go_roundw
          case rel => exact ⟨0 + 1, s3, by omega, by go_num, rfl, HLEN.out, HRES, KK⟩
          case measure => simp [intOf]; omega
      · have ha := hlast hz
        have p0 := cell_stays HQ.out (hprev hz)
        have c0 := cell_stays HQ.out Z0.out
        have c1 := cell_stays HQ.out Z1.out
        have hpl1 := hpl hz
        rw [← ha] at p0 hpl1
        have cal := fun W => RDAlike_any la t W (by omega) (by omega)
        rw [← HN.out] at cal
        have CAL := Lib.hid cal
        have hk1 : (k : Int) - 1 = ((k - 1 : Nat) : Int) := by omega
        have hk2 : ((k - 1 : Nat) : Int) < (g.length : Int) := by omega
        have hk3 : (0 : Int) < (k : Int) := by omega
        have hk4 : IntKind.i64.wrap ((k - 1 : Nat) : Int) = ((k - 1 : Nat) : Int) := IntWalk.i64_in _ (by omega)
        have hk5 : (0 : Int) ≤ ((k - 1 : Nat) : Int) := by omega
        clear hlast hlast0 hprev hpl ha hz hla cal hn0 htdd
        generalize k - 1 = k1 at *
        have KK := HQ
        go_wp2_with fail
        go_region_held3 (fun w' => w'.cell? ⟨bb, o + k1 * 2, none⟩ = some (strV la) ∧ w'.cell? ⟨bb, o + k * 2, none⟩ = some (strV t)) (first | exact ⟨p0, c0⟩ | exact ⟨cell_stays (Q.drew _) p0, cell_stays (Q.drew _) c0⟩ | exact ⟨P0.out, C0.out⟩)
          (first
            | (go_at_call 164; ((with_reducible refine (CAL.out _).mono ?_); rintro e w' ⟨rfl, q⟩); have s' : Q w w' := Q.trans (by first | exact KK.out | exact KK.out.trans (Q.drew _)) q; have p0' := (by first | exact cell_stays q p0 | exact cell_stays (Q.trans (Q.drew _) q) p0); have c0' := (by first | exact cell_stays q c0 | exact cell_stays (Q.trans (Q.drew _) q) c0); have P0 := Lib.hid p0'; have C0 := Lib.hid c0'; clear KK; have KK := Lib.hid s'; clear s' q p0' c0'))
        all_goals
          clear p0 c0 c1 P0 C0
          have d0 := cell_stays KK.out Z0.out
          have d1 := cell_stays KK.out Z1.out
          go_wp2_with fail
          go_region_held3 (fun w' => w'.cell? ⟨bb, o + k * 2, none⟩ = some (strV t) ∧ w'.cell? ⟨bb, o + k * 2 + 1, none⟩ = some (strV u)) (first | exact ⟨d0, d1⟩ | exact ⟨cell_stays (Q.drew _) d0, cell_stays (Q.drew _) d1⟩ | exact ⟨cell_stays KK.out Z0.out, cell_stays KK.out Z1.out⟩ | exact ⟨cell_stays (KK.out.trans (Q.drew _)) Z0.out, cell_stays (KK.out.trans (Q.drew _)) Z1.out⟩)
            (first
              | (go_at_call 140; ((with_reducible refine (C1.out _).mono ?_); rintro e w' ⟨rfl, q⟩); have s' : Q w w' := Q.trans (by first | exact KK.out | exact KK.out.trans (Q.drew _)) q; clear KK; have KK := Lib.hid s'; clear s' q)
              | (go_at_call 62; ((with_reducible refine (C2.out _).mono ?_); rintro e w' ⟨rfl, q⟩); have s' : Q w w' := Q.trans (by first | exact KK.out | exact KK.out.trans (Q.drew _)) q; clear KK; have KK := Lib.hid s'; clear s' q)
              | (go_at_call 62; ((with_reducible refine (C3.out _).mono ?_); rintro e w' ⟨rfl, q⟩); have s' : Q w w' := Q.trans (by first | exact KK.out | exact KK.out.trans (Q.drew _)) q; clear KK; have KK := Lib.hid s'; clear s' q))
          all_goals
            clear d0 d1
            go_wp2_with fail
            go_roundw
            case rel => exact ⟨k + 1, s3, by omega, by go_num, rfl, HLEN.out, HRES, KK⟩
            case measure => simp [intOf]; omega
    · have hke : k = g.length := by omega
      subst hke
      go_wp2_with fail
      go_ret
      exact ⟨by rw [HS.out, List.take_length]; rfl, HQ.out⟩
end Go.Proofs.YtcblmcbpnakphaaGreatDoor
