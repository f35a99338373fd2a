/- Joined texts of one proof: WSk2, WSk3, WSk4, WBin. -/
import Derived.Test.YtcflpcpkmhljkaaGreatDoorMQryMToWSk1
import Derived.Test.YtcflpcpkmhljkaaGreatDoorProg
import Derived.Test.YtcflpcpkmhljkaaGreatDoorMKitToSegSpec
import Derived.Deep.LoopGhost
import Derived.Lib.SlicesSearch
set_option linter.unusedSimpArgs false
set_option linter.unusedVariables false
set_option linter.unnecessarySimpa false
/- (WSk2) score: one of some, all of some: walked. -/
section
namespace Go.Proofs.YtcflpcpkmhljkaaGreatDoor
open Go.RowKit
set_option linter.unusedVariables false

/-- walkers in memory -/
def WksAt (z : Zone) (n B : Nat) (w : World) (v : Value) (Fs : List DF) : Prop := ∃ vs : List Value, SlW z w v Fs.length 1 vs ∧ ∀ i (h : i < Fs.length) u, vs[i]? = some u → IsWk z n B w u Fs[i]
theorem WksAt.stays {z : Zone} {n B : Nat} {w w' : World} {v : Value} {Fs : List DF} (h : WksAt z n B w v Fs) (q : Ws z w w') : WksAt z n B w' v Fs := by
  obtain ⟨vs, h1, h2⟩ := h
  exact ⟨vs, q.sl h1, fun i hi u hu => (h2 i hi u hu).stays q⟩
theorem WksAt.value {z : Zone} {n B : Nat} {w : World} {v : Value} {Fs : List DF} (h : WksAt z n B w v Fs) : ∃ a cap, v = .slice a Fs.length cap ∧ (0 < Fs.length → ∃ b off, a = some ⟨b, off, none⟩ ∧ ∀ j (hj : j < Fs.length), ∃ u, w.cell? ⟨b, off + j, none⟩ = some u ∧ IsWk z n B w u Fs[j]) := by
  obtain ⟨vs, ⟨⟨hl, a, cap, h2, h3⟩, _⟩, h4⟩ := h
  refine ⟨a, cap, h2, fun hn => ?_⟩
  obtain ⟨b, off, h5, h6⟩ := h3 hn
  refine ⟨b, off, h5, fun j hj => ?_⟩
  have hj' : j < vs.length := by omega
  exact ⟨vs[j], h6 j _ (List.getElem?_eq_getElem hj'), h4 j hj _ (List.getElem?_eq_getElem hj')⟩
theorem sumF_le (Fs : List DF) (B : Nat) (hB : ∀ F ∈ Fs, ∀ i s, F i = some s → s ≤ B) (i : Nat) : sumO (Fs.map fun F => F i) ≤ Fs.length * B := by
  induction Fs with
  | nil => simp [sumO]
  | cons F Fs ih =>
    have h1 := ih (fun G hG => hB G (by simp [hG]))
    have h2 : (F i).getD 0 ≤ B := by
      cases hf : F i with
      | none => exact Nat.zero_le _
      | some x => exact hB F (by simp) i x hf
    rw [List.map_cons, sumO, List.length_cons, Nat.add_mul]; omega
theorem someF_le (Fs : List DF) (B : Nat) (hB : ∀ F ∈ Fs, ∀ i s, F i = some s → s ≤ B) (i s : Nat) (h : someF Fs i = some s) : s ≤ Fs.length * B := by
  unfold someF at h
  split at h
  · cases h; exact sumF_le Fs B hB i
  · cases h
theorem someF_lt (Fs : List DF) (n : Nat) (hn : ∀ F ∈ Fs, ∀ i s, F i = some s → i < n) (i s : Nat) (h : someF Fs i = some s) : i < n := by
  unfold someF at h
  split at h
  · rename_i ha
    obtain ⟨F, hF, hs⟩ := List.any_eq_true.1 ha
    cases hf : F i with
    | none => rw [hf] at hs; cases hs
    | some x => exact hn F hF i x hf
  · cases h
def ptAt (st : Option (Nat × Nat)) : Nat := (st.map (·.1)).getD 0
def ptSc (st : Option (Nat × Nat)) : Nat := (st.map (·.2)).getD 0
set_option maxRecDepth 100000 in
set_option maxHeartbeats 4000000 in
theorem Some_any {z : Zone} {n B : Nat} {w : World} {v : Value} {Fs : List DF} (doc : Nat) (W : World) (h : WksAt z n B w v Fs) (hq : Ws z w W) (hd : doc ≤ 1000000) (hl : Fs.length ≤ 1000000) (hB : B ≤ 1000000000000) :
    Calls Tryz.prog 252 #[.agg #[v], .int .i64 (doc : Nat)] W fun e w' => SeekEnd (someF Fs) doc e ∧ Q W w' := by
  have h0 := h.stays hq
  obtain ⟨a, cap, rfl, hc⟩ := h0.value
  have hfit : ∀ j (hj : j < Fs.length), ∀ i s, Fs[j] i = some s → s ≤ B := fun j hj => by
    obtain ⟨b, off, _, h2⟩ := hc (by omega)
    obtain ⟨u, _, h3⟩ := h2 j hj
    exact fun i s hs => (h3.fits i s hs).2
  have HC := Lib.hid hc; have HF := Lib.hid hfit
  clear h hq h0 hc hfit
  go_enter Tryz.func252, Tryz.ntmps252
  go_wp2_with fail
  go_loopw [7, 8, 9, 18] (fun x y z i wr => ∃ (k : Nat) (st : Option (Nat × Nat)), k ≤ Fs.length ∧ i = .int .i64 (k : Nat) ∧ x = .int .i64 (ptAt st : Nat) ∧ y = .int .i64 (ptSc st : Nat) ∧ z = .bool st.isSome ∧ Hid (NextIs (someF (Fs.take k)) doc st) ∧ Hid (Q W wr)) (fun _ _ _ i _ => Fs.length - (intOf i).toNat)
  case atStart => exact ⟨0, none, by omega, rfl, rfl, rfl, rfl, next_some_nil doc, Q.alloc _ _⟩
  case round =>
    obtain ⟨k, st, hk, rfl, rfl, rfl, rfl, HN, HQ⟩ := hrel
    obtain ⟨wo, rfl⟩ : ∃ wo : World, wo = wr := ⟨_, rfl⟩
    by_cases hlt : k < Fs.length
    · obtain ⟨b, off, rfl, hc⟩ := HC.out (by omega)
      obtain ⟨u, hu, hw⟩ := hc k hlt
      have hu' := cell_stays HQ.out hu
      obtain ⟨t, x, g, rfl, hm, hca, hs⟩ := hw.is
      have c := hs wo doc (Ws.of_q HQ.out) hd
      have hsc : ∀ r, NextIs Fs[k] doc r → NextIs (someF (Fs.take (k + 1))) doc (someStep st r) := fun r hr => by
        rw [List.take_succ_eq_append_getElem hlt]; exact next_snoc HN.out hr
      have hbd : ptSc st ≤ k * B := by
        cases st with
        | none => exact Nat.zero_le _
        | some p =>
          have := someF_le (Fs.take k) B (fun F hF => by
            obtain ⟨j, hj⟩ := List.getElem?_of_mem hF
            rw [List.getElem?_take] at hj
            split at hj
            · obtain ⟨hj1, rfl⟩ := List.getElem?_eq_some_iff.1 hj
              exact HF.out j hj1
            · cases hj) p.1 p.2 HN.out.2.1
          rw [List.length_take, Nat.min_eq_left hk] at this
          exact this
      have hbd2 : k * B ≤ 1000000000000000000 := by
        have : k * B ≤ 1000000 * 1000000000000 := Nat.mul_le_mul (by omega) hB
        omega
      have hfk := HF.out k hlt
      have C := Lib.hid c; have HSC := Lib.hid hsc; have HFK := Lib.hid hfk
      have hps : ptSc st ≤ 1000000000000000000 := by omega
      clear c hs hsc hc hu hw hbd hbd2 hfk HN
      go_wp2_with fail
      refine C.out.mono ?_
      rintro e w1 ⟨(⟨d, s, rfl, hx⟩ | ⟨d, s, rfl, hx⟩), q1⟩
      · have hsB := HFK.out d s hx.2.1
        have hs9 : s ≤ 1000000000000 := Nat.le_trans hsB hB
        have HN2 := Lib.hid (HSC.out _ hx); have HQ2 := Lib.hid (HQ.out.trans q1)
        clear hx q1 C HSC HFK hsB hm hca hu'
        cases st with
        | none =>
          simp only [ptAt, ptSc, Option.map_none, Option.getD_none, Option.isSome_none] at *
          go_wp2_with fail
          go_roundw
          case rel => exact ⟨k + 1, some (d, s), by omega, by go_num, rfl, rfl, rfl, HN2, HQ2⟩
          case measure => simp [intOf]; omega
        | some p =>
          obtain ⟨a0, t0⟩ := p
          simp only [ptAt, ptSc, Option.map_some, Option.getD_some, Option.isSome_some] at *
          by_cases h1 : a0 < d
          · have hb : decide ((a0 : Int) < (d : Int)) = true := decide_eq_true (by omega)
            have hb' : decide (a0 < d) = true := decide_eq_true h1
            have HN3 : Hid (NextIs (someF (Fs.take (k + 1))) doc (some (a0, t0))) := by have := HN2.out; simp only [someStep, if_pos h1] at this; exact this
            clear HN2 h1
            go_wp2_with fail
            go_roundw
            case rel => exact ⟨k + 1, some (a0, t0), by omega, by go_num, rfl, rfl, rfl, HN3, HQ2⟩
            case measure => simp [intOf]; omega
          · have hb : decide ((a0 : Int) < (d : Int)) = false := decide_eq_false (by omega)
            have hb' : decide (a0 < d) = false := decide_eq_false h1
            by_cases h2 : d = a0
            · subst h2
              have HN3 : Hid (NextIs (someF (Fs.take (k + 1))) doc (some (d, t0 + s))) := by have := HN2.out; simp only [someStep, if_neg h1, if_pos] at this; exact this
              clear HN2 h1
              have hb2 : ((d : Int) == (d : Int)) = true := by simp
              go_wp2_with fail
              go_roundw
              case rel => exact ⟨k + 1, some (d, t0 + s), by omega, by go_num, rfl, by simp [ptSc], rfl, HN3, HQ2⟩
              case measure => simp [intOf]; omega
            · have HN3 : Hid (NextIs (someF (Fs.take (k + 1))) doc (some (d, s))) := by have := HN2.out; simp only [someStep, if_neg h1, if_neg h2] at this; exact this
              have hb2 : ((d : Int) == (a0 : Int)) = false := beq_eq_false_iff_ne.2 (by omega)
              clear HN2 h1 h2
              go_wp2_with fail
              go_roundw
              case rel => exact ⟨k + 1, some (d, s), by omega, by go_num, rfl, rfl, rfl, HN3, HQ2⟩
              case measure => simp [intOf]; omega
      · have HN2 := Lib.hid (HSC.out _ hx); have HQ2 := Lib.hid (HQ.out.trans q1)
        clear hx q1 C HSC HFK hm hca hu'
        have HN3 : Hid (NextIs (someF (Fs.take (k + 1))) doc st) := by have := HN2.out; cases st <;> exact this
        clear HN2
        generalize hA : ptAt st = pa at *
        generalize hS : ptSc st = ps at *
        generalize hI : st.isSome = pi at *
        have HA := Lib.hid hA; have HS := Lib.hid hS; have HI := Lib.hid hI
        clear hA hS hI
        go_wp2_with fail
        go_roundw
        case rel => exact ⟨k + 1, st, by omega, by go_num, by rw [HA.out], by rw [HS.out], by rw [HI.out], HN3, HQ2⟩
        case measure => simp [intOf]; omega
    · have hke : k = Fs.length := by omega
      subst hke
      have HN2 : Hid (NextIs (someF Fs) doc st) := by have := HN.out; rwa [List.take_length] at this
      clear HN hlt
      cases st with
      | none =>
        simp only [ptAt, ptSc, Option.map_none, Option.getD_none, Option.isSome_none] at *
        go_wp2_with fail
        go_ret3
        exact ⟨SeekEnd.no (d := 0) (s := 0) rfl HN2.out, HQ.out⟩
      | some p =>
        obtain ⟨a0, t0⟩ := p
        simp only [ptAt, ptSc, Option.map_some, Option.getD_some, Option.isSome_some] at *
        go_wp2_with fail
        go_ret3
        exact ⟨SeekEnd.yes (d := a0) (s := t0) rfl HN2.out, HQ.out⟩
theorem IsWk.someOf {z : Zone} {n B : Nat} {w : World} {v : Value} {Fs : List DF} (h : WksAt z n B w v Fs) (hl : Fs.length ≤ 1000000) (hB : B ≤ 1000000000000) : IsWk z n (Fs.length * B) w (.iface 187 (.agg #[v])) (someF Fs) := by
  have hfit : ∀ F ∈ Fs, ∀ i s, F i = some s → i < n ∧ s ≤ B := fun F hF => by
    obtain ⟨j, hj⟩ := List.getElem?_of_mem hF
    obtain ⟨hj1, rfl⟩ := List.getElem?_eq_some_iff.1 hj
    obtain ⟨a, cap, _, hc⟩ := h.value
    obtain ⟨b, off, _, h2⟩ := hc (by omega)
    obtain ⟨u, _, h3⟩ := h2 j hj1
    exact h3.fits
  exact ⟨fun i s hs => ⟨someF_lt Fs n (fun F hF i s hs => (hfit F hF i s hs).1) i s hs, someF_le Fs B (fun F hF i s hs => (hfit F hF i s hs).2) i s hs⟩,
    _, _, 252, rfl, fun W => by kernel_rfl, enters_of Tryz.func252 (by kernel_rfl) rfl, fun W doc hq hd => Some_any doc W h hq hd hl hB⟩
end Go.Proofs.YtcflpcpkmhljkaaGreatDoor
end

/- (WSk3) score: documents that all of some walkers have, and none of others: walked. -/
section
namespace Go.Proofs.YtcflpcpkmhljkaaGreatDoor
open Go.RowKit
set_option linter.unusedVariables false

theorem sumO_take (Fs : List DF) (i k : Nat) (h : k < Fs.length) : sumO ((Fs.take (k + 1)).map fun F => F i) = sumO ((Fs.take k).map fun F => F i) + (Fs[k] i).getD 0 := by
  rw [List.take_succ_eq_append_getElem h, List.map_append, sumO_append]; simp [sumO]
theorem all_take (Fs : List DF) (i k : Nat) (h : k < Fs.length) : ((Fs.take (k + 1)).all fun F => (F i).isSome) = (((Fs.take k).all fun F => (F i).isSome) && (Fs[k] i).isSome) := by
  rw [List.take_succ_eq_append_getElem h, List.all_append]; simp
theorem any_take (Fs : List DF) (i k : Nat) (h : k < Fs.length) : ((Fs.take (k + 1)).any fun F => (F i).isSome) = (((Fs.take k).any fun F => (F i).isSome) || (Fs[k] i).isSome) := by
  rw [List.take_succ_eq_append_getElem h, List.any_append]; simp
theorem all_no (Fs : List DF) (i k : Nat) (h : k < Fs.length) (hn : Fs[k] i = none) : (Fs.all fun F => (F i).isSome) = false := by
  rw [List.all_eq_false]
  exact ⟨Fs[k], List.getElem_mem h, by rw [hn]; simp⟩
theorem any_yes (Fs : List DF) (i k : Nat) (h : k < Fs.length) (hn : (Fs[k] i).isSome = true) : (Fs.any fun F => (F i).isSome) = true := List.any_eq_true.2 ⟨Fs[k], List.getElem_mem h, hn⟩
theorem WksAt.fits {z : Zone} {n B : Nat} {w : World} {v : Value} {Fs : List DF} (h : WksAt z n B w v Fs) : ∀ F ∈ Fs, ∀ i s, F i = some s → i < n ∧ s ≤ B := fun F hF => by
  obtain ⟨j, hj⟩ := List.getElem?_of_mem hF
  obtain ⟨hj1, rfl⟩ := List.getElem?_eq_some_iff.1 hj
  obtain ⟨a, cap, _, hc⟩ := h.value
  obtain ⟨b, off, _, h2⟩ := hc (by omega)
  obtain ⟨u, _, h3⟩ := h2 j hj1
  exact h3.fits
theorem mem_take {α : Type} {l : List α} {k : Nat} {x : α} (h : x ∈ l.take k) : x ∈ l := List.mem_of_mem_take h
theorem bothF_no1 {M S N : List DF} {i : Nat} (h : (M.all fun F => (F i).isSome) = false) : bothF M S N i = none := by unfold bothF; rw [h]; rfl
theorem bothF_no2 {M S N : List DF} {i : Nat} (h : (N.any fun F => (F i).isSome) = true) : bothF M S N i = none := by unfold bothF; rw [h]; simp
theorem bothF_yes {M S N : List DF} {i : Nat} (h : (M.all fun F => (F i).isSome) = true) (h2 : (N.any fun F => (F i).isSome) = false) : bothF M S N i = some (sumO (M.map fun F => F i) + sumO (S.map fun F => F i)) := by unfold bothF; rw [h, h2]; rfl
/-- what 'here' tells -/
def HereEnd (r : Option Nat) (e : Ending) : Prop := ∃ s : Nat, e = .returned (.tuple #[.int .i64 (s : Nat), .bool r.isSome]) ∧ ∀ x, r = some x → s = x
theorem HereEnd.no {r : Option Nat} {e : Ending} (s : Nat) (he : e = .returned (.tuple #[.int .i64 (s : Nat), .bool false])) (h : r = none) : HereEnd r e := ⟨s, by rw [he, h]; rfl, fun x hx => by rw [h] at hx; cases hx⟩
theorem HereEnd.yes {r : Option Nat} {e : Ending} (s : Nat) (he : e = .returned (.tuple #[.int .i64 (s : Nat), .bool true])) (h : r = some s) : HereEnd r e := ⟨s, by rw [he, h]; rfl, fun x hx => by rw [h] at hx; cases hx; rfl⟩
set_option maxRecDepth 100000 in
set_option maxHeartbeats 8000000 in
theorem Here_any {z : Zone} {n B : Nat} {w : World} {vm vs vn : Value} {M S N : List DF} (doc : Nat) (W : World) (hm : WksAt z n B w vm M) (hs : WksAt z n B w vs S) (hn : WksAt z n B w vn N) (hq : Ws z w W) (hd : doc ≤ 1000000) (hl : M.length ≤ 1000 ∧ S.length ≤ 1000 ∧ N.length ≤ 1000) (hB : B ≤ 1000000000000000) :
    Calls Tryz.prog 254 #[.agg #[vm, vs, vn], .int .i64 (doc : Nat)] W fun e w' => HereEnd (bothF M S N doc) e ∧ Q W w' := by
  have fm := hm.fits; have fs := hs.fits
  obtain ⟨l1, l2, l3⟩ := hl
  obtain ⟨am, cm, rfl, hcm⟩ := (hm.stays hq).value
  obtain ⟨as_, cs, rfl, hcs⟩ := (hs.stays hq).value
  obtain ⟨an, cn, rfl, hcn⟩ := (hn.stays hq).value
  have bM : ∀ k, k ≤ M.length → sumO ((M.take k).map fun F => F doc) ≤ 1000000000000000000 := fun k hk => by
    have h1 := sumF_le (M.take k) B (fun F hF i s h => (fm F (mem_take hF) i s h).2) doc
    have h2 : (M.take k).length * B ≤ 1000 * 1000000000000000 := Nat.mul_le_mul (by rw [List.length_take]; omega) hB
    omega
  have bS : ∀ k, k ≤ S.length → sumO ((S.take k).map fun F => F doc) ≤ 1000000000000000000 := fun k hk => by
    have h1 := sumF_le (S.take k) B (fun F hF i s h => (fs F (mem_take hF) i s h).2) doc
    have h2 : (S.take k).length * B ≤ 1000 * 1000000000000000 := Nat.mul_le_mul (by rw [List.length_take]; omega) hB
    omega
  have hone : ∀ F ∈ M ++ S, (F doc).getD 0 ≤ 1000000000000000 := fun F hF => by
    cases h : F doc with
    | none => exact Nat.zero_le _
    | some x =>
      rcases List.mem_append.1 hF with hF | hF
      · exact Nat.le_trans (fm F hF doc x h).2 hB
      · exact Nat.le_trans (fs F hF doc x h).2 hB
  have HCM := Lib.hid hcm; have HCS := Lib.hid hcs; have HCN := Lib.hid hcn; have BM := Lib.hid bM; have BS := Lib.hid bS; have HONE := Lib.hid hone
  clear hm hs hn hq hcm hcs hcn fm fs bM bS hone
  go_enter Tryz.func254, Tryz.ntmps254
  go_wp2_with fail
  have hq0 := Q.alloc W (.cells #[.slice am M.length cm, .slice as_ S.length cs, .slice an N.length cn] 203)
  have hk0 := Blk.new W 203 #[.slice am M.length cm, .slice as_ S.length cs, .slice an N.length cn]
  have HQ0 := Lib.hid hq0; have HK0 := Lib.hid hk0
  clear hq0 hk0
  go_loopw [6, 22] (fun x i wr => ∃ k : Nat, k ≤ M.length ∧ i = .int .i64 (k : Nat) ∧ x = .int .i64 (sumO ((M.take k).map fun F => F doc) : Nat) ∧ Hid (((M.take k).all fun F => (F doc).isSome) = true) ∧ Hid (Q W wr) ∧ Hid (Blk wr W.heap.size 203 #[.slice am M.length cm, .slice as_ S.length cs, .slice an N.length cn])) (fun _ i _ => M.length - (intOf i).toNat)
  case atStart => exact ⟨0, by omega, rfl, rfl, rfl, HQ0.out, HK0.out⟩
  case round =>
    obtain ⟨k, hk, rfl, rfl, HA, HQ, HK⟩ := hrel
    obtain ⟨wo, rfl⟩ : ∃ wo : World, wo = wr := ⟨_, rfl⟩
    by_cases hlt : k < M.length
    · obtain ⟨b, off, rfl, hc⟩ := HCM.out (by omega)
      obtain ⟨u, hu, hw⟩ := hc k hlt
      have hu' := cell_stays HQ.out hu
      have c := Stands_any doc (hw.stays (Ws.of_q HQ.out)) hd
      have hsum := sumO_take M doc k hlt
      have hall := all_take M doc k hlt
      have hno := all_no M doc k hlt
      have b1 := BM.out k hk
      have b2 := HONE.out M[k] (List.mem_append_left _ (List.getElem_mem hlt))
      cases hf : M[k] doc with
      | none =>
        rw [hf] at c
        have HNO := Lib.hid (hno hf); have C := Lib.hid c
        clear hno c hsum hall hf hu hw hc b2
        generalize sumO ((M.take k).map fun F => F doc) = sc at *
        go_wp2_with fail
        refine C.out.mono ?_
        rintro e w1 ⟨⟨s, rfl, _⟩, q1⟩
        have HQ1 := Lib.hid (HQ.out.trans q1)
        clear q1 C
        simp only [Option.isSome_none]
        go_wp2_with fail
        go_ret2
        exact ⟨HereEnd.no 0 rfl (bothF_no1 HNO.out), HQ1.out⟩
      | some x =>
        rw [hf] at c hsum hall b2
        simp only [Option.getD_some, Option.isSome_some, Bool.and_true] at hsum hall b2
        rw [HA.out] at hall
        have HSUM := Lib.hid hsum; have HALL := Lib.hid hall; have C := Lib.hid c
        clear hno c hsum hall hf hu hw hc
        generalize sumO ((M.take k).map fun F => F doc) = sc at *
        go_wp2_with fail
        refine C.out.mono ?_
        rintro e w1 ⟨⟨s, rfl, hs⟩, q1⟩
        have hsx : s = x := hs x rfl
        subst hsx
        have HQ1 := Lib.hid (HQ.out.trans q1); have HK1 := Lib.hid (HK.out.stays q1)
        clear q1 C hs
        simp only [Option.isSome_some]
        go_wp2_with fail
        go_roundw
        case rel => exact ⟨k + 1, by omega, by go_num, by rw [HSUM.out]; go_num, HALL, HQ1, HK1⟩
        case measure => simp [intOf]; omega
    · have hke : k = M.length := by omega
      subst hke
      have hall := HA.out
      rw [List.take_length] at hall
      have bm := BM.out M.length (Nat.le_refl _)
      simp only [List.take_length] at bm ⊢
      obtain ⟨m0, m1, m2, _⟩ := HK.out.c3
      have HALL := Lib.hid hall; have HQ2 := HQ; have HK2 := HK
      clear hall HA HQ HK hlt HQ0 HK0
      obtain ⟨sm, hsm⟩ : ∃ x, x = sumO (M.map fun F => F doc) := ⟨_, rfl⟩
      rw [← hsm] at bm ⊢
      have HSM := Lib.hid hsm
      clear hsm
      go_wp2_with fail
      obtain ⟨w2, hw2⟩ : ∃ w2 : World, w2 = wo := ⟨_, rfl⟩
      go_loopw [41] (fun i wr => ∃ k : Nat, k ≤ N.length ∧ i = .int .i64 (k : Nat) ∧ Hid (((N.take k).any fun F => (F doc).isSome) = false) ∧ Hid (Q W wr) ∧ Hid (Blk wr W.heap.size 203 #[.slice am M.length cm, .slice as_ S.length cs, .slice an N.length cn])) (fun i _ => N.length - (intOf i).toNat)
      case atStart => exact ⟨0, by omega, rfl, rfl, HQ2.out, HK2.out⟩
      case round =>
        obtain ⟨k, hk, rfl, HA, HQ, HK⟩ := hrel
        clear m0 m1 m2 hw2 HQ2 HK2
        obtain ⟨wo, rfl⟩ : ∃ wo : World, wo = wr := ⟨_, rfl⟩
        by_cases hlt : k < N.length
        · obtain ⟨b, off, rfl, hc⟩ := HCN.out (by omega)
          obtain ⟨u, hu, hw⟩ := hc k hlt
          have hu' := cell_stays HQ.out hu
          have c := Stands_any doc (hw.stays (Ws.of_q HQ.out)) hd
          have hany := any_take N doc k hlt
          have hyes := any_yes N doc k hlt
          rw [HA.out] at hany
          simp only [Bool.false_or] at hany
          cases hf : N[k] doc with
          | some x =>
            rw [hf] at c hyes
            have HY := Lib.hid (hyes rfl); have C := Lib.hid c
            clear hyes c hany hf hu hw hc
            go_wp2_with fail
            refine C.out.mono ?_
            rintro e w1 ⟨⟨s, rfl, _⟩, q1⟩
            have HQ1 := Lib.hid (HQ.out.trans q1)
            clear q1 C
            simp only [Option.isSome_some]
            go_wp2_with fail
            go_ret2
            exact ⟨HereEnd.no 0 rfl (bothF_no2 HY.out), HQ1.out⟩
          | none =>
            rw [hf] at c hany
            simp only [Option.isSome_none] at hany
            have HANY := Lib.hid hany; have C := Lib.hid c
            clear hyes c hany hf hu hw hc
            go_wp2_with fail
            refine C.out.mono ?_
            rintro e w1 ⟨⟨s, rfl, hs⟩, q1⟩
            have HQ1 := Lib.hid (HQ.out.trans q1); have HK1 := Lib.hid (HK.out.stays q1)
            clear q1 C hs
            simp only [Option.isSome_none]
            go_wp2_with fail
            go_roundw
            case rel => exact ⟨k + 1, by omega, by go_num, HANY, HQ1, HK1⟩
            case measure => simp [intOf]; omega
        · have hke : k = N.length := by omega
          subst hke
          have hany := HA.out
          rw [List.take_length] at hany
          obtain ⟨m0, m1, m2, _⟩ := HK.out.c3
          have HANY := Lib.hid hany; have HQ2 := HQ; have HK2 := HK
          clear hany HA HQ HK hlt
          go_wp2_with fail
          go_loopw [6, 56] (fun x i wr => ∃ k : Nat, k ≤ S.length ∧ i = .int .i64 (k : Nat) ∧ x = .int .i64 (sm + sumO ((S.take k).map fun F => F doc) : Nat) ∧ Hid (Q W wr)) (fun _ i _ => S.length - (intOf i).toNat)
          case atStart => exact ⟨0, by omega, rfl, rfl, HQ2.out⟩
          case round =>
            obtain ⟨k, hk, rfl, rfl, HQ⟩ := hrel
            clear m0 m1 m2 HQ2 HK2
            obtain ⟨wo, rfl⟩ : ∃ wo : World, wo = wr := ⟨_, rfl⟩
            by_cases hlt : k < S.length
            · obtain ⟨b, off, rfl, hc⟩ := HCS.out (by omega)
              obtain ⟨u, hu, hw⟩ := hc k hlt
              have hu' := cell_stays HQ.out hu
              have c := Stands_any doc (hw.stays (Ws.of_q HQ.out)) hd
              have hsum := sumO_take S doc k hlt
              have b1 := BS.out k hk
              have b2 := HONE.out S[k] (List.mem_append_right _ (List.getElem_mem hlt))
              cases hf : S[k] doc with
              | none =>
                rw [hf] at c hsum
                simp only [Option.getD_none, Nat.add_zero] at hsum
                have HSUM := Lib.hid hsum; have C := Lib.hid c
                clear c hsum hf hu hw hc b2
                generalize sumO ((S.take k).map fun F => F doc) = sc at *
                go_wp2_with fail
                refine C.out.mono ?_
                rintro e w1 ⟨⟨s, rfl, _⟩, q1⟩
                have HQ1 := Lib.hid (HQ.out.trans q1)
                clear q1 C
                simp only [Option.isSome_none]
                go_wp2_with fail
                go_roundw
                case rel => exact ⟨k + 1, by omega, by go_num, by rw [HSUM.out], HQ1⟩
                case measure => simp [intOf]; omega
              | some x =>
                rw [hf] at c hsum b2
                simp only [Option.getD_some] at hsum b2
                have HSUM := Lib.hid hsum; have C := Lib.hid c
                clear c hsum hf hu hw hc
                generalize sumO ((S.take k).map fun F => F doc) = sc at *
                go_wp2_with fail
                refine C.out.mono ?_
                rintro e w1 ⟨⟨s, rfl, hs⟩, q1⟩
                have hsx : s = x := hs x rfl
                subst hsx
                have HQ1 := Lib.hid (HQ.out.trans q1)
                clear q1 C hs
                simp only [Option.isSome_some]
                go_wp2_with fail
                go_roundw
                case rel => exact ⟨k + 1, by omega, by go_num, by rw [HSUM.out]; go_num, HQ1⟩
                case measure => simp [intOf]; omega
            · have hke : k = S.length := by omega
              subst hke
              simp only [List.take_length]
              have hf := bothF_yes (S := S) HALL.out HANY.out
              rw [← HSM.out] at hf
              have HF := Lib.hid hf
              clear hf
              generalize sm + sumO (S.map fun F => F doc) = tot at *
              go_wp2_with fail
              go_ret2
              exact ⟨HereEnd.yes tot rfl HF.out, HQ.out⟩
end Go.Proofs.YtcflpcpkmhljkaaGreatDoor
end

/- (WSk4) score: both.seek: walked. -/
section
namespace Go.Proofs.YtcflpcpkmhljkaaGreatDoor
open Go.RowKit
set_option linter.unusedVariables false

theorem bothF_fits {n B : Nat} {M S N : List DF} (hM : ∀ F ∈ M, ∀ i s, F i = some s → i < n ∧ s ≤ B) (hS : ∀ F ∈ S, ∀ i s, F i = some s → i < n ∧ s ≤ B) (hne : 0 < M.length) (i s : Nat) (h : bothF M S N i = some s) : i < n ∧ s ≤ (M.length + S.length) * B := by
  unfold bothF at h
  split at h
  · rename_i ha
    cases h
    rw [Bool.and_eq_true] at ha
    have h0 := List.all_eq_true.1 ha.1 M[0] (List.getElem_mem hne)
    refine ⟨?_, ?_⟩
    · cases hf : M[0] i with
      | none => rw [hf] at h0; cases h0
      | some x => exact (hM _ (List.getElem_mem hne) i x hf).1
    · have h1 := sumF_le M B (fun F hF i s h => (hM F hF i s h).2) i
      have h2 := sumF_le S B (fun F hF i s h => (hS F hF i s h).2) i
      rw [Nat.add_mul]; omega
  · cases h
set_option maxRecDepth 100000 in
set_option maxHeartbeats 8000000 in
theorem Both_any {z : Zone} {n B : Nat} {w : World} {vm vs vn : Value} {M S N : List DF} (doc : Nat) (W : World) (hm : WksAt z n B w vm M) (hs : WksAt z n B w vs S) (hn : WksAt z n B w vn N) (hq : Ws z w W) (hd : doc ≤ 1000000) (hl : M.length ≤ 1000 ∧ S.length ≤ 1000 ∧ N.length ≤ 1000) (hB : B ≤ 1000000000000000) (hne : 0 < M.length) (hnn : n ≤ 900000) :
    Calls Tryz.prog 255 #[.agg #[vm, vs, vn], .int .i64 (doc : Nat)] W fun e w' => SeekEnd (bothF M S N) doc e ∧ Q W w' := by
  have ch := fun doc W hq hd => Here_any doc W hm hs hn hq hd hl hB
  have fm := hm.fits
  obtain ⟨am, cm, rfl, hcm⟩ := (hm.stays hq).value
  obtain ⟨as_, cs, rfl, _⟩ := (hs.stays hq).value
  obtain ⟨an, cn, rfl, _⟩ := (hn.stays hq).value
  obtain ⟨b0, off, rfl, hc⟩ := hcm hne
  obtain ⟨u, hu, hw⟩ := hc 0 hne
  rw [Nat.add_zero] at hu
  have ff := fm M[0] (List.getElem_mem hne)
  have hno : ∀ j, M[0] j = none → bothF M S N j = none := fun j hj => bothF_no1 (all_no M j 0 hne hj)
  obtain ⟨t, x, g, rfl, hmm, hca, hsk⟩ := hw.is
  obtain ⟨ml, hml⟩ : ∃ ml, ml = M.length := ⟨_, rfl⟩
  have hne' : 0 < ml := by omega
  rw [← hml]
  have HCH := Lib.hid ch; have HSK := Lib.hid hsk; have HFF := Lib.hid ff; have HNO := Lib.hid hno; have HU := Lib.hid hu; have HCQ := Lib.hid hq; have HML := Lib.hid hml
  clear hm hs hn hq hcm fm hc hu hw ch hsk ff hno hml
  rw [show (doc : Nat) = doc from rfl]
  go_enter Tryz.func255, Tryz.ntmps255
  go_wp2_with fail
  have hq0 := Q.alloc W (.cells #[.slice (some ⟨b0, off, none⟩) ml cm, .slice as_ S.length cs, .slice an N.length cn] 203)
  have hk0 := Blk.new W 203 #[.slice (some ⟨b0, off, none⟩) ml cm, .slice as_ S.length cs, .slice an N.length cn]
  have HQ0 := Lib.hid hq0; have HK0 := Lib.hid hk0
  clear hq0 hk0
  go_loopw [1] (fun i wr => ∃ k : Nat, doc ≤ k ∧ k ≤ 1000000 ∧ i = .int .i64 (k : Nat) ∧ Hid (∀ j, doc ≤ j → j < k → bothF M S N j = none) ∧ Hid (Q W wr) ∧ Hid (Blk wr W.heap.size 203 #[.slice (some ⟨b0, off, none⟩) ml cm, .slice as_ S.length cs, .slice an N.length cn])) (fun i _ => 1000001 - (intOf i).toNat)
  case atStart => exact ⟨doc, Nat.le_refl _, hd, rfl, fun j h1 h2 => by omega, HQ0.out, HK0.out⟩
  case round =>
    obtain ⟨k, hk0, hk, rfl, HN, HQ, HK⟩ := hrel
    obtain ⟨wo, rfl⟩ : ∃ wo : World, wo = wr := ⟨_, rfl⟩
    obtain ⟨m0, m1, m2, _⟩ := HK.out.c3
    have hu := cell_stays HQ.out HU.out
    have c := HSK.out wo k (Ws.of_q HQ.out) hk
    have C := Lib.hid c
    have hml0 : (0 : Int) < (ml : Int) := by omega
    clear c
    go_wp2_with fail
    refine C.out.mono ?_
    rintro e w1 ⟨(⟨d, s, rfl, hx⟩ | ⟨d, s, rfl, hx⟩), q1⟩
    · have hdn := (HFF.out d s hx.2.1).1
      have hd9 : d ≤ 900000 := by omega
      have hkd := hx.1
      have hnone : ∀ j, doc ≤ j → j < d → bothF M S N j = none := fun j h1 h2 => by
        by_cases hj : j < k
        · exact HN.out j h1 hj
        · exact HNO.out j (hx.2.2 j (by omega) h2)
      have hq1 := HQ.out.trans q1
      have c := HCH.out d w1 (HCQ.out.trans (Ws.of_q hq1)) (by omega)
      rw [← HML.out] at c
      have hk1 := HK.out.stays q1
      obtain ⟨z0, z1, z2, _⟩ := hk1.c3
      have C2 := Lib.hid c; have HQ1 := Lib.hid hq1; have HN1 := Lib.hid hnone; have HK1 := Lib.hid hk1
      clear c hq1 hnone hk1 hx q1 C hdn m0 m1 m2 hu HK HQ HN
      go_wp2_with fail
      refine C2.out.mono ?_
      rintro e w2 ⟨⟨s2, rfl, hs2⟩, q2⟩
      have HQ2 := Lib.hid (HQ1.out.trans q2); have HK2 := Lib.hid (HK1.out.stays q2)
      clear q2 C2 z0 z1 z2
      cases hb : bothF M S N d with
      | some y =>
        have e2 : s2 = y := hs2 y hb
        subst e2
        have HB := Lib.hid hb
        clear hb hs2
        simp only [Option.isSome_some]
        go_wp2_with fail
        go_ret3
        exact ⟨SeekEnd.yes (d := d) (s := s2) rfl ⟨by omega, HB.out, HN1.out⟩, HQ2.out⟩
      | none =>
        have hn2 : ∀ j, doc ≤ j → j < d + 1 → bothF M S N j = none := fun j h1 h2 => by
          by_cases hj : j < d
          · exact HN1.out j h1 hj
          · rw [show j = d by omega]; exact hb
        have HN2 := Lib.hid hn2
        clear hn2 hb hs2 HN1
        simp only [Option.isSome_none]
        go_wp2_with fail
        go_roundw
        case rel => exact ⟨d + 1, by omega, by omega, by go_num, HN2, HQ2, HK2⟩
        case measure => simp [intOf]; omega
    · have hnone : ∀ j, doc ≤ j → bothF M S N j = none := fun j h1 => by
        by_cases hj : j < k
        · exact HN.out j h1 hj
        · exact HNO.out j (hx j (by omega))
      have HN1 := Lib.hid hnone; have HQ1 := Lib.hid (HQ.out.trans q1)
      clear hnone hx q1 C m0 m1 m2 hu HK HQ HN
      go_wp2_with fail
      go_ret3
      exact ⟨SeekEnd.no (d := 0) (s := 0) rfl HN1.out, HQ1.out⟩
theorem IsWk.bothOf {z : Zone} {n B : Nat} {w : World} {vm vs vn : Value} {M S N : List DF} (hm : WksAt z n B w vm M) (hs : WksAt z n B w vs S) (hn : WksAt z n B w vn N) (hl : M.length ≤ 1000 ∧ S.length ≤ 1000 ∧ N.length ≤ 1000) (hB : B ≤ 1000000000000000) (hne : 0 < M.length) (hnn : n ≤ 900000) :
    IsWk z n ((M.length + S.length) * B) w (.iface 203 (.agg #[vm, vs, vn])) (bothF M S N) :=
  ⟨bothF_fits hm.fits hs.fits hne, _, _, 255, rfl, fun W => by kernel_rfl, enters_of Tryz.func255 (by kernel_rfl) rfl, fun W doc hq hd => Both_any doc W hm hs hn hq hd hl hB hne hnn⟩
end Go.Proofs.YtcflpcpkmhljkaaGreatDoor
end

/- (WBin) slices.BinarySearch at ints, cmp.Compare at texts, cmp.Or: walked. -/
section
namespace Go.Proofs.YtcflpcpkmhljkaaGreatDoor
open Go.RowKit
set_option linter.unusedVariables false

theorem isNaN1_any (x : Int) (w : World) : Calls Tryz.prog 127 #[.int .i64 x] w fun e w' => e = .returned (.bool false) ∧ w = w' := by
  go_enter Tryz.func127, Tryz.ntmps127
  go_wp2
  go_ret
  exact ⟨by simp, rfl⟩
theorem isNaN2_any (x : Int) (w : World) : Calls Tryz.prog 250 #[.int .i64 x] w fun e w' => e = .returned (.bool false) ∧ w = w' := by
  go_enter Tryz.func250, Tryz.ntmps250
  go_wp2
  go_ret
  exact ⟨by simp, rfl⟩
theorem lessI_any (x y : Int) (w : World) : Calls Tryz.prog 249 #[.int .i64 x, .int .i64 y] w fun e w' => e = .returned (.bool (decide (x < y))) ∧ w = w' := by
  go_enter Tryz.func249, Tryz.ntmps249
  go_wp2_with (go_at_call 127; refine (isNaN1_any _ _).mono ?_; rintro e w' ⟨rfl, rfl⟩)
  go_ret
  exact ⟨by simp, rfl⟩
set_option maxHeartbeats 4000000 in
set_option maxRecDepth 100000 in
theorem Bin_any (b off c : Nat) (zs : List Int) (x : Int) (w : World) (hbig : zs.length < 1000000000) (hc : ∀ j (hj : j < zs.length), w.cell? ⟨b, off + j, none⟩ = some (.int .i64 zs[j])) (hs : zs.Pairwise (· ≤ ·)) :
    Calls Tryz.prog 248 #[.slice (some ⟨b, off, none⟩) zs.length c, .int .i64 x] w fun e w' => e = .returned (.tuple #[.int .i64 ((zs.countP (· < x) : Nat) : Int), .bool (zs.contains x)]) ∧ w = w' := by
  obtain ⟨n, hn⟩ : ∃ n, n = zs.length := ⟨_, rfl⟩
  have hs' : (zs.take n).Pairwise (· ≤ ·) := by rw [hn, List.take_length]; exact hs
  have S := Lib.hid (Lib.sorted_at zs n (by omega) hs')
  have HC : Hid (∀ j, j < zs.length → w.cell? ⟨b, off + j, none⟩ = some (.int .i64 (zs.getD j 0))) := fun j hj => by
    rw [hc j hj, List.getD_eq_getElem?_getD, List.getElem?_eq_getElem hj]; rfl
  have hce : zs.contains x = (zs.take n).contains x := by rw [hn, List.take_length]
  have hcn : zs.countP (· < x) = (zs.take n).countP (· < x) := by rw [hn, List.take_length]
  rw [hce, hcn, ← hn]
  have hz : n ≤ zs.length := by omega
  have hbn : n < 1000000000 := by omega
  clear hs hs' hc hce hcn hn hbig
  go_enter Tryz.func248, Tryz.ntmps248
  go_wp2
  go_loopg [7, 8] n (fun g s7 s8 wr => ∃ lo hi : Nat, s7 = .int .i64 lo ∧ s8 = .int .i64 hi ∧ lo ≤ hi ∧ hi ≤ n ∧ hi - lo ≤ g ∧ wr = w ∧ (∀ t, t < lo → zs.getD t 0 < x) ∧ (∀ t, hi ≤ t → t < n → x ≤ zs.getD t 0))
  case atStart => exact ⟨0, n, rfl, rfl, Nat.zero_le _, Nat.le_refl _, by omega, rfl, fun t ht => absurd ht (Nat.not_lt_zero _), fun t h1 h2 => by omega⟩
  case round =>
    obtain ⟨lo, hi, rfl, rfl, hlh, hin, hg, rfl, h1, h2⟩ := hrel
    have I := Lib.hid (show (∀ t, t < lo → zs.getD t 0 < x) ∧ (∀ t, hi ≤ t → t < n → x ≤ zs.getD t 0) from ⟨h1, h2⟩)
    clear h1 h2
    by_cases hlt : lo < hi
    · have cm := HC.out ((lo + hi) / 2) (by omega)
      generalize hy : zs.getD ((lo + hi) / 2) 0 = y at cm
      have Y := Lib.hid hy
      clear hy
      by_cases hyx : y < x
      · go_wp2_with (first | (go_at_call 249; refine (lessI_any _ _ _).mono ?_; rintro e w' ⟨rfl, rfl⟩) | (go_at_call 250; refine (isNaN2_any _ _).mono ?_; rintro e w' ⟨rfl, rfl⟩))
        go_roundg (hi - ((lo + hi) / 2 + 1))
        case measure => omega
        case rel =>
          refine ⟨(lo + hi) / 2 + 1, hi, by rw [show ((lo : Int) + (hi : Int)) / 2 + 1 = (((lo + hi) / 2 + 1 : Nat) : Int) by omega], rfl, by omega, hin, Nat.le_refl _, rfl, fun t ht => ?_, I.out.2⟩
          have := S.out t ((lo + hi) / 2) (by omega) (by omega)
          rw [Y.out] at this
          omega
      · go_wp2_with (first | (go_at_call 249; refine (lessI_any _ _ _).mono ?_; rintro e w' ⟨rfl, rfl⟩) | (go_at_call 250; refine (isNaN2_any _ _).mono ?_; rintro e w' ⟨rfl, rfl⟩))
        go_roundg ((lo + hi) / 2 - lo)
        case measure => omega
        case rel =>
          refine ⟨lo, (lo + hi) / 2, rfl, by rw [show ((lo : Int) + (hi : Int)) / 2 = (((lo + hi) / 2 : Nat) : Int) by omega], by omega, by omega, Nat.le_refl _, rfl, I.out.1, fun t ht htn => ?_⟩
          have := S.out ((lo + hi) / 2) t ht htn
          rw [Y.out] at this
          omega
    · have : hi = lo := by omega
      subst this
      obtain ⟨e1, e2⟩ := Lib.search_end zs n hi x hz hin I.out.1 I.out.2 S.out
      have E := Lib.hid e2; have E1 := Lib.hid e1
      clear e1 e2
      by_cases hn : hi < n
      · have cl := HC.out hi (by omega)
        generalize hy : zs.getD hi 0 = y at cl
        have Y := Lib.hid hy
        clear hy
        by_cases hyx : y = x
        · go_wp2_with (first | (go_at_call 249; refine (lessI_any _ _ _).mono ?_; rintro e w' ⟨rfl, rfl⟩) | (go_at_call 250; refine (isNaN2_any _ _).mono ?_; rintro e w' ⟨rfl, rfl⟩))
          go_ret2
          refine ⟨?_, rfl⟩
          rw [E1.out, E.out, Y.out, decide_eq_true (show hi < n ∧ y = x from ⟨hn, hyx⟩)]
          first | rfl | simp [*]
        · go_wp2_with (first | (go_at_call 249; refine (lessI_any _ _ _).mono ?_; rintro e w' ⟨rfl, rfl⟩) | (go_at_call 250; refine (isNaN2_any _ _).mono ?_; rintro e w' ⟨rfl, rfl⟩))
          go_ret2
          refine ⟨?_, rfl⟩
          rw [E1.out, E.out, Y.out, decide_eq_false (show ¬ (hi < n ∧ y = x) from fun h => hyx h.2)]
          first | rfl | simp [*]
      · go_wp2_with (first | (go_at_call 249; refine (lessI_any _ _ _).mono ?_; rintro e w' ⟨rfl, rfl⟩) | (go_at_call 250; refine (isNaN2_any _ _).mono ?_; rintro e w' ⟨rfl, rfl⟩))
        go_ret2
        refine ⟨?_, rfl⟩
        rw [E1.out, E.out, decide_eq_false (show ¬ (hi < n ∧ _) from fun h => hn h.1)]
        first | rfl | simp [*]
end Go.Proofs.YtcflpcpkmhljkaaGreatDoor
end
