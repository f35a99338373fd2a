/- codexref14: Postings: walked. -/
import Derived.Test.YtcblmcbpnakphaaGreatDoorHWRef14a
set_option linter.unusedSimpArgs false
set_option linter.unusedVariables false
set_option linter.unnecessarySimpa false
namespace Go.Proofs.YtcblmcbpnakphaaGreatDoor
open Go.RowKit
set_option linter.unusedVariables false

theorem postsF_end (t : Bytes) (a : List DocL) (d : DocL) (i : Nat) : postsF t (a ++ [d]) i = postsF t a i ++ if placesIn d.2 t = [] then [] else [(((i + a.length : Nat) : Int), placesIn d.2 t)] := by
  induction a generalizing i with
  | nil => simp [postsF]
  | cons x a ih =>
    rw [List.cons_append, postsF, postsF, ih (i + 1), List.length_cons, show i + 1 + a.length = i + (a.length + 1) by omega]
    split <;> simp
theorem postsF_take (t : Bytes) (l : List DocL) (k : Nat) (h : k < l.length) : postsF t (l.take (k + 1)) 0 = postsF t (l.take k) 0 ++ if placesIn l[k].2 t = [] then [] else [((k : Int), placesIn l[k].2 t)] := by
  rw [List.take_succ_eq_append_getElem h, postsF_end, List.length_take, Nat.min_eq_left (by omega), Nat.zero_add]
set_option maxRecDepth 100000 in
set_option maxHeartbeats 4000000 in
theorem RPostings_any (v : Value) (l : List DocL) (t : Bytes) (w : World) (hv : Docs w v l) (hn : l.length ≤ 1000000) (hl : ∀ d ∈ l, d.2.length ≤ 100000000) :
    Calls Tryz.prog 33 #[v, strV t] w fun e w' => ∃ v', e = .returned v' ∧ Told w' w.heap.size v' (postsF t l 0) ∧ Q w w' := by
  obtain ⟨a, cap, rfl, hcell⟩ := hv.value
  obtain ⟨i0, hi, hz0, hz1, hz2⟩ := info_parts tinfoPo
  have HC := Lib.hid hcell; have HL := Lib.hid hl
  clear hcell hv hl
  go_enter Tryz.func33, Tryz.ntmps33
  go_wp2_with fail
  go_loopw [5, 6, 7] (fun ov i _ wr => ∃ (k : Nat) (rs : List PostR), k ≤ l.length ∧ i = .int .i64 (k : Nat) ∧ rs.length ≤ k ∧ Hid (postsOf rs = postsF t (l.take k) 0) ∧ Hid (wr.ownsRow w.heap.size 74 2 ov rs.length (postVs rs)) ∧ Hid (∀ r ∈ rs, wr.ownsRow w.heap.size 3 1 r.2.1 r.2.2.length (intVs r.2.2)) ∧ Hid (Q w wr)) (fun _ i _ _ => l.length - (intOf i).toNat)
  case atStart => exact ⟨0, [], by omega, rfl, by simp, rfl, World.ownsRow_nil _ _ _ _, fun r hr => by simp at hr, Q.refl _⟩
  case round =>
    obtain ⟨k, rs, hk, rfl, hrl, HRS, HO, HR, HQ⟩ := hrel
    obtain ⟨wo, rfl⟩ : ∃ wo : World, wo = wr := ⟨_, rfl⟩
    by_cases hlt : k < l.length
    · obtain ⟨b, of, rfl, hcc⟩ := HC.out (by omega)
      have c1 := cell_stays HQ.out (hcc k hlt).2
      have hki : (k : Int) < (l.length : Int) := by omega
      have hk0 : (0 : Int) ≤ (k : Int) := by omega
      have hst := postsF_take t l k hlt
      rw [← HRS.out] at hst
      have hxl := HL.out _ (List.getElem_mem hlt)
      have cp := fun W => RPlaces_any l[k].2 t W (by omega)
      have hpb : (placesIn l[k].2 t).length ≤ 1000000000 := by
        have h1 : (placesIn l[k].2 t).length ≤ (tokensL l[k].2).length := List.length_filterMap_le _ _
        have h2 := tokensF_len (wordsL l[k].2) 0
        have h3 := (wordsL_len l[k].2).1
        unfold tokensL at h1; omega
      clear hcc
      generalize placesIn l[k].2 t = ps at *
      generalize l[k].2 = x at *
      have CP := Lib.hid cp; have HST := Lib.hid hst
      clear cp hst
      go_wp2_with fail
      refine (CP.out _).mono ?_
      rintro e w1 ⟨v1, rfl, ho1, q1⟩
      obtain ⟨pa, pcap, rfl, _⟩ := owns_value ho1
      have hp1 := owns_low ho1 HQ.out.size
      have ho2 := ownsRow_below HO.out q1
      have hr2 : ∀ r ∈ rs, w1.ownsRow w.heap.size 3 1 r.2.1 r.2.2.length (intVs r.2.2) := fun r hr => ownsRow_below (HR.out r hr) q1
      have HQ1 := Lib.hid (HQ.out.trans q1); have HP1 := Lib.hid hp1; have HR2 := Lib.hid hr2
      have hsz : w.heap.size ≤ w1.heap.size := HQ1.out.size
      clear ho1 hp1 hr2 q1 CP HQ HO HR
      by_cases hps : ps = []
      · have hst := HST.out
        rw [if_pos hps, List.append_nil] at hst
        have HST2 := Lib.hid hst; have HO2 := Lib.hid ho2
        have hp0 : ¬ (0 : Int) < (ps.length : Int) := by rw [hps]; simp
        clear hst hps ho2
        go_wp2_with fail
        go_roundw
        case rel => exact ⟨k + 1, rs, by omega, by go_num, by omega, HST2.out.symm, HO2, HR2, HQ1⟩
        case measure => simp [intOf]; omega
      · have hst := HST.out
        rw [if_neg hps] at hst
        have hst2 : postsOf (rs ++ [((k : Int), Value.slice pa ps.length pcap, ps)]) = postsF t (l.take (k + 1)) 0 := by rw [hst]; simp [postsOf, postOf]
        have HST2 := Lib.hid hst2
        have hp0 : (0 : Int) < (ps.length : Int) := by have := List.length_pos_iff.2 hps; omega
        clear hst hst2 hps
        go_wp2_with (at_builtin; go_must (refine wpList_app w1 (by rfl) _ _ 70 (by rfl) w.heap.size 74 _ i0 (.agg #[.int .i64 0, .slice none 0 0]) 2 32 Tryz.underlying70 hi hz0 hz1 hz2 rfl (by decide) (by decide) _ _ _ (by rfl) ho2 #[.int .i64 (k : Nat), .slice pa ps.length pcap] (by simp [Act.eval]) rfl ?c1 ?c2 hsz ?_))
        case c1 => simp [Value.oneCell']
        case c2 => omega
        intro g6 cap6 w6 hown6 hg6 hat6 hlt6 hsz6
        have q6 : Q w w6 := grown_below HQ1.out ho2 hg6 (Nat.le_refl _) (by omega)
        have r6 : ∀ r ∈ rs ++ [((k : Int), Value.slice pa ps.length pcap, ps)], w6.ownsRow w.heap.size 3 1 r.2.1 r.2.2.length (intVs r.2.2) := fun r hr => by
          rcases List.mem_append.1 hr with hr | hr
          · exact row_beside (HR2.out r hr) ho2 hg6 (by decide)
          · rw [List.mem_singleton] at hr
            subst hr
            exact row_beside HP1.out ho2 hg6 (by decide)
        have hown6 : w6.ownsRow w.heap.size 74 2 (.slice (some ⟨g6, 0, none⟩) (rs.length + 1) cap6) (rs.length + 1) (postVs (rs ++ [((k : Int), Value.slice pa ps.length pcap, ps)])) := by
          have e : postVs (rs ++ [((k : Int), Value.slice pa ps.length pcap, ps)]) = postVs rs ++ [.int .i64 (k : Int), .slice pa ps.length pcap] := by simp [postVs]
          rw [e]; simpa using hown6
        have HO6 := Lib.hid hown6; have HQ6 := Lib.hid q6; have HR6 := Lib.hid r6
        clear hown6 q6 hg6 hat6 ho2 r6
        go_wp2_with fail
        go_roundw
        case rel => exact ⟨k + 1, rs ++ [((k : Int), Value.slice pa ps.length pcap, ps)], by omega, by go_num, by simp; omega, HST2.out, by show World.ownsRow _ _ _ _ _ _ _; rw [List.length_append]; exact HO6.out, HR6, HQ6⟩
        case measure => simp [intOf]; omega
    · have hke : k = l.length := by omega
      subst hke
      go_wp2_with fail
      go_ret
      exact ⟨_, rfl, ⟨rs, by rw [HRS.out, List.take_length], HO.out, HR.out⟩, HQ.out⟩
end Go.Proofs.YtcblmcbpnakphaaGreatDoor
