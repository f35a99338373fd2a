/- codexref13: bytes, Pack: walked (where entries are right). -/
import Derived.Test.YtcblmcbpnakphaaGreatDoorHWRef13b
import Derived.Test.YtcblmcbpnakphaaGreatDoorHAppSl
set_option linter.unusedSimpArgs false
set_option linter.unusedVariables false
set_option linter.unnecessarySimpa false
namespace Go.Proofs.YtcblmcbpnakphaaGreatDoor
open Go.RowKit
set_option linter.unusedVariables false

theorem pairVs_take (l : List EntryL) (k : Nat) : (pairVs l).take (k * 2) = pairVs (l.take k) := by
  induction l generalizing k with
  | nil => simp [pairVs]
  | cons x l ih =>
    cases k with
    | zero => simp [pairVs]
    | succ k =>
      have e : ∀ m : List EntryL, pairVs (x :: m) = strV x.1 :: strV x.2 :: pairVs m := fun m => by simp [pairVs]
      rw [List.take_succ_cons, e, e, show (k + 1) * 2 = k * 2 + 1 + 1 by omega, List.take_succ_cons, List.take_succ_cons, ih]
theorem pairVs_drop (l : List EntryL) (k : Nat) : (pairVs l).drop (k * 2) = pairVs (l.drop k) := by
  induction l generalizing k with
  | nil => simp [pairVs]
  | cons x l ih =>
    cases k with
    | zero => simp
    | succ k =>
      have e : ∀ m : List EntryL, pairVs (x :: m) = strV x.1 :: strV x.2 :: pairVs m := fun m => by simp [pairVs]
      rw [List.drop_succ_cons, e, show (k + 1) * 2 = k * 2 + 1 + 1 by omega, List.drop_succ_cons, List.drop_succ_cons, ih]
def idxR (l : List EntryL) (m : Nat) : Bytes := (List.range m).flatMap fun i => textE ((grpL l i).headD ([], [])).1 ++ varE (blockE [] (grpL l i)).length
theorem idxTo_R (l : List EntryL) (m : Nat) : idxTo l m = varE l.length ++ idxR l m := rfl
theorem idxR_succ (l : List EntryL) (m : Nat) : idxR l (m + 1) = idxR l m ++ (textE ((grpL l m).headD ([], [])).1 ++ varE (blockE [] (grpL l m)).length) := by
  simp [idxR, List.range_succ]
set_option maxRecDepth 100000 in
set_option maxHeartbeats 4000000 in
theorem RDBytes_ok (v : Value) (l : List EntryL) (w : World) (hv : Pairs w v l) (hn : l.length ≤ 1048576) (hl : Small l) (hcap : ∀ a n c, v = .slice a n c → n ≤ c ∧ c ≤ 9223372036854775807) :
    Calls Tryz.prog 101 #[v] w fun e w' => e = .returned (strV (dictE l)) ∧ Q w w' := by
  have hv0 := hv
  obtain ⟨a, cap, rfl, hcell⟩ := hv.value
  obtain ⟨hc1, hc2⟩ := hcap _ _ _ rfl
  have HC := Lib.hid hcell; have HL := Lib.hid hl; have HV := Lib.hid hv0
  clear hcell hv hl hv0 hcap
  have hmx : Tryz.prog.follows .mixedOrders = true := by kernel_rfl
  go_enter Tryz.func101, Tryz.ntmps101
  go_wp2_with fail
  go_loopw [3, 4, 5, 6] (fun xv av iv _ wr => ∃ (m i : Nat) (s t : Bytes), iv = .int .i64 (i : Int) ∧ xv = strV s ∧ av = strV t ∧ i ≤ l.length + 15 ∧ s.length ≤ 1000000000 ∧ t.length ≤ 100000000000000 ∧ Hid (i = 16 * m) ∧ Hid (m = 0 ∨ 16 * (m - 1) < l.length) ∧ Hid (s = idxR l m) ∧ Hid (t = allTo l m) ∧ Hid (Q w wr)) (fun _ _ i _ _ => l.length + 16 - (intOf i).toNat)
  case atStart => exact ⟨0, 0, [], [], rfl, rfl, rfl, by omega, by simp, by simp, rfl, .inl rfl, rfl, rfl, Q.refl _⟩
  case round =>
    obtain ⟨m, i, s, t, rfl, rfl, rfl, hib, hsb, htb, HI, HM, HS, HT, HQ⟩ := hrel
    obtain ⟨wo, rfl⟩ : ∃ wo : World, wo = wr := ⟨_, rfl⟩
    by_cases hlt : i < l.length
    · have hg := grpL_length l m
      have hgl : (l.take (min l.length (i + 16))).drop i = grpL l m := by
        unfold grpL
        rw [← HI.out, List.drop_take]
        by_cases h : i + 16 ≤ l.length
        · rw [Nat.min_eq_right h, show i + 16 - i = 16 by omega]
        · rw [Nat.min_eq_left (by omega), List.take_of_length_le (by rw [List.length_drop]; omega), List.take_of_length_le (by rw [List.length_drop]; omega)]
      have hcut := fun W (q : Q w W) (hi1 : i ≤ min l.length (i + 16)) (hi2 : min l.length (i + 16) ≤ l.length) => Sl.cut (size := 2) (Pairs.stays HV.out q) i (min l.length (i + 16)) hi1 hi2 hc1
      rw [pairVs_take, pairVs_drop, hgl, if_neg (by omega : ¬ cap = i)] at hcut
      have hhead : ((grpL l m).headD ([], [])).1 = l[i].1 := by
        have hh : (grpL l m)[0]? = some l[i] := by
          unfold grpL
          rw [List.getElem?_take, if_pos (by omega), List.getElem?_drop, ← HI.out, Nat.add_zero, List.getElem?_eq_getElem hlt]
        cases hgr : grpL l m with
        | nil => rw [hgr] at hh; cases hh
        | cons y ys => rw [hgr] at hh; injection hh with hh; rw [hh]; rfl
      have hxs := idxR_succ l m
      have hts := allTo_succ l m
      rw [hhead, ← HS.out] at hxs
      rw [← HT.out] at hts
      have hsl := idxTo_len HL.out (m + 1)
      rw [idxTo_R, List.length_append, hxs] at hsl
      have htl := allTo_len HL.out (m + 1)
      rw [hts] at htl
      have hm2 := HI.out
      have hbl := blockE_len (grpL_small HL.out m) []
      have hsm := grpL_small HL.out m
      rw [hg, ← HI.out] at hbl
      rw [← HI.out] at hg
      have hii : (0 : Int) ≤ (i : Int) := by omega
      have hil : (i : Int) < (l.length : Int) := by omega
      obtain ⟨hi2, hhi⟩ : ∃ h, h = min l.length (i + 16) := ⟨_, rfl⟩
      rw [← hhi] at hcut
      have hmin : min (l.length : Int) ((i : Int) + 16) = (hi2 : Int) := by omega
      have hb1 : i ≤ hi2 := by omega
      have hb2 : hi2 ≤ l.length := by omega
      have hglen : (grpL l m).length = hi2 - i := by omega
      have hp2 : ∀ W, Q w W → Pairs W (.slice (Option.map (fun x => x.add (i * 2)) a) (hi2 - i) (cap - i)) (grpL l m) := fun W q => by
        have := hcut W q hb1 hb2
        unfold Pairs
        rw [hglen]
        exact this
      have cb := fun W (q : Q w W) => RDBlock_any _ _ W (hp2 W q) (by omega) hsm
      have z0 := fun (h : 0 < l.length) => HC.out h
      obtain ⟨bb, o, rfl, hc⟩ := HC.out (by omega)
      have c0 := cell_stays HQ.out (hc i hlt).1
      simp only [Option.map_some, add_off] at cb
      have hxl := (HL.out _ (List.getElem_mem hlt)).1
      have hl1 := textE_len l[i].1
      have hl2 := varE_len (blockE [] (grpL l m)).length
      have ct := fun W => RText_any l[i].1 W (by omega)
      have cn := RDNum_int ((blockE [] (grpL l m)).length : Int) _ rfl (by omega)
      clear hc z0 hcut hp2 hgl hsm
      generalize l[i].1 = x at *
      generalize blockE [] (grpL l m) = bl at *
      generalize textE x = v1 at *
      generalize varE bl.length = v2 at *
      have HXS := Lib.hid hxs; have HTS := Lib.hid hts; have CB := Lib.hid cb; have CT := Lib.hid ct; have CN := Lib.hid cn
      have hm3 : m + 1 ≤ 65537 := by omega
      have HM2 := Lib.hid hm2
      have hs2 : (s ++ (v1 ++ v2)).length ≤ 1000000000 := by rw [List.length_append]; rw [List.length_append] at hsl; omega
      have ht2 : (t ++ bl).length ≤ 100000000000000 := by omega
      have HS2 := Lib.hid hs2; have HT2 := Lib.hid ht2
      clear hxs hts cb ct cn hg hglen hhi hm2 hhead hsl htl hs2 ht2
      have c0i := c0
      go_wp2_with fail
      refine (CB.out _ HQ.out).mono ?_
      rintro e w1 ⟨rfl, q1⟩
      have d0 := cell_stays q1 c0
      have HQ1 := Lib.hid (HQ.out.trans q1)
      clear q1 c0 HQ CB c0i
      go_wp2_with fail
      refine (CT.out _).mono ?_
      rintro e w2 ⟨rfl, q2⟩
      have HQ2 := Lib.hid (HQ1.out.trans q2)
      clear q2 HQ1 CT d0
      go_wp2_with fail
      refine (CN.out _).mono ?_
      rintro e w3 ⟨rfl, q3⟩
      have HQ3 := Lib.hid (HQ2.out.trans q3)
      clear q3 HQ2 CN
      go_wp2_with fail
      go_roundw
      case rel => exact ⟨m + 1, i + 16, s ++ (v1 ++ v2), t ++ bl, by go_num, by rw [bytes_append, bytes_append, List.append_assoc], by rw [bytes_append], by omega, HS2.out, HT2.out, by show _ = _; have := HM2.out; omega, .inr (by have := HM2.out; simp; omega), HXS.out.symm, HTS.out.symm, HQ3⟩
      case measure => simp [intOf]; omega
    · have hfin : dictE l = varE l.length ++ s ++ t := by
        rw [dictE_eq l m (by have := HI.out; omega) HM.out, idxTo_R, ← HS.out, ← HT.out]
      have c3 := RDNum_int (l.length : Int) l.length rfl (by omega)
      have hl3 := varE_len l.length
      have HFIN := Lib.hid hfin; have C3 := Lib.hid c3
      clear hfin c3
      generalize varE l.length = v3 at *
      go_wp2_with fail
      refine (C3.out _).mono ?_
      rintro e w7 ⟨rfl, q7⟩
      have HQ7 := Lib.hid (HQ.out.trans q7)
      clear q7
      go_wp2_with fail
      go_ret
      exact ⟨by rw [HFIN.out]; exact congrArg (fun b => Ending.returned (.string b)) (by rw [bytes_append, bytes_append]), HQ7.out⟩
theorem RDPack_ok (v : Value) (l : List EntryL) (w : World) (hv : Pairs w v l) (hn : l.length ≤ 1048576) (hl : Small l) (hcap : ∀ a n c, v = .slice a n c → n ≤ c ∧ c ≤ 9223372036854775807) (hr : entriesRight [] l = true) :
    Calls Tryz.prog 64 #[v] w fun e w' => e = .returned (.tuple #[strV (dictE l), .int .i64 0]) ∧ Q w w' := by
  have c1 := RDRight_ok v l w hv hn hr
  have c2 := fun W (q : Q w W) => RDBytes_ok v l W (hv.stays q) hn hl hcap
  generalize dictE l = x at *
  obtain ⟨a, cap, rfl, hcell⟩ := hv.value
  have C1 := Lib.hid c1; have C2 := Lib.hid c2
  clear c1 c2 hv hl hcell hr hcap
  go_enter Tryz.func64, Tryz.ntmps64
  go_wp2_with fail
  refine C1.out.mono ?_
  rintro e w1 ⟨rfl, q1⟩
  have HQ1 := Lib.hid q1
  clear q1 C1
  go_wp2_with fail
  refine (C2.out _ HQ1.out).mono ?_
  rintro e w2 ⟨rfl, q2⟩
  have HQ2 := Lib.hid (HQ1.out.trans q2)
  clear q2 C2
  go_wp2_with fail
  go_ret2
  exact ⟨rfl, HQ2.out⟩
end Go.Proofs.YtcblmcbpnakphaaGreatDoor
