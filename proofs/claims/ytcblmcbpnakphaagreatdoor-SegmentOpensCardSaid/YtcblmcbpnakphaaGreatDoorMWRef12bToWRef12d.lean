/- Joined texts of one proof: WRef12b, WRef12c, WRef12d. -/
import Derived.Test.YtcblmcbpnakphaaGreatDoorMTermsJToWRef12a
import Derived.Test.YtcblmcbpnakphaaGreatDoorMWPostPToWDictPR
import Derived.Deep.RegionHeld3
set_option linter.unusedSimpArgs false
set_option linter.unusedVariables false
set_option linter.unnecessarySimpa false
/- (WRef12b) codexref12: Right, one: walked (where they are right). -/
section
namespace Go.Proofs.YtcblmcbpnakphaaGreatDoor
open Go.RowKit
set_option linter.unusedVariables false

theorem postsRight_docs (a : Int) (l : List PostL) (h : postsRight a l = true) : risingI a (l.map (·.1)) 500 = true := by
  induction l generalizing a with
  | nil => rfl
  | cons p l ih =>
    simp only [postsRight, Bool.and_eq_true, decide_eq_true_eq] at h
    obtain ⟨⟨⟨⟨h1, h2⟩, h3⟩, h4⟩, h5⟩ := h
    simp only [List.map_cons, risingI, Bool.and_eq_true, decide_eq_true_eq]
    exact ⟨⟨h1, h2⟩, ih _ h5⟩
theorem posts_at (l : List PostR) (h : postsRight (-1) (postsOf l) = true) (k : Nat) (hk : k < l.length) : (if k = 0 then -1 else ((postsOf l).getD (k - 1) (0, [])).1) < l[k].1 ∧ l[k].1 < 500 ∧ l[k].2.2.isEmpty = false ∧ risingI (-1) l[k].2.2 2000 = true ∧ -1 ≤ (if k = 0 then -1 else ((postsOf l).getD (k - 1) (0, [])).1) := by
  have hkp : k < (postsOf l).length := by simpa using hk
  have := postsRight_at _ _ h k hkp
  have hel : (postsOf l)[k] = (l[k].1, l[k].2.2) := by simp
  rw [hel] at this
  exact this
theorem str_cat {x : ByteArray} {a b c : Bytes} (hx : x = ⟨(a ++ b).toArray⟩) (h : a ++ b = c) : Value.string x = strV c := by rw [hx, h]
theorem tinfoInt : (Tryz.prog.info? 3).map (fun i => (i.zero, i.size, i.bytes)) = some (some (.int .i64 0), 1, 8) := by kernel_rfl
set_option maxRecDepth 100000 in
set_option maxHeartbeats 4000000 in
theorem RPRight_ok (v : Value) (l : List PostR) (w : World) (hv : Posts w v l) (hn : l.length ≤ 1000000) (hl : ∀ p ∈ l, p.2.2.length ≤ 1000000) (hr : postsRight (-1) (postsOf l) = true) :
    Calls Tryz.prog 98 #[v] w fun e w' => e = .returned (.bool true) ∧ Q w w' := by
  obtain ⟨a, cap, rfl, hcell⟩ := hv.value
  obtain ⟨i0, hi, hz0, hz1, hz2⟩ := info_parts tinfoInt
  have hin := hv.2
  have HC := Lib.hid hcell; have HIN := Lib.hid hin; have HL := Lib.hid hl; have HR := Lib.hid hr
  clear hcell hv hin hl hr
  go_enter Tryz.func98, Tryz.ntmps98
  go_wp2_with fail
  go_loopw [3, 4, 5] (fun dv i _ wr => ∃ (k : Nat) (ds : List Int), k ≤ l.length ∧ i = .int .i64 (k : Nat) ∧ Hid (ds = (l.take k).map (·.1)) ∧ Hid (wr.ownsRow w.heap.size 3 1 dv k (intVs ds)) ∧ Hid (Q w wr)) (fun _ i _ _ => l.length - (intOf i).toNat)
  case atStart => exact ⟨0, [], by omega, rfl, rfl, World.ownsRow_nil _ _ _ _, Q.refl _⟩
  case round =>
    obtain ⟨k, ds, hk, rfl, HDS, HO, HQ⟩ := hrel
    obtain ⟨wo, rfl⟩ : ∃ wo : World, wo = wr := ⟨_, rfl⟩
    have hsz : w.heap.size ≤ wo.heap.size := HQ.out.size
    by_cases hlt : k < l.length
    · obtain ⟨bb, o, rfl, hc⟩ := HC.out (by omega)
      obtain ⟨z0, z1⟩ := hc k hlt
      have c0 := cell_stays HQ.out z0
      have c1 := cell_stays HQ.out z1
      have hki : (k : Int) < (l.length : Int) := by omega
      have hk0 : (0 : Int) ≤ (k : Int) := by omega
      have hints := HIN.out _ (List.getElem_mem hlt)
      have hpl := HL.out _ (List.getElem_mem hlt)
      obtain ⟨_, _, b3, b4, _⟩ := posts_at l HR.out k hlt
      have htk : (l.take (k + 1)).map (·.1) = (l.take k).map (·.1) ++ [l[k].1] := by rw [List.take_succ_eq_append_getElem hlt, List.map_append]; rfl
      have Z0 := Lib.hid z0; have Z1 := Lib.hid z1
      clear z0 z1 hc
      generalize l[k] = p at *
      obtain ⟨d, pv, ps⟩ := p
      simp only at c0 c1 hints hpl b3 b4 htk Z0 Z1
      have crs := fun W (q : Q w W) => RPRising_ok pv ps 2000 W (hints.stays q) (by omega) b4
      obtain ⟨pa, pcap, rfl, _⟩ := hints.value
      have hne : (((ps.length : Nat) : Int) == 0) = false := by cases ps <;> simp_all; omega
      have CRS := Lib.hid crs; have HTK := Lib.hid htk
      clear crs b3 b4 htk hints
      have ho := HO.out
      go_wp2_with (at_builtin; go_must (refine wpList_app wo (by rfl) _ _ 72 (by rfl) w.heap.size 3 _ i0 (.int .i64 0) 1 8 Tryz.underlying72 hi hz0 hz1 hz2 rfl (by decide) (by decide) _ _ _ (by rfl) ho #[.int .i64 d] (by simp [Act.eval]) rfl ?c1 ?c2 hsz ?_))
      case c1 => simp [Value.oneCell']
      case c2 => omega
      intro g6 cap6 w6 hown6 hg6 hat6 hlt6 hsz6
      have q6 : Q w w6 := grown_below HQ.out ho hg6 (Nat.le_refl _) (by omega)
      have d0 := cell_stays q6 Z0.out
      have d1 := cell_stays q6 Z1.out
      have hown6 : w6.ownsRow w.heap.size 3 1 (.slice (some ⟨g6, 0, none⟩) (k + 1) cap6) (k + 1) (intVs (ds ++ [d])) := by simpa [intVs] using hown6
      have HO6 := Lib.hid hown6; have HQ6 := Lib.hid q6
      clear hown6 q6 hg6 hat6 ho c0 c1 HO HQ
      go_wp2_with fail
      refine (CRS.out _ HQ6.out).mono ?_
      rintro e w7 ⟨rfl, q7⟩
      have d2 := cell_stays q7 d0
      have d3 := cell_stays q7 d1
      have HQ7 := Lib.hid (HQ6.out.trans q7)
      have HO7 := Lib.hid (ownsRow_below HO6.out q7)
      clear q7 HQ6 HO6 CRS d0 d1
      go_wp2_with fail
      go_roundw
      case rel => exact ⟨k + 1, ds ++ [d], by omega, by go_num, by show _ = _; rw [HTK.out, HDS.out], HO7, HQ7⟩
      case measure => simp [intOf]; omega
    · have hke : k = l.length := by omega
      subst hke
      have ho := HO.out
      have hds := HDS.out
      rw [List.take_length] at hds
      rw [hds] at ho
      have hln : (l.map (·.1)).length = l.length := List.length_map _
      have hdm : (postsOf l).map (·.1) = l.map (·.1) := by simp [postOf]
      have hdr := postsRight_docs _ _ HR.out
      rw [hdm] at hdr
      obtain ⟨da, dcap, rfl, _⟩ := owns_value ho
      have hint : Ints wo (.slice da l.length dcap) (l.map (·.1)) := by have := Sl.of_owns ho; unfold Ints; rw [hln]; exact this
      have c := RPRising_ok _ (l.map (·.1)) 500 wo hint (by omega) hdr
      have C := Lib.hid c
      clear c hint hdr hdm ho HO
      go_wp2_with fail
      refine C.out.mono ?_
      rintro e w7 ⟨rfl, q7⟩
      have HQ7 := Lib.hid (HQ.out.trans q7)
      clear q7
      go_wp2_with fail
      go_ret
      exact ⟨rfl, HQ7.out⟩
end Go.Proofs.YtcblmcbpnakphaaGreatDoor
end

/- (WRef12c) codexref12: one: walked (where it is right). -/
section
namespace Go.Proofs.YtcblmcbpnakphaaGreatDoor
open Go.RowKit
set_option linter.unusedVariables false

theorem varsE_snoc (l : List Nat) (n : Nat) : varsE (l ++ [n]) = varsE l ++ varE n := by simp [varsE]
theorem RPNum_int (x : Int) (n : Nat) (hx : x = (n : Int)) (hn : n < 9223372036854775808) (W : World) :
    Calls Tryz.prog 137 #[.int .i64 x] W fun e w' => e = .returned (strV (varE n)) ∧ Q W w' := by
  subst hx; exact RPNumber_any n W hn
set_option maxRecDepth 100000 in
set_option maxHeartbeats 4000000 in
theorem ROne_ok (d last : Int) (pv : Value) (ps : List Int) (w : World) (hv : Ints w pv ps) (hd : last < d) (h1 : -1 ≤ last) (h2 : d < 500) (hr : Rises (-1) ps) (hn : ps.length ≤ 1000000) :
    Calls Tryz.prog 138 #[.agg #[.int .i64 d, pv], .int .i64 last] w fun e w' => e = .returned (strV (oneE (d, ps) last)) ∧ Q w w' := by
  obtain ⟨a, cap, rfl, hcell⟩ := hv.value
  have c1 := RPNum_int (d - last) (d - last).toNat (by omega) (by omega)
  have c2 := RPNum_int (ps.length : Int) ps.length rfl (by omega)
  have hone : oneE (d, ps) last = varsE (oneNums d last ps ps.length) := by unfold oneE oneNums; rw [List.take_length]
  have hst0 : varsE (oneNums d last ps 0) = varE (d - last).toNat ++ varE ps.length := by simp [oneNums, gapsL, varsE]
  have hl1 := varE_len (d - last).toNat
  have hl2 := varE_len ps.length
  have hx := heap_alloc_new w (.cells #[.int .i64 d, .slice a ps.length cap] 74)
  obtain ⟨x0, x1⟩ := cells2 hx
  have hq0 := Q.alloc w (.cells #[.int .i64 d, .slice a ps.length cap] 74)
  have hws : w.heap.size < (w.alloc (.cells #[.int .i64 d, .slice a ps.length cap] 74)).heap.size := by simp
  have HC := Lib.hid hcell; have HR := Lib.hid hr; have C1 := Lib.hid c1; have C2 := Lib.hid c2; have HONE := Lib.hid hone; have HST0 := Lib.hid hst0; have HX0 := Lib.hid x0; have HX1 := Lib.hid x1; have HQ0 := Lib.hid hq0
  clear hcell hv hr c1 c2 hone hst0 x0 x1 hx hq0 hws
  generalize varE (d - last).toNat = v1 at *
  generalize varE ps.length = v2 at *
  have hadd : v1.length + v2.length ≤ 9223372036854775807 := by omega
  have hsum : ∀ W : World, (Op.stringOp .add ⟨v1.toArray⟩ ⟨v2.toArray⟩).run Tryz.prog W = .ok (.string (⟨v1.toArray⟩ ++ ⟨v2.toArray⟩)) W := fun W => run_string_add_sum W _ _ (by simpa [ByteArray.size] using hadd)
  go_enter Tryz.func138, Tryz.ntmps138
  go_wp2_with fail
  generalize hwb : w.alloc (.cells #[.int .i64 d, .slice a ps.length cap] 74) = wb at *
  generalize hB : w.heap.size = B at *
  have k0 := HX0.out
  have k1 := HX1.out
  have hmx : Tryz.prog.follows .mixedOrders = true := by kernel_rfl
  have hw1 : IntKind.i64.wrap (d - last) = d - last := IntWalk.i64_in _ (by omega)
  have kk := Q.refl wb
  have KK := Lib.hid kk
  clear kk hwb hB
  go_region_held3 (fun w' => w'.cell? ⟨B, 0, none⟩ = some (.int .i64 d) ∧ w'.cell? ⟨B, 1, none⟩ = some (.slice a ps.length cap)) (first | exact ⟨k0, k1⟩ | exact ⟨cell_stays KK.out k0, cell_stays KK.out k1⟩ | exact ⟨cell_stays (KK.out.trans (Q.drew _)) k0, cell_stays (KK.out.trans (Q.drew _)) k1⟩)
    (first
      | (go_at_call 137; ((with_reducible refine (C1.out _).mono ?_); rintro e w' ⟨rfl, q⟩); have s' : Q wb w' := Q.trans (by first | exact KK.out | exact KK.out.trans (Q.drew _)) q; clear KK; have KK := Lib.hid s'; clear s' q)
      | (go_at_call 137; ((with_reducible refine (C2.out _).mono ?_); rintro e w' ⟨rfl, q⟩); have s' : Q wb w' := Q.trans (by first | exact KK.out | exact KK.out.trans (Q.drew _)) q; clear KK; have KK := Lib.hid s'; clear s' q))
  rw [bytes_append, ← HST0.out]
  go_wp2_with fail
  go_loopw [5, 6, 7] (fun sv at_ i wr => ∃ (k : Nat) (x : Int) (t : Bytes), k ≤ ps.length ∧ i = .int .i64 (k : Nat) ∧ at_ = .int .i64 x ∧ sv = strV t ∧ t.length ≤ 10 * k + 20 ∧ Hid (x = if k = 0 then -1 else ps.getD (k - 1) 0) ∧ Hid (t = varsE (oneNums d last ps k)) ∧ Hid (Q wb wr)) (fun _ _ i _ => ps.length - (intOf i).toNat)
  case atStart => exact ⟨0, -1, _, by omega, rfl, rfl, rfl, by rw [HST0.out, List.length_append]; omega, rfl, rfl, KK.out⟩
  case round =>
    obtain ⟨k, x, t, hk, rfl, rfl, rfl, htl, HX, HT, HQ⟩ := hrel
    obtain ⟨wo, rfl⟩ : ∃ wo : World, wo = wr := ⟨_, rfl⟩
    have e0 := cell_stays HQ.out k0
    have e1 := cell_stays HQ.out k1
    by_cases hlt : k < ps.length
    · obtain ⟨bb, off, rfl, hc⟩ := HC.out (by omega)
      have c0 := cell_stays (HQ0.out.trans HQ.out) (hc k hlt)
      have hki : (k : Int) < (ps.length : Int) := by omega
      have hki0 : (0 : Int) ≤ (k : Int) := by omega
      obtain ⟨p1, p2, p3⟩ := Rises.at_ _ _ HR.out k hlt
      rw [← HX.out] at p1 p3
      have hst : oneNums d last ps (k + 1) = oneNums d last ps k ++ [(ps[k] - x).toNat] := by
        unfold oneNums
        rw [gaps_take ps (-1) k hlt, HX.out]; rfl
      have hnext : ps[k] = if k + 1 = 0 then -1 else ps.getD (k + 1 - 1) 0 := by
        rw [if_neg (by omega), List.getD_eq_getElem?_getD, show k + 1 - 1 = k by omega, List.getElem?_eq_getElem hlt]; rfl
      clear hc
      generalize ps[k] = y at *
      have c3 := RPNum_int (y - x) (y - x).toNat (by omega) (by omega)
      have hl3 := varE_len (y - x).toNat
      have hts : t ++ varE (y - x).toNat = varsE (oneNums d last ps (k + 1)) := by rw [hst, varsE_snoc, HT.out]
      have HN := Lib.hid hnext; have HTS := Lib.hid hts; have C3 := Lib.hid c3
      clear hnext hts c3 hst
      generalize varE (y - x).toNat = v3 at *
      go_wp2_with fail
      refine (C3.out _).mono ?_
      rintro e w6 ⟨rfl, q6⟩
      have f0 := cell_stays q6 e0
      have f1 := cell_stays q6 e1
      have g0 := cell_stays q6 c0
      have HQ6 := Lib.hid (HQ.out.trans q6)
      clear q6 e0 e1 c0 HQ C3
      go_wp2_with fail
      go_roundw
      case rel => exact ⟨k + 1, y, t ++ v3, by omega, by go_num, rfl, by rw [bytes_append], by rw [List.length_append]; omega, HN, HTS, HQ6⟩
      case measure => simp [intOf]; omega
    · have hke : k = ps.length := by omega
      subst hke
      go_wp2_with fail
      go_ret
      exact ⟨by rw [HT.out, HONE.out]; rfl, HQ0.out.trans HQ.out⟩
end Go.Proofs.YtcblmcbpnakphaaGreatDoor
end

/- (WRef12d) codexref12: bytes, Pack: walked (where they are right). -/
section
namespace Go.Proofs.YtcblmcbpnakphaaGreatDoor
open Go.RowKit
set_option linter.unusedVariables false

set_option maxRecDepth 100000 in
set_option maxHeartbeats 4000000 in
theorem RPBytes_ok (v : Value) (l : List PostR) (w : World) (hv : Posts w v l) (hn : l.length ≤ 1000) (hl : ∀ p ∈ l, p.2.2.length ≤ 1000000) (hr : postsRight (-1) (postsOf l) = true) :
    Calls Tryz.prog 99 #[v] w fun e w' => e = .returned (strV (postsE (postsOf l))) ∧ Q w w' := by
  obtain ⟨a, cap, rfl, hcell⟩ := hv.value
  have hin := hv.2
  have HC := Lib.hid hcell; have HIN := Lib.hid hin; have HL := Lib.hid hl; have HR := Lib.hid hr
  clear hcell hv hin hl hr
  go_enter Tryz.func99, Tryz.ntmps99
  go_wp2_with fail
  go_loopw [3, 4, 5, 6, 7, 8, 9] (fun skv alv eiv lav ahv i _ wr => ∃ (k : Nat) (sk : List Nat) (bd : Bytes) (la dc : Int) (fr : Nat) (s8 vs : Bytes), k ≤ l.length ∧ i = .int .i64 (k : Nat) ∧ skv = strV vs ∧ alv = strV bd ∧ eiv = strV s8 ∧ lav = .int .i64 dc ∧ ahv = .int .i64 la ∧ Hid (vs = varsE sk) ∧ Hid (packTo (postsOf l) k = ⟨sk, bd, la, dc, fr⟩) ∧ s8.length = bd.length - fr ∧ Hid (Q w wr)) (fun _ _ _ _ _ i _ _ => l.length - (intOf i).toNat)
  case atStart => exact ⟨0, [], [], -1, -1, 0, [], [], by omega, rfl, rfl, rfl, rfl, rfl, rfl, rfl, rfl, rfl, Q.refl _⟩
  case round =>
    obtain ⟨k, sk, bd, la, dc, fr, s8, vs, hk, rfl, rfl, rfl, rfl, rfl, rfl, HVS, HST, hs8, HQ⟩ := hrel
    obtain ⟨wo, rfl⟩ : ∃ wo : World, wo = wr := ⟨_, rfl⟩
    obtain ⟨a1, a2, a3, a4, a5, a6⟩ := packOk (postsOf l) HR.out (by simpa using hn) k (by simpa using hk)
    have hst := HST.out
    rw [hst] at a1 a2 a3 a4 a5 a6
    simp only at a1 a2 a3 a4 a5 a6
    have hvl := varsE_len sk
    rw [← HVS.out] at hvl
    by_cases hlt : k < l.length
    · obtain ⟨bb, o, rfl, hc⟩ := HC.out (by omega)
      obtain ⟨z0, z1⟩ := hc k hlt
      have c0 := cell_stays HQ.out z0
      have c1 := cell_stays HQ.out z1
      have hki : (k : Int) < (l.length : Int) := by omega
      have hk0 : (0 : Int) ≤ (k : Int) := by omega
      have hints := HIN.out _ (List.getElem_mem hlt)
      have hpl := HL.out _ (List.getElem_mem hlt)
      obtain ⟨b1, b2, b3, b4, b5⟩ := posts_at l HR.out k hlt
      rw [← a1] at b1 b5
      have hsuc := packTo_succ (postsOf l) k (by simpa using hlt)
      have hel : (postsOf l)[k]'(by simpa using hlt) = (l[k].1, l[k].2.2) := by simp
      rw [hel, hst] at hsuc
      clear z0 z1 hc hel a1 hst
      generalize l[k] = p at *
      obtain ⟨d, pv, ps⟩ := p
      simp only at c0 c1 hints hpl b1 b2 b3 b4 hsuc
      have hri := rises_of _ _ b4
      have hol := oneE_len (d, ps) dc hri
      have cone := fun W (q : Q w W) => ROne_ok d dc pv ps W (hints.stays q) b1 b5 b2 hri (by omega)
      obtain ⟨pa, pcap, rfl, _⟩ := hints.value
      by_cases hg : 0 < k ∧ k % 8 = 0
      · have hstep : packStep ⟨sk, bd, la, dc, fr⟩ k (d, ps) = ⟨sk ++ [(dc - la).toNat, bd.length - fr], bd ++ oneE (d, ps) dc, dc, d, bd.length⟩ := by unfold packStep; rw [if_pos hg]
        rw [hstep] at hsuc
        obtain ⟨hg1, hg2⟩ := hg
        have hk8 : ((k : Int) % 8 == 0) = true := by simp; omega
        have hgi : (0 : Int) < (k : Int) := by omega
        have c3 := RPNum_int (dc - la) (dc - la).toNat (by omega) (by omega)
        have c4 := RPNum_int (s8.length : Int) s8.length rfl (by omega)
        have hvn : vs ++ varE (dc - la).toNat ++ varE s8.length = varsE (sk ++ [(dc - la).toNat, bd.length - fr]) := by
          rw [HVS.out, hs8]; simp [varsE]
        have hl3 := varE_len (dc - la).toNat
        have hl4 := varE_len s8.length
        have hs8b : s8.length ≤ bd.length := by omega
        clear hs8
        generalize oneE (d, ps) dc = x at *
        have CONE := Lib.hid cone; have HSUC := Lib.hid hsuc; have C3 := Lib.hid c3; have C4 := Lib.hid c4; have HVN := Lib.hid hvn
        clear cone hsuc c3 c4 hvn b4 b3 hri hints hstep a6
        generalize varE (dc - la).toNat = v3 at *
        generalize varE s8.length = v4 at *
        go_wp2_with fail
        refine (C3.out _).mono ?_
        rintro e w5 ⟨rfl, q5⟩
        have d0 := cell_stays q5 c0
        have d1 := cell_stays q5 c1
        have HQ5 := Lib.hid (HQ.out.trans q5)
        clear q5 c0 c1 HQ C3
        go_wp2_with fail
        refine (C4.out _).mono ?_
        rintro e w6 ⟨rfl, q6⟩
        have e0 := cell_stays q6 d0
        have e1 := cell_stays q6 d1
        have HQ6 := Lib.hid (HQ5.out.trans q6)
        clear q6 d0 d1 HQ5 C4
        go_wp2_with fail
        refine (CONE.out _ HQ6.out).mono ?_
        rintro e w7 ⟨rfl, q7⟩
        have f0 := cell_stays q7 e0
        have f1 := cell_stays q7 e1
        have HQ7 := Lib.hid (HQ6.out.trans q7)
        clear q7 e0 e1 HQ6 CONE
        go_wp2_with fail
        go_roundw
        case rel => exact ⟨k + 1, _, _, _, _, _, x, vs ++ v3 ++ v4, by omega, by go_num, by rw [bytes_append, bytes_append], by rw [bytes_append], rfl, rfl, rfl, HVN, HSUC, by simp, HQ7⟩
        case measure => simp [intOf]; omega
      · have hstep : packStep ⟨sk, bd, la, dc, fr⟩ k (d, ps) = ⟨sk, bd ++ oneE (d, ps) dc, la, d, fr⟩ := by unfold packStep; rw [if_neg hg]
        rw [hstep] at hsuc
        generalize oneE (d, ps) dc = x at *
        have CONE := Lib.hid cone; have HSUC := Lib.hid hsuc
        clear cone hsuc b4 b3 hri hints hstep a6
        by_cases hz : k = 0
        · subst hz
          simp only [Nat.zero_mul, Nat.add_zero] at c0 c1
          have hs8b := hs8
          have HS8 := Lib.hid hs8b
          have hs8c : s8.length ≤ bd.length := by omega
          clear hg hs8 hs8b
          go_wp2_with fail
          refine (CONE.out _ HQ.out).mono ?_
          rintro e w7 ⟨rfl, q7⟩
          have f0 := cell_stays q7 c0
          have f1 := cell_stays q7 c1
          have HQ7 := Lib.hid (HQ.out.trans q7)
          clear q7 c0 c1 HQ CONE
          go_wp2_with fail
          go_roundw
          case rel => exact ⟨0 + 1, _, _, _, _, _, s8 ++ x, vs, by omega, by go_num, rfl, by rw [bytes_append], by rw [bytes_append], rfl, rfl, HVS, HSUC, by have := HS8.out; simp; omega, HQ7⟩
          case measure => simp [intOf]; omega
        · have hgi : (0 : Int) < (k : Int) := by omega
          have hk8 : ((k : Int) % 8 == 0) = false := by simp; omega
          have hs8b := hs8
          have HS8 := Lib.hid hs8b
          have hs8c : s8.length ≤ bd.length := by omega
          clear hg hs8 hs8b
          go_wp2_with fail
          refine (CONE.out _ HQ.out).mono ?_
          rintro e w7 ⟨rfl, q7⟩
          have f0 := cell_stays q7 c0
          have f1 := cell_stays q7 c1
          have HQ7 := Lib.hid (HQ.out.trans q7)
          clear q7 c0 c1 HQ CONE
          go_wp2_with fail
          go_roundw
          case rel => exact ⟨k + 1, _, _, _, _, _, s8 ++ x, vs, by omega, by go_num, rfl, by rw [bytes_append], by rw [bytes_append], rfl, rfl, HVS, HSUC, by have := HS8.out; simp; omega, HQ7⟩
          case measure => simp [intOf]; omega
    · have hke : k = l.length := by omega
      subst hke
      have hfull : packTo (postsOf l) l.length = packF ⟨[], [], -1, -1, 0⟩ 0 (postsOf l) := by unfold packTo; rw [List.take_of_length_le (by simp)]
      have hfin : postsE (postsOf l) = varE l.length ++ vs ++ bd := by
        rw [hfull] at hst
        unfold postsE
        rw [hst, HVS.out]; simp
      have c3 := RPNum_int (l.length : Int) l.length rfl (by omega)
      have hl3 := varE_len l.length
      have HFIN := Lib.hid hfin; have C3 := Lib.hid c3
      clear hfin c3 hst hfull a1 a6
      generalize varE l.length = v3 at *
      go_wp2_with fail
      refine (C3.out _).mono ?_
      rintro e w7 ⟨rfl, q7⟩
      have HQ7 := Lib.hid (HQ.out.trans q7)
      clear q7
      go_wp2_with fail
      go_ret
      exact ⟨by rw [HFIN.out]; exact congrArg (fun b => Ending.returned (.string b)) (by rw [bytes_append, bytes_append]), HQ7.out⟩
theorem RPPack_ok (v : Value) (l : List PostR) (w : World) (hv : Posts w v l) (hn : l.length ≤ 1000) (hl : ∀ p ∈ l, p.2.2.length ≤ 1000000) (hr : postsRight (-1) (postsOf l) = true) :
    Calls Tryz.prog 63 #[v] w fun e w' => e = .returned (.tuple #[strV (packL (postsOf l)), .int .i64 0]) ∧ Q w w' := by
  have c1 := RPRight_ok v l w hv (by omega) hl hr
  have c2 := fun W (q : Q w W) => RPBytes_ok v l W (hv.stays q) hn hl hr
  have hpk : packL (postsOf l) = postsE (postsOf l) := by unfold packL; rw [if_pos hr]
  rw [hpk]
  generalize postsE (postsOf l) = x at *
  obtain ⟨a, cap, rfl, hcell⟩ := hv.value
  have C1 := Lib.hid c1; have C2 := Lib.hid c2
  clear c1 c2 hv hl hcell hr hpk
  go_enter Tryz.func63, Tryz.ntmps63
  go_wp2_with fail
  refine C1.out.mono ?_
  rintro e w1 ⟨rfl, q1⟩
  have HQ1 := Lib.hid q1
  clear q1 C1
  go_wp2_with fail
  refine (C2.out _ HQ1.out).mono ?_
  rintro e w2 ⟨rfl, q2⟩
  have HQ2 := Lib.hid (HQ1.out.trans q2)
  clear q2 C2
  go_wp2_with fail
  go_ret2
  exact ⟨rfl, HQ2.out⟩
end Go.Proofs.YtcblmcbpnakphaaGreatDoor
end
