/- Joined texts of one proof: BitE, WPlaysA, RPlays, Shown15. -/
import Derived.Test.YtoabhcfmdkhmgaaGreatDoorPWLiveQToBitC
import Derived.Test.YtoabhcfmdkhmgaaGreatDoorPWLiveRToWFresh
import Derived.Outline
import Derived.Test.YtoabhcfmdkhmgaaGreatDoorPWRef15eToWPlaces
import Derived.Test.YtoabhcfmdkhmgaaGreatDoorPWMergeToWLaw15b
import Derived.Test.YtoabhcfmdkhmgaaGreatDoorPWLastToLive2
set_option linter.unusedSimpArgs false
set_option linter.unusedVariables false
set_option linter.unnecessarySimpa false
/- (BitE) codexref5: Get, one, Set: walked. -/
section
namespace Go.Proofs.YtoabhcfmdkhmgaaGreatDoor
open Go.RowKit
set_option linter.unusedVariables false
set_option maxRecDepth 100000

set_option maxHeartbeats 400000 in
theorem rget_in (l : List UInt8) (i : Int) (w : World) (hs : l.length ≤ 9223372036854775807) (hi : 0 ≤ i) (hi3 : i ≤ 9223372036854775807) (hi2 : i / 8 < l.length) :
    Calls Tryz.prog 83 #[.string ⟨l.toArray⟩, .int .i64 i] w fun e w' => e = .returned (.bool (bitI l i)) ∧ w = w' := by
  have hx : (l[(i / 8).toNat]'(by omega)).toNat < 256 := UInt8.toNat_lt _
  have hb := bitI_in l i hi (by omega)
  generalize hv : (l[(i / 8).toNat]'(by omega)).toNat = x at *
  have HB := Lib.hid hb; clear hb
  have HV := Lib.hid hv; clear hv
  have H0 : 0 ≤ i / 8 := by omega
  have H1 : 0 ≤ i % 8 := by omega
  have H2 : i % 8 < 8 := by omega
  go_enter Tryz.func83, Tryz.ntmps83
  go_wp2
  go_loop [5, 6] (fun v k => ∃ j : Nat, j ≤ (i % 8).toNat ∧ k = .int .i64 j ∧ v = .int .i64 ((x / 2 ^ j : Nat) : Int)) (fun _ k => 8 - (intOf k).toNat)
  case atStart => exact ⟨0, Nat.zero_le _, rfl, by rw [w64b, ← HV.out]; simp; rfl⟩
  case round =>
    obtain ⟨j, hj, rfl, rfl⟩ := hrel
    have hd := div_two_pow x j
    have hxj : x / 2 ^ j ≤ x := Nat.div_le_self _ _
    have HD := Lib.hid hd; clear hd
    generalize hy : x / 2 ^ j = y at *
    have HY := Lib.hid hy; clear hy
    by_cases hlt : j < (i % 8).toNat
    · go_wp2
      go_round
      case rel => exact ⟨j + 1, by omega, by go_num, by rw [HD.out]⟩
      case measure => simp [intOf]; omega
    · go_wp2
      go_ret
      have e : j = (i % 8).toNat := by omega
      refine ⟨ret_bool ?_, rfl⟩
      rw [HB.out, ← e, ← mod_two_one, HY.out]
set_option maxHeartbeats 400000 in
theorem rget_neg (l : List UInt8) (i : Int) (w : World) (hi : i < 0) :
    Calls Tryz.prog 83 #[.string ⟨l.toArray⟩, .int .i64 i] w fun e w' => e = .returned (.bool (bitI l i)) ∧ w = w' := by
  have h := bitI_neg l i hi
  have H := Lib.hid h; clear h
  go_enter Tryz.func83, Tryz.ntmps83
  go_wp2
  go_ret
  exact ⟨by rw [H.out]; rfl, rfl⟩

set_option maxHeartbeats 400000 in
theorem rget_ge (l : List UInt8) (i : Int) (w : World) (hs : l.length ≤ 9223372036854775807) (hi : 0 ≤ i) (hi3 : i ≤ 9223372036854775807) (hi2 : l.length ≤ i / 8) :
    Calls Tryz.prog 83 #[.string ⟨l.toArray⟩, .int .i64 i] w fun e w' => e = .returned (.bool (bitI l i)) ∧ w = w' := by
  have h := bitI_ge l i (by omega)
  have H := Lib.hid h; clear h
  go_enter Tryz.func83, Tryz.ntmps83
  go_wp2
  go_ret
  exact ⟨by rw [H.out]; rfl, rfl⟩

theorem rget_any (l : List UInt8) (i : Int) (w : World) (hs : l.length ≤ 9223372036854775807) (hi3 : i ≤ 9223372036854775807) :
    Calls Tryz.prog 83 #[.string ⟨l.toArray⟩, .int .i64 i] w fun e w' => e = .returned (.bool (bitI l i)) ∧ w = w' := by
  by_cases h : i < 0
  · exact rget_neg l i w h
  · by_cases h2 : i / 8 < l.length
    · exact rget_in l i w hs (by omega) hi3 h2
    · exact rget_ge l i w hs (by omega) hi3 (by omega)
set_option linter.unusedVariables false
set_option maxRecDepth 100000

set_option maxHeartbeats 400000 in
theorem rone_any (m : List UInt8) (i cap B : Nat) (on : Bool) (w : World) (hs : m.length ≤ 9223372036854775807 / 8) (hr : ByteRow w B m) (hi : i / 8 < m.length) :
    Calls Tryz.prog 61 #[.slice (some ⟨B, 0, none⟩) m.length cap, .int .i64 i, .bool on] w fun e w' => e = .returned (.tuple #[]) ∧ Below B w w' ∧ ByteRow w' B (setBit m i on) := by
  have h4 : m.length ≤ 9223372036854775807 := by omega
  have h5 : (i : Int) ≤ 9223372036854775807 := by omega
  have hkc := hr.back (P := Tryz.prog) 100 9 5 cap Tryz.underlying100 Tryz.underlying5 Tryz.underlying9
  obtain ⟨x, hx, HV, hc, hf⟩ := hr.at (i / 8) hi
  have hk8 : i % 8 < 8 := Nat.mod_lt _ (by omega)
  have HR := Lib.hid hr; clear hr
  go_enter Tryz.func61, Tryz.ntmps61
  go_wp2_with fail
  go_loop [6, 7] (fun v k => ∃ j : Nat, j ≤ i % 8 ∧ k = .int .i64 j ∧ v = .int .u8 ((2 ^ j : Nat) : Int)) (fun _ k => 8 - (intOf k).toNat)
  case atStart => exact ⟨0, Nat.zero_le _, rfl, rfl⟩
  case round =>
    obtain ⟨j, hj, rfl, rfl⟩ := hrel
    have hp : 2 ^ (j + 1) = 2 ^ j * 2 := Nat.pow_succ _ _
    have hl := two_pow_lt j (by omega)
    have hl2 : j + 1 < 8 → 2 ^ j * 2 < 256 := fun h => by rw [← hp]; exact two_pow_lt _ h
    by_cases hlt : j < i % 8
    · have hl3 := hl2 (by omega)
      generalize hy : 2 ^ j = y at *
      have HP := Lib.hid hp; have HY := Lib.hid hy; clear hp hy hl2
      go_wp2
      go_round
      case rel => exact ⟨j + 1, by omega, by go_num, by rw [HP.out]; go_num⟩
      case measure => simp [intOf]; omega
    · have e : j = i % 8 := by omega
      subst e
      clear hl2 hp
      generalize hy : 2 ^ (i % 8) = y at *
      have HY := Lib.hid hy; clear hy
      go_wp2_with fail
      refine (rget_any m i _ h4 h5).mono ?_
      rintro e w' ⟨rfl, rfl⟩
      have hb : bitI m i = x.testBit (i % 8) := by rw [bitI_nat, bit, HV.out]
      cases hne : (bitI m i == on) with
      | true =>
        have HB := Lib.hid hb; clear hb
        go_wp2_with fail
        go_end0
        refine ⟨rfl, Below.refl _ _, ?_⟩
        rw [HB.out] at hne
        have e := same_set x (i % 8) on hx hk8 hne
        have hs : setBit m i on = m := by
          unfold setBit
          rw [HV.out, ← e, ← HV.out]
          rw [List.getD_eq_getElem?_getD, List.getElem?_eq_getElem hi]
          simp
        rw [hs]; exact HR.out
      | false =>
        have HB := Lib.hid hb; clear hb
        go_wp2_with fail
        go_end0
        refine ⟨rfl, (Below.refl B w).setCell (p := ⟨B, i / 8, none⟩) (Nat.le_refl _) _, ?_⟩
        rw [HB.out] at hne
        have e := xor_set x (i % 8) on hx hk8 hne
        have hk := two_pow_lt _ hk8
        unfold setBit
        rw [HV.out]
        refine HR.out.set _ _ _ ?_
        rw [u8_xor_nat _ _ hx hl, ← HY.out, e, ofNat_toNat _ (byteSet_lt _ _ _ hx hk8)]

theorem rone_at (m : List UInt8) (i cap B n : Nat) (on : Bool) (w : World) (hs : m.length ≤ 9223372036854775807 / 8) (hr : ByteRow w B m) (hi : i / 8 < m.length) (hn : m.length = n) :
    Calls Tryz.prog 61 #[.slice (some ⟨B, 0, none⟩) n cap, .int .i64 i, .bool on] w fun e w' => e = .returned (.tuple #[]) ∧ Below B w w' ∧ ByteRow w' B (setBit m i on) := by
  subst hn; exact rone_any m i cap B on w hs hr hi
set_option maxHeartbeats 400000 in
theorem rset_ok (l : List UInt8) (s c : Nat) (on : Bool) (w : World) (hs : l.length ≤ 9223372036854775807 / 8) (h2 : c + s ≤ 8 * l.length) :
    Calls Tryz.prog 41 #[.string ⟨l.toArray⟩, .int .i64 s, .int .i64 c, .bool on] w fun e w' => e = .returned (.tuple #[.string ⟨(setTo l s on c).toArray⟩, .bool true]) ∧ Below w.heap.size w w' := by
  have kc := fun (w : World) (s : ByteArray) => run_bytes_of_string (P := Tryz.prog) w 9 100 5 s Tryz.underlying9 Tryz.underlying100 Tryz.underlying5
  have H1 : ¬ (8 * (l.length : Int)) < c := by omega
  have H2 : ¬ (8 * (l.length : Int) - c) < s := by omega
  go_enter Tryz.func41, Tryz.ntmps41
  go_wp2_with fail
  go_loopw [12] (fun i wr => ∃ k : Nat, k ≤ c ∧ i = .int .i64 ((s : Int) + k) ∧ Below w.heap.size w wr ∧ ByteRow wr w.heap.size (setTo l s on k)) (fun i _ => s + c - (intOf i).toNat)
  case atStart => exact ⟨0, by omega, by simp, (Below.refl _ _).alloc (Nat.le_refl _) _ |>.drew, ByteRow.made _ _ _ _⟩
  case round =>
    obtain ⟨k, hk, rfl, hb, hr⟩ := hrel
    have hl := length_setTo l s on k
    have hst : setBit (setTo l s on k) (s + k) on = setTo l s on (k + 1) := rfl
    generalize hm : setTo l s on k = m at *
    have HL := Lib.hid hl; clear hl
    have HM := Lib.hid hm; clear hm
    have HS := Lib.hid hst; clear hst
    by_cases hlt : k < c
    · have hi2 : (s + k) / 8 < m.length := by rw [HL.out]; omega
      have hm8 : m.length ≤ 9223372036854775807 / 8 := by rw [HL.out]; exact hs
      have HR := Lib.hid hr; clear hr
      have HB := Lib.hid hb; clear hb
      go_wp2_with fail
      have ei : ((s : Int) + (k : Int)) = ((s + k : Nat) : Int) := by omega
      rw [ei]; clear ei
      refine (rone_at m (s + k) _ w.heap.size l.length on _ hm8 HR.out hi2 HL.out).mono ?_
      rintro e w' ⟨rfl, hb2, hr2⟩
      rw [HS.out] at hr2
      have HB2 := Lib.hid hb2; have HR2 := Lib.hid hr2; clear hb2 hr2
      go_wp2_with fail
      go_roundw
      case rel => exact ⟨k + 1, by omega, by go_num, HB.out.trans HB2.out, HR2.out⟩
      case measure => simp [intOf]; omega
    · have hk2 : k = c := by omega
      have hkc := hr.back (P := Tryz.prog) 100 9 5 (grownCap w l.length 0 5) Tryz.underlying100 Tryz.underlying5 Tryz.underlying9
      rw [HL.out] at hkc
      have HR := Lib.hid hr; clear hr
      have HB := Lib.hid hb; clear hb
      have HK := Lib.hid hk2; clear hk2
      go_wp2
      go_ret2
      exact ⟨by rw [← HK.out, HM.out]; rfl, HB.out⟩
end Go.Proofs.YtoabhcfmdkhmgaaGreatDoor
end

/- (WPlaysA) codexlaw15: model, bits: walked. -/
section
namespace Go.Proofs.YtoabhcfmdkhmgaaGreatDoor
open Go.RowKit
set_option linter.unusedVariables false

def modelR (rs : List RPart) (a : ActL) : List RPart × Bytes × Int := if a.2.1 then mergeR rs a.2.2.1 a.2.2.2 else applyR rs a.1
theorem RPost.of_q {w w1 w' : World} {R : List RPart × Bytes × Int} {e : Ending} (q : Q w w1) (h : RPost w1 R e w') : RPost w R e w' := ⟨h.1, q.trans h.2⟩
set_option maxRecDepth 100000 in
set_option maxHeartbeats 4000000 in
theorem Model_any (v : Value) (l : List PartM) (ov : Value) (a : ActL) (w : World) (hv : PartsM w v l) (hn : l.length ≤ 1000) (hl : ∀ p ∈ l, RPartOk p.2.2) (hok : PartsOk ((l.map rOf).map toP)) (hvo : Ops w ov a.1) (hon : a.1.length ≤ 9223372036854775807)
    (hol : ∀ o ∈ a.1, o.2.1.length ≤ 9223372036854775807 ∧ o.2.2.length ≤ 9223372036854775807) :
    Calls Tryz.prog 7 #[v, .agg #[ov, .bool a.2.1, .int .i64 a.2.2.1, .int .i64 a.2.2.2]] w fun e w' => RPost w (modelR (l.map rOf) a) e w' := by
  obtain ⟨ops, m, i, j⟩ := a
  simp only at hvo hon hol ⊢
  have hq0 := Q.alloc w (.cells #[ov, .bool m, .int .i64 i, .int .i64 j] 34)
  obtain ⟨k0, k1, k2, k3, _⟩ := Blk.c4 (Blk.new w 34 #[ov, .bool m, .int .i64 i, .int .i64 j])
  cases m with
  | true =>
    have c := RMerge15_any v l i j _ (hv.stays hq0) hn hl hok
    have e : modelR (l.map rOf) (ops, true, i, j) = mergeR (l.map rOf) i j := rfl
    rw [e]
    have C := Lib.hid c; have HQ0 := Lib.hid hq0
    obtain ⟨a, cap, rfl, _⟩ := hv.value
    obtain ⟨oa, oc, rfl, _⟩ := hvo.value
    clear c e hv hvo hl hok hol hq0
    generalize mergeR (l.map rOf) i j = R at *
    go_enter Tryz.func7, Tryz.ntmps7
    go_wp2_with fail
    refine C.out.mono ?_
    rintro e w1 ⟨⟨v', l', rfl, hp, hm⟩, q1⟩
    have HP := Lib.hid hp; have HM := Lib.hid hm; have HQ1 := Lib.hid q1
    clear hp hm q1
    go_wp2_with fail
    go_ret3
    exact ⟨⟨_, l', rfl, HP.out, HM.out⟩, HQ0.out.trans HQ1.out⟩
  | false =>
    have c := RApply15_any v l ov ops _ (hv.stays hq0) hn (fun p hp => ⟨(hl p hp).1, (hl p hp).len.1⟩) (hvo.stays hq0) hon hol
    have e : modelR (l.map rOf) (ops, false, i, j) = applyR (l.map rOf) ops := rfl
    rw [e]
    have C := Lib.hid c; have HQ0 := Lib.hid hq0
    obtain ⟨a, cap, rfl, _⟩ := hv.value
    obtain ⟨oa, oc, rfl, _⟩ := hvo.value
    clear c e hv hvo hl hok hol hq0
    generalize applyR (l.map rOf) ops = R at *
    go_enter Tryz.func7, Tryz.ntmps7
    go_wp2_with fail
    refine C.out.mono ?_
    rintro e w1 ⟨⟨v', l', rfl, hp, hm⟩, q1⟩
    have HP := Lib.hid hp; have HM := Lib.hid hm; have HQ1 := Lib.hid q1
    clear hp hm q1
    go_wp2_with fail
    go_ret3
    exact ⟨⟨_, l', rfl, HP.out, HM.out⟩, HQ0.out.trans HQ1.out⟩
set_option maxRecDepth 100000 in
set_option maxHeartbeats 4000000 in
theorem Bits_any (v : Value) (gs : List Bool) (w : World) (hv : Bools w v gs) (hn : gs.length ≤ 500) :
    Calls Tryz.prog 25 #[v] w fun e w' => e = .returned (strV (bmpL gs)) ∧ Q w w' := by
  obtain ⟨a, cap, rfl, hcell⟩ := hv.value
  have cm := rmake_any (gs.length : Int) w
  have e0 : makeL (gs.length : Int) = bmpTo gs 0 := rfl
  rw [e0] at cm
  have CM := Lib.hid cm; have HC := Lib.hid hcell
  clear cm hcell hv e0
  go_enter Tryz.func25, Tryz.ntmps25
  go_wp2_with fail
  refine CM.out.mono ?_
  rintro e w1 ⟨rfl, q1⟩
  have HQ1 := Lib.hid q1
  clear q1
  go_wp2_with fail
  go_loopw [3, 4] (fun s i wr => ∃ k : Nat, k ≤ gs.length ∧ i = .int .i64 (k : Nat) ∧ s = strV (bmpTo gs k) ∧ Hid (Q w wr)) (fun _ i _ => gs.length - (intOf i).toNat)
  case atStart => exact ⟨0, by omega, rfl, rfl, HQ1.out⟩
  case round =>
    obtain ⟨k, hk, rfl, rfl, HQ⟩ := hrel
    obtain ⟨wo, rfl⟩ : ∃ wo : World, wo = wr := ⟨_, rfl⟩
    by_cases hlt : k < gs.length
    · obtain ⟨b, off, rfl, hcc⟩ := HC.out (by omega)
      have c0 := cell_stays HQ.out (hcc k hlt)
      have hki : (k : Int) < (gs.length : Int) := by omega
      have hk0 : (0 : Int) ≤ (k : Int) := by omega
      have hbl := bmpTo_len gs hn k
      have cs := rset_ok (bmpTo gs k) k 1 gs[k] wo (by omega) (by omega)
      have e1 : setTo (bmpTo gs k) k gs[k] 1 = bmpTo gs (k + 1) := by rw [bmpTo, List.getD_eq_getElem?_getD, List.getElem?_eq_getElem hlt]; rfl
      rw [e1] at cs
      generalize gs[k] = g at *
      have CS := Lib.hid cs
      clear cs e1 hbl hcc
      go_wp2_with fail
      refine CS.out.mono ?_
      rintro e w2 ⟨rfl, q2⟩
      have HQ2 := Lib.hid (HQ.out.trans q2)
      clear q2 CS c0
      go_wp2_with fail
      go_roundw
      case rel => exact ⟨k + 1, by omega, by go_num, rfl, HQ2⟩
      case measure => simp [intOf]; omega
    · have hke : k = gs.length := by omega
      subst hke
      go_wp2_with fail
      go_ret
      exact ⟨rfl, HQ.out⟩
end Go.Proofs.YtoabhcfmdkhmgaaGreatDoor
end

/- (RPlays) Plain: what the document's answer to chapter 15 does is what the parts do. No program in sight. -/
section
namespace Go.Proofs.YtoabhcfmdkhmgaaGreatDoor
open Go.RowKit
set_option linter.unusedVariables false

theorem getR_iff (l : List DocL) (hn : (l.map (·.1)).Nodup) (id t : Bytes) : getR l id = some t ↔ (id, t) ∈ l := by
  induction l with
  | nil => simp [getR]
  | cons d l ih =>
    obtain ⟨h1, h2⟩ := List.nodup_cons.1 (by simpa using hn : (d.1 :: l.map (·.1)).Nodup)
    rw [getR_cons, List.mem_cons]
    by_cases h : d.1 = id
    · rw [if_pos h]
      constructor
      · intro e
        injection e with e
        exact .inl (by rw [← h, ← e])
      · rintro (e | e)
        · rw [← e]
        · exact absurd (List.mem_map.2 ⟨_, e, rfl⟩) (by rw [h] at h1; exact h1)
    · rw [if_neg h, ih h2]
      constructor
      · exact .inr
      · rintro (e | e)
        · exact absurd (by rw [← e]) h
        · exact e
theorem get_R (rs : List RPart) (h : ∀ r ∈ rs, RPartOk r) (hok : PartsOk (rs.map toP)) (id : Bytes) : getR (docsR rs) id = getL (rs.map toP) id := by
  have e := docsR_eq rs h hok.2
  have hn := nodup_docsL _ hok.2
  rw [e]
  have key : ∀ t, getR (docsL (rs.map toP)) id = some t ↔ getL (rs.map toP) id = some t := fun t => by
    rw [getR_iff _ hn, getL_iff _ hok, mem_docsL _ hok.2]
  cases hg : getL (rs.map toP) id with
  | some t => exact (key t).2 hg
  | none =>
    cases hr : getR (docsL (rs.map toP)) id with
    | none => rfl
    | some t => exact absurd ((key t).1 hr) (by rw [hg]; simp)
theorem many_R (rs : List RPart) (h : ∀ r ∈ rs, RPartOk r) (hok : PartsOk (rs.map toP)) : (liveM (rs.map toP)).length = (docsR rs).length := by
  rw [docsR_eq rs h hok.2, many_eq _ hok.2]
theorem docsR_len (rs : List RPart) (h : ∀ r ∈ rs, RPartOk r) (hok : PartsOk (rs.map toP)) : (docsR rs).length ≤ rs.length * 500 := by
  rw [docsR_eq _ h hok.2, ← many_eq _ hok.2, liveM_eq _ hok.2, liveL_toP _ h]
  clear hok
  induction rs with
  | nil => simp
  | cons r rs ih =>
    have h1 := ih (fun x hx => h x (List.mem_cons_of_mem _ hx))
    have h2 : (liveR r).length ≤ 500 := by
      have := (h r (by simp)).len.1
      unfold liveR
      rw [List.length_map]
      have := List.length_filter_le (fun x : DocL × Bool => !x.2) (r.1.zip r.2)
      rw [List.length_zip] at this
      omega
    rw [List.flatMap_cons, List.length_append, List.length_cons]; omega
theorem freshR_len (l : List DocL) : ∀ r ∈ freshR l, r.2.length = r.1.length := by
  intro r hr
  unfold freshR at hr
  split at hr
  · simp at hr
  · rw [List.mem_singleton] at hr; subst hr; simp
theorem model_R (rs : List RPart) (a : ActL) (h : ∀ r ∈ rs, RPartOk r) (hok : PartsOk (rs.map toP)) : doesL (rs.map toP) a = ((modelR rs a).1.map toP, (modelR rs a).2) := by
  unfold doesL modelR
  split
  · exact merge_R rs _ _ h hok.2
  · exact apply_R rs _ h
theorem model_ok (rs : List RPart) (a : ActL) (h : ∀ r ∈ rs, RPartOk r) (hok : PartsOk (rs.map toP)) : (∀ r ∈ (modelR rs a).1, RPartOk r) ∧ PartsOk ((modelR rs a).1.map toP) := by
  have hd := does_ok _ a hok
  rw [model_R rs a h hok] at hd
  refine ⟨fun r hr => ⟨?_, hd.1 _ (List.mem_map_of_mem hr)⟩, hd⟩
  unfold modelR at hr
  split at hr
  · unfold mergeR at hr
    split at hr
    · exact (h r hr).1
    · split at hr
      · exact (h r hr).1
      · rcases List.mem_append.1 hr with hr | hr
        · exact (h r (List.mem_of_mem_take hr)).1
        · rcases List.mem_append.1 hr with hr | hr
          · exact freshR_len _ r hr
          · exact (h r (List.mem_of_mem_drop hr)).1
  · unfold applyR at hr
    split at hr
    · exact (h r hr).1
    · split at hr
      · rcases List.mem_append.1 hr with hr | hr
        · obtain ⟨x, hx, rfl⟩ := List.mem_map.1 hr
          rw [goneR_len _ _ (h x hx).1]; rfl
        · exact freshR_len _ r hr
      · exact (h r hr).1
def madeR (l : List ActL) (k : Nat) : List RPart := (l.take k).foldl (fun rs a => (modelR rs a).1) []
theorem madeR_succ (l : List ActL) (k : Nat) (h : k < l.length) : madeR l (k + 1) = (modelR (madeR l k) l[k]).1 := by
  unfold madeR
  rw [List.take_succ_eq_append_getElem h, List.foldl_append]; rfl
theorem madeR_ok (l : List ActL) (k : Nat) (hk : k ≤ l.length) : (∀ r ∈ madeR l k, RPartOk r) ∧ PartsOk ((madeR l k).map toP) ∧ madeL l k = (madeR l k).map toP := by
  induction k with
  | zero => exact ⟨by simp [madeR], ⟨by simp [madeR], by simp [madeR, liveL]⟩, by simp [madeR, madeL]⟩
  | succ k ih =>
    obtain ⟨h1, h2, h3⟩ := ih (by omega)
    have h4 := model_ok _ l[k] h1 h2
    rw [madeR_succ l k (by omega), madeL_succ l k (by omega), h3, model_R _ _ h1 h2]
    exact ⟨h4.1, h4.2, rfl⟩
/-- parts in memory bear a store into a box that holds a list of parts -/
theorem PartsM.setBox {W : World} {X : Nat} {T : TypeId} {a : Option Addr} {n cap : Nat} (hb : Boxed W X T (.slice a n cap)) (u : Value) {ps : List PartL} (hp : PartsAt W (.slice a n cap) ps) {v : Value} {l : List PartM} (h : PartsM W v l) (h1 : ∀ p ∈ l, RPartOk p.2.2) : PartsM (W.setCell ⟨X, 0, none⟩ u) v l := by
  obtain ⟨ha, hb2, hc⟩ := h
  have hpc : ∀ (b off : Nat) (x : Value), a = some ⟨b, off, none⟩ → 0 < n → W.cell? ⟨b, off, none⟩ = some x → ∃ y, x = .pointer y := by
    intro b off x e hn hx
    obtain ⟨a', c', e2, hcell⟩ := hp.value
    injection e2 with e3 e4 e5
    obtain ⟨b', off', e6, hcc⟩ := hcell (by omega)
    rw [← e3, e] at e6
    injection e6 with e7
    injection e7 with e8 e9
    obtain ⟨p, hp1, _⟩ := hcc 0 (by omega)
    rw [← e8, ← e9, Nat.zero_mul, Nat.add_zero] at hp1
    rw [hp1] at hx
    injection hx with hx
    exact ⟨_, hx.symm⟩
  refine ⟨Sl.setBox hb u ha (by decide) (fun x hx e => ?_), fun p hp' => ⟨Sl.setBox hb u (hb2 p hp').1 (by decide) (fun x hx e => ?_), Sl.setBox hb u (hb2 p hp').2 (by decide) (fun x hx e => ?_)⟩, hc⟩
  · obtain ⟨p, hp', hx⟩ := List.mem_flatMap.1 hx
    obtain ⟨hd, hg⟩ := hb2 p hp'
    have hr := h1 p hp'
    have hl1 : 1 ≤ p.2.2.1.length := hr.2.2.1
    have hl2 := hr.1
    simp only [List.mem_cons, List.not_mem_nil, or_false] at hx
    rcases hx with hx | hx
    · obtain ⟨a', c', e2, hcell⟩ := hd.value
      obtain ⟨b, off, e3, hcc⟩ := hcell (by omega)
      have h0 := (hcc 0 (by omega)).1
      rw [Nat.zero_mul, Nat.add_zero] at h0
      rw [← hx, e] at e2
      injection e2 with e4 e5 e6
      obtain ⟨y, hy⟩ := hpc b off _ (by rw [e4, e3]) (by omega) h0
      cases hy
    · obtain ⟨a', c', e2, hcell⟩ := hg.value
      obtain ⟨b, off, e3, hcc⟩ := hcell (by omega)
      have h0 := hcc 0 (by omega)
      rw [Nat.add_zero] at h0
      rw [← hx, e] at e2
      injection e2 with e4 e5 e6
      obtain ⟨y, hy⟩ := hpc b off _ (by rw [e4, e3]) (by omega) h0
      cases hy
  · obtain ⟨d, _, hx⟩ := List.mem_flatMap.1 hx
    simp only [List.mem_cons, List.not_mem_nil, or_false] at hx
    rcases hx with hx | hx <;> rw [hx] at e <;> cases e
  · obtain ⟨b, _, hx⟩ := List.mem_map.1 hx
    rw [← hx] at e; cases e
end Go.Proofs.YtoabhcfmdkhmgaaGreatDoor
end

/- (Shown15) Plain: chapter 15's examples. No program in sight. -/
section
namespace Go.Proofs.YtoabhcfmdkhmgaaGreatDoor
open Go.Sort
set_option linter.unusedVariables false

abbrev exO1 : List OpL := [(false, ([120], [49])), (false, ([121], [50])), (false, ([120], [51]))]
abbrev exD1 : List DocL := [([121], [50]), ([120], [51])]
abbrev exP1 : List PartL := [(exD1, [0])]
abbrev exO2 : List OpL := [(true, ([120], [])), (false, ([122], [52]))]
abbrev exD2 : List DocL := [([122], [52])]
abbrev exP2 : List PartL := [(exD1, [2]), (exD2, [0])]
abbrev exS (l : List DocL) : Bytes := segE l (idxL l)
theorem ex_fresh1 : freshL exD1 = ([(exD1, [0])], exS exD1) := by
  unfold freshL; rw [if_neg (by simp)]; rfl
theorem ex_fresh2 : freshL exD2 = ([(exD2, [0])], exS exD2) := by
  unfold freshL; rw [if_neg (by simp)]; rfl
theorem ex_more1 : moreL exO1 = exD1 := by decide
theorem ex_more2 : moreL exO2 = exD2 := by decide
theorem ex_right1 : exO1.all opRight = true := by decide +kernel
theorem ex_right2 : exO2.all opRight = true := by decide +kernel
theorem ex_apply1 : applyL [] exO1 = (exP1, exS exD1, 0) := by
  unfold applyL
  rw [if_neg (by decide), if_pos ex_right1, ex_more1, ex_fresh1]; rfl
theorem ex_apply2 : applyL exP1 exO2 = (exP2, exS exD2, 0) := by
  unfold applyL
  rw [if_neg (by decide), if_pos ex_right2, ex_more2, ex_fresh2]
  have : goneAll (idsL exO2) exP1 = [(exD1, [2])] := by decide +kernel
  rw [this]; rfl
theorem ex_many : applyL exP1 [] = (exP1, [], 6) := by unfold applyL; rw [if_pos (by decide)]
theorem ex_arg : applyL exP1 [(true, ([], []))] = (exP1, [], 1) := by unfold applyL; rw [if_neg (by decide), if_neg (by decide +kernel)]
theorem ex_ok1 : PartsOk exP1 := by
  have := apply_ok [] exO1 ⟨by simp, by simp [liveL]⟩
  rwa [ex_apply1] at this
theorem ex_ok2 : PartsOk exP2 := by
  have := apply_ok exP1 exO2 ex_ok1
  rwa [ex_apply2] at this
theorem ex_many1 : (liveM exP1).length = 2 := by decide +kernel
theorem ex_sort1 : ([[121], [120]] : List Bytes).mergeSort leB = [[120], [121]] := by
  have h : ([[121], [120]] : List Bytes).Perm [[120], [121]] := List.Perm.swap _ _ _
  rw [show ([[121], [120]] : List Bytes).mergeSort leB = ([[120], [121]] : List Bytes).mergeSort leB from mergeSort_of_perm h]
  exact List.mergeSort_of_pairwise (by decide)
theorem ex_docs1 : docsL exP1 = [([120], [51]), ([121], [50])] := by
  have h : liveM exP1 = exD1 := by decide +kernel
  unfold docsL
  rw [h]
  show (([[121], [120]] : List Bytes).mergeSort leB).map _ = _
  rw [ex_sort1]; decide +kernel
theorem ex_docs2 : docsL exP2 = [([121], [50]), ([122], [52])] := by
  have h : liveM exP2 = [([121], [50]), ([122], [52])] := by decide +kernel
  unfold docsL
  rw [h]
  show (([[121], [122]] : List Bytes).mergeSort leB).map _ = _
  rw [List.mergeSort_of_pairwise (by decide)]; decide +kernel
theorem ex_merge : (mergeL exP2 0 1).2.2 = 0 ∧ (mergeL exP2 0 1).1.length = 1 := by
  have h := merge_all exP2 ex_ok2 (by decide)
  rw [show ((exP2.length : Nat) : Int) - 1 = 1 by decide, ex_docs2, if_neg (by decide)] at h
  rw [h]
  unfold freshL
  rw [if_neg (by simp)]
  exact ⟨rfl, rfl⟩
theorem exS_ne (l : List DocL) : (exS l).isEmpty = false := by
  simp [exS, segE, segBody, magicL]
end Go.Proofs.YtoabhcfmdkhmgaaGreatDoor
end
