/- Joined texts of one proof: WRef2b, WRef14d, WOpen, WSegDocs. -/
import Derived.Test.YtoabhcfmdkhmgaaGreatDoorPWBldToWRef10f
import Derived.Test.YtoabhcfmdkhmgaaGreatDoorPWIndexToWCrc
import Derived.Test.YtoabhcfmdkhmgaaGreatDoorPWRef14cToWRef13c
import Derived.Test.YtoabhcfmdkhmgaaGreatDoorPWBuildToWRef14b
import Derived.Test.YtoabhcfmdkhmgaaGreatDoorPWReadToWGather
import Derived.Test.YtoabhcfmdkhmgaaGreatDoorShelf
import Derived.Deep.RegionHeld3
import Derived.OwnWalk
import Derived.WalkLawsBesides
import Derived.WalkSpells
set_option linter.unusedSimpArgs false
set_option linter.unusedVariables false
set_option linter.unnecessarySimpa false
/- (WRef2b) codexref2: Fixed, Crc: walked. -/
section
namespace Go.Proofs.YtoabhcfmdkhmgaaGreatDoor
open Go.RowKit
set_option linter.unusedVariables false

set_option maxRecDepth 20000 in
set_option maxHeartbeats 400000 in
theorem RFixed_any (v : Nat) (w : World) (hv : v < 4294967296) :
    Calls Tryz.prog 58 #[.int .u32 v] w fun e w' => e = .returned (strV (fixedL v)) ∧ Q w w' := by
  have k4 := four_back w (v % 256) (v / 256 % 256) (v / 65536 % 256) (v / 16777216) (by omega) (by omega) (by omega) (by omega) (fixedL v) (by unfold fixedL; rw [show v / 16777216 % 256 = v / 16777216 by omega])
  simp only [Int.natCast_emod, Int.natCast_ediv, Int.cast_ofNat_Int] at k4
  generalize fixedL v = r at *
  go_enter Tryz.func58, Tryz.ntmps58
  go_wp2_with fail
  go_ret
  exact ⟨rfl, Q.alloc _ _⟩
theorem crc_take1 (s : Bytes) (j : Nat) (h : j < s.length) : crcRaw (s.take (j + 1)) = crcTurns 8 (crcRaw (s.take j) ^^^ s[j].toNat) := crc_take [] s j h
set_option maxRecDepth 20000 in
set_option maxHeartbeats 1000000 in
theorem RCrc_any (s : Bytes) (w : World) (hs : s.length ≤ 9223372036854775807) :
    Calls Tryz.prog 59 #[strV s] w fun e w' => e = .returned (.int .u32 (crcL s : Nat)) ∧ w = w' := by
  go_enter Tryz.func59, Tryz.ntmps59
  go_wp2_with fail
  go_loop [3, 4, 5] (fun c i _ => ∃ k : Nat, k ≤ s.length ∧ i = .int .i64 k ∧ c = .int .u32 (crcRaw (s.take k) : Nat)) (fun _ i _ => s.length - (intOf i).toNat)
  case atStart => exact ⟨0, by omega, rfl, rfl⟩
  case round =>
    obtain ⟨k, hk, rfl, rfl⟩ := hrel
    have hlt1 := crcRaw_lt (s.take k)
    by_cases hlt : k < s.length
    · have hst := crc_take1 s k hlt
      have hx : (s[k]).toNat < 256 := UInt8.toNat_lt _
      generalize hy : crcRaw (s.take k) = c at *
      have HY := Lib.hid hy; have HST := Lib.hid hst; clear hy hst
      go_wp2_with fail
      have hxl : c ^^^ (s[k]).toNat < 4294967296 := Nat.xor_lt_two_pow (n := 32) hlt1 (by omega)
      go_loop [5, 3] (fun i d => ∃ m : Nat, m ≤ 8 ∧ i = .int .i64 m ∧ d = .int .u32 (crcTurns m (c ^^^ (s[k]).toNat) : Nat)) (fun i _ => 8 - (intOf i).toNat)
      case atStart => exact ⟨0, by omega, rfl, int_eq (by
        rw [show ((({ data := List.toArray s } : ByteArray)[k]).toNat : Int) % 4294967296 = ((s[k]).toNat : Int) from Int.emod_eq_of_lt (by omega) (by show ((s[k]).toNat : Int) < _; omega)]
        exact u32_xor_nat c (s[k]).toNat hlt1 (by omega))⟩
      case round =>
        obtain ⟨m, hm, rfl, rfl⟩ := hrel
        have htl := crcTurns_lt m _ hxl
        by_cases hml : m < 8
        · have hsc : crcTurns (m + 1) (c ^^^ (s[k]).toNat) = crcTurn (crcTurns m (c ^^^ (s[k]).toNat)) := rfl
          generalize crcTurns m (c ^^^ (s[k]).toNat) = d at *
          have HSC := Lib.hid hsc; clear hsc
          by_cases hodd : d % 2 = 1
          · have ht : crcTurn d = (d / 2) ^^^ 3988292384 := by unfold crcTurn; rw [if_pos hodd]
            have hx2 : bits .xor .u32 (((d / 2 : Nat) : Int)) ((3988292384 : Nat) : Int) = ((d / 2 ^^^ 3988292384 : Nat) : Int) := u32_xor_nat (d / 2) 3988292384 (by omega) (by decide)
            have hoi : ((d : Int) % 2 == 1) = true := by simp; omega
            have HT := Lib.hid ht; have HX2 := Lib.hid hx2
            clear ht hx2 hodd
            go_wp2_with fail
            go_round
            case rel => exact ⟨m + 1, by omega, by go_num, int_eq (by rw [HSC.out, HT.out]; exact HX2.out)⟩
            case measure => simp [intOf]; omega
          · have ht : crcTurn d = d / 2 := by unfold crcTurn; rw [if_neg hodd]
            have hoi : ((d : Int) % 2 == 1) = false := by simp; omega
            have HT := Lib.hid ht
            clear ht hodd
            go_wp2_with fail
            go_round
            case rel => exact ⟨m + 1, by omega, by go_num, int_eq (by rw [HSC.out, HT.out]; rfl)⟩
            case measure => simp [intOf]; omega
        · have hm8 : m = 8 := by omega
          subst hm8
          go_wp2_with fail
          go_round
          case rel => exact ⟨k + 1, by omega, by go_num, by rw [HST.out]⟩
          case measure => simp [intOf]; omega
    · have hkk : k = s.length := by omega
      have hx := crcRaw_lt s
      subst hkk
      rw [List.take_length]
      generalize hc : crcRaw s = c at *
      have HCR := Lib.hid hc; clear hc
      go_wp2_with fail
      go_ret
      refine ⟨ret_int ?_, rfl⟩
      show bits BinOp.xor IntKind.u32 (c : Int) ((4294967295 : Nat) : Int) = _
      rw [u32_xor_nat _ _ hx (by decide)]
      unfold crcL
      rw [HCR.out]
end Go.Proofs.YtoabhcfmdkhmgaaGreatDoor
end

/- (WRef14d) codexref14: Build: walked. -/
section
namespace Go.Proofs.YtoabhcfmdkhmgaaGreatDoor
open Go.RowKit
set_option linter.unusedVariables false

theorem RText_big (s : Bytes) (w : World) (hs : s.length ≤ 9000000000000000000) :
    Calls Tryz.prog 53 #[strV s] w fun e w' => e = .returned (strV (textE s)) ∧ Q w w' := by
  have c := fun W => RVar_any s.length W (by omega)
  have C := Lib.hid c
  have hl := varE_len s.length
  clear c
  go_enter Tryz.func53, Tryz.ntmps53
  go_wp2_with fail
  refine (C.out _).mono ?_
  rintro e w1 ⟨rfl, q1⟩
  have HQ1 := Lib.hid q1
  clear q1 C
  go_wp2_with fail
  go_ret
  exact ⟨congrArg (fun b => Ending.returned (.string b)) (bytes_append _ _), HQ1.out⟩
theorem docsOk_next (l : List DocL) (k : Nat) (h : k < l.length) : docsOk (l.take (k + 1)) ↔ docsOk (l.take k) ∧ rightB l[k].1 l[k].2 = true ∧ l[k].1 ∉ (l.take k).map (·.1) := by
  rw [List.take_succ_eq_append_getElem h]
  unfold docsOk
  rw [List.map_append, List.nodup_append]
  constructor
  · rintro ⟨h1, h2, h3, h4⟩
    exact ⟨⟨fun d hd => h1 d (List.mem_append_left _ hd), h2⟩, h1 l[k] (List.mem_append_right _ (List.mem_singleton.2 rfl)), fun hm => h4 _ hm l[k].1 (by simp) rfl⟩
  · rintro ⟨⟨h1, h2⟩, h3, h4⟩
    refine ⟨fun d hd => ?_, h2, by simp, fun a ha b hb e => ?_⟩
    · rcases List.mem_append.1 hd with hd | hd
      · exact h1 d hd
      · rw [List.mem_singleton] at hd; subst hd; exact h3
    · simp only [List.map_cons, List.map_nil, List.mem_singleton] at hb
      subst hb; subst e; exact h4 ha
theorem docsOk_part (l : List DocL) (k : Nat) (h : docsOk l) : docsOk (l.take k) := by
  refine ⟨fun d hd => h.1 d (List.mem_of_mem_take hd), ?_⟩
  rw [List.map_take]
  exact (List.take_sublist _ _).nodup h.2
theorem small_right (last : Bytes) (l : List EntryL) (h : entriesRight last l = true) : Small l := fun e he => by
  obtain ⟨k, hk, rfl⟩ := List.mem_iff_getElem.1 he
  exact (entriesAt last l h k hk).2
theorem entsL_take (l : List DocL) (k : Nat) (h : k < (termsL l).length) : (entsL l).take (k + 1) = (entsL l).take k ++ [((termsL l)[k], packL (postsF (termsL l)[k] l 0))] := by
  have hl : (entsL l).length = (termsL l).length := by unfold entsL; rw [List.length_map]
  rw [List.take_succ_eq_append_getElem (by omega)]
  congr 1
  unfold entsL
  simp
theorem tinfoEnt : (Tryz.prog.info? 114).map (fun i => (i.zero, i.size, i.bytes)) = some (some (.agg #[strV [], strV []]), 2, 32) := by kernel_rfl
set_option maxRecDepth 100000 in
set_option maxHeartbeats 8000000 in
theorem RBuild_any (v : Value) (l : List DocL) (w : World) (hv : Docs w v l) (hn : l.length ≤ 9223372036854775807) (hl : ∀ d ∈ l, d.1.length ≤ 9223372036854775807 ∧ d.2.length ≤ 9223372036854775807) :
    Calls Tryz.prog 37 #[v] w fun e w' => e = .returned (.tuple #[strV (buildS l).1, .int .i64 (buildS l).2]) ∧ Q w w' := by
  have hv0 := hv
  obtain ⟨a, cap, rfl, hcell⟩ := hv.value
  have HC := Lib.hid hcell; have HL := Lib.hid hl; have HV := Lib.hid hv0
  clear hcell hv hl hv0
  have hmx : Tryz.prog.follows .mixedOrders = true := by kernel_rfl
  by_cases h : l.length < 1 ∨ 500 < l.length
  · have hb : buildS l = ([], 6) := by unfold buildS; rw [if_pos h]
    rw [hb]
    clear hb
    by_cases h1 : l.length < 1
    · clear h
      go_enter Tryz.func37, Tryz.ntmps37
      go_wp2_with fail
      go_ret2
      exact ⟨rfl, Q.refl _⟩
    · have h5 : 500 < l.length := by omega
      clear h
      go_enter Tryz.func37, Tryz.ntmps37
      go_wp2_with fail
      go_ret2
      exact ⟨rfl, Q.refl _⟩
  · have hbad : ¬ docsOk l → buildS l = ([], 1) := fun hb => by unfold buildS; rw [if_neg h, if_neg hb]
    have hgood : docsOk l → buildS l = (segE l (idxS l), 0) := fun hb => by unfold buildS; rw [if_neg h, if_pos hb]
    have hl1 : 1 ≤ l.length := by omega
    have hl5 : l.length ≤ 500 := by omega
    have cv := fun W => RVar_any l.length W (by omega)
    have hvl := varE_len l.length
    obtain ⟨vn, hvn⟩ : ∃ vn, vn = varE l.length := ⟨_, rfl⟩
    rw [← hvn] at cv hvl
    have CV := Lib.hid cv; have HB := Lib.hid hbad; have HG := Lib.hid hgood; have HVN := Lib.hid hvn
    clear cv hbad hgood hvn h
    go_enter Tryz.func37, Tryz.ntmps37
    go_wp2_with fail
    refine (CV.out _).mono ?_
    rintro e w1 ⟨rfl, q1⟩
    have HQ1 := Lib.hid q1
    clear q1 CV
    go_wp2_with fail
    go_loopw [4, 5, 6, 7] (fun sv i _ _ wr => ∃ (k : Nat) (s : Bytes), k ≤ l.length ∧ i = .int .i64 (k : Nat) ∧ sv = strV s ∧ s.length ≤ 14 + 2100 * k ∧ Hid (s = magicL ++ (vn ++ docsE (l.take k))) ∧ Hid (docsOk (l.take k)) ∧ Hid (Q w wr)) (fun _ i _ _ _ => l.length - (intOf i).toNat)
    case atStart => exact ⟨0, magicL ++ vn, by omega, rfl, str_cat (bytes_append _ _) rfl, by simp [magicL]; omega, by show _ = _; simp [docsE], ⟨by simp, by simp⟩, HQ1.out⟩
    case round =>
      obtain ⟨k, s, hk, rfl, rfl, hsl, HS, HOK, HQ⟩ := hrel
      obtain ⟨wo, rfl⟩ : ∃ wo : World, wo = wr := ⟨_, rfl⟩
      by_cases hlt : k < l.length
      · obtain ⟨b, of, rfl, hcc⟩ := HC.out (by omega)
        have z0 := (hcc k hlt).1
        have z1 := (hcc k hlt).2
        have c0 := cell_stays HQ.out z0
        have c1 := cell_stays HQ.out z1
        have hki : (k : Int) < (l.length : Int) := by omega
        have hk0 : (0 : Int) ≤ (k : Int) := by omega
        have hnx := docsOk_next l k hlt
        have hdt := docsE_take l k hlt
        have hlen := HL.out _ (List.getElem_mem hlt)
        have hallk : docsOk l → rightB l[k].1 l[k].2 = true := fun hd => hd.1 _ (List.getElem_mem hlt)
        have hdup : ∀ j, (hj : j < k) → l[j].1 = l[k].1 → ¬ docsOk l := fun j hj he hd => by
          have := (docsOk_next l k hlt).1 (docsOk_part l (k + 1) hd)
          exact this.2.2 (by rw [← he]; exact List.mem_map_of_mem (List.mem_iff_getElem.2 ⟨j, by rw [List.length_take]; omega, by simp⟩))
        have hfre : (∀ j, (hj : j < k) → l[j].1 ≠ l[k].1) → l[k].1 ∉ (l.take k).map (·.1) := fun hf hm => by
          obtain ⟨d, hd, he⟩ := List.mem_map.1 hm
          obtain ⟨j, hj, hje⟩ := List.mem_iff_getElem.1 hd
          rw [List.length_take] at hj
          have hj2 : j < k := by omega
          refine hf j hj2 ?_
          rw [← he, ← hje]; simp
        have hids : ∀ j, (hj : j < k) → w.cell? ⟨b, of + j * 2, none⟩ = some (strV l[j].1) := fun j hj => (hcc j (by omega)).1
        have hidsl : ∀ j, (hj : j < k) → l[j].1.length ≤ 9223372036854775807 := fun j hj => (HL.out _ (List.getElem_mem (by omega))).1
        obtain ⟨ids, hidse⟩ : ∃ ids : Nat → Bytes, ∀ j, (hj : j < k) → ids j = l[j].1 := ⟨fun j => if hj : j < k then l[j].1 else [], fun j hj => by simp [hj]⟩
        have hids2 : ∀ j, j < k → w.cell? ⟨b, of + j * 2, none⟩ = some (strV (ids j)) := fun j hj => by rw [hidse j hj]; exact hids j hj
        have hdup2 : ∀ j, j < k → ids j = l[k].1 → ¬ docsOk l := fun j hj he => hdup j hj (by rw [← hidse j hj]; exact he)
        have hfre2 : (∀ j, j < k → ids j ≠ l[k].1) → l[k].1 ∉ (l.take k).map (·.1) := fun hf => hfre (fun j hj => by rw [← hidse j hj]; exact hf j hj)
        have cr := fun W => RRight14_any l[k].1 l[k].2 W hlen.1 hlen.2
        clear hcc hids hidsl hidse hdup hfre
        generalize l[k] = x at *
        obtain ⟨id, tx⟩ := x
        simp only at z0 z1 c0 c1 hnx hdt hlen hallk hdup2 hfre2 cr
        have CR := Lib.hid cr; have HNX := Lib.hid hnx; have HDT := Lib.hid hdt; have HAK := Lib.hid hallk; have HDU := Lib.hid hdup2; have HFR := Lib.hid hfre2; have HID := Lib.hid hids2; have Z0 := Lib.hid z0; have Z1 := Lib.hid z1
        clear cr hnx hdt hallk hdup2 hfre2 hids2 z0 z1
        go_wp2_with fail
        refine (CR.out _).mono ?_
        rintro e w2 ⟨rfl, q2⟩
        have HQ2 := Lib.hid (HQ.out.trans q2)
        clear q2 HQ c0 c1 CR
        cases hr : rightB id tx with
        | false =>
          have hres : buildS l = ([], 1) := HB.out (fun hd => by have := HAK.out hd; rw [hr] at this; cases this)
          have HRES := Lib.hid hres
          clear hr hres
          go_wp2_with fail
          go_ret2
          exact ⟨by rw [HRES.out]; rfl, HQ2.out⟩
        | true =>
          have HR := Lib.hid hr
          obtain ⟨hrl1, hrl2⟩ := rightB_len hr
          clear hr hlen
          go_wp2_with fail
          go_loopw [7] (fun j wr => ∃ m : Nat, m ≤ k ∧ j = .int .i64 (m : Nat) ∧ Hid (∀ j, j < m → ids j ≠ id) ∧ Hid (Q w wr)) (fun j _ => k - (intOf j).toNat)
          case atStart => exact ⟨0, by omega, rfl, fun j hj => by omega, HQ2.out⟩
          case round =>
            obtain ⟨m, hm, rfl, HNO, HQm⟩ := hrel
            obtain ⟨wm, rfl⟩ : ∃ wm : World, wm = wr := ⟨_, rfl⟩
            have d0 := cell_stays HQm.out Z0.out
            by_cases hmk : m < k
            · have e0 := cell_stays HQm.out (HID.out m hmk)
              have hdu := HDU.out m hmk
              have hno : ids m ≠ id → ∀ j, j < m + 1 → ids j ≠ id := fun hne j hj => by
                by_cases he : j = m
                · subst he; exact hne
                · exact HNO.out j (by omega)
              have hmi : (m : Int) < (k : Int) := by omega
              have hmi0 : (0 : Int) ≤ (m : Int) := by omega
              have hmi2 : (m : Int) < (l.length : Int) := by omega
              generalize ids m = u at *
              have HDU2 := Lib.hid hdu; have HNO2 := Lib.hid hno
              clear hdu hno
              by_cases he : u = id
              · have hres : buildS l = ([], 1) := HB.out (HDU2.out he)
                have HRES := Lib.hid hres
                subst he
                clear hres
                go_wp2_with fail
                go_quiet (fail)
                go_wp2_with fail
                go_ret2
                exact ⟨by rw [HRES.out]; rfl, HQm.out.trans (Q.drewN _ _)⟩
              · have heb1 : (u == id) = false := by simpa using he
                have heb2 : @BEq.beq (List UInt8) instBEqOfDecidableEq u id = false := by simpa using he
                have heb3 : @BEq.beq (List UInt8) List.instBEq u id = false := by simpa using he
                have HE := Lib.hid he
                clear he
                go_wp2_with fail
                go_quiet (fail)
                go_wp2_with fail
                go_roundw
                case rel => exact ⟨m + 1, by omega, by go_num, HNO2.out HE.out, HQm.out.trans (Q.drewN _ _)⟩
                case measure => simp [intOf]; omega
            · have hme : m = k := by omega
              subst hme
              have hok2 : docsOk (l.take (m + 1)) := HNX.out.2 ⟨HOK.out, HR.out, HFR.out HNO.out⟩
              have d1 := cell_stays HQm.out Z1.out
              have ct1 := fun W => RText_any id W (by omega)
              have ct2 := fun W => RText_any tx W (by omega)
              have hl3 := textE_len id
              have hl4 := textE_len tx
              generalize hv1 : textE id = v1 at *
              generalize hv2 : textE tx = v2 at *
              obtain ⟨s1, es1⟩ : ∃ s1, s1 = s ++ v1 := ⟨_, rfl⟩
              obtain ⟨s2, es2⟩ : ∃ s2, s2 = s1 ++ v2 := ⟨_, rfl⟩
              have l1 : s1.length = s.length + v1.length := by rw [es1, List.length_append]
              have l2 : s2.length = s1.length + v2.length := by rw [es2, List.length_append]
              have hs1 := hsum_of s v1 (by omega)
              have hs2 := hsum_of s1 v2 (by omega)
              rw [← es1] at hs1
              rw [← es2] at hs2
              have hs2e : s2 = magicL ++ (vn ++ docsE (l.take (m + 1))) := by rw [es2, es1, HS.out, HDT.out]; simp
              have hs2l : s2.length ≤ 14 + 2100 * (m + 1) := by omega
              have HOK2 := Lib.hid hok2; have CT1 := Lib.hid ct1; have CT2 := Lib.hid ct2; have HS2 := Lib.hid hs2e; have HS2L := Lib.hid hs2l
              clear hok2 ct1 ct2 hs2e hs2l es1 es2 l1 l2 hv1 hv2
              have KK := HQm
              go_wp2_with fail
              go_region_held3 (fun w' => w'.cell? ⟨b, of + m * 2, none⟩ = some (strV id) ∧ w'.cell? ⟨b, of + m * 2 + 1, none⟩ = some (strV tx)) (first | exact ⟨d0, d1⟩ | exact ⟨cell_stays (Q.drew _) d0, cell_stays (Q.drew _) d1⟩ | exact ⟨cell_stays KK.out Z0.out, cell_stays KK.out Z1.out⟩ | exact ⟨cell_stays (KK.out.trans (Q.drew _)) Z0.out, cell_stays (KK.out.trans (Q.drew _)) Z1.out⟩)
                (first
                  | (go_at_call 53; ((with_reducible refine (CT1.out _).mono ?_); rintro e w' ⟨rfl, q⟩); have s' : Q w w' := Q.trans (by first | exact KK.out | exact KK.out.trans (Q.drew _)) q; clear KK; have KK := Lib.hid s'; clear s' q)
                  | (go_at_call 53; ((with_reducible refine (CT2.out _).mono ?_); rintro e w' ⟨rfl, q⟩); have s' : Q w w' := Q.trans (by first | exact KK.out | exact KK.out.trans (Q.drew _)) q; clear KK; have KK := Lib.hid s'; clear s' q))
              all_goals
                clear d0 d1
                go_wp2_with fail
                go_roundw
                case rel => exact ⟨m + 1, s2, by omega, by go_num, rfl, HS2L.out, HS2, HOK2, KK⟩
                case measure => simp [intOf]; omega
      · have hke : k = l.length := by omega
        subst hke
        have hok := HOK.out
        have hse := HS.out
        rw [List.take_length] at hok hse
        have hsl2 : s.length ≤ 1100000 := by omega
        have hres := HG.out hok
        have htx : ∀ d ∈ l, d.2.length ≤ 2000 := fun d hd => (rightB_len (hok.1 d hd)).2
        have hidx := idx_dict l hl5 htx
        rw [hidx] at hres
        have hent := entsL_right l hl5 htx
        have hel : (entsL l).length = (termsL l).length := by unfold entsL; rw [List.length_map]
        have htl := termsL_len l hl5 htx
        have hsm := small_right _ _ hent
        have hdl : (dictE (entsL l)).length ≤ 4500000000000 := by
          have := dictL_len (entsL l)
          unfold dictL at this
          rw [hent, decide_eq_true (by omega)] at this
          simpa using this
        have hseg : segE l (dictE (entsL l)) = (s ++ textE (dictE (entsL l))) ++ fixedL (crcL (s ++ textE (dictE (entsL l)))) := by
          unfold segE
          have : segBody l (dictE (entsL l)) = s ++ textE (dictE (entsL l)) := by unfold segBody; rw [hse, HVN.out]; simp
          rw [this]
        rw [hseg] at hres
        have hdt := textE_len (dictE (entsL l))
        have htm := fun W (q : Q w W) => RTerms14_any _ l W (Sl.stays HV.out q) (by omega) (fun d hd => by have := htx d hd; omega)
        have cpo := fun t W (q : Q w W) => RPostings_any _ l t W (Sl.stays HV.out q) (by omega) (fun d hd => by have := htx d hd; omega)
        have hpr := fun t => docs_posts hl5 hok t
        have hpk := fun (t : Bytes) (rs : List PostR) (W : World) (vp : Value) (hp : Posts W vp rs) (he : postsOf rs = postsF t l 0) => by
          have hr := hpr t
          rw [← he] at hr
          have hs := posts_small _ hr
          have := RPPack_ok vp rs W hp (by have := hs.1; rw [List.length_map] at this; omega) (fun p hp => Nat.le_trans (hs.2.1 (postOf p) (List.mem_map_of_mem hp)).1 (by decide)) hr
          rw [he] at this
          exact this
        have hstep := entsL_take l
        have HRES := Lib.hid hres; have HENT := Lib.hid hent; have HSM := Lib.hid hsm; have HTM := Lib.hid htm; have CPO := Lib.hid cpo; have HPK := Lib.hid hpk; have HSTEP := Lib.hid hstep
        clear hres hidx hent hsm hseg htm cpo hpr hpk hstep htx hok hse hsl hk hlt
        obtain ⟨i0, hi, hz0, hz1, hz2⟩ := info_parts tinfoEnt
        go_wp2_with fail
        refine (HTM.out _ HQ.out).mono ?_
        rintro e w2 ⟨v2, rfl, ho2, q2⟩
        obtain ⟨ta, tcap, rfl, _⟩ := owns_value ho2
        have hts : Strs w2 (.slice ta (termsL l).length tcap) (termsL l) := Sl.of_owns ho2
        have HTS := Lib.hid hts; have HQ2 := Lib.hid (HQ.out.trans q2)
        clear hts ho2 q2 HTM HQ HOK HS
        go_wp2_with fail
        go_loopw [8, 10, 11, 12] (fun dv i _ _ wr => ∃ k : Nat, k ≤ (termsL l).length ∧ i = .int .i64 (k : Nat) ∧ Hid (wr.ownsRow w2.heap.size 114 2 dv k (pairVs ((entsL l).take k))) ∧ Hid (Q w2 wr)) (fun _ i _ _ _ => (termsL l).length - (intOf i).toNat)
        case atStart => exact ⟨0, by omega, rfl, World.ownsRow_nil _ _ _ _, Q.refl _⟩
        case round =>
          obtain ⟨k, hk, rfl, HO, HQk⟩ := hrel
          obtain ⟨wk, rfl⟩ : ∃ wk : World, wk = wr := ⟨_, rfl⟩
          by_cases hlt : k < (termsL l).length
          · obtain ⟨aa, cc, hvv, hcc⟩ := HTS.out.value
            cases hvv
            obtain ⟨bt, ot, rfl, hct⟩ := hcc (by omega)
            have t0 := cell_stays HQk.out (hct k hlt)
            have hki : (k : Int) < ((termsL l).length : Int) := by omega
            have hk0 : (0 : Int) ≤ (k : Int) := by omega
            have hst := HSTEP.out k hlt
            clear hct hcc
            generalize (termsL l)[k] = t at *
            have HST := Lib.hid hst
            clear hst
            go_wp2_with fail
            refine (CPO.out t _ (HQ2.out.trans HQk.out)).mono ?_
            rintro e w3 ⟨v3, rfl, htold, q3⟩
            obtain ⟨rs, hrs, hps⟩ := htold.posts
            have cpk := HPK.out t rs w3 v3 hps hrs
            obtain ⟨pa, pcap, rfl, _⟩ := hps.value
            generalize packL (postsF t l 0) = pk at *
            have CPK := Lib.hid cpk; have HQ3 := Lib.hid (HQk.out.trans q3); have HO3 := Lib.hid (ownsRow_below HO.out q3)
            have t3 := cell_stays q3 t0
            clear cpk htold hps hrs q3 t0 HO HQk
            go_wp2_with fail
            refine CPK.out.mono ?_
            rintro e w4 ⟨rfl, q4⟩
            have HQ4 := Lib.hid (HQ3.out.trans q4)
            have ho4 := ownsRow_below HO3.out q4
            have t4 := cell_stays q4 t3
            have hsz : w2.heap.size ≤ w4.heap.size := HQ4.out.size
            clear q4 t3 HO3 HQ3 CPK
            go_wp2_with (at_builtin; go_must (refine wpList_app w4 (by rfl) _ _ 108 (by rfl) w2.heap.size 114 _ i0 (.agg #[strV [], strV []]) 2 32 Tryz.underlying108 hi hz0 hz1 hz2 rfl (by decide) (by decide) _ _ _ (by rfl) ho4 #[strV t, strV pk] (by simp [Act.eval]) rfl ?c1 ?c2 hsz ?_))
            case c1 => simp [Value.oneCell']
            case c2 => omega
            intro g6 cap6 w6 hown6 hg6 hat6 hlt6 hsz6
            have q6 : Q w2 w6 := grown_below HQ4.out ho4 hg6 (Nat.le_refl _) (by omega)
            have hown6 : w6.ownsRow w2.heap.size 114 2 (.slice (some ⟨g6, 0, none⟩) (k + 1) cap6) (k + 1) (pairVs ((entsL l).take (k + 1))) := by
              rw [HST.out, pairVs_append]; simpa using hown6
            have HO6 := Lib.hid hown6; have HQ6 := Lib.hid q6
            clear hown6 q6 hg6 hat6 ho4 t4
            go_wp2_with fail
            go_roundw
            case rel => exact ⟨k + 1, by omega, by go_num, HO6, HQ6⟩
            case measure => simp [intOf]; omega
          · have hke : k = (termsL l).length := by omega
            subst hke
            have ho := HO.out
            rw [List.take_of_length_le (by omega)] at ho
            obtain ⟨da, dcap, rfl, _⟩ := owns_value ho
            have hcp := owns_cap2 ho
            have hpairs : Pairs wk (.slice da (termsL l).length dcap) (entsL l) := by have := Sl.of_owns ho; unfold Pairs; rw [hel]; exact this
            have cpk := RDPack_ok _ (entsL l) wk hpairs (by omega) HSM.out (fun a n c e => by cases e; exact hcp) HENT.out
            generalize dictE (entsL l) = dx at *
            have ctx := fun W => RText_big dx W (by omega)
            generalize textE dx = tdx at *
            obtain ⟨sf, hsf⟩ : ∃ sf, sf = s ++ tdx := ⟨_, rfl⟩
            have hsfl : sf.length = s.length + tdx.length := by rw [hsf, List.length_append]
            have ccr := fun W => RCrc_any sf W (by omega)
            have cfx := fun W => RFixed_any (crcL sf) W (crcL_lt sf)
            have hfl : (fixedL (crcL sf)).length = 4 := length_fixedL _
            rw [← hsf] at HRES
            generalize crcL sf = cs at *
            generalize fixedL cs = fx at *
            have CPK := Lib.hid cpk; have CTX := Lib.hid ctx; have CCR := Lib.hid ccr; have CFX := Lib.hid cfx; have HSF := Lib.hid hsf
            clear cpk ctx ccr cfx hsf hpairs ho hcp HO
            go_wp2_with fail
            refine CPK.out.mono ?_
            rintro e w5 ⟨rfl, q5⟩
            have HQ5 := Lib.hid ((HQ2.out.trans HQk.out).trans q5)
            clear q5 CPK
            go_wp2_with fail
            refine (CTX.out _).mono ?_
            rintro e w6 ⟨rfl, q6⟩
            have HQ6 := Lib.hid (HQ5.out.trans q6)
            clear q6 CTX
            go_wp2_with fail
            rw [bytes_append, ← HSF.out]
            refine (CCR.out _).mono ?_
            rintro e w7 ⟨rfl, rfl⟩
            go_wp2_with fail
            refine (CFX.out _).mono ?_
            rintro e w8 ⟨rfl, q8⟩
            have HQ8 := Lib.hid (HQ6.out.trans q8)
            clear q8 CFX
            go_wp2_with fail
            go_ret2
            exact ⟨by rw [HRES.out]; exact congrArg (fun b => Ending.returned (.tuple #[.string b, .int .i64 0])) (bytes_append _ _), HQ8.out⟩
end Go.Proofs.YtoabhcfmdkhmgaaGreatDoor
end

/- (WOpen) segment.Open: walked, at what Build has answered. -/
section
namespace Go.Proofs.YtoabhcfmdkhmgaaGreatDoor
open Go.RowKit
set_option linter.unusedVariables false

/-! ### plain -/
theorem IsRead.same {s d d' : Bytes} {l l' : List DocL} (h : IsRead s l d) (h' : IsRead s l' d') : l = l' ∧ d = d' := by
  obtain ⟨a, b, c, e⟩ := h
  obtain ⟨a', b', c', e'⟩ := h'
  exact segBody_inj l l' d d' b b' (by omega) (by omega) c c' (by unfold segBody; rw [← e, ← e'])
theorem read_body (l : List DocL) (d : Bytes) (hn : l.length ≤ 500) (hl : ∀ x ∈ l, x.1.length ≤ 40 ∧ x.2.length ≤ 2000) (hd : d.length ≤ 5000000000000) : IsRead ((segBody l d).drop 4) l d := by
  refine ⟨hn, fun x hx => ?_, by omega, by simp [segBody, magicL]⟩
  have := hl x hx
  exact ⟨by omega, by omega⟩
theorem prefix_ok (l : List DocL) (d : Bytes) : Lib.hasPrefix (segE l d) [67, 68, 88, 71] = true ∧ Lib.trimPrefix (segE l d) [67, 68, 88, 71] = (segE l d).drop 4 := by
  have e : segE l d = [67, 68, 88, 71] ++ (varE l.length ++ (docsE l ++ textE d) ++ fixedL (crcL (segBody l d))) := by simp [segE, segBody, magicL]
  rw [e]
  simp [Lib.hasPrefix, Lib.trimPrefix]
theorem owns_zero {w : World} {base : Nat} {e : TypeId} {size : Nat} {v : Value} {n : Nat} {xs : List Value} (h : w.ownsRow base e size v n xs) : w.ownsRow 0 e size v n xs := by
  obtain ⟨h1, h2⟩ := h
  refine ⟨h1, ?_⟩
  rcases h2 with h2 | ⟨g, cap, cur, rfl, hb2, hg, rest⟩
  · exact .inl h2
  · exact .inr ⟨g, cap, cur, rfl, Nat.zero_le _, hg, rest⟩
/-- what a segment's pointer leads to -/
def SegAt (W : World) (p : Nat) (l : List DocL) (d : Bytes) : Prop :=
  ∃ v mb, W.heap[p]? = some (.cells #[v, .map (some mb), .string ⟨d.toArray⟩] 60 (0, 0)) ∧ W.ownsRow 0 49 2 v l.length (docVs l) ∧ MapS W mb (entK l l.length)
theorem SegAt.stays {W W' : World} {p : Nat} {l : List DocL} {d : Bytes} (h : SegAt W p l d) (q : Q W W') : SegAt W' p l d := by
  obtain ⟨v, mb, h1, h2, h3⟩ := h
  exact ⟨v, mb, block_stays' q h1, ownsRow_below h2 q, h3.stays q⟩
set_option maxRecDepth 100000 in
set_option maxHeartbeats 4000000 in
theorem Open_ok (l : List DocL) (w : World) (h : ¬ (l.length < 1 ∨ 500 < l.length)) (hok : docsOk l) (hT : Tabs w) (hSp : Spans w) :
    Calls Tryz.prog 48 #[.string ⟨(segE l (idxS l)).toArray⟩] w fun e w' => (∃ p, e = .returned (.tuple #[.pointer (some ⟨p, 0, none⟩), .int .i64 0]) ∧ SegAt w' p l (idxS l)) ∧ Q w w' := by
  have hlen : ∀ d ∈ l, d.1.length ≤ 40 ∧ d.2.length ≤ 2000 := fun d hd => rightB_len (hok.1 d hd)
  have hdl := dictL_len ((sortL ((ixAll l).map (·.1))).map (entS (ixAll l)))
  rw [show dictL ((sortL ((ixAll l).map (·.1))).map (entS (ixAll l))) = idxS l from rfl] at hdl
  have hrb := read_body l (idxS l) (by omega) hlen (by omega)
  have hpre := prefix_ok l (idxS l)
  have hbs : buildS l = (segE l (idxS l), 0) := by unfold buildS; rw [if_neg h, if_pos hok]
  have hsl : (segE l (idxS l)).length = (segBody l (idxS l)).length + 4 := by simp [segE, length_fixedL]
  have hbl : (segBody l (idxS l)).length ≤ 6000000000000 ∧ 4 ≤ (segBody l (idxS l)).length := by
    have h1 := varE_len l.length
    have h2 := docsE_len l hlen
    have h3 := textE_len (idxS l)
    simp only [segBody, List.length_append, magicL, List.length_cons, List.length_nil]
    omega
  have hst : (segE l (idxS l)).take (segBody l (idxS l)).length = segBody l (idxS l) := by unfold segE; exact List.take_left
  have hsd : (segE l (idxS l)).drop (segBody l (idxS l)).length = fixedL (crcL (segBody l (idxS l))) := by unfold segE; exact List.drop_left
  have HL := Lib.hid hlen; have HRB := Lib.hid hrb; have HPRE := Lib.hid hpre; have HBS := Lib.hid hbs; have HST := Lib.hid hst; have HSD := Lib.hid hsd; have HT := Lib.hid hT; have HSP := Lib.hid hSp; have HOK := Lib.hid hok
  clear hlen hrb hpre hbs hst hsd hT hSp hok
  generalize hsg : segE l (idxS l) = sg at *
  generalize hbd : segBody l (idxS l) = bd at *
  generalize hdx : idxS l = dx at *
  have HDX := Lib.hid hdx
  clear hsg hbd hdx
  have c1 := Tryz.strings_CutPrefix ⟨sg.toArray⟩ ⟨#[67, 68, 88, 71]⟩ w
  rw [show Lib.hasPrefix (⟨sg.toArray⟩ : ByteArray).data.toList (⟨#[67, 68, 88, 71]⟩ : ByteArray).data.toList = true from HPRE.out.1, show Lib.trimPrefix (⟨sg.toArray⟩ : ByteArray).data.toList (⟨#[67, 68, 88, 71]⟩ : ByteArray).data.toList = sg.drop 4 from HPRE.out.2] at c1
  have C1 := Lib.hid c1
  have hrl : (sg.drop 4).length = sg.length - 4 := by simp
  clear c1
  go_enter Tryz.func48, Tryz.ntmps48
  go_wp2_with fail
  refine C1.out.mono ?_
  rintro e w1 ⟨rfl, rfl⟩
  have hbx : ({ data := sg.toArray } : ByteArray).extract 0 bd.length = ⟨bd.toArray⟩ := by rw [bytes_take, HST.out]
  have hx4 : ({ data := bd.toArray } : ByteArray).extract 4 bd.length = ⟨(bd.drop 4).toArray⟩ := bytes_drop bd 4
  go_wp2_with fail
  have hmx : Tryz.prog.follows .mixedOrders = true := by kernel_rfl
  have hxd : ({ data := sg.toArray } : ByteArray).extract bd.length sg.length = ⟨(fixedL (crcL bd)).toArray⟩ := by rw [bytes_drop, HSD.out]
  rw [hsl] at hxd
  have hflat : [bd].flatten = bd := by simp
  have hcl := crcL_lt bd
  have hone : [bd].length ≤ 9223372036854775807 := by simp
  have hbp : ∀ p ∈ [bd], p.length ≤ 9223372036854775807 := by intro p hp; rw [List.mem_singleton] at hp; subst hp; omega
  generalize hfx : fixedL (crcL bd) = fx at *
  have cfix := fun W => Fixed_any (crcL bd) W hcl
  rw [hfx] at cfix
  have hi1 : (0 : Int) ≤ (bd.length : Int) ∧ (bd.length : Int) ≤ (bd.length : Int) + 4 := by omega
  obtain ⟨hi2, hi3⟩ := hi1
  go_region_held3 (fun w' => True) (exact trivial)
    (first
      | (go_at_call 73; refine (Crc_any _ [bd] _ (by repeat (first | (with_reducible exact Strs.lit1 _ _ _) | with_reducible apply Strs.al | with_reducible apply Strs.dr)) hone hbp).mono ?_; rw [hflat]; rintro e w' ⟨rfl, rfl⟩)
      | (go_at_call 72; refine (cfix _).mono ?_; rintro e w' ⟨rfl, q⟩))
  have hq : Q w1 w' := ((Q.alloc w1 (.cells #[.string ⟨bd.toArray⟩] 9)).trans (Q.drew _)).trans q
  have cr := read_any (bd.drop 4) w' (by rw [List.length_drop]; omega)
  have CR := Lib.hid cr; have HQ := Lib.hid hq
  clear cr hq q cfix
  go_wp2_with fail
  refine CR.out.mono ?_
  rintro e w2 ⟨q2, hr⟩
  obtain ⟨v, hown2, rfl⟩ : ∃ v, w2.ownsRow w'.heap.size 49 2 v l.length (docVs l) ∧ e = .returned (.tuple #[v, strV dx, .bool true]) := by
    rcases hr with ⟨v, l', d', h1, h2, h3⟩ | ⟨h1, _⟩
    · obtain ⟨e1, e2⟩ := h1.same HRB.out
      rw [e1] at h2; rw [e2] at h3
      exact ⟨v, h2, h3⟩
    · exact absurd HRB.out (h1 _ _)
  have hdocs : Docs w2 v l := Sl.of_owns hown2
  have hw2 := owns_zero hown2
  have HW2 := Lib.hid hw2
  clear hown2 hw2
  have hb2 := HQ.out.trans q2
  have cb := Build_any v l w2 hdocs (by omega) (fun d hd => by have := HL.out d hd; omega) (HT.out.stays hb2) (HSP.out.stays hb2)
  rw [HBS.out] at cb
  obtain ⟨sa, scap, hsv⟩ : ∃ sa scap, v = .slice sa l.length scap := by obtain ⟨x, y, h, _⟩ := hdocs.value; exact ⟨x, y, h⟩
  subst hsv
  have CB := Lib.hid cb; have HQ2 := Lib.hid hb2; have HD := Lib.hid hdocs
  clear cb hb2 q2 hr hdocs CR HQ
  go_wp2_with fail
  refine CB.out.mono ?_
  rintro e w3 ⟨rfl, q3⟩
  have hd3 := HD.out.stays q3
  have hw3 := ownsRow_below HW2.out q3
  have HW3 := Lib.hid hw3
  clear hw3 HW2
  have hb3 := HQ2.out.trans q3
  have cg := gather_any _ l w3 hd3 (by omega) (fun d hd => by have := HL.out d hd; omega) (HT.out.stays hb3)
  have CG := Lib.hid cg; have HQ3 := Lib.hid hb3; have HD3 := Lib.hid hd3
  clear cg hb3 q3 hd3 CB HQ2 HD
  go_wp2_with fail
  refine CG.out.mono ?_
  rintro e w4 ⟨q4, hg⟩
  obtain ⟨mb, rfl, hm⟩ : ∃ b, e = .returned (.tuple #[.agg #[.slice sa l.length scap, .map (some b)], .bool true]) ∧ MapS w4 b (entK l l.length) := by
    rcases hg with ⟨h1, b, h2, h3⟩ | ⟨h1, _⟩
    · refine ⟨b, ?_, h3⟩
      rw [h2, decide_eq_true HOK.out.2]
    · exact absurd HOK.out.1 h1
  have hb4 := HQ3.out.trans q4
  have hd4 := ownsRow_below HW3.out q4
  have HQ4 := Lib.hid hb4; have HD4 := Lib.hid hd4; have HM := Lib.hid hm
  clear hb4 hd4 hm hg q4 CG HQ3 HD3 HW3
  go_wp2_with fail
  have hqq : Q w4 ((w4.alloc (.cells #[.slice sa l.length scap, .map (some mb)] 58)).alloc (.cells #[.slice sa l.length scap, .map (some mb), strV dx] 60)) := (Q.alloc _ _).trans (Q.alloc _ _)
  have hnew := heap_alloc_new (w4.alloc (.cells #[.slice sa l.length scap, .map (some mb)] 58)) (.cells #[.slice sa l.length scap, .map (some mb), strV dx] 60)
  rw [World.size_alloc] at hnew
  go_ret2
  exact ⟨⟨w4.heap.size + 1, rfl, _, mb, hnew, ownsRow_below HD4.out hqq, HM.out.stays hqq⟩, HQ4.out.trans hqq⟩
end Go.Proofs.YtoabhcfmdkhmgaaGreatDoor
end

/- (WSegDocs) segment.docs.Docs, Find; slices.Clone at documents: walked. -/
section
namespace Go.Proofs.YtoabhcfmdkhmgaaGreatDoor
open Go.RowKit
set_option linter.unusedVariables false

theorem docVs_one (l : List DocL) : ∀ u ∈ docVs l, u.oneCell' = true := by
  intro u hu
  obtain ⟨d, _, hd⟩ := List.mem_flatMap.1 hu
  simp at hd
  rcases hd with rfl | rfl <;> simp [Value.oneCell']
set_option maxRecDepth 100000 in
set_option maxHeartbeats 2000000 in
theorem Clone_docs (v : Value) (l : List DocL) (w : World) (hv : Docs w v l) (hn : l.length ≤ 1000000) :
    Calls Tryz.prog 35 #[v] w fun e w' => ∃ v', e = .returned v' ∧ w'.ownsRow w.heap.size 49 2 v' l.length (docVs l) ∧ Q w w' := by
  obtain ⟨i0, hi, hz0, hz1, hz2⟩ := info_parts tinfo49
  obtain ⟨hxs, a, cap, rfl, hcell⟩ := hv
  have hn2 : (docVs l).length = l.length * 2 := hxs
  have hone := docVs_one l
  cases a with
  | none =>
    have h0 : l.length = 0 := by
      by_cases h : l.length = 0
      · exact h
      · obtain ⟨b, off, e, _⟩ := hcell (by omega)
        cases e
    obtain rfl : l = [] := List.eq_nil_of_length_eq_zero h0
    clear hcell hxs hn2 hone
    go_enter Tryz.func35, Tryz.ntmps35
    go_wp2_with fail
    rw [Lib.run_eql_slice_nil _ _ _ _ _ _ _ _ Tryz.underlying37]
    go_wp2_with fail
    go_ret
    exact ⟨_, rfl, World.ownsRow_nil _ _ _ _, Q.refl _⟩
  | some ad =>
    have hcc : ∀ j u, (docVs l)[j]? = some u → (w.alloc (.cells #[] 49)).cell? (ad.add j) = some u := by
      intro j u hu
      have hjl : j < (docVs l).length := (List.getElem?_eq_some_iff.1 hu).1
      obtain ⟨b, off, e, hc⟩ := hcell (by omega)
      cases e
      rw [show (⟨b, off, none⟩ : Addr).add j = ⟨b, off + j, none⟩ by unfold Addr.add; split <;> simp_all]
      exact cell_stays (Q.alloc _ _) (hc j u hu)
    have hown : (w.alloc (.cells #[] 49)).ownsRow w.heap.size 49 2 (.slice (some ⟨w.heap.size, 0, none⟩) 0 0) 0 [] := ⟨rfl, .inr ⟨w.heap.size, 0, #[], rfl, Nat.le_refl _, heap_alloc_new _ _, by simp, by unfold maxLen; omega, rfl, rfl⟩⟩
    have h63 : 0 + l.length ≤ maxLen := by unfold maxLen; omega
    have hbytes : (0 + l.length) * 32 ≤ 140737488355328 := by omega
    have hbase : w.heap.size ≤ (w.alloc (.cells #[] 49)).heap.size := by simp
    generalize docVs l = xs at *
    clear hcell
    go_enter Tryz.func35, Tryz.ntmps35
    go_wp2_with fail
    rw [Lib.run_eql_slice_nil _ _ _ _ _ _ _ _ Tryz.underlying37]
    go_wp2_with (at_builtin; go_must (refine wpList_append_own (w.alloc (.cells #[] 49)) (by rfl) _ _ 37 (by rfl) w.heap.size 49 i0 (.agg #[strV [], strV []]) 2 32 Tryz.underlying37 hi hz0 hz1 hz2 rfl (by decide) _ 0 [] (by rfl) hown ad l.length cap xs (by rfl) hn2 hcc hone h63 hbytes hbase ?_))
    intro v' w' ho hg _
    have hb : Below w.heap.size w w' := ((Below.refl w.heap.size w).alloc (Nat.le_refl _) _).grown hg hbase (fun k hk => by simp [Value.ownBlock] at hk; omega)
    have HO := Lib.hid ho; have HB := Lib.hid hb
    clear ho hb hg
    go_wp2_with fail
    go_ret
    exact ⟨v', rfl, HO.out, HB.out⟩
theorem SegAt.cells {W : World} {p : Nat} {l : List DocL} {d : Bytes} (h : SegAt W p l d) : ∃ v mb, W.cell? ⟨p, 0, none⟩ = some v ∧ W.cell? ⟨p, 1, none⟩ = some (.map (some mb)) ∧ Docs W v l ∧ MapS W mb (entK l l.length) := by
  obtain ⟨v, mb, h1, h2, h3⟩ := h
  exact ⟨v, mb, by simp [World.cell?, h1], by simp [World.cell?, h1], Sl.of_owns h2, h3⟩
set_option maxRecDepth 100000 in
set_option maxHeartbeats 2000000 in
theorem SegDocs_any (p : Nat) (l : List DocL) (d : Bytes) (w : World) (h : SegAt w p l d) (hn : l.length ≤ 1000000) :
    Calls Tryz.prog 17 #[.pointer (some ⟨p, 0, none⟩)] w fun e w' => ∃ v', e = .returned v' ∧ w'.ownsRow w.heap.size 49 2 v' l.length (docVs l) ∧ Q w w' := by
  obtain ⟨v, mb, c0, c1, hd, _⟩ := h.cells
  have c := Clone_docs v l w hd hn
  have C := Lib.hid c
  clear c h hd c1
  go_enter Tryz.func17, Tryz.ntmps17
  go_wp2_with fail
  refine C.out.mono ?_
  rintro e w' ⟨v', rfl, ho, q⟩
  have HO := Lib.hid ho; have HQ := Lib.hid q
  clear ho q
  go_wp2_with fail
  go_ret
  exact ⟨v', rfl, HO.out, HQ.out⟩
theorem zeroInt (w : World) : (zeroValue 3).run Tryz.prog w = .ok (.int .i64 0) w := by
  simp [zeroValue, go_sem]
  rw [show Tryz.t3.zero = some (.int .i64 0) from by kernel_rfl]
  rfl
set_option maxRecDepth 100000 in
set_option maxHeartbeats 2000000 in
theorem SegFind_any (p : Nat) (l : List DocL) (d id : Bytes) (w : World) (h : SegAt w p l d) (hn : (l.map (·.1)).Nodup) :
    Calls Tryz.prog 23 #[.pointer (some ⟨p, 0, none⟩), .string ⟨id.toArray⟩] w fun e w' => e = .returned (.tuple #[.int .i64 (((findL l id).getD 0 : Nat) : Int), .bool (findL l id).isSome]) ∧ w = w' := by
  obtain ⟨v, mb, c0, c1, _, hm⟩ := h.cells
  have hg := entK_get l hn l.length (Nat.le_refl _) id
  rw [List.take_length] at hg
  have hu : (if true = true then Value.tuple #[(getM id (entK l l.length)).getD (.int .i64 0), .bool (getM id (entK l l.length)).isSome] else (getM id (entK l l.length)).getD (.int .i64 0)) = .tuple #[.int .i64 (((findL l id).getD 0 : Nat) : Int), .bool (findL l id).isSome] := by
    rw [hg, if_pos rfl]
    cases findL l id <;> rfl
  clear hg h
  generalize (findL l id).getD 0 = fi at *
  generalize (findL l id).isSome = fb at *
  go_enter Tryz.func23, Tryz.ntmps23
  go_wp2_with (at_lookup; go_must (refine wpList_lookup_map w (by rfl) _ _ 56 true (by rfl) 9 3 Tryz.underlying56 Tryz.underlying9 (.int .i64 0) (zeroInt _) mb (entK l l.length) hm id (by rfl) (by rfl) ?_; rw [hu]))
  go_ret2
  exact ⟨rfl, rfl⟩
end Go.Proofs.YtoabhcfmdkhmgaaGreatDoor
end
