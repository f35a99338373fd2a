/- Joined texts of one proof: WCrc, WBuild, WOpen, WSegDocs. -/
import Derived.Test.YtcblmcbpnakphaaGreatDoorProg
import Derived.Test.YtcblmcbpnakphaaGreatDoorMKitToSegSpec
import Derived.WalkKit
import Derived.WalkSpells
import Derived.WalkLawsBesides
import Derived.Outline
import Derived.KernelRfl
import Derived.Test.YtcblmcbpnakphaaGreatDoorMWIndexToWTexts2
import Derived.Test.YtcblmcbpnakphaaGreatDoorMMapsToLive
import Derived.Test.YtcblmcbpnakphaaGreatDoorMWDictPToWRead
import Derived.Test.YtcblmcbpnakphaaGreatDoorShelf
import Derived.Deep.RegionHeld3
import Derived.OwnWalk
set_option linter.unusedSimpArgs false
set_option linter.unusedVariables false
set_option linter.unnecessarySimpa false
/- (WCrc) wire.Crc, wire.Fixed: walked -/
section
namespace Go.Proofs.YtcblmcbpnakphaaGreatDoor
open Go.RowKit
set_option linter.unusedVariables false

/-- a turn in the walk's own spelling -/
theorem walk_turn32 (c : Nat) (h : c < 4294967296) : bits .xor .u32 ((c : Int) / 2) (bits .and .u32 3988292384 (-(bits .and .u32 (c : Int) 1) % 4294967296)) = ((crcTurn c : Nat) : Int) := by
  have h1 : bits .and .u32 (c : Int) ((1 : Nat) : Int) = ((c &&& 1 : Nat) : Int) := u32_and_nat c 1 h (by decide)
  rw [show ((1 : Nat) : Int) = 1 from rfl, Nat.and_one_is_mod] at h1
  rw [h1, show ((c : Int) / 2) = ((c / 2 : Nat) : Int) from rfl]
  have h2 : c / 2 < 4294967296 := by omega
  unfold crcTurn
  rcases Nat.mod_two_eq_zero_or_one c with e | e
  · rw [e]
    rw [show (-((0 : Nat) : Int)) % 4294967296 = ((0 : Nat) : Int) by decide, show (3988292384 : Int) = ((3988292384 : Nat) : Int) from rfl,
      u32_and_nat _ _ (by decide) (by decide), u32_xor_nat _ _ h2 (by decide)]
    simp
  · rw [e]
    rw [show (-((1 : Nat) : Int)) % 4294967296 = ((4294967295 : Nat) : Int) by decide, show (3988292384 : Int) = ((3988292384 : Nat) : Int) from rfl,
      u32_and_nat _ _ (by decide) (by decide), u32_xor_nat _ _ h2 (by decide)]
    rw [if_pos rfl]
    congr 1

set_option maxHeartbeats 400000 in
theorem Crc_any (v : Value) (ps : List Bytes) (w : World) (hv : Strs w v ps) (hn : ps.length ≤ 9223372036854775807) (hs : ∀ p ∈ ps, p.length ≤ 9223372036854775807) :
    Calls Tryz.prog 60 #[v] w fun e w' => e = .returned (.int .u32 (crcL ps.flatten : Nat)) ∧ w = w' := by
  obtain ⟨a, cap, rfl, hcell⟩ := hv.value
  have HC := Lib.hid hcell; have HS := Lib.hid hs; clear hcell hs hv
  go_enter Tryz.func60, Tryz.ntmps60
  go_wp2_with fail
  go_loop [9, 3, 5, 6] (fun i c _ _ => ∃ k : Nat, k ≤ ps.length ∧ i = .int .i64 k ∧ c = .int .u32 (crcRaw (ps.take k).flatten : Nat)) (fun i _ _ _ => ps.length - (intOf i).toNat)
  case atStart => exact ⟨0, by omega, rfl, rfl⟩
  case round =>
    obtain ⟨k, hk, rfl, rfl⟩ := hrel
    by_cases hlt : k < ps.length
    · obtain ⟨b, off, rfl, hc⟩ := HC.out (by omega)
      have hck := hc k hlt
      have hpl := HS.out _ (List.getElem_mem hlt)
      have hft := flat_take ps k hlt
      generalize ps[k] = p at *
      generalize (ps.take k).flatten = pre at *
      have HF := Lib.hid hft; have HCC := Lib.hid hc; clear hft hc
      go_wp2_with fail
      go_loop [15, 3, 6] (fun i c _ => ∃ j : Nat, j ≤ p.length ∧ i = .int .i64 j ∧ c = .int .u32 (crcRaw (pre ++ p.take j) : Nat)) (fun i _ _ => p.length - (intOf i).toNat)
      case atStart => exact ⟨0, by omega, rfl, by simp⟩
      case round =>
        obtain ⟨j, hj, rfl, rfl⟩ := hrel
        have hlt1 := crcRaw_lt (pre ++ p.take j)
        by_cases hjl : j < p.length
        · have hst := crc_take pre p j hjl
          have hx : (p[j]).toNat < 256 := UInt8.toNat_lt _
          generalize hy : crcRaw (pre ++ p.take j) = c at *
          have HY := Lib.hid hy; have HST := Lib.hid hst; clear hy hst
          go_wp2_with fail
          have hxl : c ^^^ (p[j]).toNat < 4294967296 := Nat.xor_lt_two_pow (n := 32) hlt1 (by omega)
          go_loop [24, 3] (fun i d => ∃ m : Nat, m ≤ 8 ∧ i = .int .i64 m ∧ d = .int .u32 (crcTurns m (c ^^^ (p[j]).toNat) : Nat)) (fun i _ => 8 - (intOf i).toNat)
          case atStart => exact ⟨0, by omega, rfl, int_eq (by
            rw [show ((({ data := List.toArray p } : ByteArray)[j]).toNat : Int) % 4294967296 = ((p[j]).toNat : Int) from Int.emod_eq_of_lt (by omega) (by show ((p[j]).toNat : Int) < _; omega)]
            exact u32_xor_nat c (p[j]).toNat hlt1 (by omega))⟩
          case round =>
            obtain ⟨m, hm, rfl, rfl⟩ := hrel
            have htl := crcTurns_lt m _ hxl
            by_cases hml : m < 8
            · have hsc : crcTurns (m + 1) (c ^^^ (p[j]).toNat) = crcTurn (crcTurns m (c ^^^ (p[j]).toNat)) := rfl
              generalize crcTurns m (c ^^^ (p[j]).toNat) = d at *
              have hwt := walk_turn32 d htl
              have HSC := Lib.hid hsc; have HWT := Lib.hid hwt; clear hsc hwt
              go_wp2_with fail
              go_round
              case rel => exact ⟨m + 1, by omega, by go_num, int_eq (by rw [HSC.out, ← HWT.out])⟩
              case measure => simp [intOf]; omega
            · have hm8 : m = 8 := by omega
              subst hm8
              go_wp2_with fail
              go_round
              case rel => exact ⟨j + 1, by omega, by go_num, by rw [HST.out]⟩
              case measure => simp [intOf]; omega
        · have hjj : j = p.length := by omega
          subst hjj
          go_wp2_with fail
          go_round
          case rel => exact ⟨k + 1, by omega, by go_num, by rw [HF.out, List.take_length]⟩
          case measure => simp [intOf]; omega
    · have hkk : k = ps.length := by omega
      have hx := crcRaw_lt ps.flatten
      subst hkk
      rw [List.take_length]
      generalize hc : crcRaw ps.flatten = c at *
      have HCR := Lib.hid hc; clear hc
      go_wp2_with fail
      go_ret
      refine ⟨ret_int ?_, rfl⟩
      show bits BinOp.xor IntKind.u32 IntKind.u32.max (c : Int) = _
      rw [show IntKind.u32.max = ((4294967295 : Nat) : Int) by decide, u32_xor_nat _ _ (by decide) hx, Nat.xor_comm]
      unfold crcL
      rw [HCR.out]

/-- four bytes that were built just now, as a text -/
theorem four_back (w : World) (a b c d : Nat) (ha : a < 256) (hb : b < 256) (hc : c < 256) (hd : d < 256) (r : Bytes) (hr : r = [UInt8.ofNat a, UInt8.ofNat b, UInt8.ofNat c, UInt8.ofNat d]) :
    (convert 54 9 (.slice (some ⟨w.heap.size, 0, none⟩) 4 4)).run Tryz.prog (w.alloc (.cells #[.int .u8 a, .int .u8 b, .int .u8 c, .int .u8 d] 5)) =
      .ok (.string ⟨r.toArray⟩) (w.alloc (.cells #[.int .u8 a, .int .u8 b, .int .u8 c, .int .u8 d] 5)) := by
  subst hr
  refine run_convert_bytes_back (P := Tryz.prog) _ 54 9 5 ⟨w.heap.size, 0, none⟩ 4 [UInt8.ofNat a, UInt8.ofNat b, UInt8.ofNat c, UInt8.ofNat d] Tryz.underlying54 Tryz.underlying5 Tryz.underlying9 ?_
  intro j hj
  rw [add_head]
  simp only [World.cell?, heap_alloc_new]
  match j, hj with
  | 0, _ => simp [Nat.mod_eq_of_lt ha]
  | 1, _ => simp [Nat.mod_eq_of_lt hb]
  | 2, _ => simp [Nat.mod_eq_of_lt hc]
  | 3, _ => simp [Nat.mod_eq_of_lt hd]

set_option maxRecDepth 20000 in
set_option maxHeartbeats 400000 in
theorem Fixed_any (v : Nat) (w : World) (hv : v < 4294967296) :
    Calls Tryz.prog 59 #[.int .u32 v] w fun e w' => e = .returned (.string ⟨(fixedL v).toArray⟩) ∧ Q w w' := by
  have k4 := four_back w (v % 256) (v / 256 % 256) (v / 65536 % 256) (v / 16777216) (by omega) (by omega) (by omega) (by omega) (fixedL v) (by unfold fixedL; rw [show v / 16777216 % 256 = v / 16777216 by omega])
  simp only [Int.natCast_emod, Int.natCast_ediv, Int.cast_ofNat_Int] at k4
  generalize fixedL v = r at *
  go_enter Tryz.func59, Tryz.ntmps59
  go_wp2_with fail
  go_ret
  exact ⟨rfl, Q.alloc _ _⟩
end Go.Proofs.YtcblmcbpnakphaaGreatDoor
end

/- (WBuild) segment.Build: walked. -/
section
namespace Go.Proofs.YtcblmcbpnakphaaGreatDoor
open Go.RowKit
set_option linter.unusedVariables false

/-! ### plain -/
theorem dictL_len (l : List EntryL) : (dictL l).length ≤ 4500000000000 := by
  unfold dictL
  split
  · rename_i h
    simp only [Bool.and_eq_true, decide_eq_true_eq] at h
    have hs := entriesRight_small _ _ h.1
    obtain ⟨m, hm1, hm2⟩ : ∃ m, l.length ≤ 16 * m ∧ (m = 0 ∨ 16 * (m - 1) < l.length) := ⟨(l.length + 15) / 16, by omega, by omega⟩
    rw [dictE_eq l m hm1 hm2, List.length_append]
    have h1 := idxTo_len hs m
    have h2 := allTo_len hs m
    have h3 : m ≤ 65537 := by omega
    have h4 : m * 67110400 ≤ 65537 * 67110400 := Nat.mul_le_mul_right _ h3
    omega
  · simp
/-- what Build answers -/
noncomputable def buildS (l : List DocL) : Bytes × Int := by
  classical
  exact if l.length < 1 ∨ 500 < l.length then ([], 6) else if docsOk l then (segE l (idxS l), 0) else ([], 1)
theorem docsE_take (l : List DocL) (k : Nat) (h : k < l.length) : docsE (l.take (k + 1)) = docsE (l.take k) ++ (textE l[k].1 ++ textE l[k].2) := by
  rw [List.take_succ_eq_append_getElem h, docsE_append]; simp [docsE]
theorem docsE_len (l : List DocL) (h : ∀ d ∈ l, d.1.length ≤ 40 ∧ d.2.length ≤ 2000) : (docsE l).length ≤ l.length * 2100 := by
  induction l with
  | nil => simp [docsE]
  | cons d l ih =>
    have h1 := ih (fun x hx => h x (List.mem_cons_of_mem _ hx))
    have h2 := h d (List.mem_cons_self ..)
    have h3 := textE_len d.1
    have h4 := textE_len d.2
    simp only [docsE, List.length_append, List.length_cons]
    omega
theorem Strs.pair (w : World) (a b : Bytes) (e : TypeId) : Strs (w.alloc (.cells #[.string ⟨a.toArray⟩, .string ⟨b.toArray⟩] e)) (.slice (some ⟨w.heap.size, 0, none⟩) 2 2) [a, b] := Sl.lit w #[.string ⟨a.toArray⟩, .string ⟨b.toArray⟩] e 2 1 rfl
theorem rightB_len {a b : Bytes} (h : rightB a b = true) : a.length ≤ 40 ∧ b.length ≤ 2000 := by
  simp only [rightB, Bool.and_eq_true, decide_eq_true_eq] at h
  exact ⟨h.1.1.1.2, h.1.1.2⟩
set_option maxRecDepth 100000 in
set_option maxHeartbeats 2000000 in
theorem Build_many (v : Value) (l : List DocL) (w : World) (hv : Docs w v l) (h : l.length < 1 ∨ 500 < l.length) (hn : l.length ≤ 9223372036854775807) :
    Calls Tryz.prog 21 #[v] w fun e w' => e = .returned (.tuple #[.string ⟨([] : Bytes).toArray⟩, .int .i64 6]) ∧ Q w w' := by
  obtain ⟨a, cap, rfl, _⟩ := hv.value
  clear hv
  rcases h with h | h
  all_goals
    go_enter Tryz.func21, Tryz.ntmps21
    go_wp2_with fail
    go_ret2
    exact ⟨rfl, Q.refl _⟩
set_option maxRecDepth 100000 in
set_option maxHeartbeats 2000000 in
theorem Build_bad (v : Value) (l : List DocL) (w : World) (hv : Docs w v l) (h : ¬ (l.length < 1 ∨ 500 < l.length)) (hbad : ¬ docsOk l) (hl : ∀ d ∈ l, d.1.length ≤ 9223372036854775807 ∧ d.2.length ≤ 9223372036854775807) (hT : Tabs w) :
    Calls Tryz.prog 21 #[v] w fun e w' => e = .returned (.tuple #[.string ⟨([] : Bytes).toArray⟩, .int .i64 1]) ∧ Q w w' := by
  have c := gather_any v l w hv (by omega) hl hT
  obtain ⟨a, cap, rfl, _⟩ := hv.value
  have C := Lib.hid c; have HB := Lib.hid hbad
  clear c hv hbad hl hT
  go_enter Tryz.func21, Tryz.ntmps21
  go_wp2_with fail
  refine C.out.mono ?_
  rintro e w1 ⟨q1, hg⟩
  obtain ⟨b, rfl⟩ : ∃ b, e = .returned (.tuple #[.agg #[.slice a l.length cap, .map (some b)], .bool false]) := by
    rcases hg with ⟨h1, b, h2, _⟩ | ⟨_, b, h2⟩
    · refine ⟨b, ?_⟩
      rw [h2, decide_eq_false (fun h3 => HB.out ⟨h1, h3⟩)]
    · exact ⟨b, h2⟩
  have hb := (show Below w.heap.size w w1 from q1)
  have hsz := q1.size
  have HQ := Lib.hid hb
  clear hb hg q1
  go_wp2_with fail
  go_ret2
  exact ⟨rfl, HQ.out.alloc hsz _⟩
set_option maxRecDepth 100000 in
set_option maxHeartbeats 4000000 in
theorem Build_ok (v : Value) (l : List DocL) (w : World) (hv : Docs w v l) (h : ¬ (l.length < 1 ∨ 500 < l.length)) (hok : docsOk l) (hT : Tabs w) (hSp : Spans w) :
    Calls Tryz.prog 21 #[v] w fun e w' => e = .returned (.tuple #[.string ⟨(segE l (idxS l)).toArray⟩, .int .i64 0]) ∧ Q w w' := by
  have hlen : ∀ d ∈ l, d.1.length ≤ 40 ∧ d.2.length ≤ 2000 := fun d hd => rightB_len (hok.1 d hd)
  have c := gather_any v l w hv (by omega) (fun d hd => by have := hlen d hd; omega) hT
  have hv0 := hv
  obtain ⟨a, cap, rfl, hcell⟩ := hv.value
  have C := Lib.hid c; have HOK := Lib.hid hok; have HV := Lib.hid hv0; have HC := Lib.hid hcell; have HT := Lib.hid hT; have HSP := Lib.hid hSp; have HL := Lib.hid hlen
  clear c hv hv0 hok hcell hT hSp hlen
  go_enter Tryz.func21, Tryz.ntmps21
  go_wp2_with fail
  refine C.out.mono ?_
  rintro e w1 ⟨q1, hg⟩
  obtain ⟨mb, rfl⟩ : ∃ b, e = .returned (.tuple #[.agg #[.slice a l.length cap, .map (some b)], .bool true]) := by
    rcases hg with ⟨h1, b, h2, _⟩ | ⟨h1, _⟩
    · refine ⟨b, ?_⟩
      rw [h2, decide_eq_true HOK.out.2]
    · exact absurd HOK.out.1 h1
  have hb1 := (show Below w.heap.size w w1 from q1)
  have hsz1 := q1.size
  clear hg q1 C
  obtain ⟨wa, hwa⟩ : ∃ wa, w1.alloc (.cells #[.slice a l.length cap, .map (some mb)] 65) = wa := ⟨_, rfl⟩
  have hba : Below w.heap.size w wa := by rw [← hwa]; exact hb1.alloc hsz1 _
  have hbld : Bld (wa.alloc (.cells #[.pointer none, .slice none 0 0] 109)) w.heap.size wa.heap.size none [] := Bld.new wa _ hba.size
  have hbb := hba.alloc hba.size (.cells #[.pointer none, .slice none 0 0] 109)
  have cv := Var_any _ [l.length] ((wa.alloc (.cells #[.pointer none, .slice none 0 0] 109)).alloc (.cells #[.int .u64 (l.length : Nat)] 115)) (Sl.lit _ #[.int .u64 (l.length : Nat)] 115 1 1 rfl) (by simp) (by intro n hn'; simp at hn'; omega)
  rw [show varsE [l.length] = varE l.length by simp [varsE]] at cv
  have hvl := varE_len l.length
  have hasz : wa.heap.size = w1.heap.size + 1 := by rw [← hwa]; simp
  have hbl2 := hbld.alloc (.cells #[.int .u64 (l.length : Nat)] 115)
  simp only [World.size_alloc, hasz] at cv hbl2
  have CV := Lib.hid cv; have HB := Lib.hid (hbb.alloc hbb.size (.cells #[.int .u64 (l.length : Nat)] 115)); have HBL := Lib.hid hbl2; have HWA := Lib.hid hwa
  clear cv hbb hbld hba hb1 hwa hbl2
  go_wp2_with fail
  rw [HWA.out]
  refine CV.out.mono ?_
  rintro e w2 ⟨rfl, q2⟩
  have hb2 := HB.out.trans (Below.mono q2 HB.out.size)
  have hbl2 := HBL.out.q q2
  have cw := WriteString_any w.heap.size (w1.heap.size + 1) none [] (magicL ++ varE l.length) w2 hbl2 (by simp [magicL]; omega) hb2.size
  have CW := Lib.hid cw; have HB2 := Lib.hid hb2; have HBL2 := Lib.hid hbl2
  clear cw hb2 hbl2 q2 HB HBL CV
  go_wp2_with fail
  rw [show ({ data := #[67, 68, 88, 71] } : ByteArray) ++ ⟨(varE l.length).toArray⟩ = ⟨(magicL ++ varE l.length).toArray⟩ from bytes_append magicL (varE l.length)]
  refine CW.out.mono ?_
  rintro e w3 ⟨rfl, hs3, r3, hbl3, _⟩
  have hb3 := HB2.out.trans (HBL2.out.below hs3 HB2.out.size)
  have HB3 := Lib.hid hb3; have HBL3 := Lib.hid hbl3
  clear hb3 hbl3 hs3 CW HB2 HBL2
  go_wp2_with fail
  go_loopw [33] (fun i wr => ∃ k : Nat, i = .int .i64 (k : Nat) ∧ k ≤ l.length ∧ Hid (∃ r, Bld wr w.heap.size (w1.heap.size + 1) r (magicL ++ (varE l.length ++ docsE (l.take k)))) ∧ Hid (Below w.heap.size w wr)) (fun i _ => l.length - (intOf i).toNat)
  case atStart => exact ⟨0, rfl, by omega, ⟨r3, by simpa [docsE] using HBL3.out⟩, HB3⟩
  case round =>
    obtain ⟨k, rfl, hk, HBK, HB⟩ := hrel
    obtain ⟨wo, rfl⟩ : ∃ wo : World, wo = wr := ⟨_, rfl⟩
    have hszo := HB.out.size
    by_cases hlt : k < l.length
    · obtain ⟨b, off, rfl, hc⟩ := HC.out (by omega)
      obtain ⟨hc1, hc2⟩ := hc k hlt
      have hw1 := cell_stays HB.out hc1
      have hw2 := cell_stays HB.out hc2
      have hdl := HL.out _ (List.getElem_mem hlt)
      have hdt := docsE_take l k hlt
      have hde := docsE_len (l.take k) (fun d hd => HL.out d (List.mem_of_mem_take hd))
      rw [List.length_take] at hde
      have HDT := Lib.hid hdt
      clear hc hc1 hc2 hdt
      generalize l[k] = d at *
      obtain ⟨id, tx⟩ := d
      simp only at hw1 hw2 hdl HDT
      have hxx := heap_alloc_new wo (.cells #[.string ⟨id.toArray⟩, .string ⟨tx.toArray⟩] 52)
      obtain ⟨cx0, cx1⟩ := cells2 hxx
      have hb1 := HB.out.alloc hszo (.cells #[.string ⟨id.toArray⟩, .string ⟨tx.toArray⟩] 52)
      have ct := Text_any _ [id, tx] ((wo.alloc (.cells #[.string ⟨id.toArray⟩, .string ⟨tx.toArray⟩] 52)).alloc (.cells #[.string ⟨id.toArray⟩, .string ⟨tx.toArray⟩] 9)) (Strs.pair _ id tx 9) (by simp) (by intro p hp; simp at hp; rcases hp with rfl | rfl <;> omega)
      rw [show textsE [id, tx] = textE id ++ textE tx by simp [textsE]] at ct
      simp only [World.size_alloc] at ct
      have ht1 := textE_len id
      have ht2 := textE_len tx
      obtain ⟨r, hbk⟩ := HBK.out
      have CT := Lib.hid ct; have HBT := Lib.hid ((hbk.alloc (.cells #[.string ⟨id.toArray⟩, .string ⟨tx.toArray⟩] 52)).alloc (.cells #[.string ⟨id.toArray⟩, .string ⟨tx.toArray⟩] 9)); have HB1 := Lib.hid (hb1.alloc hb1.size (.cells #[.string ⟨id.toArray⟩, .string ⟨tx.toArray⟩] 9))
      clear ct hbk hb1 hxx HBK HB
      go_wp2_with fail
      refine CT.out.mono ?_
      rintro e w4 ⟨rfl, q4⟩
      have hb4 := HB1.out.trans (Below.mono q4 HB1.out.size)
      have hbl4 := HBT.out.q q4
      have cw := WriteString_any w.heap.size (w1.heap.size + 1) r _ (textE id ++ textE tx) w4 hbl4 (by simp only [List.length_append, magicL, List.length_cons, List.length_nil]; omega) hb4.size
      have CW := Lib.hid cw; have HB4 := Lib.hid hb4; have HBL4 := Lib.hid hbl4
      clear cw hb4 hbl4 q4 HB1 HBT CT cx0 cx1
      go_wp2_with fail
      refine CW.out.mono ?_
      rintro e w5 ⟨rfl, hs5, r5, hbl5, _⟩
      have hb5 := HB4.out.trans (HBL4.out.below hs5 HB4.out.size)
      rw [List.append_assoc, List.append_assoc, ← HDT.out] at hbl5
      have HB5 := Lib.hid hb5; have HBL5 := Lib.hid hbl5
      clear hb5 hbl5 hs5 CW HB4 HBL4
      go_wp2_with fail
      go_roundw
      case rel => exact ⟨k + 1, by go_num, by omega, ⟨r5, HBL5.out⟩, HB5⟩
      case measure => simp [intOf]; omega
    · have hke : k = l.length := by omega
      subst hke
      rw [List.take_length] at HBK
      have hde := docsE_len l HL.out
      have hdi := dictL_len ((sortL ((ixAll l).map (·.1))).map (entS (ixAll l)))
      have ci := Index_any _ l wo (HV.out.stays HB.out) (by omega) (fun d hd => (HL.out d hd).2) (HT.out.stays HB.out) (HSP.out.stays HB.out)
      rw [show dictL ((sortL ((ixAll l).map (·.1))).map (entS (ixAll l))) = idxS l from rfl] at hdi
      have hseg : segE l (idxS l) = (magicL ++ (varE l.length ++ docsE l)) ++ textE (idxS l) ++ fixedL (crcL ((magicL ++ (varE l.length ++ docsE l)) ++ textE (idxS l))) := by simp [segE, segBody]
      have hml : (magicL ++ (varE l.length ++ docsE l)).length ≤ 2000000 := by simp only [List.length_append, magicL, List.length_cons, List.length_nil]; omega
      have hmn : magicL ++ (varE l.length ++ docsE l) ≠ [] := by simp [magicL]
      obtain ⟨r, hbk⟩ := HBK.out
      have CI := Lib.hid ci; have HSEG := Lib.hid hseg; have HBL := Lib.hid hbk; have HMN := Lib.hid hmn
      clear ci hseg hbk HBK hmn
      generalize magicL ++ (varE l.length ++ docsE l) = pre at *
      generalize hdxe : idxS l = dx at *
      have HDX := Lib.hid hdxe; clear hdxe
      go_wp2_with fail
      refine CI.out.mono ?_
      rintro e w4 ⟨rfl, q4⟩
      have hb4 := HB.out.trans (Below.mono q4 hszo)
      have hbl4 := HBL.out.q q4
      have ct := Text_gen 5000000000000 _ [dx] (w4.alloc (.cells #[.string ⟨dx.toArray⟩] 9)) (Strs.lit1 w4 dx 9) (by simp) (by intro p hp; rw [List.mem_singleton] at hp; subst hp; omega)
      rw [show textsE [dx] = textE dx by simp [textsE]] at ct
      have htl := textE_len dx
      have CT := Lib.hid ct; have HB4 := Lib.hid (hb4.alloc hb4.size (.cells #[.string ⟨dx.toArray⟩] 9)); have HBL4 := Lib.hid (hbl4.alloc (.cells #[.string ⟨dx.toArray⟩] 9))
      clear ct hb4 hbl4 q4 CI HBL HB
      go_wp2_with fail
      refine CT.out.mono ?_
      rintro e w5 ⟨rfl, q5⟩
      have hb5 := HB4.out.trans (Below.mono q5 HB4.out.size)
      have hbl5 := HBL4.out.q q5
      have cw := WriteString_any w.heap.size (w1.heap.size + 1) r pre (textE dx) w5 hbl5 (by omega) hb5.size
      have CW := Lib.hid cw; have HB5 := Lib.hid hb5; have HBL5 := Lib.hid hbl5
      clear cw hb5 hbl5 q5 CT HB4 HBL4
      go_wp2_with fail
      refine CW.out.mono ?_
      rintro e w6 ⟨rfl, hs6, r6, hbl6, _⟩
      have hb6 := HB5.out.trans (HBL5.out.below hs6 HB5.out.size)
      have hbn : pre ++ textE dx ≠ [] := by intro e; exact HMN.out (List.append_eq_nil_iff.1 e).1
      have hbdl : (pre ++ textE dx).length ≤ 5000000000000 := by rw [List.length_append]; omega
      have HB6 := Lib.hid hb6
      clear hs6 hb6 CW HB5 HBL5
      generalize pre ++ textE dx = body at *
      have cs := String_some w.heap.size (w1.heap.size + 1) r6 body w6 hbl6 hbn
      have CS := Lib.hid cs; have HBL6 := Lib.hid hbl6
      clear cs hbl6
      go_wp2_with fail
      refine CS.out.mono ?_
      rintro e w7 ⟨rfl, hs7, hbl7⟩
      have hb7 := HB6.out.trans (HBL6.out.below hs7 HB6.out.size)
      have cs := String_some w.heap.size (w1.heap.size + 1) r6 body w7 hbl7 hbn
      have CS2 := Lib.hid cs; have HBL7 := Lib.hid hbl7; have HB7 := Lib.hid hb7
      clear cs hbl7 hb7 hs7 CS HB6 HBL6
      go_wp2_with fail
      refine CS2.out.mono ?_
      rintro e w8 ⟨rfl, hs8, hbl8⟩
      have hb8 := HB7.out.trans (HBL7.out.below hs8 HB7.out.size)
      have cc := Crc_any _ [body] (w8.alloc (.cells #[.string ⟨body.toArray⟩] 9)) (Strs.lit1 w8 body 9) (by simp) (by intro p hp; rw [List.mem_singleton] at hp; subst hp; omega)
      rw [show [body].flatten = body by simp] at cc
      have cf := Fixed_any (crcL body) (w8.alloc (.cells #[.string ⟨body.toArray⟩] 9)) (crcL_lt body)
      have hfl := length_fixedL (crcL body)
      have CC := Lib.hid cc; have CF := Lib.hid cf; have HB8 := Lib.hid (hb8.alloc hb8.size (.cells #[.string ⟨body.toArray⟩] 9))
      clear cc cf hb8 hbl8 hs8 CS2 HB7 HBL7
      generalize fixedL (crcL body) = fx at *
      generalize crcL body = cr at *
      go_wp2_with fail
      refine CC.out.mono ?_
      rintro e w9 ⟨rfl, rfl⟩
      go_wp2_with fail
      refine CF.out.mono ?_
      rintro e w9 ⟨rfl, q9⟩
      have hb9 := HB8.out.trans (Below.mono q9 HB8.out.size)
      have HB9 := Lib.hid hb9
      clear hb9 q9 CF CC HB8
      go_wp2_with fail
      go_ret2
      exact ⟨ret_str_int (by rw [bytes_append, HDX.out, HSEG.out]), HB9.out⟩
open Classical in
theorem Build_any (v : Value) (l : List DocL) (w : World) (hv : Docs w v l) (hn : l.length ≤ 9223372036854775807) (hl : ∀ d ∈ l, d.1.length ≤ 9223372036854775807 ∧ d.2.length ≤ 9223372036854775807) (hT : Tabs w) (hSp : Spans w) :
    Calls Tryz.prog 21 #[v] w fun e w' => e = .returned (.tuple #[.string ⟨(buildS l).1.toArray⟩, .int .i64 (buildS l).2]) ∧ Q w w' := by
  unfold buildS
  by_cases h : l.length < 1 ∨ 500 < l.length
  · simp only [if_pos h]
    exact Build_many v l w hv h hn
  · simp only [if_neg h]
    by_cases hok : docsOk l
    · simp only [if_pos hok]
      exact Build_ok v l w hv h hok hT hSp
    · simp only [if_neg hok]
      exact Build_bad v l w hv h hok hl hT
end Go.Proofs.YtcblmcbpnakphaaGreatDoor
end

/- (WOpen) segment.Open: walked, at what Build has answered. -/
section
namespace Go.Proofs.YtcblmcbpnakphaaGreatDoor
open Go.RowKit
set_option linter.unusedVariables false

/-! ### plain -/
theorem IsRead.same {s d d' : Bytes} {l l' : List DocL} (h : IsRead s l d) (h' : IsRead s l' d') : l = l' ∧ d = d' := by
  obtain ⟨a, b, c, e⟩ := h
  obtain ⟨a', b', c', e'⟩ := h'
  exact segBody_inj l l' d d' b b' (by omega) (by omega) c c' (by unfold segBody; rw [← e, ← e'])
theorem read_body (l : List DocL) (d : Bytes) (hn : l.length ≤ 500) (hl : ∀ x ∈ l, x.1.length ≤ 40 ∧ x.2.length ≤ 2000) (hd : d.length ≤ 5000000000000) : IsRead ((segBody l d).drop 4) l d := by
  refine ⟨hn, fun x hx => ?_, by omega, by simp [segBody, magicL]⟩
  have := hl x hx
  exact ⟨by omega, by omega⟩
theorem prefix_ok (l : List DocL) (d : Bytes) : Lib.hasPrefix (segE l d) [67, 68, 88, 71] = true ∧ Lib.trimPrefix (segE l d) [67, 68, 88, 71] = (segE l d).drop 4 := by
  have e : segE l d = [67, 68, 88, 71] ++ (varE l.length ++ (docsE l ++ textE d) ++ fixedL (crcL (segBody l d))) := by simp [segE, segBody, magicL]
  rw [e]
  simp [Lib.hasPrefix, Lib.trimPrefix]
theorem owns_zero {w : World} {base : Nat} {e : TypeId} {size : Nat} {v : Value} {n : Nat} {xs : List Value} (h : w.ownsRow base e size v n xs) : w.ownsRow 0 e size v n xs := by
  obtain ⟨h1, h2⟩ := h
  refine ⟨h1, ?_⟩
  rcases h2 with h2 | ⟨g, cap, cur, rfl, hb2, hg, rest⟩
  · exact .inl h2
  · exact .inr ⟨g, cap, cur, rfl, Nat.zero_le _, hg, rest⟩
/-- what a segment's pointer leads to -/
def SegAt (W : World) (p : Nat) (l : List DocL) (d : Bytes) : Prop :=
  ∃ v mb, W.heap[p]? = some (.cells #[v, .map (some mb), .string ⟨d.toArray⟩] 67 (0, 0)) ∧ W.ownsRow 0 52 2 v l.length (docVs l) ∧ MapS W mb (entK l l.length)
theorem SegAt.stays {W W' : World} {p : Nat} {l : List DocL} {d : Bytes} (h : SegAt W p l d) (q : Q W W') : SegAt W' p l d := by
  obtain ⟨v, mb, h1, h2, h3⟩ := h
  exact ⟨v, mb, block_stays' q h1, ownsRow_below h2 q, h3.stays q⟩
set_option maxRecDepth 100000 in
set_option maxHeartbeats 4000000 in
theorem Open_ok (l : List DocL) (w : World) (h : ¬ (l.length < 1 ∨ 500 < l.length)) (hok : docsOk l) (hT : Tabs w) (hSp : Spans w) :
    Calls Tryz.prog 29 #[.string ⟨(segE l (idxS l)).toArray⟩] w fun e w' => (∃ p, e = .returned (.tuple #[.pointer (some ⟨p, 0, none⟩), .int .i64 0]) ∧ SegAt w' p l (idxS l)) ∧ Q w w' := by
  have hlen : ∀ d ∈ l, d.1.length ≤ 40 ∧ d.2.length ≤ 2000 := fun d hd => rightB_len (hok.1 d hd)
  have hdl := dictL_len ((sortL ((ixAll l).map (·.1))).map (entS (ixAll l)))
  rw [show dictL ((sortL ((ixAll l).map (·.1))).map (entS (ixAll l))) = idxS l from rfl] at hdl
  have hrb := read_body l (idxS l) (by omega) hlen (by omega)
  have hpre := prefix_ok l (idxS l)
  have hbs : buildS l = (segE l (idxS l), 0) := by unfold buildS; rw [if_neg h, if_pos hok]
  have hsl : (segE l (idxS l)).length = (segBody l (idxS l)).length + 4 := by simp [segE, length_fixedL]
  have hbl : (segBody l (idxS l)).length ≤ 6000000000000 ∧ 4 ≤ (segBody l (idxS l)).length := by
    have h1 := varE_len l.length
    have h2 := docsE_len l hlen
    have h3 := textE_len (idxS l)
    simp only [segBody, List.length_append, magicL, List.length_cons, List.length_nil]
    omega
  have hst : (segE l (idxS l)).take (segBody l (idxS l)).length = segBody l (idxS l) := by unfold segE; exact List.take_left
  have hsd : (segE l (idxS l)).drop (segBody l (idxS l)).length = fixedL (crcL (segBody l (idxS l))) := by unfold segE; exact List.drop_left
  have HL := Lib.hid hlen; have HRB := Lib.hid hrb; have HPRE := Lib.hid hpre; have HBS := Lib.hid hbs; have HST := Lib.hid hst; have HSD := Lib.hid hsd; have HT := Lib.hid hT; have HSP := Lib.hid hSp; have HOK := Lib.hid hok
  clear hlen hrb hpre hbs hst hsd hT hSp hok
  generalize hsg : segE l (idxS l) = sg at *
  generalize hbd : segBody l (idxS l) = bd at *
  generalize hdx : idxS l = dx at *
  have HDX := Lib.hid hdx
  clear hsg hbd hdx
  have c1 := Tryz.strings_CutPrefix ⟨sg.toArray⟩ ⟨#[67, 68, 88, 71]⟩ w
  rw [show Lib.hasPrefix (⟨sg.toArray⟩ : ByteArray).data.toList (⟨#[67, 68, 88, 71]⟩ : ByteArray).data.toList = true from HPRE.out.1, show Lib.trimPrefix (⟨sg.toArray⟩ : ByteArray).data.toList (⟨#[67, 68, 88, 71]⟩ : ByteArray).data.toList = sg.drop 4 from HPRE.out.2] at c1
  have C1 := Lib.hid c1
  have hrl : (sg.drop 4).length = sg.length - 4 := by simp
  clear c1
  go_enter Tryz.func29, Tryz.ntmps29
  go_wp2_with fail
  refine C1.out.mono ?_
  rintro e w1 ⟨rfl, rfl⟩
  have hbx : ({ data := sg.toArray } : ByteArray).extract 0 bd.length = ⟨bd.toArray⟩ := by rw [bytes_take, HST.out]
  have hx4 : ({ data := bd.toArray } : ByteArray).extract 4 bd.length = ⟨(bd.drop 4).toArray⟩ := bytes_drop bd 4
  go_wp2_with fail
  have hmx : Tryz.prog.follows .mixedOrders = true := by kernel_rfl
  have hxd : ({ data := sg.toArray } : ByteArray).extract bd.length sg.length = ⟨(fixedL (crcL bd)).toArray⟩ := by rw [bytes_drop, HSD.out]
  rw [hsl] at hxd
  have hflat : [bd].flatten = bd := by simp
  have hcl := crcL_lt bd
  have hone : [bd].length ≤ 9223372036854775807 := by simp
  have hbp : ∀ p ∈ [bd], p.length ≤ 9223372036854775807 := by intro p hp; rw [List.mem_singleton] at hp; subst hp; omega
  generalize hfx : fixedL (crcL bd) = fx at *
  have cfix := fun W => Fixed_any (crcL bd) W hcl
  rw [hfx] at cfix
  have hi1 : (0 : Int) ≤ (bd.length : Int) ∧ (bd.length : Int) ≤ (bd.length : Int) + 4 := by omega
  obtain ⟨hi2, hi3⟩ := hi1
  go_region_held3 (fun w' => True) (exact trivial)
    (first
      | (go_at_call 60; refine (Crc_any _ [bd] _ (by repeat (first | (with_reducible exact Strs.lit1 _ _ _) | with_reducible apply Strs.al | with_reducible apply Strs.dr)) hone hbp).mono ?_; rw [hflat]; rintro e w' ⟨rfl, rfl⟩)
      | (go_at_call 59; refine (cfix _).mono ?_; rintro e w' ⟨rfl, q⟩))
  have hq : Q w1 w' := ((Q.alloc w1 (.cells #[.string ⟨bd.toArray⟩] 9)).trans (Q.drew _)).trans q
  have cr := read_any (bd.drop 4) w' (by rw [List.length_drop]; omega)
  have CR := Lib.hid cr; have HQ := Lib.hid hq
  clear cr hq q cfix
  go_wp2_with fail
  refine CR.out.mono ?_
  rintro e w2 ⟨q2, hr⟩
  obtain ⟨v, hown2, rfl⟩ : ∃ v, w2.ownsRow w'.heap.size 52 2 v l.length (docVs l) ∧ e = .returned (.tuple #[v, strV dx, .bool true]) := by
    rcases hr with ⟨v, l', d', h1, h2, h3⟩ | ⟨h1, _⟩
    · obtain ⟨e1, e2⟩ := h1.same HRB.out
      rw [e1] at h2; rw [e2] at h3
      exact ⟨v, h2, h3⟩
    · exact absurd HRB.out (h1 _ _)
  have hdocs : Docs w2 v l := Sl.of_owns hown2
  have hw2 := owns_zero hown2
  have HW2 := Lib.hid hw2
  clear hown2 hw2
  have hb2 := HQ.out.trans q2
  have cb := Build_any v l w2 hdocs (by omega) (fun d hd => by have := HL.out d hd; omega) (HT.out.stays hb2) (HSP.out.stays hb2)
  rw [HBS.out] at cb
  obtain ⟨sa, scap, hsv⟩ : ∃ sa scap, v = .slice sa l.length scap := by obtain ⟨x, y, h, _⟩ := hdocs.value; exact ⟨x, y, h⟩
  subst hsv
  have CB := Lib.hid cb; have HQ2 := Lib.hid hb2; have HD := Lib.hid hdocs
  clear cb hb2 q2 hr hdocs CR HQ
  go_wp2_with fail
  refine CB.out.mono ?_
  rintro e w3 ⟨rfl, q3⟩
  have hd3 := HD.out.stays q3
  have hw3 := ownsRow_below HW2.out q3
  have HW3 := Lib.hid hw3
  clear hw3 HW2
  have hb3 := HQ2.out.trans q3
  have cg := gather_any _ l w3 hd3 (by omega) (fun d hd => by have := HL.out d hd; omega) (HT.out.stays hb3)
  have CG := Lib.hid cg; have HQ3 := Lib.hid hb3; have HD3 := Lib.hid hd3
  clear cg hb3 q3 hd3 CB HQ2 HD
  go_wp2_with fail
  refine CG.out.mono ?_
  rintro e w4 ⟨q4, hg⟩
  obtain ⟨mb, rfl, hm⟩ : ∃ b, e = .returned (.tuple #[.agg #[.slice sa l.length scap, .map (some b)], .bool true]) ∧ MapS w4 b (entK l l.length) := by
    rcases hg with ⟨h1, b, h2, h3⟩ | ⟨h1, _⟩
    · refine ⟨b, ?_, h3⟩
      rw [h2, decide_eq_true HOK.out.2]
    · exact absurd HOK.out.1 h1
  have hb4 := HQ3.out.trans q4
  have hd4 := ownsRow_below HW3.out q4
  have HQ4 := Lib.hid hb4; have HD4 := Lib.hid hd4; have HM := Lib.hid hm
  clear hb4 hd4 hm hg q4 CG HQ3 HD3 HW3
  go_wp2_with fail
  have hqq : Q w4 ((w4.alloc (.cells #[.slice sa l.length scap, .map (some mb)] 65)).alloc (.cells #[.slice sa l.length scap, .map (some mb), strV dx] 67)) := (Q.alloc _ _).trans (Q.alloc _ _)
  have hnew := heap_alloc_new (w4.alloc (.cells #[.slice sa l.length scap, .map (some mb)] 65)) (.cells #[.slice sa l.length scap, .map (some mb), strV dx] 67)
  rw [World.size_alloc] at hnew
  go_ret2
  exact ⟨⟨w4.heap.size + 1, rfl, _, mb, hnew, ownsRow_below HD4.out hqq, HM.out.stays hqq⟩, HQ4.out.trans hqq⟩
end Go.Proofs.YtcblmcbpnakphaaGreatDoor
end

/- (WSegDocs) segment.docs.Docs, Find; slices.Clone at documents: walked. -/
section
namespace Go.Proofs.YtcblmcbpnakphaaGreatDoor
open Go.RowKit
set_option linter.unusedVariables false

theorem docVs_one (l : List DocL) : ∀ u ∈ docVs l, u.oneCell' = true := by
  intro u hu
  obtain ⟨d, _, hd⟩ := List.mem_flatMap.1 hu
  simp at hd
  rcases hd with rfl | rfl <;> simp [Value.oneCell']
set_option maxRecDepth 100000 in
set_option maxHeartbeats 2000000 in
theorem Clone_docs (v : Value) (l : List DocL) (w : World) (hv : Docs w v l) (hn : l.length ≤ 1000000) :
    Calls Tryz.prog 70 #[v] w fun e w' => ∃ v', e = .returned v' ∧ w'.ownsRow w.heap.size 52 2 v' l.length (docVs l) ∧ Q w w' := by
  obtain ⟨i0, hi, hz0, hz1, hz2⟩ := info_parts tinfo52
  obtain ⟨hxs, a, cap, rfl, hcell⟩ := hv
  have hn2 : (docVs l).length = l.length * 2 := hxs
  have hone := docVs_one l
  cases a with
  | none =>
    have h0 : l.length = 0 := by
      by_cases h : l.length = 0
      · exact h
      · obtain ⟨b, off, e, _⟩ := hcell (by omega)
        cases e
    obtain rfl : l = [] := List.eq_nil_of_length_eq_zero h0
    clear hcell hxs hn2 hone
    go_enter Tryz.func70, Tryz.ntmps70
    go_wp2_with fail
    rw [Lib.run_eql_slice_nil _ _ _ _ _ _ _ _ Tryz.underlying37]
    go_wp2_with fail
    go_ret
    exact ⟨_, rfl, World.ownsRow_nil _ _ _ _, Q.refl _⟩
  | some ad =>
    have hcc : ∀ j u, (docVs l)[j]? = some u → (w.alloc (.cells #[] 52)).cell? (ad.add j) = some u := by
      intro j u hu
      have hjl : j < (docVs l).length := (List.getElem?_eq_some_iff.1 hu).1
      obtain ⟨b, off, e, hc⟩ := hcell (by omega)
      cases e
      rw [show (⟨b, off, none⟩ : Addr).add j = ⟨b, off + j, none⟩ by unfold Addr.add; split <;> simp_all]
      exact cell_stays (Q.alloc _ _) (hc j u hu)
    have hown : (w.alloc (.cells #[] 52)).ownsRow w.heap.size 52 2 (.slice (some ⟨w.heap.size, 0, none⟩) 0 0) 0 [] := ⟨rfl, .inr ⟨w.heap.size, 0, #[], rfl, Nat.le_refl _, heap_alloc_new _ _, by simp, by unfold maxLen; omega, rfl, rfl⟩⟩
    have h63 : 0 + l.length ≤ maxLen := by unfold maxLen; omega
    have hbytes : (0 + l.length) * 32 ≤ 140737488355328 := by omega
    have hbase : w.heap.size ≤ (w.alloc (.cells #[] 52)).heap.size := by simp
    generalize docVs l = xs at *
    clear hcell
    go_enter Tryz.func70, Tryz.ntmps70
    go_wp2_with fail
    rw [Lib.run_eql_slice_nil _ _ _ _ _ _ _ _ Tryz.underlying37]
    go_wp2_with (at_builtin; go_must (refine wpList_append_own (w.alloc (.cells #[] 52)) (by rfl) _ _ 37 (by rfl) w.heap.size 52 i0 (.agg #[strV [], strV []]) 2 32 Tryz.underlying37 hi hz0 hz1 hz2 rfl (by decide) _ 0 [] (by rfl) hown ad l.length cap xs (by rfl) hn2 hcc hone h63 hbytes hbase ?_))
    intro v' w' ho hg _
    have hb : Below w.heap.size w w' := ((Below.refl w.heap.size w).alloc (Nat.le_refl _) _).grown hg hbase (fun k hk => by simp [Value.ownBlock] at hk; omega)
    have HO := Lib.hid ho; have HB := Lib.hid hb
    clear ho hb hg
    go_wp2_with fail
    go_ret
    exact ⟨v', rfl, HO.out, HB.out⟩
theorem SegAt.cells {W : World} {p : Nat} {l : List DocL} {d : Bytes} (h : SegAt W p l d) : ∃ v mb, W.cell? ⟨p, 0, none⟩ = some v ∧ W.cell? ⟨p, 1, none⟩ = some (.map (some mb)) ∧ Docs W v l ∧ MapS W mb (entK l l.length) := by
  obtain ⟨v, mb, h1, h2, h3⟩ := h
  exact ⟨v, mb, by simp [World.cell?, h1], by simp [World.cell?, h1], Sl.of_owns h2, h3⟩
set_option maxRecDepth 100000 in
set_option maxHeartbeats 2000000 in
theorem SegDocs_any (p : Nat) (l : List DocL) (d : Bytes) (w : World) (h : SegAt w p l d) (hn : l.length ≤ 1000000) :
    Calls Tryz.prog 31 #[.pointer (some ⟨p, 0, none⟩)] w fun e w' => ∃ v', e = .returned v' ∧ w'.ownsRow w.heap.size 52 2 v' l.length (docVs l) ∧ Q w w' := by
  obtain ⟨v, mb, c0, c1, hd, _⟩ := h.cells
  have c := Clone_docs v l w hd hn
  have C := Lib.hid c
  clear c h hd c1
  go_enter Tryz.func31, Tryz.ntmps31
  go_wp2_with fail
  refine C.out.mono ?_
  rintro e w' ⟨v', rfl, ho, q⟩
  have HO := Lib.hid ho; have HQ := Lib.hid q
  clear ho q
  go_wp2_with fail
  go_ret
  exact ⟨v', rfl, HO.out, HQ.out⟩
theorem zeroInt (w : World) : (zeroValue 3).run Tryz.prog w = .ok (.int .i64 0) w := by
  simp [zeroValue, go_sem]
  rw [show Tryz.t3.zero = some (.int .i64 0) from by kernel_rfl]
  rfl
set_option maxRecDepth 100000 in
set_option maxHeartbeats 2000000 in
theorem SegFind_any (p : Nat) (l : List DocL) (d id : Bytes) (w : World) (h : SegAt w p l d) (hn : (l.map (·.1)).Nodup) :
    Calls Tryz.prog 34 #[.pointer (some ⟨p, 0, none⟩), .string ⟨id.toArray⟩] w fun e w' => e = .returned (.tuple #[.int .i64 (((findL l id).getD 0 : Nat) : Int), .bool (findL l id).isSome]) ∧ w = w' := by
  obtain ⟨v, mb, c0, c1, _, hm⟩ := h.cells
  have hg := entK_get l hn l.length (Nat.le_refl _) id
  rw [List.take_length] at hg
  have hu : (if true = true then Value.tuple #[(getM id (entK l l.length)).getD (.int .i64 0), .bool (getM id (entK l l.length)).isSome] else (getM id (entK l l.length)).getD (.int .i64 0)) = .tuple #[.int .i64 (((findL l id).getD 0 : Nat) : Int), .bool (findL l id).isSome] := by
    rw [hg, if_pos rfl]
    cases findL l id <;> rfl
  clear hg h
  generalize (findL l id).getD 0 = fi at *
  generalize (findL l id).isSome = fb at *
  go_enter Tryz.func34, Tryz.ntmps34
  go_wp2_with (at_lookup; go_must (refine wpList_lookup_map w (by rfl) _ _ 63 true (by rfl) 9 3 Tryz.underlying63 Tryz.underlying9 (.int .i64 0) (zeroInt _) mb (entK l l.length) hm id (by rfl) (by rfl) ?_; rw [hu]))
  go_ret2
  exact ⟨rfl, rfl⟩
end Go.Proofs.YtcblmcbpnakphaaGreatDoor
end
