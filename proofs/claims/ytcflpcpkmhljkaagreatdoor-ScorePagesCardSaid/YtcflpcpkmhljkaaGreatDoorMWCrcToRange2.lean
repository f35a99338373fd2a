/- Joined texts of one proof: WCrc, WBuild, Told0, Range2. -/
import Derived.Test.YtcflpcpkmhljkaaGreatDoorProg
import Derived.Test.YtcflpcpkmhljkaaGreatDoorMKitToSegSpec
import Derived.WalkKit
import Derived.WalkSpells
import Derived.WalkLawsBesides
import Derived.Outline
import Derived.KernelRfl
import Derived.Test.YtcflpcpkmhljkaaGreatDoorMWIndexToWTexts2
import Derived.Test.YtcflpcpkmhljkaaGreatDoorMMapsToLive
import Derived.Test.YtcflpcpkmhljkaaGreatDoorMSegRdToWDictPR
import Derived.Test.YtcflpcpkmhljkaaGreatDoorMWPostBToIx
import Derived.Test.YtcflpcpkmhljkaaGreatDoorMOwnToWDictI
import Derived.Test.YtcflpcpkmhljkaaGreatDoorMRangeToWKind
set_option linter.unusedSimpArgs false
set_option linter.unusedVariables false
set_option linter.unnecessarySimpa false
/- (WCrc) wire.Crc, wire.Fixed: walked -/
section
namespace Go.Proofs.YtcflpcpkmhljkaaGreatDoor
open Go.RowKit
set_option linter.unusedVariables false

/-- a turn in the walk's own spelling -/
theorem walk_turn32 (c : Nat) (h : c < 4294967296) : bits .xor .u32 ((c : Int) / 2) (bits .and .u32 3988292384 (-(bits .and .u32 (c : Int) 1) % 4294967296)) = ((crcTurn c : Nat) : Int) := by
  have h1 : bits .and .u32 (c : Int) ((1 : Nat) : Int) = ((c &&& 1 : Nat) : Int) := u32_and_nat c 1 h (by decide)
  rw [show ((1 : Nat) : Int) = 1 from rfl, Nat.and_one_is_mod] at h1
  rw [h1, show ((c : Int) / 2) = ((c / 2 : Nat) : Int) from rfl]
  have h2 : c / 2 < 4294967296 := by omega
  unfold crcTurn
  rcases Nat.mod_two_eq_zero_or_one c with e | e
  · rw [e]
    rw [show (-((0 : Nat) : Int)) % 4294967296 = ((0 : Nat) : Int) by decide, show (3988292384 : Int) = ((3988292384 : Nat) : Int) from rfl,
      u32_and_nat _ _ (by decide) (by decide), u32_xor_nat _ _ h2 (by decide)]
    simp
  · rw [e]
    rw [show (-((1 : Nat) : Int)) % 4294967296 = ((4294967295 : Nat) : Int) by decide, show (3988292384 : Int) = ((3988292384 : Nat) : Int) from rfl,
      u32_and_nat _ _ (by decide) (by decide), u32_xor_nat _ _ h2 (by decide)]
    rw [if_pos rfl]
    congr 1

set_option maxHeartbeats 400000 in
theorem Crc_any (v : Value) (ps : List Bytes) (w : World) (hv : Strs w v ps) (hn : ps.length ≤ 9223372036854775807) (hs : ∀ p ∈ ps, p.length ≤ 9223372036854775807) :
    Calls Tryz.prog 140 #[v] w fun e w' => e = .returned (.int .u32 (crcL ps.flatten : Nat)) ∧ w = w' := by
  obtain ⟨a, cap, rfl, hcell⟩ := hv.value
  have HC := Lib.hid hcell; have HS := Lib.hid hs; clear hcell hs hv
  go_enter Tryz.func140, Tryz.ntmps140
  go_wp2_with fail
  go_loop [9, 3, 5, 6] (fun i c _ _ => ∃ k : Nat, k ≤ ps.length ∧ i = .int .i64 k ∧ c = .int .u32 (crcRaw (ps.take k).flatten : Nat)) (fun i _ _ _ => ps.length - (intOf i).toNat)
  case atStart => exact ⟨0, by omega, rfl, rfl⟩
  case round =>
    obtain ⟨k, hk, rfl, rfl⟩ := hrel
    by_cases hlt : k < ps.length
    · obtain ⟨b, off, rfl, hc⟩ := HC.out (by omega)
      have hck := hc k hlt
      have hpl := HS.out _ (List.getElem_mem hlt)
      have hft := flat_take ps k hlt
      generalize ps[k] = p at *
      generalize (ps.take k).flatten = pre at *
      have HF := Lib.hid hft; have HCC := Lib.hid hc; clear hft hc
      go_wp2_with fail
      go_loop [15, 3, 6] (fun i c _ => ∃ j : Nat, j ≤ p.length ∧ i = .int .i64 j ∧ c = .int .u32 (crcRaw (pre ++ p.take j) : Nat)) (fun i _ _ => p.length - (intOf i).toNat)
      case atStart => exact ⟨0, by omega, rfl, by simp⟩
      case round =>
        obtain ⟨j, hj, rfl, rfl⟩ := hrel
        have hlt1 := crcRaw_lt (pre ++ p.take j)
        by_cases hjl : j < p.length
        · have hst := crc_take pre p j hjl
          have hx : (p[j]).toNat < 256 := UInt8.toNat_lt _
          generalize hy : crcRaw (pre ++ p.take j) = c at *
          have HY := Lib.hid hy; have HST := Lib.hid hst; clear hy hst
          go_wp2_with fail
          have hxl : c ^^^ (p[j]).toNat < 4294967296 := Nat.xor_lt_two_pow (n := 32) hlt1 (by omega)
          go_loop [24, 3] (fun i d => ∃ m : Nat, m ≤ 8 ∧ i = .int .i64 m ∧ d = .int .u32 (crcTurns m (c ^^^ (p[j]).toNat) : Nat)) (fun i _ => 8 - (intOf i).toNat)
          case atStart => exact ⟨0, by omega, rfl, int_eq (by
            rw [show ((({ data := List.toArray p } : ByteArray)[j]).toNat : Int) % 4294967296 = ((p[j]).toNat : Int) from Int.emod_eq_of_lt (by omega) (by show ((p[j]).toNat : Int) < _; omega)]
            exact u32_xor_nat c (p[j]).toNat hlt1 (by omega))⟩
          case round =>
            obtain ⟨m, hm, rfl, rfl⟩ := hrel
            have htl := crcTurns_lt m _ hxl
            by_cases hml : m < 8
            · have hsc : crcTurns (m + 1) (c ^^^ (p[j]).toNat) = crcTurn (crcTurns m (c ^^^ (p[j]).toNat)) := rfl
              generalize crcTurns m (c ^^^ (p[j]).toNat) = d at *
              have hwt := walk_turn32 d htl
              have HSC := Lib.hid hsc; have HWT := Lib.hid hwt; clear hsc hwt
              go_wp2_with fail
              go_round
              case rel => exact ⟨m + 1, by omega, by go_num, int_eq (by rw [HSC.out, ← HWT.out])⟩
              case measure => simp [intOf]; omega
            · have hm8 : m = 8 := by omega
              subst hm8
              go_wp2_with fail
              go_round
              case rel => exact ⟨j + 1, by omega, by go_num, by rw [HST.out]⟩
              case measure => simp [intOf]; omega
        · have hjj : j = p.length := by omega
          subst hjj
          go_wp2_with fail
          go_round
          case rel => exact ⟨k + 1, by omega, by go_num, by rw [HF.out, List.take_length]⟩
          case measure => simp [intOf]; omega
    · have hkk : k = ps.length := by omega
      have hx := crcRaw_lt ps.flatten
      subst hkk
      rw [List.take_length]
      generalize hc : crcRaw ps.flatten = c at *
      have HCR := Lib.hid hc; clear hc
      go_wp2_with fail
      go_ret
      refine ⟨ret_int ?_, rfl⟩
      show bits BinOp.xor IntKind.u32 IntKind.u32.max (c : Int) = _
      rw [show IntKind.u32.max = ((4294967295 : Nat) : Int) by decide, u32_xor_nat _ _ (by decide) hx, Nat.xor_comm]
      unfold crcL
      rw [HCR.out]

/-- four bytes that were built just now, as a text -/
theorem four_back (w : World) (a b c d : Nat) (ha : a < 256) (hb : b < 256) (hc : c < 256) (hd : d < 256) (r : Bytes) (hr : r = [UInt8.ofNat a, UInt8.ofNat b, UInt8.ofNat c, UInt8.ofNat d]) :
    (convert 162 9 (.slice (some ⟨w.heap.size, 0, none⟩) 4 4)).run Tryz.prog (w.alloc (.cells #[.int .u8 a, .int .u8 b, .int .u8 c, .int .u8 d] 5)) =
      .ok (.string ⟨r.toArray⟩) (w.alloc (.cells #[.int .u8 a, .int .u8 b, .int .u8 c, .int .u8 d] 5)) := by
  subst hr
  refine run_convert_bytes_back (P := Tryz.prog) _ 162 9 5 ⟨w.heap.size, 0, none⟩ 4 [UInt8.ofNat a, UInt8.ofNat b, UInt8.ofNat c, UInt8.ofNat d] Tryz.underlying162 Tryz.underlying5 Tryz.underlying9 ?_
  intro j hj
  rw [add_head]
  simp only [World.cell?, heap_alloc_new]
  match j, hj with
  | 0, _ => simp [Nat.mod_eq_of_lt ha]
  | 1, _ => simp [Nat.mod_eq_of_lt hb]
  | 2, _ => simp [Nat.mod_eq_of_lt hc]
  | 3, _ => simp [Nat.mod_eq_of_lt hd]

set_option maxRecDepth 20000 in
set_option maxHeartbeats 400000 in
theorem Fixed_any (v : Nat) (w : World) (hv : v < 4294967296) :
    Calls Tryz.prog 139 #[.int .u32 v] w fun e w' => e = .returned (.string ⟨(fixedL v).toArray⟩) ∧ Q w w' := by
  have k4 := four_back w (v % 256) (v / 256 % 256) (v / 65536 % 256) (v / 16777216) (by omega) (by omega) (by omega) (by omega) (fixedL v) (by unfold fixedL; rw [show v / 16777216 % 256 = v / 16777216 by omega])
  simp only [Int.natCast_emod, Int.natCast_ediv, Int.cast_ofNat_Int] at k4
  generalize fixedL v = r at *
  go_enter Tryz.func139, Tryz.ntmps139
  go_wp2_with fail
  go_ret
  exact ⟨rfl, Q.alloc _ _⟩
end Go.Proofs.YtcflpcpkmhljkaaGreatDoor
end

/- (WBuild) segment.Build: walked. -/
section
namespace Go.Proofs.YtcflpcpkmhljkaaGreatDoor
open Go.RowKit
set_option linter.unusedVariables false

/-! ### plain -/
theorem dictL_len (l : List EntryL) : (dictL l).length ≤ 4500000000000 := by
  unfold dictL
  split
  · rename_i h
    simp only [Bool.and_eq_true, decide_eq_true_eq] at h
    have hs := entriesRight_small _ _ h.1
    obtain ⟨m, hm1, hm2⟩ : ∃ m, l.length ≤ 16 * m ∧ (m = 0 ∨ 16 * (m - 1) < l.length) := ⟨(l.length + 15) / 16, by omega, by omega⟩
    rw [dictE_eq l m hm1 hm2, List.length_append]
    have h1 := idxTo_len hs m
    have h2 := allTo_len hs m
    have h3 : m ≤ 65537 := by omega
    have h4 : m * 67110400 ≤ 65537 * 67110400 := Nat.mul_le_mul_right _ h3
    omega
  · simp
/-- what Build answers -/
noncomputable def buildS (l : List DocL) : Bytes × Int := by
  classical
  exact if l.length < 1 ∨ 500 < l.length then ([], 6) else if docsOk l then (segE l (idxS l), 0) else ([], 1)
theorem docsE_take (l : List DocL) (k : Nat) (h : k < l.length) : docsE (l.take (k + 1)) = docsE (l.take k) ++ (textE l[k].1 ++ textE l[k].2) := by
  rw [List.take_succ_eq_append_getElem h, docsE_append]; simp [docsE]
theorem docsE_len (l : List DocL) (h : ∀ d ∈ l, d.1.length ≤ 40 ∧ d.2.length ≤ 2000) : (docsE l).length ≤ l.length * 2100 := by
  induction l with
  | nil => simp [docsE]
  | cons d l ih =>
    have h1 := ih (fun x hx => h x (List.mem_cons_of_mem _ hx))
    have h2 := h d (List.mem_cons_self ..)
    have h3 := textE_len d.1
    have h4 := textE_len d.2
    simp only [docsE, List.length_append, List.length_cons]
    omega
theorem Strs.pair (w : World) (a b : Bytes) (e : TypeId) : Strs (w.alloc (.cells #[.string ⟨a.toArray⟩, .string ⟨b.toArray⟩] e)) (.slice (some ⟨w.heap.size, 0, none⟩) 2 2) [a, b] := Sl.lit w #[.string ⟨a.toArray⟩, .string ⟨b.toArray⟩] e 2 1 rfl
theorem rightB_len {a b : Bytes} (h : rightB a b = true) : a.length ≤ 40 ∧ b.length ≤ 2000 := by
  simp only [rightB, Bool.and_eq_true, decide_eq_true_eq] at h
  exact ⟨h.1.1.1.2, h.1.1.2⟩
set_option maxRecDepth 100000 in
set_option maxHeartbeats 2000000 in
theorem Build_many (v : Value) (l : List DocL) (w : World) (hv : Docs w v l) (h : l.length < 1 ∨ 500 < l.length) (hn : l.length ≤ 9223372036854775807) :
    Calls Tryz.prog 90 #[v] w fun e w' => e = .returned (.tuple #[.string ⟨([] : Bytes).toArray⟩, .int .i64 6]) ∧ Q w w' := by
  obtain ⟨a, cap, rfl, _⟩ := hv.value
  clear hv
  rcases h with h | h
  all_goals
    go_enter Tryz.func90, Tryz.ntmps90
    go_wp2_with fail
    go_ret2
    exact ⟨rfl, Q.refl _⟩
set_option maxRecDepth 100000 in
set_option maxHeartbeats 2000000 in
theorem Build_bad (v : Value) (l : List DocL) (w : World) (hv : Docs w v l) (h : ¬ (l.length < 1 ∨ 500 < l.length)) (hbad : ¬ docsOk l) (hl : ∀ d ∈ l, d.1.length ≤ 9223372036854775807 ∧ d.2.length ≤ 9223372036854775807) (hT : Tabs w) :
    Calls Tryz.prog 90 #[v] w fun e w' => e = .returned (.tuple #[.string ⟨([] : Bytes).toArray⟩, .int .i64 1]) ∧ Q w w' := by
  have c := gather_any v l w hv (by omega) hl hT
  obtain ⟨a, cap, rfl, _⟩ := hv.value
  have C := Lib.hid c; have HB := Lib.hid hbad
  clear c hv hbad hl hT
  go_enter Tryz.func90, Tryz.ntmps90
  go_wp2_with fail
  refine C.out.mono ?_
  rintro e w1 ⟨q1, hg⟩
  obtain ⟨b, rfl⟩ : ∃ b, e = .returned (.tuple #[.agg #[.slice a l.length cap, .map (some b)], .bool false]) := by
    rcases hg with ⟨h1, b, h2, _⟩ | ⟨_, b, h2⟩
    · refine ⟨b, ?_⟩
      rw [h2, decide_eq_false (fun h3 => HB.out ⟨h1, h3⟩)]
    · exact ⟨b, h2⟩
  have hb := (show Below w.heap.size w w1 from q1)
  have hsz := q1.size
  have HQ := Lib.hid hb
  clear hb hg q1
  go_wp2_with fail
  go_ret2
  exact ⟨rfl, HQ.out.alloc hsz _⟩
set_option maxRecDepth 100000 in
set_option maxHeartbeats 4000000 in
theorem Build_ok (v : Value) (l : List DocL) (w : World) (hv : Docs w v l) (h : ¬ (l.length < 1 ∨ 500 < l.length)) (hok : docsOk l) (hT : Tabs w) (hSp : Spans w) :
    Calls Tryz.prog 90 #[v] w fun e w' => e = .returned (.tuple #[.string ⟨(segE l (idxS l)).toArray⟩, .int .i64 0]) ∧ Q w w' := by
  have hlen : ∀ d ∈ l, d.1.length ≤ 40 ∧ d.2.length ≤ 2000 := fun d hd => rightB_len (hok.1 d hd)
  have c := gather_any v l w hv (by omega) (fun d hd => by have := hlen d hd; omega) hT
  have hv0 := hv
  obtain ⟨a, cap, rfl, hcell⟩ := hv.value
  have C := Lib.hid c; have HOK := Lib.hid hok; have HV := Lib.hid hv0; have HC := Lib.hid hcell; have HT := Lib.hid hT; have HSP := Lib.hid hSp; have HL := Lib.hid hlen
  clear c hv hv0 hok hcell hT hSp hlen
  go_enter Tryz.func90, Tryz.ntmps90
  go_wp2_with fail
  refine C.out.mono ?_
  rintro e w1 ⟨q1, hg⟩
  obtain ⟨mb, rfl⟩ : ∃ b, e = .returned (.tuple #[.agg #[.slice a l.length cap, .map (some b)], .bool true]) := by
    rcases hg with ⟨h1, b, h2, _⟩ | ⟨h1, _⟩
    · refine ⟨b, ?_⟩
      rw [h2, decide_eq_true HOK.out.2]
    · exact absurd HOK.out.1 h1
  have hb1 := (show Below w.heap.size w w1 from q1)
  have hsz1 := q1.size
  clear hg q1 C
  obtain ⟨wa, hwa⟩ : ∃ wa, w1.alloc (.cells #[.slice a l.length cap, .map (some mb)] 91) = wa := ⟨_, rfl⟩
  have hba : Below w.heap.size w wa := by rw [← hwa]; exact hb1.alloc hsz1 _
  have hbld : Bld (wa.alloc (.cells #[.pointer none, .slice none 0 0] 190)) w.heap.size wa.heap.size none [] := Bld.new wa _ hba.size
  have hbb := hba.alloc hba.size (.cells #[.pointer none, .slice none 0 0] 190)
  have cv := Var_any _ [l.length] ((wa.alloc (.cells #[.pointer none, .slice none 0 0] 190)).alloc (.cells #[.int .u64 (l.length : Nat)] 132)) (Sl.lit _ #[.int .u64 (l.length : Nat)] 132 1 1 rfl) (by simp) (by intro n hn'; simp at hn'; omega)
  rw [show varsE [l.length] = varE l.length by simp [varsE]] at cv
  have hvl := varE_len l.length
  have hasz : wa.heap.size = w1.heap.size + 1 := by rw [← hwa]; simp
  have hbl2 := hbld.alloc (.cells #[.int .u64 (l.length : Nat)] 132)
  simp only [World.size_alloc, hasz] at cv hbl2
  have CV := Lib.hid cv; have HB := Lib.hid (hbb.alloc hbb.size (.cells #[.int .u64 (l.length : Nat)] 132)); have HBL := Lib.hid hbl2; have HWA := Lib.hid hwa
  clear cv hbb hbld hba hb1 hwa hbl2
  go_wp2_with fail
  rw [HWA.out]
  refine CV.out.mono ?_
  rintro e w2 ⟨rfl, q2⟩
  have hb2 := HB.out.trans (Below.mono q2 HB.out.size)
  have hbl2 := HBL.out.q q2
  have cw := WriteString_any w.heap.size (w1.heap.size + 1) none [] (magicL ++ varE l.length) w2 hbl2 (by simp [magicL]; omega) hb2.size
  have CW := Lib.hid cw; have HB2 := Lib.hid hb2; have HBL2 := Lib.hid hbl2
  clear cw hb2 hbl2 q2 HB HBL CV
  go_wp2_with fail
  rw [show ({ data := #[67, 68, 88, 71] } : ByteArray) ++ ⟨(varE l.length).toArray⟩ = ⟨(magicL ++ varE l.length).toArray⟩ from bytes_append magicL (varE l.length)]
  refine CW.out.mono ?_
  rintro e w3 ⟨rfl, hs3, r3, hbl3, _⟩
  have hb3 := HB2.out.trans (HBL2.out.below hs3 HB2.out.size)
  have HB3 := Lib.hid hb3; have HBL3 := Lib.hid hbl3
  clear hb3 hbl3 hs3 CW HB2 HBL2
  go_wp2_with fail
  go_loopw [33] (fun i wr => ∃ k : Nat, i = .int .i64 (k : Nat) ∧ k ≤ l.length ∧ Hid (∃ r, Bld wr w.heap.size (w1.heap.size + 1) r (magicL ++ (varE l.length ++ docsE (l.take k)))) ∧ Hid (Below w.heap.size w wr)) (fun i _ => l.length - (intOf i).toNat)
  case atStart => exact ⟨0, rfl, by omega, ⟨r3, by simpa [docsE] using HBL3.out⟩, HB3⟩
  case round =>
    obtain ⟨k, rfl, hk, HBK, HB⟩ := hrel
    obtain ⟨wo, rfl⟩ : ∃ wo : World, wo = wr := ⟨_, rfl⟩
    have hszo := HB.out.size
    by_cases hlt : k < l.length
    · obtain ⟨b, off, rfl, hc⟩ := HC.out (by omega)
      obtain ⟨hc1, hc2⟩ := hc k hlt
      have hw1 := cell_stays HB.out hc1
      have hw2 := cell_stays HB.out hc2
      have hdl := HL.out _ (List.getElem_mem hlt)
      have hdt := docsE_take l k hlt
      have hde := docsE_len (l.take k) (fun d hd => HL.out d (List.mem_of_mem_take hd))
      rw [List.length_take] at hde
      have HDT := Lib.hid hdt
      clear hc hc1 hc2 hdt
      generalize l[k] = d at *
      obtain ⟨id, tx⟩ := d
      simp only at hw1 hw2 hdl HDT
      have hxx := heap_alloc_new wo (.cells #[.string ⟨id.toArray⟩, .string ⟨tx.toArray⟩] 63)
      obtain ⟨cx0, cx1⟩ := cells2 hxx
      have hb1 := HB.out.alloc hszo (.cells #[.string ⟨id.toArray⟩, .string ⟨tx.toArray⟩] 63)
      have ct := Text_any _ [id, tx] ((wo.alloc (.cells #[.string ⟨id.toArray⟩, .string ⟨tx.toArray⟩] 63)).alloc (.cells #[.string ⟨id.toArray⟩, .string ⟨tx.toArray⟩] 9)) (Strs.pair _ id tx 9) (by simp) (by intro p hp; simp at hp; rcases hp with rfl | rfl <;> omega)
      rw [show textsE [id, tx] = textE id ++ textE tx by simp [textsE]] at ct
      simp only [World.size_alloc] at ct
      have ht1 := textE_len id
      have ht2 := textE_len tx
      obtain ⟨r, hbk⟩ := HBK.out
      have CT := Lib.hid ct; have HBT := Lib.hid ((hbk.alloc (.cells #[.string ⟨id.toArray⟩, .string ⟨tx.toArray⟩] 63)).alloc (.cells #[.string ⟨id.toArray⟩, .string ⟨tx.toArray⟩] 9)); have HB1 := Lib.hid (hb1.alloc hb1.size (.cells #[.string ⟨id.toArray⟩, .string ⟨tx.toArray⟩] 9))
      clear ct hbk hb1 hxx HBK HB
      go_wp2_with fail
      refine CT.out.mono ?_
      rintro e w4 ⟨rfl, q4⟩
      have hb4 := HB1.out.trans (Below.mono q4 HB1.out.size)
      have hbl4 := HBT.out.q q4
      have cw := WriteString_any w.heap.size (w1.heap.size + 1) r _ (textE id ++ textE tx) w4 hbl4 (by simp only [List.length_append, magicL, List.length_cons, List.length_nil]; omega) hb4.size
      have CW := Lib.hid cw; have HB4 := Lib.hid hb4; have HBL4 := Lib.hid hbl4
      clear cw hb4 hbl4 q4 HB1 HBT CT cx0 cx1
      go_wp2_with fail
      refine CW.out.mono ?_
      rintro e w5 ⟨rfl, hs5, r5, hbl5, _⟩
      have hb5 := HB4.out.trans (HBL4.out.below hs5 HB4.out.size)
      rw [List.append_assoc, List.append_assoc, ← HDT.out] at hbl5
      have HB5 := Lib.hid hb5; have HBL5 := Lib.hid hbl5
      clear hb5 hbl5 hs5 CW HB4 HBL4
      go_wp2_with fail
      go_roundw
      case rel => exact ⟨k + 1, by go_num, by omega, ⟨r5, HBL5.out⟩, HB5⟩
      case measure => simp [intOf]; omega
    · have hke : k = l.length := by omega
      subst hke
      rw [List.take_length] at HBK
      have hde := docsE_len l HL.out
      have hdi := dictL_len ((sortL ((ixAll l).map (·.1))).map (entS (ixAll l)))
      have ci := Index_any _ l wo (HV.out.stays HB.out) (by omega) (fun d hd => (HL.out d hd).2) (HT.out.stays HB.out) (HSP.out.stays HB.out)
      rw [show dictL ((sortL ((ixAll l).map (·.1))).map (entS (ixAll l))) = idxS l from rfl] at hdi
      have hseg : segE l (idxS l) = (magicL ++ (varE l.length ++ docsE l)) ++ textE (idxS l) ++ fixedL (crcL ((magicL ++ (varE l.length ++ docsE l)) ++ textE (idxS l))) := by simp [segE, segBody]
      have hml : (magicL ++ (varE l.length ++ docsE l)).length ≤ 2000000 := by simp only [List.length_append, magicL, List.length_cons, List.length_nil]; omega
      have hmn : magicL ++ (varE l.length ++ docsE l) ≠ [] := by simp [magicL]
      obtain ⟨r, hbk⟩ := HBK.out
      have CI := Lib.hid ci; have HSEG := Lib.hid hseg; have HBL := Lib.hid hbk; have HMN := Lib.hid hmn
      clear ci hseg hbk HBK hmn
      generalize magicL ++ (varE l.length ++ docsE l) = pre at *
      generalize hdxe : idxS l = dx at *
      have HDX := Lib.hid hdxe; clear hdxe
      go_wp2_with fail
      refine CI.out.mono ?_
      rintro e w4 ⟨rfl, q4⟩
      have hb4 := HB.out.trans (Below.mono q4 hszo)
      have hbl4 := HBL.out.q q4
      have ct := Text_gen 5000000000000 _ [dx] (w4.alloc (.cells #[.string ⟨dx.toArray⟩] 9)) (Strs.lit1 w4 dx 9) (by simp) (by intro p hp; rw [List.mem_singleton] at hp; subst hp; omega)
      rw [show textsE [dx] = textE dx by simp [textsE]] at ct
      have htl := textE_len dx
      have CT := Lib.hid ct; have HB4 := Lib.hid (hb4.alloc hb4.size (.cells #[.string ⟨dx.toArray⟩] 9)); have HBL4 := Lib.hid (hbl4.alloc (.cells #[.string ⟨dx.toArray⟩] 9))
      clear ct hb4 hbl4 q4 CI HBL HB
      go_wp2_with fail
      refine CT.out.mono ?_
      rintro e w5 ⟨rfl, q5⟩
      have hb5 := HB4.out.trans (Below.mono q5 HB4.out.size)
      have hbl5 := HBL4.out.q q5
      have cw := WriteString_any w.heap.size (w1.heap.size + 1) r pre (textE dx) w5 hbl5 (by omega) hb5.size
      have CW := Lib.hid cw; have HB5 := Lib.hid hb5; have HBL5 := Lib.hid hbl5
      clear cw hb5 hbl5 q5 CT HB4 HBL4
      go_wp2_with fail
      refine CW.out.mono ?_
      rintro e w6 ⟨rfl, hs6, r6, hbl6, _⟩
      have hb6 := HB5.out.trans (HBL5.out.below hs6 HB5.out.size)
      have hbn : pre ++ textE dx ≠ [] := by intro e; exact HMN.out (List.append_eq_nil_iff.1 e).1
      have hbdl : (pre ++ textE dx).length ≤ 5000000000000 := by rw [List.length_append]; omega
      have HB6 := Lib.hid hb6
      clear hs6 hb6 CW HB5 HBL5
      generalize pre ++ textE dx = body at *
      have cs := String_some w.heap.size (w1.heap.size + 1) r6 body w6 hbl6 hbn
      have CS := Lib.hid cs; have HBL6 := Lib.hid hbl6
      clear cs hbl6
      go_wp2_with fail
      refine CS.out.mono ?_
      rintro e w7 ⟨rfl, hs7, hbl7⟩
      have hb7 := HB6.out.trans (HBL6.out.below hs7 HB6.out.size)
      have cs := String_some w.heap.size (w1.heap.size + 1) r6 body w7 hbl7 hbn
      have CS2 := Lib.hid cs; have HBL7 := Lib.hid hbl7; have HB7 := Lib.hid hb7
      clear cs hbl7 hb7 hs7 CS HB6 HBL6
      go_wp2_with fail
      refine CS2.out.mono ?_
      rintro e w8 ⟨rfl, hs8, hbl8⟩
      have hb8 := HB7.out.trans (HBL7.out.below hs8 HB7.out.size)
      have cc := Crc_any _ [body] (w8.alloc (.cells #[.string ⟨body.toArray⟩] 9)) (Strs.lit1 w8 body 9) (by simp) (by intro p hp; rw [List.mem_singleton] at hp; subst hp; omega)
      rw [show [body].flatten = body by simp] at cc
      have cf := Fixed_any (crcL body) (w8.alloc (.cells #[.string ⟨body.toArray⟩] 9)) (crcL_lt body)
      have hfl := length_fixedL (crcL body)
      have CC := Lib.hid cc; have CF := Lib.hid cf; have HB8 := Lib.hid (hb8.alloc hb8.size (.cells #[.string ⟨body.toArray⟩] 9))
      clear cc cf hb8 hbl8 hs8 CS2 HB7 HBL7
      generalize fixedL (crcL body) = fx at *
      generalize crcL body = cr at *
      go_wp2_with fail
      refine CC.out.mono ?_
      rintro e w9 ⟨rfl, rfl⟩
      go_wp2_with fail
      refine CF.out.mono ?_
      rintro e w9 ⟨rfl, q9⟩
      have hb9 := HB8.out.trans (Below.mono q9 HB8.out.size)
      have HB9 := Lib.hid hb9
      clear hb9 q9 CF CC HB8
      go_wp2_with fail
      go_ret2
      exact ⟨ret_str_int (by rw [bytes_append, HDX.out, HSEG.out]), HB9.out⟩
open Classical in
theorem Build_any (v : Value) (l : List DocL) (w : World) (hv : Docs w v l) (hn : l.length ≤ 9223372036854775807) (hl : ∀ d ∈ l, d.1.length ≤ 9223372036854775807 ∧ d.2.length ≤ 9223372036854775807) (hT : Tabs w) (hSp : Spans w) :
    Calls Tryz.prog 90 #[v] w fun e w' => e = .returned (.tuple #[.string ⟨(buildS l).1.toArray⟩, .int .i64 (buildS l).2]) ∧ Q w w' := by
  unfold buildS
  by_cases h : l.length < 1 ∨ 500 < l.length
  · simp only [if_pos h]
    exact Build_many v l w hv h hn
  · simp only [if_neg h]
    by_cases hok : docsOk l
    · simp only [if_pos hok]
      exact Build_ok v l w hv h hok hT hSp
    · simp only [if_neg hok]
      exact Build_bad v l w hv h hok hl hT
end Go.Proofs.YtcflpcpkmhljkaaGreatDoor
end

/- (Told0) Postings that a call has gathered: how they lie. -/
section
namespace Go.Proofs.YtcflpcpkmhljkaaGreatDoor
open Go.RowKit
set_option linter.unusedVariables false

/-- postings that a call has gathered: a row of its own, and a row for each one's places -/
def Told (w : World) (base : Nat) (v : Value) (xs : List PostL) : Prop :=
  ∃ rs : List PostR, postsOf rs = xs ∧ w.ownsRow base 211 2 v rs.length (postVs rs) ∧ ∀ r ∈ rs, w.ownsRow base 3 1 r.2.1 r.2.2.length (intVs r.2.2)
theorem Told.stays {w w' : World} {base : Nat} {v : Value} {xs : List PostL} (h : Told w base v xs) (q : Q w w') : Told w' base v xs := by
  obtain ⟨rs, h1, h2, h3⟩ := h
  exact ⟨rs, h1, ownsRow_below h2 q, fun r hr => ownsRow_below (h3 r hr) q⟩
theorem Told.low {w : World} {base base' : Nat} {v : Value} {xs : List PostL} (h : Told w base v xs) (hb : base' ≤ base) : Told w base' v xs := by
  obtain ⟨rs, h1, h2, h3⟩ := h
  exact ⟨rs, h1, owns_low h2 hb, fun r hr => owns_low (h3 r hr) hb⟩
theorem Told.posts {w : World} {base : Nat} {v : Value} {xs : List PostL} (h : Told w base v xs) : ∃ rs : List PostR, postsOf rs = xs ∧ Posts w v rs := by
  obtain ⟨rs, h1, h2, h3⟩ := h
  exact ⟨rs, h1, Sl.of_owns h2, fun r hr => Sl.of_owns (h3 r hr)⟩
theorem Told.nil (w : World) (base : Nat) : Told w base (.slice none 0 0) [] := ⟨[], rfl, World.ownsRow_nil _ _ _ _, by simp⟩
theorem tinfoPo : (Tryz.prog.info? 211).map (fun i => (i.zero, i.size, i.bytes)) = some (some (.agg #[.int .i64 0, .slice none 0 0]), 2, 32) := by kernel_rfl
theorem docs_posts {l : List DocL} (h : l.length ≤ 500) (hok : docsOk l) (t : Bytes) : postsRight (-1) (postsF t l 0) = true :=
  postsF_right t l 0 (by omega) (fun d hd => (rightB_len (hok.1 d hd)).2) (-1) (by omega)
end Go.Proofs.YtcflpcpkmhljkaaGreatDoor
end

/- (Range2) A range over a function whose iterator tells things that lie in memory: the iterator's contract 'SeqP', and the law of the statement. (As XRange, with a relation in place of the values.) Over any program. -/
section
namespace Go.Proofs.YtcflpcpkmhljkaaGreatDoor
open Go.RowKit
set_option linter.unusedVariables false

/-- the contract of an iterator that tells the list xs: own: the blocks that it turns itself; keep: those that the rounds are to keep, beside what lies below n₀ -/
def SeqP {α : Type} (P : Program) (g : Nat) (lb : Array Value) (encs : α → World → Array Value → Prop) (own keep : Nat → Prop) (n₀ : Nat) (xs : List α) (W : World) : Prop :=
  ∀ (n l : Nat) (J Jx : Nat → World → Prop),
    (∀ s A B, J s A → Itk own W.heap.size A B → J s B) → (∀ s A B, Jx s A → Itk own W.heap.size A B → Jx s B) →
    (∀ k (hk : k < xs.length) W1 args, J k W1 → encs xs[k] W1 args → (∀ b, keep b → b < W1.heap.size) → YieldW P l args W1 fun e W' =>
      (e = .returned (.bool true) ∧ J (k + 1) W' ∧ Bk keep n₀ W1 W') ∨ (e = .returned (.bool false) ∧ Jx (k + 1) W' ∧ Bk keep n₀ W1 W')) →
    J 0 W →
    CallsIn Fence.wide n P g (#[.func (.yield l) #[] #[]] ++ lb) W fun e W' => (∃ v, e = .returned v) ∧ (J xs.length W' ∨ ∃ k, k ≤ xs.length ∧ Jx k W')

theorem wp_rangeP {α : Type} {P : Program} {n : Nat} {g : Operand} {ps : Array Tmp} {assign body : Code} {Qx : Exit → Act → World → Prop} {a : Act} {w : World}
    {gf : Nat} {lb : Array Value} (hg : a.eval g = .func (.func gf) #[] lb) (eg : ∀ args w, (callFunc gf args).run P w = .ok (.enter gf args) w)
    {encs : α → World → Array Value → Prop} {own keep : Nat → Prop} {n₀ : Nat} {xs : List α}
    (hseq : ∀ W1, Q w W1 → W1.heap.size = w.heap.size + 2 → SeqP P gf lb encs own keep n₀ xs W1)
    (hown : ∀ k, own k → k ≠ w.heap.size ∧ k ≠ w.heap.size + 1) (hkeep : ∀ k, keep k → k ≠ w.heap.size ∧ k ≠ w.heap.size + 1) (hn₀ : n₀ ≤ w.heap.size) (hps : ∀ x W args, encs x W args → args.size = ps.size)
    (I : Nat → World → Prop) (Ix : Code → Nat → World → Prop) (Ax : Nat → Act → World → Prop)
    (hI : ∀ s A B, I s A → Itk own w.heap.size A B → I s B) (hIx : ∀ c s A B, Ix c s A → Itk own w.heap.size A B → Ix c s B) (hAx : ∀ k a' A B, Ax k a' A → Itk own w.heap.size A B → Ax k a' B)
    (h0 : I 0 w)
    (hassign : ∀ (l k : Nat) (hk : k < xs.length) (W : World) (args : Array Value) (K : Act → World → Prop), I k W → encs xs[k] W args → w.heap.size + 2 ≤ W.heap.size → (∀ a' W', Q W W' → I k W' → Ax k a' W' → K a' W') →
      assign.wpIn (Fence.wide.inRound l) (n - 1 - 1) P (Exit.then K (fun _ _ _ => False)) { tmps := (ps.zip args).foldl (fun t (p, v) => t.setIfInBounds p v) a.tmps, defers := [] } W)
    (hbody : ∀ (l k : Nat) (hk : k < xs.length) (a' : Act) (W : World), ((∃ r, W.heap[l]? = some (.loop r)) ∧ W.heap[w.heap.size]? = some (.deferred (some []))) → l = w.heap.size + 1 → I k W → Ax k a' W → (∀ b, keep b → b < W.heap.size) → w.heap.size + 2 ≤ W.heap.size →
      body.wpIn (Fence.wide.inRound l) (n - 1 - 1) P (roundQ (Bk (fun b => keep b ∨ b = w.heap.size ∨ b = w.heap.size + 1) n₀) I Ix k W) a' W)
    (hdone : ∀ (D : Nat) (W : World), D = w.heap.size → w.heap.size + 2 ≤ W.heap.size → I xs.length W → W.heap[D]? = some (.deferred (some [])) → Qx .normal { a with defers := { target := .collected D, args := #[] } :: a.defers } W)
    (hstop : ∀ (D : Nat) (c : Code) (k : Nat) (W : World), D = w.heap.size → k ≤ xs.length → Ix c k W → W.heap[D]? = some (.deferred (some [])) → c.wpIn Fence.wide n P Qx { a with defers := { target := .collected D, args := #[] } :: a.defers } W) :
    (Code.rangeFunc g ps assign body).wpIn Fence.wide n P Qx a w := by
  refine wpIn_rangeFunc ?_
  intro fn hfn
  obtain ⟨rec, hrec⟩ : ∃ rec : LoopState → Option Code → Loop, rec = fun st pe => { state := st, pending := pe, fn, tmps := a.tmps, params := ps, assign, body, defers := w.heap.size } := ⟨_, rfl⟩
  obtain ⟨W1, hW1⟩ : ∃ W1, (w.alloc (.deferred (some []))).alloc (.loop (rec .ready none)) = W1 := ⟨_, rfl⟩
  have hq1 : Q w W1 := by rw [← hW1]; exact (Q.alloc w _).trans (Q.alloc _ _)
  have hs1 : W1.heap.size = w.heap.size + 2 := by rw [← hW1]; simp
  have hL1 : W1.heap[w.heap.size + 1]? = some (.loop (rec .ready none)) := by
    rw [← hW1]; have := World.alloc_heap_new (w.alloc (.deferred (some []))) (.loop (rec .ready none)); rwa [World.size_alloc] at this
  have hK1 : W1.heap[w.heap.size]? = some (.deferred (some [])) := by
    rw [← hW1]; exact (Below.heap_alloc _ _ _ (by simp)).trans (World.alloc_heap_new w _)
  have hI1 : I 0 W1 := hI _ _ _ h0 (Itk.of_q hq1)
  have ho1 : ¬ own (w.heap.size + 1) := fun h => (hown _ h).2 rfl
  have hk1' : ¬ keep (w.heap.size + 1) := fun h => (hkeep _ h).2 rfl
  have ho0 : ¬ own w.heap.size := fun h => (hown _ h).1 rfl
  refine ⟨w.heap.size + 1, [{ target := .collected w.heap.size, args := #[] }], W1, { target := .fn (.func gf) lb, args := #[.func (.yield (w.heap.size + 1)) #[] #[]] }, W1, gf,
    #[.func (.yield (w.heap.size + 1)) #[] #[]] ++ lb, W1, ?_, ?_, fun _ _ => trivial, ?_, fun h => (by cases h), ?_⟩
  · rw [← hW1, hrec]; exact run_enterLoop_outer _ _ _ _ _
  · simp only [resolve, hg]
    simp [go_sem]
  · simp [invoke, go_sem, eg]
  · refine (hseq W1 hq1 hs1 (n - 1) (w.heap.size + 1)
      (fun k W => I k W ∧ W.heap[w.heap.size + 1]? = some (.loop (rec .ready none)) ∧ W.heap[w.heap.size]? = some (.deferred (some [])))
      (fun k W => ∃ c, Ix c k W ∧ W.heap[w.heap.size + 1]? = some (.loop (rec .done (some c))) ∧ W.heap[w.heap.size]? = some (.deferred (some [])))
      (fun s A B hs hi => ⟨hI s A B hs.1 (hi.mono (fun _ h => h) (by omega)), (hi.low _ (by omega) (lt_of_get hs.2.1) ho1).trans hs.2.1, (hi.low _ (by omega) (lt_of_get hs.2.2) ho0).trans hs.2.2⟩)
      (fun s A B hs hi => by
        obtain ⟨c, hc, hl, hk⟩ := hs
        exact ⟨c, hIx c s A B hc (hi.mono (fun _ h => h) (by omega)), (hi.low _ (by omega) (lt_of_get hl) ho1).trans hl, (hi.low _ (by omega) (lt_of_get hk) ho0).trans hk⟩)
      ?_ ⟨hI1, hL1, hK1⟩).mono ?_
    · -- one round
      rintro k hk W args ⟨hi, hl, hkk⟩ henc hob
      have hy := run_yield (P := P) (args := args) hl (by rw [hrec]; exact hps _ _ _ henc)
      rw [hrec] at hy
      refine ⟨fn, _, assign, body, hy, fun m => round_any (n := n - 1 - 1) (roundIn_of_wpIn trivial (hassign _ k hk W args _ hi henc (lt_of_get hl) ?_))⟩
      clear hy
      intro a' Wa hqa hia hax
      have hla := (hqa.block _ (lt_of_get hl)).trans hl
      have hka := (hqa.block _ (lt_of_get hkk)).trans hkk
      refine ⟨_, run_beginRound hla (by rw [hrec]), ?_⟩
      have hl2 : (Wa.putObj (w.heap.size + 1) (.loop { rec .ready none with state := .busy })).heap[w.heap.size + 1]? = some (.loop { rec .ready none with state := .busy }) := World.putObj_heap_same (lt_of_get hla)
      have hk2 : (Wa.putObj (w.heap.size + 1) (.loop { rec .ready none with state := .busy })).heap[w.heap.size]? = some (.deferred (some [])) := (World.putObj_heap_other (by omega)).trans hka
      have hi2 : Itk own w.heap.size Wa (Wa.putObj (w.heap.size + 1) (.loop { rec .ready none with state := .busy })) := Itk.put _ hla rfl (by omega)
      have hb2 : Bk keep n₀ W (Wa.putObj (w.heap.size + 1) (.loop { rec .ready none with state := .busy })) := (Bk.of_q hqa (by have := lt_of_get hl; omega)).trans (Bk.put _ hla rfl (by omega) hk1')
      refine wpIn_mono (hbody _ k hk a' _ ⟨⟨_, hl2⟩, hk2⟩ rfl (hI _ _ _ hia hi2) (hAx _ _ _ _ hax hi2) (fun b hb => by have := hob b hb; have := hqa.size; simp; omega) (by have := lt_of_get hla; simp; omega)) ?_
      have fin : ∀ (jump : Option Code) (W3 : World), Bk (fun b => keep b ∨ b = w.heap.size ∨ b = w.heap.size + 1) n₀ (Wa.putObj (w.heap.size + 1) (.loop { rec .ready none with state := .busy })) W3 →
          (Instr.endRound (w.heap.size + 1) jump).run P W3 = .ok (.bool jump.isNone) (W3.putObj (w.heap.size + 1) (.loop (rec (if jump.isNone then .ready else .done) jump))) ∧
          W3.heap[w.heap.size + 1]? = some (.loop { rec .ready none with state := .busy }) ∧
          (W3.putObj (w.heap.size + 1) (.loop (rec (if jump.isNone then .ready else .done) jump))).heap[w.heap.size + 1]? = some (.loop (rec (if jump.isNone then .ready else .done) jump)) ∧
          (W3.putObj (w.heap.size + 1) (.loop (rec (if jump.isNone then .ready else .done) jump))).heap[w.heap.size]? = some (.deferred (some [])) ∧
          Itk own w.heap.size W3 (W3.putObj (w.heap.size + 1) (.loop (rec (if jump.isNone then .ready else .done) jump))) ∧
          Bk keep n₀ W (W3.putObj (w.heap.size + 1) (.loop (rec (if jump.isNone then .ready else .done) jump))) := fun jump W3 hk3 => by
        have hl3 := (hk3.own _ (.inr (.inr rfl)) (lt_of_get hl2)).trans hl2
        have hd3 := (hk3.own _ (.inr (.inl rfl)) (lt_of_get hk2)).trans hk2
        have := run_endRound (P := P) jump hl3
        rw [hrec] at this ⊢
        rw [hrec] at hl3
        exact ⟨this, hl3, World.putObj_heap_same (lt_of_get hl3), (World.putObj_heap_other (by omega)).trans hd3, Itk.put _ hl3 rfl (by omega),
          (hb2.trans (hk3.mono (fun _ h => .inl h) (Nat.le_refl _))).trans (Bk.put _ hl3 rfl (by omega) hk1')⟩
      rintro e a3 W3 hp
      cases e with
      | normal =>
        obtain ⟨hk3, hi3⟩ := hp
        obtain ⟨hr, hl3, hl4, hk4, hi4, hb4⟩ := fin none W3 hk3
        exact ⟨_, _, hr, .inl ⟨rfl, ⟨hI _ _ _ hi3 hi4, hl4, hk4⟩, hb4⟩⟩
      | ret =>
        obtain ⟨hk3, hi3⟩ := hp
        obtain ⟨hr, hl3, hl4, hk4, hi4, hb4⟩ := fin (some .ret) W3 hk3
        exact ⟨_, _, hr, .inr ⟨rfl, ⟨.ret, hIx _ _ _ _ hi3 hi4, hl4, hk4⟩, hb4⟩⟩
      | exit id =>
        obtain ⟨hk3, hi3⟩ := hp
        obtain ⟨hr, hl3, hl4, hk4, hi4, hb4⟩ := fin (some (.exit id)) W3 hk3
        exact ⟨_, _, hr, .inr ⟨rfl, ⟨.exit id, hIx _ _ _ _ hi3 hi4, hl4, hk4⟩, hb4⟩⟩
      | goto t =>
        obtain ⟨hk3, hi3⟩ := hp
        obtain ⟨hr, hl3, hl4, hk4, hi4, hb4⟩ := fin (some (.goto t)) W3 hk3
        exact ⟨_, _, hr, .inr ⟨rfl, ⟨.goto t, hIx _ _ _ _ hi3 hi4, hl4, hk4⟩, hb4⟩⟩
      | panic ch => exact hp.elim
      | outgrown => exact hp.elim
    · -- behind the iterator
      rintro e W2 ⟨⟨v, rfl⟩, (⟨hi, hl, hk⟩ | ⟨k, hkl, c, hi, hl, hk⟩)⟩
      · exact ⟨none, _, by have := run_endLoop (P := P) hl (by rw [hrec]; simp); rw [hrec] at this; exact this, hdone _ _ rfl (by have := lt_of_get hl; simp; omega) (hI _ _ _ hi (Itk.put _ hl rfl (by omega))) ((World.putObj_heap_other (by omega)).trans hk)⟩
      · exact ⟨some c, _, by have := run_endLoop (P := P) hl (by rw [hrec]; simp); rw [hrec] at this; exact this, hstop _ c k _ rfl hkl (hIx c _ _ _ hi (Itk.put _ hl rfl (by omega))) ((World.putObj_heap_other (by omega)).trans hk)⟩

theorem wp_rangeP_in {α : Type} {P : Program} {n : Nat} {g : Operand} {ps : Array Tmp} {assign body : Code} {Qx : Exit → Act → World → Prop} {a : Act} {w : World} {l₀ : Nat} {r₀ : Loop} (h₀ : w.heap[l₀]? = some (.loop r₀))
    {gf : Nat} {lb : Array Value} (hg : a.eval g = .func (.func gf) #[] lb) (eg : ∀ args w, (callFunc gf args).run P w = .ok (.enter gf args) w)
    {encs : α → World → Array Value → Prop} {own keep : Nat → Prop} {n₀ : Nat} {xs : List α}
    (hseq : ∀ W1, Q w W1 → W1.heap.size = w.heap.size + 1 → SeqP P gf lb encs own keep n₀ xs W1)
    (hown : ∀ k, own k → k ≠ w.heap.size) (hkeep : ∀ k, keep k → k ≠ w.heap.size) (hn₀ : n₀ ≤ w.heap.size) (hps : ∀ x W args, encs x W args → args.size = ps.size)
    (I : Nat → World → Prop) (Ix : Code → Nat → World → Prop) (Ax : Nat → Act → World → Prop)
    (hI : ∀ s A B, I s A → Itk own w.heap.size A B → I s B) (hIx : ∀ c s A B, Ix c s A → Itk own w.heap.size A B → Ix c s B) (hAx : ∀ k a' A B, Ax k a' A → Itk own w.heap.size A B → Ax k a' B)
    (h0 : I 0 w)
    (hassign : ∀ (l k : Nat) (hk : k < xs.length) (W : World) (args : Array Value) (K : Act → World → Prop), I k W → encs xs[k] W args → w.heap.size + 1 ≤ W.heap.size → (∀ a' W', Q W W' → I k W' → Ax k a' W' → K a' W') →
      assign.wpIn (Fence.wide.inRound l) (n - 1 - 1) P (Exit.then K (fun _ _ _ => False)) { tmps := (ps.zip args).foldl (fun t (p, v) => t.setIfInBounds p v) a.tmps, defers := [] } W)
    (hbody : ∀ (l k : Nat) (hk : k < xs.length) (a' : Act) (W : World), (∃ r, W.heap[l]? = some (.loop r)) → l = w.heap.size → I k W → Ax k a' W → (∀ b, keep b → b < W.heap.size) → w.heap.size + 1 ≤ W.heap.size →
      body.wpIn (Fence.wide.inRound l) (n - 1 - 1) P (roundQ (Bk (fun b => keep b ∨ b = w.heap.size) n₀) I Ix k W) a' W)
    (hdone : ∀ (W : World), I xs.length W → Qx .normal a W)
    (hstop : ∀ (c : Code) (k : Nat) (W : World), k ≤ xs.length → Ix c k W → c.wpIn (Fence.wide.inRound l₀) n P Qx a W) :
    (Code.rangeFunc g ps assign body).wpIn (Fence.wide.inRound l₀) n P Qx a w := by
  refine wpIn_rangeFunc ?_
  intro fn hfn
  obtain ⟨rec, hrec⟩ : ∃ rec : LoopState → Option Code → Loop, rec = fun st pe => { state := st, pending := pe, fn, tmps := a.tmps, params := ps, assign, body, defers := r₀.defers } := ⟨_, rfl⟩
  obtain ⟨W1, hW1⟩ : ∃ W1, w.alloc (.loop (rec .ready none)) = W1 := ⟨_, rfl⟩
  have hq1 : Q w W1 := by rw [← hW1]; exact Q.alloc w _
  have hs1 : W1.heap.size = w.heap.size + 1 := by rw [← hW1]; simp
  have hL1 : W1.heap[w.heap.size]? = some (.loop (rec .ready none)) := by
    rw [← hW1]; exact World.alloc_heap_new _ _
  have hI1 : I 0 W1 := hI _ _ _ h0 (Itk.of_q hq1)
  have ho0 : ¬ own w.heap.size := fun h => (hown _ h) rfl
  have hk1' : ¬ keep w.heap.size := fun h => (hkeep _ h) rfl
  refine ⟨w.heap.size, [], W1, { target := .fn (.func gf) lb, args := #[.func (.yield w.heap.size) #[] #[]] }, W1, gf,
    #[.func (.yield w.heap.size) #[] #[]] ++ lb, W1, ?_, ?_, fun _ _ => trivial, ?_, fun h => (by cases h), ?_⟩
  · rw [← hW1, hrec]; exact run_enterLoop_inner h₀ _ _ _ _ _
  · simp only [resolve, hg]
    simp [go_sem]
  · simp [invoke, go_sem, eg]
  · refine CallsIn.inRound l₀ ((hseq W1 hq1 hs1 (n - 1) w.heap.size
      (fun k W => I k W ∧ W.heap[w.heap.size]? = some (.loop (rec .ready none)))
      (fun k W => ∃ c, Ix c k W ∧ W.heap[w.heap.size]? = some (.loop (rec .done (some c))))
      (fun s A B hs hi => ⟨hI s A B hs.1 (hi.mono (fun _ h => h) (by omega)), (hi.low _ (by omega) (lt_of_get hs.2) ho0).trans hs.2⟩)
      (fun s A B hs hi => by
        obtain ⟨c, hc, hl⟩ := hs
        exact ⟨c, hIx c s A B hc (hi.mono (fun _ h => h) (by omega)), (hi.low _ (by omega) (lt_of_get hl) ho0).trans hl⟩)
      ?_ ⟨hI1, hL1⟩).mono ?_)
    · -- one round
      rintro k hk W args ⟨hi, hl⟩ henc hob
      have hy := run_yield (P := P) (args := args) hl (by rw [hrec]; exact hps _ _ _ henc)
      rw [hrec] at hy
      refine ⟨fn, _, assign, body, hy, fun m => round_any (n := n - 1 - 1) (roundIn_of_wpIn trivial (hassign _ k hk W args _ hi henc (lt_of_get hl) ?_))⟩
      clear hy
      intro a' Wa hqa hia hax
      have hla := (hqa.block _ (lt_of_get hl)).trans hl
      refine ⟨_, run_beginRound hla (by rw [hrec]), ?_⟩
      have hl2 : (Wa.putObj w.heap.size (.loop { rec .ready none with state := .busy })).heap[w.heap.size]? = some (.loop { rec .ready none with state := .busy }) := World.putObj_heap_same (lt_of_get hla)
      have hi2 : Itk own w.heap.size Wa (Wa.putObj w.heap.size (.loop { rec .ready none with state := .busy })) := Itk.put _ hla rfl (by omega)
      have hb2 : Bk keep n₀ W (Wa.putObj w.heap.size (.loop { rec .ready none with state := .busy })) := (Bk.of_q hqa (by have := lt_of_get hl; omega)).trans (Bk.put _ hla rfl (by omega) hk1')
      refine wpIn_mono (hbody _ k hk a' _ ⟨_, hl2⟩ rfl (hI _ _ _ hia hi2) (hAx _ _ _ _ hax hi2) (fun b hb => by have := hob b hb; have := hqa.size; simp; omega) (by have := lt_of_get hla; simp; omega)) ?_
      have fin : ∀ (jump : Option Code) (W3 : World), Bk (fun b => keep b ∨ b = w.heap.size) n₀ (Wa.putObj w.heap.size (.loop { rec .ready none with state := .busy })) W3 →
          (Instr.endRound w.heap.size jump).run P W3 = .ok (.bool jump.isNone) (W3.putObj w.heap.size (.loop (rec (if jump.isNone then .ready else .done) jump))) ∧
          (W3.putObj w.heap.size (.loop (rec (if jump.isNone then .ready else .done) jump))).heap[w.heap.size]? = some (.loop (rec (if jump.isNone then .ready else .done) jump)) ∧
          Itk own w.heap.size W3 (W3.putObj w.heap.size (.loop (rec (if jump.isNone then .ready else .done) jump))) ∧
          Bk keep n₀ W (W3.putObj w.heap.size (.loop (rec (if jump.isNone then .ready else .done) jump))) := fun jump W3 hk3 => by
        have hl3 := (hk3.own _ (.inr rfl) (lt_of_get hl2)).trans hl2
        have := run_endRound (P := P) jump hl3
        rw [hrec] at this ⊢
        rw [hrec] at hl3
        exact ⟨this, World.putObj_heap_same (lt_of_get hl3), Itk.put _ hl3 rfl (by omega),
          (hb2.trans (hk3.mono (fun _ h => .inl h) (Nat.le_refl _))).trans (Bk.put _ hl3 rfl (by omega) hk1')⟩
      rintro e a3 W3 hp
      cases e with
      | normal =>
        obtain ⟨hk3, hi3⟩ := hp
        obtain ⟨hr, hl4, hi4, hb4⟩ := fin none W3 hk3
        exact ⟨_, _, hr, .inl ⟨rfl, ⟨hI _ _ _ hi3 hi4, hl4⟩, hb4⟩⟩
      | ret =>
        obtain ⟨hk3, hi3⟩ := hp
        obtain ⟨hr, hl4, hi4, hb4⟩ := fin (some .ret) W3 hk3
        exact ⟨_, _, hr, .inr ⟨rfl, ⟨.ret, hIx _ _ _ _ hi3 hi4, hl4⟩, hb4⟩⟩
      | exit id =>
        obtain ⟨hk3, hi3⟩ := hp
        obtain ⟨hr, hl4, hi4, hb4⟩ := fin (some (.exit id)) W3 hk3
        exact ⟨_, _, hr, .inr ⟨rfl, ⟨.exit id, hIx _ _ _ _ hi3 hi4, hl4⟩, hb4⟩⟩
      | goto t =>
        obtain ⟨hk3, hi3⟩ := hp
        obtain ⟨hr, hl4, hi4, hb4⟩ := fin (some (.goto t)) W3 hk3
        exact ⟨_, _, hr, .inr ⟨rfl, ⟨.goto t, hIx _ _ _ _ hi3 hi4, hl4⟩, hb4⟩⟩
      | panic ch => exact hp.elim
      | outgrown => exact hp.elim
    · -- behind the iterator
      rintro e W2 ⟨⟨v, rfl⟩, (⟨hi, hl⟩ | ⟨k, hkl, c, hi, hl⟩)⟩
      · exact ⟨none, _, by have := run_endLoop (P := P) hl (by rw [hrec]; simp); rw [hrec] at this; exact this, hdone _ (hI _ _ _ hi (Itk.put _ hl rfl (by omega)))⟩
      · exact ⟨some c, _, by have := run_endLoop (P := P) hl (by rw [hrec]; simp); rw [hrec] at this; exact this, hstop c k _ hkl (hIx c _ _ _ hi (Itk.put _ hl rfl (by omega)))⟩
end Go.Proofs.YtcflpcpkmhljkaaGreatDoor
end
