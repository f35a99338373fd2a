/- Joined texts of one proof: WBuild, Told0, WRef14a, WRef14b. -/
import Derived.Test.YtoabhcfmdkhmgaaGreatDoorPWIndexToWCrc
import Derived.Test.YtoabhcfmdkhmgaaGreatDoorPMapsToLive
import Derived.Test.YtoabhcfmdkhmgaaGreatDoorPPostRdToAppSl
import Derived.Test.YtoabhcfmdkhmgaaGreatDoorPWPostBToIx
import Derived.Test.YtoabhcfmdkhmgaaGreatDoorPMem3ToBld
import Derived.Test.YtoabhcfmdkhmgaaGreatDoorPWRef11dToWRef12a
import Derived.Test.YtoabhcfmdkhmgaaGreatDoorPWPostPToWRef12d
import Derived.Test.YtoabhcfmdkhmgaaGreatDoorPWStopToToks0
set_option linter.unusedSimpArgs false
set_option linter.unusedVariables false
set_option linter.unnecessarySimpa false
/- (WBuild) segment.Build: walked. -/
section
namespace Go.Proofs.YtoabhcfmdkhmgaaGreatDoor
open Go.RowKit
set_option linter.unusedVariables false

/-! ### plain -/
theorem dictL_len (l : List EntryL) : (dictL l).length ≤ 4500000000000 := by
  unfold dictL
  split
  · rename_i h
    simp only [Bool.and_eq_true, decide_eq_true_eq] at h
    have hs := entriesRight_small _ _ h.1
    obtain ⟨m, hm1, hm2⟩ : ∃ m, l.length ≤ 16 * m ∧ (m = 0 ∨ 16 * (m - 1) < l.length) := ⟨(l.length + 15) / 16, by omega, by omega⟩
    rw [dictE_eq l m hm1 hm2, List.length_append]
    have h1 := idxTo_len hs m
    have h2 := allTo_len hs m
    have h3 : m ≤ 65537 := by omega
    have h4 : m * 67110400 ≤ 65537 * 67110400 := Nat.mul_le_mul_right _ h3
    omega
  · simp
/-- what Build answers -/
noncomputable def buildS (l : List DocL) : Bytes × Int := by
  classical
  exact if l.length < 1 ∨ 500 < l.length then ([], 6) else if docsOk l then (segE l (idxS l), 0) else ([], 1)
theorem docsE_take (l : List DocL) (k : Nat) (h : k < l.length) : docsE (l.take (k + 1)) = docsE (l.take k) ++ (textE l[k].1 ++ textE l[k].2) := by
  rw [List.take_succ_eq_append_getElem h, docsE_append]; simp [docsE]
theorem docsE_len (l : List DocL) (h : ∀ d ∈ l, d.1.length ≤ 40 ∧ d.2.length ≤ 2000) : (docsE l).length ≤ l.length * 2100 := by
  induction l with
  | nil => simp [docsE]
  | cons d l ih =>
    have h1 := ih (fun x hx => h x (List.mem_cons_of_mem _ hx))
    have h2 := h d (List.mem_cons_self ..)
    have h3 := textE_len d.1
    have h4 := textE_len d.2
    simp only [docsE, List.length_append, List.length_cons]
    omega
theorem Strs.pair (w : World) (a b : Bytes) (e : TypeId) : Strs (w.alloc (.cells #[.string ⟨a.toArray⟩, .string ⟨b.toArray⟩] e)) (.slice (some ⟨w.heap.size, 0, none⟩) 2 2) [a, b] := Sl.lit w #[.string ⟨a.toArray⟩, .string ⟨b.toArray⟩] e 2 1 rfl
theorem rightB_len {a b : Bytes} (h : rightB a b = true) : a.length ≤ 40 ∧ b.length ≤ 2000 := by
  simp only [rightB, Bool.and_eq_true, decide_eq_true_eq] at h
  exact ⟨h.1.1.1.2, h.1.1.2⟩
set_option maxRecDepth 100000 in
set_option maxHeartbeats 2000000 in
theorem Build_many (v : Value) (l : List DocL) (w : World) (hv : Docs w v l) (h : l.length < 1 ∨ 500 < l.length) (hn : l.length ≤ 9223372036854775807) :
    Calls Tryz.prog 47 #[v] w fun e w' => e = .returned (.tuple #[.string ⟨([] : Bytes).toArray⟩, .int .i64 6]) ∧ Q w w' := by
  obtain ⟨a, cap, rfl, _⟩ := hv.value
  clear hv
  rcases h with h | h
  all_goals
    go_enter Tryz.func47, Tryz.ntmps47
    go_wp2_with fail
    go_ret2
    exact ⟨rfl, Q.refl _⟩
set_option maxRecDepth 100000 in
set_option maxHeartbeats 2000000 in
theorem Build_bad (v : Value) (l : List DocL) (w : World) (hv : Docs w v l) (h : ¬ (l.length < 1 ∨ 500 < l.length)) (hbad : ¬ docsOk l) (hl : ∀ d ∈ l, d.1.length ≤ 9223372036854775807 ∧ d.2.length ≤ 9223372036854775807) (hT : Tabs w) :
    Calls Tryz.prog 47 #[v] w fun e w' => e = .returned (.tuple #[.string ⟨([] : Bytes).toArray⟩, .int .i64 1]) ∧ Q w w' := by
  have c := gather_any v l w hv (by omega) hl hT
  obtain ⟨a, cap, rfl, _⟩ := hv.value
  have C := Lib.hid c; have HB := Lib.hid hbad
  clear c hv hbad hl hT
  go_enter Tryz.func47, Tryz.ntmps47
  go_wp2_with fail
  refine C.out.mono ?_
  rintro e w1 ⟨q1, hg⟩
  obtain ⟨b, rfl⟩ : ∃ b, e = .returned (.tuple #[.agg #[.slice a l.length cap, .map (some b)], .bool false]) := by
    rcases hg with ⟨h1, b, h2, _⟩ | ⟨_, b, h2⟩
    · refine ⟨b, ?_⟩
      rw [h2, decide_eq_false (fun h3 => HB.out ⟨h1, h3⟩)]
    · exact ⟨b, h2⟩
  have hb := (show Below w.heap.size w w1 from q1)
  have hsz := q1.size
  have HQ := Lib.hid hb
  clear hb hg q1
  go_wp2_with fail
  go_ret2
  exact ⟨rfl, HQ.out.alloc hsz _⟩
set_option maxRecDepth 100000 in
set_option maxHeartbeats 4000000 in
theorem Build_ok (v : Value) (l : List DocL) (w : World) (hv : Docs w v l) (h : ¬ (l.length < 1 ∨ 500 < l.length)) (hok : docsOk l) (hT : Tabs w) (hSp : Spans w) :
    Calls Tryz.prog 47 #[v] w fun e w' => e = .returned (.tuple #[.string ⟨(segE l (idxS l)).toArray⟩, .int .i64 0]) ∧ Q w w' := by
  have hlen : ∀ d ∈ l, d.1.length ≤ 40 ∧ d.2.length ≤ 2000 := fun d hd => rightB_len (hok.1 d hd)
  have c := gather_any v l w hv (by omega) (fun d hd => by have := hlen d hd; omega) hT
  have hv0 := hv
  obtain ⟨a, cap, rfl, hcell⟩ := hv.value
  have C := Lib.hid c; have HOK := Lib.hid hok; have HV := Lib.hid hv0; have HC := Lib.hid hcell; have HT := Lib.hid hT; have HSP := Lib.hid hSp; have HL := Lib.hid hlen
  clear c hv hv0 hok hcell hT hSp hlen
  go_enter Tryz.func47, Tryz.ntmps47
  go_wp2_with fail
  refine C.out.mono ?_
  rintro e w1 ⟨q1, hg⟩
  obtain ⟨mb, rfl⟩ : ∃ b, e = .returned (.tuple #[.agg #[.slice a l.length cap, .map (some b)], .bool true]) := by
    rcases hg with ⟨h1, b, h2, _⟩ | ⟨h1, _⟩
    · refine ⟨b, ?_⟩
      rw [h2, decide_eq_true HOK.out.2]
    · exact absurd HOK.out.1 h1
  have hb1 := (show Below w.heap.size w w1 from q1)
  have hsz1 := q1.size
  clear hg q1 C
  obtain ⟨wa, hwa⟩ : ∃ wa, w1.alloc (.cells #[.slice a l.length cap, .map (some mb)] 58) = wa := ⟨_, rfl⟩
  have hba : Below w.heap.size w wa := by rw [← hwa]; exact hb1.alloc hsz1 _
  have hbld : Bld (wa.alloc (.cells #[.pointer none, .slice none 0 0] 125)) w.heap.size wa.heap.size none [] := Bld.new wa _ hba.size
  have hbb := hba.alloc hba.size (.cells #[.pointer none, .slice none 0 0] 125)
  have cv := Var_any _ [l.length] ((wa.alloc (.cells #[.pointer none, .slice none 0 0] 125)).alloc (.cells #[.int .u64 (l.length : Nat)] 106)) (Sl.lit _ #[.int .u64 (l.length : Nat)] 106 1 1 rfl) (by simp) (by intro n hn'; simp at hn'; omega)
  rw [show varsE [l.length] = varE l.length by simp [varsE]] at cv
  have hvl := varE_len l.length
  have hasz : wa.heap.size = w1.heap.size + 1 := by rw [← hwa]; simp
  have hbl2 := hbld.alloc (.cells #[.int .u64 (l.length : Nat)] 106)
  simp only [World.size_alloc, hasz] at cv hbl2
  have CV := Lib.hid cv; have HB := Lib.hid (hbb.alloc hbb.size (.cells #[.int .u64 (l.length : Nat)] 106)); have HBL := Lib.hid hbl2; have HWA := Lib.hid hwa
  clear cv hbb hbld hba hb1 hwa hbl2
  go_wp2_with fail
  rw [HWA.out]
  refine CV.out.mono ?_
  rintro e w2 ⟨rfl, q2⟩
  have hb2 := HB.out.trans (Below.mono q2 HB.out.size)
  have hbl2 := HBL.out.q q2
  have cw := WriteString_any w.heap.size (w1.heap.size + 1) none [] (magicL ++ varE l.length) w2 hbl2 (by simp [magicL]; omega) hb2.size
  have CW := Lib.hid cw; have HB2 := Lib.hid hb2; have HBL2 := Lib.hid hbl2
  clear cw hb2 hbl2 q2 HB HBL CV
  go_wp2_with fail
  rw [show ({ data := #[67, 68, 88, 71] } : ByteArray) ++ ⟨(varE l.length).toArray⟩ = ⟨(magicL ++ varE l.length).toArray⟩ from bytes_append magicL (varE l.length)]
  refine CW.out.mono ?_
  rintro e w3 ⟨rfl, hs3, r3, hbl3, _⟩
  have hb3 := HB2.out.trans (HBL2.out.below hs3 HB2.out.size)
  have HB3 := Lib.hid hb3; have HBL3 := Lib.hid hbl3
  clear hb3 hbl3 hs3 CW HB2 HBL2
  go_wp2_with fail
  go_loopw [33] (fun i wr => ∃ k : Nat, i = .int .i64 (k : Nat) ∧ k ≤ l.length ∧ Hid (∃ r, Bld wr w.heap.size (w1.heap.size + 1) r (magicL ++ (varE l.length ++ docsE (l.take k)))) ∧ Hid (Below w.heap.size w wr)) (fun i _ => l.length - (intOf i).toNat)
  case atStart => exact ⟨0, rfl, by omega, ⟨r3, by simpa [docsE] using HBL3.out⟩, HB3⟩
  case round =>
    obtain ⟨k, rfl, hk, HBK, HB⟩ := hrel
    obtain ⟨wo, rfl⟩ : ∃ wo : World, wo = wr := ⟨_, rfl⟩
    have hszo := HB.out.size
    by_cases hlt : k < l.length
    · obtain ⟨b, off, rfl, hc⟩ := HC.out (by omega)
      obtain ⟨hc1, hc2⟩ := hc k hlt
      have hw1 := cell_stays HB.out hc1
      have hw2 := cell_stays HB.out hc2
      have hdl := HL.out _ (List.getElem_mem hlt)
      have hdt := docsE_take l k hlt
      have hde := docsE_len (l.take k) (fun d hd => HL.out d (List.mem_of_mem_take hd))
      rw [List.length_take] at hde
      have HDT := Lib.hid hdt
      clear hc hc1 hc2 hdt
      generalize l[k] = d at *
      obtain ⟨id, tx⟩ := d
      simp only at hw1 hw2 hdl HDT
      have hxx := heap_alloc_new wo (.cells #[.string ⟨id.toArray⟩, .string ⟨tx.toArray⟩] 49)
      obtain ⟨cx0, cx1⟩ := cells2 hxx
      have hb1 := HB.out.alloc hszo (.cells #[.string ⟨id.toArray⟩, .string ⟨tx.toArray⟩] 49)
      have ct := Text_any _ [id, tx] ((wo.alloc (.cells #[.string ⟨id.toArray⟩, .string ⟨tx.toArray⟩] 49)).alloc (.cells #[.string ⟨id.toArray⟩, .string ⟨tx.toArray⟩] 9)) (Strs.pair _ id tx 9) (by simp) (by intro p hp; simp at hp; rcases hp with rfl | rfl <;> omega)
      rw [show textsE [id, tx] = textE id ++ textE tx by simp [textsE]] at ct
      simp only [World.size_alloc] at ct
      have ht1 := textE_len id
      have ht2 := textE_len tx
      obtain ⟨r, hbk⟩ := HBK.out
      have CT := Lib.hid ct; have HBT := Lib.hid ((hbk.alloc (.cells #[.string ⟨id.toArray⟩, .string ⟨tx.toArray⟩] 49)).alloc (.cells #[.string ⟨id.toArray⟩, .string ⟨tx.toArray⟩] 9)); have HB1 := Lib.hid (hb1.alloc hb1.size (.cells #[.string ⟨id.toArray⟩, .string ⟨tx.toArray⟩] 9))
      clear ct hbk hb1 hxx HBK HB
      go_wp2_with fail
      refine CT.out.mono ?_
      rintro e w4 ⟨rfl, q4⟩
      have hb4 := HB1.out.trans (Below.mono q4 HB1.out.size)
      have hbl4 := HBT.out.q q4
      have cw := WriteString_any w.heap.size (w1.heap.size + 1) r _ (textE id ++ textE tx) w4 hbl4 (by simp only [List.length_append, magicL, List.length_cons, List.length_nil]; omega) hb4.size
      have CW := Lib.hid cw; have HB4 := Lib.hid hb4; have HBL4 := Lib.hid hbl4
      clear cw hb4 hbl4 q4 HB1 HBT CT cx0 cx1
      go_wp2_with fail
      refine CW.out.mono ?_
      rintro e w5 ⟨rfl, hs5, r5, hbl5, _⟩
      have hb5 := HB4.out.trans (HBL4.out.below hs5 HB4.out.size)
      rw [List.append_assoc, List.append_assoc, ← HDT.out] at hbl5
      have HB5 := Lib.hid hb5; have HBL5 := Lib.hid hbl5
      clear hb5 hbl5 hs5 CW HB4 HBL4
      go_wp2_with fail
      go_roundw
      case rel => exact ⟨k + 1, by go_num, by omega, ⟨r5, HBL5.out⟩, HB5⟩
      case measure => simp [intOf]; omega
    · have hke : k = l.length := by omega
      subst hke
      rw [List.take_length] at HBK
      have hde := docsE_len l HL.out
      have hdi := dictL_len ((sortL ((ixAll l).map (·.1))).map (entS (ixAll l)))
      have ci := Index_any _ l wo (HV.out.stays HB.out) (by omega) (fun d hd => (HL.out d hd).2) (HT.out.stays HB.out) (HSP.out.stays HB.out)
      rw [show dictL ((sortL ((ixAll l).map (·.1))).map (entS (ixAll l))) = idxS l from rfl] at hdi
      have hseg : segE l (idxS l) = (magicL ++ (varE l.length ++ docsE l)) ++ textE (idxS l) ++ fixedL (crcL ((magicL ++ (varE l.length ++ docsE l)) ++ textE (idxS l))) := by simp [segE, segBody]
      have hml : (magicL ++ (varE l.length ++ docsE l)).length ≤ 2000000 := by simp only [List.length_append, magicL, List.length_cons, List.length_nil]; omega
      have hmn : magicL ++ (varE l.length ++ docsE l) ≠ [] := by simp [magicL]
      obtain ⟨r, hbk⟩ := HBK.out
      have CI := Lib.hid ci; have HSEG := Lib.hid hseg; have HBL := Lib.hid hbk; have HMN := Lib.hid hmn
      clear ci hseg hbk HBK hmn
      generalize magicL ++ (varE l.length ++ docsE l) = pre at *
      generalize hdxe : idxS l = dx at *
      have HDX := Lib.hid hdxe; clear hdxe
      go_wp2_with fail
      refine CI.out.mono ?_
      rintro e w4 ⟨rfl, q4⟩
      have hb4 := HB.out.trans (Below.mono q4 hszo)
      have hbl4 := HBL.out.q q4
      have ct := Text_gen 5000000000000 _ [dx] (w4.alloc (.cells #[.string ⟨dx.toArray⟩] 9)) (Strs.lit1 w4 dx 9) (by simp) (by intro p hp; rw [List.mem_singleton] at hp; subst hp; omega)
      rw [show textsE [dx] = textE dx by simp [textsE]] at ct
      have htl := textE_len dx
      have CT := Lib.hid ct; have HB4 := Lib.hid (hb4.alloc hb4.size (.cells #[.string ⟨dx.toArray⟩] 9)); have HBL4 := Lib.hid (hbl4.alloc (.cells #[.string ⟨dx.toArray⟩] 9))
      clear ct hb4 hbl4 q4 CI HBL HB
      go_wp2_with fail
      refine CT.out.mono ?_
      rintro e w5 ⟨rfl, q5⟩
      have hb5 := HB4.out.trans (Below.mono q5 HB4.out.size)
      have hbl5 := HBL4.out.q q5
      have cw := WriteString_any w.heap.size (w1.heap.size + 1) r pre (textE dx) w5 hbl5 (by omega) hb5.size
      have CW := Lib.hid cw; have HB5 := Lib.hid hb5; have HBL5 := Lib.hid hbl5
      clear cw hb5 hbl5 q5 CT HB4 HBL4
      go_wp2_with fail
      refine CW.out.mono ?_
      rintro e w6 ⟨rfl, hs6, r6, hbl6, _⟩
      have hb6 := HB5.out.trans (HBL5.out.below hs6 HB5.out.size)
      have hbn : pre ++ textE dx ≠ [] := by intro e; exact HMN.out (List.append_eq_nil_iff.1 e).1
      have hbdl : (pre ++ textE dx).length ≤ 5000000000000 := by rw [List.length_append]; omega
      have HB6 := Lib.hid hb6
      clear hs6 hb6 CW HB5 HBL5
      generalize pre ++ textE dx = body at *
      have cs := String_some w.heap.size (w1.heap.size + 1) r6 body w6 hbl6 hbn
      have CS := Lib.hid cs; have HBL6 := Lib.hid hbl6
      clear cs hbl6
      go_wp2_with fail
      refine CS.out.mono ?_
      rintro e w7 ⟨rfl, hs7, hbl7⟩
      have hb7 := HB6.out.trans (HBL6.out.below hs7 HB6.out.size)
      have cs := String_some w.heap.size (w1.heap.size + 1) r6 body w7 hbl7 hbn
      have CS2 := Lib.hid cs; have HBL7 := Lib.hid hbl7; have HB7 := Lib.hid hb7
      clear cs hbl7 hb7 hs7 CS HB6 HBL6
      go_wp2_with fail
      refine CS2.out.mono ?_
      rintro e w8 ⟨rfl, hs8, hbl8⟩
      have hb8 := HB7.out.trans (HBL7.out.below hs8 HB7.out.size)
      have cc := Crc_any _ [body] (w8.alloc (.cells #[.string ⟨body.toArray⟩] 9)) (Strs.lit1 w8 body 9) (by simp) (by intro p hp; rw [List.mem_singleton] at hp; subst hp; omega)
      rw [show [body].flatten = body by simp] at cc
      have cf := Fixed_any (crcL body) (w8.alloc (.cells #[.string ⟨body.toArray⟩] 9)) (crcL_lt body)
      have hfl := length_fixedL (crcL body)
      have CC := Lib.hid cc; have CF := Lib.hid cf; have HB8 := Lib.hid (hb8.alloc hb8.size (.cells #[.string ⟨body.toArray⟩] 9))
      clear cc cf hb8 hbl8 hs8 CS2 HB7 HBL7
      generalize fixedL (crcL body) = fx at *
      generalize crcL body = cr at *
      go_wp2_with fail
      refine CC.out.mono ?_
      rintro e w9 ⟨rfl, rfl⟩
      go_wp2_with fail
      refine CF.out.mono ?_
      rintro e w9 ⟨rfl, q9⟩
      have hb9 := HB8.out.trans (Below.mono q9 HB8.out.size)
      have HB9 := Lib.hid hb9
      clear hb9 q9 CF CC HB8
      go_wp2_with fail
      go_ret2
      exact ⟨ret_str_int (by rw [bytes_append, HDX.out, HSEG.out]), HB9.out⟩
open Classical in
theorem Build_any (v : Value) (l : List DocL) (w : World) (hv : Docs w v l) (hn : l.length ≤ 9223372036854775807) (hl : ∀ d ∈ l, d.1.length ≤ 9223372036854775807 ∧ d.2.length ≤ 9223372036854775807) (hT : Tabs w) (hSp : Spans w) :
    Calls Tryz.prog 47 #[v] w fun e w' => e = .returned (.tuple #[.string ⟨(buildS l).1.toArray⟩, .int .i64 (buildS l).2]) ∧ Q w w' := by
  unfold buildS
  by_cases h : l.length < 1 ∨ 500 < l.length
  · simp only [if_pos h]
    exact Build_many v l w hv h hn
  · simp only [if_neg h]
    by_cases hok : docsOk l
    · simp only [if_pos hok]
      exact Build_ok v l w hv h hok hT hSp
    · simp only [if_neg hok]
      exact Build_bad v l w hv h hok hl hT
end Go.Proofs.YtoabhcfmdkhmgaaGreatDoor
end

/- (Told0) Postings that a call has gathered: how they lie. -/
section
namespace Go.Proofs.YtoabhcfmdkhmgaaGreatDoor
open Go.RowKit
set_option linter.unusedVariables false

/-- postings that a call has gathered: a row of its own, and a row for each one's places -/
def Told (w : World) (base : Nat) (v : Value) (xs : List PostL) : Prop :=
  ∃ rs : List PostR, postsOf rs = xs ∧ w.ownsRow base 144 2 v rs.length (postVs rs) ∧ ∀ r ∈ rs, w.ownsRow base 3 1 r.2.1 r.2.2.length (intVs r.2.2)
theorem Told.stays {w w' : World} {base : Nat} {v : Value} {xs : List PostL} (h : Told w base v xs) (q : Q w w') : Told w' base v xs := by
  obtain ⟨rs, h1, h2, h3⟩ := h
  exact ⟨rs, h1, ownsRow_below h2 q, fun r hr => ownsRow_below (h3 r hr) q⟩
theorem Told.low {w : World} {base base' : Nat} {v : Value} {xs : List PostL} (h : Told w base v xs) (hb : base' ≤ base) : Told w base' v xs := by
  obtain ⟨rs, h1, h2, h3⟩ := h
  exact ⟨rs, h1, owns_low h2 hb, fun r hr => owns_low (h3 r hr) hb⟩
theorem Told.posts {w : World} {base : Nat} {v : Value} {xs : List PostL} (h : Told w base v xs) : ∃ rs : List PostR, postsOf rs = xs ∧ Posts w v rs := by
  obtain ⟨rs, h1, h2, h3⟩ := h
  exact ⟨rs, h1, Sl.of_owns h2, fun r hr => Sl.of_owns (h3 r hr)⟩
theorem Told.nil (w : World) (base : Nat) : Told w base (.slice none 0 0) [] := ⟨[], rfl, World.ownsRow_nil _ _ _ _, by simp⟩
theorem tinfoPo : (Tryz.prog.info? 144).map (fun i => (i.zero, i.size, i.bytes)) = some (some (.agg #[.int .i64 0, .slice none 0 0]), 2, 32) := by kernel_rfl
theorem docs_posts {l : List DocL} (h : l.length ≤ 500) (hok : docsOk l) (t : Bytes) : postsRight (-1) (postsF t l 0) = true :=
  postsF_right t l 0 (by omega) (fun d hd => (rightB_len (hok.1 d hd)).2) (-1) (by omega)
end Go.Proofs.YtoabhcfmdkhmgaaGreatDoor
end

/- (WRef14a) codexref14: Right, Places, Postings: walked. -/
section
namespace Go.Proofs.YtoabhcfmdkhmgaaGreatDoor
open Go.RowKit
set_option linter.unusedVariables false

set_option maxRecDepth 100000 in
set_option maxHeartbeats 4000000 in
theorem RRight14_any (id tx : Bytes) (w : World) (h1 : id.length ≤ 9223372036854775807) (h2 : tx.length ≤ 9223372036854775807) :
    Calls Tryz.prog 52 #[.agg #[strV id, strV tx]] w fun e w' => e = .returned (.bool (rightB id tx)) ∧ Q w w' := by
  have cv1 := fun W => RValid_any id W h1
  have cv2 := fun W => RValid_any tx W h2
  have hrb : rightB id tx = (validL id && validL tx && decide (1 ≤ id.length) && decide (id.length ≤ 40) && decide (tx.length ≤ 2000)) := by
    unfold rightB
    rw [← validL_D _ id (Nat.le_refl _), ← validL_D _ tx (Nat.le_refl _)]
    have : (!id.isEmpty) = decide (1 ≤ id.length) := by cases id <;> simp
    rw [this]
    cases validL id <;> cases validL tx <;> simp
  have hx := heap_alloc_new w (.cells #[strV id, strV tx] 49)
  obtain ⟨x0, x1⟩ := cells2 hx
  have hq0 := Q.alloc w (.cells #[strV id, strV tx] 49)
  generalize validL id = b1 at *
  generalize validL tx = b2 at *
  have CV1 := Lib.hid cv1; have CV2 := Lib.hid cv2; have HRB := Lib.hid hrb; have HX0 := Lib.hid x0; have HX1 := Lib.hid x1; have HQ0 := Lib.hid hq0
  clear cv1 cv2 hrb x0 x1 hx hq0
  go_enter Tryz.func52, Tryz.ntmps52
  go_wp2_with fail
  generalize w.alloc (.cells #[strV id, strV tx] 49) = wb at *
  generalize w.heap.size = B at *
  refine (CV1.out _).mono ?_
  rintro e w1 ⟨rfl, q1⟩
  have HQ1 := Lib.hid q1
  have d0 := cell_stays q1 HX0.out
  have d1 := cell_stays q1 HX1.out
  clear q1
  go_wp2_with fail
  refine (CV2.out _).mono ?_
  rintro e w2 ⟨rfl, q2⟩
  have HQ2 := Lib.hid (HQ1.out.trans q2)
  have e0 := cell_stays q2 d0
  have e1 := cell_stays q2 d1
  clear q2 HQ1 d0 d1
  cases b1 <;> cases b2
  all_goals
    by_cases g1 : 1 ≤ id.length
    all_goals by_cases g2 : id.length ≤ 40
    all_goals by_cases g3 : tx.length ≤ 2000
    all_goals
      first
        | (exfalso; omega)
        | (go_wp2_with fail
           go_ret
           exact ⟨ret_boolR (by rw [HRB.out]; first | (simp [*]; done) | (simp [*]; omega)), HQ0.out.trans HQ2.out⟩)
/-- the tokens of a term among the first k -/
def plTo14 (l : List (Bytes × Nat)) (t : Bytes) (k : Nat) : List Int := (l.take k).filterMap fun x => if x.1 = t then some (x.2 : Int) else none
theorem plTo14_succ (l : List (Bytes × Nat)) (t : Bytes) (k : Nat) (h : k < l.length) : plTo14 l t (k + 1) = plTo14 l t k ++ if l[k].1 = t then [(l[k].2 : Int)] else [] := by
  unfold plTo14
  rw [List.take_succ_eq_append_getElem h, List.filterMap_append]
  by_cases he : l[k].1 = t
  · simp [he]
  · simp [he]
theorem plTo14_len (l : List (Bytes × Nat)) (t : Bytes) (k : Nat) : (plTo14 l t k).length ≤ k := by
  unfold plTo14
  have := List.length_filterMap_le (fun x : Bytes × Nat => if x.1 = t then some (x.2 : Int) else none) (l.take k)
  rw [List.length_take] at this
  omega
set_option maxRecDepth 100000 in
set_option maxHeartbeats 4000000 in
theorem RPlaces_any (s t : Bytes) (w : World) (hs : s.length ≤ 100000000) :
    Calls Tryz.prog 80 #[strV s, strV t] w fun e w' => ∃ v, e = .returned v ∧ w'.ownsRow w.heap.size 3 1 v (placesIn s t).length (intVs (placesIn s t)) ∧ Q w w' := by
  obtain ⟨i0, hi, hz0, hz1, hz2⟩ := info_parts tinfoInt
  have ct := RTokens_any s w hs
  have htl : (tokensL s).length ≤ s.length + 1 := by
    have := tokensF_len (wordsL s) 0
    have := (wordsL_len s).1
    unfold tokensL; omega
  have hpl : placesIn s t = plTo14 (tokensL s) t (tokensL s).length := by unfold plTo14 placesIn; rw [List.take_length]
  rw [hpl]
  clear hpl
  generalize tokensL s = l at *
  have CT := Lib.hid ct
  clear ct
  go_enter Tryz.func80, Tryz.ntmps80
  go_wp2_with fail
  refine CT.out.mono ?_
  rintro e w1 ⟨v1, rfl, ho1, q1⟩
  have htoks : Toks w1 v1 l := Sl.of_owns ho1
  obtain ⟨a, cap, rfl, hc⟩ := htoks.value
  have HC := Lib.hid hc; have HQ1 := Lib.hid q1
  have hsz1 : w.heap.size ≤ w1.heap.size := q1.size
  clear ho1 htoks hc q1 CT
  go_wp2_with fail
  go_loopw [5, 7] (fun ov i wr => ∃ (k : Nat) (o : List Int), k ≤ l.length ∧ i = .int .i64 (k : Nat) ∧ o.length ≤ k ∧ Hid (o = plTo14 l t k) ∧ Hid (wr.ownsRow w1.heap.size 3 1 ov o.length (intVs o)) ∧ Hid (Q w1 wr)) (fun _ i _ => l.length - (intOf i).toNat)
  case atStart => exact ⟨0, [], by omega, rfl, by simp, rfl, World.ownsRow_nil _ _ _ _, Q.refl _⟩
  case round =>
    obtain ⟨k, o, hk, rfl, hol, HOE, HO, HQ⟩ := hrel
    obtain ⟨wo, rfl⟩ : ∃ wo : World, wo = wr := ⟨_, rfl⟩
    by_cases hlt : k < l.length
    · obtain ⟨b, of, rfl, hcc⟩ := HC.out (by omega)
      obtain ⟨z0, z1⟩ := hcc k hlt
      have c0 := cell_stays HQ.out z0
      have c1 := cell_stays HQ.out z1
      have hki : (k : Int) < (l.length : Int) := by omega
      have hk0 : (0 : Int) ≤ (k : Int) := by omega
      have hsu := plTo14_succ l t k hlt
      rw [← HOE.out] at hsu
      have hsz : w1.heap.size ≤ wo.heap.size := HQ.out.size
      clear z0 z1 hcc
      generalize l[k] = x at *
      obtain ⟨u, p⟩ := x
      simp only at c0 c1 hsu
      by_cases he : u = t
      · rw [if_pos he] at hsu
        have HSU := Lib.hid hsu
        clear hsu
        subst he
        have ho := HO.out
        go_wp2_with (at_builtin; go_must (refine wpList_app wo (by rfl) _ _ 141 (by rfl) w1.heap.size 3 _ i0 (.int .i64 0) 1 8 Tryz.underlying141 hi hz0 hz1 hz2 rfl (by decide) (by decide) _ _ _ (by rfl) ho #[.int .i64 (p : Nat)] (by simp [Act.eval]) rfl ?c1 ?c2 hsz ?_))
        case c1 => simp [Value.oneCell']
        case c2 => omega
        intro g6 cap6 w6 hown6 hg6 hat6 hlt6 hsz6
        have q6 : Q w1 w6 := grown_below HQ.out ho hg6 (Nat.le_refl _) (by omega)
        have hown6 : w6.ownsRow w1.heap.size 3 1 (.slice (some ⟨g6, 0, none⟩) (o.length + 1) cap6) (o.length + 1) (intVs (o ++ [(p : Int)])) := by simpa [intVs] using hown6
        have HO6 := Lib.hid hown6; have HQ6 := Lib.hid q6
        clear hown6 q6 hg6 hat6 ho
        go_wp2_with fail
        go_roundw
        case rel => exact ⟨k + 1, o ++ [(p : Int)], by omega, by go_num, by simp; omega, HSU.out.symm, by show World.ownsRow _ _ _ _ _ _ _; simpa using HO6.out, HQ6⟩
        case measure => simp [intOf]; omega
      · rw [if_neg he, List.append_nil] at hsu
        have heb1 : (u == t) = false := by simpa using he
        have heb2 : @BEq.beq (List UInt8) instBEqOfDecidableEq u t = false := by simpa using he
        have heb3 : @BEq.beq (List UInt8) List.instBEq u t = false := by simpa using he
        have HSU := Lib.hid hsu
        clear he hsu
        go_wp2_with fail
        go_roundw
        case rel => exact ⟨k + 1, o, by omega, by go_num, by omega, HSU.out.symm, HO, HQ⟩
        case measure => simp [intOf]; omega
    · have hke : k = l.length := by omega
      subst hke
      have hoe := HOE.out
      go_wp2_with fail
      go_ret
      exact ⟨_, rfl, by rw [← HOE.out]; exact owns_low HO.out hsz1, HQ1.out.trans HQ.out⟩
end Go.Proofs.YtoabhcfmdkhmgaaGreatDoor
end

/- (WRef14b) codexref14: Postings: walked. -/
section
namespace Go.Proofs.YtoabhcfmdkhmgaaGreatDoor
open Go.RowKit
set_option linter.unusedVariables false

theorem postsF_end (t : Bytes) (a : List DocL) (d : DocL) (i : Nat) : postsF t (a ++ [d]) i = postsF t a i ++ if placesIn d.2 t = [] then [] else [(((i + a.length : Nat) : Int), placesIn d.2 t)] := by
  induction a generalizing i with
  | nil => simp [postsF]
  | cons x a ih =>
    rw [List.cons_append, postsF, postsF, ih (i + 1), List.length_cons, show i + 1 + a.length = i + (a.length + 1) by omega]
    split <;> simp
theorem postsF_take (t : Bytes) (l : List DocL) (k : Nat) (h : k < l.length) : postsF t (l.take (k + 1)) 0 = postsF t (l.take k) 0 ++ if placesIn l[k].2 t = [] then [] else [((k : Int), placesIn l[k].2 t)] := by
  rw [List.take_succ_eq_append_getElem h, postsF_end, List.length_take, Nat.min_eq_left (by omega), Nat.zero_add]
set_option maxRecDepth 100000 in
set_option maxHeartbeats 4000000 in
theorem RPostings_any (v : Value) (l : List DocL) (t : Bytes) (w : World) (hv : Docs w v l) (hn : l.length ≤ 1000000) (hl : ∀ d ∈ l, d.2.length ≤ 100000000) :
    Calls Tryz.prog 56 #[v, strV t] w fun e w' => ∃ v', e = .returned v' ∧ Told w' w.heap.size v' (postsF t l 0) ∧ Q w w' := by
  obtain ⟨a, cap, rfl, hcell⟩ := hv.value
  obtain ⟨i0, hi, hz0, hz1, hz2⟩ := info_parts tinfoPo
  have HC := Lib.hid hcell; have HL := Lib.hid hl
  clear hcell hv hl
  go_enter Tryz.func56, Tryz.ntmps56
  go_wp2_with fail
  go_loopw [5, 6, 7] (fun ov i _ wr => ∃ (k : Nat) (rs : List PostR), k ≤ l.length ∧ i = .int .i64 (k : Nat) ∧ rs.length ≤ k ∧ Hid (postsOf rs = postsF t (l.take k) 0) ∧ Hid (wr.ownsRow w.heap.size 144 2 ov rs.length (postVs rs)) ∧ Hid (∀ r ∈ rs, wr.ownsRow w.heap.size 3 1 r.2.1 r.2.2.length (intVs r.2.2)) ∧ Hid (Q w wr)) (fun _ i _ _ => l.length - (intOf i).toNat)
  case atStart => exact ⟨0, [], by omega, rfl, by simp, rfl, World.ownsRow_nil _ _ _ _, fun r hr => by simp at hr, Q.refl _⟩
  case round =>
    obtain ⟨k, rs, hk, rfl, hrl, HRS, HO, HR, HQ⟩ := hrel
    obtain ⟨wo, rfl⟩ : ∃ wo : World, wo = wr := ⟨_, rfl⟩
    by_cases hlt : k < l.length
    · obtain ⟨b, of, rfl, hcc⟩ := HC.out (by omega)
      have c1 := cell_stays HQ.out (hcc k hlt).2
      have hki : (k : Int) < (l.length : Int) := by omega
      have hk0 : (0 : Int) ≤ (k : Int) := by omega
      have hst := postsF_take t l k hlt
      rw [← HRS.out] at hst
      have hxl := HL.out _ (List.getElem_mem hlt)
      have cp := fun W => RPlaces_any l[k].2 t W (by omega)
      have hpb : (placesIn l[k].2 t).length ≤ 1000000000 := by
        have h1 : (placesIn l[k].2 t).length ≤ (tokensL l[k].2).length := List.length_filterMap_le _ _
        have h2 := tokensF_len (wordsL l[k].2) 0
        have h3 := (wordsL_len l[k].2).1
        unfold tokensL at h1; omega
      clear hcc
      generalize placesIn l[k].2 t = ps at *
      generalize l[k].2 = x at *
      have CP := Lib.hid cp; have HST := Lib.hid hst
      clear cp hst
      go_wp2_with fail
      refine (CP.out _).mono ?_
      rintro e w1 ⟨v1, rfl, ho1, q1⟩
      obtain ⟨pa, pcap, rfl, _⟩ := owns_value ho1
      have hp1 := owns_low ho1 HQ.out.size
      have ho2 := ownsRow_below HO.out q1
      have hr2 : ∀ r ∈ rs, w1.ownsRow w.heap.size 3 1 r.2.1 r.2.2.length (intVs r.2.2) := fun r hr => ownsRow_below (HR.out r hr) q1
      have HQ1 := Lib.hid (HQ.out.trans q1); have HP1 := Lib.hid hp1; have HR2 := Lib.hid hr2
      have hsz : w.heap.size ≤ w1.heap.size := HQ1.out.size
      clear ho1 hp1 hr2 q1 CP HQ HO HR
      by_cases hps : ps = []
      · have hst := HST.out
        rw [if_pos hps, List.append_nil] at hst
        have HST2 := Lib.hid hst; have HO2 := Lib.hid ho2
        have hp0 : ¬ (0 : Int) < (ps.length : Int) := by rw [hps]; simp
        clear hst hps ho2
        go_wp2_with fail
        go_roundw
        case rel => exact ⟨k + 1, rs, by omega, by go_num, by omega, HST2.out.symm, HO2, HR2, HQ1⟩
        case measure => simp [intOf]; omega
      · have hst := HST.out
        rw [if_neg hps] at hst
        have hst2 : postsOf (rs ++ [((k : Int), Value.slice pa ps.length pcap, ps)]) = postsF t (l.take (k + 1)) 0 := by rw [hst]; simp [postsOf, postOf]
        have HST2 := Lib.hid hst2
        have hp0 : (0 : Int) < (ps.length : Int) := by have := List.length_pos_iff.2 hps; omega
        clear hst hst2 hps
        go_wp2_with (at_builtin; go_must (refine wpList_app w1 (by rfl) _ _ 111 (by rfl) w.heap.size 144 _ i0 (.agg #[.int .i64 0, .slice none 0 0]) 2 32 Tryz.underlying111 hi hz0 hz1 hz2 rfl (by decide) (by decide) _ _ _ (by rfl) ho2 #[.int .i64 (k : Nat), .slice pa ps.length pcap] (by simp [Act.eval]) rfl ?c1 ?c2 hsz ?_))
        case c1 => simp [Value.oneCell']
        case c2 => omega
        intro g6 cap6 w6 hown6 hg6 hat6 hlt6 hsz6
        have q6 : Q w w6 := grown_below HQ1.out ho2 hg6 (Nat.le_refl _) (by omega)
        have r6 : ∀ r ∈ rs ++ [((k : Int), Value.slice pa ps.length pcap, ps)], w6.ownsRow w.heap.size 3 1 r.2.1 r.2.2.length (intVs r.2.2) := fun r hr => by
          rcases List.mem_append.1 hr with hr | hr
          · exact row_beside (HR2.out r hr) ho2 hg6 (by decide)
          · rw [List.mem_singleton] at hr
            subst hr
            exact row_beside HP1.out ho2 hg6 (by decide)
        have hown6 : w6.ownsRow w.heap.size 144 2 (.slice (some ⟨g6, 0, none⟩) (rs.length + 1) cap6) (rs.length + 1) (postVs (rs ++ [((k : Int), Value.slice pa ps.length pcap, ps)])) := by
          have e : postVs (rs ++ [((k : Int), Value.slice pa ps.length pcap, ps)]) = postVs rs ++ [.int .i64 (k : Int), .slice pa ps.length pcap] := by simp [postVs]
          rw [e]; simpa using hown6
        have HO6 := Lib.hid hown6; have HQ6 := Lib.hid q6; have HR6 := Lib.hid r6
        clear hown6 q6 hg6 hat6 ho2 r6
        go_wp2_with fail
        go_roundw
        case rel => exact ⟨k + 1, rs ++ [((k : Int), Value.slice pa ps.length pcap, ps)], by omega, by go_num, by simp; omega, HST2.out, by show World.ownsRow _ _ _ _ _ _ _; rw [List.length_append]; exact HO6.out, HR6, HQ6⟩
        case measure => simp [intOf]; omega
    · have hke : k = l.length := by omega
      subst hke
      go_wp2_with fail
      go_ret
      exact ⟨_, rfl, ⟨rs, by rw [HRS.out, List.take_length], HO.out, HR.out⟩, HQ.out⟩
end Go.Proofs.YtoabhcfmdkhmgaaGreatDoor
end
