/- Joined texts of one proof: WDictG, WDictX. -/
import Derived.Test.YtcflpcpkmhljkaaGreatDoorMOwnToWDictI
import Derived.Test.YtcflpcpkmhljkaaGreatDoorMRangeToWKind
import Derived.Test.YtcflpcpkmhljkaaGreatDoorMTokToWDictR
set_option linter.unusedSimpArgs false
set_option linter.unusedVariables false
set_option linter.unnecessarySimpa false
/- (WDictG) dict.from, Get, Prefix: walked, at a dictionary's bytes. -/
section
namespace Go.Proofs.YtcflpcpkmhljkaaGreatDoor
open Go.RowKit
set_option linter.unusedVariables false

theorem dpartVs_at (ps : List PartD) (k : Nat) (h : k < ps.length) : (dpartVs ps)[k * 3]? = some (strV ps[k].1) ∧ (dpartVs ps)[k * 3 + 1]? = some (strV ps[k].2.1) ∧ (dpartVs ps)[k * 3 + 2]? = some (.int .i64 ps[k].2.2) := by
  induction ps generalizing k with
  | nil => simp at h
  | cons d l ih =>
    have e : dpartVs (d :: l) = strV d.1 :: strV d.2.1 :: .int .i64 d.2.2 :: dpartVs l := rfl
    cases k with
    | zero => rw [e]; exact ⟨rfl, rfl, rfl⟩
    | succ k =>
      have := ih k (by simpa using h)
      rw [e, show (k + 1) * 3 = k * 3 + 1 + 1 + 1 by omega]
      exact this
theorem greater_eq (x t : Bytes) : (!Op.bytesLess x t && !x == t) = lessL t x := by
  rw [lessL_eq]
  cases h : lessL x t with
  | true => rw [(lessL_not _ _ h).1]; rfl
  | false =>
    rcases lessL_or _ _ h with h1 | h1
    · have := (lessL_not _ _ h1).2
      rw [h1, beq_eq_false_iff_ne.2 this]; rfl
    · subst h1
      rw [h]; simp
/-- the test of dict.from's search -/
theorem from1_any (ps : List PartD) (t : Bytes) (i BL BT : Nat) (g cap : Nat) (w : World) (hi : i < ps.length) (hL : w.cell? ⟨BL, 0, none⟩ = some (.slice (some ⟨g, 0, none⟩) ps.length cap)) (hT : w.cell? ⟨BT, 0, none⟩ = some (strV t))
    (ho : Sl w (.slice (some ⟨g, 0, none⟩) ps.length cap) ps.length 3 (dpartVs ps)) :
    Calls Tryz.prog 215 #[.int .i64 i, .pointer (some ⟨BL, 0, none⟩), .pointer (some ⟨BT, 0, none⟩)] w fun e w' => e = .returned (.bool (lessL t ps[i].1)) ∧ Q w w' := by
  obtain ⟨_, a, c, e, h3⟩ := ho
  cases e
  obtain ⟨b, off, e2, h5⟩ := h3 (by omega)
  cases e2
  have hc := h5 _ _ (dpartVs_at ps i hi).1
  rw [Nat.zero_add] at hc
  have hb : (!Op.bytesLess ps[i].1 t && !ps[i].1 == t) = lessL t ps[i].1 := greater_eq _ _
  generalize ps[i].1 = x at *
  clear h3 h5
  have hi2 : (i : Int) < ps.length := by omega
  go_enter Tryz.func215, Tryz.ntmps215
  go_wp2_with fail
  go_quiet (fail)
  go_wp2_with fail
  go_ret
  exact ⟨rfl, Q.drewN _ _⟩
/-- a slice from an element on -/
theorem Sl.from_ {w : World} {n size : Nat} {xs : List Value} {a : Option Addr} {cap j : Nat} (h : Sl w (.slice a n cap) n size xs) (hj : j ≤ n) : ∀ (g off : Nat), a = some ⟨g, off, none⟩ → Sl w (.slice (some ⟨g, off + j * size, none⟩) (n - j) (cap - j)) (n - j) size (xs.drop (j * size)) := by
  intro g off ha
  obtain ⟨h1, a', c', e, h3⟩ := h
  cases e
  subst ha
  refine ⟨by rw [List.length_drop, h1, Nat.sub_mul], _, _, rfl, fun hn => ⟨g, off + j * size, rfl, fun i u hi => ?_⟩⟩
  obtain ⟨b, o, e, h5⟩ := h3 (by omega)
  cases e
  rw [List.getElem?_drop] at hi
  rw [Nat.add_assoc]
  exact h5 _ _ hi
theorem dpartVs_drop (ps : List PartD) (j : Nat) : (dpartVs ps).drop (j * 3) = dpartVs (ps.drop j) := by
  induction ps generalizing j with
  | nil => simp [dpartVs]
  | cons d l ih =>
    cases j with
    | zero => simp
    | succ j =>
      have e : dpartVs (d :: l) = strV d.1 :: strV d.2.1 :: .int .i64 d.2.2 :: dpartVs l := rfl
      rw [e, show (j + 1) * 3 = j * 3 + 1 + 1 + 1 by omega, List.drop_succ_cons, List.drop_succ_cons, List.drop_succ_cons, List.drop_succ_cons, ih]
theorem partsD_heads (l : List EntryL) (t : Bytes) : (partsD l).findIdx (fun p => lessL t p.1) = (groupsD l).findIdx (fun g => lessL t (headT g)) := by
  unfold partsD
  rw [List.findIdx_map]
  rfl
theorem findIdx_of {α : Type} (p : α → Bool) (l : List α) (d : α) (i : Nat) (hi : i ≤ l.length) (h1 : ∀ t, t < i → p (l.getD t d) = false) (h2 : ∀ t, i ≤ t → t < l.length → p (l.getD t d) = true) : l.findIdx p = i := by
  rcases Nat.lt_trichotomy (l.findIdx p) i with h | h | h
  · have := List.findIdx_getElem (p := p) (xs := l) (w := by omega)
    have h3 := h1 _ h
    rw [List.getD_eq_getElem?_getD, List.getElem?_eq_getElem (by omega)] at h3
    rw [Option.getD_some] at h3
    rw [h3] at this; cases this
  · exact h
  · have hil : i < l.length := Nat.lt_of_lt_of_le h List.findIdx_le_length
    have h3 := List.not_of_lt_findIdx h
    have h4 := h2 i (Nat.le_refl _) hil
    rw [List.getD_eq_getElem?_getD, List.getElem?_eq_getElem hil, Option.getD_some] at h4
    rw [h4] at h3; cases h3
theorem field_parts (a : Option Addr) (n cap : Nat) (s : ByteArray) (b : Bool) (w : World) : (Instr.field 298 (.agg #[.slice a n cap, .string s, .bool b]) 0).run Tryz.prog w = .ok (.slice a n cap) w := by
  kernel_rfl
set_option maxRecDepth 100000 in
set_option maxHeartbeats 1000000 in
theorem DFrom_ok (l : List EntryL) (t : Bytes) (w : World) (hn : l.length ≤ 1048576) (hu : (l.map (·.1)).Pairwise (· < ·)) (hps : ∀ p ∈ partsD l, p.1.length ≤ 1000000 ∧ p.2.1.length ≤ 1073741824) (hb : (dictE l).length ≤ 9223372036854775807) :
    Calls Tryz.prog 185 #[.string ⟨(dictE l).toArray⟩, strV t] w fun e w' => ∃ v, e = .returned v ∧ Sl w' v ((partsD l).drop (fromJ (groupsD l) t)).length 3 (dpartVs ((partsD l).drop (fromJ (groupsD l) t))) ∧ Q w w' := by
  have c := fun w => DParts_ok l w hn hps hb
  have hg := (grps_of l hu)
  have hfi := partsD_heads l t
  have hmono : ∀ a b, a ≤ b → b < (partsD l).length → lessL t ((partsD l).getD a ([], [], 0)).1 = true → lessL t ((partsD l).getD b ([], [], 0)).1 = true := by
    intro a b hab hb h
    have hf := hg.firsts
    have hlen : (partsD l).length = (groupsD l).length := by unfold partsD; rw [List.length_map]
    have hat : ∀ k, (hk : k < (partsD l).length) → ((partsD l).getD k ([], [], 0)).1 = ((groupsD l).map headT)[k]'(by rw [List.length_map]; omega) := by
      intro k hk
      have h1 : (partsD l)[k]? = ((groupsD l)[k]?).map partD := List.getElem?_map
      rw [List.getD_eq_getElem?_getD, h1, List.getElem?_eq_getElem (show k < (groupsD l).length by omega), List.getElem_map]
      rfl
    rw [hat a (by omega)] at h
    rw [hat b hb]
    rcases Nat.eq_or_lt_of_le hab with e | e
    · subst e; exact h
    · rw [List.pairwise_iff_getElem] at hf
      exact (lessL_iff _ _).2 (List.lt_trans ((lessL_iff _ _).1 h) (hf _ _ _ _ e))
  have C := Lib.hid c; have HM := Lib.hid hmono; have HFI := Lib.hid hfi
  clear c hmono hfi hps hg
  go_enter Tryz.func185, Tryz.ntmps185
  go_wp2_with fail
  refine (C.out _).mono ?_
  rintro e w1 ⟨v, rfl, ho, q1⟩
  obtain ⟨a, cap, rfl, hsm⟩ : ∃ a cap, v = .slice a (partsD l).length cap ∧ (a = none ∧ (partsD l).length = 0 ∧ cap = 0 ∨ (∃ g, a = some ⟨g, 0, none⟩ ∧ (partsD l).length ≤ cap)) := by
    rcases ho.2 with ⟨rfl, h0⟩ | ⟨g, cap, cur, rfl, _, _, hnc, _⟩
    · exact ⟨none, 0, by rw [h0], .inl ⟨rfl, h0, rfl⟩⟩
    · exact ⟨_, cap, rfl, .inr ⟨g, rfl, hnc⟩⟩
  have ht1 := (Blk.new w 9 #[strV t]).stays q1
  have q1' := (Q.alloc w _).trans q1
  have hN : w.heap.size < w1.heap.size := by have := q1.size; simp at this; omega
  have hc0 : w1.cell? ⟨w.heap.size, 0, none⟩ = some (strV t) := ht1.cell 0 _ rfl
  have hfd : ∀ W, (Instr.field 298 (.agg #[.slice a (partsD l).length cap, strV [], .bool true]) 0).run Tryz.prog W = .ok (.slice a (partsD l).length cap) W := fun W => field_parts a (partsD l).length cap _ true W
  have hsl := Sl.of_owns ho
  have hbl := Blk.new w1 269 #[.slice a (partsD l).length cap]
  have hbt := ht1.alloc (.cells #[.slice a (partsD l).length cap] 269)
  have hq2 := Q.alloc w1 (.cells #[.slice a (partsD l).length cap] 269)
  have hpl := partsD_length l
  have cs := Search_any 215 #[.pointer (some ⟨w1.heap.size, 0, none⟩), .pointer (some ⟨w.heap.size, 0, none⟩)] (partsD l).length (fun i => lessL t ((partsD l).getD i ([], [], 0)).1) (w1.alloc (.cells #[.slice a (partsD l).length cap] 269)) (enters_of Tryz.func215 (by kernel_rfl) rfl) (by omega)
    (fun i hi W hq => by
      rcases hsm with ⟨_, h0, _⟩ | ⟨g, rfl, _⟩
      · omega
      · have := from1_any (partsD l) t i w1.heap.size w.heap.size g cap W hi ((hbl.stays hq).cell 0 _ rfl) ((hbt.stays hq).cell 0 _ rfl) ((hsl.stays hq2).stays hq)
        rw [List.getD_eq_getElem?_getD, List.getElem?_eq_getElem hi, Option.getD_some]
        exact this)
    HM.out
  have HSL := Lib.hid (hsl.stays hq2); have HQ2 := Lib.hid (q1'.trans hq2); have CS := Lib.hid cs; have HBL := Lib.hid hbl
  have hpb : (partsD l).length ≤ 100000 := by omega
  clear ht1 ho q1 q1' hsl hbl hbt hq2 hpl cs
  go_wp2_with fail
  refine CS.out.mono ?_
  rintro e w2 ⟨⟨i, rfl, hi, hlo, hhi⟩, q2⟩
  have hfx := findIdx_of (fun p : PartD => lessL t p.1) (partsD l) ([], [], 0) i hi hlo hhi
  rw [HFI.out] at hfx
  have hj : fromJ (groupsD l) t = i - 1 := by unfold fromJ; rw [hfx]
  have HJ := Lib.hid hj
  have hsl2 := HSL.out.stays q2
  have hq2 := HQ2.out.trans q2
  have hb2 := (HBL.out.stays q2).cell 0 _ rfl
  have HSL2 := Lib.hid hsl2; have HQ3 := Lib.hid hq2
  clear hlo hhi hfx hj hsl2 hq2 q2 HSL HQ2 CS C HM HFI
  rcases hsm with ⟨rfl, h0, rfl⟩ | ⟨g, rfl, hcp⟩
  · have hi0 : i = 0 := by omega
    subst hi0
    have hnil : partsD l = [] := List.eq_nil_of_length_eq_zero h0
    rw [h0] at hb2 hfd ⊢
    have HNIL := Lib.hid hnil
    clear hnil h0 hi
    go_wp2_with fail
    go_ret
    refine ⟨_, rfl, ?_, HQ3.out⟩
    rw [HNIL.out, List.drop_nil]
    exact Sl.nil _ _
  · rcases Nat.eq_zero_or_pos i with rfl | hi1
    · go_wp2_with fail
      go_ret
      refine ⟨_, rfl, ?_, HQ3.out⟩
      rw [HJ.out, List.drop_zero]
      exact HSL2.out
    · obtain ⟨j, rfl⟩ : ∃ j, i = j + 1 := ⟨i - 1, by omega⟩
      have hne : ¬ cap = j := by omega
      rcases Nat.eq_zero_or_pos j with rfl | hj0
      · go_wp2_with fail
        go_ret
        refine ⟨_, rfl, ?_, HQ3.out⟩
        rw [HJ.out, show 0 + 1 - 1 = 0 by omega, List.drop_zero]
        exact HSL2.out
      · have hjj : ((j + 1 : Nat) : Int) - 1 = j := by omega
        go_wp2_with fail
        go_ret
        refine ⟨_, rfl, ?_, HQ3.out⟩
        have h := Sl.from_ (j := j) HSL2.out (by omega) g 0 rfl
        rw [dpartVs_drop, Nat.zero_add] at h
        rw [HJ.out, show j + 1 - 1 = j by omega]
        first | exact h | (rw [List.length_drop]; exact h)

/-! ### Get -/
/-- a right list of entries -/
def DOk (l : List EntryL) : Prop := entriesRight [] l = true ∧ l.length ≤ 1048576
theorem blockD_len (last : Bytes) (g : List EntryL) (h : ∀ e ∈ g, e.1.length ≤ 40 ∧ e.2.length ≤ 4194304) : (blockE last g).length ≤ g.length * 4194400 := by
  induction g generalizing last with
  | nil => simp [blockE]
  | cons e g ih =>
    have h1 := varE_len (alikeN last e.1)
    have h2 := textE_len (e.1.drop (alikeN last e.1))
    have h3 := textE_len e.2
    have h4 := h e (by simp)
    have h5 := ih e.1 (fun x hx => h x (by simp [hx]))
    rw [List.length_drop] at h2
    rw [blockE, List.length_append, List.length_append, List.length_append, List.length_cons, Nat.add_mul]
    omega
theorem DOk.parts {l : List EntryL} (h : DOk l) : ∀ p ∈ partsD l, p.1.length ≤ 1000000 ∧ p.2.1.length ≤ 1073741824 := by
  obtain ⟨_, h2⟩ := entriesRight_pair _ _ h.1
  intro p hp
  obtain ⟨g, hg, rfl⟩ := List.mem_map.1 hp
  have hg2 := groupsD_ne l g hg
  have hsub : ∀ e ∈ g, e ∈ l := fun e he => by rw [← groups_all l.length l (Nat.le_refl _)]; exact List.mem_flatten.2 ⟨g, hg, he⟩
  have hb := blockD_len [] g (fun e he => (h2 e (hsub e he)).2)
  have h16 : g.length * 4194400 ≤ 16 * 4194400 := Nat.mul_le_mul_right _ hg2.2
  refine ⟨?_, by simp only [partD]; omega⟩
  cases g with
  | nil => exact absurd rfl hg2.1
  | cons e g => have := (h2 e (hsub e (by simp))).2.1; simp only [partD, List.headD_cons]; omega
theorem DOk.rise {l : List EntryL} (h : DOk l) : (l.map (·.1)).Pairwise (· < ·) := (entriesRight_pair _ _ h.1).1
theorem DOk.small {l : List EntryL} (h : DOk l) : ∀ e ∈ l, e.1.length ≤ 1000000 ∧ e.2.length ≤ 1000000000 := fun e he => by
  have := (entriesRight_pair _ _ h.1).2 e he; omega
theorem idxD_len (ps : List PartD) (h : ∀ p ∈ ps, p.1.length ≤ 1000000) : (idxD ps).length ≤ ps.length * 1000020 := by
  induction ps with
  | nil => simp [idxD]
  | cons p ps ih =>
    have h1 := ih (fun x hx => h x (by simp [hx]))
    have h2 := textE_len p.1
    have h3 := varE_len p.2.1.length
    have h4 := h p (by simp)
    simp only [idxD, List.flatMap_cons, List.length_append, List.length_cons, Nat.add_mul] at h1 ⊢
    omega
theorem allD_len (ps : List PartD) (h : ∀ p ∈ ps, p.2.1.length ≤ 1073741824) : (allD ps).length ≤ ps.length * 1073741824 := by
  induction ps with
  | nil => simp [allD]
  | cons p ps ih =>
    have h1 := ih (fun x hx => h x (by simp [hx]))
    have h4 := h p (by simp)
    simp only [allD, List.flatMap_cons, List.length_append, List.length_cons, Nat.add_mul] at h1 ⊢
    omega
theorem DOk.len {l : List EntryL} (h : DOk l) : (dictE l).length ≤ 9223372036854775807 := by
  have h1 := idxD_len (partsD l) (fun p hp => (h.parts p hp).1)
  have h2 := allD_len (partsD l) (fun p hp => (h.parts p hp).2)
  have h3 := partsD_length l
  have h4 := varE_len l.length
  have h5 : (partsD l).length ≤ 65537 := by have := h.2; omega
  have h6 : (partsD l).length * 1000020 ≤ 65537 * 1000020 := Nat.mul_le_mul_right _ h5
  have h7 : (partsD l).length * 1073741824 ≤ 65537 * 1073741824 := Nat.mul_le_mul_right _ h5
  rw [dictE_parts, List.length_append, List.length_append]
  omega
theorem DOk.group {l : List EntryL} (h : DOk l) {g : List EntryL} (hg : g ∈ groupsD l) : g ≠ [] ∧ g.length ≤ 16 ∧ (∀ e ∈ g, e.1.length ≤ 1000000 ∧ e.2.length ≤ 1000000000) ∧ (blockE [] g).length ≤ 9223372036854775807 := by
  have hsub : ∀ e ∈ g, e ∈ l := fun e he => by rw [← groups_all l.length l (Nat.le_refl _)]; exact List.mem_flatten.2 ⟨g, hg, he⟩
  have hp := h.parts (partD g) (List.mem_map.2 ⟨g, hg, rfl⟩)
  exact ⟨(groupsD_ne l g hg).1, (groupsD_ne l g hg).2, fun e he => h.small e (hsub e he), by have : (partD g).2.1 = blockE [] g := rfl; rw [this] at hp; omega⟩
theorem field_ents (a : Option Addr) (n cap : Nat) (s : ByteArray) (b : Bool) (w : World) : (Instr.field 275 (.agg #[.slice a n cap, .string s, .bool b]) 0).run Tryz.prog w = .ok (.slice a n cap) w := by
  kernel_rfl
theorem partsD_drop (l : List EntryL) (j : Nat) : (partsD l).drop j = ((groupsD l).drop j).map partD := by unfold partsD; rw [List.map_drop]
set_option maxRecDepth 100000 in
set_option maxHeartbeats 2000000 in
theorem DGet_ok (l : List EntryL) (t : Bytes) (w : World) (h : DOk l) :
    Calls Tryz.prog 161 #[.string ⟨(dictE l).toArray⟩, strV t] w fun e w' => e = .returned (.tuple #[strV ((findE l t).getD []), .bool (findE l t).isSome]) ∧ Q w w' := by
  have c := DFrom_ok l t w h.2 h.rise h.parts h.len
  have hfg : ∀ g, (groupsD l)[fromJ (groupsD l) t]? = some g → findE l t = findE g t := fun g hg => by
    rw [← get_group _ (grps_of l h.rise) t g hg, groups_all _ _ (Nat.le_refl _)]
  rw [partsD_drop, List.length_map] at c
  have C := Lib.hid c; have HG := Lib.hid hfg; have HH := Lib.hid h
  clear c hfg h
  go_enter Tryz.func161, Tryz.ntmps161
  go_wp2_with fail
  refine C.out.mono ?_
  rintro e w1 ⟨v, rfl, hs, q1⟩
  have HS := Lib.hid hs; have HQ1 := Lib.hid q1
  obtain ⟨hsl, a, cap, rfl, hcell⟩ := hs
  clear q1 hsl
  cases hgs : (groupsD l).drop (fromJ (groupsD l) t) with
  | nil =>
    have hno : findE l t = none := by
      have h0 : (groupsD l).length ≤ fromJ (groupsD l) t := by
        have := congrArg List.length hgs
        rw [List.length_drop, List.length_nil] at this
        omega
      have h1 : fromJ (groupsD l) t ≤ (groupsD l).length - 1 := by
        have := List.findIdx_le_length (p := fun g => lessL t (headT g)) (xs := groupsD l)
        unfold fromJ; omega
      have h2 : groupsD l = [] := List.eq_nil_of_length_eq_zero (by omega)
      have h3 : l = [] := by rw [← groups_all l.length l (Nat.le_refl _), show groupsF l.length l = [] from h2]; rfl
      rw [h3]; rfl
    have HNO := Lib.hid hno
    clear hno hcell
    rw [hgs] at HS
    go_wp2_with fail
    go_ret2
    exact ⟨by rw [HNO.out]; rfl, HQ1.out⟩
  | cons g gs =>
    rw [hgs] at hcell
    obtain ⟨b, off, rfl, hc⟩ := hcell (by simp)
    have e0 := hc 0 (strV (headT g)) rfl
    rw [Nat.add_zero] at e0
    have e1 := hc 1 (strV (blockE [] g)) rfl
    have e2 := hc 2 (.int .i64 g.length) rfl
    have hgg : (groupsD l)[fromJ (groupsD l) t]? = some g := by
      have := congrArg (fun x => x[0]?) hgs
      simpa using this
    have hfe := HG.out g hgg
    obtain ⟨gh1, gh2, gh3, gh4⟩ := HH.out.group (List.mem_of_getElem? hgg)
    have c := fun f w => DEntries_ok f g w (by omega) gh3 gh4
    have C := Lib.hid c; have HFE := Lib.hid hfe
    clear c hfe hc hcell hgg gh3 HG HS HH
    generalize blockE [] g = bs at *
    generalize headT g = hd at *
    go_wp2_with fail
    refine (C.out _ _).mono ?_
    rintro e w2 ⟨v2, rfl, ho, q2⟩
    obtain ⟨a2, cap2, rfl, hsm⟩ := owns_value ho
    have hfd : ∀ W, (Instr.field 275 (.agg #[.slice a2 g.length cap2, strV [], .bool true]) 0).run Tryz.prog W = .ok (.slice a2 g.length cap2) W := fun W => field_ents a2 g.length cap2 _ true W
    have hpr : Pairs w2 (.slice a2 g.length cap2) g := Sl.of_owns ho
    have HP := Lib.hid hpr; have HQ2 := Lib.hid (HQ1.out.trans q2)
    clear ho q2 C HQ1 e0 e1 e2 hpr
    go_wp2_with fail
    go_loopw [21] (fun i wr => ∃ (k : Nat), k ≤ g.length ∧ i = .int .i64 k ∧ Hid (findE g t = findE (g.drop k) t) ∧ Hid (Pairs wr (.slice a2 g.length cap2) g) ∧ Hid (Q w wr)) (fun i _ => g.length - (intOf i).toNat)
    case atStart => exact ⟨0, by omega, rfl, rfl, HP.out, HQ2.out⟩
    case round =>
      obtain ⟨k, hk, rfl, HF, HP, HQ⟩ := hrel
      obtain ⟨wo, rfl⟩ : ∃ wo : World, wo = wr := ⟨_, rfl⟩
      by_cases hlt : k < g.length
      · obtain ⟨a3, c3, e3, hc3⟩ := HP.out.value
        cases e3
        obtain ⟨b3, o3, rfl, hc⟩ := hc3 (by omega)
        obtain ⟨hc1, hc2⟩ := hc k hlt
        have hfk : findE (g.drop k) t = if g[k].1 == t then some g[k].2 else findE (g.drop (k + 1)) t := by
          rw [List.drop_eq_getElem_cons hlt]
          unfold findE
          rw [List.find?_cons]
          cases g[k].1 == t <;> rfl
        generalize g[k] = e at *
        obtain ⟨x, v⟩ := e
        simp only at hc1 hc2 hfk
        have HFK := Lib.hid hfk
        clear hc hc3 hfk
        by_cases hx : x = t
        · subst hx
          have hf : findE l x = some v := by rw [HFE.out, HF.out, HFK.out]; simp
          have HFF := Lib.hid hf
          clear hf
          go_wp2_with fail
          go_ret2
          exact ⟨by rw [HFF.out]; rfl, HQ.out.trans (Q.alloc _ _)⟩
        · have hxb : (x == t) = false := by simpa using hx
          have hf : findE g t = findE (g.drop (k + 1)) t := by rw [HF.out, HFK.out, hxb]; rfl
          have HFF := Lib.hid hf
          clear hf
          go_wp2_with fail
          go_roundw
          case rel => exact ⟨k + 1, by omega, by go_num, HFF, HP.out.stays (Q.alloc _ _), HQ.out.trans (Q.alloc _ _)⟩
          case measure => simp [intOf]; omega
      · have hkk : k = g.length := by omega
        have hno : findE l t = none := by rw [HFE.out, HF.out, List.drop_eq_nil_of_le (by omega)]; rfl
        have HNO := Lib.hid hno
        clear hno
        go_wp2_with fail
        go_ret2
        exact ⟨by rw [HNO.out]; rfl, HQ.out⟩
end Go.Proofs.YtcflpcpkmhljkaaGreatDoor
end

/- (WDictX) dict.Prefix: walked, at a dictionary's bytes. -/
section
namespace Go.Proofs.YtcflpcpkmhljkaaGreatDoor
open Go.RowKit
set_option linter.unusedVariables false

theorem prefix_take (s p : Bytes) (h : p.length ≤ s.length) : (s.take p.length == p) = p.isPrefixOf s := by
  rw [Bool.eq_iff_iff, beq_iff_eq, List.isPrefixOf_iff_prefix, List.prefix_iff_eq_take]
  exact eq_comm
set_option maxHeartbeats 1000000 in
theorem HasPrefix0_any (s p : Bytes) (w : World) (hs : s.length ≤ 9223372036854775807) (hp : p.length ≤ 9223372036854775807) :
    Calls Tryz.prog 210 #[.string ⟨s.toArray⟩, .string ⟨p.toArray⟩] w fun e w' => e = .returned (.bool (p.isPrefixOf s)) ∧ Q w w' := by
  by_cases h : p.length ≤ s.length
  · have hx : ({ data := s.toArray } : ByteArray).extract 0 p.length = ⟨(s.take p.length).toArray⟩ := bytes_take s _
    have hb : (s.take p.length == p) = p.isPrefixOf s := prefix_take s p h
    have hl : (p.length : Int) ≤ s.length := by omega
    go_enter Tryz.func210, Tryz.ntmps210
    go_wp2_with fail
    go_ret
    exact ⟨rfl, Q.refl _⟩
  · have hb : p.isPrefixOf s = false := by
      rw [Bool.eq_false_iff]
      intro h2
      exact h (List.isPrefixOf_iff_prefix.1 h2).length_le
    have HB := Lib.hid hb
    clear hb
    go_enter Tryz.func210, Tryz.ntmps210
    go_wp2_with fail
    go_ret
    exact ⟨by rw [HB.out]; rfl, Q.refl _⟩
theorem HasPrefix_any (s p : Bytes) (w : World) (hs : s.length ≤ 9223372036854775807) (hp : p.length ≤ 9223372036854775807) :
    Calls Tryz.prog 186 #[.string ⟨s.toArray⟩, .string ⟨p.toArray⟩] w fun e w' => e = .returned (.bool (p.isPrefixOf s)) ∧ Q w w' := by
  have C := Lib.hid (HasPrefix0_any s p w hs hp)
  go_enter Tryz.func186, Tryz.ntmps186
  go_wp2_with fail
  refine C.out.mono ?_
  rintro e w1 ⟨rfl, q1⟩
  go_wp2_with fail
  go_ret
  exact ⟨rfl, q1⟩
theorem groups_len {α : Type} (l : List (List α)) (h : ∀ w ∈ l, w ≠ []) : l.length ≤ l.flatten.length := by
  induction l with
  | nil => simp
  | cons a l ih =>
    have := ih (fun w hw => h w (by simp [hw]))
    have ha := List.length_pos_iff.2 (h a (by simp))
    rw [List.flatten_cons, List.length_append, List.length_cons]; omega
theorem sl_kept {w w' : World} {b off cap n size : Nat} {xs : List Value} (h : Sl w (.slice (some ⟨b, off, none⟩) n cap) n size xs) {base : Nat} {e : TypeId} {size' : Nat} {v : Value} {m : Nat} {ys : List Value} (hb : b < base) (ho : w.ownsRow base e size' v m ys) (hg : w.grownBy w' v.ownBlock) :
    Sl w' (.slice (some ⟨b, off, none⟩) n cap) n size xs := by
  obtain ⟨h1, a', c', e', h3⟩ := h
  cases e'
  refine ⟨h1, _, _, rfl, fun hn => ?_⟩
  obtain ⟨b', o', e', h5⟩ := h3 hn
  cases e'
  exact ⟨b, off, rfl, fun j u hj => grown_cell ho hg hb (h5 j u hj)⟩
set_option maxRecDepth 100000 in
set_option maxHeartbeats 4000000 in
theorem DPrefix_ok (l : List EntryL) (p : Bytes) (w : World) (h : DOk l) (hp : p.length ≤ 1000000000) :
    Calls Tryz.prog 154 #[.string ⟨(dictE l).toArray⟩, strV p] w fun e w' => ∃ v, e = .returned v ∧ w'.ownsRow w.heap.size 240 2 v (l.filter (fun e => p.isPrefixOf e.1)).length (pairVs (l.filter (fun e => p.isPrefixOf e.1))) ∧ Q w w' := by
  obtain ⟨i0, hi, hz0, hz1, hz2⟩ := info_parts tinfoE
  have c := DFrom_ok l p w h.2 h.rise h.parts h.len
  have hfl := prefix_from p (groupsD l) (grps_of l h.rise)
  rw [groups_all _ _ (Nat.le_refl _)] at hfl
  rw [← hfl]
  have hgok : ∀ g ∈ (groupsD l).drop (fromJ (groupsD l) p), _ := fun g hg => h.group (List.mem_of_mem_drop hg)
  have hcnt : ((groupsD l).drop (fromJ (groupsD l) p)).flatten.length ≤ 1048576 := by
    have h1 := groups_all l.length l (Nat.le_refl _)
    have h2 : (groupsD l).flatten.length = ((groupsD l).take (fromJ (groupsD l) p)).flatten.length + ((groupsD l).drop (fromJ (groupsD l) p)).flatten.length := by
      rw [← List.length_append, ← List.flatten_append, List.take_append_drop]
    rw [show (groupsD l).flatten = l from h1] at h2
    have := h.2
    omega
  rw [partsD_drop, List.length_map] at c
  generalize (groupsD l).drop (fromJ (groupsD l) p) = gs at *
  have hgl : gs.length ≤ 1048576 := Nat.le_trans (groups_len gs (fun g hg => (hgok g hg).1)) hcnt
  have C := Lib.hid c; have HG := Lib.hid hgok
  clear c hfl hgok h
  go_enter Tryz.func154, Tryz.ntmps154
  go_wp2_with fail
  refine C.out.mono ?_
  rintro e w1 ⟨v, rfl, hs, q1⟩
  have HS1 := Lib.hid hs; have HQ1 := Lib.hid q1
  have hww : w.heap.size ≤ w1.heap.size := q1.size
  obtain ⟨hsl, a, cap, rfl, hcell⟩ := hs
  clear q1 hsl hcell
  go_wp2_with fail
  go_loopw [5, 14] (fun lv i wr => ∃ (k : Nat) (out : List EntryL), k ≤ gs.length ∧ i = .int .i64 k ∧ Hid (wr.ownsRow w1.heap.size 240 2 lv out.length (pairVs out)) ∧ Hid (preG p gs = out ++ preG p (gs.drop k)) ∧ Hid (out.length ≤ (gs.take k).flatten.length) ∧
    Hid (Sl wr (.slice a gs.length cap) gs.length 3 (dpartVs (gs.map partD))) ∧ Hid (Q w wr) ∧ w1.heap.size ≤ wr.heap.size) (fun _ i _ => gs.length - (intOf i).toNat)
  case atStart => exact ⟨0, [], by omega, rfl, World.ownsRow_nil _ _ _ _, rfl, by show _ ≤ _; simp, HS1.out, HQ1.out, Nat.le_refl _⟩
  case round =>
    obtain ⟨k, out, hk, rfl, HO, HPG, HL, HS, HQ, hszo⟩ := hrel
    obtain ⟨wo, rfl⟩ : ∃ wo : World, wo = wr := ⟨_, rfl⟩
    by_cases hlt : k < gs.length
    · obtain ⟨b, off, rfl, hc⟩ : ∃ b off, a = some ⟨b, off, none⟩ ∧ ∀ j u, (dpartVs (gs.map partD))[j]? = some u → wo.cell? ⟨b, off + j, none⟩ = some u := by
        obtain ⟨_, a', c', e, h3⟩ := HS.out
        cases e
        exact h3 (by omega)
      have hbN : b < w1.heap.size := by
        obtain ⟨_, a', c', e, h3⟩ := HS1.out
        cases e
        obtain ⟨b', o', e', h5⟩ := h3 (by omega)
        cases e'
        exact cell_lt (h5 _ _ (dpartVs_at (gs.map partD) k (by rw [List.length_map]; exact hlt)).1)
      have hpa := dpartVs_at (gs.map partD) k (by rw [List.length_map]; exact hlt)
      rw [List.getElem_map] at hpa
      have e0 := hc _ _ hpa.1
      have e1 := hc _ _ hpa.2.1
      have e2 := hc _ _ hpa.2.2
      rw [← Nat.add_assoc] at e1 e2
      have hgk := HG.out gs[k] (List.getElem_mem hlt)
      have hpk : preG p (gs.drop k) = if lessL p (headT gs[k]) && !p.isPrefixOf (headT gs[k]) then [] else gs[k].filter (fun e => p.isPrefixOf e.1) ++ preG p (gs.drop (k + 1)) := by
        rw [List.drop_eq_getElem_cons hlt, preG]
      have hfk : (gs.take (k + 1)).flatten.length = (gs.take k).flatten.length + gs[k].length := by
        rw [List.take_succ_eq_append_getElem hlt, List.flatten_append, List.length_append]; simp
      have hfa : (gs.take (k + 1)).flatten.length ≤ gs.flatten.length := by
        conv => rhs; rw [← List.take_append_drop (k + 1) gs, List.flatten_append, List.length_append]
        omega
      simp only [partD] at e0 e1 e2
      rw [show (gs[k].headD ([], [])).1 = headT gs[k] from rfl] at e0
      generalize gs[k] = g at *
      obtain ⟨gh1, gh2, gh3, gh4⟩ := hgk
      have hhd : (headT g).length ≤ 1000000 := by
        cases g with
        | nil => exact absurd rfl gh1
        | cons x g => exact (gh3 x (by simp)).1
      have cE := fun f w => DEntries_ok f g w (by omega) gh3 gh4
      have cP := fun w => HasPrefix_any (headT g) p w (by omega) (by omega)
      have hgr := greater_eq (headT g) p
      have CE := Lib.hid cE; have CP := Lib.hid cP; have HPK := Lib.hid hpk; have HGS := Lib.hid gh3; have HFK := Lib.hid hfk; have HFA := Lib.hid hfa
      clear cE cP hpk hc hpa gh3 hfk hfa
      generalize blockE [] g = bs at *
      generalize headT g = hd at *
      -- behind the test: the entries of the group
      cases hl : lessL p hd with
      | false =>
        rw [hl] at hgr
        have hpp : preG p (gs.drop k) = g.filter (fun e => p.isPrefixOf e.1) ++ preG p (gs.drop (k + 1)) := by rw [HPK.out, hl]; rfl
        have HPP := Lib.hid hpp
        clear hpp hl
        go_wp2_with fail
        have o3 := HO.out.alloc (.cells #[strV hd, strV bs, .int .i64 g.length] 272)
        have s3 := HS.out.stays (Q.alloc _ (.cells #[strV hd, strV bs, .int .i64 g.length] 272))
        have q3 := HQ.out.trans (Q.alloc _ (.cells #[strV hd, strV bs, .int .i64 g.length] 272))
        have HO3 := Lib.hid o3; have HS3 := Lib.hid s3; have HQ3 := Lib.hid q3
        clear o3 s3 q3 HO HS HQ
        have hsz3 : w1.heap.size ≤ (wo.alloc (.cells #[strV hd, strV bs, .int .i64 g.length] 272)).heap.size := by simp; omega
        generalize wo.alloc (.cells #[strV hd, strV bs, .int .i64 g.length] 272) = W3 at *
        refine (CE.out _ _).mono ?_
        rintro e w4 ⟨v2, rfl, ho, q4⟩
        obtain ⟨B3, cap2, rfl, hB3⟩ : ∃ B3 cap2, v2 = .slice (some ⟨B3, 0, none⟩) g.length cap2 ∧ W3.heap.size ≤ B3 := by
          obtain ⟨a2, cap2, rfl, hsm⟩ := owns_value ho
          obtain ⟨B3, rfl⟩ := hsm (List.length_pos_iff.2 gh1)
          exact ⟨B3, cap2, rfl, (ho.lt B3 rfl).1⟩
        have hfd : ∀ W, (Instr.field 275 (.agg #[.slice (some ⟨B3, 0, none⟩) g.length cap2, strV [], .bool true]) 0).run Tryz.prog W = .ok (.slice (some ⟨B3, 0, none⟩) g.length cap2) W := fun W => field_ents _ g.length cap2 _ true W
        have hB4 : B3 < w4.heap.size := (ho.lt B3 rfl).2
        have ho4 := ownsRow_below HO3.out q4
        have hs4 := HS3.out.stays q4
        have hq4 := HQ3.out.trans q4
        have hne4 : ∀ g', u5.ownBlock = some g' → g' ≠ B3 := fun g' e' e2 => by have := (HO3.out.lt g' e').2; omega
        have hwl : w1.heap.size ≤ W3.heap.size := hsz3
        have HE4 := Lib.hid (owns_low ho hwl); have HO4 := Lib.hid ho4; have HS4 := Lib.hid hs4; have HQ4 := Lib.hid hq4; have HN4 := Lib.hid hne4
        clear ho ho4 hs4 hq4 hne4 q4 HO3 HS3 HQ3 CE CP
        go_wp2_with fail
        go_loopw [5, 33] (fun lv i wr => ∃ (j : Nat) (o2 : List EntryL), j ≤ g.length ∧ i = .int .i64 j ∧ Hid (wr.ownsRow w1.heap.size 240 2 lv o2.length (pairVs o2)) ∧ Hid (o2 = out ++ (g.take j).filter (fun e => p.isPrefixOf e.1)) ∧
          Hid (wr.ownsRow w1.heap.size 240 2 (.slice (some ⟨B3, 0, none⟩) g.length cap2) g.length (pairVs g)) ∧ Hid (∀ g', lv.ownBlock = some g' → g' ≠ B3) ∧ B3 < wr.heap.size ∧ w1.heap.size ≤ wr.heap.size ∧
          Hid (Sl wr (.slice (some ⟨b, off, none⟩) gs.length cap) gs.length 3 (dpartVs (gs.map partD))) ∧ Hid (Q w wr)) (fun _ i _ => g.length - (intOf i).toNat)
        case atStart => exact ⟨0, out, by omega, rfl, HO4.out, by show _ = _; simp, HE4.out, HN4.out, hB4, by omega, HS4.out, HQ4.out⟩
        case round =>
          obtain ⟨j, o2, hj, rfl, HOJ, HOE, HEJ, HNJ, hBJ, hsJ, HSJ, HQJ⟩ := hrel
          obtain ⟨wj, rfl⟩ : ∃ wj : World, wj = wr := ⟨_, rfl⟩
          by_cases hjl : j < g.length
          · have hpe := pairVs_at g j hjl
            have x0 := (HEJ.out.cellAt (j * 2) (by omega)).trans hpe.1
            have x1 := (HEJ.out.cellAt (j * 2 + 1) (by omega)).trans hpe.2
            have hgs := HGS.out _ (List.getElem_mem hjl)
            have htk : (g.take (j + 1)).filter (fun e => p.isPrefixOf e.1) = (g.take j).filter (fun e => p.isPrefixOf e.1) ++ (if p.isPrefixOf g[j].1 then [g[j]] else []) := by
              rw [List.take_succ_eq_append_getElem hjl, List.filter_append]
              congr 1
              cases hb : p.isPrefixOf g[j].1 <;> simp [hb]
            have hol : o2.length ≤ 1048576 := by
              have h1 : ((g.take j).filter (fun e => p.isPrefixOf e.1)).length ≤ g.length := Nat.le_trans (List.length_filter_le _ _) (by rw [List.length_take]; omega)
              have h2 := congrArg List.length HOE.out
              rw [List.length_append] at h2
              have h3 := HL.out; have h4 := HFK.out; have h5 := HFA.out
              omega
            generalize g[j] = e at *
            obtain ⟨t, x⟩ := e
            simp only at x0 x1 hgs htk
            have cP := fun w => HasPrefix_any t p w (by omega) (by omega)
            have CP := Lib.hid cP; have HTK := Lib.hid htk
            clear cP htk hpe
            go_wp2_with fail
            refine (CP.out _).mono ?_
            rintro e w5 ⟨rfl, q5⟩
            have hx5 := (Blk.new wj 240 #[strV t, strV x]).stays q5
            have o5 := ownsRow_below (HOJ.out.alloc (.cells #[strV t, strV x] 240)) q5
            have e5 := ownsRow_below (HEJ.out.alloc (.cells #[strV t, strV x] 240)) q5
            have s5 := (HSJ.out.stays (Q.alloc _ (.cells #[strV t, strV x] 240))).stays q5
            have qq5 := (HQJ.out.trans (Q.alloc _ (.cells #[strV t, strV x] 240))).trans q5
            have hB5 : B3 < w5.heap.size := by have := q5.size; simp at this; omega
            have hw5 : w1.heap.size ≤ w5.heap.size := by have := q5.size; simp at this; omega
            obtain ⟨y0, y1, _⟩ := hx5.c2
            have HO5 := Lib.hid o5; have HE5 := Lib.hid e5; have HS5 := Lib.hid s5; have HQ5 := Lib.hid qq5
            clear hx5 o5 e5 s5 qq5 q5 x0 x1 HOJ HEJ HSJ HQJ
            cases hb : p.isPrefixOf t with
            | false =>
              have he : o2 = out ++ (g.take (j + 1)).filter (fun e => p.isPrefixOf e.1) := by rw [HTK.out, hb, HOE.out]; simp
              have HE := Lib.hid he
              clear he hb
              go_wp2_with fail
              go_roundw
              case rel => exact ⟨j + 1, o2, by omega, by go_num, HO5, HE, HE5, HNJ, hB5, hw5, HS5, HQ5⟩
              case measure => simp [intOf]; omega
            | true =>
              have he : o2 ++ [(t, x)] = out ++ (g.take (j + 1)).filter (fun e => p.isPrefixOf e.1) := by rw [HTK.out, hb, HOE.out]; simp
              have HE := Lib.hid he
              clear he hb
              have hown := HO5.out
              go_wp2_with (at_builtin; go_must (refine wpList_app w5 (by rfl) _ _ 238 (by rfl) w1.heap.size 240 _ i0 (.agg #[strV [], strV []]) 2 32 Tryz.underlying238 hi hz0 hz1 hz2 rfl (by decide) (by decide) _ _ _ (by rfl) hown #[strV t, strV x] (by simp [Act.eval]) rfl ?c1 ?c2 hw5 ?_))
              case c1 => simp [Value.oneCell']
              case c2 => omega
              intro g6 cap6 w6 hown6 hg6 hat6 hlt6 hsz6
              have hne : ∀ g', Value.ownBlock (.slice (some ⟨g6, 0, none⟩) (o2.length + 1) cap6) = some g' → g' ≠ B3 := by
                intro g' e' e2
                have e3 : g6 = g' := by simpa [Value.ownBlock] using e'
                subst e3
                rcases hat6 with h | h
                · exact HNJ.out g6 h e2
                · omega
              have e6 := HE5.out.kept hg6 (.inr (fun e' => HNJ.out B3 e'.symm rfl))
              have s6 := sl_kept HS5.out hbN hown hg6
              have q6 : Q w w6 := grown_below HQ5.out hown hg6 (by omega) (by omega)
              have hB6 : B3 < w6.heap.size := Nat.lt_of_lt_of_le hB5 hg6.size
              rw [show pairVs o2 ++ (#[strV t, strV x] : Array Value).toList = pairVs (o2 ++ [(t, x)]) from (pairVs_append o2 (t, x)).symm] at hown6
              rw [show o2.length + 1 = (o2 ++ [(t, x)]).length by simp] at hown6
              have hs6 : w1.heap.size ≤ w6.heap.size := Nat.le_trans hw5 hg6.size
              have HO6 := Lib.hid hown6; have HE6 := Lib.hid e6; have HS6 := Lib.hid s6; have HQ6 := Lib.hid q6; have HN6 := Lib.hid hne
              have hlo : (o2 ++ [(t, x)]).length = o2.length + 1 := by simp
              clear hown6 e6 s6 q6 hne hown hg6 hat6 HO5 HE5 HS5 HQ5
              go_wp2_with fail
              go_roundw
              case rel => exact ⟨j + 1, o2 ++ [(t, x)], by omega, by go_num, by rw [hlo] at HO6 ⊢; exact HO6, HE, HE6, HN6, hB6, hs6, HS6, HQ6⟩
              case measure => simp [intOf]; omega
          · have hjj : j = g.length := by omega
            subst hjj
            have he : o2 = out ++ g.filter (fun e => p.isPrefixOf e.1) := by rw [HOE.out, List.take_length]
            have hpg : preG p gs = o2 ++ preG p (gs.drop (k + 1)) := by rw [HPG.out, HPP.out, he, List.append_assoc]
            have hol : o2.length ≤ (gs.take (k + 1)).flatten.length := by
              rw [HFK.out, he, List.length_append]
              have := List.length_filter_le (fun e : EntryL => p.isPrefixOf e.1) g
              have := HL.out
              omega
            have HPG2 := Lib.hid hpg; have HOL := Lib.hid hol
            clear he hpg hol HOE
            go_wp2_with fail
            go_roundw
            case rel => exact ⟨k + 1, o2, by omega, by go_num, HOJ, HPG2, HOL, HSJ, HQJ, hsJ⟩
            case measure => simp [intOf]; omega
      | true =>
        rw [hl] at hgr
        go_wp2_with fail
        refine (CP.out _).mono ?_
        rintro e W3 ⟨rfl, q3⟩
        have b3 := (Blk.new wo 272 #[strV hd, strV bs, .int .i64 g.length]).stays q3
        have o3 := ownsRow_below (HO.out.alloc (.cells #[strV hd, strV bs, .int .i64 g.length] 272)) q3
        have s3 := (HS.out.stays (Q.alloc _ (.cells #[strV hd, strV bs, .int .i64 g.length] 272))).stays q3
        have qq3 := (HQ.out.trans (Q.alloc _ (.cells #[strV hd, strV bs, .int .i64 g.length] 272))).trans q3
        obtain ⟨z0, z1, z2, _⟩ := b3.c3
        have hsz3 : w1.heap.size ≤ W3.heap.size := by have := q3.size; simp at this; omega
        have HO3 := Lib.hid o3; have HS3 := Lib.hid s3; have HQ3 := Lib.hid qq3
        clear b3 o3 s3 qq3 q3 HO HS HQ e0 e1 e2
        cases hb : p.isPrefixOf hd with
        | false =>
          have hpp : preG p gs = out := by rw [HPG.out, HPK.out, hl, hb]; simp
          have HPP := Lib.hid hpp
          clear hpp hl hb
          go_wp2_with fail
          go_ret
          exact ⟨_, rfl, by rw [HPP.out]; exact owns_low HO3.out hww, HQ3.out⟩
        | true =>
          have hpp : preG p (gs.drop k) = g.filter (fun e => p.isPrefixOf e.1) ++ preG p (gs.drop (k + 1)) := by rw [HPK.out, hl, hb]; rfl
          have HPP := Lib.hid hpp
          clear hpp hl hb
          go_wp2_with fail
          refine (CE.out _ _).mono ?_
          rintro e w4 ⟨v2, rfl, ho, q4⟩
          obtain ⟨B3, cap2, rfl, hB3⟩ : ∃ B3 cap2, v2 = .slice (some ⟨B3, 0, none⟩) g.length cap2 ∧ W3.heap.size ≤ B3 := by
            obtain ⟨a2, cap2, rfl, hsm⟩ := owns_value ho
            obtain ⟨B3, rfl⟩ := hsm (List.length_pos_iff.2 gh1)
            exact ⟨B3, cap2, rfl, (ho.lt B3 rfl).1⟩
          have hfd : ∀ W, (Instr.field 275 (.agg #[.slice (some ⟨B3, 0, none⟩) g.length cap2, strV [], .bool true]) 0).run Tryz.prog W = .ok (.slice (some ⟨B3, 0, none⟩) g.length cap2) W := fun W => field_ents _ g.length cap2 _ true W
          have hB4 : B3 < w4.heap.size := (ho.lt B3 rfl).2
          have ho4 := ownsRow_below HO3.out q4
          have hs4 := HS3.out.stays q4
          have hq4 := HQ3.out.trans q4
          have hne4 : ∀ g', u5.ownBlock = some g' → g' ≠ B3 := fun g' e' e2 => by have := (HO3.out.lt g' e').2; omega
          have hwl : w1.heap.size ≤ W3.heap.size := hsz3
          have HE4 := Lib.hid (owns_low ho hwl); have HO4 := Lib.hid ho4; have HS4 := Lib.hid hs4; have HQ4 := Lib.hid hq4; have HN4 := Lib.hid hne4
          clear ho ho4 hs4 hq4 hne4 q4 HO3 HS3 HQ3 CE CP
          go_wp2_with fail
          go_loopw [5, 33] (fun lv i wr => ∃ (j : Nat) (o2 : List EntryL), j ≤ g.length ∧ i = .int .i64 j ∧ Hid (wr.ownsRow w1.heap.size 240 2 lv o2.length (pairVs o2)) ∧ Hid (o2 = out ++ (g.take j).filter (fun e => p.isPrefixOf e.1)) ∧
            Hid (wr.ownsRow w1.heap.size 240 2 (.slice (some ⟨B3, 0, none⟩) g.length cap2) g.length (pairVs g)) ∧ Hid (∀ g', lv.ownBlock = some g' → g' ≠ B3) ∧ B3 < wr.heap.size ∧ w1.heap.size ≤ wr.heap.size ∧
            Hid (Sl wr (.slice (some ⟨b, off, none⟩) gs.length cap) gs.length 3 (dpartVs (gs.map partD))) ∧ Hid (Q w wr)) (fun _ i _ => g.length - (intOf i).toNat)
          case atStart => exact ⟨0, out, by omega, rfl, HO4.out, by show _ = _; simp, HE4.out, HN4.out, hB4, by omega, HS4.out, HQ4.out⟩
          case round =>
            obtain ⟨j, o2, hj, rfl, HOJ, HOE, HEJ, HNJ, hBJ, hsJ, HSJ, HQJ⟩ := hrel
            obtain ⟨wj, rfl⟩ : ∃ wj : World, wj = wr := ⟨_, rfl⟩
            by_cases hjl : j < g.length
            · have hpe := pairVs_at g j hjl
              have x0 := (HEJ.out.cellAt (j * 2) (by omega)).trans hpe.1
              have x1 := (HEJ.out.cellAt (j * 2 + 1) (by omega)).trans hpe.2
              have hgs := HGS.out _ (List.getElem_mem hjl)
              have htk : (g.take (j + 1)).filter (fun e => p.isPrefixOf e.1) = (g.take j).filter (fun e => p.isPrefixOf e.1) ++ (if p.isPrefixOf g[j].1 then [g[j]] else []) := by
                rw [List.take_succ_eq_append_getElem hjl, List.filter_append]
                congr 1
                cases hb : p.isPrefixOf g[j].1 <;> simp [hb]
              have hol : o2.length ≤ 1048576 := by
                have h1 : ((g.take j).filter (fun e => p.isPrefixOf e.1)).length ≤ g.length := Nat.le_trans (List.length_filter_le _ _) (by rw [List.length_take]; omega)
                have h2 := congrArg List.length HOE.out
                rw [List.length_append] at h2
                have h3 := HL.out; have h4 := HFK.out; have h5 := HFA.out
                omega
              generalize g[j] = e at *
              obtain ⟨t, x⟩ := e
              simp only at x0 x1 hgs htk
              have cP := fun w => HasPrefix_any t p w (by omega) (by omega)
              have CP := Lib.hid cP; have HTK := Lib.hid htk
              clear cP htk hpe
              go_wp2_with fail
              refine (CP.out _).mono ?_
              rintro e w5 ⟨rfl, q5⟩
              have hx5 := (Blk.new wj 240 #[strV t, strV x]).stays q5
              have o5 := ownsRow_below (HOJ.out.alloc (.cells #[strV t, strV x] 240)) q5
              have e5 := ownsRow_below (HEJ.out.alloc (.cells #[strV t, strV x] 240)) q5
              have s5 := (HSJ.out.stays (Q.alloc _ (.cells #[strV t, strV x] 240))).stays q5
              have qq5 := (HQJ.out.trans (Q.alloc _ (.cells #[strV t, strV x] 240))).trans q5
              have hB5 : B3 < w5.heap.size := by have := q5.size; simp at this; omega
              have hw5 : w1.heap.size ≤ w5.heap.size := by have := q5.size; simp at this; omega
              obtain ⟨y0, y1, _⟩ := hx5.c2
              have HO5 := Lib.hid o5; have HE5 := Lib.hid e5; have HS5 := Lib.hid s5; have HQ5 := Lib.hid qq5
              clear hx5 o5 e5 s5 qq5 q5 x0 x1 HOJ HEJ HSJ HQJ
              cases hb : p.isPrefixOf t with
              | false =>
                have he : o2 = out ++ (g.take (j + 1)).filter (fun e => p.isPrefixOf e.1) := by rw [HTK.out, hb, HOE.out]; simp
                have HE := Lib.hid he
                clear he hb
                go_wp2_with fail
                go_roundw
                case rel => exact ⟨j + 1, o2, by omega, by go_num, HO5, HE, HE5, HNJ, hB5, hw5, HS5, HQ5⟩
                case measure => simp [intOf]; omega
              | true =>
                have he : o2 ++ [(t, x)] = out ++ (g.take (j + 1)).filter (fun e => p.isPrefixOf e.1) := by rw [HTK.out, hb, HOE.out]; simp
                have HE := Lib.hid he
                clear he hb
                have hown := HO5.out
                go_wp2_with (at_builtin; go_must (refine wpList_app w5 (by rfl) _ _ 238 (by rfl) w1.heap.size 240 _ i0 (.agg #[strV [], strV []]) 2 32 Tryz.underlying238 hi hz0 hz1 hz2 rfl (by decide) (by decide) _ _ _ (by rfl) hown #[strV t, strV x] (by simp [Act.eval]) rfl ?c1 ?c2 hw5 ?_))
                case c1 => simp [Value.oneCell']
                case c2 => omega
                intro g6 cap6 w6 hown6 hg6 hat6 hlt6 hsz6
                have hne : ∀ g', Value.ownBlock (.slice (some ⟨g6, 0, none⟩) (o2.length + 1) cap6) = some g' → g' ≠ B3 := by
                  intro g' e' e2
                  have e3 : g6 = g' := by simpa [Value.ownBlock] using e'
                  subst e3
                  rcases hat6 with h | h
                  · exact HNJ.out g6 h e2
                  · omega
                have e6 := HE5.out.kept hg6 (.inr (fun e' => HNJ.out B3 e'.symm rfl))
                have s6 := sl_kept HS5.out hbN hown hg6
                have q6 : Q w w6 := grown_below HQ5.out hown hg6 (by omega) (by omega)
                have hB6 : B3 < w6.heap.size := Nat.lt_of_lt_of_le hB5 hg6.size
                rw [show pairVs o2 ++ (#[strV t, strV x] : Array Value).toList = pairVs (o2 ++ [(t, x)]) from (pairVs_append o2 (t, x)).symm] at hown6
                rw [show o2.length + 1 = (o2 ++ [(t, x)]).length by simp] at hown6
                have hs6 : w1.heap.size ≤ w6.heap.size := Nat.le_trans hw5 hg6.size
                have HO6 := Lib.hid hown6; have HE6 := Lib.hid e6; have HS6 := Lib.hid s6; have HQ6 := Lib.hid q6; have HN6 := Lib.hid hne
                have hlo : (o2 ++ [(t, x)]).length = o2.length + 1 := by simp
                clear hown6 e6 s6 q6 hne hown hg6 hat6 HO5 HE5 HS5 HQ5
                go_wp2_with fail
                go_roundw
                case rel => exact ⟨j + 1, o2 ++ [(t, x)], by omega, by go_num, by rw [hlo] at HO6 ⊢; exact HO6, HE, HE6, HN6, hB6, hs6, HS6, HQ6⟩
                case measure => simp [intOf]; omega
            · have hjj : j = g.length := by omega
              subst hjj
              have he : o2 = out ++ g.filter (fun e => p.isPrefixOf e.1) := by rw [HOE.out, List.take_length]
              have hpg : preG p gs = o2 ++ preG p (gs.drop (k + 1)) := by rw [HPG.out, HPP.out, he, List.append_assoc]
              have hol : o2.length ≤ (gs.take (k + 1)).flatten.length := by
                rw [HFK.out, he, List.length_append]
                have := List.length_filter_le (fun e : EntryL => p.isPrefixOf e.1) g
                have := HL.out
                omega
              have HPG2 := Lib.hid hpg; have HOL := Lib.hid hol
              clear he hpg hol HOE
              go_wp2_with fail
              go_roundw
              case rel => exact ⟨k + 1, o2, by omega, by go_num, HOJ, HPG2, HOL, HSJ, HQJ, hsJ⟩
              case measure => simp [intOf]; omega
    · have hkk : k = gs.length := by omega
      subst hkk
      have hpp : preG p gs = out := by rw [HPG.out, List.drop_length]; simp [preG]
      have HPP := Lib.hid hpp
      clear hpp
      go_wp2_with fail
      go_ret
      exact ⟨_, rfl, by rw [HPP.out]; exact owns_low HO.out HQ1.out.size, HQ.out⟩
end Go.Proofs.YtcflpcpkmhljkaaGreatDoor
end
