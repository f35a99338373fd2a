/- Joined texts of one proof: WPostB, WIdxR, IxMem, Ix. -/
import Derived.Test.YtcflpcpkmhljkaaGreatDoorMWWordsToWPostA
import Derived.Test.YtcflpcpkmhljkaaGreatDoorMWRunesToWTexts
import Derived.Deep.DeepMust
import Derived.Test.YtcflpcpkmhljkaaGreatDoorMWFoldedToWWordsR
import Derived.Deep.RegionHeld3
import Derived.Deep.AppendLies
import Derived.Test.YtcflpcpkmhljkaaGreatDoorMMapsToLive
set_option linter.unusedSimpArgs false
set_option linter.unusedVariables false
set_option linter.unnecessarySimpa false
/- (WPostB) postings.Right, postings.one: walked. -/
section
namespace Go.Proofs.YtcflpcpkmhljkaaGreatDoor
open Go.RowKit
set_option linter.unusedVariables false

abbrev intVs (l : List Int) : List Value := l.map fun k => .int .i64 k
def Ints (w : World) (v : Value) (l : List Int) : Prop := Sl w v l.length 1 (intVs l)
theorem Ints.stays {w w' : World} {v : Value} {l : List Int} (h : Ints w v l) (hb : Below w.heap.size w w') : Ints w' v l := Sl.stays h hb
theorem Ints.value {w : World} {v : Value} {l : List Int} (h : Ints w v l) : ∃ a cap, v = .slice a l.length cap ∧ (0 < l.length → ∃ b off, a = some ⟨b, off, none⟩ ∧ ∀ j (hj : j < l.length), w.cell? ⟨b, off + j, none⟩ = some (.int .i64 l[j])) := by
  obtain ⟨_, a, cap, h2, h3⟩ := h
  refine ⟨a, cap, h2, fun hn => ?_⟩
  obtain ⟨b, off, h4, h5⟩ := h3 hn
  exact ⟨b, off, h4, fun j hj => h5 j _ (by simp [hj])⟩
/-- a posting in memory: its document, the value of its places, and these -/
abbrev PostR := Int × Value × List Int
abbrev postOf (p : PostR) : PostL := (p.1, p.2.2)
abbrev postVs (l : List PostR) : List Value := l.flatMap fun p => [.int .i64 p.1, p.2.1]
/-- a slice of postings -/
def Posts (w : World) (v : Value) (l : List PostR) : Prop := Sl w v l.length 2 (postVs l) ∧ ∀ p ∈ l, Ints w p.2.1 p.2.2
theorem Posts.stays {w w' : World} {v : Value} {l : List PostR} (h : Posts w v l) (hb : Below w.heap.size w w') : Posts w' v l := ⟨Sl.stays h.1 hb, fun p hp => (h.2 p hp).stays hb⟩
theorem postVs_at (l : List PostR) (k : Nat) (h : k < l.length) : (postVs l)[k * 2]? = some (.int .i64 l[k].1) ∧ (postVs l)[k * 2 + 1]? = some l[k].2.1 := by
  induction l generalizing k with
  | nil => simp at h
  | cons d l ih =>
    have e : postVs (d :: l) = .int .i64 d.1 :: d.2.1 :: postVs l := by simp [postVs]
    cases k with
    | zero => rw [e]; exact ⟨rfl, rfl⟩
    | succ k =>
      have := ih k (by simpa using h)
      rw [e, show (k + 1) * 2 = k * 2 + 1 + 1 by omega]
      exact this
theorem Posts.value {w : World} {v : Value} {l : List PostR} (h : Posts w v l) : ∃ a cap, v = .slice a l.length cap ∧ (0 < l.length → ∃ b off, a = some ⟨b, off, none⟩ ∧ ∀ j (hj : j < l.length), w.cell? ⟨b, off + j * 2, none⟩ = some (.int .i64 l[j].1) ∧ w.cell? ⟨b, off + j * 2 + 1, none⟩ = some l[j].2.1) := by
  obtain ⟨⟨_, a, cap, h2, h3⟩, _⟩ := h
  refine ⟨a, cap, h2, fun hn => ?_⟩
  obtain ⟨b, off, h4, h5⟩ := h3 hn
  exact ⟨b, off, h4, fun j hj => ⟨h5 _ _ (postVs_at l j hj).1, by rw [Nat.add_assoc]; exact h5 _ _ (postVs_at l j hj).2⟩⟩
abbrev postsOf (l : List PostR) : List PostL := l.map postOf

set_option maxRecDepth 100000 in
set_option maxHeartbeats 2000000 in
theorem PRight_any (v : Value) (l : List PostR) (w : World) (hv : Posts w v l) (hn : l.length ≤ 1000000000000) (hl : ∀ p ∈ l, p.2.2.length ≤ 1000000000000) :
    Calls Tryz.prog 205 #[v] w fun e w' => e = .returned (.bool (postsRight (-1) (postsOf l))) ∧ Q w w' := by
  obtain ⟨a, cap, rfl, hcell⟩ := hv.value
  have hin := hv.2
  have HC := Lib.hid hcell; have HIN := Lib.hid hin; have HL := Lib.hid hl; clear hcell hv hin hl
  have c := rising_any
  have C := Lib.hid c; clear c
  go_enter Tryz.func205, Tryz.ntmps205
  go_wp2_with fail
  go_loopw [3, 11] (fun ls i wr => ∃ (k : Nat) (last : Int), k ≤ l.length ∧ i = .int .i64 k ∧ ls = .int .i64 last ∧ Hid (postsRight (-1) (postsOf l) = postsRight last (postsOf (l.drop k))) ∧ Hid (Q w wr)) (fun _ i _ => l.length - (intOf i).toNat)
  case atStart => exact ⟨0, -1, by omega, rfl, rfl, rfl, Q.refl w⟩
  case round =>
    obtain ⟨k, last, hk, rfl, rfl, HE, HQ⟩ := hrel
    by_cases hlt : k < l.length
    · obtain ⟨b, off, rfl, hc⟩ := HC.out (by omega)
      obtain ⟨hc1, hc2⟩ := hc k hlt
      have hw1 := cell_stays HQ.out hc1
      have hw2 := cell_stays HQ.out hc2
      have hpos := HIN.out _ (List.getElem_mem hlt)
      have hlen := HL.out _ (List.getElem_mem hlt)
      have hstep : postsRight last (postsOf (l.drop k)) = (decide (last < l[k].1) && decide (l[k].1 < 500) && !l[k].2.2.isEmpty && risingI (-1) l[k].2.2 2000 && postsRight l[k].1 (postsOf (l.drop (k + 1)))) := by
        rw [List.drop_eq_getElem_cons hlt]; rfl
      clear hc hc1 hc2
      generalize l[k] = p at *
      obtain ⟨d, pv, ps⟩ := p
      simp only at hw1 hw2 hpos hlen hstep
      obtain ⟨pa, pcap, rfl, hpc⟩ := hpos.value
      have HS := Lib.hid hstep; have HPC := Lib.hid hpc; clear hstep hpos hpc
      obtain ⟨wo, rfl⟩ : ∃ wo : World, wo = wr := ⟨_, rfl⟩
      go_wp2_with fail
      refine (C.out _ _ _ _).mono ?_
      rintro e w1 ⟨rfl, rfl⟩
      cases hr : (decide (last < d) && decide (d < 500)) with
      | false =>
        have hres : postsRight (-1) (postsOf l) = false := by rw [HE.out, HS.out, hr]; rfl
        have HR := Lib.hid hres; clear hr hres
        go_wp2_with fail
        go_ret
        exact ⟨ret_bool HR.out.symm, HQ.out.trans (Q.alloc _ _)⟩
      | true =>
        have HR1 := Lib.hid hr; clear hr
        by_cases h0 : ps.length = 0
        · have hres : postsRight (-1) (postsOf l) = false := by
            have : ps = [] := List.eq_nil_of_length_eq_zero h0
            rw [HE.out, HS.out, HR1.out, this]; rfl
          have HR := Lib.hid hres; clear hres
          have hz : ((ps.length : Int) == 0) = true := by rw [h0]; rfl
          clear h0
          go_wp2_with fail
          go_ret
          exact ⟨ret_bool HR.out.symm, HQ.out.trans (Q.alloc _ _)⟩
        · have hz : ((ps.length : Int) == 0) = false := by simpa using h0
          have hne : (!ps.isEmpty) = true := by cases ps <;> simp_all
          have HNE := Lib.hid hne; have H0 := Lib.hid h0; clear hne h0
          go_wp2_with fail
          go_loopw [6, 31] (fun at_ i wr => ∃ (j : Nat) (x : Int), j ≤ ps.length ∧ i = .int .i64 j ∧ at_ = .int .i64 x ∧ Hid (risingI (-1) ps 2000 = risingI x (ps.drop j) 2000) ∧ Hid (Q w wr)) (fun _ i _ => ps.length - (intOf i).toNat)
          case atStart => exact ⟨0, -1, by omega, rfl, rfl, rfl, HQ.out.trans (Q.alloc _ _)⟩
          case round =>
            obtain ⟨j, x, hj, rfl, rfl, HJ, HQ2⟩ := hrel
            by_cases hjl : j < ps.length
            · obtain ⟨b2, off2, rfl, hc2⟩ := HPC.out (by omega)
              have hw3 := cell_stays HQ2.out ((hc2 j hjl))
              have hst : risingI x (ps.drop j) 2000 = (decide (x < ps[j]) && decide (ps[j] < 2000) && risingI ps[j] (ps.drop (j + 1)) 2000) := by
                rw [List.drop_eq_getElem_cons hjl]; rfl
              clear hc2
              generalize ps[j] = y at *
              have HST := Lib.hid hst; clear hst
              go_wp2_with fail
              refine (C.out _ _ _ _).mono ?_
              rintro e w1 ⟨rfl, rfl⟩
              cases hr2 : (decide (x < y) && decide (y < 2000)) with
              | false =>
                have hres : postsRight (-1) (postsOf l) = false := by rw [HE.out, HS.out, HJ.out, HST.out, hr2]; simp
                have HR := Lib.hid hres; clear hr2 hres
                go_wp2_with fail
                go_ret
                exact ⟨ret_bool HR.out.symm, HQ2.out⟩
              | true =>
                have HR2 := Lib.hid hr2; clear hr2
                go_wp2_with fail
                go_roundw
                case rel => exact ⟨j + 1, y, by omega, by go_num, rfl, by show _ = _; rw [HJ.out, HST.out, HR2.out]; rfl, HQ2.out⟩
                case measure => simp [intOf]; omega
            · have hri : risingI (-1) ps 2000 = true := by rw [HJ.out, List.drop_eq_nil_of_le (by omega)]; rfl
              have HRI := Lib.hid hri; clear hri
              go_wp2_with fail
              go_roundw
              case rel => exact ⟨k + 1, d, by omega, by go_num, rfl, by show _ = _; rw [HE.out, HS.out, HR1.out, HNE.out, HRI.out]; rfl, HQ2.out⟩
              case measure => simp [intOf]; omega
    · have he : postsRight (-1) (postsOf l) = true := by rw [HE.out, List.drop_eq_nil_of_le (by omega)]; rfl
      have HEE := Lib.hid he; clear he
      go_wp2_with fail
      go_ret
      exact ⟨ret_bool HEE.out.symm, HQ.out⟩

theorem gaps_take (l : List Int) (at_ : Int) (k : Nat) (h : k < l.length) : gapsL at_ (l.take (k + 1)) = gapsL at_ (l.take k) ++ [(l[k] - (if k = 0 then at_ else l.getD (k - 1) 0)).toNat] := by
  induction l generalizing at_ k with
  | nil => simp at h
  | cons x l ih =>
    cases k with
    | zero => simp [gapsL]
    | succ k =>
      have := ih x k (by simpa using h)
      simp only [List.take_succ_cons, gapsL, this, List.cons_append, List.getElem_cons_succ]
      cases k with
      | zero => simp
      | succ k => simp
theorem length_gaps (l : List Int) (a : Int) : (gapsL a l).length = l.length := by
  induction l generalizing a with
  | nil => rfl
  | cons x l ih => simp [gapsL, ih]
theorem tinfo132 : (Tryz.prog.info? 132).map (fun i => (i.zero, i.size, i.bytes)) = some (some (.int .u64 0), 1, 8) := by kernel_rfl
/-- the places rise from 'a' on -/
def Rises : Int → List Int → Prop
  | _, [] => True
  | a, x :: l => a < x ∧ x < 2000 ∧ Rises x l
theorem rises_of (a : Int) (l : List Int) (h : risingI a l 2000 = true) : Rises a l := by
  induction l generalizing a with
  | nil => trivial
  | cons x l ih =>
    simp only [risingI, Bool.and_eq_true, decide_eq_true_eq] at h
    exact ⟨h.1.1, h.1.2, ih x h.2⟩
theorem Rises.at_ (a : Int) (l : List Int) (h : Rises a l) (k : Nat) (hk : k < l.length) : (if k = 0 then a else l.getD (k - 1) 0) < l[k] ∧ l[k] < 2000 ∧ a ≤ (if k = 0 then a else l.getD (k - 1) 0) := by
  induction l generalizing a k with
  | nil => simp at hk
  | cons x l ih =>
    cases k with
    | zero => exact ⟨by simpa using h.1, h.2.1, by simp⟩
    | succ k =>
      have := ih x h.2.2 k (by simpa using hk)
      have hx := h.1
      cases k with
      | zero => simp at this ⊢; exact ⟨this.1, this.2, by omega⟩
      | succ k => simp at this ⊢; exact ⟨this.1, this.2.1, by omega⟩
abbrev u64Vs (ns : List Nat) : List Value := ns.map fun n : Nat => .int .u64 (n : Int)
def oneNums (d last : Int) (ps : List Int) (k : Nat) : List Nat := (d - last).toNat :: ps.length :: gapsL (-1) (ps.take k)
theorem gaps_lt (l : List Int) (a : Int) (h : Rises a l) (ha : -1 ≤ a) : ∀ n ∈ gapsL a l, n < 18446744073709551616 := by
  induction l generalizing a with
  | nil => intro n hn; simp [gapsL] at hn
  | cons x l ih =>
    obtain ⟨h1, h2, h3⟩ := h
    intro n hn
    simp only [gapsL, List.mem_cons] at hn
    rcases hn with hn | hn
    · omega
    · exact ih x h3 (by omega) n hn
theorem owns_lit (W : World) (base : Nat) (e : TypeId) (cs : Array Value) (n : Nat) (hn : cs.size = n) (hb : base ≤ W.heap.size) (hm : n ≤ maxLen) : (W.alloc (.cells cs e)).ownsRow base e 1 (.slice (some ⟨W.heap.size, 0, none⟩) n n) n cs.toList :=
  ⟨by simpa using hn, .inr ⟨W.heap.size, n, cs, rfl, hb, heap_alloc_new W _, Nat.le_refl _, hm, by omega, by rw [List.take_of_length_le]; simp; omega⟩⟩
set_option maxRecDepth 100000 in
set_option maxHeartbeats 2000000 in
/-- a posting's bytes behind a document: where both are right -/
theorem one_any (d last : Int) (pv : Value) (ps : List Int) (w : World) (hv : Ints w pv ps) (hd : last < d) (h1 : -1 ≤ last) (h2 : d < 500) (hr : Rises (-1) ps) (hn : ps.length ≤ 1000000) :
    Calls Tryz.prog 207 #[.agg #[.int .i64 d, pv], .int .i64 last] w fun e w' => e = .returned (.string ⟨(oneE (d, ps) last).toArray⟩) ∧ Q w w' := by
  obtain ⟨a, cap, rfl, hcell⟩ := hv.value
  have HC := Lib.hid hcell; have HR := Lib.hid hr; clear hcell hv hr
  obtain ⟨i0, hi, hz0, hz1, hz2⟩ := info_parts tinfo132
  go_enter Tryz.func207, Tryz.ntmps207
  have hnum : ((d - last).toNat : Int) = d - last := by omega
  go_wp2_with fail
  go_loopw [5, 6, 22] (fun lv at_ i wr => ∃ (k : Nat) (x : Int), k ≤ ps.length ∧ i = .int .i64 k ∧ at_ = .int .i64 x ∧ Hid (x = if k = 0 then -1 else ps.getD (k - 1) 0) ∧
      Hid (wr.ownsRow w.heap.size 132 1 lv (oneNums d last ps k).length (u64Vs (oneNums d last ps k))) ∧ Hid (Below w.heap.size w wr)) (fun _ _ i _ => ps.length - (intOf i).toNat)
  case atStart =>
    refine ⟨0, -1, by omega, rfl, rfl, rfl, ?_, ((Below.refl _ _).alloc (Nat.le_refl _) _).alloc (by simp) _⟩
    have := owns_lit (w.alloc (.cells #[.int .i64 d, .slice a ps.length cap] 211)) w.heap.size 132 #[.int .u64 (d - last), .int .u64 ps.length] 2 rfl (by simp) (by decide)
    have e : u64Vs (oneNums d last ps 0) = [.int .u64 (d - last), .int .u64 ps.length] := by simp [oneNums, gapsL, u64Vs, hnum]
    show World.ownsRow _ _ _ _ _ _ _
    have e0 : (oneNums d last ps 0).length = 2 := by simp [oneNums, gapsL]
    rw [e, e0]
    simpa using this
  case round =>
    obtain ⟨k, x, hk, rfl, rfl, HX, HO, HB⟩ := hrel
    obtain ⟨wo, rfl⟩ : ∃ wo : World, wo = wr := ⟨_, rfl⟩
    have hln : (oneNums d last ps k).length = k + 2 := by simp [oneNums, length_gaps]; omega
    by_cases hlt : k < ps.length
    · obtain ⟨b, off, rfl, hc⟩ := HC.out (by omega)
      have hw := cell_stays HB.out (hc k hlt)
      obtain ⟨q1, q2, q3⟩ := Rises.at_ _ _ HR.out k hlt
      rw [← HX.out] at q1 q3
      have hst : oneNums d last ps (k + 1) = oneNums d last ps k ++ [(ps[k] - x).toNat] := by
        unfold oneNums
        rw [gaps_take ps (-1) k hlt, HX.out]; rfl
      have hnext : ps[k] = if k + 1 = 0 then -1 else ps.getD (k + 1 - 1) 0 := by
        rw [if_neg (by omega), List.getD_eq_getElem?_getD, show k + 1 - 1 = k by omega, List.getElem?_eq_getElem hlt]; rfl
      clear hc
      generalize ps[k] = y at *
      have hyn : ((y - x).toNat : Int) = y - x := by omega
      have e : u64Vs (oneNums d last ps k) ++ (#[.int .u64 (y - x)] : Array Value).toList = u64Vs (oneNums d last ps (k + 1)) := by rw [hst]; simp [u64Vs, hyn]
      have el : (oneNums d last ps k).length + 1 = (oneNums d last ps (k + 1)).length := by rw [hst]; simp
      have HST := Lib.hid hst; have HN := Lib.hid hnext; have E := Lib.hid e; have EL := Lib.hid el; have HLN := Lib.hid hln
      have hown := HO.out
      have hsz := HB.out.size
      have hll : ((oneNums d last ps k).length + 1) * 8 ≤ 140737488355328 := by omega
      clear hst hnext hyn e el hln
      go_wp2_with (at_builtin; go_must (refine wpList_app wo (by rfl) _ _ 258 (by rfl) w.heap.size 132 _ i0 (.int .u64 0) 1 8 Tryz.underlying258 hi hz0 hz1 hz2 rfl (by decide) (by decide) _ _ _ (by rfl) hown #[.int .u64 (y - x)] (by rfl) rfl ?c1 ?c2 hsz ?_))
      case c1 => simp [Value.oneCell']
      try (case c2 => exact hll)
      intro g cp w4 hown1 hg1 hat hlt1 hsz1
      have hb1 := HB.out.grown hg1 HB.out.size (fun k hk => by have := (hown.lt k hk).1; omega)
      rw [E.out, EL.out] at hown1
      clear hown hat hg1
      have HB1 := Lib.hid hb1; have HO1 := Lib.hid hown1; clear hb1 hown1
      go_wp2_with fail
      go_roundw
      case rel => exact ⟨k + 1, y, by omega, by go_num, rfl, HN.out, by rw [EL.out]; exact HO1, HB1⟩
      case measure => simp [intOf]; omega
    · have hkk : k = ps.length := by omega
      subst hkk
      have ef : oneE (d, ps) last = varsE (oneNums d last ps ps.length) := by unfold oneNums; rw [List.take_length]; rfl
      have c := Var_any _ (oneNums d last ps ps.length) wo (Sl.of_owns HO.out) (by omega) (by
        intro n hn
        unfold oneNums at hn
        simp only [List.mem_cons] at hn
        rcases hn with hn | hn | hn
        · omega
        · omega
        · have := gaps_lt ps (-1) HR.out (by omega) n (by rw [List.take_length] at hn; exact hn); omega)
      have C := Lib.hid c; have EF := Lib.hid ef; clear c ef hln
      go_wp2_with fail
      refine C.out.mono ?_
      rintro e w3 ⟨rfl, q3⟩
      have HQ3 := Lib.hid q3; clear q3
      go_wp2_with fail
      go_ret
      exact ⟨ret_str EF.out.symm, HB.out.trans (HQ3.out.mono HB.out.size)⟩
end Go.Proofs.YtcflpcpkmhljkaaGreatDoor
end

/- (WIdxR) segment.index: the region that puts a place behind a posting. -/
section
namespace Go.Proofs.YtcflpcpkmhljkaaGreatDoor
open Go.RowKit
set_option linter.unusedVariables false

theorem grown_of {w V wa : World} {row : Option Nat} (q : Q w V) (h : V.grownBy wa row) : w.grownBy wa row :=
  { os := h.os.trans q.os, tape := h.tape.trans q.tape, output := h.output.trans q.output, size := Nat.le_trans q.size h.size, block := fun k hk hr => (h.block k (Nat.lt_of_lt_of_le hk q.size) hr).trans (q.block k hk) }
theorem cell_drew (w : World) (a : Addr) : w.drew.cell? a = w.cell? a := rfl
theorem frozen_drew (w : World) (a : Addr) : w.drew.frozen? a = w.frozen? a := rfl
theorem rowAl {w : World} {base : Nat} {e : TypeId} {size : Nat} {v : Value} {n : Nat} {xs : List Value} (o : Obj) (h : w.ownsRow base e size v n xs) : (w.alloc o).ownsRow base e size v n xs := h.alloc _
theorem rowDr {w : World} {base : Nat} {e : TypeId} {size : Nat} {v : Value} {n : Nat} {xs : List Value} (h : w.ownsRow base e size v n xs) : w.drew.ownsRow base e size v n xs := h
theorem frozen_far {w wa : World} {row : Option Nat} (hg : w.grownBy wa row) {a : Addr} (hl : a.block < w.heap.size) (hne : row ≠ some a.block) : wa.frozen? a = w.frozen? a := by
  have := hg.block a.block hl (fun e => hne e.symm)
  simp [World.frozen?, this]
theorem frozen_stays {w w' : World} (q : Q w w') {a : Addr} (hl : a.block < w.heap.size) : w'.frozen? a = w.frozen? a := by
  have := q.block a.block hl
  simp [World.frozen?, this]
theorem drewSize (w : World) : w.drew.heap.size = w.heap.size := rfl
noncomputable def idxRow : Code := ((Tryz.f138.body.bind (findRegion 12)).getD .skip)
theorem tinfo3 : (Tryz.prog.info? 3).map (fun i => (i.zero, i.size, i.bytes)) = some (some (.int .i64 0), 1, 8) := by kernel_rfl
set_option maxRecDepth 100000 in
set_option maxHeartbeats 1000000 in
theorem idx_row (base g off X : Nat) (q : Int) (v : Value) (ps : List Int) (w : World) (cL : w.cell? ⟨g, off + 1, none⟩ = some v) (cF : w.frozen? ⟨g, off + 1, none⟩ = false) (cX : w.cell? ⟨X, 1, none⟩ = some (.int .i64 q))
    (hown : w.ownsRow base 3 1 v ps.length (intVs ps)) (hb : base ≤ w.heap.size) (hlen : ps.length ≤ 1000000000) (hgt : v.ownBlock ≠ some g)
    (Qx : Exit → Act → World → Prop) (x0 x1 x2 x3 x4 x5 x6 x8 x10 x11 x12 x13 x14 x15 x16 x17 x18 x19 x20 x21 x22 x23 x24 x25 x26 x27 x28 x29 x30 x31 x32 x33 x34 x35 x36 x37 x38 x39 x40 x41 x42 x43 x44 x45 x46 x47 x48 x49 x50 x51 x52 x53 x54 x55 x56 x57 x58 x59 x60 x61 x62 x63 x64 x65 x66 x67 x68 x69 x70 x71 x72 x73 x74 x75 x76 x77 x78 x79 x80 x81 x82 x83 x84 x85 x86 x87 x88 x89 x90 x91 x92 x93 x94 x95 x96 x97 x98 x99 x100 x101 x102 x103 x104 x105 : Value)
    (hQ : ∀ wa g2 cap z61 z62 z63 z64 z65 z66 z67 z68 z69 z70 z71, wa.ownsRow base 3 1 (.slice (some ⟨g2, 0, none⟩) (ps.length + 1) cap) (ps.length + 1) (intVs (ps ++ [q])) → w.grownBy wa v.ownBlock → (v.ownBlock = some g2 ∨ w.heap.size < g2) → g2 < wa.heap.size →
      Qx .normal ⟨#[x0, x1, x2, x3, x4, x5, x6, .pointer (some ⟨X, 0, none⟩), x8, .pointer (some ⟨g, off, none⟩), x10, x11, x12, x13, x14, x15, x16, x17, x18, x19, x20, x21, x22, x23, x24, x25, x26, x27, x28, x29, x30, x31, x32, x33, x34, x35, x36, x37, x38, x39, x40, x41, x42, x43, x44, x45, x46, x47, x48, x49, x50, x51, x52, x53, x54, x55, x56, x57, x58, x59, x60, z61, z62, z63, z64, z65, z66, z67, z68, z69, z70, z71, x72, x73, x74, x75, x76, x77, x78, x79, x80, x81, x82, x83, x84, x85, x86, x87, x88, x89, x90, x91, x92, x93, x94, x95, x96, x97, x98, x99, x100, x101, x102, x103, x104, x105], []⟩ (wa.setCell ⟨g, off + 1, none⟩ (.slice (some ⟨g2, 0, none⟩) (ps.length + 1) cap))) :
    idxRow.wp Tryz.prog Qx ⟨#[x0, x1, x2, x3, x4, x5, x6, .pointer (some ⟨X, 0, none⟩), x8, .pointer (some ⟨g, off, none⟩), x10, x11, x12, x13, x14, x15, x16, x17, x18, x19, x20, x21, x22, x23, x24, x25, x26, x27, x28, x29, x30, x31, x32, x33, x34, x35, x36, x37, x38, x39, x40, x41, x42, x43, x44, x45, x46, x47, x48, x49, x50, x51, x52, x53, x54, x55, x56, x57, x58, x59, x60, x61, x62, x63, x64, x65, x66, x67, x68, x69, x70, x71, x72, x73, x74, x75, x76, x77, x78, x79, x80, x81, x82, x83, x84, x85, x86, x87, x88, x89, x90, x91, x92, x93, x94, x95, x96, x97, x98, x99, x100, x101, x102, x103, x104, x105], []⟩ w := by
  obtain ⟨i0, hi, hz0, hz1, hz2⟩ := info_parts tinfo3
  conv => arg 2; whnf
  have hmx : Tryz.prog.follows .mixedOrders = true := by kernel_rfl
  have HQX := Lib.hid hQ; clear hQ
  have HO := Lib.hid hown; clear hown
  have hgl : g < w.heap.size := cell_lt cL
  have hXl : X < w.heap.size := cell_lt cX
  have hB1 : (ps.length + 1) * 8 ≤ 140737488355328 := by omega
  have hB2 : ps.length + 1 ≤ maxLen := by unfold maxLen; omega
  have hone : ∀ u ∈ [Value.int .i64 q], u.oneCell' = true := by simp [Value.oneCell']
  have hb2 : base ≤ (w.alloc (.cells #[.int .i64 q] 3)).drew.heap.size := by simp [drewSize]; omega
  have hq : Q w (w.alloc (.cells #[.int .i64 q] 3)).drew := (Q.alloc w _).trans (Q.drew _)
  have hH : (w.alloc (.cells #[.int .i64 q] 3)).drew.heap.size = w.heap.size + 1 := by simp [drewSize]
  refine wp_region_noPanic ?_
  go_region_law (first | (refine step_append_lies _ (by rfl) _ _ 209 (by rfl) base 3 i0 (.int .i64 0) 1 8 Tryz.underlying209 hi hz0 hz1 hz2 rfl (by decide) v ps.length (intVs ps) (by rfl) (rowDr (rowAl _ HO.out)) ⟨w.heap.size, 0, none⟩ 1 1 [.int .i64 q] (by rfl) rfl (World.news_of_block (heap_alloc_new w _)) hone (by decide) hB2 hB1 hb2 (w.heap.size + 1) hH ?_; intro g2 cap wa hown1 hgrow hat hlt; have hgr := grown_of hq hgrow; have cw := hgr.cell cL (Ne.symm hgt); have fw := (frozen_far hgr hgl hgt).trans cF; have HW := Lib.hid hown1; have HG := Lib.hid hgr; clear hown1 hgr hgrow))
  all_goals exact HQX.out wa g2 cap _ _ _ _ _ _ _ _ _ _ _ (by simpa [intVs] using HW.out) HG.out (hat.imp id (fun h => by omega)) hlt
end Go.Proofs.YtcflpcpkmhljkaaGreatDoor
end

/- (IxMem) A family of rows that lie apart; the postings under way in segment.index: in memory, and plain. No program is walked. -/
section
namespace Go.Proofs.YtcflpcpkmhljkaaGreatDoor
open Go.RowKit
set_option linter.unusedVariables false

structure RowS where
  e : TypeId
  size : Nat
  v : Value
  n : Nat
  xs : List Value
abbrev KeyX := Bytes × Option Int
/-- rows, each under a key, each owned, no two in one block -/
structure Fam (W : World) (base : Nat) (F : KeyX → Option RowS) : Prop where
  owns : ∀ κ r, F κ = some r → W.ownsRow base r.e r.size r.v r.n r.xs
  apart : ∀ κ κ' r r' g, F κ = some r → F κ' = some r' → r.v.ownBlock = some g → r'.v.ownBlock = some g → κ = κ'
def updF (F : KeyX → Option RowS) (κ : KeyX) (r : RowS) : KeyX → Option RowS := fun x => if x = κ then some r else F x
theorem updF_same (F : KeyX → Option RowS) (κ : KeyX) (r : RowS) : updF F κ r κ = some r := by simp [updF]
theorem updF_other {F : KeyX → Option RowS} {κ κ' : KeyX} {r : RowS} (h : κ' ≠ κ) : updF F κ r κ' = F κ' := by simp [updF, h]
theorem Fam.q {W W' : World} {base : Nat} {F : KeyX → Option RowS} (h : Fam W base F) (q : Q W W') : Fam W' base F := ⟨fun κ r hr => ownsRow_below (h.owns κ r hr) q, h.apart⟩
theorem Fam.empty (W : World) (base : Nat) : Fam W base fun _ => none := ⟨fun _ _ h => (by cases h), fun _ _ _ _ _ h => (by cases h)⟩
/-- one row turns: in its block, or to a new one -/
theorem Fam.put {W W' : World} {base : Nat} {F : KeyX → Option RowS} (h : Fam W base F) {κ : KeyX} {row : Option Nat} (hg : W.grownBy W' row) (hrow : ∀ g, row = some g → ∃ r, F κ = some r ∧ r.v.ownBlock = some g)
    (r : RowS) (ho : W'.ownsRow base r.e r.size r.v r.n r.xs) (hat : ∀ g, r.v.ownBlock = some g → row = some g ∨ W.heap.size ≤ g) : Fam W' base (updF F κ r) := by
  have key : ∀ κ' s, κ' ≠ κ → F κ' = some s → ∀ g, s.v.ownBlock = some g → row ≠ some g := by
    intro κ' s hne hs g hg' e
    obtain ⟨r0, h0, h1⟩ := hrow g e
    exact hne (h.apart κ' κ s r0 g hs h0 hg' h1)
  have lt : ∀ κ' s, F κ' = some s → ∀ g, s.v.ownBlock = some g → g < W.heap.size := fun κ' s hs g hg' => ((h.owns κ' s hs).lt g hg').2
  refine ⟨fun κ' s hs => ?_, fun κ1 κ2 r1 r2 g h1 h2 b1 b2 => ?_⟩
  · by_cases hk : κ' = κ
    · rw [hk, updF_same] at hs; cases hs; exact ho
    · rw [updF_other hk] at hs
      refine (h.owns κ' s hs).kept hg ?_
      cases hb : s.v.ownBlock with
      | none => exact .inl rfl
      | some g => exact .inr (fun e => key κ' s hk hs g hb e.symm)
  · by_cases hk1 : κ1 = κ
    · by_cases hk2 : κ2 = κ
      · rw [hk1, hk2]
      · exfalso
        rw [hk1, updF_same] at h1; cases h1
        rw [updF_other hk2] at h2
        rcases hat g b1 with e | e
        · exact key κ2 r2 hk2 h2 g b2 e
        · have := lt κ2 r2 h2 g b2; omega
    · by_cases hk2 : κ2 = κ
      · exfalso
        rw [hk2, updF_same] at h2; cases h2
        rw [updF_other hk1] at h1
        rcases hat g b2 with e | e
        · exact key κ1 r1 hk1 h1 g b1 e
        · have := lt κ1 r1 h1 g b1; omega
      · rw [updF_other hk1] at h1; rw [updF_other hk2] at h2
        exact h.apart κ1 κ2 r1 r2 g h1 h2 b1 b2
/-- a block that is no row turns -/
theorem Fam.kept {W W' : World} {base : Nat} {F : KeyX → Option RowS} (h : Fam W base F) {row : Option Nat} (hg : W.grownBy W' row) (hrow : ∀ g, row = some g → ∀ κ r, F κ = some r → r.v.ownBlock ≠ some g) : Fam W' base F := by
  refine ⟨fun κ r hr => (h.owns κ r hr).kept hg ?_, h.apart⟩
  cases hb : r.v.ownBlock with
  | none => exact .inl rfl
  | some g => exact .inr (fun e => hrow g e.symm κ r hr hb)
theorem grownBy_setCellAt (W : World) (b i : Nat) (v : Value) : W.grownBy (W.setCell ⟨b, i, none⟩ v) (some b) :=
  ⟨rfl, rfl, rfl, (KeepsWalks.setCell W _ v).size, fun k _ hk => Below.heap_setCell _ _ _ k (fun e => hk (by rw [e]))⟩
/-- a store into an owned row -/
theorem owns_setAt {W : World} {base : Nat} {e : TypeId} {size g n cap : Nat} {xs : List Value} (h : W.ownsRow base e size (.slice (some ⟨g, 0, none⟩) n cap) n xs) (i : Nat) (hi : i < xs.length) (u : Value) :
    (W.setCell ⟨g, i, none⟩ u).ownsRow base e size (.slice (some ⟨g, 0, none⟩) n cap) n (xs.set i u) := by
  obtain ⟨h1, h2⟩ := h
  refine ⟨by rw [List.length_set]; exact h1, ?_⟩
  rcases h2 with ⟨hv, _⟩ | ⟨g', cap', cur, hv, hb, hg, hc1, hc2, hc3, ht⟩
  · cases hv
  · injection hv with e1 e2 e3
    injection e1 with e1
    injection e1 with e1
    subst e1; subst e3
    refine .inr ⟨g, cap, cur.setIfInBounds i u, rfl, hb, ?_, hc1, hc2, by simpa using hc3, ?_⟩
    · simp [World.setCell, Array.getElem?_modify, hg]
    · have hxs : xs.length ≤ cur.size := by rw [h1, hc3]; exact Nat.mul_le_mul_right _ hc1
      rw [Array.toList_setIfInBounds, ← ht, List.take_set]
/-- what is no row of places, no row of postings and no map lies as it lay -/
structure Ki (A B : World) : Prop where
  size : A.heap.size ≤ B.heap.size
  get : ∀ (k : Nat) (cs : Array Value) (t : TypeId) (fz : Nat × Nat), A.heap[k]? = some (.cells cs t fz) → t ≠ 3 → t ≠ 211 → B.heap[k]? = some (.cells cs t fz)
theorem Ki.refl (A : World) : Ki A A := ⟨Nat.le_refl _, fun _ _ _ _ h _ _ => h⟩
theorem Ki.trans {A B C : World} (h : Ki A B) (k : Ki B C) : Ki A C := ⟨Nat.le_trans h.size k.size, fun i cs t fz h1 h2 h3 => k.get i cs t fz (h.get i cs t fz h1 h2 h3) h2 h3⟩
theorem Ki.of_q {A B : World} (q : Q A B) : Ki A B := ⟨q.size, fun k cs t fz h _ _ => (q.block k (lt_of_get h)).trans h⟩
theorem Ki.grown {A B : World} {row : Option Nat} (hg : A.grownBy B row) (hrow : ∀ g, row = some g → ∀ (cs : Array Value) (t : TypeId) (fz : Nat × Nat), A.heap[g]? = some (.cells cs t fz) → t = 3 ∨ t = 211) : Ki A B :=
  ⟨hg.size, fun k cs t fz h h1 h2 => (hg.block k (lt_of_get h) (fun e => by
    rcases hrow k e.symm cs t fz h with h3 | h3
    · exact h1 h3
    · exact h2 h3)).trans h⟩
theorem Ki.boxed {A B : World} (h : Ki A B) {k : Nat} {t : TypeId} {v : Value} (hb : Boxed A k t v) (h1 : t ≠ 3) (h2 : t ≠ 211) : Boxed B k t v := h.get _ _ _ _ hb h1 h2
theorem Ki.owns {A B : World} (h : Ki A B) {base : Nat} {e : TypeId} {size : Nat} {v : Value} {n : Nat} {xs : List Value} (hr : A.ownsRow base e size v n xs) (h1 : e ≠ 3) (h2 : e ≠ 211) : B.ownsRow base e size v n xs := by
  obtain ⟨a, b⟩ := hr
  refine ⟨a, ?_⟩
  rcases b with b | ⟨g, cap, cur, hv, hb, hg, rest⟩
  · exact .inl b
  · exact .inr ⟨g, cap, cur, hv, hb, h.get _ _ _ _ hg h1 h2, rest⟩
end Go.Proofs.YtcflpcpkmhljkaaGreatDoor
end

/- (Ix) segment.index: the postings under way, plain and in memory. -/
section
namespace Go.Proofs.YtcflpcpkmhljkaaGreatDoor
open Go.RowKit
set_option linter.unusedVariables false

/-! ### plain -/
abbrev IxA := List (Bytes × List PostL)
def addP (i q : Int) (l : List PostL) : List PostL :=
  match l.getLast? with
  | some x => if x.1 = i then l.dropLast ++ [(i, x.2 ++ [q])] else l ++ [(i, [q])]
  | none => [(i, [q])]
def addTok (i : Int) (A : IxA) (x : Bytes × Nat) : IxA := putM x.1 (addP i x.2 ((getM x.1 A).getD [])) A
theorem addP_old (i q : Int) (l : List PostL) (ps : List Int) : addP i q (l ++ [(i, ps)]) = l ++ [(i, ps ++ [q])] := by
  unfold addP; rw [List.getLast?_concat]; simp
theorem addP_new (i q : Int) (l : List PostL) (h : ∀ x ∈ l, x.1 ≠ i) : addP i q l = l ++ [(i, [q])] := by
  unfold addP
  cases hl : l.getLast? with
  | none => rw [List.getLast?_eq_none_iff.1 hl]; rfl
  | some x => simp [h x (List.mem_of_getLast? hl)]
theorem getM_map {α β : Type} (f : α → β) (k : Bytes) (m : List (Bytes × α)) : getM k (m.map fun e => (e.1, f e.2)) = (getM k m).map f := by
  induction m with
  | nil => rfl
  | cons x m ih => simp only [List.map_cons, getM]; split <;> simp [ih]
theorem putM_map {α β : Type} (f : α → β) (k : Bytes) (v : α) (m : List (Bytes × α)) : (putM k v m).map (fun e => (e.1, f e.2)) = putM k (f v) (m.map fun e => (e.1, f e.2)) := by
  induction m with
  | nil => rfl
  | cons x m ih => simp only [List.map_cons, putM]; split <;> simp [ih]
theorem putM_length {α : Type} (k : Bytes) (v : α) (m : List (Bytes × α)) : (putM k v m).length ≤ m.length + 1 := by
  induction m with
  | nil => simp [putM]
  | cons x m ih => simp only [putM]; split <;> simp; omega
/-- the postings of one term, in the document i after j of its tokens -/
structure PWf (l : List PostL) (i : Int) (j : Nat) : Prop where
  some : l ≠ []
  rise : (l.map (·.1)).Pairwise (· < ·)
  doc : ∀ x ∈ l, 0 ≤ x.1 ∧ x.1 ≤ i
  long : ∀ x ∈ l, x.2.length ≤ 2001
  last : ∀ x ∈ l, x.1 = i → x.2.length ≤ j
structure AWf (A : IxA) (i : Int) (j : Nat) : Prop where
  keys : (A.map (·.1)).Nodup
  small : ∀ x ∈ A, x.1.length ≤ 40
  count : (A.length : Int) ≤ 2001 * i + j
  posts : ∀ t l, getM t A = some l → PWf l i j
theorem AWf.nil : AWf [] 0 0 := ⟨by simp, by simp, by simp, fun _ _ h => (by cases h)⟩
theorem PWf.more {l : List PostL} {i : Int} {j : Nat} (h : PWf l i j) : PWf l i (j + 1) := ⟨h.some, h.rise, h.doc, h.long, fun x hx e => by have := h.last x hx e; omega⟩
theorem AWf.next {A : IxA} {i : Int} {j : Nat} (h : AWf A i j) (hj : j ≤ 2001) : AWf A (i + 1) 0 :=
  ⟨h.keys, h.small, by have := h.count; omega, fun t l hl => by
    have p := h.posts t l hl
    exact ⟨p.some, p.rise, fun x hx => by have := p.doc x hx; omega, p.long, fun x hx e => by have := (p.doc x hx).2; omega⟩⟩
/-- the last posting is of the document i, or none is -/
theorem PWf.parts {l : List PostL} {i : Int} {j : Nat} (h : PWf l i j) : (∃ l0 ps, l = l0 ++ [(i, ps)] ∧ (∀ x ∈ l0, x.1 < i) ∧ ps.length ≤ j) ∨ (∀ x ∈ l, x.1 < i) := by
  obtain ⟨l0, x, rfl⟩ : ∃ l0 x, l = l0 ++ [x] := ⟨l.dropLast, l.getLast h.some, (List.dropLast_concat_getLast h.some).symm⟩
  have hr := h.rise
  rw [List.map_append, List.pairwise_append] at hr
  have hlt : ∀ y ∈ l0, y.1 < x.1 := fun y hy => hr.2.2 _ (List.mem_map_of_mem hy) _ (by simp)
  have hx := (h.doc x (by simp)).2
  by_cases e : x.1 = i
  · refine .inl ⟨l0, x.2, by rw [← e], fun y hy => by have := hlt y hy; omega, h.last x (by simp) e⟩
  · refine .inr fun y hy => ?_
    rcases List.mem_append.1 hy with hy | hy
    · have := hlt y hy; omega
    · rw [List.mem_singleton] at hy; subst hy; omega
theorem PWf.add {l : List PostL} {i : Int} {j : Nat} (h : l = [] ∨ PWf l i j) (hi : 0 ≤ i) (hj : j < 2001) (q : Int) : PWf (addP i q l) i (j + 1) := by
  have new : ∀ l : List PostL, (∀ x ∈ l, x.1 < i) → (l = [] ∨ PWf l i j) → PWf (addP i q l) i (j + 1) := by
    intro l hlt hl
    rw [addP_new i q l (fun x hx e => by have := hlt x hx; omega)]
    have hrise : (l.map (·.1)).Pairwise (· < ·) := by (rcases hl with rfl | p <;> first | exact p.rise | simp)
    have hdoc : ∀ x ∈ l, 0 ≤ x.1 ∧ x.1 ≤ i := by (rcases hl with rfl | p <;> first | exact p.doc | simp)
    have hlong : ∀ x ∈ l, x.2.length ≤ 2001 := by (rcases hl with rfl | p <;> first | exact p.long | simp)
    refine ⟨by simp, ?_, ?_, ?_, ?_⟩
    · rw [List.map_append, List.pairwise_append]
      refine ⟨hrise, by simp, fun a ha b hb => ?_⟩
      obtain ⟨x, hx, rfl⟩ := List.mem_map.1 ha
      simp at hb; subst hb
      exact hlt x hx
    · intro x hx
      rcases List.mem_append.1 hx with hx | hx
      · exact hdoc x hx
      · rw [List.mem_singleton] at hx; subst hx; exact ⟨hi, Int.le_refl _⟩
    · intro x hx
      rcases List.mem_append.1 hx with hx | hx
      · exact hlong x hx
      · rw [List.mem_singleton] at hx; subst hx; simp
    · intro x hx e
      rcases List.mem_append.1 hx with hx | hx
      · have := hlt x hx; omega
      · rw [List.mem_singleton] at hx; subst hx; simp
  rcases h with rfl | p
  · exact new [] (by simp) (.inl rfl)
  · rcases p.parts with ⟨l0, ps, rfl, hlt, hps⟩ | hlt
    · rw [addP_old]
      have hr := p.rise
      refine ⟨by simp, ?_, ?_, ?_, ?_⟩
      · rw [List.map_append] at hr ⊢; exact hr
      · intro x hx
        rcases List.mem_append.1 hx with hx | hx
        · exact p.doc x (List.mem_append_left _ hx)
        · rw [List.mem_singleton] at hx; subst hx; exact ⟨hi, Int.le_refl _⟩
      · intro x hx
        rcases List.mem_append.1 hx with hx | hx
        · exact p.long x (List.mem_append_left _ hx)
        · rw [List.mem_singleton] at hx; subst hx; simp; omega
      · intro x hx e
        rcases List.mem_append.1 hx with hx | hx
        · have := hlt x hx; omega
        · rw [List.mem_singleton] at hx; subst hx; simp; omega
    · exact new l hlt (.inr p)
theorem AWf.add {A : IxA} {i : Int} {j : Nat} (h : AWf A i j) (hi : 0 ≤ i) (hj : j < 2001) (x : Bytes × Nat) (hx : x.1.length ≤ 40) : AWf (addTok i A x) i (j + 1) := by
  refine ⟨?_, ?_, ?_, ?_⟩
  · unfold addTok
    rw [keys_put]
    split
    · exact h.keys
    · rename_i hn
      rw [List.nodup_append]
      exact ⟨h.keys, by simp, fun a ha b hb => by simp at hb; subst hb; exact fun e => hn (e ▸ ha)⟩
  · intro y hy
    have : y.1 ∈ (addTok i A x).map (·.1) := List.mem_map_of_mem hy
    unfold addTok at this
    rw [keys_put] at this
    split at this
    · obtain ⟨z, hz, e⟩ := List.mem_map.1 this; rw [← e]; exact h.small z hz
    · rcases List.mem_append.1 this with this | this
      · obtain ⟨z, hz, e⟩ := List.mem_map.1 this; rw [← e]; exact h.small z hz
      · rw [List.mem_singleton] at this; rw [this]; exact hx
  · have := putM_length x.1 (addP i x.2 ((getM x.1 A).getD [])) A
    have := h.count
    unfold addTok; omega
  · intro t l hl
    unfold addTok at hl
    rw [get_put] at hl
    split at hl
    · cases hl
      refine PWf.add ?_ hi hj x.2
      cases hg : getM x.1 A with
      | none => exact .inl rfl
      | some l => exact .inr (h.posts _ _ hg)
    · exact (h.posts t l hl).more
theorem rise_len (l : List Int) (k i : Int) (hr : l.Pairwise (· < ·)) (h : ∀ x ∈ l, k ≤ x ∧ x ≤ i) (hk : k ≤ i + 1) : (l.length : Int) + k ≤ i + 1 := by
  induction l generalizing k with
  | nil => simp; omega
  | cons a l ih =>
    rw [List.pairwise_cons] at hr
    have ha := h a (List.mem_cons_self ..)
    have := ih (k + 1) hr.2 (fun x hx => by have := hr.1 x hx; have := h x (List.mem_cons_of_mem _ hx); omega) (by omega)
    simp only [List.length_cons]; omega
theorem PWf.length {l : List PostL} {i : Int} {j : Nat} (h : PWf l i j) (hi : 0 ≤ i) : (l.length : Int) ≤ i + 1 := by
  have := rise_len (l.map (·.1)) 0 i h.rise (fun x hx => by obtain ⟨y, hy, rfl⟩ := List.mem_map.1 hx; exact h.doc y hy) (by omega)
  rw [List.length_map] at this; omega
end Go.Proofs.YtcflpcpkmhljkaaGreatDoor
end
