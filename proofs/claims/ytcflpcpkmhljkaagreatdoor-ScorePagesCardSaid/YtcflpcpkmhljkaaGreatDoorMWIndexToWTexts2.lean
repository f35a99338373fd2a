/- Joined texts of one proof: WIndex, WTexts2. -/
import Derived.Test.YtcflpcpkmhljkaaGreatDoorMIxWToIdxEq
import Derived.Test.YtcflpcpkmhljkaaGreatDoorMOwnToWDictI
import Derived.Test.YtcflpcpkmhljkaaGreatDoorMWDictPToWRead
import Derived.Test.YtcflpcpkmhljkaaGreatDoorMWGather
import Derived.Test.YtcflpcpkmhljkaaGreatDoorIter
import Derived.OneCell
import Derived.Test.YtcflpcpkmhljkaaGreatDoorMWRunesToWTexts
set_option linter.unusedSimpArgs false
set_option linter.unusedVariables false
set_option linter.unnecessarySimpa false
/- (WIndex) segment.index: walked. -/
section
namespace Go.Proofs.YtcflpcpkmhljkaaGreatDoor
open Go.RowKit
set_option linter.unusedVariables false

theorem tokVs_at (l : List (Bytes × Nat)) (k : Nat) (h : k < l.length) : (tokVs l)[k * 2]? = some (strV l[k].1) ∧ (tokVs l)[k * 2 + 1]? = some (.int .i64 (l[k].2 : Nat)) := by
  induction l generalizing k with
  | nil => simp at h
  | cons d l ih =>
    have e : tokVs (d :: l) = strV d.1 :: .int .i64 (d.2 : Nat) :: tokVs l := by simp [tokVs]
    cases k with
    | zero => rw [e]; exact ⟨rfl, rfl⟩
    | succ k =>
      have := ih k (by simpa using h)
      rw [e, show (k + 1) * 2 = k * 2 + 1 + 1 by omega]
      exact this
theorem ownsRow_lies {w : World} {base : Nat} {e : TypeId} {size : Nat} {v : Value} {n : Nat} {xs : List Value} (h : w.ownsRow base e size v n xs) : ∃ a cap, v = .slice a n cap ∧ (0 < n → ∃ g, a = some ⟨g, 0, none⟩ ∧ ∀ j u, xs[j]? = some u → w.cell? ⟨g, j, none⟩ = some u) := by
  rcases h.2 with ⟨rfl, h0⟩ | ⟨g, cap, cur, rfl, _⟩
  · exact ⟨none, 0, by rw [h0], fun hn => by omega⟩
  · refine ⟨_, cap, rfl, fun _ => ⟨g, rfl, fun j u hu => ?_⟩⟩
    have := h.cells (g := g) rfl j u hu
    rwa [show (⟨g, 0, none⟩ : Addr).add j = ⟨g, j, none⟩ by unfold Addr.add; split <;> simp_all] at this
theorem tinfo211 : (Tryz.prog.info? 211).map (fun i => (i.zero, i.size, i.bytes)) = some (some (.agg #[.int .i64 0, .slice none 0 0]), 2, 32) := by kernel_rfl
theorem tinfo240 : (Tryz.prog.info? 240).map (fun i => (i.zero, i.size, i.bytes)) = some (some (.agg #[strV [], strV []]), 2, 32) := by kernel_rfl
theorem tinfo174 : (Tryz.prog.info? 174).map (fun i => (i.zero, i.size, i.bytes)) = some (some (.slice none 0 0), 1, 24) := by kernel_rfl
def IxQ (W : World) (mb : Nat) (A : IxA) : Prop := ∃ m F, IxW W mb mb m F ∧ absM m = A

theorem rowCell {w : World} {base : Nat} {e : TypeId} {size g n cap : Nat} {xs : List Value} (h : w.ownsRow base e size (.slice (some ⟨g, 0, none⟩) n cap) n xs) {j : Nat} {u : Value} (hu : xs[j]? = some u) : w.cell? ⟨g, j, none⟩ = some u := by
  have := h.cells (g := g) rfl j u hu
  rwa [show (⟨g, 0, none⟩ : Addr).add j = ⟨g, j, none⟩ by unfold Addr.add; split <;> simp_all] at this
theorem rowFrozen {w : World} {base : Nat} {e : TypeId} {size g n cap : Nat} {xs : List Value} (h : w.ownsRow base e size (.slice (some ⟨g, 0, none⟩) n cap) n xs) (j : Nat) : w.frozen? ⟨g, j, none⟩ = false := by
  obtain ⟨cs, hc⟩ := owns_kind h g rfl
  simp [World.frozen?, hc]
theorem cur_cases {m : IxV} {k : Int} {j : Nat} (hw : AWf (absM m) k j) (t : Bytes) :
    curOf m t = (.slice none 0 0, []) ∨ (∃ l0 y, (curOf m t).2 = l0 ++ [y] ∧ ∀ x ∈ l0 ++ [y], x.1 < k) ∨ ∃ l0 pv ps, (curOf m t).2 = l0 ++ [(k, pv, ps)] ∧ (∀ x ∈ l0, x.1 < k) ∧ ps.length ≤ j := by
  unfold curOf
  cases hg : getM t m with
  | none => exact .inl rfl
  | some e =>
    obtain ⟨v, l⟩ := e
    right
    have hp := hw.posts t (postsOf l) (by rw [getM_abs, hg]; rfl)
    have hne : l ≠ [] := fun e => hp.some (by rw [e]; rfl)
    obtain ⟨l0, y, rfl⟩ : ∃ l0 y, l = l0 ++ [y] := ⟨l.dropLast, l.getLast hne, (List.dropLast_concat_getLast hne).symm⟩
    rcases hp.parts with ⟨p0, ps, e, hlt, hps⟩ | hlt
    · right
      rw [show postsOf (l0 ++ [y]) = postsOf l0 ++ [postOf y] by simp [postsOf]] at e
      obtain ⟨e1, e2⟩ := List.append_inj' e rfl
      simp only [List.cons.injEq, and_true] at e2
      obtain ⟨d, pv, ps'⟩ := y
      simp only [postOf, Prod.mk.injEq] at e2
      obtain ⟨rfl, rfl⟩ := e2
      exact ⟨l0, pv, _, rfl, fun x hx => by rw [← e1] at hlt; exact hlt (postOf x) (List.mem_map_of_mem hx), hps⟩
    · left
      exact ⟨l0, y, rfl, fun x hx => hlt (postOf x) (List.mem_map_of_mem hx)⟩
theorem cur_len {m : IxV} {k : Int} {j : Nat} (hk : 0 ≤ k) (hw : AWf (absM m) k j) (t : Bytes) : ((curOf m t).2.length : Int) ≤ k + 1 := by
  unfold curOf
  cases hg : getM t m with
  | none => simp; omega
  | some e =>
    have hp := hw.posts t (postsOf e.2) (by rw [getM_abs, hg]; rfl)
    have := hp.length hk
    simpa using this
theorem cur_add {m : IxV} {t : Bytes} {k q : Int} {l0 : List PostR} {pv nw : Value} {ps : List Int} (h : (ps = [] ∧ (curOf m t).2 = l0 ∧ ∀ x ∈ l0, x.1 ≠ k) ∨ (curOf m t).2 = l0 ++ [(k, pv, ps)]) :
    addP k q ((getM t (absM m)).getD []) = postsOf (l0 ++ [(k, nw, ps ++ [q])]) := by
  have e : (getM t (absM m)).getD [] = postsOf (curOf m t).2 := by
    rw [getM_abs]; unfold curOf
    cases getM t m <;> rfl
  rw [e]
  rcases h with ⟨rfl, h1, h2⟩ | h1
  · rw [h1, addP_new _ _ _ (fun x hx => by obtain ⟨y, hy, rfl⟩ := List.mem_map.1 hx; exact h2 y hy)]
    simp [postsOf, postOf]
  · rw [h1, show postsOf (l0 ++ [(k, pv, ps)]) = postsOf l0 ++ [(k, ps)] by simp [postsOf, postOf], addP_old]
    simp [postsOf, postOf]
theorem IxT.reads {W : World} {base mb : Nat} {m : IxV} {F : KeyX → Option RowS} {t : Bytes} {i : Int} {g cap : Nat} {l0 : List PostR} {pv : Value} {ps : List Int} (h : IxT W base mb m F t i g cap l0 pv ps) :
    W.cell? ⟨g, l0.length * 2 + 1, none⟩ = some pv ∧ W.frozen? ⟨g, l0.length * 2 + 1, none⟩ = false ∧ W.ownsRow base 3 1 pv ps.length (intVs ps) ∧ pv.ownBlock ≠ some g ∧ base ≤ g ∧ (∀ b, pv.ownBlock = some b → base ≤ b) := by
  have hl1 : (l0 ++ [((i, pv, ps) : PostR)]).length = l0.length + 1 := by simp
  have o1 : W.ownsRow base 211 2 (.slice (some ⟨g, 0, none⟩) (l0.length + 1) cap) (l0 ++ [((i, pv, ps) : PostR)]).length (postVs (l0 ++ [(i, pv, ps)])) := h.fam.owns _ _ h.row
  rw [hl1] at o1
  have o2 : W.ownsRow base 3 1 pv ps.length (intVs ps) := h.fam.owns _ _ h.last
  have hc := (postVs_at (l0 ++ [(i, pv, ps)]) l0.length (by simp)).2
  rw [List.getElem_append_right (Nat.le_refl _)] at hc
  simp only [Nat.sub_self, List.getElem_cons_zero] at hc
  exact ⟨rowCell o1 hc, rowFrozen o1 _, o2, rows_apart o2 o1 (by decide) rfl, (o1.lt g rfl).1, fun b hb => (o2.lt b hb).1⟩
theorem IxT.place2 {W0 W wa : World} {mb : Nat} {m : IxV} {F : KeyX → Option RowS} {t : Bytes} {i : Int} {g cap : Nat} {l0 : List PostR} {pv : Value} {ps : List Int} (h : IxT W W0.heap.size mb m F t i g cap l0 pv ps) (q : Int) {g2 cap2 : Nat}
    (ho : wa.ownsRow W0.heap.size 3 1 (.slice (some ⟨g2, 0, none⟩) (ps.length + 1) cap2) (ps.length + 1) (intVs (ps ++ [q]))) (hg : W.grownBy wa pv.ownBlock) (hat : pv.ownBlock = some g2 ∨ W.heap.size < g2) (hb : Below W0.heap.size W0 W) :
    (∃ F', IxT (wa.setCell ⟨g, l0.length * 2 + 1, none⟩ (.slice (some ⟨g2, 0, none⟩) (ps.length + 1) cap2)) W0.heap.size mb m F' t i g cap l0 (.slice (some ⟨g2, 0, none⟩) (ps.length + 1) cap2) (ps ++ [q])) ∧
    Below W0.heap.size W0 (wa.setCell ⟨g, l0.length * 2 + 1, none⟩ (.slice (some ⟨g2, 0, none⟩) (ps.length + 1) cap2)) ∧ Ki W (wa.setCell ⟨g, l0.length * 2 + 1, none⟩ (.slice (some ⟨g2, 0, none⟩) (ps.length + 1) cap2)) := by
  obtain ⟨_, _, o2, hne, hbg, hbp⟩ := h.reads
  have hl1 : (l0 ++ [((i, pv, ps) : PostR)]).length = l0.length + 1 := by simp
  have o1 : W.ownsRow W0.heap.size 211 2 (.slice (some ⟨g, 0, none⟩) (l0.length + 1) cap) (l0 ++ [((i, pv, ps) : PostR)]).length (postVs (l0 ++ [(i, pv, ps)])) := h.fam.owns _ _ h.row
  have o1a := o1.kept hg (.inr (fun e => hne e.symm))
  refine ⟨h.place q ho hg hat, (hb.grown hg hb.size (fun k hk => hbp k hk)).setCell hbg _, (Ki.grown hg (fun b hb cs ty fz hc => ?_)).trans (Ki.grown (grownBy_setCellAt _ _ _ _) (fun b hb cs ty fz hc => ?_))⟩
  · obtain ⟨cs', hc'⟩ := owns_kind o2 b hb
    rw [hc] at hc'; cases hc'; exact .inl rfl
  · cases hb
    obtain ⟨cs', hc'⟩ := owns_kind o1a g rfl
    rw [hc] at hc'; cases hc'; exact .inr rfl
theorem cur_slice {W : World} {base : Nat} {v : Value} {l l0 : List PostR} {y : PostR} (h : W.ownsRow base 211 2 v l.length (postVs l)) (hc : l = l0 ++ [y]) :
    ∃ g cap, v = .slice (some ⟨g, 0, none⟩) (l0.length + 1) cap ∧ W.cell? ⟨g, l0.length * 2, none⟩ = some (.int .i64 y.1) ∧ W.ownsRow base 211 2 (.slice (some ⟨g, 0, none⟩) (l0.length + 1) cap) (l0.length + 1) (postVs l) := by
  have hl : l.length = l0.length + 1 := by rw [hc]; simp
  rw [hl] at h
  obtain ⟨g, cap, rfl⟩ := ownsRow_succ h
  have hp := (postVs_at l l0.length (by omega)).1
  have : l[l0.length]'(by omega) = y := by simp [hc]
  rw [this] at hp
  exact ⟨g, cap, rfl, rowCell h hp, h⟩
theorem Ki.map {A B : World} {mb : Nat} {m : List (Bytes × Value)} (h : MapS A mb m) (hg : A.grownBy B (some mb)) : Ki A B :=
  Ki.grown hg (fun b hb cs ty fz hc => by
    cases hb
    obtain ⟨es, clock, h1, _⟩ := h
    rw [hc] at h1; cases h1)
theorem wpList_lookup_val {P : Program} (w : World) {ops : Array Oper} {rest : List Oper} {o : Oper} {a : Act} {Q : Exit → Act → World → Prop} (hg : o.guard = none) (mo x : Operand) (t : TypeId) (hop : o.op = Op.lookup t mo x false)
    (kt et : TypeId) (hm : P.underlying t = some (.map kt et)) (hd : P.underlying kt = some .string) (z : Value) (hz : (zeroValue et).run P w = .ok z w) (b : Nat) (m : List (List UInt8 × Value)) (h : MapS w b m) (k : List UInt8) (hmo : a.eval mo = .map (some b)) (hx : a.eval x = strV k)
    (u : Value) (hu : (getM k m).getD z = u) (hK : wpList P ops Q rest (a.put o.dst u) w) : wpList P ops Q (o :: rest) a w :=
  wpList_lookup_map w hg mo x t false hop kt et hm hd z hz b m h k hmo hx (by rw [hu]; exact hK)
theorem zeroPosts (w : World) : (zeroValue 174).run Tryz.prog w = .ok (.slice none 0 0) w := by
  obtain ⟨i, hi, hz, _⟩ := info_parts tinfo174
  simp [zeroValue, go_sem]
  rw [show Tryz.t174.zero = some (.slice none 0 0) from by kernel_rfl]
  rfl
theorem IxW.posts {W : World} {base mb : Nat} {m : IxV} {F : KeyX → Option RowS} (h : IxW W base mb m F) (t : Bytes) : Posts W (curOf m t).1 (curOf m t).2 := by
  refine ⟨Sl.of_owns (h.cur t).1, fun x hx => ?_⟩
  unfold curOf at hx
  cases hg : getM t m with
  | none => rw [hg] at hx; simp at hx
  | some e =>
    rw [hg] at hx
    have := (h.held t e.1 e.2 hg).2 x hx
    have ho : W.ownsRow base 3 1 x.2.1 x.2.2.length (intVs x.2.2) := h.fam.owns _ _ this
    exact Sl.of_owns ho
theorem cur_long {m : IxV} {k : Int} {j : Nat} (hw : AWf (absM m) k j) (t : Bytes) : ∀ x ∈ (curOf m t).2, x.2.2.length ≤ 2001 := by
  unfold curOf
  cases hg : getM t m with
  | none => simp
  | some e =>
    have hp := hw.posts t (postsOf e.2) (by rw [getM_abs, hg]; rfl)
    exact fun x hx => hp.long (postOf x) (List.mem_map_of_mem hx)
theorem packL_len (l : List PostL) (hl : l.length ≤ 1000) : (packL l).length ≤ 100000000 := by
  unfold packL
  split
  · rename_i h
    have hk := packOk l h hl l.length (Nat.le_refl _)
    have hb := hk.body; have hs := hk.skips
    have ht : packTo l l.length = packF ⟨[], [], -1, -1, 0⟩ 0 l := by unfold packTo; rw [List.take_length]
    rw [ht] at hb hs
    have h1 := varE_len l.length
    have h2 := varsE_len (packF ⟨[], [], -1, -1, 0⟩ 0 l).skips
    simp only [postsE, List.length_append]
    omega
  · simp
theorem entriesRight_small (last : Bytes) (l : List EntryL) (h : entriesRight last l = true) : Small l := by
  induction l generalizing last with
  | nil => intro e he; cases he
  | cons x l ih =>
    simp only [entriesRight, Bool.and_eq_true, decide_eq_true_eq] at h
    intro e he
    rcases List.mem_cons.1 he with rfl | he
    · exact ⟨h.1.1.2, h.1.2⟩
    · exact ih _ h.2 e he
theorem DPack_any (v : Value) (l : List EntryL) (w : World) (base : Nat) (hown : w.ownsRow base 240 2 v l.length (pairVs l)) (hn : l.length ≤ 9223372036854775807) (hl : ∀ e ∈ l, e.1.length ≤ 9223372036854775807 ∧ e.2.length ≤ 9223372036854775807) :
    Calls Tryz.prog 174 #[v] w fun e w' => (∃ n, e = .returned (.tuple #[.string ⟨(dictL l).toArray⟩, .int .i64 n])) ∧ Q w w' := by
  unfold dictL
  cases hr : (entriesRight [] l && decide (l.length ≤ 1048576)) with
  | false =>
    refine (DPack_bad v l w (Sl.of_owns hown) hn hl hr).mono ?_
    rintro e w' ⟨rfl, q⟩
    exact ⟨⟨1, rfl⟩, q⟩
  | true =>
    simp only [Bool.and_eq_true, decide_eq_true_eq] at hr
    refine (DPack_ok v l w base hown hr.1 hr.2 (entriesRight_small _ _ hr.1)).mono ?_
    rintro e w' ⟨rfl, q⟩
    exact ⟨⟨0, rfl⟩, q⟩
set_option maxRecDepth 100000 in
set_option maxHeartbeats 4000000 in
theorem Index_any (v : Value) (docs : List DocL) (w : World) (hv : Docs w v docs) (hn : docs.length ≤ 500) (hl : ∀ d ∈ docs, d.2.length ≤ 2000) (hT : Tabs w) (hSp : Spans w) :
    Calls Tryz.prog 138 #[v] w fun e w' => e = .returned (.string ⟨(idxS docs).toArray⟩) ∧ Q w w' := by
  obtain ⟨ip, hip, hpz0, hpz1, hpz2⟩ := info_parts tinfo211
  obtain ⟨ie, hie, hez0, hez1, hez2⟩ := info_parts tinfo240
  obtain ⟨a, cap, rfl, hcell⟩ := hv.value
  have HC := Lib.hid hcell; have HT := Lib.hid hT; have HSP := Lib.hid hSp; have HL := Lib.hid hl
  clear hv hcell hT hSp hl
  have hmm := @run_makeMap Tryz.prog
  go_enter Tryz.func138, Tryz.ntmps138
  go_wp2_with fail
  have h0 : IxQ (w.alloc (.map #[] 0)) w.heap.size (ixTo docs 0) := ⟨[], _, IxW.start (MapS.made w), rfl⟩
  have hb0 : Below w.heap.size w (w.alloc (.map #[] 0)) := (Below.refl _ w).alloc (Nat.le_refl _) _
  have H0 := Lib.hid h0; have HB0 := Lib.hid hb0; clear h0 hb0
  go_loopw [20] (fun i wr => ∃ k : Nat, i = .int .i64 (k : Nat) ∧ k ≤ docs.length ∧ Hid (IxQ wr w.heap.size (ixTo docs k)) ∧ Hid (Below w.heap.size w wr)) (fun i _ => docs.length - (intOf i).toNat)
  case atStart => exact ⟨0, rfl, by omega, H0, HB0⟩
  case round =>
    obtain ⟨k, rfl, hk, HI, HB⟩ := hrel
    obtain ⟨wo, rfl⟩ : ∃ wo : World, wo = wr := ⟨_, rfl⟩
    have hszo := HB.out.size
    by_cases hlt : k < docs.length
    · obtain ⟨b, off, rfl, hc⟩ := HC.out (by omega)
      obtain ⟨hc1, hc2⟩ := hc k hlt
      have hw1 := cell_stays HB.out hc1
      have hw2 := cell_stays HB.out hc2
      have hwf := ixTo_wf docs HL.out k hk
      have htl := HL.out _ (List.getElem_mem hlt)
      have hnx := ixTo_succ docs k hlt
      have HWF := Lib.hid hwf; have HNX := Lib.hid hnx
      clear hc hc1 hc2 hwf hnx
      generalize docs[k] = dk at *
      obtain ⟨id, tx⟩ := dk
      simp only at hw1 hw2 htl HNX
      have hbx := HB.out.alloc hszo (.cells #[strV id, strV tx] 63)
      have ct := Tokens_any tx (wo.alloc (.cells #[strV id, strV tx] 63)) (by omega) (HT.out.stays hbx) (HSP.out.stays hbx)
      have hix : IxQ (wo.alloc (.cells #[strV id, strV tx] 63)) w.heap.size (ixTo docs k) := by
        obtain ⟨m, F, h1, h2⟩ := HI.out
        exact ⟨m, F, h1.q (Q.alloc _ _), h2⟩
      have htf := tokensL_facts tx htl
      have CT := Lib.hid ct; have HBX := Lib.hid hbx; have HIX := Lib.hid hix; have HTF := Lib.hid htf
      clear ct hbx hix htf HI HB
      go_wp2_with fail
      refine CT.out.mono ?_
      rintro e w2 ⟨tv, rfl, otk, q2⟩
      obtain ⟨ta, tcap, rfl, htc⟩ := ownsRow_lies otk
      have hb2 := HBX.out.trans (Below.mono q2 HBX.out.size)
      have hi2 : IxQ w2 w.heap.size (ixIn docs k (tokensL tx) 0) := by
        obtain ⟨m, F, h1, h2⟩ := HIX.out
        exact ⟨m, F, h1.q q2, h2⟩
      have OT := Lib.hid otk; have HTC := Lib.hid htc; have HB2 := Lib.hid hb2; have HI2 := Lib.hid hi2
      clear otk htc hb2 hi2 q2 CT HBX HIX
      generalize tokensL tx = ts at *
      go_wp2_with fail
      go_loopw [29] (fun x wr => ∃ j : Nat, x = .int .i64 (j : Nat) ∧ j ≤ ts.length ∧ Hid (IxQ wr w.heap.size (ixIn docs k ts j)) ∧ Hid (Below w.heap.size w wr) ∧ Hid (Ki w2 wr)) (fun x _ => ts.length - (intOf x).toNat)
      case atStart => exact ⟨0, rfl, by omega, HI2, HB2, Ki.refl _⟩
      case round =>
        obtain ⟨j, rfl, hj, HI, HB, HK⟩ := hrel
        obtain ⟨wi, rfl⟩ : ∃ wi : World, wi = wr := ⟨_, rfl⟩
        have hszi := HB.out.size
        by_cases hjl : j < ts.length
        · obtain ⟨gt, rfl, _⟩ := HTC.out (by omega)
          have ot := HK.out.owns OT.out (by decide) (by decide)
          obtain ⟨ht1, ht2⟩ := tokVs_at ts j hjl
          have hw3 := rowCell ot ht1
          have hw4 := rowCell ot ht2
          have hwf := ixIn_wf docs k ts HWF.out HTF.out.1 (fun x hx => (HTF.out.2 x hx).1) j hj
          have hnx := ixIn_succ docs k ts j hjl
          have htf := HTF.out.2 _ (List.getElem_mem hjl)
          obtain ⟨m, F, hix, hA⟩ := HI.out
          rw [← hA] at hwf hnx
          have HNX2 := Lib.hid hnx; have HWF2 := Lib.hid hwf
          clear ot ht1 ht2 hnx hwf
          generalize ts[j] = tj at *
          obtain ⟨t, q⟩ := tj
          simp only at hw3 hw4 htf HNX2
          have hxx := heap_alloc_new wi (.cells #[strV t, .int .i64 (q : Nat)] 58)
          have hix1 := hix.q (Q.alloc wi (.cells #[strV t, .int .i64 (q : Nat)] 58))
          have hb1 := HB.out.alloc hszi (.cells #[strV t, .int .i64 (q : Nat)] 58)
          have hk1 := HK.out.trans (Ki.of_q (Q.alloc wi (.cells #[strV t, .int .i64 (q : Nat)] 58)))
          have cx0 := (cells2 hxx).1
          have hmm := hix1.map
          obtain ⟨hcu1, hcu2, hcu3⟩ := hix1.cur t
          have hclen := cur_len (by omega) HWF2.out t
          have hsx : w.heap.size ≤ (wi.alloc (.cells #[strV t, .int .i64 (q : Nat)] 58)).heap.size := hb1.size
          have hcc := cur_cases HWF2.out t
          have HXX := Lib.hid hxx; have HIX1 := Lib.hid hix1; have HB1 := Lib.hid hb1; have HK1 := Lib.hid hk1
          clear hxx hix1 hb1 hk1 hix HI HB HK hA
          have hts := HTF.out.1
          have hone : ∀ u ∈ (#[.int .i64 (k : Nat), .slice none 0 0] : Array Value).toList, u.oneCell' = true := by simp [Value.oneCell']
          rcases hcc with hcc | ⟨l0, y, hcc, hlt0⟩ | ⟨l0, pv, ps, hcc, hlt0, hps⟩
          · have hnew := fun g cap W4 => HIX1.out.new t (k : Nat) (g := g) (cap := cap) (w4 := W4) (by rw [hcc]; simp)
            have hadd := fun nw => cur_add (m := m) (t := t) (k := (k : Nat)) (q := (q : Nat)) (l0 := []) (pv := .slice none 0 0) (nw := nw) (ps := []) (.inl ⟨rfl, by rw [hcc], by simp⟩)
            rw [hcc] at hcu1 hcu3 hnew
            have HADD := Lib.hid hadd; have HNEW := Lib.hid hnew
            have hbytes : (([] : List PostR).length + 1) * 32 ≤ 140737488355328 := by decide
            clear hadd hnew hcu2
            go_wp2_with (first | (at_lookup; go_must (refine wpList_lookup_val (wi.alloc (.cells #[strV t, .int .i64 (q : Nat)] 58)) (by rfl) _ _ 259 (by rfl) 9 174 Tryz.underlying259 Tryz.underlying9 (.slice none 0 0) (zeroPosts _) w.heap.size (valM m) hmm t (by rfl) (by rfl) _ hcu3 ?_)) | (at_builtin; go_must (refine wpList_appN (wi.alloc (.cells #[strV t, .int .i64 (q : Nat)] 58)) (by rfl) _ _ 174 (by rfl) w.heap.size 211 _ ip (.agg #[.int .i64 0, .slice none 0 0]) 2 32 Tryz.underlying174 hip hpz0 hpz1 hpz2 rfl (by decide) (by decide) _ _ _ (by rfl) hcu1 1 (by decide) #[.int .i64 (k : Nat), .slice none 0 0] (by rw [World.size_alloc]; rfl) rfl hone hbytes hsx ?_)))
            intro g capg W1 ho4 hg4 hat4 _ _
            have kg : Ki (wi.alloc (.cells #[strV t, .int .i64 (q : Nat)] 58)) W1 := Ki.grown hg4 (fun b hb cs ty fz hc => by obtain ⟨cs', hc'⟩ := owns_kind hcu1 b hb; rw [hc] at hc'; cases hc'; exact .inr rfl)
            have hx1 := kg.get _ _ _ _ HXX.out (by decide) (by decide)
            have hkt := HK1.out.trans kg
            have hbt := HB1.out.grown hg4 hsx (fun x hx => (hcu1.lt x hx).1)
            have hixt := HNEW.out g capg W1 ho4 hg4 (hat4.imp_right (fun h => by simpa [World.size_alloc] using h))
            have IXT := Lib.hid hixt; have HX1 := Lib.hid hx1; have HBT := Lib.hid hbt; have HKT := Lib.hid hkt
            clear hixt hx1 hbt hkt kg ho4 hg4 hat4 hcu1 hmm cx0
            go_wp2_with fail
            obtain ⟨r1, r2, r3, r4, r5, r6⟩ := IXT.out.reads
            have cX := (cells2 HX1.out).2
            have hsz1 := HBT.out.size
            have hlenc : (([] : List PostR)).length = 0 := rfl
            (try rw [hlenc] at r1 r2)
            refine idx_row w.heap.size g ((0) * 2) wi.heap.size ((q : Nat) : Int) (.slice none 0 0) [] W1 r1 r2 cX r3 hsz1 (by simp) r4 _ _ _ _ _ _ _ _ _ _ _ _ _ _ _ _ _ _ _ _ _ _ _ _ _ _ _ _ _ _ _ _ _ _ _ _ _ _ _ _ _ _ _ _ _ _ _ _ _ _ _ _ _ _ _ _ _ _ _ _ _ _ _ _ _ _ _ _ _ _ _ _ _ _ _ _ _ _ _ _ _ _ _ _ _ _ _ _ _ _ _ _ _ _ _ _ _ _ _ _ _ _ _ _ _ ?_
            intro wa g2 cap2 z61 z62 z63 z64 z65 z66 z67 z68 z69 z70 z71 hoa hga hata hla
            have hpl := IXT.out.place2 _ hoa hga hata HBT.out
            (try rw [hlenc] at hpl)
            generalize wa.setCell ⟨g, (0) * 2 + 1, none⟩ (.slice (some ⟨g2, 0, none⟩) (([]).length + 1) cap2) = W2 at *
            obtain ⟨⟨F', hp⟩, hb2, hk2⟩ := hpl
            have hx2 := hk2.get _ _ _ _ HX1.out (by decide) (by decide)
            have cx2 := (cells2 hx2).1
            have hm2 := hp.map
            have hk3 := HKT.out.trans hk2
            have HP := Lib.hid hp; have HB2' := Lib.hid hb2; have HK3 := Lib.hid hk3
            clear hp hb2 hk2 hk3 hx2 hoa hga hata r1 r2 r3 r4 r5 r6 cX
            go_wp2_with (at_mapUpdate; go_must (refine wpList_update_map _ (by rfl) _ _ _ 259 (by rfl) 9 174 Tryz.underlying259 Tryz.underlying9 w.heap.size (valM m) hm2 t (.slice (some ⟨g, 0, none⟩) ((0) + 1) capg) (by rfl) (by rfl) (by rfl) ?_))
            intro w5 hm5 hg5
            have h5 := HP.out.put (by first | exact hm5 | (rw [hlenc]; exact hm5)) hg5
            have hb5 := HB2'.out.grown hg5 HB2'.out.size (fun x hx => by cases hx; exact Nat.le_refl _)
            have hk5 := HK3.out.trans (Ki.map hm2 hg5)
            have hiq : IxQ w5 w.heap.size (ixIn docs k ts (j + 1)) := ⟨_, F', h5, by rw [putM_abs, HNX2.out]; unfold addTok; rw [HADD.out]⟩
            have HIQ := Lib.hid hiq; have HB5 := Lib.hid hb5; have HK5 := Lib.hid hk5
            clear hiq hb5 hk5 h5 hm5 hg5 hm2
            go_wp2_with fail
            go_roundw
            case rel => exact ⟨j + 1, by go_num, by omega, HIQ, HB5, HK5⟩
            case measure => simp [intOf]; omega
          · obtain ⟨g0, cap0, hv0, hcl0, hown0⟩ := cur_slice hcu1 hcc
            have hlc : (curOf m t).2.length = l0.length + 1 := by rw [hcc]; simp
            have hyk : y.1 ≠ (k : Int) := by have := hlt0 y (by simp); omega
            have hyk2 : (y.1 == (k : Int)) = false := by simpa using hyk
            have hyk3 : (y.1 != (k : Int)) = true := by simpa using hyk
            have hltne : ∀ x ∈ (curOf m t).2, x.1 ≠ (k : Int) := fun x hx => by rw [hcc] at hx; have := hlt0 x hx; omega
            have hadd := fun nw => cur_add (m := m) (t := t) (k := (k : Nat)) (q := (q : Nat)) (l0 := (curOf m t).2) (pv := .slice none 0 0) (nw := nw) (ps := []) (.inl ⟨rfl, rfl, hltne⟩)
            have hnew := fun g cap W4 => HIX1.out.new t (k : Nat) (g := g) (cap := cap) (w4 := W4) hltne
            rw [hv0] at hcu3 hnew hcu1
            have hl500 : l0.length ≤ 500 := by omega
            generalize y.1 = yd at *
            clear hcc hlt0 hltne hcu2
            generalize curOf m t = cur at *
            obtain ⟨cv, lc⟩ := cur
            simp only at hlc hadd hnew hown0 hv0 hclen
            rw [hlc] at hnew
            generalize postVs lc = xs1 at *
            generalize l0.length = n0 at *
            have HADD := Lib.hid hadd; have HNEW := Lib.hid hnew; have HLC := Lib.hid hlc
            have hcu1 := hown0
            have hbytes : (n0 + 1 + 1) * 32 ≤ 140737488355328 := by omega
            clear hadd hnew hlc hv0 hown0
            go_wp2_with (first | (at_lookup; go_must (refine wpList_lookup_val (wi.alloc (.cells #[strV t, .int .i64 (q : Nat)] 58)) (by rfl) _ _ 259 (by rfl) 9 174 Tryz.underlying259 Tryz.underlying9 (.slice none 0 0) (zeroPosts _) w.heap.size (valM m) hmm t (by rfl) (by rfl) _ hcu3 ?_)) | (at_builtin; go_must (refine wpList_appN (wi.alloc (.cells #[strV t, .int .i64 (q : Nat)] 58)) (by rfl) _ _ 174 (by rfl) w.heap.size 211 _ ip (.agg #[.int .i64 0, .slice none 0 0]) 2 32 Tryz.underlying174 hip hpz0 hpz1 hpz2 rfl (by decide) (by decide) _ _ _ (by rfl) hcu1 1 (by decide) #[.int .i64 (k : Nat), .slice none 0 0] (by rw [World.size_alloc]; rfl) rfl hone hbytes hsx ?_)))
            intro g capg W1 ho4 hg4 hat4 _ _
            have kg : Ki (wi.alloc (.cells #[strV t, .int .i64 (q : Nat)] 58)) W1 := Ki.grown hg4 (fun b hb cs ty fz hc => by obtain ⟨cs', hc'⟩ := owns_kind hcu1 b hb; rw [hc] at hc'; cases hc'; exact .inr rfl)
            have hx1 := kg.get _ _ _ _ HXX.out (by decide) (by decide)
            have hkt := HK1.out.trans kg
            have hbt := HB1.out.grown hg4 hsx (fun x hx => (hcu1.lt x hx).1)
            have hixt := HNEW.out g capg W1 ho4 hg4 (hat4.imp_right (fun h => by simpa [World.size_alloc] using h))
            have IXT := Lib.hid hixt; have HX1 := Lib.hid hx1; have HBT := Lib.hid hbt; have HKT := Lib.hid hkt
            clear hixt hx1 hbt hkt kg ho4 hg4 hat4 hcu1 hmm cx0
            go_wp2_with fail
            obtain ⟨r1, r2, r3, r4, r5, r6⟩ := IXT.out.reads
            have cX := (cells2 HX1.out).2
            have hsz1 := HBT.out.size
            have hlenc : (lc).length = n0 + 1 := HLC.out
            (try rw [hlenc] at r1 r2)
            refine idx_row w.heap.size g ((n0 + 1) * 2) wi.heap.size ((q : Nat) : Int) (.slice none 0 0) [] W1 r1 r2 cX r3 hsz1 (by simp) r4 _ _ _ _ _ _ _ _ _ _ _ _ _ _ _ _ _ _ _ _ _ _ _ _ _ _ _ _ _ _ _ _ _ _ _ _ _ _ _ _ _ _ _ _ _ _ _ _ _ _ _ _ _ _ _ _ _ _ _ _ _ _ _ _ _ _ _ _ _ _ _ _ _ _ _ _ _ _ _ _ _ _ _ _ _ _ _ _ _ _ _ _ _ _ _ _ _ _ _ _ _ _ _ _ _ ?_
            intro wa g2 cap2 z61 z62 z63 z64 z65 z66 z67 z68 z69 z70 z71 hoa hga hata hla
            have hpl := IXT.out.place2 _ hoa hga hata HBT.out
            (try rw [hlenc] at hpl)
            generalize wa.setCell ⟨g, (n0 + 1) * 2 + 1, none⟩ (.slice (some ⟨g2, 0, none⟩) (([]).length + 1) cap2) = W2 at *
            obtain ⟨⟨F', hp⟩, hb2, hk2⟩ := hpl
            have hx2 := hk2.get _ _ _ _ HX1.out (by decide) (by decide)
            have cx2 := (cells2 hx2).1
            have hm2 := hp.map
            have hk3 := HKT.out.trans hk2
            have HP := Lib.hid hp; have HB2' := Lib.hid hb2; have HK3 := Lib.hid hk3
            clear hp hb2 hk2 hk3 hx2 hoa hga hata r1 r2 r3 r4 r5 r6 cX
            go_wp2_with (at_mapUpdate; go_must (refine wpList_update_map _ (by rfl) _ _ _ 259 (by rfl) 9 174 Tryz.underlying259 Tryz.underlying9 w.heap.size (valM m) hm2 t (.slice (some ⟨g, 0, none⟩) ((n0 + 1) + 1) capg) (by rfl) (by rfl) (by rfl) ?_))
            intro w5 hm5 hg5
            have h5 := HP.out.put (by first | exact hm5 | (rw [hlenc]; exact hm5)) hg5
            have hb5 := HB2'.out.grown hg5 HB2'.out.size (fun x hx => by cases hx; exact Nat.le_refl _)
            have hk5 := HK3.out.trans (Ki.map hm2 hg5)
            have hiq : IxQ w5 w.heap.size (ixIn docs k ts (j + 1)) := ⟨_, F', h5, by rw [putM_abs, HNX2.out]; unfold addTok; rw [HADD.out]⟩
            have HIQ := Lib.hid hiq; have HB5 := Lib.hid hb5; have HK5 := Lib.hid hk5
            clear hiq hb5 hk5 h5 hm5 hg5 hm2
            go_wp2_with fail
            go_roundw
            case rel => exact ⟨j + 1, by go_num, by omega, HIQ, HB5, HK5⟩
            case measure => simp [intOf]; omega
          · obtain ⟨g, capg, hv0, hcl0, hown0⟩ := cur_slice hcu1 hcc
            have hne0 : ∀ x ∈ l0, x.1 ≠ (k : Int) := fun x hx => by have := hlt0 x hx; omega
            have hadd := fun nw => cur_add (m := m) (t := t) (k := (k : Nat)) (q := (q : Nat)) (l0 := l0) (pv := pv) (nw := nw) (ps := ps) (.inr hcc)
            obtain ⟨g0, cap0, hv1, hixt⟩ := HIX1.out.old t (k : Nat) hcc hne0
            rw [hv1] at hv0 hcu3
            cases hv0
            simp only at hcl0
            have hl500 : l0.length ≤ 500 := by rw [hcc] at hclen; simp at hclen; omega
            have HADD := Lib.hid hadd; have IXT := Lib.hid hixt; have HBT := HB1; have HKT := HK1; have HX1 := HXX
            clear hadd hixt hcc hlt0 hne0 hcu2 hv1 hcu1 hown0 hclen
            go_wp2_with (at_lookup; go_must (refine wpList_lookup_val (wi.alloc (.cells #[strV t, .int .i64 (q : Nat)] 58)) (by rfl) _ _ 259 (by rfl) 9 174 Tryz.underlying259 Tryz.underlying9 (.slice none 0 0) (zeroPosts _) w.heap.size (valM m) hmm t (by rfl) (by rfl) _ hcu3 ?_))
            generalize wi.alloc (.cells #[strV t, .int .i64 (q : Nat)] 58) = W1 at *
            obtain ⟨r1, r2, r3, r4, r5, r6⟩ := IXT.out.reads
            have cX := (cells2 HX1.out).2
            have hsz1 := HBT.out.size
            have hlenc : (l0).length = l0.length := rfl
            (try rw [hlenc] at r1 r2)
            refine idx_row w.heap.size g ((l0.length) * 2) wi.heap.size ((q : Nat) : Int) pv ps W1 r1 r2 cX r3 hsz1 (by omega) r4 _ _ _ _ _ _ _ _ _ _ _ _ _ _ _ _ _ _ _ _ _ _ _ _ _ _ _ _ _ _ _ _ _ _ _ _ _ _ _ _ _ _ _ _ _ _ _ _ _ _ _ _ _ _ _ _ _ _ _ _ _ _ _ _ _ _ _ _ _ _ _ _ _ _ _ _ _ _ _ _ _ _ _ _ _ _ _ _ _ _ _ _ _ _ _ _ _ _ _ _ _ _ _ _ _ ?_
            intro wa g2 cap2 z61 z62 z63 z64 z65 z66 z67 z68 z69 z70 z71 hoa hga hata hla
            have hpl := IXT.out.place2 _ hoa hga hata HBT.out
            (try rw [hlenc] at hpl)
            generalize wa.setCell ⟨g, (l0.length) * 2 + 1, none⟩ (.slice (some ⟨g2, 0, none⟩) ((ps).length + 1) cap2) = W2 at *
            obtain ⟨⟨F', hp⟩, hb2, hk2⟩ := hpl
            have hx2 := hk2.get _ _ _ _ HX1.out (by decide) (by decide)
            have cx2 := (cells2 hx2).1
            have hm2 := hp.map
            have hk3 := HKT.out.trans hk2
            have HP := Lib.hid hp; have HB2' := Lib.hid hb2; have HK3 := Lib.hid hk3
            clear hp hb2 hk2 hk3 hx2 hoa hga hata r1 r2 r3 r4 r5 r6 cX
            go_wp2_with (at_mapUpdate; go_must (refine wpList_update_map _ (by rfl) _ _ _ 259 (by rfl) 9 174 Tryz.underlying259 Tryz.underlying9 w.heap.size (valM m) hm2 t (.slice (some ⟨g, 0, none⟩) ((l0.length) + 1) capg) (by rfl) (by rfl) (by rfl) ?_))
            intro w5 hm5 hg5
            have h5 := HP.out.put (by first | exact hm5 | (rw [hlenc]; exact hm5)) hg5
            have hb5 := HB2'.out.grown hg5 HB2'.out.size (fun x hx => by cases hx; exact Nat.le_refl _)
            have hk5 := HK3.out.trans (Ki.map hm2 hg5)
            have hiq : IxQ w5 w.heap.size (ixIn docs k ts (j + 1)) := ⟨_, F', h5, by rw [putM_abs, HNX2.out]; unfold addTok; rw [HADD.out]⟩
            have HIQ := Lib.hid hiq; have HB5 := Lib.hid hb5; have HK5 := Lib.hid hk5
            clear hiq hb5 hk5 h5 hm5 hg5 hm2
            go_wp2_with fail
            go_roundw
            case rel => exact ⟨j + 1, by go_num, by omega, HIQ, HB5, HK5⟩
            case measure => simp [intOf]; omega
        · have hje : j = ts.length := by omega
          subst hje
          rw [← HNX.out] at HI
          clear HK
          go_wp2_with fail
          go_roundw
          case rel => exact ⟨k + 1, by go_num, by omega, HI, HB⟩
          case measure => simp [intOf]; omega
    · have hke : k = docs.length := by omega
      subst hke
      obtain ⟨m, F, hix, hA⟩ := HI.out
      have hwf := ixTo_wf docs HL.out docs.length (Nat.le_refl _)
      rw [← hA] at hwf
      have hcount := hwf.count
      have hml : m.length = (absM m).length := by simp
      have hml2 : (valM m).length = m.length := by simp
      have hkeys : ∀ x ∈ valM m, x.1.length ≤ maxLen := by
        intro x hx
        obtain ⟨y, hy, rfl⟩ := List.mem_map.1 hx
        have := hwf.small (y.1, postsOf y.2.2) (List.mem_map_of_mem (f := fun e : Bytes × (Value × List PostR) => (e.1, postsOf e.2.2)) hy)
        show y.1.length ≤ maxLen
        unfold maxLen; simp only at this; omega
      obtain ⟨D, hD, hDs, hDp⟩ := hix.map.owns (P := Tryz.prog) 9 Tryz.underlying9 (by rw [hml2]; unfold maxLen; omega) hkeys
      have c1 := callsIn_wide.1 (Tryz.maps_Keys_172 (some w.heap.size) wo)
      have c2 := callsIn_wide.1 (Tryz.slices_Sorted_keys_85_172 w.heap.size (valM m).length D noR wo hD (by rw [hDs, hml2]; unfold maxLen; omega) (by rw [hDs, hml2]; omega))
      have C1 := Lib.hid c1; have C2 := Lib.hid c2; have HIX := Lib.hid hix; have HWF := Lib.hid hwf; have HDP := Lib.hid hDp; have HAA := Lib.hid hA
      clear c1 c2 hix hwf hD hDs hDp hkeys hA
      go_wp2_with fail
      refine C1.out.mono ?_
      rintro e w2 ⟨rfl, rfl⟩
      go_wp2_with fail
      refine C2.out.mono ?_
      rintro e w3 ⟨sv, ss, rfl, hp, ho, _, hb3⟩
      have hks : ss.mergeSort (fun x y => decide (x ≤ y)) = sortL ((absM m).map (·.1)) := by
        have hpp : ss.Perm ((absM m).map (·.1)) := by
          refine hp.trans (HDP.out.trans (List.Perm.of_eq ?_))
          simp [List.map_map]
        exact sortL_perm hpp
      rw [hks] at ho
      have hsl : ss.length = (sortL ((absM m).map (·.1))).length := by rw [← hks]; simp
      rw [hsl] at ho
      have hsl2 : (sortL ((absM m).map (·.1))).length = m.length := by simp [sortL]
      have hkl : ∀ x ∈ sortL ((absM m).map (·.1)), x.length ≤ 40 := by
        intro x hx
        have hx2 : x ∈ (absM m).map (·.1) := by simpa [sortL] using hx
        obtain ⟨y, hy, rfl⟩ := List.mem_map.1 hx2
        exact HWF.out.small y hy
      obtain ⟨sa, scap, rfl, hsc⟩ := ownsRow_lies ho
      have hqa : Q wo w3 := (Q.alloc wo _).trans hb3
      have hix3 := HIX.out.q hqa
      have hb3' := HB.out.trans (Below.mono hqa HB.out.size)
      have hpo := fun t => hix3.posts t
      have hidx : idxS docs = dictL ((sortL ((absM m).map (·.1))).map (entS (absM m))) := by unfold idxS ixAll; rw [← HAA.out]
      have hent : ∀ t, entS (absM m) t = (t, packL (postsOf (curOf m t).2)) := by
        intro t; unfold entS curOf; rw [getM_abs]; cases getM t m <;> rfl
      have HSC := Lib.hid hsc; have HIX3 := Lib.hid hix3; have HB3 := Lib.hid hb3'; have HPO := Lib.hid hpo; have HKL := Lib.hid hkl; have HIDX := Lib.hid hidx; have HENT := Lib.hid hent
      clear hp ho hb3 hks hqa hix3 hb3' hpo hsc hkl hidx hent HDP HIX HB HAA C1 C2
      generalize sortL ((absM m).map (·.1)) = ks at *
      have hk500 : ks.length ≤ 2000000 := by omega
      clear hsl hsl2
      go_wp2_with fail
      go_loopw [10, 82] (fun ev x wr => ∃ j : Nat, x = .int .i64 (j : Nat) ∧ j ≤ ks.length ∧ Hid (wr.ownsRow w3.heap.size 240 2 ev j (pairVs ((ks.take j).map (entS (absM m))))) ∧ Hid (Below w3.heap.size w3 wr)) (fun ev x _ => ks.length - (intOf x).toNat)
      case atStart => exact ⟨0, rfl, by omega, World.ownsRow_nil _ _ _ _, Below.refl _ _⟩
      case round =>
        obtain ⟨j, rfl, hj, HO, HQ⟩ := hrel
        obtain ⟨wi, rfl⟩ : ∃ wi : World, wi = wr := ⟨_, rfl⟩
        have hszi := HQ.out.size
        by_cases hjl : j < ks.length
        · obtain ⟨gs, rfl, hsc⟩ := HSC.out (by omega)
          have hw1 := cell_stays HQ.out (hsc j (strV ks[j]) (by simp [encStr]))
          have hkj := HKL.out _ (List.getElem_mem hjl)
          have htk : (ks.take (j + 1)).map (entS (absM m)) = (ks.take j).map (entS (absM m)) ++ [(ks[j], packL (postsOf (curOf m ks[j]).2))] := by
            rw [List.take_succ_eq_append_getElem hjl, List.map_append, List.map_singleton, HENT.out]
          have hpo := (HPO.out ks[j]).stays HQ.out
          have hix4 := HIX3.out.q HQ.out
          have hmm := hix4.map
          have hcu3 := (hix4.cur ks[j]).2.2
          have hcl := cur_len (by omega) HWF.out ks[j]
          have htk2 : pairVs ((ks.take (j + 1)).map (entS (absM m))) = pairVs ((ks.take j).map (entS (absM m))) ++ [strV ks[j], strV (packL (postsOf (curOf m ks[j]).2))] := by rw [htk, pairVs_append]
          have hcl2 := cur_long HWF.out ks[j]
          have c := PPack_any _ _ wi hpo (by omega) (fun p hp => by have := hcl2 p hp; omega)
          obtain ⟨pa, pcap, hpv⟩ : ∃ pa pcap, (curOf m ks[j]).1 = .slice pa (curOf m ks[j]).2.length pcap := by obtain ⟨x, y, h, _⟩ := hpo.value; exact ⟨x, y, h⟩
          rw [hpv] at hcu3 c
          generalize packL (postsOf (curOf m ks[j]).2) = pk at *
          obtain ⟨pn, hpn⟩ : ∃ pn, pn = (curOf m ks[j]).2.length := ⟨_, rfl⟩
          rw [← hpn] at c hcu3
          generalize (if postsRight (-1) (postsOf (curOf m ks[j]).2) = true then (0 : Int) else 1) = en at *
          have hou := HO.out
          generalize pairVs ((ks.take j).map (entS (absM m))) = xs0 at *
          generalize ks[j] = t at *
          have C := Lib.hid c; have HTK := Lib.hid htk2
          clear hsc htk htk2 hix4 c hpo hcl2 hpv HO hpn
          go_wp2_with (at_lookup; go_must (refine wpList_lookup_val wi (by rfl) _ _ 259 (by rfl) 9 174 Tryz.underlying259 Tryz.underlying9 (.slice none 0 0) (zeroPosts _) w.heap.size (valM m) hmm t (by rfl) (by rfl) _ hcu3 ?_))
          refine C.out.mono ?_
          rintro e w4 ⟨rfl, q4⟩
          have o4 := ownsRow_below hou q4
          have hb4 := HQ.out.trans (Below.mono q4 hszi)
          have hsz4 := hb4.size
          have hone : ∀ u ∈ (#[strV t, strV pk] : Array Value).toList, u.oneCell' = true := by simp [Value.oneCell']
          have hbytes : (j + 1) * 32 ≤ 140737488355328 := by omega
          have HB4 := Lib.hid hb4
          clear hou q4 hb4 C hmm HQ
          go_wp2_with (at_builtin; go_must (refine wpList_appN w4 (by rfl) _ _ 238 (by rfl) w3.heap.size 240 _ ie (.agg #[strV [], strV []]) 2 32 Tryz.underlying238 hie hez0 hez1 hez2 rfl (by decide) (by decide) _ _ _ (by rfl) o4 1 (by decide) #[strV t, strV pk] (by rfl) rfl hone hbytes hsz4 ?_))
          intro g5 cap5 w5 ho5 hg5 hat5 _ _
          have hb5 := HB4.out.grown hg5 hsz4 (fun x hx => (o4.lt x hx).1)
          have HO5 := Lib.hid ho5; have HB5 := Lib.hid hb5
          clear ho5 hg5 hat5 o4 hb5
          go_wp2_with fail
          go_roundw
          case rel => exact ⟨j + 1, by go_num, by omega, by show World.ownsRow _ _ _ _ _ _ _; rw [HTK.out]; exact HO5.out, HB5⟩
          case measure => simp [intOf]; omega
        · have hje : j = ks.length := by omega
          subst hje
          have ho6 := HO.out
          rw [List.take_length] at ho6
          have c := DPack_any u10 (ks.map (entS (absM m))) wi w3.heap.size (by rw [List.length_map]; exact ho6) (by rw [List.length_map]; omega) (fun e he => by
            obtain ⟨t, ht, rfl⟩ := List.mem_map.1 he
            have h1 := HKL.out t ht
            have h2 := cur_len (by omega) HWF.out t
            have h3 := packL_len (postsOf (curOf m t).2) (by rw [List.length_map]; omega)
            rw [HENT.out]; exact ⟨by simp only; omega, by simp only; omega⟩)
          rw [← HIDX.out] at c
          have hb6 := HB3.out.trans (HQ.out.mono HB3.out.size)
          have C := Lib.hid c; have HB6 := Lib.hid hb6
          clear c hb6 ho6 HO
          go_wp2_with fail
          refine C.out.mono ?_
          rintro e w5 ⟨⟨n, rfl⟩, q5⟩
          have hb7 := HB6.out.trans (Below.mono q5 HB6.out.size)
          have HB7 := Lib.hid hb7
          clear q5 hb7
          go_wp2_with fail
          go_ret
          exact ⟨rfl, HB7.out⟩
end Go.Proofs.YtcflpcpkmhljkaaGreatDoor
end

/- (WTexts2) wire.Text at texts of whatever bound. -/
section
namespace Go.Proofs.YtcflpcpkmhljkaaGreatDoor
open Go.RowKit
set_option linter.unusedVariables false

set_option maxRecDepth 100000 in
set_option maxHeartbeats 1000000 in
theorem Text_gen (M : Nat) (v : Value) (ps : List Bytes) (w : World) (hv : Strs w v ps) (hM : ps.length * (M + 10) ≤ 140000000000000) (hp : ∀ p ∈ ps, p.length ≤ M) :
    Calls Tryz.prog 137 #[v] w fun e w' => e = .returned (.string ⟨(textsE ps).toArray⟩) ∧ Q w w' := by
  have hnn : ps.length ≤ 140000000000000 := Nat.le_trans (Nat.le_mul_of_pos_right _ (by omega)) hM
  obtain ⟨a, cap, rfl, hcell⟩ := hv.value
  have HC := Lib.hid hcell; have HP := Lib.hid hp; clear hcell hv hp
  go_enter Tryz.func137, Tryz.ntmps137
  go_wp2_with fail
  go_loopw [8, 5] (fun i _ wr => ∃ k : Nat, k ≤ ps.length ∧ i = .int .i64 k ∧ Hid (∃ r, Bld wr w.heap.size w.heap.size r (textsE (ps.take k))) ∧ Hid (Below w.heap.size w wr)) (fun i _ _ => ps.length - (intOf i).toNat)
  case atStart => exact ⟨0, by omega, rfl, ⟨none, Bld.new w _ (Nat.le_refl _)⟩, (Below.refl _ _).alloc (Nat.le_refl _) _⟩
  case round =>
    obtain ⟨k, hk, rfl, HB, HW⟩ := hrel
    obtain ⟨wo, rfl⟩ : ∃ wo : World, wo = wr := ⟨_, rfl⟩
    by_cases hlt : k < ps.length
    · obtain ⟨b, off, rfl, hc⟩ := HC.out (by omega)
      have hck := hc k hlt
      have hcw : wo.cell? ⟨b, off + k, none⟩ = some (.string ⟨ps[k].toArray⟩) := cell_stays HW.out hck
      have hpl := HP.out _ (List.getElem_mem hlt)
      have hvt := textsE_take ps k hlt
      have hvl := textsE_len (ps.take k) M (fun s hs => HP.out s (List.mem_of_mem_take hs))
      have htl : (ps.take k).length ≤ k := List.length_take_le _ _
      have hvl2 : (textsE (ps.take k)).length + (M + 10) ≤ 140000000000000 := by
        have h1 : (ps.take k).length * (M + 10) ≤ k * (M + 10) := Nat.mul_le_mul_right _ htl
        have h2 : (k + 1) * (M + 10) ≤ ps.length * (M + 10) := Nat.mul_le_mul_right _ (by omega)
        rw [Nat.succ_mul] at h2
        omega
      generalize ps[k] = p at *
      generalize textsE (ps.take k) = pre at *
      clear hvl htl
      have hvel := varE_len p.length
      have hW := HW.out
      have hsz := hW.size
      obtain ⟨r, hbld⟩ := HB.out
      have cv := Var_any (.slice (some ⟨wo.heap.size, 0, none⟩) 1 1) [p.length] (wo.alloc (.cells #[.int .u64 (p.length : Nat)] 132)) (Sl.lit wo #[.int .u64 (p.length : Nat)] 132 1 1 rfl) (by simp) (by intro n hn; simp at hn; omega)
      have hve : varsE [p.length] = varE p.length := by simp [varsE]
      rw [hve] at cv
      have HVT := Lib.hid hvt; have HCC := Lib.hid hc; have CV := Lib.hid cv; have HBD := Lib.hid hbld
      clear hvt hc hck cv hve hbld hW
      go_wp2_with fail
      refine CV.out.mono ?_
      rintro e w2 ⟨rfl, q2⟩
      have hq2 : Q wo w2 := (Q.alloc _ _).trans q2
      have hb2 := HBD.out.q hq2
      have hW2 : Below w.heap.size w w2 := HW.out.trans (Below.mono hq2 (by omega))
      have hsz2 := hW2.size
      have cw := WriteString_any w.heap.size w.heap.size r pre (varE p.length ++ p) w2 hb2 (by rw [List.length_append]; omega) (by omega)
      have hst : pre ++ (varE p.length ++ p) = textsE (ps.take (k + 1)) := by rw [HVT.out]; rfl
      rw [hst] at cw
      have CW := Lib.hid cw; have HW2 := Lib.hid hW2; have HB2 := Lib.hid hb2
      clear q2 hq2 hb2 hW2 cw hst
      go_wp2_with fail
      rw [bytes_append]
      refine CW.out.mono ?_
      rintro e w3 ⟨rfl, hs3, r', hbld', hfr⟩
      have HB3 := Lib.hid (HW2.out.trans (HB2.out.below hs3 (by omega)))
      have HBL := Lib.hid hbld'
      clear hs3 hbld' hfr
      go_wp2_with fail
      go_roundw
      case rel => exact ⟨k + 1, by omega, by go_num, ⟨r', HBL.out⟩, HB3⟩
      case measure => simp [intOf]; omega
    · have hkk : k = ps.length := by omega
      subst hkk
      rw [List.take_length] at HB
      obtain ⟨r, hbld⟩ := HB.out
      have hW := HW.out
      have hsz := hW.size
      have c := String_any w.heap.size w.heap.size r (textsE ps) wo hbld (by omega)
      have C := Lib.hid c
      clear c hbld hW
      go_wp2_with fail
      refine C.out.mono ?_
      rintro e w3 ⟨rfl, hb3⟩
      have HB3 := Lib.hid (HW.out.trans hb3)
      clear hb3
      go_wp2_with fail
      go_ret
      exact ⟨rfl, HB3.out⟩
end Go.Proofs.YtcflpcpkmhljkaaGreatDoor
end
