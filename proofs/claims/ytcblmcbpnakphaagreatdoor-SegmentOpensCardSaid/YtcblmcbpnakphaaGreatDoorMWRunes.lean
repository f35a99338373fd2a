/- Joined texts of one proof: WRunes. -/
import Derived.Test.YtcblmcbpnakphaaGreatDoorMWUtfToWRune
import Derived.Test.YtcblmcbpnakphaaGreatDoorMRangeToWKind
import Derived.Lib.OthersKept
set_option linter.unusedSimpArgs false
set_option linter.unusedVariables false
set_option linter.unnecessarySimpa false
/- (WRunes) utf.Runes: the iterator over a text's runes: its contract. -/
section
namespace Go.Proofs.YtcblmcbpnakphaaGreatDoor
open Go.RowKit
set_option linter.unusedVariables false
attribute [local go_sem] Oper.semAt_some

/-- the runes of a text with the places where they begin -/
def runesAt : Nat → List (Int × Bytes) → List (Nat × Int)
  | _, [] => []
  | p, c :: cs => (p, c.1) :: runesAt (p + c.2.length) cs
abbrev runePlaces (s : Bytes) : List (Nat × Int) := runesAt 0 (chunks s)
abbrev encRune (x : Nat × Int) : Array Value := #[.int .i64 x.1, .int .i64 x.2]

theorem Runes_any (s : Bytes) (w : World) :
    Calls Tryz.prog 158 #[.string ⟨s.toArray⟩] w fun e w' => e = .returned (.func (.func 180) #[] #[.pointer (some ⟨w.heap.size, 0, none⟩)]) ∧ w.alloc (.cells #[strV s] 9) = w' := by
  go_enter Tryz.func158, Tryz.ntmps158
  go_wp2_with fail
  go_ret
  exact ⟨rfl, rfl⟩

theorem runesAt_length (p : Nat) (cs : List (Int × Bytes)) : (runesAt p cs).length = cs.length := by
  induction cs generalizing p with
  | nil => rfl
  | cons c cs ih => simp [runesAt, ih]
/-- what the model's range over a string tells, and what Rune tells of it -/
theorem decode_drop (s : Bytes) (p : Nat) (hp : p < s.length) :
    (rune1 (s.drop p)).2 = (Utf8.decode ⟨s.toArray⟩ p).2 ∧ ((Utf8.decode ⟨s.toArray⟩ p).1 ≠ 65533 → (rune1 (s.drop p)).1 = (Utf8.decode ⟨s.toArray⟩ p).1) ∧ (Utf8.decode ⟨s.toArray⟩ p).1 ≤ 1114111 := by
  have hne : s.drop p ≠ [] := fun h => by have := congrArg List.length h; rw [List.length_drop] at this; simp at this; omega
  have hd : Utf8.decode ⟨s.toArray⟩ p = Lib.decodeN (s.drop p).length ((s.drop p).getD 0 0).toNat ((s.drop p).getD 1 0).toNat ((s.drop p).getD 2 0).toNat ((s.drop p).getD 3 0).toNat := by
    rw [Lib.decode_at]
    have hg : ∀ i, (ByteArray.mk s.toArray).get! (p + i) = (s.drop p).getD i 0 := by
      intro i
      rw [List.getD_eq_getElem?_getD, List.getElem?_drop]
      show s.toArray[p + i]! = _
      simp [getElem!_def]
      cases s[p + i]? <;> rfl
    have h0 := hg 0
    rw [Nat.add_zero] at h0
    rw [h0, hg 1, hg 2, hg 3]
    congr 1
    show s.toArray.size - p = _
    rw [List.length_drop]; simp
  rw [hd]
  refine and_assoc.1 ⟨?_, (decodeN_bounds _ _ _ _ _).1⟩
  cases hs : s.drop p with
  | nil => exact absurd hs hne
  | cons b t =>
    unfold rune1
    simp only []
    split
    · rename_i h; exact ⟨rfl, fun h2 => absurd h.1 h2⟩
    · exact ⟨rfl, fun _ => rfl⟩
theorem block_stays' {w w' : World} (hb : Q w w') {k : Nat} {o : Obj} (h : w.heap[k]? = some o) : w'.heap[k]? = some o := (hb.block k (Array.getElem?_eq_some_iff.1 h).1).trans h
set_option maxRecDepth 100000 in
set_option maxHeartbeats 2000000 in
theorem Runes_seq (s : Bytes) (B n₀ : Nat) (W : World) (hs : s.length ≤ 9223372036854775807) (hb : Boxed W B 9 (strV s)) (hn : n₀ ≤ W.heap.size) (hTb : ∀ W', Below n₀ W W' → Tabs W') :
    Seq Tryz.prog 180 #[.pointer (some ⟨B, 0, none⟩)] encRune (fun _ => False) (fun k => k = B) n₀ (runePlaces s) W := by
  intro n l J Jx hJ hJx hY h0
  refine callsIn_of_wp Tryz.func180 rfl trivial ?_ rfl
  simp only [Tryz.ntmps180, List.size_toArray, List.length_cons, List.length_nil, Nat.reduceAdd, Nat.reduceSub, Array.replicate_succ, Array.replicate_zero, List.push_toArray, List.append_toArray, List.nil_append, List.cons_append]
  have hc := hb.cell
  have hq0 : Q W (W.alloc (.stringIter ⟨s.toArray⟩ 0)) := Q.alloc _ _
  have H0 := Lib.hid h0; have HQ0 := Lib.hid hq0; have HTB := Lib.hid hTb; have HBX := Lib.hid hb; have HYH := Lib.hid hY
  have hBlt := hb.lt
  clear h0 hq0 hTb hb hY
  gi_wp2
  gi_loopw [3] (fun _ wr => ∃ (k pos : Nat), pos ≤ s.length ∧ k ≤ (runePlaces s).length ∧ Hid (wr.heap[W.heap.size]? = some (.stringIter ⟨s.toArray⟩ pos)) ∧ Hid (Below n₀ W wr) ∧ Hid (Boxed wr B 9 (strV s)) ∧ Hid (J k wr) ∧ Hid ((runePlaces s).drop k = runesAt pos (chunks (s.drop pos)))) (fun _ wr => s.length - wr.iterPos W.heap.size)
  case atStart =>
    exact ⟨0, 0, by omega, by omega, World.alloc_heap_new _ _, Below.mono HQ0.out hn, HBX.out.alloc _, hJ _ _ _ H0.out (Itk.of_q HQ0.out), by show _ = _; simp [runePlaces]⟩
  case round =>
    obtain ⟨k, pos, hp, hkle, HI, HB, HBB, HJ, HD⟩ := hrel
    obtain ⟨wo, rfl⟩ : ∃ wo : World, wo = wr := ⟨_, rfl⟩
    by_cases hlt : pos < s.length
    · have hne : s.drop pos ≠ [] := fun h => by have := congrArg List.length h; rw [List.length_drop] at this; simp at this; omega
      have hcs := chunks_cons (s.drop pos) hne
      have hsz := rune1_size (s.drop pos) hne
      rw [List.length_drop] at hsz
      obtain ⟨d1, d2, d3⟩ := decode_drop s pos hlt
      have hx := HD.out
      rw [hcs, runesAt, List.length_take, List.length_drop, Nat.min_eq_left (by omega), List.drop_drop] at hx
      have hkl : k < (runePlaces s).length := by
        rcases Nat.lt_or_ge k (runePlaces s).length with h | h
        · exact h
        · rw [List.drop_eq_nil_of_le h] at hx; cases hx
      rw [List.drop_eq_getElem_cons hkl] at hx
      injection hx with hx1 hx2
      have hnx : ∀ ty, (Instr.next (.pointer (some ⟨W.heap.size, 0, none⟩)) true ty).run Tryz.prog wo = _ := fun ty => Lib.run_next_any_at wo W.heap.size ⟨s.toArray⟩ pos ty HI.out hlt
      have hR := Rune_any (s.drop pos)
      rw [d1] at hsz hx2
      simp only [] at hx1
      generalize (rune1 (s.drop pos)).1 = R at *
      generalize (rune1 (s.drop pos)).2 = N0 at *
      generalize hdec : Utf8.decode ⟨s.toArray⟩ pos = dc at *
      obtain ⟨c, N⟩ := dc
      simp only [] at d1 d2 d3 hsz hx2 hnx
      subst d1
      have HX := Lib.hid hx1; have HD2 := Lib.hid hx2; have HR0 := Lib.hid hR; have HC2 := Lib.hid d2; have HDEC := Lib.hid hdec; have HCS := Lib.hid hcs; have HNE := Lib.hid hne
      have hjw : J k (wo.iterAt W.heap.size ⟨s.toArray⟩ (pos + N0)) := hJ _ _ _ HJ.out (Itk.iterAt _ HI.out (Nat.le_refl _))
      have hiw := Lib.iterAt_heap wo W.heap.size ⟨s.toArray⟩ pos (pos + N0) HI.out
      have hbw : Below n₀ W (wo.iterAt W.heap.size ⟨s.toArray⟩ (pos + N0)) := Lib.below_iterAt HB.out hn _ _
      have hbb : Boxed (wo.iterAt W.heap.size ⟨s.toArray⟩ (pos + N0)) B 9 (strV s) := (Lib.iterAt_other _ _ _ _ _ (by omega)).trans HBB.out
      have hcw := hbb.cell
      have HBBW := Lib.hid hbb
      have HJW := Lib.hid hjw; have HIW := Lib.hid hiw; have HBW := Lib.hid hbw
      clear hx1 hx2 hR d2 hdec hcs hjw hiw hbw hne hbb
      generalize wo.iterAt W.heap.size ⟨s.toArray⟩ (pos + N0) = wi at *
      by_cases hc5 : c = 65533
      · subst hc5
        have hTi : Tabs wi := HTB.out _ HBW.out
        have HTI := Lib.hid hTi; clear hTi
        gi_wp2
        rw [bytes_drop]
        refine ⟨trivial, fun h => (by cases h), (callsIn_wide.2 (HR0.out wi HNE.out HTI.out)).mono ?_⟩
        rintro e w2 ⟨rfl, q2⟩
        have hj2 : J k w2 := hJ _ _ _ HJW.out (Itk.of_q q2)
        have hi2 := block_stays' q2 HIW.out
        have hb2 : Below n₀ W w2 := HBW.out.trans (Below.mono q2 (by have := HBW.out.size; omega))
        have HBB2 := Lib.hid (block_stays' q2 HBBW.out)
        have HJ2 := Lib.hid hj2; have HI2 := Lib.hid hi2; have HB2 := Lib.hid hb2
        clear hj2 hi2 hb2 q2
        obtain ⟨fn, tmps, assign, body, hy, hR⟩ := HYH.out k hkl w2 HJ2.out (fun b h => by rw [h]; exact lt_of_get HBB2.out)
        rw [HX.out] at hy
        dsimp only [encRune] at hy
        have HYY := Lib.hid hR; clear hR
        gi_wp2
        refine ⟨fun h => (by cases h), (HYY.out _).mono ?_⟩
        rintro e W3 (⟨rfl, hJ3, hk3⟩ | ⟨rfl, hJx3, _⟩)
        · have hi3 : W3.heap[W.heap.size]? = some (.stringIter ⟨s.toArray⟩ (pos + N0)) := hk3.walks _ _ HI2.out rfl
          have hb4 : Boxed W3 B 9 (strV s) := (hk3.own B rfl (lt_of_get HBB2.out)).trans HBB2.out
          have HBB3 := Lib.hid hb4; clear hb4
          have hb3 : Below n₀ W W3 := HB2.out.trans hk3.below
          have HI3 := Lib.hid hi3; have HB3 := Lib.hid hb3; have HJ3 := Lib.hid hJ3
          clear hi3 hb3 hJ3 hk3
          gi_wp2
          go_roundw
          case rel => exact ⟨k + 1, pos + N0, by omega, by omega, HI3, HB3, HBB3, HJ3, HD2⟩
          case measure => rw [World.iterPos, HI3.out, World.iterPos, HI.out]; simp only []; omega
        · have HJX := Lib.hid hJx3; clear hJx3
          gi_wp2
          refine bodyPost_ret (results_none rfl _ _ _) rfl ?_
          exact ⟨⟨_, rfl⟩, .inr ⟨k + 1, by omega, HJX.out⟩⟩
      · have hRc : R = (c : Int) := HC2.out hc5
        subst hRc
        have hcb : ((c : Int) == 65533) = false := by simp; omega
        obtain ⟨fn, tmps, assign, body, hy, hR⟩ := HYH.out k hkl wi HJW.out (fun b h => by rw [h]; exact lt_of_get HBBW.out)
        rw [HX.out] at hy
        dsimp only [encRune] at hy
        have HYY := Lib.hid hR; clear hR
        gi_wp2
        refine ⟨fun h => (by cases h), (HYY.out _).mono ?_⟩
        rintro e W3 (⟨rfl, hJ3, hk3⟩ | ⟨rfl, hJx3, _⟩)
        · have hi3 : W3.heap[W.heap.size]? = some (.stringIter ⟨s.toArray⟩ (pos + N0)) := hk3.walks _ _ HIW.out rfl
          have hb4 : Boxed W3 B 9 (strV s) := (hk3.own B rfl (lt_of_get HBBW.out)).trans HBBW.out
          have HBB3 := Lib.hid hb4; clear hb4
          have hb3 : Below n₀ W W3 := HBW.out.trans hk3.below
          have HI3 := Lib.hid hi3; have HB3 := Lib.hid hb3; have HJ3 := Lib.hid hJ3
          clear hi3 hb3 hJ3 hk3
          gi_wp2
          go_roundw
          case rel => exact ⟨k + 1, pos + N0, by omega, by omega, HI3, HB3, HBB3, HJ3, HD2⟩
          case measure => rw [World.iterPos, HI3.out, World.iterPos, HI.out]; simp only []; omega
        · have HJX := Lib.hid hJx3; clear hJx3
          gi_wp2
          refine bodyPost_ret (results_none rfl _ _ _) rfl ?_
          exact ⟨⟨_, rfl⟩, .inr ⟨k + 1, by omega, HJX.out⟩⟩
    · have hnx : ∀ ty, (Instr.next (.pointer (some ⟨W.heap.size, 0, none⟩)) true ty).run Tryz.prog wo = _ := fun ty => Lib.run_next_end_at wo W.heap.size ⟨s.toArray⟩ pos ty HI.out hlt
      have hkl : (runePlaces s).length ≤ k := by
        have := HD.out
        rw [List.drop_eq_nil_of_le (show s.length ≤ pos by omega), chunks_nil, runesAt] at this
        have := congrArg List.length this
        simp at this
        omega
      have hkk : k = (runePlaces s).length := by omega
      have hj : J (runePlaces s).length wo := by rw [← hkk]; exact HJ.out
      have HJF := Lib.hid hj
      clear hkl hkk hj
      gi_wp2
      go_end0
      exact ⟨⟨_, rfl⟩, .inl HJF.out⟩
end Go.Proofs.YtcblmcbpnakphaaGreatDoor
end
