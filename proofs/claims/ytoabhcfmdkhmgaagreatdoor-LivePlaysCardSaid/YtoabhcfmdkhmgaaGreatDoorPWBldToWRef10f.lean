/- Joined texts of one proof: WBld, WRef10f. -/
import Derived.Test.YtoabhcfmdkhmgaaGreatDoorPMem3ToBld
import Derived.Lib.AppendStr
set_option linter.unusedSimpArgs false
set_option linter.unusedVariables false
set_option linter.unnecessarySimpa false
/- (WBld) strings.Builder's WriteByte, WriteString: walked -/
section
namespace Go.Proofs.YtoabhcfmdkhmgaaGreatDoor
open Go.RowKit
set_option linter.unusedVariables false

theorem byteVs_length (l : Bytes) : (byteVs l).length = l.length := by simp [byteVs, Lib.byteCells]
theorem byteVs_append (a b : Bytes) : byteVs (a ++ b) = byteVs a ++ byteVs b := by simp [byteVs, Lib.byteCells]
theorem strCells_bytes (l : Bytes) : Lib.strCells ⟨l.toArray⟩ = byteVs l := by simp [Lib.strCells, byteVs, Lib.byteCells]
/-- the field is written: the builder holds the new row -/
theorem Bld.put {w1 w2 : World} {B b : Nat} {r : Option Nat} {l l' : Bytes} {v v' : Value} (hB : B ≤ b) (hb2 : w2.heap[b]? = some (.cells #[.pointer (some ⟨b, 0, none⟩), v] 125 (0, 0)))
    (hown' : w2.ownsRowF B 5 1 v' l'.length (byteVs l')) (hr : v'.ownBlock ≠ some b) (hnil : l' = [] → v'.ownBlock = none) : Bld (w2.setCell ⟨b, 1, none⟩ v') B b v'.ownBlock l' := by
  refine ⟨hB, _, v', ?_, .inr rfl, ⟨hown'.1, ?_⟩, rfl, hr, hnil⟩
  · simp [World.setCell, Array.getElem?_modify, hb2]
  · rcases hown'.2 with hn | ⟨g, cap, cur, fz, rfl, hbg, hg, rest⟩
    · exact .inl hn
    · refine .inr ⟨g, cap, cur, fz, rfl, hbg, ?_, rest⟩
      have hne : g ≠ b := by rintro rfl; exact hr rfl
      rw [Below.heap_setCell _ _ _ _ (by simpa using hne)]
      exact hg
theorem Step2.append {w w1 w2 : World} {b : Nat} {r : Option Nat} {v v' : Value} (hs1 : Step2 w w1 b none) (hg : w1.grownBy w2 v.ownBlock) (hv : v.ownBlock = r) : Step2 w (w2.setCell ⟨b, 1, none⟩ v') b r := by
  refine ⟨hg.os.trans hs1.os, hg.tape.trans hs1.tape, hg.output.trans hs1.output, by have := hg.size; have := hs1.size; simp [World.setCell]; omega, fun k hk hkb hkr => ?_⟩
  rw [Below.heap_setCell _ _ _ _ (by simpa using hkb), hg.block k (by have := hs1.size; omega) (by rw [hv]; exact hkr), hs1.block k hk hkb (by simp)]

set_option maxRecDepth 100000 in
set_option maxHeartbeats 2000000 in
theorem WriteByte_any (B b : Nat) (r : Option Nat) (l : Bytes) (x : UInt8) (c : Int) (w : World) (h : Bld w B b r l) (hc : c = x.toNat) (hlen : l.length + 1 ≤ 140737488355328) (hB : B ≤ w.heap.size) :
    Calls Tryz.prog 89 #[.pointer (some ⟨b, 0, none⟩), .int .u8 c] w fun e w' => e = .returned .nilIface ∧ Step2 w w' b r ∧ ∃ r', Bld w' B b r' (l ++ [x]) ∧ Fresh w r r' := by
  obtain ⟨i0, hi, hz0, hz1, hz2⟩ := info_parts infoByte
  have hBb := h.1
  have hlt0 := h.lt
  have hr5 : r ≠ some b := by obtain ⟨_, _, _, _, _, _, _, h5, _⟩ := h; exact h5
  have C := copyCheck_any B b r l w h
  have hne : some b ≠ r := fun e => hr5 e.symm
  have HC := Lib.hid C; have HN := Lib.hid hr5; have HX := Lib.hid hc
  clear C hr5 hne hc h
  go_enter Tryz.func89, Tryz.ntmps89
  go_wp2_with (go_at_call 88; refine HC.out.mono ?_)
  rintro e w1 ⟨rfl, hs1, v, hbk, hown, hvr⟩
  have c0 : w1.cell? ⟨b, 0, none⟩ = some (.pointer (some ⟨b, 0, none⟩)) := by simp [World.cell?, hbk]
  have c1 : w1.cell? ⟨b, 1, none⟩ = some v := by simp [World.cell?, hbk]
  have hsz1 := hs1.size
  have HS1 := Lib.hid hs1; have HVR := Lib.hid hvr; have HBK := Lib.hid hbk
  clear hs1 hvr hbk
  go_wp2_with (at_builtin; refine wpList_app_byteF w1 (by rfl) _ _ 100 (by rfl) B 5 _ i0 Tryz.underlying100 hi hz0 hz1 hz2 v l.length (byteVs l) (by rfl) hown c (by rfl) ?c4 ?c5 ?_)
  case c4 => omega
  case c5 => omega
  intro v' w2 hown' hgrow hfr
  have hb1lt : b < w1.heap.size := by omega
  have hvb : v.ownBlock ≠ some b := by rw [HVR.out]; exact HN.out
  have hb2 : w2.heap[b]? = some (.cells #[.pointer (some ⟨b, 0, none⟩), v] 125 (0, 0)) := by
    rw [hgrow.block b hb1lt (fun e => hvb e.symm)]; exact HBK.out
  have d1 : w2.cell? ⟨b, 1, none⟩ = some v := by simp [World.cell?, hb2]
  have f1 : w2.frozen? ⟨b, 1, none⟩ = false := by simp [World.frozen?, hb2]
  have hv' : v'.ownBlock ≠ some b := by
    rcases hfr with hfr | ⟨g, hg, hgl⟩
    · rw [hfr]; exact hvb
    · rw [hg]; intro e; simp at e; omega
  obtain ⟨ao, n', cap, rfl⟩ : ∃ ao n' cap, v' = .slice ao n' cap := by
    rcases hown'.2 with ⟨hv, _⟩ | ⟨g, cap, cur, fz, hv, _⟩
    · exact ⟨_, _, _, hv⟩
    · exact ⟨_, _, _, hv⟩
  have HOW := Lib.hid hown'; have HG := Lib.hid hgrow; have HFR := Lib.hid hfr; have HB2 := Lib.hid hb2; have HV := Lib.hid hv'
  clear hown' hgrow hfr hb2 hv' hvb hown
  go_wp2
  go_ret
  refine ⟨rfl, HS1.out.append HG.out HVR.out, _, Bld.put (w1 := w1) (l := l) (r := r) hBb HB2.out ?_ HV.out (fun e => by simp at e), ?_⟩
  · rw [List.length_append, byteVs_append]
    have := HOW.out
    rw [HX.out] at this
    exact this
  · rcases HFR.out with e | ⟨g, e1, e2⟩
    · exact Or.inl (e.trans HVR.out)
    · exact Or.inr ⟨g, e1, by omega⟩

set_option maxRecDepth 100000 in
set_option maxHeartbeats 2000000 in
theorem WriteString_any (B b : Nat) (r : Option Nat) (l s : Bytes) (w : World) (h : Bld w B b r l) (hlen : l.length + s.length ≤ 140737488355328) (hB : B ≤ w.heap.size) :
    Calls Tryz.prog 67 #[.pointer (some ⟨b, 0, none⟩), .string ⟨s.toArray⟩] w fun e w' => e = .returned (.tuple #[.int .i64 s.length, .nilIface]) ∧ Step2 w w' b r ∧ ∃ r', Bld w' B b r' (l ++ s) ∧ Fresh w r r' := by
  obtain ⟨i0, hi, hz0, hz1, hz2⟩ := info_parts infoByte
  have hBb := h.1
  have hlt0 := h.lt
  have hr5 : r ≠ some b := by obtain ⟨_, _, _, _, _, _, _, h5, _⟩ := h; exact h5
  have hnl : l = [] → r = none := by obtain ⟨_, _, _, _, _, _, _, _, h6⟩ := h; exact h6
  have HNL := Lib.hid hnl
  clear hnl
  have C := copyCheck_any B b r l w h
  have HC := Lib.hid C; have HN := Lib.hid hr5
  clear C hr5 h
  go_enter Tryz.func67, Tryz.ntmps67
  go_wp2_with (go_at_call 88; refine HC.out.mono ?_)
  rintro e w1 ⟨rfl, hs1, v, hbk, hown, hvr⟩
  have c0 : w1.cell? ⟨b, 0, none⟩ = some (.pointer (some ⟨b, 0, none⟩)) := by simp [World.cell?, hbk]
  have c1 : w1.cell? ⟨b, 1, none⟩ = some v := by simp [World.cell?, hbk]
  have hsz1 := hs1.size
  have hss : ({ data := s.toArray } : ByteArray).size = s.length := by simp [ByteArray.size]
  have HSS := Lib.hid hss
  have HS1 := Lib.hid hs1; have HVR := Lib.hid hvr; have HBK := Lib.hid hbk
  clear hs1 hvr hbk hss
  go_wp2_with (at_builtin; refine wpList_app_strF w1 (by rfl) _ _ 100 9 (by rfl) B 5 i0 Tryz.underlying100 Tryz.underlying9 hi hz0 hz1 hz2 v l.length (byteVs l) (by rfl) hown ⟨s.toArray⟩ (by rfl) ?c4 ?c5 ?_)
  case c4 => rw [HSS.out]; omega
  case c5 => omega
  intro v' w2 hown' hgrow hfr hiff
  have hnil' : l ++ s = [] → v'.ownBlock = none := fun e => by
    have hl : l = [] := by cases l with | nil => rfl | cons a l => simp at e
    have hs : s = [] := by subst hl; simpa using e
    have hv0 : v = .slice none 0 0 := by
      rcases hown.2 with ⟨hv, _⟩ | ⟨g, cap, cur, fz, hv, _⟩
      · exact hv
      · exfalso; have := HVR.out; rw [HNL.out hl, hv] at this; cases this
    rw [hiff.2 ⟨hv0, hs⟩]; rfl
  have HNIL := Lib.hid hnil'
  clear hnil' hiff
  have hb1lt : b < w1.heap.size := by omega
  have hvb : v.ownBlock ≠ some b := by rw [HVR.out]; exact HN.out
  have hb2 : w2.heap[b]? = some (.cells #[.pointer (some ⟨b, 0, none⟩), v] 125 (0, 0)) := by
    rw [hgrow.block b hb1lt (fun e => hvb e.symm)]; exact HBK.out
  have d1 : w2.cell? ⟨b, 1, none⟩ = some v := by simp [World.cell?, hb2]
  have f1 : w2.frozen? ⟨b, 1, none⟩ = false := by simp [World.frozen?, hb2]
  have hv' : v'.ownBlock ≠ some b := by
    rcases hfr with hfr | ⟨g, hg, hgl⟩
    · rw [hfr]; exact hvb
    · rw [hg]; intro e; simp at e; omega
  obtain ⟨ao, n', cap, rfl⟩ : ∃ ao n' cap, v' = .slice ao n' cap := by
    rcases hown'.2 with ⟨hv, _⟩ | ⟨g, cap, cur, fz, hv, _⟩
    · exact ⟨_, _, _, hv⟩
    · exact ⟨_, _, _, hv⟩
  have HOW := Lib.hid hown'; have HG := Lib.hid hgrow; have HFR := Lib.hid hfr; have HB2 := Lib.hid hb2; have HV := Lib.hid hv'
  clear hown' hgrow hfr hb2 hv' hvb hown
  go_wp2
  go_ret2
  refine ⟨rfl, HS1.out.append HG.out HVR.out, _, Bld.put (w1 := w1) (l := l) (r := r) hBb HB2.out ?_ HV.out HNIL.out, ?_⟩
  · rw [List.length_append, byteVs_append]
    have := HOW.out
    rw [strCells_bytes] at this
    exact this
  · rcases HFR.out with e | ⟨g, e1, e2⟩
    · exact Or.inl (e.trans HVR.out)
    · exact Or.inr ⟨g, e1, by omega⟩
theorem cellsByte : Tryz.prog.cellsOf 5 = 1 := by kernel_rfl
theorem freeze_other (w : World) (g n k : Nat) (h : k ≠ g) : (w.freeze ⟨g, 0, none⟩ n).heap[k]? = w.heap[k]? := by
  unfold World.freeze
  split
  · rfl
  · simp only [Array.getElem?_modify]
    rw [if_neg (by omega)]
theorem freeze_size (w : World) (g n : Nat) : (w.freeze ⟨g, 0, none⟩ n).heap.size = w.heap.size := by
  unfold World.freeze
  split
  · rfl
  · simp
theorem freeze_rest (w : World) (g n : Nat) : (w.freeze ⟨g, 0, none⟩ n).os = w.os ∧ (w.freeze ⟨g, 0, none⟩ n).tape = w.tape ∧ (w.freeze ⟨g, 0, none⟩ n).output = w.output := by
  unfold World.freeze
  split <;> exact ⟨rfl, rfl, rfl⟩

set_option maxRecDepth 100000 in
set_option maxHeartbeats 2000000 in
theorem String_some (B b : Nat) (r : Option Nat) (l : Bytes) (w : World) (h : Bld w B b r l) (h0 : l ≠ []) :
    Calls Tryz.prog 71 #[.pointer (some ⟨b, 0, none⟩)] w fun e w' => e = .returned (.string ⟨l.toArray⟩) ∧ Step2 w w' b r ∧ Bld w' B b r l := by
  obtain ⟨hB, p, v, hbk, hp, hown, hvr, hne, hnl⟩ := h
  have hl0 : l.length ≠ 0 := by simpa using h0
  obtain ⟨g, cap, cur, fz, rfl, hbg, hg, hfz, hnc, hcm, hcs, htake⟩ : ∃ g cap cur fz, v = .slice (some ⟨g, 0, none⟩) l.length cap ∧ B ≤ g ∧ w.heap[g]? = some (.cells cur 5 fz) ∧ fz.2 ≤ l.length * 1 ∧ l.length ≤ cap ∧ cap ≤ maxLen ∧ cur.size = cap * 1 ∧ cur.toList.take (l.length * 1) = byteVs l := by
    rcases hown.2 with ⟨_, hz⟩ | ⟨g, cap, cur, fz, hv, rest⟩
    · exact absurd hz hl0
    · exact ⟨g, cap, cur, fz, hv, rest⟩
  have hrg : r = some g := hvr.symm
  have hgb : g ≠ b := by rintro rfl; exact hne hrg
  have c1 : w.drew.cell? ⟨b, 1, none⟩ = some (.slice (some ⟨g, 0, none⟩) l.length cap) := by
    have : w.drew.heap[b]? = some (.cells #[p, .slice (some ⟨g, 0, none⟩) l.length cap] 125 (0, 0)) := hbk
    simp [World.cell?, this]
  have hSD : (Builtin.unsafeSliceData_ #[100] 168 #[.slice (some ⟨g, 0, none⟩) l.length cap]).run Tryz.prog w.drew = .ok (.pointer (some ⟨g, 0, none⟩)) w.drew :=
    Lib.run_unsafeSliceData_row _ _ _ _ _ _ (by omega)
  have hUS : (Builtin.unsafeString_ #[168, 3] 9 #[.pointer (some ⟨g, 0, none⟩), .int .i64 l.length]).run Tryz.prog w.drew = .ok (.string ⟨l.toArray⟩) (w.drew.freeze ⟨g, 0, none⟩ l.length) := by
    refine Lib.run_unsafeString_row w.drew 168 3 9 5 Tryz.underlying168 cellsByte g cur.size (by have hg' : w.drew.heap[g]? = some (.cells cur 5 fz) := hg; simp [World.shape?, hg']) l h0 (by omega) (by unfold maxLen at hcm; omega) ?_
    intro j x hx
    have := hown.cells (g := g) rfl j (.int .u8 x.toNat) (by simp [byteVs, Lib.byteCells, hx])
    exact this
  have hA : Lib.BuilderAtF 125 5 B b p (Lib.byteCells l) w.drew := ⟨hB, _, hbk, by rw [Lib.byteCells_length]; exact hown, by rw [hvr]; exact hne⟩
  have hF := hA.froze (g := g) (cap := cap) (by rw [Lib.byteCells_length]; exact c1)
  rw [Lib.byteCells_length] at hF
  have hkeep : Bld (w.drew.freeze ⟨g, 0, none⟩ l.length) B b r l := by
    obtain ⟨k1, v2, k2, k3, k4⟩ := hF
    have e2 : (w.drew.freeze ⟨g, 0, none⟩ l.length).heap[b]? = some (.cells #[p, .slice (some ⟨g, 0, none⟩) l.length cap] 125 (0, 0)) := by
      rw [freeze_other _ _ _ _ (fun e => hgb e.symm)]; exact hbk
    rw [e2] at k2
    simp only [Option.some.injEq, Obj.cells.injEq] at k2
    have e3 : v2 = .slice (some ⟨g, 0, none⟩) l.length cap := by have := k2.1; simp at this; exact this.symm
    subst e3
    rw [Lib.byteCells_length] at k3
    exact ⟨hB, p, _, e2, hp, k3, hvr, hne, hnl⟩
  have hstep : Step2 w (w.drew.freeze ⟨g, 0, none⟩ l.length) b r := by
    obtain ⟨f1, f2, f3⟩ := freeze_rest w.drew g l.length
    exact ⟨f1, f2, f3, by rw [freeze_size]; exact Nat.le_refl _, fun k hk hkb hkr => by rw [freeze_other _ _ _ _ (fun e => hkr (by rw [hrg, e]))]; rfl⟩
  have HK := Lib.hid hkeep; have HST := Lib.hid hstep
  clear hkeep hstep hF hA hne hrg hgb hvr hnl
  go_enter Tryz.func71, Tryz.ntmps71
  go_wp2
  go_region
  all_goals (go_wp2; go_ret; exact ⟨rfl, HST.out, HK.out⟩)

set_option maxRecDepth 100000 in
set_option maxHeartbeats 2000000 in
theorem String_nil (B b : Nat) (r : Option Nat) (w : World) (h : Bld w B b r []) :
    Calls Tryz.prog 71 #[.pointer (some ⟨b, 0, none⟩)] w fun e w' => e = .returned (.string ⟨([] : Bytes).toArray⟩) ∧ Q w w' := by
  obtain ⟨hB, p, v, hbk, hp, hown, hvr, hne, hnl⟩ := h
  have hv0 : v = .slice none 0 0 := by
    rcases hown.2 with ⟨hv, _⟩ | ⟨g, cap, cur, fz, hv, _⟩
    · exact hv
    · exfalso; rw [hnl rfl, hv] at hvr; cases hvr
  subst hv0
  have c1 : w.drew.cell? ⟨b, 1, none⟩ = some (.slice none 0 0) := by
    have : w.drew.heap[b]? = some (.cells #[p, .slice none 0 0] 125 (0, 0)) := hbk
    simp [World.cell?, this]
  have hSD : (Builtin.unsafeSliceData_ #[100] 168 #[.slice none 0 0]).run Tryz.prog w.drew = .ok (.pointer none) w.drew := rfl
  have hUS : (Builtin.unsafeString_ #[168, 3] 9 #[.pointer none, .int .i64 0]).run Tryz.prog w.drew = .ok (.string ⟨#[]⟩) w.drew := by kernel_rfl
  clear hown hnl hvr hne
  go_enter Tryz.func71, Tryz.ntmps71
  go_wp2
  go_region
  all_goals (go_wp2; go_ret; exact ⟨rfl, Q.drew _⟩)
theorem String_any (B b : Nat) (r : Option Nat) (l : Bytes) (w : World) (h : Bld w B b r l) (hB : B ≤ w.heap.size) :
    Calls Tryz.prog 71 #[.pointer (some ⟨b, 0, none⟩)] w fun e w' => e = .returned (.string ⟨l.toArray⟩) ∧ Below B w w' := by
  cases l with
  | nil => exact (String_nil B b r w h).mono fun e w' ⟨h1, h2⟩ => ⟨h1, Below.mono h2 hB⟩
  | cons x l => exact (String_some B b r (x :: l) w h (by simp)).mono fun e w' ⟨h1, h2, _⟩ => ⟨h1, h.below h2 hB⟩
end Go.Proofs.YtoabhcfmdkhmgaaGreatDoor
end

/- (WRef10f) codexref10: Folded: walked; a row of bytes as a text. -/
section
namespace Go.Proofs.YtoabhcfmdkhmgaaGreatDoor
open Go.RowKit
set_option linter.unusedVariables false

theorem wpList_app_str {P : Program} (W : World) {ops : Array Oper} {rest : List Oper} {o : Oper} {a : Act} {Q : Exit → Act → World → Prop} (hgd : o.guard = none) (sl x : Operand) (t u : TypeId)
    (ho : o.op = .call { callee := .builtin .append, args := #[sl, x], argTypes := #[t, u] })
    (base : Nat) (e : TypeId) (i : TypeInfo) (ht : P.underlying t = some (.slice e)) (hu : P.underlying u = some .string) (hi : P.info? e = some i) (hz : i.zero = some (.int .u8 0)) (hsize : i.size = 1) (hby : i.bytes = 1)
    (v : Value) (n : Nat) (xs : List Value) (hs : a.eval sl = v) (hown : W.ownsRow base e 1 v n xs) (s : ByteArray) (hx : a.eval x = .string s) (hbytes : n + s.size ≤ 140737488355328) (hbase : base ≤ W.heap.size)
    (h : ∀ v' w', w'.ownsRow base e 1 v' (n + s.size) (xs ++ Lib.strCells s) → W.grownBy w' v.ownBlock → wpList P ops Q rest (a.put o.dst v') w') : wpList P ops Q (o :: rest) a W := by
  obtain ⟨v', w', hr, h2, h3, _⟩ := Lib.run_append_own_string (P := P) W base t u o.type e i ht hu hi hz hsize hby v n xs hown s (by unfold maxLen; omega) hbytes hbase
  refine wpList_plain hgd fun _ hK => ?_
  unfold Oper.wp execOp
  simp only [ho, resolve, invoke, builtin, Sem.run_bind, Sem.run_pure, Result.andThen_ok, List.map_toArray, List.map_cons, List.map_nil, hs, hx, hr]
  exact hK _ _ (h v' w' h2 h3)
/-- 'string(b)' of a row of bytes -/
theorem row_string {w : World} {base : Nat} {v : Value} {l : Bytes} (h : w.ownsRow base 5 1 v l.length (byteVs l)) :
    (convert 100 9 v).run Tryz.prog w = .ok (strV l) w := by
  obtain ⟨a, cap, rfl, hg⟩ := owns_value h
  by_cases hl : l = []
  · subst hl
    rcases h.2 with ⟨hv, _⟩ | ⟨g, c, cur, hv, _⟩
    · cases hv
      show (convert 100 9 (.slice none 0 0)).run Tryz.prog w = _
      rw [run_convert_bytes_string w 100 9 5 none 0 0 Tryz.underlying100 Tryz.underlying5 Tryz.underlying9]
      rfl
    · cases hv
      exact run_convert_bytes_back (P := Tryz.prog) w 100 9 5 ⟨g, 0, none⟩ cap [] Tryz.underlying100 Tryz.underlying5 Tryz.underlying9 (fun j hj => by simp at hj)
  · obtain ⟨g, rfl⟩ := hg (List.length_pos_iff.2 hl)
    refine run_convert_bytes_back (P := Tryz.prog) w 100 9 5 ⟨g, 0, none⟩ cap l Tryz.underlying100 Tryz.underlying5 Tryz.underlying9 (fun j hj => ?_)
    rw [add_off, Nat.zero_add, h.cellAt j (by omega)]
    simp [byteVs, Lib.byteCells, hj]
theorem decodeN_valid (n b0 b1 b2 b3 : Nat) : (Lib.decodeN n b0 b1 b2 b3).1 < 55296 ∨ (57344 ≤ (Lib.decodeN n b0 b1 b2 b3).1 ∧ (Lib.decodeN n b0 b1 b2 b3).1 ≤ 1114111) := by
  unfold Lib.decodeN
  repeat' split
  all_goals (simp only []; omega)
theorem rune1_valid (s : Bytes) (h : s ≠ []) (h0 : 0 ≤ (rune1 s).1) : Lib.validRune (rune1 s).1 = true := by
  cases s with
  | nil => exact absurd rfl h
  | cons b s =>
    have hv := decodeN_valid (b :: s).length ((b :: s).getD 0 0).toNat ((b :: s).getD 1 0).toNat ((b :: s).getD 2 0).toNat ((b :: s).getD 3 0).toNat
    rw [validRune_iff]
    unfold rune1 at h0 ⊢
    simp only [] at h0 ⊢
    split at h0
    · simp only at h0; omega
    · rename_i hh; rw [if_neg hh]; simp only at h0 ⊢; omega
theorem foldL_valid (r : Int) (h : Lib.validRune r = true) : Lib.validRune (foldL r) = true := by
  rw [validRune_iff] at h ⊢
  unfold foldL
  simp only [inL, Bool.and_eq_true, Bool.or_eq_true, decide_eq_true_eq]
  repeat' split
  all_goals omega
theorem runeOfL_valid (r : Int) (h : Lib.validRune r = true) : runeOfL r = r := by
  have h2 := h
  rw [validRune_iff] at h
  unfold runeOfL
  rw [if_neg (by simp only [h2]; simp; omega)]
theorem foldedL_step (s : Bytes) (h : s ≠ []) : foldedL s = foldC ((rune1 s).1, s.take (rune1 s).2) ++ foldedL (s.drop (rune1 s).2) := by
  unfold foldedL
  rw [chunks_cons s h]; rfl
theorem foldC_neg (s : Bytes) (h : s ≠ []) (h0 : (rune1 s).1 < 0) : foldC ((rune1 s).1, s.take (rune1 s).2) = [s.getD 0 0] := by
  have := rune1_size s h
  unfold foldC
  rw [if_pos h0]
  obtain ⟨b, t, rfl⟩ := List.exists_cons_of_ne_nil h
  obtain ⟨k, hk⟩ : ∃ k, (rune1 (b :: t)).2 = k + 1 := ⟨(rune1 (b :: t)).2 - 1, by omega⟩
  simp only [hk]
  simp
theorem foldC_pos (s : Bytes) (h : s ≠ []) (h0 : 0 ≤ (rune1 s).1) : foldC ((rune1 s).1, s.take (rune1 s).2) = Lib.encodeRune (foldL (rune1 s).1) := by
  unfold foldC
  rw [if_neg (by simp only; omega), runeOfL_valid _ (foldL_valid _ (rune1_valid s h h0))]
set_option maxRecDepth 100000 in
set_option maxHeartbeats 4000000 in
theorem RFolded_any (s : Bytes) (w : World) (hs : s.length ≤ 1000000000) :
    Calls Tryz.prog 129 #[strV s] w fun e w' => e = .returned (strV (foldedL s)) ∧ Q w w' := by
  obtain ⟨i0, hi, hz0, hz1, hz2⟩ := info_parts (show (Tryz.prog.info? 5).map (fun i => (i.zero, i.size, i.bytes)) = some (some (.int .u8 0), 1, 1) by kernel_rfl)
  go_enter Tryz.func129, Tryz.ntmps129
  go_wp2_with fail
  go_loopw [3, 0] (fun bv v wr => ∃ t l : Bytes, v = strV t ∧ l.length + 4 * t.length ≤ 4 * s.length ∧ Hid (foldedL s = l ++ foldedL t) ∧ Hid (wr.ownsRow w.heap.size 5 1 bv l.length (byteVs l)) ∧ Hid (Q w wr)) (fun _ v _ => (match v with | .string b => b.size | _ => 0))
  case atStart => exact ⟨s, [], rfl, by simp, rfl, World.ownsRow_nil _ _ _ _, Q.refl _⟩
  case round =>
    obtain ⟨t, l, rfl, htl, HFL, HO, HQ⟩ := hrel
    obtain ⟨wo, rfl⟩ : ∃ wo : World, wo = wr := ⟨_, rfl⟩
    by_cases hne : t = []
    · subst hne
      have hc := row_string HO.out
      go_wp2_with fail
      go_ret
      exact ⟨by rw [HFL.out, show foldedL [] = [] from rfl, List.append_nil]; rfl, HQ.out⟩
    · have hl : 0 < t.length := List.length_pos_iff.2 hne
      have hli : (0 : Int) < (t.length : Int) := by omega
      obtain ⟨hn1, hn2⟩ := rune1_size t hne
      have hrb := rune1_neg t hne
      have hst := foldedL_step t hne
      have cr := fun W => RRune_any t W (by omega)
      have hdr : ({ data := t.toArray } : ByteArray).extract (rune1 t).2 t.length = ⟨(t.drop (rune1 t).2).toArray⟩ := bytes_drop t _
      have hdl : (t.drop (rune1 t).2).length = t.length - (rune1 t).2 := List.length_drop
      have hfn := foldC_neg t hne
      have hfp := foldC_pos t hne
      have hva := rune1_valid t hne
      have hb0 : ((({ data := t.toArray } : ByteArray)[0]'hl).toNat : Int) = (byteN t 0 : Nat) := byteAt t 0 hl
      have hgd : t.getD 0 0 = UInt8.ofNat (byteN t 0) := by unfold byteN; simp
      have hbl := byteN_lt t 0
      generalize hcc : foldC ((rune1 t).1, t.take (rune1 t).2) = fc at *
      generalize hr : rune1 t = rn at *
      obtain ⟨r, n⟩ := rn
      simp only at hn1 hn2 hrb hst cr hdr hdl hfn hfp hva
      generalize t.drop n = td at *
      have hni : (n : Int) ≤ (t.length : Int) := by omega
      have hn0 : (0 : Int) ≤ (n : Int) := by omega
      have HST := Lib.hid hst; have HDL := Lib.hid hdl; have HFN := Lib.hid hfn; have HFP := Lib.hid hfp; have HVA := Lib.hid hva; have HGD := Lib.hid hgd
      clear hst hr hne hdl hcc hfn hfp hva hgd
      by_cases h0 : r < 0
      · have hfc := HFN.out h0
        generalize byteN t 0 = b0 at *
        have HFC := Lib.hid hfc
        clear hfc
        go_wp2_with fail
        refine (cr _).mono ?_
        rintro e w1 ⟨rfl, q1⟩
        have HQ1 := Lib.hid (HQ.out.trans q1)
        have ho1 := ownsRow_below HO.out q1
        have hsz : w.heap.size ≤ w1.heap.size := HQ1.out.size
        clear q1 HO HQ
        go_wp2_with (at_builtin; go_must (refine wpList_app w1 (by rfl) _ _ 100 (by rfl) w.heap.size 5 _ i0 (.int .u8 0) 1 1 Tryz.underlying100 hi hz0 hz1 hz2 rfl (by decide) (by decide) _ _ _ (by rfl) ho1 #[.int .u8 (b0 : Nat)] (by simp [Act.eval]) rfl ?c1 ?c2 hsz ?_))
        case c1 => simp [Value.oneCell']
        case c2 => omega
        intro g6 cap6 w6 hown6 hg6 hat6 hlt6 hsz6
        have q6 : Q w w6 := grown_below HQ1.out ho1 hg6 (Nat.le_refl _) (by omega)
        rw [show byteVs l ++ (#[Value.int .u8 (b0 : Nat)] : Array Value).toList = byteVs (l ++ fc) by
          rw [HFC.out, HGD.out, byteVs_append]
          simp [byteVs, Lib.byteCells]
          omega, show l.length + 1 = (l ++ fc).length by rw [HFC.out]; simp] at hown6
        have hlen : (l ++ fc).length = l.length + 1 := by rw [HFC.out]; simp
        have HO6 := Lib.hid hown6; have HQ6 := Lib.hid q6; have HLN := Lib.hid hlen
        rw [← hlen]
        clear hown6 q6 hg6 hat6 ho1 hlen
        generalize hlf : l ++ fc = lf at *
        have HLF := Lib.hid hlf
        clear hlf
        go_wp2_with fail
        go_roundw
        case rel => exact ⟨td, lf, rfl, by have := HDL.out; have := HLN.out; omega, by show _ = _; rw [HFL.out, HST.out, ← HLF.out, List.append_assoc], HO6, HQ6⟩
        case measure => show td.length < t.length; have := HDL.out; omega
      · have hfc := HFP.out (by omega)
        have hvr := HVA.out (by omega)
        have cfo := fun W => RFold_any r W (by omega) (by omega)
        have cby := fun W => RBytes_any (foldL r) W (foldL_valid r hvr)
        have hel : (Lib.encodeRune (foldL r)).length ≤ 4 := by unfold Lib.encodeRune; rw [List.length_map]; exact (Lib.encodeRuneZ_length (foldL r)).2
        rw [← hfc] at hel cby
        have CBY := Lib.hid cby
        generalize foldL r = fr at *
        clear hfc hvr cby
        go_wp2_with fail
        refine (cr _).mono ?_
        rintro e w1 ⟨rfl, q1⟩
        have HQ1 := Lib.hid (HQ.out.trans q1)
        have HO1 := Lib.hid (ownsRow_below HO.out q1)
        clear q1 HO HQ
        go_wp2_with fail
        refine (cfo _).mono ?_
        rintro e w2 ⟨rfl, rfl⟩
        go_wp2_with fail
        refine (CBY.out _).mono ?_
        rintro e w3 ⟨rfl, q3⟩
        have HQ3 := Lib.hid (HQ1.out.trans q3)
        have ho3 := ownsRow_below HO1.out q3
        have hsz : w.heap.size ≤ w3.heap.size := HQ3.out.size
        have hbytes : l.length + ({ data := fc.toArray } : ByteArray).size ≤ 140737488355328 := by show l.length + fc.length ≤ _; omega
        clear q3 HO1 HQ1 CBY
        go_wp2_with (at_builtin; go_must (refine wpList_app_str w3 (by rfl) _ _ 100 9 (by rfl) w.heap.size 5 i0 Tryz.underlying100 Tryz.underlying9 hi hz0 hz1 hz2 _ _ _ (by rfl) ho3 { data := fc.toArray } (by rfl) hbytes hsz ?_))
        intro v6 w6 hown6 hg6
        have q6 : Q w w6 := grown_below HQ3.out ho3 hg6 (Nat.le_refl _) (by omega)
        have hown6 : w6.ownsRow w.heap.size 5 1 v6 (l ++ fc).length (byteVs (l ++ fc)) := by
          rw [List.length_append, byteVs_append, ← strCells_bytes]; exact hown6
        have hlen : (l ++ fc).length = l.length + fc.length := List.length_append
        have HO6 := Lib.hid hown6; have HQ6 := Lib.hid q6; have HLN := Lib.hid hlen
        clear hown6 q6 hg6 ho3 hlen
        generalize hlf : l ++ fc = lf at *
        have HLF := Lib.hid hlf
        clear hlf
        go_wp2_with fail
        go_roundw
        case rel => exact ⟨td, lf, rfl, by have := HDL.out; have := HLN.out; omega, by show _ = _; rw [HFL.out, HST.out, ← HLF.out, List.append_assoc], HO6, HQ6⟩
        case measure => show td.length < t.length; have := HDL.out; omega
end Go.Proofs.YtoabhcfmdkhmgaaGreatDoor
end
