/- Joined texts of one proof: WUtf, WRune, Range, WRunes. -/
import Derived.Test.YtoabhcfmdkhmgaaGreatDoorShelf
import Derived.Test.YtoabhcfmdkhmgaaGreatDoorPKitToSegSpec
import Derived.Test.YtoabhcfmdkhmgaaGreatDoorPMapsToLive
import Derived.WalkSpells
import Derived.WalkLawsBesides
import Derived.Outline
import Derived.Test.YtoabhcfmdkhmgaaGreatDoorPWBldToWRef10f
import Derived.Test.YtoabhcfmdkhmgaaGreatDoorPTokToWDictR
import Derived.Lib.SpaceU
import Derived.RangeFuncNested
import Derived.RangeFuncLeaves
import Derived.RangeFuncBound
import Derived.RangeFuncCalls
import Derived.OwnWalkIn
import Derived.TacticsInMore
import Derived.LoopNIn
import Derived.LoopIn
import Derived.Lib.OthersKept
set_option linter.unusedSimpArgs false
set_option linter.unusedVariables false
set_option linter.unnecessarySimpa false
/- (WUtf) utf.Valid, segment.Right: walked -/
section
namespace Go.Proofs.YtoabhcfmdkhmgaaGreatDoor
open Go.RowKit
set_option linter.unusedVariables false

/-- the tables of the library's and of utf's lie as they were laid -/
def Tabs (w : World) : Prop := Lib.Utf8Tabs 0 1 w
theorem Tabs.stays {w w' : World} (h : Tabs w) (hb : Q w w') : Tabs w' := Utf8Tabs_below h hb

set_option maxHeartbeats 400000 in
theorem Valid_any (s : Bytes) (w : World) (hs : s.length ≤ 9223372036854775807) (hT : Tabs w) :
    Calls Tryz.prog 45 #[.string ⟨s.toArray⟩] w fun e w' => e = .returned (.bool (Lib.validD s)) ∧ Q w w' := by
  have c := Tryz.utf8_ValidString ⟨s.toArray⟩ w (by simpa [ByteArray.size] using hs) hT
  have C := Lib.hid c
  clear c hT
  go_enter Tryz.func45, Tryz.ntmps45
  go_wp2_with fail
  refine C.out.mono ?_
  rintro e w1 ⟨rfl, q1⟩
  go_wp2_with fail
  go_ret
  exact ⟨rfl, q1⟩

set_option maxHeartbeats 1000000 in
theorem Right_any (id text : Bytes) (w : World) (h1 : id.length ≤ 9223372036854775807) (h2 : text.length ≤ 9223372036854775807) (hT : Tabs w) :
    Calls Tryz.prog 46 #[.agg #[.string ⟨id.toArray⟩, .string ⟨text.toArray⟩]] w fun e w' => e = .returned (.bool (rightB id text)) ∧ Q w w' := by
  have hT1 : Tabs (w.alloc (.cells #[.string ⟨id.toArray⟩, .string ⟨text.toArray⟩] 49)) := hT.stays (Q.alloc _ _)
  have HT := Lib.hid hT1
  clear hT hT1
  have hR : rightB id text = (!id.isEmpty && decide (id.length ≤ 40) && decide (text.length ≤ 2000) && Lib.validD id && Lib.validD text) := rfl
  generalize rightB id text = R at *
  by_cases he : id = []
  · subst he
    have HR := Lib.hid hR; clear hR
    go_enter Tryz.func46, Tryz.ntmps46
    go_wp2_with fail
    go_ret
    exact ⟨by rw [HR.out]; rfl, Q.alloc _ _⟩
  · have hne : id.isEmpty = false := by simpa using he
    rw [hne] at hR
    by_cases h40 : id.length ≤ 40
    · by_cases h2000 : text.length ≤ 2000
      · rw [decide_eq_true h40, decide_eq_true h2000] at hR
        have HR := Lib.hid hR; have HE := Lib.hid he; clear hR he
        cases hv : Lib.validD id with
        | false =>
          have HV := Lib.hid hv; clear hv
          go_enter Tryz.func46, Tryz.ntmps46
          go_wp2_with fail
          refine (Valid_any id _ h1 HT.out).mono ?_
          rintro e w1 ⟨rfl, q1⟩
          rw [HV.out]
          go_wp2_with fail
          go_ret
          exact ⟨by rw [HR.out, HV.out]; rfl, (Q.alloc _ _).trans q1⟩
        | true =>
          have HV := Lib.hid hv; clear hv
          go_enter Tryz.func46, Tryz.ntmps46
          go_wp2_with fail
          refine (Valid_any id _ h1 HT.out).mono ?_
          rintro e w1 ⟨rfl, q1⟩
          rw [HV.out]
          have hc : w1.cell? ⟨w.heap.size, 1, none⟩ = some (.string ⟨text.toArray⟩) := cell_stays q1 (by simp only [World.cell?, heap_alloc_new]; simp)
          have hT1 : Tabs w1 := HT.out.stays q1
          have HT1 := Lib.hid hT1; have HQ := Lib.hid q1; clear hT1 q1
          go_wp2_with fail
          refine (Valid_any text _ h2 HT1.out).mono ?_
          rintro e w2 ⟨rfl, q2⟩
          have HQ2 := Lib.hid q2; clear q2
          go_wp2_with fail
          go_ret
          exact ⟨by rw [HR.out, HV.out]; rfl, ((Q.alloc _ _).trans HQ.out).trans HQ2.out⟩
      · rw [decide_eq_false h2000] at hR
        have HR := Lib.hid hR; have HE := Lib.hid he; clear hR he
        go_enter Tryz.func46, Tryz.ntmps46
        go_wp2_with fail
        go_ret
        exact ⟨by rw [HR.out]; simp, Q.alloc _ _⟩
    · rw [decide_eq_false h40] at hR
      have HR := Lib.hid hR; have HE := Lib.hid he; clear hR he
      go_enter Tryz.func46, Tryz.ntmps46
      go_wp2_with fail
      go_ret
      exact ⟨by rw [HR.out]; simp, Q.alloc _ _⟩
end Go.Proofs.YtoabhcfmdkhmgaaGreatDoor
end

/- (WRune) utf.Rune, utf.runeOf, strings.Builder's WriteRune: walked. -/
section
namespace Go.Proofs.YtoabhcfmdkhmgaaGreatDoor
open Go.RowKit
set_option linter.unusedVariables false

theorem rune1_go (s : Bytes) : Lib.decodeGo ⟨s.toArray⟩ = if s = [] then (65533, 0) else Lib.decodeN s.length (s.getD 0 0).toNat (s.getD 1 0).toNat (s.getD 2 0).toNat (s.getD 3 0).toNat := by
  unfold Lib.decodeGo
  by_cases h : s = []
  · subst h; rfl
  · have hs : ({ data := s.toArray } : ByteArray).size ≠ 0 := by
      show s.toArray.size ≠ 0
      simpa using h
    rw [if_neg hs, if_neg h]
    exact Lib.decodeL_N s
theorem ret_num2 {k j : IntKind} {x y u v : Int} (h1 : x = u) (h2 : y = v) : Ending.returned (.tuple #[.int k x, .int j y]) = .returned (.tuple #[.int k u, .int j v]) := by rw [h1, h2]
set_option maxHeartbeats 1000000 in
theorem Rune_any (s : Bytes) (w : World) (hs : s ≠ []) (hT : Tabs w) :
    Calls Tryz.prog 149 #[.string ⟨s.toArray⟩] w fun e w' => e = .returned (.tuple #[.int .i64 (rune1 s).1, .int .i64 (rune1 s).2]) ∧ Q w w' := by
  have c := Tryz.utf8_DecodeRuneInString ⟨s.toArray⟩ w hT
  have hd := decodeN_size s.length (s.getD 0 0).toNat (s.getD 1 0).toNat (s.getD 2 0).toNat (s.getD 3 0).toNat (List.length_pos_iff.2 hs)
  have he : rune1 s = if (Lib.decodeGo ⟨s.toArray⟩).1 = 65533 ∧ (Lib.decodeGo ⟨s.toArray⟩).2 < 3 then (-1, (Lib.decodeGo ⟨s.toArray⟩).2) else (((Lib.decodeGo ⟨s.toArray⟩).1 : Int), (Lib.decodeGo ⟨s.toArray⟩).2) := by
    rw [rune1_go, if_neg hs]
    cases s with
    | nil => exact absurd rfl hs
    | cons b s => rfl
  have hb : (Lib.decodeGo ⟨s.toArray⟩).1 ≤ 1114111 ∧ (Lib.decodeGo ⟨s.toArray⟩).2 ≤ 4 := by
    rw [rune1_go, if_neg hs]
    exact decodeN_bounds _ _ _ _ _
  generalize Lib.decodeGo ⟨s.toArray⟩ = d at *
  obtain ⟨r, n⟩ := d
  simp only at he hb c
  obtain ⟨hb1, hb2⟩ := hb
  clear hd hT
  by_cases h1 : r = 65533
  · by_cases h2 : n < 3
    · rw [if_pos ⟨h1, h2⟩] at he
      have e1 : (rune1 s).1 = -1 := by rw [he]
      have e2 : (rune1 s).2 = n := by rw [he]
      have E1 := Lib.hid e1; have E2 := Lib.hid e2; have C := Lib.hid c; clear he e1 e2 c
      subst h1
      have hd : decide ((n : Int) < 3) = true := decide_eq_true (by omega)
      go_enter Tryz.func149, Tryz.ntmps149
      go_wp2_with fail
      refine C.out.mono ?_
      rintro e w1 ⟨rfl, q1⟩
      go_wp2_with fail
      go_ret2
      exact ⟨ret_num2 E1.out.symm (by rw [E2.out]), q1⟩
    · rw [if_neg (fun h => h2 h.2)] at he
      have e1 : (rune1 s).1 = r := by rw [he]
      have e2 : (rune1 s).2 = n := by rw [he]
      have E1 := Lib.hid e1; have E2 := Lib.hid e2; have C := Lib.hid c; clear he e1 e2 c
      subst h1
      have hd : decide ((n : Int) < 3) = false := decide_eq_false (by omega)
      go_enter Tryz.func149, Tryz.ntmps149
      go_wp2_with fail
      refine C.out.mono ?_
      rintro e w1 ⟨rfl, q1⟩
      go_wp2_with fail
      go_ret2
      exact ⟨ret_num2 E1.out.symm (by rw [E2.out]), q1⟩
  · rw [if_neg (fun h => h1 h.1)] at he
    have e1 : (rune1 s).1 = r := by rw [he]
    have e2 : (rune1 s).2 = n := by rw [he]
    have E1 := Lib.hid e1; have E2 := Lib.hid e2; have C := Lib.hid c; clear he e1 e2 c
    have hb0 : ((r : Int) == 65533) = false := by simp; omega
    go_enter Tryz.func149, Tryz.ntmps149
    go_wp2_with fail
    refine C.out.mono ?_
    rintro e w1 ⟨rfl, q1⟩
    go_wp2_with fail
    go_ret2
    exact ⟨ret_num2 E1.out.symm (by rw [E2.out]), q1⟩

set_option maxHeartbeats 1000000 in
theorem runeOf_any (r : Int) (w : World) (h1 : -9223372036854775808 ≤ r) (h2 : r ≤ 9223372036854775807) :
    Calls Tryz.prog 142 #[.int .i64 r] w fun e w' => e = .returned (.int .i32 (runeOfL r)) ∧ w = w' := by
  by_cases hn : r < 0
  · have he : runeOfL r = 65533 := by unfold runeOfL; rw [if_pos (.inl hn)]
    have HE := Lib.hid he; clear he
    go_enter Tryz.func142, Tryz.ntmps142
    go_wp2_with fail
    go_ret
    exact ⟨ret_int HE.out.symm, rfl⟩
  · by_cases hx : 1114111 < r
    · have he : runeOfL r = 65533 := by unfold runeOfL; rw [if_pos (.inr (.inl hx))]
      have HE := Lib.hid he; clear he
      go_enter Tryz.func142, Tryz.ntmps142
      go_wp2_with fail
      go_ret
      exact ⟨ret_int HE.out.symm, rfl⟩
    · have c := Tryz.utf8_ValidRune r w
      cases hv : Lib.validRune r with
      | false =>
        have he : runeOfL r = 65533 := by unfold runeOfL; rw [if_pos (.inr (.inr hv))]
        rw [hv] at c
        have HE := Lib.hid he; have C := Lib.hid c; clear he c hv
        go_enter Tryz.func142, Tryz.ntmps142
        go_wp2_with fail
        refine C.out.mono ?_
        rintro e w1 ⟨rfl, rfl⟩
        go_wp2_with fail
        go_ret
        exact ⟨ret_int HE.out.symm, rfl⟩
      | true =>
        have he : runeOfL r = r := by unfold runeOfL; rw [if_neg (by rw [hv]; simp; omega)]
        rw [hv] at c
        have HE := Lib.hid he; have C := Lib.hid c; clear he c hv
        go_enter Tryz.func142, Tryz.ntmps142
        go_wp2_with fail
        refine C.out.mono ?_
        rintro e w1 ⟨rfl, rfl⟩
        go_wp2_with fail
        go_ret
        exact ⟨ret_int HE.out.symm, rfl⟩

def RuneP (B b : Nat) (r : Option Nat) (l : Bytes) (w : World) (e : Ending) (w' : World) : Prop :=
  (∃ n, e = .returned (.tuple #[.int .i64 n, .nilIface])) ∧ Step2 w w' b r ∧ ∃ r', Bld w' B b r' l
set_option maxRecDepth 100000 in
set_option maxHeartbeats 2000000 in
theorem WriteRune_any (B b : Nat) (r : Option Nat) (l : Bytes) (x : Int) (w : World) (h : Bld w B b r l) (hx0 : -2147483648 ≤ x) (hx1 : x ≤ 2147483647) (hlen : l.length + 4 ≤ 140737488355328) (hB : B ≤ w.heap.size) :
    Calls Tryz.prog 141 #[.pointer (some ⟨b, 0, none⟩), .int .i32 x] w (RuneP B b r (l ++ Lib.encodeRune x) w) := by
  have hBb := h.1
  have hlt0 := h.lt
  have hr5 : r ≠ some b := by obtain ⟨_, _, _, _, _, _, _, h5, _⟩ := h; exact h5
  have C := copyCheck_any B b r l w h
  have HC := Lib.hid C; have HN := Lib.hid hr5
  clear C hr5 h
  go_enter Tryz.func141, Tryz.ntmps141
  go_wp2_with fail
  refine HC.out.mono ?_
  rintro e w1 ⟨rfl, hs1, v, hbk, hown, hvr⟩
  have c0 : w1.cell? ⟨b, 0, none⟩ = some (.pointer (some ⟨b, 0, none⟩)) := by simp [World.cell?, hbk]
  have c1 : w1.cell? ⟨b, 1, none⟩ = some v := by simp [World.cell?, hbk]
  have hsz1 := hs1.size
  have c2 := Tryz.utf8_AppendRune_row B v l.length (byteVs l) x hx0 hx1 w1 hown hlen (by omega)
  obtain ⟨ao, n', cap, rfl⟩ : ∃ ao n' cap, v = .slice ao n' cap := by
    rcases hown.2 with ⟨hv, _⟩ | ⟨g, cap, cur, fz, hv, _⟩
    · exact ⟨_, _, _, hv⟩
    · exact ⟨_, _, _, hv⟩
  have HS1 := Lib.hid hs1; have HVR := Lib.hid hvr; have HBK := Lib.hid hbk; have C2 := Lib.hid c2; have HOWN := Lib.hid hown
  clear hs1 hvr hbk c2 hown
  go_wp2_with fail
  refine C2.out.mono ?_
  rintro e w2 ⟨v', rfl, hown', o, hgrow⟩
  have hg1 : w1.grownBy w2 (Value.slice ao n' cap).ownBlock := ⟨hgrow.os, hgrow.tape, hgrow.output, by have := hgrow.size; simp at this; omega, fun k hk hne => (hgrow.block k (by simp; omega) hne).trans (Below.heap_alloc _ _ _ hk)⟩
  have hb1lt : b < w1.heap.size := by omega
  have hvb : (Value.slice ao n' cap).ownBlock ≠ some b := by rw [HVR.out]; exact HN.out
  have hb2 : w2.heap[b]? = some (.cells #[.pointer (some ⟨b, 0, none⟩), .slice ao n' cap] 125 (0, 0)) := by
    rw [hg1.block b hb1lt (fun e => hvb e.symm)]; exact HBK.out
  have d1 : w2.cell? ⟨b, 1, none⟩ = some (.slice ao n' cap) := by simp [World.cell?, hb2]
  have f1 : w2.frozen? ⟨b, 1, none⟩ = false := by simp [World.frozen?, hb2]
  have hv' : v'.ownBlock ≠ some b := by
    rcases hown'.2 with ⟨hv, _⟩ | ⟨g, cp, cur, fz, hv, _, hg, _⟩
    · rw [hv]; simp [Value.ownBlock]
    · rw [hv]
      intro e
      simp only [Value.ownBlock, Option.some.injEq] at e
      subst e
      rw [hb2] at hg
      cases hg
  obtain ⟨ao2, n2, cap2, rfl⟩ : ∃ ao n' cap, v' = .slice ao n' cap := by
    rcases hown'.2 with ⟨hv, _⟩ | ⟨g, cap, cur, fz, hv, _⟩
    · exact ⟨_, _, _, hv⟩
    · exact ⟨_, _, _, hv⟩
  have HOW := Lib.hid hown'; have HG := Lib.hid hg1; have HB2 := Lib.hid hb2; have HV := Lib.hid hv'
  clear hown' hgrow hg1 hb2 hv' hvb
  go_wp2_with fail
  go_ret2
  refine ⟨⟨_, rfl⟩, HS1.out.append HG.out HVR.out, _, Bld.put (w1 := w1) (l := l) (r := r) hBb HB2.out ?_ HV.out (fun e => ?_)⟩
  · rw [List.length_append, byteVs_append, ← Lib.runeCells_length]
    have e : byteVs (Lib.encodeRune x) = Lib.runeCells x := Lib.byteCells_encodeRune x
    rw [e]
    exact HOW.out
  · have h1 := (Lib.runeCells_le x).1
    rw [Lib.runeCells_length] at h1
    have := congrArg List.length e
    rw [List.length_append, List.length_nil] at this
    omega
end Go.Proofs.YtoabhcfmdkhmgaaGreatDoor
end

/- (Range) A range over a function whose iterator tells a known list: the iterator's contract 'Seq', and the law of the statement, outermost ('wp_range') and within a round ('wp_range_in'). Over any program. -/
section
namespace Go.Proofs.YtoabhcfmdkhmgaaGreatDoor
open Go.RowKit
set_option linter.unusedVariables false

/-- what an iterator may do beside its rounds: turn its own blocks ('own'), and, from lo on, what is no cells; lay new blocks -/
structure Itk (own : Nat → Prop) (lo : Nat) (A B : World) : Prop where
  os : B.os = A.os
  tape : B.tape = A.tape
  output : B.output = A.output
  size : A.heap.size ≤ B.heap.size
  low : ∀ k, k < lo → k < A.heap.size → ¬ own k → B.heap[k]? = A.heap[k]?
  cells : ∀ (k : Nat) (o : Obj), A.heap[k]? = some o → o.isCells = true → ¬ own k → B.heap[k]? = some o
theorem Itk.refl (own : Nat → Prop) (lo : Nat) (A : World) : Itk own lo A A := ⟨rfl, rfl, rfl, Nat.le_refl _, fun _ _ _ _ => rfl, fun _ _ h _ _ => h⟩
theorem Itk.trans {own : Nat → Prop} {lo : Nat} {A B C : World} (h : Itk own lo A B) (k : Itk own lo B C) : Itk own lo A C :=
  ⟨k.os.trans h.os, k.tape.trans h.tape, k.output.trans h.output, Nat.le_trans h.size k.size, fun i h1 h2 h3 => (k.low i h1 (Nat.lt_of_lt_of_le h2 h.size) h3).trans (h.low i h1 h2 h3),
    fun i o h1 h2 h3 => k.cells i o (h.cells i o h1 h2 h3) h2 h3⟩
theorem Itk.mono {own own' : Nat → Prop} {lo lo' : Nat} {A B : World} (h : Itk own lo A B) (ho : ∀ k, own k → own' k) (hl : lo' ≤ lo) : Itk own' lo' A B :=
  ⟨h.os, h.tape, h.output, h.size, fun k h1 h2 h3 => h.low k (by omega) h2 (fun e => h3 (ho k e)), fun k o h1 h2 h3 => h.cells k o h1 h2 (fun e => h3 (ho k e))⟩
theorem lt_of_get {A : World} {k : Nat} {o : Obj} (h : A.heap[k]? = some o) : k < A.heap.size := (Array.getElem?_eq_some_iff.1 h).1
theorem Itk.of_q {own : Nat → Prop} {lo : Nat} {A B : World} (h : Q A B) : Itk own lo A B :=
  ⟨h.os, h.tape, h.output, h.size, fun k _ h2 _ => h.block k h2, fun k o h1 _ _ => (h.block k (lt_of_get h1)).trans h1⟩
theorem Itk.put {own : Nat → Prop} {lo : Nat} {A : World} {l : Nat} {o : Obj} (o' : Obj) (h : A.heap[l]? = some o) (hc : o.isCells = false) (hl : lo ≤ l) : Itk own lo A (A.putObj l o') :=
  ⟨rfl, rfl, rfl, by simp, fun k h1 _ _ => World.putObj_heap_other (by omega), fun k o2 h1 h2 _ => (World.putObj_heap_other (fun e => by subst e; rw [h] at h1; cases h1; rw [hc] at h2; cases h2)).trans h1⟩
theorem Itk.iterAt {own : Nat → Prop} {lo : Nat} {A : World} {l : Nat} {s : ByteArray} {p : Nat} (p' : Nat) (h : A.heap[l]? = some (.stringIter s p)) (hl : lo ≤ l) : Itk own lo A (A.iterAt l s p') :=
  Itk.put (.stringIter s p') h rfl hl
theorem Itk.setOwn {own : Nat → Prop} {lo : Nat} (A : World) {b : Nat} (h : own b) (p : Addr) (hp : p.block = b) (v : Value) : Itk own lo A (A.setCell p v) :=
  ⟨rfl, rfl, rfl, (KeepsWalks.setCell A p v).size, fun k _ _ h3 => Below.heap_setCell _ _ _ _ (fun e => h3 (by rw [e, hp]; exact h)), fun k o h1 _ h3 => (Below.heap_setCell _ _ _ _ (fun e => h3 (by rw [e, hp]; exact h))).trans h1⟩
/-- a block of cells that is not the iterator's own stays -/
theorem Itk.get {own : Nat → Prop} {lo : Nat} {A B : World} (h : Itk own lo A B) {k : Nat} {cs : Array Value} {e : TypeId} {fz : Nat × Nat} (hk : A.heap[k]? = some (.cells cs e fz)) (ho : ¬ own k) : B.heap[k]? = some (.cells cs e fz) := h.cells k _ hk rfl ho
theorem Itk.cell {own : Nat → Prop} {lo : Nat} {A B : World} (h : Itk own lo A B) {a : Addr} {v : Value} (hc : A.cell? a = some v) (ho : ¬ own a.block) : B.cell? a = some v := by
  obtain ⟨o, h1, h2⟩ := cells_of_cell hc
  exact (World.cell?_of_block ((h.cells _ o h1 h2 ho).trans h1.symm)).trans hc
theorem Itk.boxed {own : Nat → Prop} {lo : Nat} {A B : World} (h : Itk own lo A B) {b : Nat} {t : TypeId} {v : Value} (hb : Boxed A b t v) (ho : ¬ own b) : Boxed B b t v := h.get hb ho
theorem Itk.below {own : Nat → Prop} {lo n : Nat} {w A B : World} (h : Itk own lo A B) (hw : Below n w A) (hn : n ≤ lo) (hs : n ≤ A.heap.size) (ho : ∀ k, own k → n ≤ k) : Below n w B :=
  hw.trans ⟨h.os, h.tape, h.output, h.size, fun k hk => h.low k (by omega) (by omega) (fun e => by have := ho k e; omega)⟩
theorem Itk.owns {own : Nat → Prop} {lo : Nat} {A B : World} (h : Itk own lo A B) {base : Nat} {e : TypeId} {size : Nat} {v : Value} {n : Nat} {xs : List Value} (hr : A.ownsRow base e size v n xs) (ho : ∀ g, v.ownBlock = some g → ¬ own g) : B.ownsRow base e size v n xs := by
  obtain ⟨h1, h2⟩ := hr
  refine ⟨h1, ?_⟩
  rcases h2 with h2 | ⟨g, cap, cur, rfl, hb, hg, rest⟩
  · exact .inl h2
  · exact .inr ⟨g, cap, cur, rfl, hb, h.get hg (ho g rfl), rest⟩

/-- the word that a round gives to the iterator: what lay below n₀, the iterator's own blocks and all walks' objects lie as they lay -/
structure Bk (own : Nat → Prop) (n₀ : Nat) (A B : World) : Prop where
  below : Below n₀ A B
  own : ∀ k, own k → k < A.heap.size → B.heap[k]? = A.heap[k]?
  walks : ∀ (k : Nat) (o : Obj), A.heap[k]? = some o → o.isWalk = true → B.heap[k]? = some o
theorem Bk.refl (own : Nat → Prop) (n₀ : Nat) (A : World) : Bk own n₀ A A := ⟨Below.refl _ _, fun _ _ _ => rfl, fun _ _ h _ => h⟩
theorem Bk.trans {own : Nat → Prop} {n₀ : Nat} {A B C : World} (h : Bk own n₀ A B) (k : Bk own n₀ B C) : Bk own n₀ A C :=
  ⟨h.below.trans k.below, fun i h1 h2 => (k.own i h1 (Nat.lt_of_lt_of_le h2 h.below.size)).trans (h.own i h1 h2), fun i o h1 h2 => k.walks i o (h.walks i o h1 h2) h2⟩
theorem Bk.of_q {own : Nat → Prop} {n₀ : Nat} {A B : World} (h : Q A B) (hn : n₀ ≤ A.heap.size) : Bk own n₀ A B :=
  ⟨Below.mono h hn, fun k _ h2 => h.block k h2, fun k o h1 _ => (h.block k (lt_of_get h1)).trans h1⟩
theorem Bk.mono {own own' : Nat → Prop} {n₀ n₁ : Nat} {A B : World} (h : Bk own n₀ A B) (ho : ∀ k, own' k → own k) (hn : n₁ ≤ n₀) : Bk own' n₁ A B :=
  ⟨h.below.mono hn, fun k h1 h2 => h.own k (ho k h1) h2, h.walks⟩
theorem Bk.put {own : Nat → Prop} {n₀ : Nat} {A : World} {l : Nat} {o : Obj} (o' : Obj) (h : A.heap[l]? = some o) (hc : o.isWalk = false) (hl : n₀ ≤ l) (ho : ¬ own l) : Bk own n₀ A (A.putObj l o') :=
  ⟨⟨rfl, rfl, rfl, by simp, fun k hk => World.putObj_heap_other (by omega)⟩, fun k h1 _ => World.putObj_heap_other (fun e => ho (by rw [← e]; exact h1)),
    fun k o2 h1 h2 => (World.putObj_heap_other (fun e => by subst e; rw [h] at h1; cases h1; rw [hc] at h2; cases h2)).trans h1⟩
/-- a store into a block of cells that is not the iterator's -/
theorem Bk.setCell {own : Nat → Prop} {n₀ : Nat} (A : World) {p : Addr} (hl : n₀ ≤ p.block) (ho : ¬ own p.block) (v : Value) : Bk own n₀ A (A.setCell p v) :=
  ⟨(Below.refl _ _).setCell hl v, fun k h1 _ => Below.heap_setCell _ _ _ _ (fun e => ho (by rw [← e]; exact h1)), (KeepsWalks.setCell A p v).same⟩
/-- a step that turns one block of cells that is not the iterator's -/
theorem Bk.grown {own : Nat → Prop} {n₀ : Nat} {A B : World} {row : Option Nat} (hg : A.grownBy B row) (hn : n₀ ≤ A.heap.size) (hr : ∀ k, row = some k → n₀ ≤ k ∧ ¬ own k ∧ ∃ cs e fz, A.heap[k]? = some (.cells cs e fz)) : Bk own n₀ A B :=
  ⟨(Below.refl _ _).grown hg hn (fun k hk => (hr k hk).1), fun k h1 h2 => hg.block k h2 (fun e => (hr k e.symm).2.1 h1),
    fun k o h1 h2 => (hg.block k (lt_of_get h1) (fun e => by obtain ⟨_, _, cs, e2, fz, h3⟩ := hr k e.symm; rw [h3] at h1; cases h1; cases h2)).trans h1⟩

/-- a call of yield -/
def YieldW (P : Program) (l : Nat) (args : Array Value) (W : World) (R : Ending → World → Prop) : Prop :=
  ∃ fn tmps assign body, (Instr.yield l args).run P W = .ok (.round l fn tmps assign body) W ∧ ∀ m, RoundIn Fence.wide m P l fn tmps assign body W R
theorem YieldW.mono {P : Program} {l : Nat} {args : Array Value} {W : World} {R R' : Ending → World → Prop} (h : YieldW P l args W R) (hr : ∀ e w, R e w → R' e w) : YieldW P l args W R' := by
  obtain ⟨fn, tmps, assign, body, hy, hR⟩ := h
  exact ⟨fn, tmps, assign, body, hy, fun m => (hR m).mono hr⟩
theorem round_in {n : Nat} {P : Program} {l : Nat} {fn : FuncId} {tmps : Array Value} {assign body : Code} {W : World} {R : Ending → World → Prop} (l₀ : Nat) (h : RoundIn Fence.wide n P l fn tmps assign body W R) : RoundIn (Fence.wide.inRound l₀) n P l fn tmps assign body W R := h
theorem round_any {n m : Nat} {P : Program} {l : Nat} {fn : FuncId} {tmps : Array Value} {assign body : Code} {W : World} {R : Ending → World → Prop} (h : RoundIn Fence.wide n P l fn tmps assign body W R) : RoundIn Fence.wide m P l fn tmps assign body W R :=
  ⟨h.1, fun c cs _ => h.2 c cs (room_wide _)⟩
theorem calls_round {n : Nat} {P : Program} {f : FuncId} {args : Array Value} {W : World} {R : Ending → World → Prop} (l : Nat) (h : Calls P f args W R) : CallsIn (Fence.wide.inRound l) n P f args W R :=
  CallsIn.inRound l (callsIn_wide.2 h)

/-- the contract of an iterator that tells the list xs: own: the blocks that it turns itself; keep: those that the rounds are to keep, beside what lies below n₀ -/
def Seq {α : Type} (P : Program) (g : Nat) (lb : Array Value) (encs : α → Array Value) (own keep : Nat → Prop) (n₀ : Nat) (xs : List α) (W : World) : Prop :=
  ∀ (n l : Nat) (J Jx : Nat → World → Prop),
    (∀ s A B, J s A → Itk own W.heap.size A B → J s B) → (∀ s A B, Jx s A → Itk own W.heap.size A B → Jx s B) →
    (∀ k (hk : k < xs.length) W1, J k W1 → (∀ b, keep b → b < W1.heap.size) → YieldW P l (encs xs[k]) W1 fun e W' =>
      (e = .returned (.bool true) ∧ J (k + 1) W' ∧ Bk keep n₀ W1 W') ∨ (e = .returned (.bool false) ∧ Jx (k + 1) W' ∧ Bk keep n₀ W1 W')) →
    J 0 W →
    CallsIn Fence.wide n P g (#[.func (.yield l) #[] #[]] ++ lb) W fun e W' => (∃ v, e = .returned v) ∧ (J xs.length W' ∨ ∃ k, k ≤ xs.length ∧ Jx k W')

/-- how the body of a round may be left -/
def roundQ (Bw : World → World → Prop) (I : Nat → World → Prop) (Ix : Code → Nat → World → Prop) (k : Nat) (W : World) : Exit → Act → World → Prop
  | .normal, _, W' => Bw W W' ∧ I (k + 1) W'
  | .ret, _, W' => Bw W W' ∧ Ix .ret (k + 1) W'
  | .exit id, _, W' => Bw W W' ∧ Ix (.exit id) (k + 1) W'
  | .goto t, _, W' => Bw W W' ∧ Ix (.goto t) (k + 1) W'
  | .panic _, _, _ => False
  | .outgrown, _, _ => False

theorem wp_range {α : Type} {P : Program} {n : Nat} {g : Operand} {ps : Array Tmp} {assign body : Code} {Qx : Exit → Act → World → Prop} {a : Act} {w : World}
    {gf : Nat} {lb : Array Value} (hg : a.eval g = .func (.func gf) #[] lb) (eg : ∀ args w, (callFunc gf args).run P w = .ok (.enter gf args) w)
    {encs : α → Array Value} {own keep : Nat → Prop} {n₀ : Nat} {xs : List α}
    (hseq : ∀ W1, Q w W1 → W1.heap.size = w.heap.size + 2 → Seq P gf lb encs own keep n₀ xs W1)
    (hown : ∀ k, own k → k ≠ w.heap.size ∧ k ≠ w.heap.size + 1) (hkeep : ∀ k, keep k → k ≠ w.heap.size ∧ k ≠ w.heap.size + 1) (hn₀ : n₀ ≤ w.heap.size) (hps : ∀ x, (encs x).size = ps.size)
    (I : Nat → World → Prop) (Ix : Code → Nat → World → Prop) (Ax : Nat → Act → World → Prop)
    (hI : ∀ s A B, I s A → Itk own w.heap.size A B → I s B) (hIx : ∀ c s A B, Ix c s A → Itk own w.heap.size A B → Ix c s B) (hAx : ∀ k a' A B, Ax k a' A → Itk own w.heap.size A B → Ax k a' B)
    (h0 : I 0 w)
    (hassign : ∀ (l k : Nat) (hk : k < xs.length) (W : World) (K : Act → World → Prop), I k W → w.heap.size + 2 ≤ W.heap.size → (∀ a' W', Q W W' → I k W' → Ax k a' W' → K a' W') →
      assign.wpIn (Fence.wide.inRound l) (n - 1 - 1) P (Exit.then K (fun _ _ _ => False)) { tmps := (ps.zip (encs xs[k])).foldl (fun t (p, v) => t.setIfInBounds p v) a.tmps, defers := [] } W)
    (hbody : ∀ (l k : Nat) (hk : k < xs.length) (a' : Act) (W : World), ((∃ r, W.heap[l]? = some (.loop r)) ∧ W.heap[w.heap.size]? = some (.deferred (some []))) → l = w.heap.size + 1 → I k W → Ax k a' W → (∀ b, keep b → b < W.heap.size) → w.heap.size + 2 ≤ W.heap.size →
      body.wpIn (Fence.wide.inRound l) (n - 1 - 1) P (roundQ (Bk (fun b => keep b ∨ b = w.heap.size ∨ b = w.heap.size + 1) n₀) I Ix k W) a' W)
    (hdone : ∀ (D : Nat) (W : World), D = w.heap.size → w.heap.size + 2 ≤ W.heap.size → I xs.length W → W.heap[D]? = some (.deferred (some [])) → Qx .normal { a with defers := { target := .collected D, args := #[] } :: a.defers } W)
    (hstop : ∀ (D : Nat) (c : Code) (k : Nat) (W : World), D = w.heap.size → k ≤ xs.length → Ix c k W → W.heap[D]? = some (.deferred (some [])) → c.wpIn Fence.wide n P Qx { a with defers := { target := .collected D, args := #[] } :: a.defers } W) :
    (Code.rangeFunc g ps assign body).wpIn Fence.wide n P Qx a w := by
  refine wpIn_rangeFunc ?_
  intro fn hfn
  obtain ⟨rec, hrec⟩ : ∃ rec : LoopState → Option Code → Loop, rec = fun st pe => { state := st, pending := pe, fn, tmps := a.tmps, params := ps, assign, body, defers := w.heap.size } := ⟨_, rfl⟩
  obtain ⟨W1, hW1⟩ : ∃ W1, (w.alloc (.deferred (some []))).alloc (.loop (rec .ready none)) = W1 := ⟨_, rfl⟩
  have hq1 : Q w W1 := by rw [← hW1]; exact (Q.alloc w _).trans (Q.alloc _ _)
  have hs1 : W1.heap.size = w.heap.size + 2 := by rw [← hW1]; simp
  have hL1 : W1.heap[w.heap.size + 1]? = some (.loop (rec .ready none)) := by
    rw [← hW1]; have := World.alloc_heap_new (w.alloc (.deferred (some []))) (.loop (rec .ready none)); rwa [World.size_alloc] at this
  have hK1 : W1.heap[w.heap.size]? = some (.deferred (some [])) := by
    rw [← hW1]; exact (Below.heap_alloc _ _ _ (by simp)).trans (World.alloc_heap_new w _)
  have hI1 : I 0 W1 := hI _ _ _ h0 (Itk.of_q hq1)
  have ho1 : ¬ own (w.heap.size + 1) := fun h => (hown _ h).2 rfl
  have hk1' : ¬ keep (w.heap.size + 1) := fun h => (hkeep _ h).2 rfl
  have ho0 : ¬ own w.heap.size := fun h => (hown _ h).1 rfl
  refine ⟨w.heap.size + 1, [{ target := .collected w.heap.size, args := #[] }], W1, { target := .fn (.func gf) lb, args := #[.func (.yield (w.heap.size + 1)) #[] #[]] }, W1, gf,
    #[.func (.yield (w.heap.size + 1)) #[] #[]] ++ lb, W1, ?_, ?_, fun _ _ => trivial, ?_, fun h => (by cases h), ?_⟩
  · rw [← hW1, hrec]; exact run_enterLoop_outer _ _ _ _ _
  · simp only [resolve, hg]
    simp [go_sem]
  · simp [invoke, go_sem, eg]
  · refine (hseq W1 hq1 hs1 (n - 1) (w.heap.size + 1)
      (fun k W => I k W ∧ W.heap[w.heap.size + 1]? = some (.loop (rec .ready none)) ∧ W.heap[w.heap.size]? = some (.deferred (some [])))
      (fun k W => ∃ c, Ix c k W ∧ W.heap[w.heap.size + 1]? = some (.loop (rec .done (some c))) ∧ W.heap[w.heap.size]? = some (.deferred (some [])))
      (fun s A B hs hi => ⟨hI s A B hs.1 (hi.mono (fun _ h => h) (by omega)), (hi.low _ (by omega) (lt_of_get hs.2.1) ho1).trans hs.2.1, (hi.low _ (by omega) (lt_of_get hs.2.2) ho0).trans hs.2.2⟩)
      (fun s A B hs hi => by
        obtain ⟨c, hc, hl, hk⟩ := hs
        exact ⟨c, hIx c s A B hc (hi.mono (fun _ h => h) (by omega)), (hi.low _ (by omega) (lt_of_get hl) ho1).trans hl, (hi.low _ (by omega) (lt_of_get hk) ho0).trans hk⟩)
      ?_ ⟨hI1, hL1, hK1⟩).mono ?_
    · -- one round
      rintro k hk W ⟨hi, hl, hkk⟩ hob
      have hy := run_yield (P := P) (args := encs xs[k]) hl (by rw [hrec]; exact hps _)
      rw [hrec] at hy
      refine ⟨fn, _, assign, body, hy, fun m => round_any (n := n - 1 - 1) (roundIn_of_wpIn trivial (hassign _ k hk W _ hi (lt_of_get hl) ?_))⟩
      clear hy
      intro a' Wa hqa hia hax
      have hla := (hqa.block _ (lt_of_get hl)).trans hl
      have hka := (hqa.block _ (lt_of_get hkk)).trans hkk
      refine ⟨_, run_beginRound hla (by rw [hrec]), ?_⟩
      have hl2 : (Wa.putObj (w.heap.size + 1) (.loop { rec .ready none with state := .busy })).heap[w.heap.size + 1]? = some (.loop { rec .ready none with state := .busy }) := World.putObj_heap_same (lt_of_get hla)
      have hk2 : (Wa.putObj (w.heap.size + 1) (.loop { rec .ready none with state := .busy })).heap[w.heap.size]? = some (.deferred (some [])) := (World.putObj_heap_other (by omega)).trans hka
      have hi2 : Itk own w.heap.size Wa (Wa.putObj (w.heap.size + 1) (.loop { rec .ready none with state := .busy })) := Itk.put _ hla rfl (by omega)
      have hb2 : Bk keep n₀ W (Wa.putObj (w.heap.size + 1) (.loop { rec .ready none with state := .busy })) := (Bk.of_q hqa (by have := lt_of_get hl; omega)).trans (Bk.put _ hla rfl (by omega) hk1')
      refine wpIn_mono (hbody _ k hk a' _ ⟨⟨_, hl2⟩, hk2⟩ rfl (hI _ _ _ hia hi2) (hAx _ _ _ _ hax hi2) (fun b hb => by have := hob b hb; have := hqa.size; simp; omega) (by have := lt_of_get hla; simp; omega)) ?_
      have fin : ∀ (jump : Option Code) (W3 : World), Bk (fun b => keep b ∨ b = w.heap.size ∨ b = w.heap.size + 1) n₀ (Wa.putObj (w.heap.size + 1) (.loop { rec .ready none with state := .busy })) W3 →
          (Instr.endRound (w.heap.size + 1) jump).run P W3 = .ok (.bool jump.isNone) (W3.putObj (w.heap.size + 1) (.loop (rec (if jump.isNone then .ready else .done) jump))) ∧
          W3.heap[w.heap.size + 1]? = some (.loop { rec .ready none with state := .busy }) ∧
          (W3.putObj (w.heap.size + 1) (.loop (rec (if jump.isNone then .ready else .done) jump))).heap[w.heap.size + 1]? = some (.loop (rec (if jump.isNone then .ready else .done) jump)) ∧
          (W3.putObj (w.heap.size + 1) (.loop (rec (if jump.isNone then .ready else .done) jump))).heap[w.heap.size]? = some (.deferred (some [])) ∧
          Itk own w.heap.size W3 (W3.putObj (w.heap.size + 1) (.loop (rec (if jump.isNone then .ready else .done) jump))) ∧
          Bk keep n₀ W (W3.putObj (w.heap.size + 1) (.loop (rec (if jump.isNone then .ready else .done) jump))) := fun jump W3 hk3 => by
        have hl3 := (hk3.own _ (.inr (.inr rfl)) (lt_of_get hl2)).trans hl2
        have hd3 := (hk3.own _ (.inr (.inl rfl)) (lt_of_get hk2)).trans hk2
        have := run_endRound (P := P) jump hl3
        rw [hrec] at this ⊢
        rw [hrec] at hl3
        exact ⟨this, hl3, World.putObj_heap_same (lt_of_get hl3), (World.putObj_heap_other (by omega)).trans hd3, Itk.put _ hl3 rfl (by omega),
          (hb2.trans (hk3.mono (fun _ h => .inl h) (Nat.le_refl _))).trans (Bk.put _ hl3 rfl (by omega) hk1')⟩
      rintro e a3 W3 hp
      cases e with
      | normal =>
        obtain ⟨hk3, hi3⟩ := hp
        obtain ⟨hr, hl3, hl4, hk4, hi4, hb4⟩ := fin none W3 hk3
        exact ⟨_, _, hr, .inl ⟨rfl, ⟨hI _ _ _ hi3 hi4, hl4, hk4⟩, hb4⟩⟩
      | ret =>
        obtain ⟨hk3, hi3⟩ := hp
        obtain ⟨hr, hl3, hl4, hk4, hi4, hb4⟩ := fin (some .ret) W3 hk3
        exact ⟨_, _, hr, .inr ⟨rfl, ⟨.ret, hIx _ _ _ _ hi3 hi4, hl4, hk4⟩, hb4⟩⟩
      | exit id =>
        obtain ⟨hk3, hi3⟩ := hp
        obtain ⟨hr, hl3, hl4, hk4, hi4, hb4⟩ := fin (some (.exit id)) W3 hk3
        exact ⟨_, _, hr, .inr ⟨rfl, ⟨.exit id, hIx _ _ _ _ hi3 hi4, hl4, hk4⟩, hb4⟩⟩
      | goto t =>
        obtain ⟨hk3, hi3⟩ := hp
        obtain ⟨hr, hl3, hl4, hk4, hi4, hb4⟩ := fin (some (.goto t)) W3 hk3
        exact ⟨_, _, hr, .inr ⟨rfl, ⟨.goto t, hIx _ _ _ _ hi3 hi4, hl4, hk4⟩, hb4⟩⟩
      | panic ch => exact hp.elim
      | outgrown => exact hp.elim
    · -- behind the iterator
      rintro e W2 ⟨⟨v, rfl⟩, (⟨hi, hl, hk⟩ | ⟨k, hkl, c, hi, hl, hk⟩)⟩
      · exact ⟨none, _, by have := run_endLoop (P := P) hl (by rw [hrec]; simp); rw [hrec] at this; exact this, hdone _ _ rfl (by have := lt_of_get hl; simp; omega) (hI _ _ _ hi (Itk.put _ hl rfl (by omega))) ((World.putObj_heap_other (by omega)).trans hk)⟩
      · exact ⟨some c, _, by have := run_endLoop (P := P) hl (by rw [hrec]; simp); rw [hrec] at this; exact this, hstop _ c k _ rfl hkl (hIx c _ _ _ hi (Itk.put _ hl rfl (by omega))) ((World.putObj_heap_other (by omega)).trans hk)⟩

theorem wp_range_in {α : Type} {P : Program} {n : Nat} {g : Operand} {ps : Array Tmp} {assign body : Code} {Qx : Exit → Act → World → Prop} {a : Act} {w : World} {l₀ : Nat} {r₀ : Loop} (h₀ : w.heap[l₀]? = some (.loop r₀))
    {gf : Nat} {lb : Array Value} (hg : a.eval g = .func (.func gf) #[] lb) (eg : ∀ args w, (callFunc gf args).run P w = .ok (.enter gf args) w)
    {encs : α → Array Value} {own keep : Nat → Prop} {n₀ : Nat} {xs : List α}
    (hseq : ∀ W1, Q w W1 → W1.heap.size = w.heap.size + 1 → Seq P gf lb encs own keep n₀ xs W1)
    (hown : ∀ k, own k → k ≠ w.heap.size) (hkeep : ∀ k, keep k → k ≠ w.heap.size) (hn₀ : n₀ ≤ w.heap.size) (hps : ∀ x, (encs x).size = ps.size)
    (I : Nat → World → Prop) (Ix : Code → Nat → World → Prop) (Ax : Nat → Act → World → Prop)
    (hI : ∀ s A B, I s A → Itk own w.heap.size A B → I s B) (hIx : ∀ c s A B, Ix c s A → Itk own w.heap.size A B → Ix c s B) (hAx : ∀ k a' A B, Ax k a' A → Itk own w.heap.size A B → Ax k a' B)
    (h0 : I 0 w)
    (hassign : ∀ (l k : Nat) (hk : k < xs.length) (W : World) (K : Act → World → Prop), I k W → w.heap.size + 1 ≤ W.heap.size → (∀ a' W', Q W W' → I k W' → Ax k a' W' → K a' W') →
      assign.wpIn (Fence.wide.inRound l) (n - 1 - 1) P (Exit.then K (fun _ _ _ => False)) { tmps := (ps.zip (encs xs[k])).foldl (fun t (p, v) => t.setIfInBounds p v) a.tmps, defers := [] } W)
    (hbody : ∀ (l k : Nat) (hk : k < xs.length) (a' : Act) (W : World), (∃ r, W.heap[l]? = some (.loop r)) → l = w.heap.size → I k W → Ax k a' W → (∀ b, keep b → b < W.heap.size) → w.heap.size + 1 ≤ W.heap.size →
      body.wpIn (Fence.wide.inRound l) (n - 1 - 1) P (roundQ (Bk (fun b => keep b ∨ b = w.heap.size) n₀) I Ix k W) a' W)
    (hdone : ∀ (W : World), I xs.length W → Qx .normal a W)
    (hstop : ∀ (c : Code) (k : Nat) (W : World), k ≤ xs.length → Ix c k W → c.wpIn (Fence.wide.inRound l₀) n P Qx a W) :
    (Code.rangeFunc g ps assign body).wpIn (Fence.wide.inRound l₀) n P Qx a w := by
  refine wpIn_rangeFunc ?_
  intro fn hfn
  obtain ⟨rec, hrec⟩ : ∃ rec : LoopState → Option Code → Loop, rec = fun st pe => { state := st, pending := pe, fn, tmps := a.tmps, params := ps, assign, body, defers := r₀.defers } := ⟨_, rfl⟩
  obtain ⟨W1, hW1⟩ : ∃ W1, w.alloc (.loop (rec .ready none)) = W1 := ⟨_, rfl⟩
  have hq1 : Q w W1 := by rw [← hW1]; exact Q.alloc w _
  have hs1 : W1.heap.size = w.heap.size + 1 := by rw [← hW1]; simp
  have hL1 : W1.heap[w.heap.size]? = some (.loop (rec .ready none)) := by
    rw [← hW1]; exact World.alloc_heap_new _ _
  have hI1 : I 0 W1 := hI _ _ _ h0 (Itk.of_q hq1)
  have ho0 : ¬ own w.heap.size := fun h => (hown _ h) rfl
  have hk1' : ¬ keep w.heap.size := fun h => (hkeep _ h) rfl
  refine ⟨w.heap.size, [], W1, { target := .fn (.func gf) lb, args := #[.func (.yield w.heap.size) #[] #[]] }, W1, gf,
    #[.func (.yield w.heap.size) #[] #[]] ++ lb, W1, ?_, ?_, fun _ _ => trivial, ?_, fun h => (by cases h), ?_⟩
  · rw [← hW1, hrec]; exact run_enterLoop_inner h₀ _ _ _ _ _
  · simp only [resolve, hg]
    simp [go_sem]
  · simp [invoke, go_sem, eg]
  · refine CallsIn.inRound l₀ ((hseq W1 hq1 hs1 (n - 1) w.heap.size
      (fun k W => I k W ∧ W.heap[w.heap.size]? = some (.loop (rec .ready none)))
      (fun k W => ∃ c, Ix c k W ∧ W.heap[w.heap.size]? = some (.loop (rec .done (some c))))
      (fun s A B hs hi => ⟨hI s A B hs.1 (hi.mono (fun _ h => h) (by omega)), (hi.low _ (by omega) (lt_of_get hs.2) ho0).trans hs.2⟩)
      (fun s A B hs hi => by
        obtain ⟨c, hc, hl⟩ := hs
        exact ⟨c, hIx c s A B hc (hi.mono (fun _ h => h) (by omega)), (hi.low _ (by omega) (lt_of_get hl) ho0).trans hl⟩)
      ?_ ⟨hI1, hL1⟩).mono ?_)
    · -- one round
      rintro k hk W ⟨hi, hl⟩ hob
      have hy := run_yield (P := P) (args := encs xs[k]) hl (by rw [hrec]; exact hps _)
      rw [hrec] at hy
      refine ⟨fn, _, assign, body, hy, fun m => round_any (n := n - 1 - 1) (roundIn_of_wpIn trivial (hassign _ k hk W _ hi (lt_of_get hl) ?_))⟩
      clear hy
      intro a' Wa hqa hia hax
      have hla := (hqa.block _ (lt_of_get hl)).trans hl
      refine ⟨_, run_beginRound hla (by rw [hrec]), ?_⟩
      have hl2 : (Wa.putObj w.heap.size (.loop { rec .ready none with state := .busy })).heap[w.heap.size]? = some (.loop { rec .ready none with state := .busy }) := World.putObj_heap_same (lt_of_get hla)
      have hi2 : Itk own w.heap.size Wa (Wa.putObj w.heap.size (.loop { rec .ready none with state := .busy })) := Itk.put _ hla rfl (by omega)
      have hb2 : Bk keep n₀ W (Wa.putObj w.heap.size (.loop { rec .ready none with state := .busy })) := (Bk.of_q hqa (by have := lt_of_get hl; omega)).trans (Bk.put _ hla rfl (by omega) hk1')
      refine wpIn_mono (hbody _ k hk a' _ ⟨_, hl2⟩ rfl (hI _ _ _ hia hi2) (hAx _ _ _ _ hax hi2) (fun b hb => by have := hob b hb; have := hqa.size; simp; omega) (by have := lt_of_get hla; simp; omega)) ?_
      have fin : ∀ (jump : Option Code) (W3 : World), Bk (fun b => keep b ∨ b = w.heap.size) n₀ (Wa.putObj w.heap.size (.loop { rec .ready none with state := .busy })) W3 →
          (Instr.endRound w.heap.size jump).run P W3 = .ok (.bool jump.isNone) (W3.putObj w.heap.size (.loop (rec (if jump.isNone then .ready else .done) jump))) ∧
          (W3.putObj w.heap.size (.loop (rec (if jump.isNone then .ready else .done) jump))).heap[w.heap.size]? = some (.loop (rec (if jump.isNone then .ready else .done) jump)) ∧
          Itk own w.heap.size W3 (W3.putObj w.heap.size (.loop (rec (if jump.isNone then .ready else .done) jump))) ∧
          Bk keep n₀ W (W3.putObj w.heap.size (.loop (rec (if jump.isNone then .ready else .done) jump))) := fun jump W3 hk3 => by
        have hl3 := (hk3.own _ (.inr rfl) (lt_of_get hl2)).trans hl2
        have := run_endRound (P := P) jump hl3
        rw [hrec] at this ⊢
        rw [hrec] at hl3
        exact ⟨this, World.putObj_heap_same (lt_of_get hl3), Itk.put _ hl3 rfl (by omega),
          (hb2.trans (hk3.mono (fun _ h => .inl h) (Nat.le_refl _))).trans (Bk.put _ hl3 rfl (by omega) hk1')⟩
      rintro e a3 W3 hp
      cases e with
      | normal =>
        obtain ⟨hk3, hi3⟩ := hp
        obtain ⟨hr, hl4, hi4, hb4⟩ := fin none W3 hk3
        exact ⟨_, _, hr, .inl ⟨rfl, ⟨hI _ _ _ hi3 hi4, hl4⟩, hb4⟩⟩
      | ret =>
        obtain ⟨hk3, hi3⟩ := hp
        obtain ⟨hr, hl4, hi4, hb4⟩ := fin (some .ret) W3 hk3
        exact ⟨_, _, hr, .inr ⟨rfl, ⟨.ret, hIx _ _ _ _ hi3 hi4, hl4⟩, hb4⟩⟩
      | exit id =>
        obtain ⟨hk3, hi3⟩ := hp
        obtain ⟨hr, hl4, hi4, hb4⟩ := fin (some (.exit id)) W3 hk3
        exact ⟨_, _, hr, .inr ⟨rfl, ⟨.exit id, hIx _ _ _ _ hi3 hi4, hl4⟩, hb4⟩⟩
      | goto t =>
        obtain ⟨hk3, hi3⟩ := hp
        obtain ⟨hr, hl4, hi4, hb4⟩ := fin (some (.goto t)) W3 hk3
        exact ⟨_, _, hr, .inr ⟨rfl, ⟨.goto t, hIx _ _ _ _ hi3 hi4, hl4⟩, hb4⟩⟩
      | panic ch => exact hp.elim
      | outgrown => exact hp.elim
    · -- behind the iterator
      rintro e W2 ⟨⟨v, rfl⟩, (⟨hi, hl⟩ | ⟨k, hkl, c, hi, hl⟩)⟩
      · exact ⟨none, _, by have := run_endLoop (P := P) hl (by rw [hrec]; simp); rw [hrec] at this; exact this, hdone _ (hI _ _ _ hi (Itk.put _ hl rfl (by omega)))⟩
      · exact ⟨some c, _, by have := run_endLoop (P := P) hl (by rw [hrec]; simp); rw [hrec] at this; exact this, hstop c k _ hkl (hIx c _ _ _ hi (Itk.put _ hl rfl (by omega)))⟩
end Go.Proofs.YtoabhcfmdkhmgaaGreatDoor
end

/- (WRunes) utf.Runes: the iterator over a text's runes: its contract. -/
section
namespace Go.Proofs.YtoabhcfmdkhmgaaGreatDoor
open Go.RowKit
set_option linter.unusedVariables false
attribute [local go_sem] Oper.semAt_some

/-- the runes of a text with the places where they begin -/
def runesAt : Nat → List (Int × Bytes) → List (Nat × Int)
  | _, [] => []
  | p, c :: cs => (p, c.1) :: runesAt (p + c.2.length) cs
abbrev runePlaces (s : Bytes) : List (Nat × Int) := runesAt 0 (chunks s)
abbrev encRune (x : Nat × Int) : Array Value := #[.int .i64 x.1, .int .i64 x.2]

theorem Runes_any (s : Bytes) (w : World) :
    Calls Tryz.prog 139 #[.string ⟨s.toArray⟩] w fun e w' => e = .returned (.func (.func 148) #[] #[.pointer (some ⟨w.heap.size, 0, none⟩)]) ∧ w.alloc (.cells #[strV s] 9) = w' := by
  go_enter Tryz.func139, Tryz.ntmps139
  go_wp2_with fail
  go_ret
  exact ⟨rfl, rfl⟩

theorem runesAt_length (p : Nat) (cs : List (Int × Bytes)) : (runesAt p cs).length = cs.length := by
  induction cs generalizing p with
  | nil => rfl
  | cons c cs ih => simp [runesAt, ih]
/-- what the model's range over a string tells, and what Rune tells of it -/
theorem decode_drop (s : Bytes) (p : Nat) (hp : p < s.length) :
    (rune1 (s.drop p)).2 = (Utf8.decode ⟨s.toArray⟩ p).2 ∧ ((Utf8.decode ⟨s.toArray⟩ p).1 ≠ 65533 → (rune1 (s.drop p)).1 = (Utf8.decode ⟨s.toArray⟩ p).1) ∧ (Utf8.decode ⟨s.toArray⟩ p).1 ≤ 1114111 := by
  have hne : s.drop p ≠ [] := fun h => by have := congrArg List.length h; rw [List.length_drop] at this; simp at this; omega
  have hd : Utf8.decode ⟨s.toArray⟩ p = Lib.decodeN (s.drop p).length ((s.drop p).getD 0 0).toNat ((s.drop p).getD 1 0).toNat ((s.drop p).getD 2 0).toNat ((s.drop p).getD 3 0).toNat := by
    rw [Lib.decode_at]
    have hg : ∀ i, (ByteArray.mk s.toArray).get! (p + i) = (s.drop p).getD i 0 := by
      intro i
      rw [List.getD_eq_getElem?_getD, List.getElem?_drop]
      show s.toArray[p + i]! = _
      simp [getElem!_def]
      cases s[p + i]? <;> rfl
    have h0 := hg 0
    rw [Nat.add_zero] at h0
    rw [h0, hg 1, hg 2, hg 3]
    congr 1
    show s.toArray.size - p = _
    rw [List.length_drop]; simp
  rw [hd]
  refine and_assoc.1 ⟨?_, (decodeN_bounds _ _ _ _ _).1⟩
  cases hs : s.drop p with
  | nil => exact absurd hs hne
  | cons b t =>
    unfold rune1
    simp only []
    split
    · rename_i h; exact ⟨rfl, fun h2 => absurd h.1 h2⟩
    · exact ⟨rfl, fun _ => rfl⟩
theorem block_stays' {w w' : World} (hb : Q w w') {k : Nat} {o : Obj} (h : w.heap[k]? = some o) : w'.heap[k]? = some o := (hb.block k (Array.getElem?_eq_some_iff.1 h).1).trans h
set_option maxRecDepth 100000 in
set_option maxHeartbeats 2000000 in
theorem Runes_seq (s : Bytes) (B n₀ : Nat) (W : World) (hs : s.length ≤ 9223372036854775807) (hb : Boxed W B 9 (strV s)) (hn : n₀ ≤ W.heap.size) (hTb : ∀ W', Below n₀ W W' → Tabs W') :
    Seq Tryz.prog 148 #[.pointer (some ⟨B, 0, none⟩)] encRune (fun _ => False) (fun k => k = B) n₀ (runePlaces s) W := by
  intro n l J Jx hJ hJx hY h0
  refine callsIn_of_wp Tryz.func148 rfl trivial ?_ rfl
  simp only [Tryz.ntmps148, List.size_toArray, List.length_cons, List.length_nil, Nat.reduceAdd, Nat.reduceSub, Array.replicate_succ, Array.replicate_zero, List.push_toArray, List.append_toArray, List.nil_append, List.cons_append]
  have hc := hb.cell
  have hq0 : Q W (W.alloc (.stringIter ⟨s.toArray⟩ 0)) := Q.alloc _ _
  have H0 := Lib.hid h0; have HQ0 := Lib.hid hq0; have HTB := Lib.hid hTb; have HBX := Lib.hid hb; have HYH := Lib.hid hY
  have hBlt := hb.lt
  clear h0 hq0 hTb hb hY
  gi_wp2
  gi_loopw [3] (fun _ wr => ∃ (k pos : Nat), pos ≤ s.length ∧ k ≤ (runePlaces s).length ∧ Hid (wr.heap[W.heap.size]? = some (.stringIter ⟨s.toArray⟩ pos)) ∧ Hid (Below n₀ W wr) ∧ Hid (Boxed wr B 9 (strV s)) ∧ Hid (J k wr) ∧ Hid ((runePlaces s).drop k = runesAt pos (chunks (s.drop pos)))) (fun _ wr => s.length - wr.iterPos W.heap.size)
  case atStart =>
    exact ⟨0, 0, by omega, by omega, World.alloc_heap_new _ _, Below.mono HQ0.out hn, HBX.out.alloc _, hJ _ _ _ H0.out (Itk.of_q HQ0.out), by show _ = _; simp [runePlaces]⟩
  case round =>
    obtain ⟨k, pos, hp, hkle, HI, HB, HBB, HJ, HD⟩ := hrel
    obtain ⟨wo, rfl⟩ : ∃ wo : World, wo = wr := ⟨_, rfl⟩
    by_cases hlt : pos < s.length
    · have hne : s.drop pos ≠ [] := fun h => by have := congrArg List.length h; rw [List.length_drop] at this; simp at this; omega
      have hcs := chunks_cons (s.drop pos) hne
      have hsz := rune1_size (s.drop pos) hne
      rw [List.length_drop] at hsz
      obtain ⟨d1, d2, d3⟩ := decode_drop s pos hlt
      have hx := HD.out
      rw [hcs, runesAt, List.length_take, List.length_drop, Nat.min_eq_left (by omega), List.drop_drop] at hx
      have hkl : k < (runePlaces s).length := by
        rcases Nat.lt_or_ge k (runePlaces s).length with h | h
        · exact h
        · rw [List.drop_eq_nil_of_le h] at hx; cases hx
      rw [List.drop_eq_getElem_cons hkl] at hx
      injection hx with hx1 hx2
      have hnx : ∀ ty, (Instr.next (.pointer (some ⟨W.heap.size, 0, none⟩)) true ty).run Tryz.prog wo = _ := fun ty => Lib.run_next_any_at wo W.heap.size ⟨s.toArray⟩ pos ty HI.out hlt
      have hR := Rune_any (s.drop pos)
      rw [d1] at hsz hx2
      simp only [] at hx1
      generalize (rune1 (s.drop pos)).1 = R at *
      generalize (rune1 (s.drop pos)).2 = N0 at *
      generalize hdec : Utf8.decode ⟨s.toArray⟩ pos = dc at *
      obtain ⟨c, N⟩ := dc
      simp only [] at d1 d2 d3 hsz hx2 hnx
      subst d1
      have HX := Lib.hid hx1; have HD2 := Lib.hid hx2; have HR0 := Lib.hid hR; have HC2 := Lib.hid d2; have HDEC := Lib.hid hdec; have HCS := Lib.hid hcs; have HNE := Lib.hid hne
      have hjw : J k (wo.iterAt W.heap.size ⟨s.toArray⟩ (pos + N0)) := hJ _ _ _ HJ.out (Itk.iterAt _ HI.out (Nat.le_refl _))
      have hiw := Lib.iterAt_heap wo W.heap.size ⟨s.toArray⟩ pos (pos + N0) HI.out
      have hbw : Below n₀ W (wo.iterAt W.heap.size ⟨s.toArray⟩ (pos + N0)) := Lib.below_iterAt HB.out hn _ _
      have hbb : Boxed (wo.iterAt W.heap.size ⟨s.toArray⟩ (pos + N0)) B 9 (strV s) := (Lib.iterAt_other _ _ _ _ _ (by omega)).trans HBB.out
      have hcw := hbb.cell
      have HBBW := Lib.hid hbb
      have HJW := Lib.hid hjw; have HIW := Lib.hid hiw; have HBW := Lib.hid hbw
      clear hx1 hx2 hR d2 hdec hcs hjw hiw hbw hne hbb
      generalize wo.iterAt W.heap.size ⟨s.toArray⟩ (pos + N0) = wi at *
      by_cases hc5 : c = 65533
      · subst hc5
        have hTi : Tabs wi := HTB.out _ HBW.out
        have HTI := Lib.hid hTi; clear hTi
        gi_wp2
        rw [bytes_drop]
        refine ⟨trivial, fun h => (by cases h), (callsIn_wide.2 (HR0.out wi HNE.out HTI.out)).mono ?_⟩
        rintro e w2 ⟨rfl, q2⟩
        have hj2 : J k w2 := hJ _ _ _ HJW.out (Itk.of_q q2)
        have hi2 := block_stays' q2 HIW.out
        have hb2 : Below n₀ W w2 := HBW.out.trans (Below.mono q2 (by have := HBW.out.size; omega))
        have HBB2 := Lib.hid (block_stays' q2 HBBW.out)
        have HJ2 := Lib.hid hj2; have HI2 := Lib.hid hi2; have HB2 := Lib.hid hb2
        clear hj2 hi2 hb2 q2
        obtain ⟨fn, tmps, assign, body, hy, hR⟩ := HYH.out k hkl w2 HJ2.out (fun b h => by rw [h]; exact lt_of_get HBB2.out)
        rw [HX.out] at hy
        dsimp only [encRune] at hy
        have HYY := Lib.hid hR; clear hR
        gi_wp2
        refine ⟨fun h => (by cases h), (HYY.out _).mono ?_⟩
        rintro e W3 (⟨rfl, hJ3, hk3⟩ | ⟨rfl, hJx3, _⟩)
        · have hi3 : W3.heap[W.heap.size]? = some (.stringIter ⟨s.toArray⟩ (pos + N0)) := hk3.walks _ _ HI2.out rfl
          have hb4 : Boxed W3 B 9 (strV s) := (hk3.own B rfl (lt_of_get HBB2.out)).trans HBB2.out
          have HBB3 := Lib.hid hb4; clear hb4
          have hb3 : Below n₀ W W3 := HB2.out.trans hk3.below
          have HI3 := Lib.hid hi3; have HB3 := Lib.hid hb3; have HJ3 := Lib.hid hJ3
          clear hi3 hb3 hJ3 hk3
          gi_wp2
          go_roundw
          case rel => exact ⟨k + 1, pos + N0, by omega, by omega, HI3, HB3, HBB3, HJ3, HD2⟩
          case measure => rw [World.iterPos, HI3.out, World.iterPos, HI.out]; simp only []; omega
        · have HJX := Lib.hid hJx3; clear hJx3
          gi_wp2
          refine bodyPost_ret (results_none rfl _ _ _) rfl ?_
          exact ⟨⟨_, rfl⟩, .inr ⟨k + 1, by omega, HJX.out⟩⟩
      · have hRc : R = (c : Int) := HC2.out hc5
        subst hRc
        have hcb : ((c : Int) == 65533) = false := by simp; omega
        obtain ⟨fn, tmps, assign, body, hy, hR⟩ := HYH.out k hkl wi HJW.out (fun b h => by rw [h]; exact lt_of_get HBBW.out)
        rw [HX.out] at hy
        dsimp only [encRune] at hy
        have HYY := Lib.hid hR; clear hR
        gi_wp2
        refine ⟨fun h => (by cases h), (HYY.out _).mono ?_⟩
        rintro e W3 (⟨rfl, hJ3, hk3⟩ | ⟨rfl, hJx3, _⟩)
        · have hi3 : W3.heap[W.heap.size]? = some (.stringIter ⟨s.toArray⟩ (pos + N0)) := hk3.walks _ _ HIW.out rfl
          have hb4 : Boxed W3 B 9 (strV s) := (hk3.own B rfl (lt_of_get HBBW.out)).trans HBBW.out
          have HBB3 := Lib.hid hb4; clear hb4
          have hb3 : Below n₀ W W3 := HBW.out.trans hk3.below
          have HI3 := Lib.hid hi3; have HB3 := Lib.hid hb3; have HJ3 := Lib.hid hJ3
          clear hi3 hb3 hJ3 hk3
          gi_wp2
          go_roundw
          case rel => exact ⟨k + 1, pos + N0, by omega, by omega, HI3, HB3, HBB3, HJ3, HD2⟩
          case measure => rw [World.iterPos, HI3.out, World.iterPos, HI.out]; simp only []; omega
        · have HJX := Lib.hid hJx3; clear hJx3
          gi_wp2
          refine bodyPost_ret (results_none rfl _ _ _) rfl ?_
          exact ⟨⟨_, rfl⟩, .inr ⟨k + 1, by omega, HJX.out⟩⟩
    · have hnx : ∀ ty, (Instr.next (.pointer (some ⟨W.heap.size, 0, none⟩)) true ty).run Tryz.prog wo = _ := fun ty => Lib.run_next_end_at wo W.heap.size ⟨s.toArray⟩ pos ty HI.out hlt
      have hkl : (runePlaces s).length ≤ k := by
        have := HD.out
        rw [List.drop_eq_nil_of_le (show s.length ≤ pos by omega), chunks_nil, runesAt] at this
        have := congrArg List.length this
        simp at this
        omega
      have hkk : k = (runePlaces s).length := by omega
      have hj : J (runePlaces s).length wo := by rw [← hkk]; exact HJ.out
      have HJF := Lib.hid hj
      clear hkl hkk hj
      gi_wp2
      go_end0
      exact ⟨⟨_, rfl⟩, .inl HJF.out⟩
end Go.Proofs.YtoabhcfmdkhmgaaGreatDoor
end
