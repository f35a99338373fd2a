/- Joined texts of one proof: WUtf, Bld, WBld, WRune. -/
import Derived.Test.YtcflpcpkmhljkaaGreatDoorShelf
import Derived.Test.YtcflpcpkmhljkaaGreatDoorMKitToSegSpec
import Derived.Test.YtcflpcpkmhljkaaGreatDoorMMapsToLive
import Derived.WalkSpells
import Derived.WalkLawsBesides
import Derived.Outline
import Derived.Test.YtcflpcpkmhljkaaGreatDoorProg
import Derived.WalkKit
import Derived.Lib.Builder
import Derived.Lib.FrozenHead
import Derived.Lib.FrozenHead2
import Derived.KernelRfl
import Derived.Test.YtcflpcpkmhljkaaGreatDoorMTokToWDictR
import Derived.Lib.SpaceU
set_option linter.unusedSimpArgs false
set_option linter.unusedVariables false
set_option linter.unnecessarySimpa false
/- (WUtf) utf.Valid, segment.Right: walked -/
section
namespace Go.Proofs.YtcflpcpkmhljkaaGreatDoor
open Go.RowKit
set_option linter.unusedVariables false

/-- the tables of the library's and of utf's lie as they were laid -/
def Tabs (w : World) : Prop := Lib.Utf8Tabs 0 1 w
theorem Tabs.stays {w w' : World} (h : Tabs w) (hb : Q w w') : Tabs w' := Utf8Tabs_below h hb

set_option maxHeartbeats 400000 in
theorem Valid_any (s : Bytes) (w : World) (hs : s.length ≤ 9223372036854775807) (hT : Tabs w) :
    Calls Tryz.prog 88 #[.string ⟨s.toArray⟩] w fun e w' => e = .returned (.bool (Lib.validD s)) ∧ Q w w' := by
  have c := Tryz.utf8_ValidString ⟨s.toArray⟩ w (by simpa [ByteArray.size] using hs) hT
  have C := Lib.hid c
  clear c hT
  go_enter Tryz.func88, Tryz.ntmps88
  go_wp2_with fail
  refine C.out.mono ?_
  rintro e w1 ⟨rfl, q1⟩
  go_wp2_with fail
  go_ret
  exact ⟨rfl, q1⟩

set_option maxHeartbeats 1000000 in
theorem Right_any (id text : Bytes) (w : World) (h1 : id.length ≤ 9223372036854775807) (h2 : text.length ≤ 9223372036854775807) (hT : Tabs w) :
    Calls Tryz.prog 89 #[.agg #[.string ⟨id.toArray⟩, .string ⟨text.toArray⟩]] w fun e w' => e = .returned (.bool (rightB id text)) ∧ Q w w' := by
  have hT1 : Tabs (w.alloc (.cells #[.string ⟨id.toArray⟩, .string ⟨text.toArray⟩] 63)) := hT.stays (Q.alloc _ _)
  have HT := Lib.hid hT1
  clear hT hT1
  have hR : rightB id text = (!id.isEmpty && decide (id.length ≤ 40) && decide (text.length ≤ 2000) && Lib.validD id && Lib.validD text) := rfl
  generalize rightB id text = R at *
  by_cases he : id = []
  · subst he
    have HR := Lib.hid hR; clear hR
    go_enter Tryz.func89, Tryz.ntmps89
    go_wp2_with fail
    go_ret
    exact ⟨by rw [HR.out]; rfl, Q.alloc _ _⟩
  · have hne : id.isEmpty = false := by simpa using he
    rw [hne] at hR
    by_cases h40 : id.length ≤ 40
    · by_cases h2000 : text.length ≤ 2000
      · rw [decide_eq_true h40, decide_eq_true h2000] at hR
        have HR := Lib.hid hR; have HE := Lib.hid he; clear hR he
        cases hv : Lib.validD id with
        | false =>
          have HV := Lib.hid hv; clear hv
          go_enter Tryz.func89, Tryz.ntmps89
          go_wp2_with fail
          refine (Valid_any id _ h1 HT.out).mono ?_
          rintro e w1 ⟨rfl, q1⟩
          rw [HV.out]
          go_wp2_with fail
          go_ret
          exact ⟨by rw [HR.out, HV.out]; rfl, (Q.alloc _ _).trans q1⟩
        | true =>
          have HV := Lib.hid hv; clear hv
          go_enter Tryz.func89, Tryz.ntmps89
          go_wp2_with fail
          refine (Valid_any id _ h1 HT.out).mono ?_
          rintro e w1 ⟨rfl, q1⟩
          rw [HV.out]
          have hc : w1.cell? ⟨w.heap.size, 1, none⟩ = some (.string ⟨text.toArray⟩) := cell_stays q1 (by simp only [World.cell?, heap_alloc_new]; simp)
          have hT1 : Tabs w1 := HT.out.stays q1
          have HT1 := Lib.hid hT1; have HQ := Lib.hid q1; clear hT1 q1
          go_wp2_with fail
          refine (Valid_any text _ h2 HT1.out).mono ?_
          rintro e w2 ⟨rfl, q2⟩
          have HQ2 := Lib.hid q2; clear q2
          go_wp2_with fail
          go_ret
          exact ⟨by rw [HR.out, HV.out]; rfl, ((Q.alloc _ _).trans HQ.out).trans HQ2.out⟩
      · rw [decide_eq_false h2000] at hR
        have HR := Lib.hid hR; have HE := Lib.hid he; clear hR he
        go_enter Tryz.func89, Tryz.ntmps89
        go_wp2_with fail
        go_ret
        exact ⟨by rw [HR.out]; simp, Q.alloc _ _⟩
    · rw [decide_eq_false h40] at hR
      have HR := Lib.hid hR; have HE := Lib.hid he; clear hR he
      go_enter Tryz.func89, Tryz.ntmps89
      go_wp2_with fail
      go_ret
      exact ⟨by rw [HR.out]; simp, Q.alloc _ _⟩
end Go.Proofs.YtcflpcpkmhljkaaGreatDoor
end

/- (Bld) A strings.Builder that the call itself has made: what it holds; copyCheck, WriteByte, WriteString: walked at this dump, with a frame that names the two blocks that may turn. -/
section
namespace Go.Proofs.YtcflpcpkmhljkaaGreatDoor
open Go.RowKit
set_option linter.unusedVariables false

abbrev byteVs (l : Bytes) : List Value := Lib.byteCells l
/-- at block b lies a builder of the call's own (its memory from block B on) that holds the bytes l; its buffer lies in block r -/
def Bld (w : World) (B b : Nat) (r : Option Nat) (l : Bytes) : Prop :=
  B ≤ b ∧ ∃ p v, w.heap[b]? = some (.cells #[p, v] 190 (0, 0)) ∧ (p = .pointer none ∨ p = .pointer (some ⟨b, 0, none⟩)) ∧ w.ownsRowF B 5 1 v l.length (byteVs l) ∧ v.ownBlock = r ∧ r ≠ some b ∧ (l = [] → r = none)
/-- but for block b and block r, what lay in w lies in w' -/
structure Step2 (w w' : World) (b : Nat) (r : Option Nat) : Prop where
  os : w'.os = w.os
  tape : w'.tape = w.tape
  output : w'.output = w.output
  size : w.heap.size ≤ w'.heap.size
  block : ∀ k, k < w.heap.size → k ≠ b → some k ≠ r → w'.heap[k]? = w.heap[k]?
theorem Step2.refl (w : World) (b : Nat) (r : Option Nat) : Step2 w w b r := ⟨rfl, rfl, rfl, Nat.le_refl _, fun _ _ _ _ => rfl⟩
theorem Step2.below {w w' : World} {b : Nat} {r : Option Nat} {B : Nat} (h : Step2 w w' b r) (hb : B ≤ b) (hr : ∀ k, r = some k → B ≤ k) (hB : B ≤ w.heap.size) : Below B w w' :=
  ⟨h.os, h.tape, h.output, h.size, fun k hk => h.block k (by omega) (by omega) (fun e => by have := hr k e.symm; omega)⟩
theorem Bld.lt {w : World} {B b : Nat} {r : Option Nat} {l : Bytes} (h : Bld w B b r l) : b < w.heap.size := by
  obtain ⟨_, p, v, hb, _⟩ := h
  exact (Array.getElem?_eq_some_iff.1 hb).1
theorem Bld.row {w : World} {B b : Nat} {r : Option Nat} {l : Bytes} (h : Bld w B b r l) : ∀ k, r = some k → B ≤ k ∧ k < w.heap.size := by
  obtain ⟨_, p, v, hb, _, ho, hr, _, _⟩ := h
  intro k hk
  exact ho.lt k (hr.trans hk)
theorem Bld.below {w w' : World} {B b : Nat} {r : Option Nat} {l : Bytes} (h : Bld w B b r l) (hs : Step2 w w' b r) (hB : B ≤ w.heap.size) : Below B w w' :=
  hs.below h.1 (fun k hk => (h.row k hk).1) hB
/-- a builder stands while what is turned is not its own -/
theorem Bld.stays {w w' : World} {B b : Nat} {r : Option Nat} {l : Bytes} (h : Bld w B b r l) (hb : w'.heap[b]? = w.heap[b]?) (hr : ∀ k, r = some k → w'.heap[k]? = w.heap[k]?) (hsz : w.heap.size ≤ w'.heap.size) : Bld w' B b r l := by
  obtain ⟨h1, p, v, h2, h3, ho, h4, h5⟩ := h
  refine ⟨h1, p, v, hb.trans h2, h3, ⟨ho.1, ?_⟩, h4, h5⟩
  rcases ho.2 with hn | ⟨g, cap, cur, fz, rfl, hbg, hg, rest⟩
  · exact .inl hn
  · exact .inr ⟨g, cap, cur, fz, rfl, hbg, (hr g (by rw [← h4]; rfl)).trans hg, rest⟩
theorem Bld.alloc {w : World} {B b : Nat} {r : Option Nat} {l : Bytes} (h : Bld w B b r l) (o : Obj) : Bld (w.alloc o) B b r l :=
  h.stays (Below.heap_alloc _ _ _ h.lt) (fun k hk => Below.heap_alloc _ _ _ (h.row k hk).2) (by simp)
theorem Bld.step {w w' : World} {B b b2 : Nat} {r r2 : Option Nat} {l : Bytes} (h : Bld w B b r l) (hs : Step2 w w' b2 r2) (h1 : b ≠ b2) (h2 : some b ≠ r2) (h3 : r ≠ some b2) (h4 : r = none ∨ r ≠ r2) : Bld w' B b r l :=
  h.stays (hs.block b h.lt h1 h2) (fun k hk => hs.block k (h.row k hk).2 (fun e => h3 (by rw [hk, e])) (fun e => by
    rcases h4 with h4 | h4
    · rw [h4] at hk; cases hk
    · exact h4 (hk.trans e))) hs.size
/-- 'var b strings.Builder' -/
theorem Bld.new (w : World) (B : Nat) (hB : B ≤ w.heap.size) : Bld (w.alloc (.cells #[.pointer none, .slice none 0 0] 190)) B w.heap.size none [] :=
  ⟨hB, _, _, heap_alloc_new w _, .inl rfl, World.ownsRowF_nil _ _ _ _, rfl, by simp, fun _ => rfl⟩

theorem sizeBuilder : (Tryz.prog.info? 190).map (·.size) = some 2 := by kernel_rfl
theorem liesBuilder : liesAt Tryz.prog Tryz.prog.depth 190 (2 / Tryz.prog.cellsOf 190) 0 190 1 = true := by kernel_rfl
theorem infoByte : (Tryz.prog.info? 5).map (fun i => (i.zero, i.size, i.bytes)) = some (some (.int .u8 0), 1, 1) := by kernel_rfl

set_option maxRecDepth 100000 in
set_option maxHeartbeats 1000000 in
theorem copyCheck_fresh (b : Nat) (w : World) (h0 : w.cell? ⟨b, 0, none⟩ = some (.pointer none)) (hsh : w.shape? b = some (190, 2)) (hfz : w.frozen? ⟨b, 0, none⟩ = false) :
    Calls Tryz.prog 157 #[.pointer (some ⟨b, 0, none⟩)] w fun e w' => e = .returned (.tuple #[]) ∧ w' = w.setCell ⟨b, 0, none⟩ (.pointer (some ⟨b, 0, none⟩)) := by
  obtain ⟨j, hj, hjs⟩ := Option.map_eq_some_iff.1 sizeBuilder
  go_enter Tryz.func157, Tryz.ntmps157
  go_wp2
  rw [Lib.run_to_unsafe w ⟨b, 0, none⟩ Tryz.underlying188 Tryz.underlying279 hj (by rw [hjs]; decide) hsh (Nat.zero_lt_succ 1)]
  simp only [Result.andThen]
  rw [Oper.upon_value]
  go_wp2
  rw [run_callFunc_extern Tryz.func189 (by kernel_rfl) (by kernel_rfl) (by kernel_rfl) (e := Extern.AbiNoEscape.same) (by kernel_rfl)]
  rw [Lib.run_noEscape]
  simp only [Result.andThen]
  rw [Oper.upon_value]
  go_wp2
  rw [Lib.run_from_unsafe w ⟨b, 0, none⟩ Tryz.underlying279 Tryz.underlying188 hj hsh liesBuilder]
  simp only [Result.andThen]
  rw [Oper.upon_value]
  go_wp2
  go_end0
  exact ⟨rfl, rfl⟩
set_option maxRecDepth 100000 in
set_option maxHeartbeats 1000000 in
theorem copyCheck_used (b : Nat) (w : World) (h0 : w.cell? ⟨b, 0, none⟩ = some (.pointer (some ⟨b, 0, none⟩))) :
    Calls Tryz.prog 157 #[.pointer (some ⟨b, 0, none⟩)] w fun e w' => e = .returned (.tuple #[]) ∧ w' = w := by
  obtain ⟨j, hj, _⟩ := Option.map_eq_some_iff.1 sizeBuilder
  go_enter Tryz.func157, Tryz.ntmps157
  go_wp2
  rw [Lib.run_neq_ptr_same w _ Tryz.underlying188 hj]
  go_wp2
  go_end0
  exact ⟨rfl, rfl⟩

/-- behind copyCheck the builder is the same, and holds its own address -/
theorem copyCheck_any (B b : Nat) (r : Option Nat) (l : Bytes) (w : World) (h : Bld w B b r l) :
    Calls Tryz.prog 157 #[.pointer (some ⟨b, 0, none⟩)] w fun e w' => e = .returned (.tuple #[]) ∧ Step2 w w' b none ∧
      ∃ v, w'.heap[b]? = some (.cells #[.pointer (some ⟨b, 0, none⟩), v] 190 (0, 0)) ∧ w'.ownsRowF B 5 1 v l.length (byteVs l) ∧ v.ownBlock = r := by
  obtain ⟨h1, p, v, h2, h3, ho, h4, h5, h6⟩ := h
  rcases h3 with rfl | rfl
  · refine (copyCheck_fresh b w (by simp [World.cell?, h2]) (by simp [World.shape?, h2]) (by simp [World.frozen?, h2])).mono ?_
    rintro e w' ⟨rfl, rfl⟩
    refine ⟨rfl, ⟨rfl, rfl, rfl, by simp [World.setCell], fun k hk hb _ => Below.heap_setCell _ _ _ _ (by simpa using hb)⟩, v, ?_, ?_, h4⟩
    · simp [World.setCell, Array.getElem?_modify, h2]
    · refine ⟨ho.1, ?_⟩
      rcases ho.2 with hn | ⟨g, cap, cur, fz, rfl, hbg, hg, rest⟩
      · exact .inl hn
      · refine .inr ⟨g, cap, cur, fz, rfl, hbg, ?_, rest⟩
        have hne : g ≠ b := by rintro rfl; exact h5 (by rw [← h4]; rfl)
        rw [Below.heap_setCell _ _ _ _ (by simpa using hne)]
        exact hg
  · refine (copyCheck_used b w (by simp [World.cell?, h2])).mono ?_
    rintro e w' ⟨rfl, rfl⟩
    exact ⟨rfl, Step2.refl _ _ _, v, h2, ho, h4⟩

/-- the row that an append leaves: the old one, or a new block -/
def Fresh (w : World) (r r' : Option Nat) : Prop := r' = r ∨ ∃ g, r' = some g ∧ w.heap.size ≤ g

theorem run_app_strF {P : Program} (W : World) (base : Nat) (t u ty e : TypeId) (i : TypeInfo) (ht : P.underlying t = some (.slice e)) (hu : P.underlying u = some .string) (hi : P.info? e = some i) (hz : i.zero = some (.int .u8 0))
    (hsize : i.size = 1) (hby : i.bytes = 1) (v : Value) (n : Nat) (xs : List Value) (hown : W.ownsRowF base e 1 v n xs) (s : ByteArray) (hbytes : n + s.size ≤ 140737488355328) (hbase : base ≤ W.heap.size) :
    ∃ v' w', (Builtin.append_ #[t, u] ty #[v, .string s]).run P W = .ok v' w' ∧ w'.ownsRowF base e 1 v' (n + s.size) (xs ++ Lib.strCells s) ∧ W.grownBy w' v.ownBlock ∧ Fresh W v.ownBlock v'.ownBlock ∧ (v' = .slice none 0 0 ↔ v = .slice none 0 0 ∧ s.size = 0) := by
  obtain ⟨v', w', hr, ho, hg, hn⟩ := Lib.run_append_own_stringF (P := P) W base t u ty e i ht hu hi hz hsize hby v n xs hown s (by unfold maxLen; omega) hbytes hbase
  refine ⟨v', w', hr, ho, hg, ?_, hn⟩
  rcases hown.2 with ⟨rfl, rfl⟩ | ⟨g, cap, cur, fz, rfl, hbg, hgg, hfz, hnc, hcm, hcs, htake⟩
  · obtain ⟨v2, w2, hr2, ho2, _⟩ := Lib.run_append_own_string (P := P) W W.heap.size t u ty e i ht hu hi hz hsize hby (.slice none 0 0) 0 [] (World.ownsRow_nil _ _ _ _) s (by unfold maxLen; omega) hbytes (Nat.le_refl _)
    rw [hr] at hr2
    simp only [Result.ok.injEq] at hr2
    obtain ⟨rfl, rfl⟩ := hr2
    cases hk : v'.ownBlock with
    | none => exact Or.inl rfl
    | some g => exact Or.inr ⟨g, rfl, (ho2.lt g hk).1⟩
  · by_cases hroom : n + s.size ≤ cap
    · have h2 := Lib.run_append_room_stringF (P := P) W t u ty e i ht hu hi hsize g n cap cur fz hgg (by omega) s hroom (by omega)
      rw [hr] at h2
      simp only [Result.ok.injEq] at h2
      rw [h2.1]; exact Or.inl rfl
    · have holds : ∀ j x, xs[j]? = some x → W.cell? ((⟨g, 0, none⟩ : Addr).add j) = some x := hown.cells (g := g) rfl
      have h2 := Lib.run_append_grow_string (P := P) W t u ty e i (.int .u8 0) ht hu hi hz ⟨g, 0, none⟩ n cap xs (by rw [hsize]; exact hown.1) holds s (by omega) (by omega) (by rw [hby]; exact growslice_fits (by omega) (by omega))
      rw [hr] at h2
      simp only [Result.ok.injEq] at h2
      rw [h2.1]; exact Or.inr ⟨_, rfl, Nat.le_refl _⟩
theorem run_app_byteF {P : Program} (W : World) (base : Nat) (t ty e : TypeId) (i : TypeInfo) (ht : P.underlying t = some (.slice e)) (hi : P.info? e = some i) (hz : i.zero = some (.int .u8 0))
    (hsize : i.size = 1) (hby : i.bytes = 1) (v : Value) (n : Nat) (xs : List Value) (hown : W.ownsRowF base e 1 v n xs) (e' : TypeId) (c : Int) (hbytes : n + 1 ≤ 140737488355328) (hbase : base ≤ W.heap.size) :
    ∃ v' w', (Builtin.append_ #[t, t] ty #[v, .slice (some ⟨W.heap.size, 0, none⟩) 1 1]).run P (W.alloc (.cells #[.int .u8 c] e')) = .ok v' w' ∧ w'.ownsRowF base e 1 v' (n + 1) (xs ++ [.int .u8 c]) ∧ W.grownBy w' v.ownBlock ∧ Fresh W v.ownBlock v'.ownBlock := by
  have hnews : ∀ j u, ([.int .u8 c] : List Value)[j]? = some u → (W.alloc (.cells #[.int .u8 c] e')).cell? ((⟨W.heap.size, 0, none⟩ : Addr).add j) = some u := by
    intro j u hj
    rw [add_head]
    simp only [World.cell?, heap_alloc_new]
    simpa using hj
  have h1 : ∀ u ∈ ([.int .u8 c] : List Value), u.oneCell' = true := by intro u hu; simp at hu; subst hu; rfl
  obtain ⟨v', w', hr, ho, hg, hn⟩ := run_append_ownF (P := P) (W.alloc (.cells #[.int .u8 c] e')) base t ty e i (.int .u8 0) 1 1 ht hi hz hsize hby rfl (by decide) v n xs (hown.alloc _) ⟨W.heap.size, 0, none⟩ 1 1 [.int .u8 c] rfl hnews h1 (by unfold maxLen; omega) (by omega) (by simp; omega)
  refine ⟨v', w', hr, ho, ⟨hg.os.trans rfl, hg.tape.trans rfl, hg.output.trans rfl, by have := hg.size; simp at this; omega, fun k hk hne => ?_⟩, ?_⟩
  · rw [hg.block k (by simp; omega) hne, Below.heap_alloc _ _ _ hk]
  · rcases (hown.alloc (.cells #[.int .u8 c] e')).2 with ⟨rfl, rfl⟩ | ⟨g, cap, cur, fz, rfl, hbg, hgg, hfz, hnc, hcm, hcs, htake⟩
    · obtain ⟨v2, w2, hr2, ho2, _⟩ := run_append_own (P := P) (W.alloc (.cells #[.int .u8 c] e')) W.heap.size t ty e i (.int .u8 0) 1 1 ht hi hz hsize hby rfl (by decide) (.slice none 0 0) 0 [] (World.ownsRow_nil _ _ _ _) ⟨W.heap.size, 0, none⟩ 1 1 [.int .u8 c] rfl hnews h1 (by decide) (by decide) (by simp)
      rw [hr] at hr2
      simp only [Result.ok.injEq] at hr2
      obtain ⟨rfl, rfl⟩ := hr2
      cases hk : v'.ownBlock with
      | none => exact Or.inl rfl
      | some g => exact Or.inr ⟨g, rfl, (ho2.lt g hk).1⟩
    · by_cases hroom : n + 1 ≤ cap
      · have h2 := run_append_roomF (P := P) (W.alloc (.cells #[.int .u8 c] e')) t ty e i ht hi g n cap cur fz hgg (by rw [hsize]; exact hfz) ⟨W.heap.size, 0, none⟩ 1 1 [.int .u8 c] (by rw [hsize]; rfl) hnews h1 hroom (by rw [hsize]; simp; omega)
        rw [hr] at h2
        simp only [Result.ok.injEq] at h2
        rw [h2.1]; exact Or.inl rfl
      · have holds : ∀ j x, xs[j]? = some x → (W.alloc (.cells #[.int .u8 c] e')).cell? ((⟨g, 0, none⟩ : Addr).add j) = some x := (hown.alloc _).cells (g := g) rfl
        have h2 := run_append_grow (P := P) (W.alloc (.cells #[.int .u8 c] e')) t ty e i (.int .u8 0) ht hi hz ⟨g, 0, none⟩ n cap xs (by rw [hsize]; exact hown.1) holds ⟨W.heap.size, 0, none⟩ 1 1 [.int .u8 c] (by rw [hsize]; rfl) hnews (by omega) (by omega) (by rw [hby]; exact growslice_fits (by omega) (by omega))
        rw [hr] at h2
        simp only [Result.ok.injEq] at h2
        rw [h2.1]; exact Or.inr ⟨_, rfl, by simp⟩

theorem wpList_app_byteF {P : Program} (W : World) {ops : Array Oper} {rest : List Oper} {o : Oper} {a : Act} {Q : Exit → Act → World → Prop} (hgd : o.guard = none) (s x : Operand) (t : TypeId)
    (ho : o.op = .call { callee := .builtin .append, args := #[s, x], argTypes := #[t, t] })
    (base : Nat) (e e' : TypeId) (i : TypeInfo) (ht : P.underlying t = some (.slice e)) (hi : P.info? e = some i) (hz : i.zero = some (.int .u8 0)) (hsize : i.size = 1) (hby : i.bytes = 1)
    (v : Value) (n : Nat) (xs : List Value) (hs : a.eval s = v) (hown : W.ownsRowF base e 1 v n xs) (c : Int) (hx : a.eval x = .slice (some ⟨W.heap.size, 0, none⟩) 1 1) (hbytes : n + 1 ≤ 140737488355328) (hbase : base ≤ W.heap.size)
    (h : ∀ v' w', w'.ownsRowF base e 1 v' (n + 1) (xs ++ [.int .u8 c]) → W.grownBy w' v.ownBlock → Fresh W v.ownBlock v'.ownBlock → wpList P ops Q rest (a.put o.dst v') w') : wpList P ops Q (o :: rest) a (W.alloc (.cells #[.int .u8 c] e')) := by
  obtain ⟨v', w', hr, h2, h3, h4⟩ := run_app_byteF (P := P) W base t o.type e i ht hi hz hsize hby v n xs hown e' c hbytes hbase
  refine wpList_plain hgd fun _ hK => ?_
  unfold Oper.wp execOp
  simp only [ho, resolve, invoke, builtin, Sem.run_bind, Sem.run_pure, Result.andThen_ok, List.map_toArray, List.map_cons, List.map_nil, hs, hx, hr]
  exact hK _ _ (h v' w' h2 h3 h4)
theorem wpList_app_strF {P : Program} (W : World) {ops : Array Oper} {rest : List Oper} {o : Oper} {a : Act} {Q : Exit → Act → World → Prop} (hgd : o.guard = none) (sl x : Operand) (t u : TypeId)
    (ho : o.op = .call { callee := .builtin .append, args := #[sl, x], argTypes := #[t, u] })
    (base : Nat) (e : TypeId) (i : TypeInfo) (ht : P.underlying t = some (.slice e)) (hu : P.underlying u = some .string) (hi : P.info? e = some i) (hz : i.zero = some (.int .u8 0)) (hsize : i.size = 1) (hby : i.bytes = 1)
    (v : Value) (n : Nat) (xs : List Value) (hs : a.eval sl = v) (hown : W.ownsRowF base e 1 v n xs) (s : ByteArray) (hx : a.eval x = .string s) (hbytes : n + s.size ≤ 140737488355328) (hbase : base ≤ W.heap.size)
    (h : ∀ v' w', w'.ownsRowF base e 1 v' (n + s.size) (xs ++ Lib.strCells s) → W.grownBy w' v.ownBlock → Fresh W v.ownBlock v'.ownBlock → (v' = .slice none 0 0 ↔ v = .slice none 0 0 ∧ s.size = 0) → wpList P ops Q rest (a.put o.dst v') w') : wpList P ops Q (o :: rest) a W := by
  obtain ⟨v', w', hr, h2, h3, h4, h5⟩ := run_app_strF (P := P) W base t u o.type e i ht hu hi hz hsize hby v n xs hown s hbytes hbase
  refine wpList_plain hgd fun _ hK => ?_
  unfold Oper.wp execOp
  simp only [ho, resolve, invoke, builtin, Sem.run_bind, Sem.run_pure, Result.andThen_ok, List.map_toArray, List.map_cons, List.map_nil, hs, hx, hr]
  exact hK _ _ (h v' w' h2 h3 h4 h5)
end Go.Proofs.YtcflpcpkmhljkaaGreatDoor
end

/- (WBld) strings.Builder's WriteByte, WriteString: walked -/
section
namespace Go.Proofs.YtcflpcpkmhljkaaGreatDoor
open Go.RowKit
set_option linter.unusedVariables false

theorem byteVs_length (l : Bytes) : (byteVs l).length = l.length := by simp [byteVs, Lib.byteCells]
theorem byteVs_append (a b : Bytes) : byteVs (a ++ b) = byteVs a ++ byteVs b := by simp [byteVs, Lib.byteCells]
theorem strCells_bytes (l : Bytes) : Lib.strCells ⟨l.toArray⟩ = byteVs l := by simp [Lib.strCells, byteVs, Lib.byteCells]
/-- the field is written: the builder holds the new row -/
theorem Bld.put {w1 w2 : World} {B b : Nat} {r : Option Nat} {l l' : Bytes} {v v' : Value} (hB : B ≤ b) (hb2 : w2.heap[b]? = some (.cells #[.pointer (some ⟨b, 0, none⟩), v] 190 (0, 0)))
    (hown' : w2.ownsRowF B 5 1 v' l'.length (byteVs l')) (hr : v'.ownBlock ≠ some b) (hnil : l' = [] → v'.ownBlock = none) : Bld (w2.setCell ⟨b, 1, none⟩ v') B b v'.ownBlock l' := by
  refine ⟨hB, _, v', ?_, .inr rfl, ⟨hown'.1, ?_⟩, rfl, hr, hnil⟩
  · simp [World.setCell, Array.getElem?_modify, hb2]
  · rcases hown'.2 with hn | ⟨g, cap, cur, fz, rfl, hbg, hg, rest⟩
    · exact .inl hn
    · refine .inr ⟨g, cap, cur, fz, rfl, hbg, ?_, rest⟩
      have hne : g ≠ b := by rintro rfl; exact hr rfl
      rw [Below.heap_setCell _ _ _ _ (by simpa using hne)]
      exact hg
theorem Step2.append {w w1 w2 : World} {b : Nat} {r : Option Nat} {v v' : Value} (hs1 : Step2 w w1 b none) (hg : w1.grownBy w2 v.ownBlock) (hv : v.ownBlock = r) : Step2 w (w2.setCell ⟨b, 1, none⟩ v') b r := by
  refine ⟨hg.os.trans hs1.os, hg.tape.trans hs1.tape, hg.output.trans hs1.output, by have := hg.size; have := hs1.size; simp [World.setCell]; omega, fun k hk hkb hkr => ?_⟩
  rw [Below.heap_setCell _ _ _ _ (by simpa using hkb), hg.block k (by have := hs1.size; omega) (by rw [hv]; exact hkr), hs1.block k hk hkb (by simp)]

set_option maxRecDepth 100000 in
set_option maxHeartbeats 2000000 in
theorem WriteByte_any (B b : Nat) (r : Option Nat) (l : Bytes) (x : UInt8) (c : Int) (w : World) (h : Bld w B b r l) (hc : c = x.toNat) (hlen : l.length + 1 ≤ 140737488355328) (hB : B ≤ w.heap.size) :
    Calls Tryz.prog 112 #[.pointer (some ⟨b, 0, none⟩), .int .u8 c] w fun e w' => e = .returned .nilIface ∧ Step2 w w' b r ∧ ∃ r', Bld w' B b r' (l ++ [x]) ∧ Fresh w r r' := by
  obtain ⟨i0, hi, hz0, hz1, hz2⟩ := info_parts infoByte
  have hBb := h.1
  have hlt0 := h.lt
  have hr5 : r ≠ some b := by obtain ⟨_, _, _, _, _, _, _, h5, _⟩ := h; exact h5
  have C := copyCheck_any B b r l w h
  have hne : some b ≠ r := fun e => hr5 e.symm
  have HC := Lib.hid C; have HN := Lib.hid hr5; have HX := Lib.hid hc
  clear C hr5 hne hc h
  go_enter Tryz.func112, Tryz.ntmps112
  go_wp2_with (go_at_call 157; refine HC.out.mono ?_)
  rintro e w1 ⟨rfl, hs1, v, hbk, hown, hvr⟩
  have c0 : w1.cell? ⟨b, 0, none⟩ = some (.pointer (some ⟨b, 0, none⟩)) := by simp [World.cell?, hbk]
  have c1 : w1.cell? ⟨b, 1, none⟩ = some v := by simp [World.cell?, hbk]
  have hsz1 := hs1.size
  have HS1 := Lib.hid hs1; have HVR := Lib.hid hvr; have HBK := Lib.hid hbk
  clear hs1 hvr hbk
  go_wp2_with (at_builtin; refine wpList_app_byteF w1 (by rfl) _ _ 162 (by rfl) B 5 _ i0 Tryz.underlying162 hi hz0 hz1 hz2 v l.length (byteVs l) (by rfl) hown c (by rfl) ?c4 ?c5 ?_)
  case c4 => omega
  case c5 => omega
  intro v' w2 hown' hgrow hfr
  have hb1lt : b < w1.heap.size := by omega
  have hvb : v.ownBlock ≠ some b := by rw [HVR.out]; exact HN.out
  have hb2 : w2.heap[b]? = some (.cells #[.pointer (some ⟨b, 0, none⟩), v] 190 (0, 0)) := by
    rw [hgrow.block b hb1lt (fun e => hvb e.symm)]; exact HBK.out
  have d1 : w2.cell? ⟨b, 1, none⟩ = some v := by simp [World.cell?, hb2]
  have f1 : w2.frozen? ⟨b, 1, none⟩ = false := by simp [World.frozen?, hb2]
  have hv' : v'.ownBlock ≠ some b := by
    rcases hfr with hfr | ⟨g, hg, hgl⟩
    · rw [hfr]; exact hvb
    · rw [hg]; intro e; simp at e; omega
  obtain ⟨ao, n', cap, rfl⟩ : ∃ ao n' cap, v' = .slice ao n' cap := by
    rcases hown'.2 with ⟨hv, _⟩ | ⟨g, cap, cur, fz, hv, _⟩
    · exact ⟨_, _, _, hv⟩
    · exact ⟨_, _, _, hv⟩
  have HOW := Lib.hid hown'; have HG := Lib.hid hgrow; have HFR := Lib.hid hfr; have HB2 := Lib.hid hb2; have HV := Lib.hid hv'
  clear hown' hgrow hfr hb2 hv' hvb hown
  go_wp2
  go_ret
  refine ⟨rfl, HS1.out.append HG.out HVR.out, _, Bld.put (w1 := w1) (l := l) (r := r) hBb HB2.out ?_ HV.out (fun e => by simp at e), ?_⟩
  · rw [List.length_append, byteVs_append]
    have := HOW.out
    rw [HX.out] at this
    exact this
  · rcases HFR.out with e | ⟨g, e1, e2⟩
    · exact Or.inl (e.trans HVR.out)
    · exact Or.inr ⟨g, e1, by omega⟩

set_option maxRecDepth 100000 in
set_option maxHeartbeats 2000000 in
theorem WriteString_any (B b : Nat) (r : Option Nat) (l s : Bytes) (w : World) (h : Bld w B b r l) (hlen : l.length + s.length ≤ 140737488355328) (hB : B ≤ w.heap.size) :
    Calls Tryz.prog 135 #[.pointer (some ⟨b, 0, none⟩), .string ⟨s.toArray⟩] w fun e w' => e = .returned (.tuple #[.int .i64 s.length, .nilIface]) ∧ Step2 w w' b r ∧ ∃ r', Bld w' B b r' (l ++ s) ∧ Fresh w r r' := by
  obtain ⟨i0, hi, hz0, hz1, hz2⟩ := info_parts infoByte
  have hBb := h.1
  have hlt0 := h.lt
  have hr5 : r ≠ some b := by obtain ⟨_, _, _, _, _, _, _, h5, _⟩ := h; exact h5
  have hnl : l = [] → r = none := by obtain ⟨_, _, _, _, _, _, _, _, h6⟩ := h; exact h6
  have HNL := Lib.hid hnl
  clear hnl
  have C := copyCheck_any B b r l w h
  have HC := Lib.hid C; have HN := Lib.hid hr5
  clear C hr5 h
  go_enter Tryz.func135, Tryz.ntmps135
  go_wp2_with (go_at_call 157; refine HC.out.mono ?_)
  rintro e w1 ⟨rfl, hs1, v, hbk, hown, hvr⟩
  have c0 : w1.cell? ⟨b, 0, none⟩ = some (.pointer (some ⟨b, 0, none⟩)) := by simp [World.cell?, hbk]
  have c1 : w1.cell? ⟨b, 1, none⟩ = some v := by simp [World.cell?, hbk]
  have hsz1 := hs1.size
  have hss : ({ data := s.toArray } : ByteArray).size = s.length := by simp [ByteArray.size]
  have HSS := Lib.hid hss
  have HS1 := Lib.hid hs1; have HVR := Lib.hid hvr; have HBK := Lib.hid hbk
  clear hs1 hvr hbk hss
  go_wp2_with (at_builtin; refine wpList_app_strF w1 (by rfl) _ _ 162 9 (by rfl) B 5 i0 Tryz.underlying162 Tryz.underlying9 hi hz0 hz1 hz2 v l.length (byteVs l) (by rfl) hown ⟨s.toArray⟩ (by rfl) ?c4 ?c5 ?_)
  case c4 => rw [HSS.out]; omega
  case c5 => omega
  intro v' w2 hown' hgrow hfr hiff
  have hnil' : l ++ s = [] → v'.ownBlock = none := fun e => by
    have hl : l = [] := by cases l with | nil => rfl | cons a l => simp at e
    have hs : s = [] := by subst hl; simpa using e
    have hv0 : v = .slice none 0 0 := by
      rcases hown.2 with ⟨hv, _⟩ | ⟨g, cap, cur, fz, hv, _⟩
      · exact hv
      · exfalso; have := HVR.out; rw [HNL.out hl, hv] at this; cases this
    rw [hiff.2 ⟨hv0, hs⟩]; rfl
  have HNIL := Lib.hid hnil'
  clear hnil' hiff
  have hb1lt : b < w1.heap.size := by omega
  have hvb : v.ownBlock ≠ some b := by rw [HVR.out]; exact HN.out
  have hb2 : w2.heap[b]? = some (.cells #[.pointer (some ⟨b, 0, none⟩), v] 190 (0, 0)) := by
    rw [hgrow.block b hb1lt (fun e => hvb e.symm)]; exact HBK.out
  have d1 : w2.cell? ⟨b, 1, none⟩ = some v := by simp [World.cell?, hb2]
  have f1 : w2.frozen? ⟨b, 1, none⟩ = false := by simp [World.frozen?, hb2]
  have hv' : v'.ownBlock ≠ some b := by
    rcases hfr with hfr | ⟨g, hg, hgl⟩
    · rw [hfr]; exact hvb
    · rw [hg]; intro e; simp at e; omega
  obtain ⟨ao, n', cap, rfl⟩ : ∃ ao n' cap, v' = .slice ao n' cap := by
    rcases hown'.2 with ⟨hv, _⟩ | ⟨g, cap, cur, fz, hv, _⟩
    · exact ⟨_, _, _, hv⟩
    · exact ⟨_, _, _, hv⟩
  have HOW := Lib.hid hown'; have HG := Lib.hid hgrow; have HFR := Lib.hid hfr; have HB2 := Lib.hid hb2; have HV := Lib.hid hv'
  clear hown' hgrow hfr hb2 hv' hvb hown
  go_wp2
  go_ret2
  refine ⟨rfl, HS1.out.append HG.out HVR.out, _, Bld.put (w1 := w1) (l := l) (r := r) hBb HB2.out ?_ HV.out HNIL.out, ?_⟩
  · rw [List.length_append, byteVs_append]
    have := HOW.out
    rw [strCells_bytes] at this
    exact this
  · rcases HFR.out with e | ⟨g, e1, e2⟩
    · exact Or.inl (e.trans HVR.out)
    · exact Or.inr ⟨g, e1, by omega⟩
theorem cellsByte : Tryz.prog.cellsOf 5 = 1 := by kernel_rfl
theorem freeze_other (w : World) (g n k : Nat) (h : k ≠ g) : (w.freeze ⟨g, 0, none⟩ n).heap[k]? = w.heap[k]? := by
  unfold World.freeze
  split
  · rfl
  · simp only [Array.getElem?_modify]
    rw [if_neg (by omega)]
theorem freeze_size (w : World) (g n : Nat) : (w.freeze ⟨g, 0, none⟩ n).heap.size = w.heap.size := by
  unfold World.freeze
  split
  · rfl
  · simp
theorem freeze_rest (w : World) (g n : Nat) : (w.freeze ⟨g, 0, none⟩ n).os = w.os ∧ (w.freeze ⟨g, 0, none⟩ n).tape = w.tape ∧ (w.freeze ⟨g, 0, none⟩ n).output = w.output := by
  unfold World.freeze
  split <;> exact ⟨rfl, rfl, rfl⟩

set_option maxRecDepth 100000 in
set_option maxHeartbeats 2000000 in
theorem String_some (B b : Nat) (r : Option Nat) (l : Bytes) (w : World) (h : Bld w B b r l) (h0 : l ≠ []) :
    Calls Tryz.prog 116 #[.pointer (some ⟨b, 0, none⟩)] w fun e w' => e = .returned (.string ⟨l.toArray⟩) ∧ Step2 w w' b r ∧ Bld w' B b r l := by
  obtain ⟨hB, p, v, hbk, hp, hown, hvr, hne, hnl⟩ := h
  have hl0 : l.length ≠ 0 := by simpa using h0
  obtain ⟨g, cap, cur, fz, rfl, hbg, hg, hfz, hnc, hcm, hcs, htake⟩ : ∃ g cap cur fz, v = .slice (some ⟨g, 0, none⟩) l.length cap ∧ B ≤ g ∧ w.heap[g]? = some (.cells cur 5 fz) ∧ fz.2 ≤ l.length * 1 ∧ l.length ≤ cap ∧ cap ≤ maxLen ∧ cur.size = cap * 1 ∧ cur.toList.take (l.length * 1) = byteVs l := by
    rcases hown.2 with ⟨_, hz⟩ | ⟨g, cap, cur, fz, hv, rest⟩
    · exact absurd hz hl0
    · exact ⟨g, cap, cur, fz, hv, rest⟩
  have hrg : r = some g := hvr.symm
  have hgb : g ≠ b := by rintro rfl; exact hne hrg
  have c1 : w.drew.cell? ⟨b, 1, none⟩ = some (.slice (some ⟨g, 0, none⟩) l.length cap) := by
    have : w.drew.heap[b]? = some (.cells #[p, .slice (some ⟨g, 0, none⟩) l.length cap] 190 (0, 0)) := hbk
    simp [World.cell?, this]
  have hSD : (Builtin.unsafeSliceData_ #[162] 243 #[.slice (some ⟨g, 0, none⟩) l.length cap]).run Tryz.prog w.drew = .ok (.pointer (some ⟨g, 0, none⟩)) w.drew :=
    Lib.run_unsafeSliceData_row _ _ _ _ _ _ (by omega)
  have hUS : (Builtin.unsafeString_ #[243, 3] 9 #[.pointer (some ⟨g, 0, none⟩), .int .i64 l.length]).run Tryz.prog w.drew = .ok (.string ⟨l.toArray⟩) (w.drew.freeze ⟨g, 0, none⟩ l.length) := by
    refine Lib.run_unsafeString_row w.drew 243 3 9 5 Tryz.underlying243 cellsByte g cur.size (by have hg' : w.drew.heap[g]? = some (.cells cur 5 fz) := hg; simp [World.shape?, hg']) l h0 (by omega) (by unfold maxLen at hcm; omega) ?_
    intro j x hx
    have := hown.cells (g := g) rfl j (.int .u8 x.toNat) (by simp [byteVs, Lib.byteCells, hx])
    exact this
  have hA : Lib.BuilderAtF 190 5 B b p (Lib.byteCells l) w.drew := ⟨hB, _, hbk, by rw [Lib.byteCells_length]; exact hown, by rw [hvr]; exact hne⟩
  have hF := hA.froze (g := g) (cap := cap) (by rw [Lib.byteCells_length]; exact c1)
  rw [Lib.byteCells_length] at hF
  have hkeep : Bld (w.drew.freeze ⟨g, 0, none⟩ l.length) B b r l := by
    obtain ⟨k1, v2, k2, k3, k4⟩ := hF
    have e2 : (w.drew.freeze ⟨g, 0, none⟩ l.length).heap[b]? = some (.cells #[p, .slice (some ⟨g, 0, none⟩) l.length cap] 190 (0, 0)) := by
      rw [freeze_other _ _ _ _ (fun e => hgb e.symm)]; exact hbk
    rw [e2] at k2
    simp only [Option.some.injEq, Obj.cells.injEq] at k2
    have e3 : v2 = .slice (some ⟨g, 0, none⟩) l.length cap := by have := k2.1; simp at this; exact this.symm
    subst e3
    rw [Lib.byteCells_length] at k3
    exact ⟨hB, p, _, e2, hp, k3, hvr, hne, hnl⟩
  have hstep : Step2 w (w.drew.freeze ⟨g, 0, none⟩ l.length) b r := by
    obtain ⟨f1, f2, f3⟩ := freeze_rest w.drew g l.length
    exact ⟨f1, f2, f3, by rw [freeze_size]; exact Nat.le_refl _, fun k hk hkb hkr => by rw [freeze_other _ _ _ _ (fun e => hkr (by rw [hrg, e]))]; rfl⟩
  have HK := Lib.hid hkeep; have HST := Lib.hid hstep
  clear hkeep hstep hF hA hne hrg hgb hvr hnl
  go_enter Tryz.func116, Tryz.ntmps116
  go_wp2
  go_region
  all_goals (go_wp2; go_ret; exact ⟨rfl, HST.out, HK.out⟩)

set_option maxRecDepth 100000 in
set_option maxHeartbeats 2000000 in
theorem String_nil (B b : Nat) (r : Option Nat) (w : World) (h : Bld w B b r []) :
    Calls Tryz.prog 116 #[.pointer (some ⟨b, 0, none⟩)] w fun e w' => e = .returned (.string ⟨([] : Bytes).toArray⟩) ∧ Q w w' := by
  obtain ⟨hB, p, v, hbk, hp, hown, hvr, hne, hnl⟩ := h
  have hv0 : v = .slice none 0 0 := by
    rcases hown.2 with ⟨hv, _⟩ | ⟨g, cap, cur, fz, hv, _⟩
    · exact hv
    · exfalso; rw [hnl rfl, hv] at hvr; cases hvr
  subst hv0
  have c1 : w.drew.cell? ⟨b, 1, none⟩ = some (.slice none 0 0) := by
    have : w.drew.heap[b]? = some (.cells #[p, .slice none 0 0] 190 (0, 0)) := hbk
    simp [World.cell?, this]
  have hSD : (Builtin.unsafeSliceData_ #[162] 243 #[.slice none 0 0]).run Tryz.prog w.drew = .ok (.pointer none) w.drew := rfl
  have hUS : (Builtin.unsafeString_ #[243, 3] 9 #[.pointer none, .int .i64 0]).run Tryz.prog w.drew = .ok (.string ⟨#[]⟩) w.drew := by kernel_rfl
  clear hown hnl hvr hne
  go_enter Tryz.func116, Tryz.ntmps116
  go_wp2
  go_region
  all_goals (go_wp2; go_ret; exact ⟨rfl, Q.drew _⟩)
theorem String_any (B b : Nat) (r : Option Nat) (l : Bytes) (w : World) (h : Bld w B b r l) (hB : B ≤ w.heap.size) :
    Calls Tryz.prog 116 #[.pointer (some ⟨b, 0, none⟩)] w fun e w' => e = .returned (.string ⟨l.toArray⟩) ∧ Below B w w' := by
  cases l with
  | nil => exact (String_nil B b r w h).mono fun e w' ⟨h1, h2⟩ => ⟨h1, Below.mono h2 hB⟩
  | cons x l => exact (String_some B b r (x :: l) w h (by simp)).mono fun e w' ⟨h1, h2, _⟩ => ⟨h1, h.below h2 hB⟩
end Go.Proofs.YtcflpcpkmhljkaaGreatDoor
end

/- (WRune) utf.Rune, utf.runeOf, strings.Builder's WriteRune: walked. -/
section
namespace Go.Proofs.YtcflpcpkmhljkaaGreatDoor
open Go.RowKit
set_option linter.unusedVariables false

theorem rune1_go (s : Bytes) : Lib.decodeGo ⟨s.toArray⟩ = if s = [] then (65533, 0) else Lib.decodeN s.length (s.getD 0 0).toNat (s.getD 1 0).toNat (s.getD 2 0).toNat (s.getD 3 0).toNat := by
  unfold Lib.decodeGo
  by_cases h : s = []
  · subst h; rfl
  · have hs : ({ data := s.toArray } : ByteArray).size ≠ 0 := by
      show s.toArray.size ≠ 0
      simpa using h
    rw [if_neg hs, if_neg h]
    exact Lib.decodeL_N s
theorem ret_num2 {k j : IntKind} {x y u v : Int} (h1 : x = u) (h2 : y = v) : Ending.returned (.tuple #[.int k x, .int j y]) = .returned (.tuple #[.int k u, .int j v]) := by rw [h1, h2]
set_option maxHeartbeats 1000000 in
theorem Rune_any (s : Bytes) (w : World) (hs : s ≠ []) (hT : Tabs w) :
    Calls Tryz.prog 156 #[.string ⟨s.toArray⟩] w fun e w' => e = .returned (.tuple #[.int .i64 (rune1 s).1, .int .i64 (rune1 s).2]) ∧ Q w w' := by
  have c := Tryz.utf8_DecodeRuneInString ⟨s.toArray⟩ w hT
  have hd := decodeN_size s.length (s.getD 0 0).toNat (s.getD 1 0).toNat (s.getD 2 0).toNat (s.getD 3 0).toNat (List.length_pos_iff.2 hs)
  have he : rune1 s = if (Lib.decodeGo ⟨s.toArray⟩).1 = 65533 ∧ (Lib.decodeGo ⟨s.toArray⟩).2 < 3 then (-1, (Lib.decodeGo ⟨s.toArray⟩).2) else (((Lib.decodeGo ⟨s.toArray⟩).1 : Int), (Lib.decodeGo ⟨s.toArray⟩).2) := by
    rw [rune1_go, if_neg hs]
    cases s with
    | nil => exact absurd rfl hs
    | cons b s => rfl
  have hb : (Lib.decodeGo ⟨s.toArray⟩).1 ≤ 1114111 ∧ (Lib.decodeGo ⟨s.toArray⟩).2 ≤ 4 := by
    rw [rune1_go, if_neg hs]
    exact decodeN_bounds _ _ _ _ _
  generalize Lib.decodeGo ⟨s.toArray⟩ = d at *
  obtain ⟨r, n⟩ := d
  simp only at he hb c
  obtain ⟨hb1, hb2⟩ := hb
  clear hd hT
  by_cases h1 : r = 65533
  · by_cases h2 : n < 3
    · rw [if_pos ⟨h1, h2⟩] at he
      have e1 : (rune1 s).1 = -1 := by rw [he]
      have e2 : (rune1 s).2 = n := by rw [he]
      have E1 := Lib.hid e1; have E2 := Lib.hid e2; have C := Lib.hid c; clear he e1 e2 c
      subst h1
      have hd : decide ((n : Int) < 3) = true := decide_eq_true (by omega)
      go_enter Tryz.func156, Tryz.ntmps156
      go_wp2_with fail
      refine C.out.mono ?_
      rintro e w1 ⟨rfl, q1⟩
      go_wp2_with fail
      go_ret2
      exact ⟨ret_num2 E1.out.symm (by rw [E2.out]), q1⟩
    · rw [if_neg (fun h => h2 h.2)] at he
      have e1 : (rune1 s).1 = r := by rw [he]
      have e2 : (rune1 s).2 = n := by rw [he]
      have E1 := Lib.hid e1; have E2 := Lib.hid e2; have C := Lib.hid c; clear he e1 e2 c
      subst h1
      have hd : decide ((n : Int) < 3) = false := decide_eq_false (by omega)
      go_enter Tryz.func156, Tryz.ntmps156
      go_wp2_with fail
      refine C.out.mono ?_
      rintro e w1 ⟨rfl, q1⟩
      go_wp2_with fail
      go_ret2
      exact ⟨ret_num2 E1.out.symm (by rw [E2.out]), q1⟩
  · rw [if_neg (fun h => h1 h.1)] at he
    have e1 : (rune1 s).1 = r := by rw [he]
    have e2 : (rune1 s).2 = n := by rw [he]
    have E1 := Lib.hid e1; have E2 := Lib.hid e2; have C := Lib.hid c; clear he e1 e2 c
    have hb0 : ((r : Int) == 65533) = false := by simp; omega
    go_enter Tryz.func156, Tryz.ntmps156
    go_wp2_with fail
    refine C.out.mono ?_
    rintro e w1 ⟨rfl, q1⟩
    go_wp2_with fail
    go_ret2
    exact ⟨ret_num2 E1.out.symm (by rw [E2.out]), q1⟩

set_option maxHeartbeats 1000000 in
theorem runeOf_any (r : Int) (w : World) (h1 : -9223372036854775808 ≤ r) (h2 : r ≤ 9223372036854775807) :
    Calls Tryz.prog 114 #[.int .i64 r] w fun e w' => e = .returned (.int .i32 (runeOfL r)) ∧ w = w' := by
  by_cases hn : r < 0
  · have he : runeOfL r = 65533 := by unfold runeOfL; rw [if_pos (.inl hn)]
    have HE := Lib.hid he; clear he
    go_enter Tryz.func114, Tryz.ntmps114
    go_wp2_with fail
    go_ret
    exact ⟨ret_int HE.out.symm, rfl⟩
  · by_cases hx : 1114111 < r
    · have he : runeOfL r = 65533 := by unfold runeOfL; rw [if_pos (.inr (.inl hx))]
      have HE := Lib.hid he; clear he
      go_enter Tryz.func114, Tryz.ntmps114
      go_wp2_with fail
      go_ret
      exact ⟨ret_int HE.out.symm, rfl⟩
    · have c := Tryz.utf8_ValidRune r w
      cases hv : Lib.validRune r with
      | false =>
        have he : runeOfL r = 65533 := by unfold runeOfL; rw [if_pos (.inr (.inr hv))]
        rw [hv] at c
        have HE := Lib.hid he; have C := Lib.hid c; clear he c hv
        go_enter Tryz.func114, Tryz.ntmps114
        go_wp2_with fail
        refine C.out.mono ?_
        rintro e w1 ⟨rfl, rfl⟩
        go_wp2_with fail
        go_ret
        exact ⟨ret_int HE.out.symm, rfl⟩
      | true =>
        have he : runeOfL r = r := by unfold runeOfL; rw [if_neg (by rw [hv]; simp; omega)]
        rw [hv] at c
        have HE := Lib.hid he; have C := Lib.hid c; clear he c hv
        go_enter Tryz.func114, Tryz.ntmps114
        go_wp2_with fail
        refine C.out.mono ?_
        rintro e w1 ⟨rfl, rfl⟩
        go_wp2_with fail
        go_ret
        exact ⟨ret_int HE.out.symm, rfl⟩

def RuneP (B b : Nat) (r : Option Nat) (l : Bytes) (w : World) (e : Ending) (w' : World) : Prop :=
  (∃ n, e = .returned (.tuple #[.int .i64 n, .nilIface])) ∧ Step2 w w' b r ∧ ∃ r', Bld w' B b r' l
set_option maxRecDepth 100000 in
set_option maxHeartbeats 2000000 in
theorem WriteRune_any (B b : Nat) (r : Option Nat) (l : Bytes) (x : Int) (w : World) (h : Bld w B b r l) (hx0 : -2147483648 ≤ x) (hx1 : x ≤ 2147483647) (hlen : l.length + 4 ≤ 140737488355328) (hB : B ≤ w.heap.size) :
    Calls Tryz.prog 113 #[.pointer (some ⟨b, 0, none⟩), .int .i32 x] w (RuneP B b r (l ++ Lib.encodeRune x) w) := by
  have hBb := h.1
  have hlt0 := h.lt
  have hr5 : r ≠ some b := by obtain ⟨_, _, _, _, _, _, _, h5, _⟩ := h; exact h5
  have C := copyCheck_any B b r l w h
  have HC := Lib.hid C; have HN := Lib.hid hr5
  clear C hr5 h
  go_enter Tryz.func113, Tryz.ntmps113
  go_wp2_with fail
  refine HC.out.mono ?_
  rintro e w1 ⟨rfl, hs1, v, hbk, hown, hvr⟩
  have c0 : w1.cell? ⟨b, 0, none⟩ = some (.pointer (some ⟨b, 0, none⟩)) := by simp [World.cell?, hbk]
  have c1 : w1.cell? ⟨b, 1, none⟩ = some v := by simp [World.cell?, hbk]
  have hsz1 := hs1.size
  have c2 := Tryz.utf8_AppendRune_row B v l.length (byteVs l) x hx0 hx1 w1 hown hlen (by omega)
  obtain ⟨ao, n', cap, rfl⟩ : ∃ ao n' cap, v = .slice ao n' cap := by
    rcases hown.2 with ⟨hv, _⟩ | ⟨g, cap, cur, fz, hv, _⟩
    · exact ⟨_, _, _, hv⟩
    · exact ⟨_, _, _, hv⟩
  have HS1 := Lib.hid hs1; have HVR := Lib.hid hvr; have HBK := Lib.hid hbk; have C2 := Lib.hid c2; have HOWN := Lib.hid hown
  clear hs1 hvr hbk c2 hown
  go_wp2_with fail
  refine C2.out.mono ?_
  rintro e w2 ⟨v', rfl, hown', o, hgrow⟩
  have hg1 : w1.grownBy w2 (Value.slice ao n' cap).ownBlock := ⟨hgrow.os, hgrow.tape, hgrow.output, by have := hgrow.size; simp at this; omega, fun k hk hne => (hgrow.block k (by simp; omega) hne).trans (Below.heap_alloc _ _ _ hk)⟩
  have hb1lt : b < w1.heap.size := by omega
  have hvb : (Value.slice ao n' cap).ownBlock ≠ some b := by rw [HVR.out]; exact HN.out
  have hb2 : w2.heap[b]? = some (.cells #[.pointer (some ⟨b, 0, none⟩), .slice ao n' cap] 190 (0, 0)) := by
    rw [hg1.block b hb1lt (fun e => hvb e.symm)]; exact HBK.out
  have d1 : w2.cell? ⟨b, 1, none⟩ = some (.slice ao n' cap) := by simp [World.cell?, hb2]
  have f1 : w2.frozen? ⟨b, 1, none⟩ = false := by simp [World.frozen?, hb2]
  have hv' : v'.ownBlock ≠ some b := by
    rcases hown'.2 with ⟨hv, _⟩ | ⟨g, cp, cur, fz, hv, _, hg, _⟩
    · rw [hv]; simp [Value.ownBlock]
    · rw [hv]
      intro e
      simp only [Value.ownBlock, Option.some.injEq] at e
      subst e
      rw [hb2] at hg
      cases hg
  obtain ⟨ao2, n2, cap2, rfl⟩ : ∃ ao n' cap, v' = .slice ao n' cap := by
    rcases hown'.2 with ⟨hv, _⟩ | ⟨g, cap, cur, fz, hv, _⟩
    · exact ⟨_, _, _, hv⟩
    · exact ⟨_, _, _, hv⟩
  have HOW := Lib.hid hown'; have HG := Lib.hid hg1; have HB2 := Lib.hid hb2; have HV := Lib.hid hv'
  clear hown' hgrow hg1 hb2 hv' hvb
  go_wp2_with fail
  go_ret2
  refine ⟨⟨_, rfl⟩, HS1.out.append HG.out HVR.out, _, Bld.put (w1 := w1) (l := l) (r := r) hBb HB2.out ?_ HV.out (fun e => ?_)⟩
  · rw [List.length_append, byteVs_append, ← Lib.runeCells_length]
    have e : byteVs (Lib.encodeRune x) = Lib.runeCells x := Lib.byteCells_encodeRune x
    rw [e]
    exact HOW.out
  · have h1 := (Lib.runeCells_le x).1
    rw [Lib.runeCells_length] at h1
    have := congrArg List.length e
    rw [List.length_append, List.length_nil] at this
    omega
end Go.Proofs.YtcflpcpkmhljkaaGreatDoor
end
