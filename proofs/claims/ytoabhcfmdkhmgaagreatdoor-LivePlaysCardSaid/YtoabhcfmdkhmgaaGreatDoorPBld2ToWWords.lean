/- Joined texts of one proof: Bld2, WKind, WWordsR, WWords. -/
import Derived.Test.YtoabhcfmdkhmgaaGreatDoorPWFoldToWFolded
import Derived.Test.YtoabhcfmdkhmgaaGreatDoorPMem3ToBld
import Derived.Test.YtoabhcfmdkhmgaaGreatDoorProg
import Derived.Test.YtoabhcfmdkhmgaaGreatDoorPKitToSegSpec
import Derived.Test.YtoabhcfmdkhmgaaGreatDoorPTokToWDictR
import Derived.WalkKit
import Derived.WalkSpells
import Derived.WalkLawsBesides
import Derived.Outline
import Derived.Deep.QuietTactic
import Derived.BigQuiet
import Derived.Test.YtoabhcfmdkhmgaaGreatDoorPWUtfToWRunes
import Derived.Shelf.Abstract
import Derived.Shelf.RegionOpen
set_option linter.unusedSimpArgs false
set_option linter.unusedVariables false
set_option linter.unnecessarySimpa false
/- (Bld2) More of builders: Len; rows of other types beside them. -/
section
namespace Go.Proofs.YtoabhcfmdkhmgaaGreatDoor
open Go.RowKit
set_option linter.unusedVariables false

set_option maxHeartbeats 1000000 in
theorem Len_any (B b : Nat) (r : Option Nat) (l : Bytes) (w : World) (h : Bld w B b r l) :
    Calls Tryz.prog 121 #[.pointer (some ⟨b, 0, none⟩)] w fun e w' => e = .returned (.int .i64 l.length) ∧ w = w' := by
  obtain ⟨hB, p, v, hbk, hp, hown, hvr, hne, hnl⟩ := h
  have c1 : w.cell? ⟨b, 1, none⟩ = some v := by simp [World.cell?, hbk]
  obtain ⟨ao, cap, rfl⟩ : ∃ ao cap, v = .slice ao l.length cap := by
    rcases hown.2 with ⟨hv, h0⟩ | ⟨g, cap, cur, fz, hv, _⟩
    · exact ⟨_, _, by rw [hv, h0]⟩
    · exact ⟨_, _, hv⟩
  clear hown hvr hne hnl hp hbk
  go_enter Tryz.func121, Tryz.ntmps121
  go_wp2_with fail
  go_ret
  exact ⟨rfl, rfl⟩
theorem run_appN {P : Program} (W : World) (t ty : TypeId) (base : Nat) (e e' : TypeId) (i : TypeInfo) (z : Value) (size bytes : Nat) (ht : P.underlying t = some (.slice e)) (hi : P.info? e = some i) (hz : i.zero = some z)
    (hsize : i.size = size) (hby : i.bytes = bytes) (hzs : z.cells.size = size) (hsz : 0 < size) (hbz : 0 < bytes)
    (v : Value) (n : Nat) (xs : List Value) (hown : W.ownsRow base e size v n xs)
    (m : Nat) (hm : 0 < m) (news : Array Value) (hl : news.size = m * size) (h1 : ∀ u ∈ news.toList, u.oneCell' = true) (hb : (n + m) * bytes ≤ 140737488355328) (hbase : base ≤ W.heap.size) :
    ∃ g cap w', (Builtin.append_ #[t, t] ty #[v, .slice (some ⟨W.heap.size, 0, none⟩) m m]).run P (W.alloc (.cells news e')) = .ok (.slice (some ⟨g, 0, none⟩) (n + m) cap) w' ∧
      w'.ownsRow base e size (.slice (some ⟨g, 0, none⟩) (n + m) cap) (n + m) (xs ++ news.toList) ∧ W.grownBy w' v.ownBlock ∧ (v.ownBlock = some g ∨ W.heap.size < g) ∧ g < w'.heap.size ∧ W.heap.size < w'.heap.size := by
  have h63 : n + m ≤ maxLen := by
    have := Nat.le_mul_of_pos_right (n + m) hbz
    simp only [maxLen]; omega
  obtain ⟨g, cap, w', hr, h2, h3, h4, h5⟩ := run_append_lies (P := P) (W.alloc (.cells news e')) t ty base e i z size bytes ht hi hz hsize hby hzs hsz v n xs (hown.alloc _) ⟨W.heap.size, 0, none⟩ m m news.toList (by simpa using hl)
    (fun j u hj => by
      rw [add_head]
      simp only [World.cell?, heap_alloc_new]
      simpa using hj) h1 hm h63 hb (by simp; omega) (W.heap.size + 1) (by simp)
  refine ⟨g, cap, w', hr, h2, ⟨h3.os.trans rfl, h3.tape.trans rfl, h3.output.trans rfl, by have := h3.size; simp at this; omega, fun k hk hne => ?_⟩, h4.imp id (fun h => by omega), h5, by have := h3.size; simp at this; omega⟩
  rw [h3.block k (by simp; omega) hne, Below.heap_alloc _ _ _ hk]

theorem wpList_appN {P : Program} (W : World) {ops : Array Oper} {rest : List Oper} {o : Oper} {a : Act} {Q : Exit → Act → World → Prop} (hgd : o.guard = none) (s x : Operand) (t : TypeId)
    (ho : o.op = .call { callee := .builtin .append, args := #[s, x], argTypes := #[t, t] })
    (base : Nat) (e e' : TypeId) (i : TypeInfo) (z : Value) (size bytes : Nat) (ht : P.underlying t = some (.slice e)) (hi : P.info? e = some i) (hz : i.zero = some z)
    (hsize : i.size = size) (hby : i.bytes = bytes) (hzs : z.cells.size = size) (hsz : 0 < size) (hbz : 0 < bytes)
    (v : Value) (n : Nat) (xs : List Value) (hs : a.eval s = v) (hown : W.ownsRow base e size v n xs)
    (m : Nat) (hm : 0 < m) (news : Array Value) (hx : a.eval x = .slice (some ⟨W.heap.size, 0, none⟩) m m) (hl : news.size = m * size) (h1 : ∀ u ∈ news.toList, u.oneCell' = true)
    (hb : (n + m) * bytes ≤ 140737488355328) (hbase : base ≤ W.heap.size)
    (h : ∀ g cap w', w'.ownsRow base e size (.slice (some ⟨g, 0, none⟩) (n + m) cap) (n + m) (xs ++ news.toList) → W.grownBy w' v.ownBlock → (v.ownBlock = some g ∨ W.heap.size < g) → g < w'.heap.size → W.heap.size < w'.heap.size →
      wpList P ops Q rest (a.put o.dst (.slice (some ⟨g, 0, none⟩) (n + m) cap)) w') : wpList P ops Q (o :: rest) a (W.alloc (.cells news e')) := by
  obtain ⟨g, cap, w', hr, h2, h3, h4, h5, h6⟩ := run_appN (P := P) W t o.type base e e' i z size bytes ht hi hz hsize hby hzs hsz hbz v n xs hown m hm news hl h1 hb hbase
  refine wpList_plain hgd fun _ hK => ?_
  unfold Oper.wp execOp
  simp only [ho, resolve, invoke, builtin, Sem.run_bind, Sem.run_pure, Result.andThen_ok, List.map_toArray, List.map_cons, List.map_nil, hs, hx, hr]
  exact hK _ _ (h g cap w' h2 h3 h4 h5 h6)

theorem Bld.not_cells {w : World} {B b : Nat} {r : Option Nat} {l : Bytes} (h : Bld w B b r l) {k : Nat} {cs : Array Value} {t : TypeId} {fz : Nat × Nat} (hk : w.heap[k]? = some (.cells cs t fz)) (h1 : t ≠ 5) (h2 : t ≠ 125) : k ≠ b ∧ some k ≠ r := by
  refine ⟨fun e' => ?_, fun e' => ?_⟩
  · obtain ⟨_, p, v', h3, _⟩ := h
    rw [← e', hk] at h3
    injection h3 with h3
    injection h3 with _ h3 _
    exact h2 h3
  · obtain ⟨cs', fz', hc'⟩ := h.cellsRow k e'.symm
    rw [hk] at hc'
    injection hc' with h3
    injection h3 with _ h3 _
    exact h1 h3
theorem Step2.cells {w w' : World} {B b : Nat} {r : Option Nat} {l : Bytes} (hs : Step2 w w' b r) (h : Bld w B b r l) {k : Nat} {cs : Array Value} {t : TypeId} {fz : Nat × Nat} (hk : w.heap[k]? = some (.cells cs t fz)) (h1 : t ≠ 5) (h2 : t ≠ 125) : w'.heap[k]? = some (.cells cs t fz) := by
  obtain ⟨a, b'⟩ := h.not_cells hk h1 h2
  exact (hs.block k (lt_of_get hk) a b').trans hk
theorem cells2 {w : World} {k : Nat} {x y : Value} {t : TypeId} (h : w.heap[k]? = some (.cells #[x, y] t (0, 0))) : w.cell? ⟨k, 0, none⟩ = some x ∧ w.cell? ⟨k, 1, none⟩ = some y := by
  simp [World.cell?, h]
theorem Bld.not_row {w : World} {B b : Nat} {r : Option Nat} {l : Bytes} (h : Bld w B b r l) {base : Nat} {e : TypeId} {size : Nat} {v : Value} {n : Nat} {xs : List Value} (ho : w.ownsRow base e size v n xs) (h1 : e ≠ 5) (h2 : e ≠ 125) :
    ∀ g, v.ownBlock = some g → g ≠ b ∧ some g ≠ r := by
  intro g hg
  obtain ⟨cs, hc⟩ := owns_kind ho g hg
  refine ⟨fun e' => ?_, fun e' => ?_⟩
  · obtain ⟨_, p, v', h3, _⟩ := h
    rw [← e', hc] at h3
    injection h3 with h3
    injection h3 with _ h3 _
    exact h2 h3
  · obtain ⟨cs', fz, hc'⟩ := h.cellsRow g e'.symm
    rw [hc] at hc'
    injection hc' with h3
    injection h3 with _ h3 _
    exact h1 h3
/-- a builder's step keeps a row of another type -/
theorem Step2.owns {w w' : World} {B b : Nat} {r : Option Nat} {l : Bytes} (hs : Step2 w w' b r) (h : Bld w B b r l) {base : Nat} {e : TypeId} {size : Nat} {v : Value} {n : Nat} {xs : List Value} (ho : w.ownsRow base e size v n xs) (h1 : e ≠ 5) (h2 : e ≠ 125) : w'.ownsRow base e size v n xs := by
  have hn := h.not_row ho h1 h2
  obtain ⟨a1, a2⟩ := ho
  refine ⟨a1, ?_⟩
  rcases a2 with a2 | ⟨g, cap, cur, rfl, hb, hg, rest⟩
  · exact .inl a2
  · obtain ⟨n1, n2⟩ := hn g rfl
    exact .inr ⟨g, cap, cur, rfl, hb, (hs.block g (lt_of_get hg) n1 n2).trans hg, rest⟩
/-- a row of another type turns: the builder stands -/
theorem Bld.grown {w w' : World} {B b : Nat} {r : Option Nat} {l : Bytes} (h : Bld w B b r l) {base : Nat} {e : TypeId} {size : Nat} {v : Value} {n : Nat} {xs : List Value} (ho : w.ownsRow base e size v n xs) (h1 : e ≠ 5) (h2 : e ≠ 125) (hg : w.grownBy w' v.ownBlock) : Bld w' B b r l := by
  have hn := h.not_row ho h1 h2
  exact h.stays (hg.block b h.lt (fun e' => (hn b e'.symm).1 rfl)) (fun k hk => hg.block k (h.row k hk).2 (fun e' => (hn k e'.symm).2 hk.symm)) hg.size
end Go.Proofs.YtoabhcfmdkhmgaaGreatDoor
end

/- (WKind) sort.Search, utf.Kind: walked. -/
section
namespace Go.Proofs.YtoabhcfmdkhmgaaGreatDoor
open Go.RowKit
set_option linter.unusedVariables false

theorem search_false {n : Nat} {p : Nat → Bool} (hm : ∀ a b, a ≤ b → b < n → p a = true → p b = true) {m : Nat} (h : p m = false) (t : Nat) (ht : t ≤ m) (hn : m < n) : p t = false := by
  cases e : p t with
  | false => rfl
  | true => have := hm t m ht hn e; rw [h] at this; cases this
def SearchP (n : Nat) (p : Nat → Bool) (w : World) (e : Ending) (w' : World) : Prop :=
  (∃ i : Nat, e = .returned (.int .i64 i) ∧ i ≤ n ∧ (∀ j, j < i → p j = false) ∧ (∀ j, i ≤ j → j < n → p j = true)) ∧ Q w w'
set_option maxRecDepth 100000 in
set_option maxHeartbeats 2000000 in
theorem Search_any (g : Nat) (cb : Array Value) (n : Nat) (p : Nat → Bool) (w : World) (eg : ∀ args w, (callFunc g args).run Tryz.prog w = .ok (.enter g args) w) (hsz : n < 4611686018427387904)
    (hf : ∀ i, i < n → ∀ W, Q w W → Calls Tryz.prog g (#[.int .i64 i] ++ cb) W fun e W' => e = .returned (.bool (p i)) ∧ Q W W') (hmono : ∀ a b, a ≤ b → b < n → p a = true → p b = true) :
    Calls Tryz.prog 150 #[.int .i64 n, .func (.func g) #[] cb] w (SearchP n p w) := by
  have HF := Lib.hid hf; have M := Lib.hid hmono; clear hf hmono
  go_enter Tryz.func150, Tryz.ntmps150
  go_wp2_with fail
  go_loopw [5, 6] (fun i j wr => ∃ a b : Nat, a ≤ b ∧ b ≤ n ∧ i = .int .i64 a ∧ j = .int .i64 b ∧ Hid ((∀ t, t < a → p t = false) ∧ (∀ t, b ≤ t → t < n → p t = true)) ∧ Hid (Q w wr)) (fun i j _ => (intOf j).toNat - (intOf i).toNat)
  case atStart => exact ⟨0, n, by omega, by omega, rfl, rfl, ⟨fun t h => by omega, fun t h1 h2 => by omega⟩, Q.refl w⟩
  case round =>
    obtain ⟨a, b, hab, hbn, rfl, rfl, HI, HQ⟩ := hrel
    by_cases hlt : a < b
    · have c := HF.out ((a + b) / 2) (by omega) wr HQ.out
      rw [show (((a + b) / 2 : Nat) : Int) = ((a : Int) + (b : Int)) / 2 by omega] at c
      have C := Lib.hid c; clear c
      go_wp2_with fail
      refine C.out.mono ?_
      rintro e w1 ⟨rfl, q1⟩
      have HQ1 := Lib.hid q1; clear q1
      cases hp : p ((a + b) / 2) with
      | false =>
        have HP := Lib.hid hp; clear hp
        go_wp2_with fail
        go_roundw
        case rel => exact ⟨(a + b) / 2 + 1, b, by omega, by omega, by rw [show ((a : Int) + (b : Int)) / 2 + 1 = (((a + b) / 2 + 1 : Nat) : Int) by omega], rfl, ⟨fun t ht => search_false M.out HP.out t (by omega) (by omega), HI.out.2⟩, HQ.out.trans HQ1.out⟩
        case measure => simp [intOf]; omega
      | true =>
        have HP := Lib.hid hp; clear hp
        go_wp2_with fail
        go_roundw
        case rel => exact ⟨a, (a + b) / 2, by omega, by omega, rfl, by rw [show ((a : Int) + (b : Int)) / 2 = (((a + b) / 2 : Nat) : Int) by omega], ⟨HI.out.1, fun t ht htn => M.out ((a + b) / 2) t ht htn HP.out⟩, HQ.out.trans HQ1.out⟩
        case measure => simp [intOf]; omega
    · have hba : b = a := by omega
      subst hba
      go_wp2_with fail
      go_ret
      exact ⟨⟨b, rfl, hbn, HI.out.1, HI.out.2⟩, HQ.out⟩

/-- the table of kinds lies as it was laid -/
def Spans (w : World) : Prop := ∀ (i : Nat) (x : Int × Int × Int), spansL[i]? = some x →
  w.cell? ⟨2, i * 3, none⟩ = some (.int .i32 x.1) ∧ w.cell? ⟨2, i * 3 + 1, none⟩ = some (.int .i32 x.2.1) ∧ w.cell? ⟨2, i * 3 + 2, none⟩ = some (.int .i64 x.2.2)
theorem Spans.stays {w w' : World} (h : Spans w) (hb : Q w w') : Spans w' := fun i x hx => by
  obtain ⟨a, b, c⟩ := h i x hx
  exact ⟨cell_stays hb a, cell_stays hb b, cell_stays hb c⟩
theorem spans_len : spansL.length = 34 := rfl
theorem spans_bounds : ∀ x ∈ spansL, 0 ≤ x.1 ∧ x.1 ≤ x.2.1 ∧ x.2.1 ≤ 1114111 ∧ 0 ≤ x.2.2 ∧ x.2.2 ≤ 3 := by decide
theorem spans_rise : ∀ i : Fin 34, ∀ j : Fin 34, i.val ≤ j.val → (spansL.getD i.val (0, 0, 0)).2.1 ≤ (spansL.getD j.val (0, 0, 0)).2.1 := by decide +kernel
set_option maxHeartbeats 1000000 in
theorem kind1_any (i : Nat) (r : Int) (B : Nat) (w : World) (hi : i < 34) (hc : w.cell? ⟨B, 0, none⟩ = some (.int .i64 r)) (hS : Spans w) :
    Calls Tryz.prog 151 #[.int .i64 i, .pointer (some ⟨B, 0, none⟩)] w fun e w' => e = .returned (.bool (decide (r ≤ (spansL.getD i (0, 0, 0)).2.1))) ∧ Q w w' := by
  obtain ⟨x, hx⟩ : ∃ x, spansL[i]? = some x := ⟨_, List.getElem?_eq_getElem (show i < spansL.length by rw [spans_len]; exact hi)⟩
  have hd : spansL.getD i (0, 0, 0) = x := by rw [List.getD_eq_getElem?_getD, hx]; rfl
  obtain ⟨a, b, c⟩ := hS i x hx
  have hb := spans_bounds x (List.mem_of_getElem? hx)
  rw [hd]
  obtain ⟨lo, h, k⟩ := x
  simp only at a b c hb ⊢
  obtain ⟨g1, g2, g3, g4, g5⟩ := hb
  clear hS hx hd
  have hi2 : (i : Int) < 34 := by omega
  go_enter Tryz.func151, Tryz.ntmps151
  go_wp2_with fail
  go_quiet (fail)
  go_wp2_with fail
  go_ret
  exact ⟨rfl, Q.drewN _ _⟩

theorem find_from {α : Type} (p : α → Bool) (l : List α) (i : Nat) (h : ∀ j x, l[j]? = some x → j < i → p x = false) : l.find? p = (l.drop i).find? p := by
  induction i generalizing l with
  | zero => rfl
  | succ i ih =>
    cases l with
    | nil => rfl
    | cons a l =>
      rw [List.drop_succ_cons, List.find?_cons, h 0 a rfl (by omega)]
      exact ih l (fun j x hj hi => h (j + 1) x (by simpa using hj) (by omega))
theorem kind_at (r : Int) (i : Nat) (x : Int × Int × Int) (hx : spansL[i]? = some x) (h1 : ∀ j, j < i → decide (r ≤ (spansL.getD j (0, 0, 0)).2.1) = false) (h2 : decide (r ≤ (spansL.getD i (0, 0, 0)).2.1) = true) : kindL r = if x.1 ≤ r then x.2.2 else 0 := by
  have hd : ∀ j y, spansL[j]? = some y → spansL.getD j (0, 0, 0) = y := fun j y h => by rw [List.getD_eq_getElem?_getD, h]; rfl
  unfold kindL
  rw [find_from _ spansL i (fun j y hj hi => by have := h1 j hi; rwa [hd j y hj] at this)]
  obtain ⟨hlt, hxe⟩ := List.getElem?_eq_some_iff.1 hx
  rw [hd i x hx] at h2
  rw [List.drop_eq_getElem_cons hlt, hxe, List.find?_cons, h2]
theorem kind_none (r : Int) (h1 : ∀ j, j < 34 → decide (r ≤ (spansL.getD j (0, 0, 0)).2.1) = false) : kindL r = 0 := by
  have hd : ∀ j y, spansL[j]? = some y → spansL.getD j (0, 0, 0) = y := fun j y h => by rw [List.getD_eq_getElem?_getD, h]; rfl
  unfold kindL
  rw [find_from _ spansL 34 (fun j y hj hi => by have := h1 j hi; rwa [hd j y hj] at this)]
  rfl
theorem kindL_bounds (r : Int) : 0 ≤ kindL r ∧ kindL r ≤ 3 := by
  unfold kindL
  split
  · rename_i x hx
    have := spans_bounds x (List.mem_of_find?_eq_some hx)
    split <;> omega
  · omega
set_option maxRecDepth 100000 in
set_option maxHeartbeats 2000000 in
theorem Kind_any (r : Int) (w : World) (h1 : -1 ≤ r) (h2 : r ≤ 1114111) (hS : Spans w) :
    Calls Tryz.prog 140 #[.int .i64 r] w fun e w' => e = .returned (.int .i64 (kindL r)) ∧ Q w w' := by
  have hb : Boxed (w.alloc (.cells #[.int .i64 r] 3)) w.heap.size 3 (.int .i64 r) := Boxed.new _ _ _
  have c := Search_any 151 #[.pointer (some ⟨w.heap.size, 0, none⟩)] 34 (fun i => decide (r ≤ (spansL.getD i (0, 0, 0)).2.1)) (w.alloc (.cells #[.int .i64 r] 3)) (enters_of Tryz.func151 (by kernel_rfl) rfl) (by omega)
    (fun i hi W hq => kind1_any i r w.heap.size W hi (cell_stays hq hb.cell) ((hS.stays (Q.alloc _ _)).stays hq))
    (fun a b hab hb' h => by
      simp only [decide_eq_true_eq] at h ⊢
      have := spans_rise ⟨a, by omega⟩ ⟨b, hb'⟩ hab
      simp only at this
      omega)
  have C := Lib.hid c; have HS := Lib.hid hS; have HB := Lib.hid hb; clear c hS hb
  go_enter Tryz.func140, Tryz.ntmps140
  go_wp2_with fail
  refine C.out.mono ?_
  rintro e w1 ⟨⟨i, rfl, hi, hlo, hhi⟩, q1⟩
  have hc := cell_stays q1 HB.out.cell
  have HQ1 := Lib.hid q1
  by_cases hi34 : i < 34
  · obtain ⟨x, hx⟩ : ∃ x, spansL[i]? = some x := ⟨_, List.getElem?_eq_getElem (show i < spansL.length by rw [spans_len]; exact hi34)⟩
    obtain ⟨ca, cb, cc⟩ := ((HS.out.stays (Q.alloc _ _)).stays q1) i x hx
    have hk := kind_at r i x hx hlo (hhi i (by omega) hi34)
    have hbd := spans_bounds x (List.mem_of_getElem? hx)
    have HK := Lib.hid hk
    clear hlo hhi q1 hx hk
    obtain ⟨lo, h, k⟩ := x
    simp only at ca cb cc hbd HK
    obtain ⟨g1, g2, g3, g4, g5⟩ := hbd
    have hi2 : (i : Int) < 34 := by omega
    by_cases hle : lo ≤ r
    · go_wp2_with fail
      go_quiet (fail)
      go_wp2_with fail
      go_ret
      exact ⟨ret_int (by rw [HK.out, if_pos (by omega)]), ((Q.alloc _ _).trans HQ1.out).trans (Q.drewN _ _)⟩
    · have hd : decide (lo ≤ r) = false := decide_eq_false hle
      go_wp2_with fail
      go_quiet (fail)
      go_wp2_with fail
      go_ret
      exact ⟨ret_int (by rw [HK.out, if_neg (by omega)]), ((Q.alloc _ _).trans HQ1.out).trans (Q.drewN _ _)⟩
  · have hi3 : i = 34 := by omega
    subst hi3
    have hk := kind_none r hlo
    have HK := Lib.hid hk
    clear hlo hhi q1 hk hi34
    go_wp2_with fail
    go_quiet (fail)
    go_wp2_with fail
    go_ret
    exact ⟨ret_int HK.out.symm, ((Q.alloc _ _).trans HQ1.out).trans (Q.drewN _ _)⟩
end Go.Proofs.YtoabhcfmdkhmgaaGreatDoor
end

/- (WWordsR) token.words: the two places where the iterator calls yield. -/
section
namespace Go.Proofs.YtoabhcfmdkhmgaaGreatDoor
open Go.RowKit
set_option linter.unusedVariables false
attribute [local go_sem] Oper.semAt_some

/-- a region of a code, by its number -/
def findRegion (id : Nat) : Code → Option Code
  | .region i ops b => if i = id then some (.region i ops b) else none
  | .seq a b => match findRegion id a with
    | some c => some c
    | none => findRegion id b
  | .block _ c => findRegion id c
  | .scope c => findRegion id c
  | .loop c => findRegion id c
  | .cond _ a b => match findRegion id a with
    | some c => some c
    | none => findRegion id b
  | .rangeFunc _ _ a b => match findRegion id a with
    | some c => some c
    | none => findRegion id b
  | _ => none
noncomputable def wordsYield : Code := ((Tryz.f138.body.bind (findRegion 10)).getD .skip)
noncomputable def wordsLast : Code := ((Tryz.f138.body.bind (findRegion 13)).getD .skip)
set_option maxRecDepth 100000 in
set_option maxHeartbeats 4000000 in
theorem words_yield (s : Bytes) (l l' B Y F f p : Nat) (w : World) (YPost : Bool → World → Prop) (hfp : f < p) (hp : p ≤ s.length) (hs : s.length ≤ 10000000000000)
    (cS : w.cell? ⟨B, 0, none⟩ = some (strV s)) (cY : w.cell? ⟨Y, 0, none⟩ = some (.func (.yield l) #[] #[])) (cF : w.cell? ⟨F, 0, none⟩ = some (.int .i64 (f : Int)))
    {fn : FuncId} {tmps : Array Value} {assign body : Code} (hy : (Instr.yield l #[.string (({ data := s.toArray } : ByteArray).extract f p)]).run Tryz.prog w.drew = .ok (.round l fn tmps assign body) w.drew)
    (HR : Hid (∀ m, RoundIn Fence.wide m Tryz.prog l fn tmps assign body w.drew fun e W' => ∃ b : Bool, e = .returned (.bool b) ∧ YPost b W'))
    (Qx : Exit → Act → World → Prop) (x0 u5 u6 u7 u8 u9 u10 u11 u12 u13 u14 u15 u16 u17 u18 u19 u20 u21 u22 u23 u24 u25 u26 u27 u28 u29 u30 u31 u32 u33 u34 u35 u36 u37 u38 u39 u40 u41 u42 u43 : Value)
    (hQ : ∀ b w4, YPost b w4 → Qx .normal ⟨#[x0, .pointer (some ⟨B, 0, none⟩), .pointer (some ⟨Y, 0, none⟩), .pointer (some ⟨F, 0, none⟩), .int .i64 p, u5, u6, u7, u8, u9, u10, u11, u12, u13, u14, u15, u16, u17, u18, u19, u20, u21, u22, u23, u24, u25, u26, u27, u28, u29, .func (.yield l) #[] #[], strV s, .int .i64 f, .int .i64 p, .string (({ data := s.toArray } : ByteArray).extract f p), .bool b, .bool !b, u37, u38, u39, u40, u41, u42, u43], []⟩ w4) :
    wordsYield.wpIn (Fence.wide.inRound l') 0 Tryz.prog Qx ⟨#[x0, .pointer (some ⟨B, 0, none⟩), .pointer (some ⟨Y, 0, none⟩), .pointer (some ⟨F, 0, none⟩), .int .i64 p, u5, u6, u7, u8, u9, u10, u11, u12, u13, u14, u15, u16, u17, u18, u19, u20, u21, u22, u23, u24, u25, u26, u27, u28, u29, u30, u31, u32, u33, u34, u35, u36, u37, u38, u39, u40, u41, u42, u43], []⟩ w := by
  conv => arg 4; whnf
  have hmx : Tryz.prog.follows .mixedOrders = true := by kernel_rfl
  have HQX := Lib.hid hQ; clear hQ
  gi_region_with_o ((refine ⟨rfl, (round_in _ (HR.out _)).mono ?_⟩; rintro e w4 ⟨b, rfl, hyp⟩))
  all_goals exact HQX.out b w4 hyp
set_option maxRecDepth 100000 in
set_option maxHeartbeats 4000000 in
theorem words_last (s : Bytes) (l B Y F f : Nat) (w : World) (YPost : Bool → World → Prop) (hf : f < s.length) (hs : s.length ≤ 10000000000000)
    (cS : w.cell? ⟨B, 0, none⟩ = some (strV s)) (cY : w.cell? ⟨Y, 0, none⟩ = some (.func (.yield l) #[] #[])) (cF : w.cell? ⟨F, 0, none⟩ = some (.int .i64 (f : Int)))
    {fn : FuncId} {tmps : Array Value} {assign body : Code} (hy : (Instr.yield l #[.string (({ data := s.toArray } : ByteArray).extract f s.length)]).run Tryz.prog w.drew = .ok (.round l fn tmps assign body) w.drew)
    (HR : Hid (∀ m, RoundIn Fence.wide m Tryz.prog l fn tmps assign body w.drew fun e W' => ∃ b : Bool, e = .returned (.bool b) ∧ YPost b W'))
    (ds : List Deferred) (Qx : Exit → Act → World → Prop) (x0 u4 u5 u6 u7 u8 u9 u10 u11 u12 u13 u14 u15 u16 u17 u18 u19 u20 u21 u22 u23 u24 u25 u26 u27 u28 u29 u30 u31 u32 u33 u34 u35 u36 u37 u38 u39 u40 u41 u42 u43 : Value)
    (hQ : ∀ b w4 z39 z40 z41 z42 z43, YPost b w4 → Qx .normal ⟨#[x0, .pointer (some ⟨B, 0, none⟩), .pointer (some ⟨Y, 0, none⟩), .pointer (some ⟨F, 0, none⟩), u4, u5, u6, u7, u8, u9, u10, u11, u12, u13, u14, u15, u16, u17, u18, u19, u20, u21, u22, u23, u24, u25, u26, u27, u28, u29, u30, u31, u32, u33, u34, u35, u36, u37, u38, z39, z40, z41, z42, z43], ds⟩ w4) :
    wordsLast.wpIn Fence.wide 0 Tryz.prog Qx ⟨#[x0, .pointer (some ⟨B, 0, none⟩), .pointer (some ⟨Y, 0, none⟩), .pointer (some ⟨F, 0, none⟩), u4, u5, u6, u7, u8, u9, u10, u11, u12, u13, u14, u15, u16, u17, u18, u19, u20, u21, u22, u23, u24, u25, u26, u27, u28, u29, u30, u31, u32, u33, u34, u35, u36, u37, u38, u39, u40, u41, u42, u43], ds⟩ w := by
  conv => arg 4; whnf
  have hmx : Tryz.prog.follows .mixedOrders = true := by kernel_rfl
  have HQX := Lib.hid hQ; clear hQ
  gi_region_with_o ((refine ⟨rfl, (HR.out _).mono ?_⟩; rintro e w4 ⟨b, rfl, hyp⟩))
  all_goals exact HQX.out b w4 _ _ _ _ _ hyp
end Go.Proofs.YtoabhcfmdkhmgaaGreatDoor
end

/- (WWords) token.words: the iterator over a text's words: its contract. -/
section
namespace Go.Proofs.YtoabhcfmdkhmgaaGreatDoor
open Go.RowKit
set_option linter.unusedVariables false
attribute [local go_sem] Oper.semAt_some

theorem words_any (s : Bytes) (w : World) :
    Calls Tryz.prog 116 #[.string ⟨s.toArray⟩] w fun e w' => e = .returned (.func (.func 138) #[] #[.pointer (some ⟨w.heap.size, 0, none⟩)]) ∧ w.alloc (.cells #[strV s] 9) = w' := by
  go_enter Tryz.func116, Tryz.ntmps116
  go_wp2_with fail
  go_ret
  exact ⟨rfl, rfl⟩

abbrev encStr1 (x : Bytes) : Array Value := #[strV x]
/-- where the word that is under way begins; -1: none is -/
def fromI : Option Nat → Int
  | none => -1
  | some f => f
/-- k runes have come: j words have been told, the next rune stands at p, a word from st on is under way -/
def WordsMid (s : Bytes) (k j p : Nat) (st : Option Nat) : Prop :=
  (wordsL s).drop j = wordsF ((chunks s).drop k) (st.map fun f => (s.drop f).take (p - f)) ∧ (runePlaces s).drop k = runesAt p ((chunks s).drop k) ∧ (chunks s).drop k = chunks (s.drop p) ∧ p ≤ s.length ∧ (∀ f, st = some f → f < p) ∧ j ≤ (wordsL s).length
theorem WordsMid.start (s : Bytes) : WordsMid s 0 0 0 none := ⟨by simp [wordsL], by simp, by simp, by omega, by simp, by omega⟩

theorem take_more (l : Bytes) (a b : Nat) : l.take (a + b) = l.take a ++ (l.drop a).take b := by rw [List.take_add]
/-- the next rune -/
theorem WordsMid.next {s : Bytes} {k j p : Nat} {st : Option Nat} (h : WordsMid s k j p st) (hk : k < (runePlaces s).length) :
    ∃ c n, (runePlaces s)[k]? = some (p, c) ∧ (chunks s).drop k = (c, (s.drop p).take n) :: (chunks s).drop (k + 1) ∧ (runePlaces s).drop (k + 1) = runesAt (p + n) ((chunks s).drop (k + 1)) ∧ (chunks s).drop (k + 1) = chunks (s.drop (p + n)) ∧ 1 ≤ n ∧ p + n ≤ s.length ∧ -1 ≤ c ∧ c ≤ 1114111 := by
  obtain ⟨h1, h2, h3, h4, h5, h6⟩ := h
  have hkc : k < (chunks s).length := by rwa [runesAt_length] at hk
  have hne : s.drop p ≠ [] := by
    intro e
    rw [e, chunks_nil, List.drop_eq_getElem_cons hkc] at h3
    cases h3
  have hsz := rune1_size _ hne
  rw [List.length_drop] at hsz
  have hc := chunks_cons _ hne
  rw [List.drop_drop] at hc
  have e3 : (chunks s).drop (k + 1) = chunks (s.drop (p + (rune1 (s.drop p)).2)) := by
    have : (chunks s).drop (k + 1) = ((chunks s).drop k).drop 1 := by rw [List.drop_drop]
    rw [this, h3, hc]; rfl
  have e1 : (chunks s).drop k = ((rune1 (s.drop p)).1, (s.drop p).take (rune1 (s.drop p)).2) :: (chunks s).drop (k + 1) := by rw [h3, hc, e3]
  have hl : ((s.drop p).take (rune1 (s.drop p)).2).length = (rune1 (s.drop p)).2 := by rw [List.length_take, List.length_drop]; omega
  have hx : (runePlaces s).drop k = (p, (rune1 (s.drop p)).1) :: runesAt (p + (rune1 (s.drop p)).2) ((chunks s).drop (k + 1)) := by rw [h2, e1, runesAt, hl]
  have hxk : (runePlaces s)[k]? = some (p, (rune1 (s.drop p)).1) := by
    have := congrArg (fun l => l[0]?) hx
    simpa [List.getElem?_drop] using this
  obtain ⟨c, hc1, hc2, _, _, hlo, hhi⟩ := chunk_at s k _ hxk
  refine ⟨(rune1 (s.drop p)).1, (rune1 (s.drop p)).2, hxk, e1, ?_, e3, hsz.1, by omega, by simp only at hc2; omega, by simp only at hc2; omega⟩
  have : (runePlaces s).drop (k + 1) = ((runePlaces s).drop k).drop 1 := by rw [List.drop_drop]
  rw [this, hx]; rfl
theorem WordsMid.word_none {s : Bytes} {k j p : Nat} (h : WordsMid s k j p none) {c : Int} {n : Nat} (h1 : (chunks s).drop k = (c, (s.drop p).take n) :: (chunks s).drop (k + 1)) (h2 : (runePlaces s).drop (k + 1) = runesAt (p + n) ((chunks s).drop (k + 1))) (h3 : (chunks s).drop (k + 1) = chunks (s.drop (p + n))) (hn : 1 ≤ n) (hp : p + n ≤ s.length)
    (hw : wordRune c = true) : WordsMid s (k + 1) j (p + n) (some p) := by
  obtain ⟨a1, a2, a3, a4, a5, a6⟩ := h
  refine ⟨?_, h2, h3, hp, fun f e => by cases e; omega, a6⟩
  rw [a1, h1]
  simp only [Option.map_none, Option.map_some, wordsF, hw, if_true]
  rw [show p + n - p = n by omega]
theorem WordsMid.word_some {s : Bytes} {k j p f : Nat} (h : WordsMid s k j p (some f)) {c : Int} {n : Nat} (h1 : (chunks s).drop k = (c, (s.drop p).take n) :: (chunks s).drop (k + 1)) (h2 : (runePlaces s).drop (k + 1) = runesAt (p + n) ((chunks s).drop (k + 1))) (h3 : (chunks s).drop (k + 1) = chunks (s.drop (p + n))) (hn : 1 ≤ n) (hp : p + n ≤ s.length)
    (hw : wordRune c = true) : WordsMid s (k + 1) j (p + n) (some f) := by
  obtain ⟨a1, a2, a3, a4, a5, a6⟩ := h
  have hf := a5 f rfl
  refine ⟨?_, h2, h3, hp, fun g e => by cases e; omega, a6⟩
  rw [a1, h1]
  simp only [Option.map_some, wordsF, hw, if_true]
  have e : (s.drop f).take (p + n - f) = (s.drop f).take (p - f) ++ (s.drop p).take n := by
    rw [show p + n - f = (p - f) + n by omega, take_more, List.drop_drop, show f + (p - f) = p by omega]
  rw [e]
theorem WordsMid.other_none {s : Bytes} {k j p : Nat} (h : WordsMid s k j p none) {c : Int} {n : Nat} (h1 : (chunks s).drop k = (c, (s.drop p).take n) :: (chunks s).drop (k + 1)) (h2 : (runePlaces s).drop (k + 1) = runesAt (p + n) ((chunks s).drop (k + 1))) (h3 : (chunks s).drop (k + 1) = chunks (s.drop (p + n))) (hp : p + n ≤ s.length)
    (hw : wordRune c = false) : WordsMid s (k + 1) j (p + n) none := by
  obtain ⟨a1, a2, a3, a4, a5, a6⟩ := h
  refine ⟨?_, h2, h3, hp, fun f e => (by cases e), a6⟩
  rw [a1, h1]
  simp [wordsF, hw]
theorem WordsMid.other_some {s : Bytes} {k j p f : Nat} (h : WordsMid s k j p (some f)) {c : Int} {n : Nat} (h1 : (chunks s).drop k = (c, (s.drop p).take n) :: (chunks s).drop (k + 1)) (h2 : (runePlaces s).drop (k + 1) = runesAt (p + n) ((chunks s).drop (k + 1))) (h3 : (chunks s).drop (k + 1) = chunks (s.drop (p + n))) (hp : p + n ≤ s.length)
    (hw : wordRune c = false) : ∃ hj : j < (wordsL s).length, (wordsL s)[j] = (s.drop f).take (p - f) ∧ WordsMid s (k + 1) (j + 1) (p + n) none := by
  obtain ⟨a1, a2, a3, a4, a5, a6⟩ := h
  rw [h1] at a1
  simp only [Option.map_some, wordsF, hw, Bool.false_eq_true, if_false] at a1
  have hj : j < (wordsL s).length := by
    rcases Nat.lt_or_ge j (wordsL s).length with h | h
    · exact h
    · rw [List.drop_eq_nil_of_le h] at a1; cases a1
  rw [List.drop_eq_getElem_cons hj] at a1
  injection a1 with b1 b2
  exact ⟨hj, b1, b2, h2, h3, hp, fun f e => (by cases e), by omega⟩
theorem WordsMid.end_none {s : Bytes} {k j p : Nat} (h : WordsMid s k j p none) (hk : k = (runePlaces s).length) : j = (wordsL s).length := by
  obtain ⟨a1, a2, a3, a4, a5, a6⟩ := h
  rw [runesAt_length] at hk
  rw [hk, List.drop_length] at a1
  simp only [Option.map_none, wordsF] at a1
  have := congrArg List.length a1
  rw [List.length_drop, List.length_nil] at this
  omega
theorem WordsMid.end_some {s : Bytes} {k j p f : Nat} (h : WordsMid s k j p (some f)) (hk : k = (runePlaces s).length) : ∃ hj : j < (wordsL s).length, (wordsL s)[j] = s.drop f ∧ j + 1 = (wordsL s).length ∧ f < s.length := by
  obtain ⟨a1, a2, a3, a4, a5, a6⟩ := h
  have hf := a5 f rfl
  rw [runesAt_length] at hk
  rw [hk, List.drop_length] at a3
  have hp : p = s.length := by
    rcases Nat.lt_or_ge p s.length with h | h
    · have hne : s.drop p ≠ [] := fun e => by have := congrArg List.length e; rw [List.length_drop] at this; simp at this; omega
      rw [chunks_cons _ hne] at a3; cases a3
    · omega
  rw [hk, List.drop_length] at a1
  simp only [Option.map_some, wordsF] at a1
  rw [hp, List.take_of_length_le (by rw [List.length_drop]; omega)] at a1
  have hj : j < (wordsL s).length := by
    rcases Nat.lt_or_ge j (wordsL s).length with h | h
    · exact h
    · rw [List.drop_eq_nil_of_le h] at a1; cases a1
  rw [List.drop_eq_getElem_cons hj] at a1
  injection a1 with b1 b2
  refine ⟨hj, b1, ?_, by omega⟩
  have := congrArg List.length b2
  rw [List.length_drop, List.length_nil] at this
  omega

/-- what a call of yield leaves -/
def YP (J Jx : Nat → World → Prop) (j : Nat) (keep : Nat → Prop) (n₀ : Nat) (W1 : World) (b : Bool) (W' : World) : Prop := (b = true → J (j + 1) W' ∧ Bk keep n₀ W1 W') ∧ (b = false → Jx (j + 1) W' ∧ Bk keep n₀ W1 W')
theorem yield_post {J Jx : Nat → World → Prop} {j : Nat} {keep : Nat → Prop} {n₀ : Nat} {W1 : World} (e : Ending) (W' : World) (h : (e = .returned (.bool true) ∧ J (j + 1) W' ∧ Bk keep n₀ W1 W') ∨ (e = .returned (.bool false) ∧ Jx (j + 1) W' ∧ Bk keep n₀ W1 W')) :
    ∃ b : Bool, e = .returned (.bool b) ∧ YP J Jx j keep n₀ W1 b W' := by
  rcases h with ⟨rfl, h1, h2⟩ | ⟨rfl, h1, h2⟩
  · exact ⟨true, rfl, fun _ => ⟨h1, h2⟩, fun h => (by cases h)⟩
  · exact ⟨false, rfl, fun h => (by cases h), fun _ => ⟨h1, h2⟩⟩
def WordsI (s : Bytes) (B n₀ l : Nat) (W : World) (J : Nat → World → Prop) (k : Nat) (W1 : World) : Prop :=
  ∃ j p st, WordsMid s k j p st ∧ J j W1 ∧ Boxed W1 B 9 (strV s) ∧ Boxed W1 W.heap.size 98 (.func (.yield l) #[] #[]) ∧ Boxed W1 (W.heap.size + 1) 3 (.int .i64 (fromI st)) ∧ Boxed W1 (W.heap.size + 2) 9 (strV s) ∧ Below n₀ W W1
set_option maxRecDepth 100000 in
set_option maxHeartbeats 2000000 in
theorem words_seq (s : Bytes) (B n₀ : Nat) (W : World) (hs : s.length ≤ 10000000000000) (hb : Boxed W B 9 (strV s)) (hn : n₀ ≤ W.heap.size) (hTb : ∀ W', Below n₀ W W' → Tabs W' ∧ Spans W') :
    Seq Tryz.prog 138 #[.pointer (some ⟨B, 0, none⟩)] encStr1 (fun k => k = W.heap.size + 1) (fun k => k = B ∨ (W.heap.size ≤ k ∧ k < W.heap.size + 5)) n₀ (wordsL s) W := by
  intro n l J Jx hJ hJx hY h0
  have hBlt := hb.lt
  refine callsIn_wide.2 ((callsIn_wide (n := 0)).1 ?_)
  refine callsIn_of_wp_marks Tryz.func138 rfl trivial ?_ rfl
  simp only [Tryz.ntmps138, List.size_toArray, List.length_cons, List.length_nil, Nat.reduceAdd, Nat.reduceSub, Array.replicate_succ, Array.replicate_zero, List.push_toArray, List.append_toArray, List.nil_append, List.cons_append]
  have hc := hb.cell
  have hca : ((W.alloc (.cells #[.func (.yield l) #[] #[]] 98)).alloc (.cells #[.int .i64 (-1)] 3)).cell? ⟨B, 0, none⟩ = some (strV s) := ((hb.alloc _).alloc _).cell
  have HBX := Lib.hid hb; have HY := Lib.hid hY; have H0 := Lib.hid h0; have HTB := Lib.hid hTb; have HJ := Lib.hid hJ; have HJX := Lib.hid hJx; clear hb hY h0 hTb hJ hJx
  gi_wp2_with fail
  refine ⟨trivial, rfl, (callsIn_wide.2 (Runes_any s _)).mono ?_⟩
  rintro e w1 ⟨rfl, rfl⟩
  gi_wp2_with fail
  clear hca hc
  have hq0 : Q W (((W.alloc (.cells #[.func (.yield l) #[] #[]] 98)).alloc (.cells #[.int .i64 (-1)] 3)).alloc (.cells #[strV s] 9)) := ((Q.alloc W _).trans (Q.alloc _ _)).trans (Q.alloc _ _)
  have hsz : (((W.alloc (.cells #[.func (.yield l) #[] #[]] 98)).alloc (.cells #[.int .i64 (-1)] 3)).alloc (.cells #[strV s] 9)).heap.size = W.heap.size + 3 := by simp
  have b0 : Boxed (((W.alloc (.cells #[.func (.yield l) #[] #[]] 98)).alloc (.cells #[.int .i64 (-1)] 3)).alloc (.cells #[strV s] 9)) W.heap.size 98 (.func (.yield l) #[] #[]) := ((Boxed.new W _ _).alloc _).alloc _
  have b1 : Boxed (((W.alloc (.cells #[.func (.yield l) #[] #[]] 98)).alloc (.cells #[.int .i64 (-1)] 3)).alloc (.cells #[strV s] 9)) (W.heap.size + 1) 3 (.int .i64 (-1)) := by
    have := (Boxed.new (W.alloc (.cells #[.func (.yield l) #[] #[]] 98)) 3 (.int .i64 (-1))).alloc (.cells #[strV s] 9)
    simpa using this
  have b2 : Boxed (((W.alloc (.cells #[.func (.yield l) #[] #[]] 98)).alloc (.cells #[.int .i64 (-1)] 3)).alloc (.cells #[strV s] 9)) (W.heap.size + 2) 9 (strV s) := by
    have := Boxed.new ((W.alloc (.cells #[.func (.yield l) #[] #[]] 98)).alloc (.cells #[.int .i64 (-1)] 3)) 9 (strV s)
    simpa using this
  obtain ⟨W0, hW0⟩ : ∃ W0, ((W.alloc (.cells #[.func (.yield l) #[] #[]] 98)).alloc (.cells #[.int .i64 (-1)] 3)).alloc (.cells #[strV s] 9) = W0 := ⟨_, rfl⟩
  rw [hW0] at hq0 hsz b0 b1 b2 ⊢
  clear hW0
  have HSZ := Lib.hid hsz
  refine wp_range (gf := 148) (lb := #[.pointer (some ⟨W.heap.size + 1 + 1, 0, none⟩)]) rfl (enters_of Tryz.func148 (by kernel_rfl) rfl) (encs := encRune) (own := fun _ => False) (keep := fun k => k = W.heap.size + 2) (n₀ := n₀) (xs := runePlaces s)
    (fun W1 hq hz => Runes_seq s (W.heap.size + 2) n₀ W1 (by omega) (block_stays' hq b2) (by omega) (fun W' hb => (HTB.out W' (((Below.mono hq0 hn).trans (Below.mono hq (by omega))).trans hb)).1))
    (fun _ h => h.elim) (fun k h => by omega) (by omega) (fun _ => rfl)
    (WordsI s B n₀ l W J)
    (fun c _ W1 => c = .ret ∧ ∃ j, j ≤ (wordsL s).length ∧ Jx j W1)
    (fun k a' _ => ∃ (x : Nat × Int), (runePlaces s)[k]? = some x ∧ a' = { tmps := #[.func (.yield l) #[] #[], .pointer (some ⟨B, 0, none⟩), .pointer (some ⟨W.heap.size, 0, none⟩), .pointer (some ⟨W.heap.size + 1, 0, none⟩), .int .i64 x.1, .int .i64 x.2, undef, strV s, .func (.func 148) #[] #[.pointer (some ⟨W.heap.size + 1 + 1, 0, none⟩)], .int .i64 x.1, .int .i64 x.2,
      undef, undef, undef, undef, undef, undef, undef, undef, undef, undef, undef, undef, undef, undef, undef, undef, undef, undef, undef, undef, undef, undef, undef, undef, undef, undef, undef, undef, undef, undef, undef, undef, undef], defers := [] })
    (fun k A C hI hi => by
      obtain ⟨j, p, st, h1, h2, h3, h4, h5, h6, h7⟩ := hI
      exact ⟨j, p, st, h1, HJ.out _ _ _ h2 (hi.mono (fun _ h => h.elim) (by omega)), hi.boxed h3 (fun h => h), hi.boxed h4 (fun h => h), hi.boxed h5 (fun h => h), hi.boxed h6 (fun h => h), hi.below h7 (by omega) (by have := h7.size; omega) (fun _ h => h.elim)⟩)
    (fun c k A C h hi => ⟨h.1, by obtain ⟨j, h1, h2⟩ := h.2; exact ⟨j, h1, HJX.out _ _ _ h2 (hi.mono (fun _ h => h.elim) (by omega))⟩⟩) (fun _ _ _ _ h _ => h)
    ⟨0, 0, none, WordsMid.start s, HJ.out _ _ _ H0.out (Itk.of_q hq0), block_stays' hq0 HBX.out, b0, b1, b2, Below.mono hq0 hn⟩ ?assign ?body ?done ?stop
  case assign =>
    intro l' k hk W' K hi hz hK
    gi_wp2
    exact hK _ _ (Q.refl _) hi ⟨_, List.getElem?_eq_getElem hk, rfl⟩
  case body =>
    rintro l' k hk a' W' ⟨⟨rc, hrc⟩, hdf⟩ hl ⟨j, p, st, h1, h2, h3, h4, h5, h6, h7⟩ ⟨x, hx, rfl⟩ _ hz
    obtain ⟨c, n, hx', e1, e2, e3, hn1, hpn, hlo, hhi⟩ := h1.next hk
    rw [hx] at hx'
    simp only [Option.some.injEq] at hx'
    subst hx'
    subst hl
    simp only
    have hws : wordRune c = (decide (0 ≤ c) && (kindL c == 1 || kindL c == 2)) := rfl
    have hkb := kindL_bounds c
    have ck := Kind_any c W' hlo hhi (HTB.out W' h7).2
    have hnW := h7.size
    have CK := Lib.hid ck; have HWS := Lib.hid hws; have H1 := Lib.hid h1; have H2 := Lib.hid h2; have H3 := Lib.hid h3; have H4 := Lib.hid h4; have H5 := Lib.hid h5; have H6 := Lib.hid h6; have H7 := Lib.hid h7
    have E1 := Lib.hid e1; have E2 := Lib.hid e2; have E3 := Lib.hid e3; have HRC := Lib.hid hrc; have HDF := Lib.hid hdf
    clear ck hws h1 h2 h3 h4 h5 h6 h7 e1 e2 e3 hx hrc hdf hsz hq0 b0 b1 b2
    generalize kindL c = kd at *
    gi_wp2_with fail
    refine ⟨trivial, rfl, (calls_round _ CK.out).mono ?_⟩
    rintro e w3 ⟨rfl, q3⟩
    have k3 := block_stays' q3 H3.out
    have k4 := block_stays' q3 H4.out
    have k5 := block_stays' q3 H5.out
    have k6 := block_stays' q3 H6.out
    have kl := block_stays' q3 HRC.out
    have kd' := block_stays' q3 HDF.out
    have k7 := H7.out.trans (Below.mono q3 (by omega))
    have k2 := HJ.out _ _ _ H2.out (Itk.of_q q3)
    have kk : Bk (fun b => b = W.heap.size + 2 ∨ b = W0.heap.size ∨ b = W0.heap.size + 1) n₀ W' w3 := Bk.of_q q3 (by omega)
    have cS : w3.cell? ⟨B, 0, none⟩ = some (strV s) := Boxed.cell k3
    have cY : w3.cell? ⟨W.heap.size, 0, none⟩ = some (.func (.yield l) #[] #[]) := Boxed.cell k4
    have cF : w3.cell? ⟨W.heap.size + 1, 0, none⟩ = some (.int .i64 (fromI st)) := Boxed.cell k5
    have fF : w3.frozen? ⟨W.heap.size + 1, 0, none⟩ = false := Boxed.frozen k5
    have K3 := Lib.hid k3; have K4 := Lib.hid k4; have K5 := Lib.hid k5; have K6 := Lib.hid k6; have KL := Lib.hid kl; have KD := Lib.hid kd'; have K7 := Lib.hid k7; have K2 := Lib.hid k2; have KK := Lib.hid kk
    clear k3 k4 k5 k6 kl kd' k7 k2 kk q3
    cases hw : wordRune c with
    | true =>
      have hcc : 0 ≤ c ∧ (kd = 1 ∨ kd = 2) := by
        have := HWS.out; rw [hw] at this
        simpa using this.symm
      obtain ⟨hc0, hkd⟩ := hcc
      have HW := Lib.hid hw; clear hw
      cases st with
      | none =>
        rw [show fromI none = -1 from rfl] at cF
        rcases hkd with rfl | rfl
        all_goals
          gi_wp2_with fail
          refine ⟨KK.out.trans (Bk.setCell _ (by show n₀ ≤ W.heap.size + 1; omega) (by show ¬ (W.heap.size + 1 = W.heap.size + 2 ∨ W.heap.size + 1 = W0.heap.size ∨ W.heap.size + 1 = W0.heap.size + 1); have := HSZ.out; omega) _), j, p + n, some p, H1.out.word_none E1.out E2.out E3.out hn1 hpn HW.out, ?_, ?_, ?_, ?_, ?_, ?_⟩
          · exact HJ.out _ _ _ K2.out (Itk.setOwn (own := fun k => k = W.heap.size + 1) w3 (b := W.heap.size + 1) rfl ⟨W.heap.size + 1, 0, none⟩ rfl _)
          · exact Boxed.other K3.out (by omega) _
          · exact Boxed.other K4.out (by omega) _
          · exact Boxed.set _ K5.out
          · exact Boxed.other K6.out (by omega) _
          · exact K7.out.setCell (by show n₀ ≤ W.heap.size + 1; omega) _
      | some f =>
        rw [show fromI (some f) = (f : Int) from rfl] at cF
        rcases hkd with rfl | rfl
        all_goals
          gi_wp2_with fail
          exact ⟨KK.out, j, p + n, some f, H1.out.word_some E1.out E2.out E3.out hn1 hpn HW.out, K2.out, K3.out, K4.out, K5.out, K6.out, K7.out⟩
    | false =>
      have hcc : c < 0 ∨ (0 ≤ c ∧ (kd = 0 ∨ kd = 3)) := by
        have := HWS.out; rw [hw] at this
        simp at this
        omega
      have HW := Lib.hid hw; clear hw
      cases st with
      | none =>
        rw [show fromI none = -1 from rfl] at cF
        rcases hcc with hc0 | ⟨hc0, rfl | rfl⟩
        all_goals
          gi_wp2_with fail
          exact ⟨KK.out, j, p + n, none, H1.out.other_none E1.out E2.out E3.out hpn HW.out, K2.out, K3.out, K4.out, K5.out, K6.out, K7.out⟩
      | some f =>
        rw [show fromI (some f) = (f : Int) from rfl] at cF
        have hfp := H1.out.2.2.2.2.1 f rfl
        obtain ⟨hjl, hwd, hnx⟩ := H1.out.other_some E1.out E2.out E3.out hpn HW.out
        obtain ⟨fn, tmps, assign, body, hy, hR⟩ := HY.out j hjl w3.drew (HJ.out _ _ _ K2.out (Itk.of_q (Q.drew _))) (by
          intro b hb
          have h0 := KL.out
          have := lt_of_get h0
          have h1 := lt_of_get K3.out
          have := HSZ.out
          show b < w3.heap.size
          omega)
        rw [hwd] at hy
        dsimp only [encStr1] at hy
        rw [show strV ((s.drop f).take (p - f)) = .string (({ data := s.toArray } : ByteArray).extract f p) from by rw [bytes_extract]] at hy
        have hR2 := fun m => (hR m).mono yield_post
        have HR := Lib.hid hR2; have HNX := Lib.hid hnx; clear hR hR2 hnx hwd
        rcases hcc with hc0 | ⟨hc0, rfl | rfl⟩
        all_goals
          gi_wp2_with fail
          refine words_yield s l _ B W.heap.size (W.heap.size + 1) f p w3 (YP J Jx j (fun k => k = B ∨ (W.heap.size ≤ k ∧ k < W.heap.size + 5)) n₀ w3.drew) hfp (by omega) hs cS cY cF hy HR _ _ _ _ _ _ _ _ _ _ _ _ _ _ _ _ _ _ _ _ _ _ _ _ _ _ _ _ _ _ _ _ _ _ _ _ _ _ _ _ _ ?_
          intro b w4 hyp
          cases b with
          | true =>
            obtain ⟨hj4, hb4⟩ := hyp.1 rfl
            have m3 : Boxed w4 B 9 (strV s) := (hb4.own B (.inl rfl) (lt_of_get K3.out)).trans K3.out
            have m4 : Boxed w4 W.heap.size 98 (.func (.yield l) #[] #[]) := (hb4.own _ (.inr ⟨by omega, by omega⟩) (lt_of_get K4.out)).trans K4.out
            have m5 : Boxed w4 (W.heap.size + 1) 3 (.int .i64 (fromI (some f))) := (hb4.own _ (.inr ⟨by omega, by omega⟩) (lt_of_get K5.out)).trans K5.out
            have m6 : Boxed w4 (W.heap.size + 2) 9 (strV s) := (hb4.own _ (.inr ⟨by omega, by omega⟩) (lt_of_get K6.out)).trans K6.out
            have m7 := K7.out.drew.trans hb4.below
            have cF4 : w4.cell? ⟨W.heap.size + 1, 0, none⟩ = some (.int .i64 (fromI (some f))) := Boxed.cell m5
            have fF4 : w4.frozen? ⟨W.heap.size + 1, 0, none⟩ = false := Boxed.frozen m5
            have mk : Bk (fun b => b = W.heap.size + 2 ∨ b = W0.heap.size ∨ b = W0.heap.size + 1) n₀ W' w4 := (KK.out.trans (Bk.of_q (Q.drew _) (by have := K7.out.size; omega))).trans (hb4.mono (fun b h => by
              have := HSZ.out
              right
              rcases h with rfl | h | h <;> omega) (Nat.le_refl _))
            have hsz4 := m7.size
            have M3 := Lib.hid m3; have M4 := Lib.hid m4; have M5 := Lib.hid m5; have M6 := Lib.hid m6; have M7 := Lib.hid m7; have MK := Lib.hid mk; have MJ := Lib.hid hj4
            clear m3 m4 m5 m6 m7 mk hj4 hb4 hyp
            gi_wp2_with fail
            refine ⟨MK.out.trans (Bk.setCell _ (by show n₀ ≤ W.heap.size + 1; omega) (by show ¬ (W.heap.size + 1 = W.heap.size + 2 ∨ W.heap.size + 1 = W0.heap.size ∨ W.heap.size + 1 = W0.heap.size + 1); have := HSZ.out; omega) _), j + 1, p + n, none, HNX.out, ?_, ?_, ?_, ?_, ?_, ?_⟩
            · exact HJ.out _ _ _ MJ.out (Itk.setOwn (own := fun k => k = W.heap.size + 1) w4 (b := W.heap.size + 1) rfl ⟨W.heap.size + 1, 0, none⟩ rfl _)
            · exact Boxed.other M3.out (by omega) _
            · exact Boxed.other M4.out (by omega) _
            · exact Boxed.set _ M5.out
            · exact Boxed.other M6.out (by omega) _
            · exact M7.out.setCell (by show n₀ ≤ W.heap.size + 1; omega) _
          | false =>
            obtain ⟨hj4, hb4⟩ := hyp.2 rfl
            have mk : Bk (fun b => b = W.heap.size + 2 ∨ b = W0.heap.size ∨ b = W0.heap.size + 1) n₀ W' w4 := (KK.out.trans (Bk.of_q (Q.drew _) (by have := K7.out.size; omega))).trans (hb4.mono (fun b h => by
              have := HSZ.out
              right
              rcases h with rfl | h | h <;> omega) (Nat.le_refl _))
            have HJ4 := Lib.hid hj4; have MK := Lib.hid mk
            clear hj4 hb4 hyp mk
            gi_wp2_with fail
            exact ⟨MK.out, rfl, j + 1, by omega, HJ4.out⟩
  case done =>
    rintro D W' hD hWz ⟨j, p, st, h1, h2, h3, h4, h5, h6, h7⟩ hK
    obtain rfl : D = W.heap.size + 3 := by omega
    have hsz7 := h7.size
    have cS := h3.cell
    have cY := h4.cell
    have cF := h5.cell
    rw [hsz] at hWz
    clear hD hsz b0 b1 b2 hq0
    cases st with
    | none =>
      rw [show fromI none = -1 from rfl] at cF
      have hj := h1.end_none rfl
      have H2 := Lib.hid h2; have HK := Lib.hid hK; have HJE := Lib.hid hj; clear h2 hK hj h1 h3 h4 h5 h6
      gi_wp2_with fail
      refine ⟨by simp, .inl ⟨_, _, rfl, run_takeDeferred HK.out, ?_⟩⟩
      refine ⟨_, results_none rfl _ _ _, ⟨_, rfl⟩, .inl ?_⟩
      rw [← HJE.out]
      exact HJ.out _ _ _ H2.out (Itk.put _ HK.out rfl (by omega))
    | some f =>
      rw [show fromI (some f) = (f : Int) from rfl] at cF
      obtain ⟨hjl, hwd, hje, hfl⟩ := h1.end_some rfl
      obtain ⟨fn, tmps, assign, body, hy, hR⟩ := HY.out j hjl W'.drew (HJ.out _ _ _ h2 (Itk.of_q (Q.drew _))) (by
        intro b hb
        have h0 := lt_of_get hK
        have h1 := lt_of_get h3
        show b < W'.heap.size
        omega)
      rw [hwd] at hy
      dsimp only [encStr1] at hy
      rw [show strV (s.drop f) = .string (({ data := s.toArray } : ByteArray).extract f s.length) from by rw [bytes_drop]] at hy
      have hR2 := fun m => (hR m).mono yield_post
      have HR := Lib.hid hR2; have HK := Lib.hid hK; clear hR hR2 hwd hK h1 h2 h3 h4 h5 h6
      gi_wp2_with fail
      refine words_last s l B W.heap.size (W.heap.size + 1) f W' (YP J Jx j (fun k => k = B ∨ (W.heap.size ≤ k ∧ k < W.heap.size + 5)) n₀ W'.drew) hfl hs cS cY cF hy HR _ _ _ _ _ _ _ _ _ _ _ _ _ _ _ _ _ _ _ _ _ _ _ _ _ _ _ _ _ _ _ _ _ _ _ _ _ _ _ _ _ _ _ ?_
      intro b w4 z39 z40 z41 z42 z43 hyp
      have hb4 : Bk (fun k => k = B ∨ (W.heap.size ≤ k ∧ k < W.heap.size + 5)) n₀ W'.drew w4 := by
        cases b with
        | true => exact (hyp.1 rfl).2
        | false => exact (hyp.2 rfl).2
      have hk4 := (hb4.own (W.heap.size + 3) (.inr ⟨by omega, by omega⟩) (lt_of_get HK.out)).trans HK.out
      have HK4 := Lib.hid hk4; have HYP := Lib.hid hyp; clear hk4 hb4 hyp
      gi_wp2_with fail
      refine ⟨by simp, .inl ⟨_, _, rfl, run_takeDeferred HK4.out, ?_⟩⟩
      refine ⟨_, results_none rfl _ _ _, ⟨_, rfl⟩, ?_⟩
      cases b with
      | true =>
        left
        have := (HYP.out.1 rfl).1
        rw [hje] at this
        exact HJ.out _ _ _ this (Itk.put _ HK4.out rfl (by omega))
      | false =>
        right
        exact ⟨j + 1, by omega, HJX.out _ _ _ (HYP.out.2 rfl).1 (Itk.put _ HK4.out rfl (by omega))⟩
  case stop =>
    rintro D c k W' hD hk ⟨rfl, j, hj, hjx⟩ hK
    have HK := Lib.hid hK; have HX := Lib.hid hjx; clear hK hjx
    gi_wp2_with fail
    refine ⟨by simp, .inl ⟨_, _, rfl, run_takeDeferred HK.out, ?_⟩⟩
    exact ⟨_, results_none rfl _ _ _, ⟨_, rfl⟩, .inr ⟨j, hj, HJX.out _ _ _ HX.out (Itk.put _ HK.out rfl (by omega))⟩⟩
end Go.Proofs.YtoabhcfmdkhmgaaGreatDoor
end
