/- Joined texts of one proof: what is needed of WRDevD, Hlp7, RDevM, WRDevA, WRDevB, WRDevC, WRef2b, WRef2d, WRef4a, WRef3a. -/
import Derived.Test.YtnmijegmbomfdaaGreatDoorJBitA
import Derived.Test.YtnmijegmbomfdaaGreatDoorJWire
import Derived.Test.YtnmijegmbomfdaaGreatDoorJSto2
import Derived.Test.YtnmijegmbomfdaaGreatDoorJMem3
import Derived.Laws.OwnMore
import Derived.Test.YtnmijegmbomfdaaGreatDoorJMapI
import Derived.Test.YtnmijegmbomfdaaGreatDoorJWBlkB
import Derived.BigRegion
import Derived.Test.YtnmijegmbomfdaaGreatDoorJWCacB
import Derived.Deep.RegionHeld3
import Derived.Deep.Cut
set_option linter.unusedSimpArgs false
set_option linter.unusedVariables false
set_option linter.unnecessarySimpa false
set_option maxRecDepth 100000
set_option maxHeartbeats 16000000
namespace Go.Proofs.YtnmijegmbomfdaaGreatDoor
section
open Go.RowKit
theorem RNoughts_any (w : World) : Calls Tryz.prog 84 #[] w fun e w' => e = .returned (strV noughtsL) ∧ Q w w' := by
  obtain ⟨i, hi, hz0, hz1, hz2⟩ := info_parts tinfo5
  have km := run_make (P := Tryz.prog) w 86 5 _ _ Tryz.underlying86 hi hz0 .i64 .i64 256 256 (by omega) (Int.le_refl _) (by rw [hz2]; omega) (by omega)
  have hb := (ByteRow.zeros w (256 : Int).toNat 5).back (P := Tryz.prog) 86 9 5 (256 : Int).toNat Tryz.underlying86 Tryz.underlying5 Tryz.underlying9
  rw [List.length_replicate] at hb
  rw [show List.replicate (256 : Int).toNat (0 : UInt8) = noughtsL from rfl] at hb
  rw [hz1, Nat.mul_one, show (Value.int IntKind.u8 0).cells = #[.int .u8 0] from rfl] at km
  have hq := Q.alloc w (.cells (madeCells #[.int .u8 0] (256 : Int).toNat) 5)
  generalize noughtsL = nl at *
  generalize (256 : Int).toNat = m at *
  generalize w.alloc (.cells (madeCells #[.int .u8 0] m) 5) = w2 at *
  have HQ := Lib.hid hq
  clear hq hz0 hz1 hz2
  go_enter Tryz.func84, Tryz.ntmps84
  go_wp2
  go_ret
  exact ⟨rfl, HQ.out⟩
theorem pickZ_neg (c : Int) (n : Nat) (h : c < 0) (hn : 0 < n) : ((pickZ c n : Nat) : Int) = (-(c + 1)) % (n : Int) := by
  unfold pickZ; rw [if_pos h]
  rw [Int.natCast_emod, Int.toNat_of_nonneg (by omega)]
theorem pickZ_pos (c : Int) (n : Nat) (h : ¬ c < 0) (hn : 0 < n) : ((pickZ c n : Nat) : Int) = c % (n : Int) := by
  unfold pickZ; rw [if_neg h]
  rw [Int.natCast_emod, Int.toNat_of_nonneg (by omega)]
theorem Pick7_any (c : Int) (n : Nat) (w : World) (c0 : -9223372036854775808 ≤ c) (c1 : c ≤ 9223372036854775807) (hn : 0 < n) (hm : n ≤ 1000000) :
    Calls Tryz.prog 13 #[.int .i64 c, .int .i64 (n : Nat)] w fun e w' => e = .returned (.int .i64 (pickZ c n : Nat)) ∧ w = w' := by
  have hlt := pickZ_lt c n hn
  have hz : ¬ (n : Int) = 0 := by omega
  have hz2 : ((n : Int) == 0) = false := by simp; omega
  by_cases h : c < 0
  · have e := pickZ_neg c n h hn
    have r1 : IntKind.i64.wrap (c + 1) = c + 1 := IntWalk.i64_in _ (by omega)
    have r2 : IntKind.i64.wrap (-(c + 1)) = -(c + 1) := IntWalk.i64_in _ (by omega)
    have hb : (-(c + 1)).tmod (n : Int) = (-(c + 1)) % (n : Int) := Int.tmod_eq_emod_of_nonneg (by omega)
    have r3 : IntKind.i64.wrap ((-(c + 1)) % (n : Int)) = (-(c + 1)) % (n : Int) := IntWalk.i64_in _ (by rw [← e]; omega)
    have r4 : IntKind.i64.wrap ((-(c + 1)).tmod (n : Int)) = (-(c + 1)) % (n : Int) := by rw [hb]; exact r3
    rw [e]
    clear e
    go_enter Tryz.func13, Tryz.ntmps13
    go_wp2_with fail
    go_ret
    exact ⟨by first | rfl | simp [r1, r2, r3, r4, hb], rfl⟩
  · have e := pickZ_pos c n h hn
    have hb : c.tmod (n : Int) = c % (n : Int) := Int.tmod_eq_emod_of_nonneg (by omega)
    have r3 : IntKind.i64.wrap (c % (n : Int)) = c % (n : Int) := IntWalk.i64_in _ (by rw [← e]; omega)
    have r4 : IntKind.i64.wrap (c.tmod (n : Int)) = c % (n : Int) := by rw [hb]; exact r3
    rw [e]
    clear e
    go_enter Tryz.func13, Tryz.ntmps13
    go_wp2_with fail
    go_ret
    exact ⟨by first | rfl | simp [r3, r4, hb], rfl⟩
def fillK (c : UInt8) (k : Nat) : Bytes := List.replicate k c ++ List.replicate (256 - k) 0
theorem fillK_len (c : UInt8) (k : Nat) (h : k ≤ 256) : (fillK c k).length = 256 := by simp [fillK]; omega
theorem fillK_step (c : UInt8) (k : Nat) (h : k < 256) : (fillK c k).set k c = fillK c (k + 1) := by
  unfold fillK
  obtain ⟨m, hm⟩ : ∃ m, 256 - k = m + 1 := ⟨256 - k - 1, by omega⟩
  rw [hm, List.replicate_succ, show 256 - (k + 1) = m by omega, List.replicate_succ', List.append_assoc]
  rw [List.set_append_right _ _ (by simp)]
  simp
theorem fillK_all (c : UInt8) : fillK c 256 = fullL c := by unfold fillK fullL; exact List.append_nil _
theorem Full_any (c : UInt8) (w : World) : Calls Tryz.prog 27 #[.int .u8 (c.toNat : Nat)] w fun e w' => e = .returned (strV (fullL c)) ∧ Q w w' := by
  obtain ⟨i, hi, hz0, hz1, hz2⟩ := info_parts tinfo5
  have km := run_make (P := Tryz.prog) w 86 5 _ _ Tryz.underlying86 hi hz0 .i64 .i64 256 256 (by omega) (Int.le_refl _) (by rw [hz2]; omega) (by omega)
  rw [hz1, Nat.mul_one, show (Value.int IntKind.u8 0).cells = #[.int .u8 0] from rfl] at km
  have hr0 : ByteRow (w.alloc (.cells (madeCells #[.int .u8 0] (256 : Int).toNat) 5)) w.heap.size (fillK c 0) := by
    have := ByteRow.zeros w (256 : Int).toNat 5
    exact this
  have hq := Q.alloc w (.cells (madeCells #[.int .u8 0] (256 : Int).toNat) 5)
  generalize hm : (256 : Int).toNat = m at km hr0 hq ⊢
  have hm2 : m = 256 := by rw [← hm]; rfl
  clear hm
  generalize w.alloc (.cells (madeCells #[.int .u8 0] m) 5) = w2 at *
  subst hm2
  have HQ := Lib.hid hq; have HR := Lib.hid hr0
  clear hq hz0 hz1 hz2 hr0
  go_enter Tryz.func27, Tryz.ntmps27
  go_wp2_with fail
  go_loopw [4] (fun x wr => ∃ k : Nat, x = .int .i64 (k : Nat) ∧ k ≤ 256 ∧ Hid (ByteRow wr w.heap.size (fillK c k)) ∧ Hid (Q w wr)) (fun x _ => 256 - (intOf x).toNat)
  case atStart => exact ⟨0, rfl, by omega, HR, HQ⟩
  case round =>
    obtain ⟨k, rfl, hk, HR, HQ⟩ := hrel
    by_cases hlt : k < 256
    · have hki : (k : Int) < 256 := by omega
      have hf := HR.out.frozen k (by rw [fillK_len c k hk]; exact hlt)
      have hc := HR.out.cell k (by rw [fillK_len c k hk]; exact hlt)
      have hst := HR.out.set k (c.toNat : Nat) c rfl
      rw [fillK_step c k hlt] at hst
      have hq2 := Qs.st HQ.out ⟨w.heap.size, k, none⟩ (.int .u8 (c.toNat : Nat)) (Nat.le_refl _)
      have HST := Lib.hid hst; have HQ2 := Lib.hid hq2
      clear hst hq2
      go_wp2_with fail
      go_roundw
      case rel => exact ⟨k + 1, by go_num, by omega, HST, HQ2⟩
      case measure => simp [intOf]; omega
    · have hki : ¬ (k : Int) < 256 := by omega
      obtain rfl : k = 256 := by omega
      have hkc := HR.out.back (P := Tryz.prog) 86 9 5 256 Tryz.underlying86 Tryz.underlying5 Tryz.underlying9
      rw [fillK_len c 256 hk, fillK_all] at hkc
      go_wp2_with fail
      go_ret
      exact ⟨rfl, HQ.out⟩
theorem At7_any (ka : Option Addr) (kn kc : Nat) (a : Act7) (w : World) (ha : a.Wf) :
    Calls Tryz.prog 29 #[actV (.slice ka kn kc) a] w fun e w' => e = .returned (.int .i64 a.at7) ∧ Q w w' := by
  have hp := fun (W : World) => Pick7_any a.at_ 72 W ha.at_.1 ha.at_.2 (by decide) (by decide)
  have hlt := pickZ_lt a.at_ 72 (by decide)
  have HP := Lib.hid hp
  have hq := Q.alloc w (.cells #[.int .i64 a.op, .int .i64 a.at_, .int .i64 a.n, .slice ka kn kc, .int .u8 (a.byte.toNat : Nat)] 25)
  have HQ := Lib.hid hq
  obtain ⟨a0, a1⟩ := ha.at_
  clear hp hq ha
  unfold actV
  by_cases hz : a.at_.tmod 29 = 0
  · have he : a.at7 = a.at_ := by unfold Act7.at7; rw [if_pos hz]
    have hz2 : (a.at_.tmod 29 == 0) = true := by rw [hz]; rfl
    rw [he]
    clear he
    generalize a.at_ = x at *
    go_enter Tryz.func29, Tryz.ntmps29
    go_wp2_with fail
    go_ret
    exact ⟨rfl, HQ.out⟩
  · have he : a.at7 = 60 + ((pickZ a.at_ 72 : Nat) : Int) := by unfold Act7.at7; rw [if_neg hz]
    have hz2 : (a.at_.tmod 29 == 0) = false := by simpa using hz
    rw [he]
    clear he
    generalize pickZ a.at_ 72 = y at *
    generalize a.at_ = x at *
    go_enter Tryz.func29, Tryz.ntmps29
    go_wp2_with fail
    refine (HP.out _).mono ?_
    rintro e w1 ⟨rfl, rfl⟩
    go_wp2_with fail
    go_ret
    exact ⟨rfl, HQ.out⟩
theorem Data7_any (ka : Option Addr) (kn kc : Nat) (a : Act7) (w : World) (ha : a.Wf) :
    Calls Tryz.prog 30 #[actV (.slice ka kn kc) a] w fun e w' => e = .returned (strV a.data) ∧ Q w w' := by
  have hp := fun (W : World) => Full_any a.byte W
  have HP := Lib.hid hp
  have hq := Q.alloc w (.cells #[.int .i64 a.op, .int .i64 a.at_, .int .i64 a.n, .slice ka kn kc, .int .u8 (a.byte.toNat : Nat)] 25)
  have HQ := Lib.hid hq
  obtain ⟨a0, a1⟩ := ha.n
  clear hp hq ha
  unfold actV
  by_cases hz : a.n.tmod 31 = 0
  · have hz2 : (a.n.tmod 31 == 0) = true := by rw [hz]; rfl
    by_cases h0 : a.n = 0
    · have h02 : (a.n == 0) = true := by rw [h0]; rfl
      have he : a.data = fullL a.byte := by unfold Act7.data; rw [if_neg (fun h => h.2 h0)]
      rw [he]
      clear he
      generalize a.n = x at *
      subst h0
      clear hz hz2 h02
      go_enter Tryz.func30, Tryz.ntmps30
      go_wp2_with fail
      go_wp2_with fail
      refine (HP.out _).mono ?_
      rintro e w1 ⟨rfl, q1⟩
      go_wp2_with fail
      go_ret
      exact ⟨rfl, Q.trans (by first | exact HQ.out | exact Qs.dr HQ.out) q1⟩
    · have h02 : (a.n == 0) = false := by simpa using h0
      have he : a.data = [120] := by unfold Act7.data; rw [if_pos ⟨hz, h0⟩]
      rw [he]
      clear he
      generalize a.n = x at *
      go_enter Tryz.func30, Tryz.ntmps30
      go_wp2_with fail
      go_wp2_with fail
      go_ret
      exact ⟨rfl, by first | exact HQ.out | exact Qs.dr HQ.out⟩
  · have hz2 : (a.n.tmod 31 == 0) = false := by simpa using hz
    have he : a.data = fullL a.byte := by unfold Act7.data; rw [if_neg (fun h => hz h.1)]
    rw [he]
    clear he
    generalize a.n = x at *
    go_enter Tryz.func30, Tryz.ntmps30
    go_wp2_with fail
    go_wp2_with fail
    refine (HP.out _).mono ?_
    rintro e w1 ⟨rfl, q1⟩
    go_wp2_with fail
    go_ret
    exact ⟨rfl, Q.trans (by first | exact HQ.out | exact Qs.dr HQ.out) q1⟩
structure RDevG (w : World) (F : Nat → Prop) (b : Nat) (lv pv : Value) (d : DevL) : Prop where
  box : Blk w b 74 #[lv, pv, .int .i64 d.fuse, .bool d.dead]
  fb : F b
  lrow : w.ownsRow 0 9 1 lv d.l.length (d.l.map strV)
  fl : ∀ k, lv.ownBlock = some k → F k
  prow : w.ownsRow 0 88 2 pv d.p.length (wrVs d.p)
  fp : ∀ k, pv.ownBlock = some k → F k
def RDevAt (w : World) (F : Nat → Prop) (b : Nat) (d : DevL) : Prop := ∃ lv pv, RDevG w F b lv pv d
theorem RDevG.mono {w : World} {F G : Nat → Prop} {b : Nat} {lv pv : Value} {d : DevL} (h : RDevG w F b lv pv d) (k : ∀ i, F i → G i) : RDevG w G b lv pv d :=
  ⟨h.box, k _ h.fb, h.lrow, fun i e => k _ (h.fl i e), h.prow, fun i e => k _ (h.fp i e)⟩
theorem RDevAt.mono {w : World} {F G : Nat → Prop} {b : Nat} {d : DevL} (h : RDevAt w F b d) (k : ∀ i, F i → G i) : RDevAt w G b d := by
  obtain ⟨lv, pv, h⟩ := h
  exact ⟨lv, pv, h.mono k⟩
theorem RDevG.beside {w w' : World} {F G : Nat → Prop} {b : Nat} {lv pv : Value} {d : DevL} (h : RDevG w F b lv pv d) (t : Turn G w w') (hd : ∀ k, F k → ¬ G k) : RDevG w' F b lv pv d :=
  ⟨t.blk h.box (hd _ h.fb), h.fb, t.owns h.lrow (fun k e => hd _ (h.fl k e)), h.fl, t.owns h.prow (fun k e => hd _ (h.fp k e)), h.fp⟩
theorem RDevAt.beside {w w' : World} {F G : Nat → Prop} {b : Nat} {d : DevL} (h : RDevAt w F b d) (t : Turn G w w') (hd : ∀ k, F k → ¬ G k) : RDevAt w' F b d := by
  obtain ⟨lv, pv, h⟩ := h
  exact ⟨lv, pv, h.beside t hd⟩
theorem RDevG.keep {w w' : World} {F : Nat → Prop} {b : Nat} {lv pv : Value} {d : DevL} (h : RDevG w F b lv pv d) (q : Q w w') : RDevG w' F b lv pv d :=
  h.beside (Turn.of_q (own := fun _ => False) q) (fun _ _ => id)
theorem RDevAt.keep {w w' : World} {F : Nat → Prop} {b : Nat} {d : DevL} (h : RDevAt w F b d) (q : Q w w') : RDevAt w' F b d :=
  h.beside (Turn.of_q (own := fun _ => False) q) (fun _ _ => id)
theorem RDevG.ne {w : World} {F : Nat → Prop} {b : Nat} {lv pv : Value} {d : DevL} (h : RDevG w F b lv pv d) : (∀ k, lv.ownBlock = some k → k ≠ b) ∧ (∀ k, pv.ownBlock = some k → k ≠ b) :=
  ⟨fun k e => owns_not_blk h.lrow h.box (by decide) k e, fun k e => owns_not_blk h.prow h.box (by decide) k e⟩
theorem RDevG.setBox {w : World} {F : Nat → Prop} {b : Nat} {lv pv : Value} {d : DevL} (h : RDevG w F b lv pv d) (i : Nat) (v : Value) : Turn F w (w.setCell ⟨b, i, none⟩ v) ∧ (w.setCell ⟨b, i, none⟩ v).ownsRow 0 9 1 lv d.l.length (d.l.map strV) ∧
    (w.setCell ⟨b, i, none⟩ v).ownsRow 0 88 2 pv d.p.length (wrVs d.p) ∧ Blk (w.setCell ⟨b, i, none⟩ v) b 74 (#[lv, pv, .int .i64 d.fuse, .bool d.dead].setIfInBounds i v) := by
  have t : Turn (fun k => k = b) w (w.setCell ⟨b, i, none⟩ v) := Turn.setCell (a := ⟨b, i, none⟩) (Turn.refl (fun k => k = b) w) (.inl rfl) v
  exact ⟨(Turn.refl F w).setCell (.inl h.fb) v, t.owns h.lrow (fun k e => h.ne.1 k e), t.owns h.prow (fun k e => h.ne.2 k e), h.box.set i v⟩
theorem RDevG.fuse {w : World} {F : Nat → Prop} {b : Nat} {lv pv : Value} {d : DevL} (h : RDevG w F b lv pv d) (f : Int) : RDevG (w.setCell ⟨b, 2, none⟩ (.int .i64 f)) F b lv pv { d with fuse := f } ∧ Turn F w (w.setCell ⟨b, 2, none⟩ (.int .i64 f)) := by
  obtain ⟨h1, h2, h3, h4⟩ := h.setBox 2 (.int .i64 f)
  exact ⟨⟨h4, h.fb, h2, h.fl, h3, h.fp⟩, h1⟩
theorem RDevG.dead {w : World} {F : Nat → Prop} {b : Nat} {lv pv : Value} {d : DevL} (h : RDevG w F b lv pv d) (x : Bool) : RDevG (w.setCell ⟨b, 3, none⟩ (.bool x)) F b lv pv { d with dead := x } ∧ Turn F w (w.setCell ⟨b, 3, none⟩ (.bool x)) := by
  obtain ⟨h1, h2, h3, h4⟩ := h.setBox 3 (.bool x)
  exact ⟨⟨h4, h.fb, h2, h.fl, h3, h.fp⟩, h1⟩
theorem RDevG.empty {w : World} {F : Nat → Prop} {b : Nat} {lv pv : Value} {d : DevL} (h : RDevG w F b lv pv d) : RDevG (w.setCell ⟨b, 1, none⟩ (.slice none 0 0)) F b lv (.slice none 0 0) { d with p := [] } ∧ Turn F w (w.setCell ⟨b, 1, none⟩ (.slice none 0 0)) := by
  obtain ⟨h1, h2, h3, h4⟩ := h.setBox 1 (.slice none 0 0)
  exact ⟨⟨h4, h.fb, h2, h.fl, ⟨rfl, .inl ⟨rfl, rfl⟩⟩, fun k e => by simp [Value.ownBlock] at e⟩, h1⟩
theorem RDevG.lcells {w : World} {F : Nat → Prop} {b : Nat} {lv pv : Value} {d : DevL} (h : RDevG w F b lv pv d) : ∃ la lc, lv = .slice la d.l.length lc ∧ ∀ m (hm : m < d.l.length), ∃ g2, la = some ⟨g2, 0, none⟩ ∧ w.cell? ⟨g2, m, none⟩ = some (strV d.l[m]) ∧ w.frozen? ⟨g2, m, none⟩ = false := by
  obtain ⟨la, lc, hlv, hla⟩ := owns_value h.lrow
  have hr := h.lrow
  subst hlv
  refine ⟨la, lc, rfl, fun m hm => ?_⟩
  obtain ⟨g2, rfl⟩ := hla (by omega)
  refine ⟨g2, rfl, ?_, hr.frozenAt m⟩
  rw [hr.cellAt m (by omega)]
  simp [hm]
theorem RDevG.pcells {w : World} {F : Nat → Prop} {b : Nat} {lv pv : Value} {d : DevL} (h : RDevG w F b lv pv d) : ∃ pa pc, pv = .slice pa d.p.length pc ∧ ∀ m (hm : m < d.p.length), ∃ g2, pa = some ⟨g2, 0, none⟩ ∧ w.cell? ⟨g2, m * 2, none⟩ = some (.int .i64 (d.p[m].1 : Nat)) ∧ w.cell? ⟨g2, m * 2 + 1, none⟩ = some (strV d.p[m].2) := by
  obtain ⟨pa, pc, hpv, hpa⟩ := owns_value h.prow
  have hr := h.prow
  subst hpv
  refine ⟨pa, pc, rfl, fun m hm => ?_⟩
  obtain ⟨g2, rfl⟩ := hpa (by omega)
  refine ⟨g2, rfl, ?_, ?_⟩
  · rw [hr.cellAt _ (by omega)]; exact (wrVs_at d.p m hm).1
  · rw [hr.cellAt _ (by omega)]; exact (wrVs_at d.p m hm).2
theorem RDevG.lay {w : World} {F : Nat → Prop} {b gl lc : Nat} {pv : Value} {d : DevL} (h : RDevG w F b (.slice (some ⟨gl, 0, none⟩) d.l.length lc) pv d) (i : Nat) (s : Bytes) : RDevG (w.setCell ⟨gl, i, none⟩ (strV s)) F b (.slice (some ⟨gl, 0, none⟩) d.l.length lc) pv { d with l := d.l.set i s } ∧ Turn F w (w.setCell ⟨gl, i, none⟩ (strV s)) := by
  have hF : F gl := h.fl gl rfl
  have hne : b ≠ gl := fun e => h.ne.1 gl rfl e.symm
  have hpn : ∀ k, pv.ownBlock = some k → k ≠ gl := fun k e e2 => by
    subst e2
    obtain ⟨cs, hc⟩ := owns_kind h.prow k e
    obtain ⟨ds, hd⟩ := owns_kind h.lrow k rfl
    rw [hc] at hd
    injection hd with hd
    injection hd with _ hd _
    exact absurd hd (by decide)
  have t : Turn (fun k => k = gl) w (w.setCell ⟨gl, i, none⟩ (strV s)) := Turn.setCell (a := ⟨gl, i, none⟩) (Turn.refl (fun k => k = gl) w) (.inl rfl) _
  have hr := (h.lrow.stored i (strV s)).1
  rw [← List.map_set] at hr
  refine ⟨⟨t.blk h.box hne, h.fb, ?_, h.fl, t.owns h.prow hpn, h.fp⟩, (Turn.refl F w).setCell (a := ⟨gl, i, none⟩) (.inl hF) _⟩
  rw [show ({ d with l := d.l.set i s } : DevL).l.length = d.l.length from List.length_set]
  exact hr
theorem RTurn_any (w : World) (F : Nat → Prop) (b : Nat) (lv pv : Value) (d : DevL) (h : RDevG w F b lv pv d) (hf : -1 ≤ d.fuse) (hf1 : d.fuse ≤ 9223372036854775807) :
    Calls Tryz.prog 160 #[ptrV b] w fun e w' => e = .returned (.bool (!decide (d.fuse = 0))) ∧ RDevG w' F b lv pv d.turn ∧ Turn F w w' ∧ w'.heap.size = w.heap.size := by
  obtain ⟨c0, c1, c2, c3, f0, f1, f2, f3⟩ := h.box.c4
  by_cases h0 : d.fuse = 0
  · have e1 : (d.fuse == 0) = true := beq_iff_eq.2 h0
    have hd : d.turn = { d with dead := true } := by unfold DevL.turn; rw [if_pos h0]
    have hend := h.dead true
    rw [decide_eq_true h0, hd]
    have hsz := setCell_size w ⟨b, 3, none⟩ (.bool true)
    have HE := Lib.hid hend; have HS := Lib.hid hsz
    clear h hend hd hsz
    go_enter Tryz.func160, Tryz.ntmps160
    go_wp2
    go_ret
    exact ⟨rfl, HE.out.1, HE.out.2, HS.out⟩
  · have e1 : (d.fuse == 0) = false := beq_eq_false_iff_ne.2 h0
    by_cases h1 : 0 < d.fuse
    · have hd : d.turn = { d with fuse := d.fuse - 1 } := by unfold DevL.turn; rw [if_neg h0, show max (d.fuse - 1) (-1) = d.fuse - 1 by omega]
      have hend := h.fuse (d.fuse - 1)
      rw [decide_eq_false h0, hd]
      have hsz := setCell_size w ⟨b, 2, none⟩ (.int .i64 (d.fuse - 1))
      have HE := Lib.hid hend; have HS := Lib.hid hsz
      clear h hend hd hsz
      go_enter Tryz.func160, Tryz.ntmps160
      go_wp2
      go_ret
      exact ⟨rfl, HE.out.1, HE.out.2, HS.out⟩
    · have hd : d.turn = d := by
        unfold DevL.turn
        rw [if_neg h0]
        have : max (d.fuse - 1) (-1) = d.fuse := by omega
        rw [this]
      rw [decide_eq_false h0, hd]
      have HE := Lib.hid h
      clear h hd
      go_enter Tryz.func160, Tryz.ntmps160
      go_wp2
      go_ret
      exact ⟨rfl, HE.out, Turn.refl _ _, rfl⟩
theorem chk_live {d : DevL} (h : d.dead = false) (i : Int) : d.chk i = if 0 ≤ i ∧ i < d.l.length then 0 else 2 := by unfold DevL.chk; rw [h]; rfl
theorem read_out {d : DevL} (h : d.dead = false) (i : Int) (hi : ¬ (0 ≤ i ∧ i < d.l.length)) : d.read i = ([], 2) := by
  unfold DevL.read
  rw [chk_live h, if_neg hi, if_neg (by decide)]
theorem read_in {d : DevL} (h : d.dead = false) (i : Nat) (hi : i < d.l.length) : d.read i = (lastP d.p i (d.l.getD i []), 0) := by
  unfold DevL.read
  have hc : d.chk (i : Int) = 0 := by rw [chk_live h, if_pos ⟨by omega, by omega⟩]
  rw [if_pos hc]; rfl
theorem RRead_any (w : World) (F : Nat → Prop) (b : Nat) (d : DevL) (i : Int) (h : RDevAt w F b d) (hm : d.l.length ≤ 4096) (hp : d.dead = false → d.p.length ≤ 1000000) :
    Calls Tryz.prog 128 #[ptrV b, .int .i64 i] w fun e w' => e = .returned (.tuple #[strV (d.read i).1, .int .i64 (d.read i).2]) ∧ Q w w' := by
  obtain ⟨lv, pv, hg⟩ := h
  obtain ⟨c0, c1, c2, c3, _⟩ := hg.box.c4
  obtain ⟨la, lc, rfl, hlc⟩ := hg.lcells
  obtain ⟨pa, pc, rfl, hpc⟩ := hg.pcells
  cases hlive : d.dead with
  | true =>
    have hrd : d.read i = ([], 4) := by unfold DevL.read DevL.chk; rw [if_pos hlive, if_neg (by decide)]
    rw [hrd]
    rw [hlive] at c3
    clear hg hlc hpc hp hrd
    go_enter Tryz.func128, Tryz.ntmps128
    go_wp2_with fail
    go_ret2
    exact ⟨rfl, Q.refl _⟩
  | false =>
    rw [hlive] at c3
    by_cases h0 : i < 0
    · have hrd : d.read i = ([], 2) := read_out hlive _ (by omega)
      rw [hrd]
      have e1 : decide (i < 0) = true := decide_eq_true h0
      clear hg hlc hpc hp hrd
      go_enter Tryz.func128, Tryz.ntmps128
      go_wp2_with fail
      go_ret2
      exact ⟨rfl, Q.refl _⟩
    · obtain ⟨i, rfl⟩ : ∃ n : Nat, i = n := ⟨i.toNat, by omega⟩
      by_cases h1 : i < d.l.length
      · have hrd : d.read i = (lastP d.p i (d.l.getD i []), 0) := read_in hlive i h1
        rw [hrd]
        have hpl := hp hlive
        obtain ⟨g2, rfl, x0, _⟩ := hlc i h1
        have hge : d.l[i] = d.l.getD i [] := by rw [List.getD_eq_getElem?_getD, List.getElem?_eq_getElem h1]; rfl
        rw [hge] at x0
        have e1 : (i : Int) < (d.l.length : Int) := by omega
        clear hlc hg hge
        generalize d.l.getD i [] = s0 at *
        have hcut := lastP_cut d.p i s0
        have hsn : ∀ k (hk : k < d.p.length), lastP (d.p.take (k + 1)) i s0 = if d.p[k].1 = i then d.p[k].2 else lastP (d.p.take k) i s0 := fun k hk => by rw [List.take_succ_eq_append_getElem hk, lastP_snoc]
        generalize hpp : d.p = p at *
        generalize d.l.length = n at *
        have HPC := Lib.hid hpc; have HSN := Lib.hid hsn
        clear hpc hcut hsn hp hrd
        go_enter Tryz.func128, Tryz.ntmps128
        go_wp2_with fail
        go_loop [6, 7] (fun sv v => ∃ k : Nat, v = .int .i64 (k : Nat) ∧ k ≤ p.length ∧ sv = strV (lastP (p.take k) i s0)) (fun _ v => p.length - (intOf v).toNat)
        case atStart => exact ⟨0, rfl, Nat.zero_le _, rfl⟩
        case round =>
          obtain ⟨k, rfl, hk, rfl⟩ := hrel
          by_cases hlt : k < p.length
          · have hki : (k : Int) < (p.length : Int) := by omega
            obtain ⟨g3, rfl, y1, y2⟩ := HPC.out k hlt
            have hsn := HSN.out k hlt
            by_cases hit : p[k].1 = i
            · have hb : (((p[k].1 : Nat) : Int) == (i : Nat)) = true := beq_iff_eq.2 (by omega)
              rw [if_pos hit] at hsn
              have HS := Lib.hid hsn
              clear hsn
              go_wp2_with fail
              exact ⟨⟨k + 1, by go_num, by omega, by rw [HS.out]⟩, by simp [intOf]; omega⟩
            · have hb : (((p[k].1 : Nat) : Int) == (i : Nat)) = false := beq_eq_false_iff_ne.2 (by omega)
              rw [if_neg hit] at hsn
              have HS := Lib.hid hsn
              clear hsn
              go_wp2_with fail
              exact ⟨⟨k + 1, by go_num, by omega, by rw [HS.out]⟩, by simp [intOf]; omega⟩
          · have hki : ¬ (k : Int) < (p.length : Int) := by omega
            obtain rfl : k = p.length := by omega
            rw [List.take_length] at *
            go_wp2_with fail
            go_ret2
            exact ⟨rfl, Q.refl _⟩
      · have hrd : d.read i = ([], 2) := read_out hlive _ (by omega)
        rw [hrd]
        have e1 : decide ((d.l.length : Int) ≤ (i : Int)) = true := decide_eq_true (by omega)
        clear hg hlc hpc hp hrd
        generalize d.l.length = n at *
        go_enter Tryz.func128, Tryz.ntmps128
        go_wp2_with fail
        go_ret2
        exact ⟨rfl, Q.refl _⟩
theorem wrVs_oneD (l : List WrL) : ∀ u ∈ wrVs l, u.oneCell' = true := by
  intro u hu
  obtain ⟨d, _, hd⟩ := List.mem_flatMap.1 hu
  simp [encW] at hd
  rcases hd with rfl | rfl <;> rfl
theorem own_wr0 (W : World) (base : Nat) (hb : base ≤ W.heap.size) : (W.alloc (.cells #[] 88)).ownsRow base 88 2 (.slice (some ⟨W.heap.size, 0, none⟩) 0 0) 0 (wrVs []) := ⟨rfl, .inr ⟨W.heap.size, 0, #[], rfl, hb, heap_alloc_new _ _, Nat.le_refl _, by decide, rfl, rfl⟩⟩
theorem RDevG.pend {w w2 : World} {F : Nat → Prop} {b : Nat} {lv pv : Value} {d : DevL} (h : RDevG w F b lv pv d) (q : Q w w2) (v : Value) (ps : List WrL) (hr : w2.ownsRow w.heap.size 88 2 v ps.length (wrVs ps)) :
    RDevG (w2.setCell ⟨b, 1, none⟩ v) (grow F w (w2.setCell ⟨b, 1, none⟩ v)) b lv v { d with p := ps } ∧ Turn F w (w2.setCell ⟨b, 1, none⟩ v) := by
  have hk := h.keep q
  obtain ⟨h1, h2, h3, h4⟩ := hk.setBox 1 v
  have hb := hk.box
  have t : Turn (fun k => k = b) w2 (w2.setCell ⟨b, 1, none⟩ v) := Turn.setCell (a := ⟨b, 1, none⟩) (Turn.refl (fun k => k = b) w2) (.inl rfl) _
  refine ⟨⟨h4, .inl h.fb, h2, fun k e => .inl (h.fl k e), t.owns (owns_low hr (Nat.zero_le _)) (fun k e => owns_not_blk hr hb (by decide) k e), fun k e => .inr ?_⟩, (Turn.of_q q).trans h1⟩
  have := hr.lt k e
  exact ⟨this.1, by rw [setCell_size]; exact this.2⟩
theorem RWrite_any (w : World) (F : Nat → Prop) (b : Nat) (d : DevL) (i : Int) (s : Bytes) (h : RDevAt w F b d) (hd : d.Ok) (hp : d.dead = false → d.p.length ≤ 1000000) (hs : s.length ≤ 9223372036854775807) :
    Calls Tryz.prog 125 #[ptrV b, .int .i64 i, strV s] w fun e w' => e = .returned (.int .i64 (d.write i s).2) ∧ RDevAt w' (grow F w w') b (d.write i s).1 ∧ Turn F w w' := by
  obtain ⟨lv, pv, hg⟩ := h
  obtain ⟨c0, c1, c2, c3, _⟩ := hg.box.c4
  obtain ⟨la, lc, rfl, hlc⟩ := hg.lcells
  clear hlc
  have hg0 := hg.mono (fun k hk => grow_left (A := w) (B := w) hk)
  have hm := hd.max
  have hfin : ∀ {e : Int}, (d.write i s) = (d, e) → RDevAt w (grow F w w) b (d.write i s).1 := fun he => by rw [he]; exact ⟨_, pv, hg0⟩
  cases hlive : d.dead with
  | true =>
    have hc : d.chk i = 4 := by unfold DevL.chk; rw [if_pos hlive]
    have hw : d.write i s = (d, 4) := by rw [write_err i s (by rw [hc]; decide), hc]
    have hend := hfin hw
    rw [hw] at hend ⊢
    rw [hlive] at c3
    have HE := Lib.hid hend
    clear hend hg hg0 hfin hw hd hp hc
    go_enter Tryz.func125, Tryz.ntmps125
    go_wp2_with fail
    go_ret
    exact ⟨rfl, HE.out, Turn.refl _ _⟩
  | false =>
    rw [hlive] at c3
    by_cases hin : 0 ≤ i ∧ i < d.l.length
    · have hc : d.chk i = 0 := by rw [chk_live hlive, if_pos hin]
      obtain ⟨hi0, hi1⟩ := hin
      have e1 : decide (i < 0) = false := decide_eq_false (by omega)
      have e2 : decide ((d.l.length : Int) ≤ i) = false := decide_eq_false (by omega)
      by_cases h1 : s.length = 256
      · have e3 : (!((s.length : Int) == 256)) = false := by rw [beq_iff_eq.2 (by omega)]; rfl
        have ht := RTurn_any w F b _ pv d hg hd.fuse hd.fuse2
        by_cases h2 : d.fuse = 0
        · have hw : d.write i s = (d.turn, 4) := by unfold DevL.write; rw [if_neg (by rw [hc]; simp), if_neg (by rw [h1]; simp), if_pos h2]
          rw [decide_eq_true h2] at ht
          rw [hw]
          have HT := Lib.hid ht
          clear ht hg hg0 hfin hw hd hp hc
          generalize d.l.length = n at *
          go_enter Tryz.func125, Tryz.ntmps125
          go_wp2_with fail
          refine HT.out.mono ?_
          rintro e w1 ⟨rfl, hg1, t1, hz1⟩
          have HG := Lib.hid hg1; have HTT := Lib.hid t1
          clear hg1 t1
          go_wp2_with fail
          go_ret
          exact ⟨rfl, ⟨_, _, HG.out.mono (fun k hk => grow_left hk)⟩, HTT.out⟩
        · rw [decide_eq_false h2] at ht
          have hw : d.write i s = ({ d.turn with p := d.turn.p ++ [(i.toNat, s)] }, 0) := by unfold DevL.write; rw [if_neg (by rw [hc]; simp), if_neg (by rw [h1]; simp), if_neg h2, (DevL.turn_l d).2]
          have hpl : d.turn.p.length ≤ 1000000 := by rw [(DevL.turn_l d).2]; exact hp hlive
          have hx : [Value.int .i64 i, strV s] = encW (i.toNat, s) := by unfold encW; rw [Int.toNat_of_nonneg hi0]
          rw [hw]
          obtain ⟨i0, hi, hz0, hz1, hz2⟩ := info_parts tinfoWr
          generalize d.turn = d2 at *
          have HT := Lib.hid ht; have HX := Lib.hid hx
          clear hg hg0 hfin hw hd hp hx ht hc
          generalize d.l.length = n at *
          go_enter Tryz.func125, Tryz.ntmps125
          go_wp2_with fail
          refine HT.out.mono ?_
          rintro e w1 ⟨rfl, hg1, t1, hz1'⟩
          obtain ⟨a0, a1, a2, a3, f0, f1, f2, f3⟩ := hg1.box.c4
          have hqa := Q.alloc w1 (.cells #[] 88)
          have hsl := (Sl.of_owns hg1.prow).stays hqa
          have b1 := cellQ hqa a1
          have how := own_wr0 w1 w1.heap.size (Nat.le_refl _)
          have h5 : 0 + d2.p.length ≤ maxLen := by unfold maxLen; omega
          have h6 : (0 + d2.p.length) * 24 ≤ 140737488355328 := by omega
          have HG := Lib.hid hg1; have HTT := Lib.hid t1; have HZ := Lib.hid hz1'; have HSL := Lib.hid hsl; have HOW := Lib.hid how; have H5 := Lib.hid h5; have H6 := Lib.hid h6; have HQA := Lib.hid hqa
          have H1 := Lib.hid (wrVs_oneD d2.p)
          clear hg1 t1 hz1' hsl how h5 h6 hqa
          go_wp2_with (at_builtin; refine wpList_append_sl (w1.alloc (.cells #[] 88)) (by rfl) _ _ 72 (by rfl) w1.heap.size 88 i0 (.agg #[.int .i64 0, strV []]) 2 24 Tryz.underlying72 hi hz0 hz1 hz2 rfl (by decide) _ 0 (wrVs []) (by rfl) HOW.out pv d2.p.length (wrVs d2.p) (by rfl) HSL.out H1.out H5.out H6.out (by simp) ?_)
          intro v' w' hr hgr ho
          have hq' : Q w1 w' := grown_below HQA.out HOW.out hgr (Nat.le_refl _) HQA.out.size
          have hr2 : w'.ownsRow w1.heap.size 88 2 v' d2.p.length (wrVs d2.p) := hr
          have hc1 : ∀ u ∈ #[Value.int .i64 i, strV s].toList, u.oneCell' = true := by intro u hu; simp at hu; rcases hu with rfl | rfl <;> rfl
          have hc2 : (d2.p.length + 1) * 24 ≤ 140737488355328 := by omega
          have HQ' := Lib.hid hq'; have HR2 := Lib.hid hr2; have HC1 := Lib.hid hc1; have HC2 := Lib.hid hc2
          have x0 := cellQ hq' a0; have x1 := cellQ hq' a1; have x2 := cellQ hq' a2; have x3 := cellQ hq' a3
          clear hq' hr2 hc1 hc2 hr hgr ho
          go_wp2_with (at_builtin; refine wpList_app w' (by rfl) _ _ 72 (by rfl) w1.heap.size 88 _ i0 (.agg #[.int .i64 0, strV []]) 2 24 Tryz.underlying72 hi hz0 hz1 hz2 rfl (by decide) (by decide) _ _ _ (by rfl) HR2.out #[.int .i64 i, strV s] (by rfl) rfl HC1.out HC2.out HQ'.out.size ?_)
          intro g2 cap2 w3 hr3 hg3 ho3 hlt3 hlt4
          have hq3 : Q w1 w3 := grown_below HQ'.out HR2.out hg3 (Nat.le_refl _) HQ'.out.size
          have hr4 : w3.ownsRow w1.heap.size 88 2 (.slice (some ⟨g2, 0, none⟩) (d2.p.length + 1) cap2) (d2.p ++ [(i.toNat, s)]).length (wrVs (d2.p ++ [(i.toNat, s)])) := by
            rw [wrVs_append, show (d2.p ++ [(i.toNat, s)]).length = d2.p.length + 1 by simp, show wrVs [(i.toNat, s)] = encW (i.toNat, s) by simp [wrVs], ← HX.out]
            exact hr3
          have hend := HG.out.pend hq3 _ _ hr4
          have y1 := cellQ hq3 a1
          have z1 := (HG.out.keep hq3).box.frozen 1
          have HE := Lib.hid hend
          clear hend hr4 hq3 hr3 hg3 ho3
          go_wp2_with fail
          go_ret
          refine ⟨rfl, ⟨_, _, HE.out.1.mono (fun k hk => ?_)⟩, HTT.out.trans HE.out.2⟩
          rcases hk with hk | hk
          · exact .inl hk
          · exact .inr ⟨by rw [← HZ.out]; exact hk.1, hk.2⟩
      · have e3 : (!((s.length : Int) == 256)) = true := by rw [beq_eq_false_iff_ne.2 (by omega)]; rfl
        have hw : d.write i s = (d, 3) := by unfold DevL.write; rw [if_neg (by rw [hc]; simp), if_pos h1]
        have hend := hfin hw
        rw [hw] at hend ⊢
        have HE := Lib.hid hend
        clear hend hg hg0 hfin hw hd hp hc
        generalize d.l.length = n at *
        go_enter Tryz.func125, Tryz.ntmps125
        go_wp2_with fail
        go_ret
        exact ⟨rfl, HE.out, Turn.refl _ _⟩
    · have hc : d.chk i = 2 := by rw [chk_live hlive, if_neg hin]
      have hw : d.write i s = (d, 2) := by rw [write_err i s (by rw [hc]; decide), hc]
      have hend := hfin hw
      rw [hw] at hend ⊢
      have HE := Lib.hid hend
      clear hend hg hg0 hfin hw hd hp hc
      by_cases h0 : i < 0
      · have e1 : decide (i < 0) = true := decide_eq_true h0
        go_enter Tryz.func125, Tryz.ntmps125
        go_wp2_with fail
        go_ret
        exact ⟨rfl, HE.out, Turn.refl _ _⟩
      · have e1 : decide (i < 0) = false := decide_eq_false h0
        have e2 : decide ((d.l.length : Int) ≤ i) = true := decide_eq_true (by omega)
        generalize d.l.length = n at *
        go_enter Tryz.func125, Tryz.ntmps125
        go_wp2_with fail
        go_ret
        exact ⟨rfl, HE.out, Turn.refl _ _⟩
theorem RFlush_any (w : World) (F : Nat → Prop) (b : Nat) (d : DevL) (h : RDevAt w F b d) (hd : d.Ok) (hp : d.dead = false → d.p.length ≤ 1000000) :
    Calls Tryz.prog 127 #[ptrV b] w fun e w' => e = .returned (.int .i64 d.flush.2) ∧ RDevAt w' F b d.flush.1 ∧ Turn F w w' := by
  obtain ⟨lv, pv, hg⟩ := h
  obtain ⟨c0, c1, c2, c3, _⟩ := hg.box.c4
  cases hlive : d.dead with
  | true =>
    have hw : d.flush = (d, 4) := by unfold DevL.flush; rw [if_pos hlive]
    rw [hw]
    rw [hlive] at c3
    have HG := Lib.hid hg
    clear hg hw hd hp
    go_enter Tryz.func127, Tryz.ntmps127
    go_wp2_with fail
    go_ret
    exact ⟨rfl, ⟨_, _, HG.out⟩, Turn.refl _ _⟩
  | false =>
    rw [hlive] at c3
    have ht := RTurn_any w F b lv pv d hg hd.fuse hd.fuse2
    by_cases h2 : d.fuse = 0
    · have hw : d.flush = (d.turn, 4) := by unfold DevL.flush; rw [if_neg (by rw [hlive]; decide), if_pos h2]
      rw [decide_eq_true h2] at ht
      rw [hw]
      have HT := Lib.hid ht
      clear ht hg hw hd hp
      go_enter Tryz.func127, Tryz.ntmps127
      go_wp2_with fail
      refine HT.out.mono ?_
      rintro e w1 ⟨rfl, hg1, t1, hz1⟩
      have HG := Lib.hid hg1; have HTT := Lib.hid t1
      clear hg1 t1
      go_wp2_with fail
      go_ret
      exact ⟨rfl, ⟨_, _, HG.out⟩, HTT.out⟩
    · rw [decide_eq_false h2] at ht
      have hw : d.flush = ({ d.turn with l := layP d.turn.l d.turn.p, p := [] }, 0) := by unfold DevL.flush; rw [if_neg (by rw [hlive]; decide), if_neg h2, (DevL.turn_l d).1, (DevL.turn_l d).2]
      have hpl : d.turn.p.length ≤ 1000000 := by rw [(DevL.turn_l d).2]; exact hp hlive
      have hdt := DevL.turn_ok hd
      rw [hw]
      generalize d.turn = d2 at *
      have HT := Lib.hid ht
      have hpk : ∀ k (hk : k < d2.p.length), d2.p[k].1 < d2.l.length := fun k hk => (hdt.p _ (List.getElem_mem hk)).1
      have hmax := hdt.max
      have HPK := Lib.hid hpk
      clear ht hg hw hd hp hdt hpk
      go_enter Tryz.func127, Tryz.ntmps127
      go_wp2_with fail
      refine HT.out.mono ?_
      rintro e w1 ⟨rfl, hg1, t1, hz1⟩
      obtain ⟨la, lc, rfl, hlc⟩ := hg1.lcells
      obtain ⟨pa, pc, rfl, hpc⟩ := hg1.pcells
      clear hlc hpc
      have HG := Lib.hid hg1; have HTT := Lib.hid t1
      clear hg1 t1 hz1 c0 c1 c2 c3
      go_wp2_with fail
      go_loopw [4] (fun v wr => ∃ k : Nat, v = .int .i64 (k : Nat) ∧ k ≤ d2.p.length ∧ Hid (RDevG wr F b (.slice la d2.l.length lc) (.slice pa d2.p.length pc) { d2 with l := layP d2.l (d2.p.take k) }) ∧ Hid (Turn F w1 wr)) (fun v _ => d2.p.length - (intOf v).toNat)
      case atStart => exact ⟨0, rfl, Nat.zero_le _, HG.out, Turn.refl _ _⟩
      case round =>
        obtain ⟨k, rfl, hk2, HG2, HT2⟩ := hrel
        obtain ⟨d0, d1, d2', d3, e0, e1, e2, e3⟩ := HG2.out.box.c4
        by_cases hlt : k < d2.p.length
        · have hki : (k : Int) < (d2.p.length : Int) := by omega
          have hki0 : (0 : Int) ≤ (k : Int) := by omega
          have hin := HPK.out k hlt
          have hll : (layP d2.l (d2.p.take k)).length = d2.l.length := layP_length _ _
          obtain ⟨pa', pc', hpv, hcc⟩ := HG2.out.pcells
          obtain ⟨la', lc', hlv, hlc⟩ := HG2.out.lcells
          simp only [Value.slice.injEq] at hpv hlv
          obtain ⟨rfl, hj1, rfl⟩ := hpv
          obtain ⟨rfl, hj2, rfl⟩ := hlv
          clear hj1 hj2
          obtain ⟨g2, rfl, xx1, xx2⟩ := hcc k hlt
          obtain ⟨gl, rfl, yy1, y2⟩ := hlc d2.p[k].1 (by show _ < (layP d2.l (d2.p.take k)).length; omega)
          obtain ⟨old, y1⟩ : ∃ s, wr.cell? ⟨gl, d2.p[k].1, none⟩ = some (strV s) := ⟨_, yy1⟩
          have x1 : wr.cell? ⟨g2, k * 2, none⟩ = some (.int .i64 (d2.p[k].1 : Nat)) := xx1
          have x2 : wr.cell? ⟨g2, k * 2 + 1, none⟩ = some (strV d2.p[k].2) := xx2
          clear yy1 xx1 xx2
          have hini : ((d2.p[k].1 : Nat) : Int) < (d2.l.length : Int) := by omega
          have hini0 : (0 : Int) ≤ ((d2.p[k].1 : Nat) : Int) := by omega
          have hstep := layP_step d2.l d2.p k hlt
          have HST := Lib.hid hstep
          have hg3 := HG2.out
          rw [show d2.l.length = ({ d2 with l := layP d2.l (d2.p.take k) } : DevL).l.length from hll.symm] at hg3
          have hend := fun (W : World) (q : Q wr W) => (hg3.keep q).lay d2.p[k].1 d2.p[k].2
          have HEND := Lib.hid hend
          have z0 : wr.cell? ⟨b, 0, none⟩ = some (.slice (some ⟨gl, 0, none⟩) d2.l.length lc) := HG2.out.box.c4.1
          have z1 : wr.cell? ⟨b, 1, none⟩ = some (.slice (some ⟨g2, 0, none⟩) d2.p.length pc) := HG2.out.box.c4.2.1
          clear hstep hcc hlc hg3 hend d0 d1 d2' d3 e0 e1 e2 e3
          generalize hbk : d2.p[k].1 = bk at *
          generalize hdk : d2.p[k].2 = dk at *
          go_wp2_with fail
          go_region
          all_goals
            go_wp2_with fail
            go_roundw
            case rel =>
              refine ⟨k + 1, by go_num, by omega, ?_, ?_⟩
              · rw [HST.out]
                have h := (HEND.out _ (Q.drew _)).1
                rw [show ({ d2 with l := layP d2.l (d2.p.take k) } : DevL).l.length = d2.l.length from hll] at h
                exact Lib.hid h
              · exact Lib.hid ((HT2.out.q (Q.drew _)).trans (HEND.out _ (Q.drew _)).2)
            case measure => simp [intOf]; omega
        · have hki : ¬ (k : Int) < (d2.p.length : Int) := by omega
          have hkn : k = d2.p.length := by omega
          subst hkn
          have hg3 := HG2.out
          rw [List.take_length] at hg3
          have hend := hg3.empty
          have HE := Lib.hid hend
          clear hend hg3
          go_wp2_with fail
          go_ret
          exact ⟨rfl, ⟨_, _, HE.out.1⟩, HTT.out.trans (HT2.out.trans HE.out.2)⟩
end
section
open Go.RowKit
set_option maxRecDepth 20000 in
theorem RFixed_any (v : Nat) (w : World) (hv : v < 4294967296) :
    Calls Tryz.prog 133 #[.int .u32 v] w fun e w' => e = .returned (strV (fixedL v)) ∧ Q w w' := by
  have k4 := four_back w (v % 256) (v / 256 % 256) (v / 65536 % 256) (v / 16777216) (by omega) (by omega) (by omega) (by omega) (fixedL v) (by unfold fixedL; rw [show v / 16777216 % 256 = v / 16777216 by omega])
  simp only [Int.natCast_emod, Int.natCast_ediv, Int.cast_ofNat_Int] at k4
  generalize fixedL v = r at *
  go_enter Tryz.func133, Tryz.ntmps133
  go_wp2_with fail
  go_ret
  exact ⟨rfl, Q.alloc _ _⟩
theorem crc_take1 (s : Bytes) (j : Nat) (h : j < s.length) : crcRaw (s.take (j + 1)) = crcTurns 8 (crcRaw (s.take j) ^^^ s[j].toNat) := crc_take [] s j h
set_option maxRecDepth 20000 in
theorem RCrc_any (s : Bytes) (w : World) (hs : s.length ≤ 9223372036854775807) :
    Calls Tryz.prog 166 #[strV s] w fun e w' => e = .returned (.int .u32 (crcL s : Nat)) ∧ w = w' := by
  go_enter Tryz.func166, Tryz.ntmps166
  go_wp2_with fail
  go_loop [3, 4, 5] (fun c i _ => ∃ k : Nat, k ≤ s.length ∧ i = .int .i64 k ∧ c = .int .u32 (crcRaw (s.take k) : Nat)) (fun _ i _ => s.length - (intOf i).toNat)
  case atStart => exact ⟨0, by omega, rfl, rfl⟩
  case round =>
    obtain ⟨k, hk, rfl, rfl⟩ := hrel
    have hlt1 := crcRaw_lt (s.take k)
    by_cases hlt : k < s.length
    · have hst := crc_take1 s k hlt
      have hx : (s[k]).toNat < 256 := UInt8.toNat_lt _
      generalize hy : crcRaw (s.take k) = c at *
      have HY := Lib.hid hy; have HST := Lib.hid hst; clear hy hst
      go_wp2_with fail
      have hxl : c ^^^ (s[k]).toNat < 4294967296 := Nat.xor_lt_two_pow (n := 32) hlt1 (by omega)
      go_loop [5, 3] (fun i d => ∃ m : Nat, m ≤ 8 ∧ i = .int .i64 m ∧ d = .int .u32 (crcTurns m (c ^^^ (s[k]).toNat) : Nat)) (fun i _ => 8 - (intOf i).toNat)
      case atStart => exact ⟨0, by omega, rfl, int_eq (by
        rw [show ((({ data := List.toArray s } : ByteArray)[k]).toNat : Int) % 4294967296 = ((s[k]).toNat : Int) from Int.emod_eq_of_lt (by omega) (by show ((s[k]).toNat : Int) < _; omega)]
        exact u32_xor_nat c (s[k]).toNat hlt1 (by omega))⟩
      case round =>
        obtain ⟨m, hm, rfl, rfl⟩ := hrel
        have htl := crcTurns_lt m _ hxl
        by_cases hml : m < 8
        · have hsc : crcTurns (m + 1) (c ^^^ (s[k]).toNat) = crcTurn (crcTurns m (c ^^^ (s[k]).toNat)) := rfl
          generalize crcTurns m (c ^^^ (s[k]).toNat) = d at *
          have HSC := Lib.hid hsc; clear hsc
          by_cases hodd : d % 2 = 1
          · have ht : crcTurn d = (d / 2) ^^^ 3988292384 := by unfold crcTurn; rw [if_pos hodd]
            have hx2 : bits .xor .u32 (((d / 2 : Nat) : Int)) ((3988292384 : Nat) : Int) = ((d / 2 ^^^ 3988292384 : Nat) : Int) := u32_xor_nat (d / 2) 3988292384 (by omega) (by decide)
            have hoi : ((d : Int) % 2 == 1) = true := by simp; omega
            have HT := Lib.hid ht; have HX2 := Lib.hid hx2
            clear ht hx2 hodd
            go_wp2_with fail
            go_round
            case rel => exact ⟨m + 1, by omega, by go_num, int_eq (by rw [HSC.out, HT.out]; exact HX2.out)⟩
            case measure => simp [intOf]; omega
          · have ht : crcTurn d = d / 2 := by unfold crcTurn; rw [if_neg hodd]
            have hoi : ((d : Int) % 2 == 1) = false := by simp; omega
            have HT := Lib.hid ht
            clear ht hodd
            go_wp2_with fail
            go_round
            case rel => exact ⟨m + 1, by omega, by go_num, int_eq (by rw [HSC.out, HT.out]; rfl)⟩
            case measure => simp [intOf]; omega
        · have hm8 : m = 8 := by omega
          subst hm8
          go_wp2_with fail
          go_round
          case rel => exact ⟨k + 1, by omega, by go_num, by rw [HST.out]⟩
          case measure => simp [intOf]; omega
    · have hkk : k = s.length := by omega
      have hx := crcRaw_lt s
      subst hkk
      rw [List.take_length]
      generalize hc : crcRaw s = c at *
      have HCR := Lib.hid hc; clear hc
      go_wp2_with fail
      go_ret
      refine ⟨ret_int ?_, rfl⟩
      show bits BinOp.xor IntKind.u32 (c : Int) ((4294967295 : Nat) : Int) = _
      rw [u32_xor_nat _ _ hx (by decide)]
      unfold crcL
      rw [HCR.out]
end
section
open Go.RowKit
theorem RToFixed_any (s : Bytes) (w : World) (hs : 4 ≤ s.length) (hs2 : s.length ≤ 9223372036854775807) :
    Calls Tryz.prog 161 #[strV s] w fun e w' => e = .returned (.tuple #[.int .u32 (unfix s : Nat), strV (s.drop 4), .bool true]) ∧ Q w w' := by
  have e0 : ¬ (s.length : Int) < 4 := by omega
  have h0 : (0 : Nat) < s.length := by omega
  have h1 : (1 : Nat) < s.length := by omega
  have h2 : (2 : Nat) < s.length := by omega
  have h3 : (3 : Nat) < s.length := by omega
  have i1 : (1 : Int) < (s.length : Int) := by omega
  have i2 : (2 : Int) < (s.length : Int) := by omega
  have i3 : (3 : Int) < (s.length : Int) := by omega
  have i4 : (4 : Int) ≤ (s.length : Int) := by omega
  go_enter Tryz.func161, Tryz.ntmps161
  go_wp2_with fail
  go_quiet (fail)
  simp only [byteF s 0 h0, byteF s 1 h1, byteF s 2 h2, byteF s 3 h3]
  have b0 := byteN_lt s 0; have b1 := byteN_lt s 1; have b2 := byteN_lt s 2; have b3 := byteN_lt s 3
  have hv : ((((byteN s 0 : Nat) : Int) + 256 * (((byteN s 1 : Nat) : Int) % 4294967296) + 65536 * (((byteN s 2 : Nat) : Int) % 4294967296)) % 4294967296 + 16777216 * (((byteN s 3 : Nat) : Int) % 4294967296) % 4294967296) % 4294967296 = ((unfix s : Nat) : Int) := by unfold unfix; omega
  rw [hv]
  go_wp2_with fail
  go_ret3
  exact ⟨by rw [bytes_drop]; rfl, Q.drewN _ _⟩
def longL (s : Bytes) : Nat := unfix (s.drop 4) * 4294967296 + unfix s
theorem RLong_any (s : Bytes) (w : World) (hs : 8 ≤ s.length) (hs2 : s.length ≤ 1000000) :
    Calls Tryz.prog 162 #[strV s] w fun e w' => e = .returned (.int .u64 (longL s : Nat)) ∧ Q w w' := by
  have c1 := fun (W : World) => RToFixed_any s W (by omega) (by omega)
  have c2 := fun (W : World) => RToFixed_any (s.drop 4) W (by rw [List.length_drop]; omega) (by rw [List.length_drop]; omega)
  have i4 : (4 : Int) ≤ (s.length : Int) := by omega
  have hd : ({ data := s.toArray } : ByteArray).extract 4 s.length = ⟨(s.drop 4).toArray⟩ := bytes_drop s 4
  have u1 := unfix_lt s; have u2 := unfix_lt (s.drop 4)
  have hv : ((longL s : Nat) : Int) = (unfix (s.drop 4) : Int) * 4294967296 + (unfix s : Int) := by unfold longL; omega
  rw [hv]
  generalize unfix s = a at *
  generalize unfix (s.drop 4) = b at *
  have C1 := Lib.hid c1; have C2 := Lib.hid c2
  clear c1 c2 hv
  go_enter Tryz.func162, Tryz.ntmps162
  go_wp2_with fail
  refine (C1.out _).mono ?_
  rintro e w1 ⟨rfl, q1⟩
  go_wp2_with fail
  refine (C2.out _).mono ?_
  rintro e w2 ⟨rfl, q2⟩
  have Q2 := Lib.hid (q1.trans q2)
  clear q1 q2
  go_wp2_with fail
  go_ret
  exact ⟨rfl, Q2.out⟩
theorem RFixedW_any (x : Int) (w : World) : Calls Tryz.prog 133 #[.int .u32 (IntKind.u32.wrap x)] w fun e w' => e = .returned (strV (fixedL (x % 4294967296).toNat)) ∧ Q w w' := by
  have h : IntKind.u32.wrap x = ((x % 4294967296).toNat : Nat) := by simp [IntKind.wrap, IntKind.bits, IntKind.signed]; omega
  rw [h]
  exact RFixed_any _ w (by omega)
theorem RText4_any (s : SlotL) (hs : s.Ok) (w : World) :
    Calls Tryz.prog 126 #[.agg #[.int .u64 (s.e : Nat), .int .u64 (s.s : Nat), .int .i64 (s.log : Nat), .int .i64 (s.place : Nat)]] w fun e w' => e = .returned (strV (slotT s)) ∧ Q w w' := by
  have cf := fun (x : Int) (W : World) => RFixedW_any x W
  have hlf : ∀ v, (fixedL v).length = 4 := length_fixedL
  have CF := Lib.hid cf; have HS := Lib.hid hs
  have qa := (Q.alloc w (.cells #[.int .u64 (s.e : Nat), .int .u64 (s.s : Nat), .int .i64 (s.log : Nat), .int .i64 (s.place : Nat)] 131))
  clear cf
  obtain ⟨h1, h2, h3, h4⟩ := hs
  go_enter Tryz.func126, Tryz.ntmps126
  go_upto_region 1 with fail
  obtain ⟨b0, b1, b2, b3, _⟩ := (Blk.new w 131 #[.int .u64 (s.e : Nat), .int .u64 (s.s : Nat), .int .i64 (s.log : Nat), .int .i64 (s.place : Nat)]).c4
  generalize hw1 : w.alloc (.cells #[.int .u64 (s.e : Nat), .int .u64 (s.s : Nat), .int .i64 (s.log : Nat), .int .i64 (s.place : Nat)] 131) = w1 at *
  clear hw1
  have KQ := Lib.hid (Q.refl w1)
  go_region_held3 (fun w' => w'.cell? ⟨w.heap.size, 0, none⟩ = some (.int .u64 (s.e : Nat)) ∧ w'.cell? ⟨w.heap.size, 1, none⟩ = some (.int .u64 (s.s : Nat)) ∧ w'.cell? ⟨w.heap.size, 2, none⟩ = some (.int .i64 (s.log : Nat)) ∧ w'.cell? ⟨w.heap.size, 3, none⟩ = some (.int .i64 (s.place : Nat)))
    (first | exact ⟨b0, b1, b2, b3⟩ | exact ⟨cellQ (by repeat (first | with_reducible exact KQ.out | with_reducible apply Qs.dr | with_reducible apply Qs.al)) b0, cellQ (by repeat (first | with_reducible exact KQ.out | with_reducible apply Qs.dr | with_reducible apply Qs.al)) b1, cellQ (by repeat (first | with_reducible exact KQ.out | with_reducible apply Qs.dr | with_reducible apply Qs.al)) b2, cellQ (by repeat (first | with_reducible exact KQ.out | with_reducible apply Qs.dr | with_reducible apply Qs.al)) b3⟩)
    (first
      | (go_at_call 133; with_reducible refine (CF.out _ _).mono ?_; rintro e w3 ⟨rfl, q3⟩; have s' : Q w1 w3 := Q.trans (by repeat (first | with_reducible exact KQ.out | with_reducible apply Qs.dr | with_reducible apply Qs.al)) q3; clear KQ; have KQ := Lib.hid s'; clear s' q3))
  all_goals
    have hq3 : Q w w3 := qa.trans KQ.out
    have HQ3 := Lib.hid hq3
    have x1 : (((s.e : Int).tmod 4294967296) % 4294967296).toNat = s.e % 4294967296 := by rw [Int.tmod_eq_emod_of_nonneg (by omega)]; omega
    have x2 : ((s.e : Int) / 4294967296 % 4294967296).toNat = s.e / 4294967296 := by omega
    have x3 : (((s.s : Int).tmod 4294967296) % 4294967296).toNat = s.s % 4294967296 := by rw [Int.tmod_eq_emod_of_nonneg (by omega)]; omega
    have x4 : ((s.s : Int) / 4294967296 % 4294967296).toNat = s.s / 4294967296 := by omega
    have x5 : ((s.log : Int) % 4294967296).toNat = s.log := by omega
    have x6 : ((s.place : Int) % 4294967296).toNat = s.place := by omega
    have hmg : (#[67, 68, 88, 83] : Array UInt8) = magicS.toArray := rfl
    simp only [x1, x2, x3, x4, x5, x6, fixedL_mod, hmg, bytes_append]
    have htl : (magicS ++ fixedL s.e ++ fixedL (s.e / 4294967296) ++ fixedL s.s ++ fixedL (s.s / 4294967296) ++ fixedL s.log ++ fixedL s.place).length = 28 := by simp only [List.length_append, length_fixedL]; rfl
    have hend : (magicS ++ fixedL s.e ++ fixedL (s.e / 4294967296) ++ fixedL s.s ++ fixedL (s.s / 4294967296) ++ fixedL s.log ++ fixedL s.place) ++ zerosL 100 = slotH s := by simp only [slotH, List.append_assoc]
    have hshl := slotH_length s
    have hst : slotT s = slotH s ++ slotH s := rfl
    have HSTT := Lib.hid hst
    clear hst
    generalize magicS ++ fixedL s.e ++ fixedL (s.e / 4294967296) ++ fixedL s.s ++ fixedL (s.s / 4294967296) ++ fixedL s.log ++ fixedL s.place = tt at *
    generalize slotH s = sh at *
    obtain ⟨i, hi, hz0, hz1, hz2⟩ := info_parts tinfo5
    have km := run_make (P := Tryz.prog) w3 86 5 _ _ Tryz.underlying86 hi hz0 .i64 .i64 100 100 (by omega) (Int.le_refl _) (by rw [hz2]; omega) (by omega)
    have hb := (ByteRow.zeros w3 (100 : Int).toNat 5).back (P := Tryz.prog) 86 9 5 (100 : Int).toNat Tryz.underlying86 Tryz.underlying5 Tryz.underlying9
    rw [List.length_replicate] at hb
    rw [show List.replicate (100 : Int).toNat (0 : UInt8) = zerosL 100 from rfl] at hb
    rw [hz1, Nat.mul_one, show (Value.int IntKind.u8 0).cells = #[.int .u8 0] from rfl] at km
    have hq := Q.alloc w3 (.cells (madeCells #[.int .u8 0] (100 : Int).toNat) 5)
    have htl2 : (tt.length : Int) = 28 := by omega
    have hzl : (zerosL 100).length = 100 := rfl
    generalize (100 : Int).toNat = mm at *
    generalize w3.alloc (.cells (madeCells #[.int .u8 0] mm) 5) = w4 at *
    generalize zerosL 100 = z at *
    have HQ4 := Lib.hid (hq3.trans hq); have HEND := Lib.hid hend
    clear hq3 hq hz0 hz1 hz2 x1 x2 x3 x4 x5 x6 hmg hend KQ qa
    go_wp2_with fail
    go_ret
    exact ⟨by rw [HSTT.out, ← HEND.out]; simp only [bytes_append]; rfl, HQ4.out⟩
def headG (seq : Nat) (ws : List WrL) (k : Nat) : Bytes := magicT ++ fixedL seq ++ fixedL (seq / 4294967296) ++ fixedL ws.length ++ fixedsL ((ws.take k).map (·.1))
theorem headG_succ (seq : Nat) (ws : List WrL) (k : Nat) (h : k < ws.length) : headG seq ws (k + 1) = headG seq ws k ++ fixedL ws[k].1 := by
  unfold headG
  rw [List.take_succ_eq_append_getElem h, List.map_append]
  simp [fixedsL, List.append_assoc]
theorem headG_len (seq : Nat) (ws : List WrL) (k : Nat) (h : k ≤ ws.length) : (headG seq ws k).length = 16 + 4 * k := by
  unfold headG
  simp only [List.length_append, length_fixedL, fixedsL_length, List.length_map, List.length_take]
  have : magicT.length = 4 := rfl
  omega
theorem headG_end (seq : Nat) (ws : List WrL) : headG seq ws ws.length ++ zerosL (232 - 4 * ws.length) = bodyL seq ws := by
  unfold headG bodyL
  rw [List.take_length]
  simp only [List.append_assoc]
theorem RHead_any (w : World) (seq : Nat) (hs : seq < 18446744073709551616) (lv : Value) (ws : List WrL) (hl : Sl w lv ws.length 2 (wrVs ws)) (hn : ws.length ≤ 48) (hw : ∀ x ∈ ws, x.1 < 4096) :
    Calls Tryz.prog 165 #[.int .u64 (seq : Nat), lv] w fun e w' => e = .returned (strV (bodyL seq ws)) ∧ Q w w' := by
  obtain ⟨la, lc, rfl, hlc⟩ := hl.value
  have hcell : ∀ k (hk : k < ws.length), ∃ lb lo, la = some ⟨lb, lo, none⟩ ∧ w.cell? ⟨lb, lo + k * 2, none⟩ = some (.int .i64 (ws[k].1 : Nat)) ∧ ws[k].1 < 4096 := fun k hk => by
    obtain ⟨lb, lo, h1, h4⟩ := hlc (by omega)
    exact ⟨lb, lo, h1, h4 _ _ (wrVs_at ws k hk).1, hw _ (List.getElem_mem hk)⟩
  have cf := fun (v : Nat) (hv : v < 4294967296) (W : World) => RFixed_any v W hv
  have CF := Lib.hid cf; have HC := Lib.hid hcell
  have f1 : (fixedL (seq % 4294967296)) = fixedL seq := fixedL_mod seq
  have F1 := Lib.hid f1
  clear cf hcell hlc hl f1
  go_enter Tryz.func165, Tryz.ntmps165
  go_wp2_with fail
  rw [show ((seq : Int) % 4294967296) = ((seq % 4294967296 : Nat) : Int) by omega]
  refine (CF.out _ (by omega) _).mono ?_
  rintro e w1 ⟨rfl, q1⟩
  rw [F1.out]
  have l1 := length_fixedL seq; have l2 := length_fixedL (seq / 4294967296); have l3 := length_fixedL ws.length
  have HQ1 := Lib.hid q1
  clear q1
  go_wp2_with fail
  rw [show ((seq : Int) / 4294967296) = ((seq / 4294967296 : Nat) : Int) by omega]
  refine (CF.out _ (by omega) _).mono ?_
  rintro e w2 ⟨rfl, q2⟩
  have HQ2 := Lib.hid (HQ1.out.trans q2)
  clear q2
  go_wp2_with fail
  refine (CF.out _ (by omega) _).mono ?_
  rintro e w3 ⟨rfl, q3⟩
  have HQ3 := Lib.hid (HQ2.out.trans q3)
  clear q3
  go_wp2_with fail
  have hmg : (#[67, 68, 88, 84] : Array UInt8) = magicT.toArray := rfl
  simp only [hmg, bytes_append, List.append_assoc]
  have hg0 : magicT ++ (fixedL seq ++ (fixedL (seq / 4294967296) ++ fixedL ws.length)) = headG seq ws 0 := by unfold headG; simp [fixedsL]
  rw [hg0]
  clear hg0 hmg l1 l2 l3 hs
  go_loopw [5, 6] (fun tv v wr => ∃ k : Nat, v = .int .i64 (k : Nat) ∧ k ≤ ws.length ∧ tv = strV (headG seq ws k) ∧ Hid (Q w wr)) (fun _ v _ => ws.length - (intOf v).toNat)
  case atStart => exact ⟨0, rfl, Nat.zero_le _, rfl, HQ3.out⟩
  case round =>
    obtain ⟨k, rfl, hk, rfl, HQ⟩ := hrel
    have hgl := headG_len seq ws k hk
    by_cases hlt : k < ws.length
    · have hki : (k : Int) < (ws.length : Int) := by omega
      obtain ⟨lb, lo, rfl, x1, hx⟩ := HC.out k hlt
      have y1 := cellQ HQ.out x1
      have hst := headG_succ seq ws k hlt
      have HST := Lib.hid hst
      have l1 := length_fixedL ws[k].1
      clear hst x1
      generalize ws[k].1 = bk at *
      have hgl2 : (headG seq ws k).length ≤ 1000 := by omega
      clear hgl
      generalize headG seq ws k = hg at *
      go_wp2_with fail
      refine (CF.out bk (by omega) _).mono ?_
      rintro e w4 ⟨rfl, q4⟩
      have HQ4 := Lib.hid (HQ.out.trans q4)
      clear q4
      go_wp2_with fail
      go_roundw
      case rel => exact ⟨k + 1, by go_num, by omega, by rw [HST.out]; simp only [bytes_append], HQ4⟩
      case measure => simp [intOf]; omega
    · have hki : ¬ (k : Int) < (ws.length : Int) := by omega
      obtain rfl : k = ws.length := by omega
      have hend := headG_end seq ws
      have hgl3 : ((headG seq ws ws.length).length : Int) = 16 + 4 * (ws.length : Int) := by omega
      obtain ⟨zn, hzn⟩ : ∃ zn, zn = 232 - 4 * ws.length := ⟨_, rfl⟩
      have hzi : (248 : Int) - (16 + 4 * (ws.length : Int)) = (zn : Int) := by omega
      rw [← hzn] at hend
      obtain ⟨i, hi, hz0, hz1, hz2⟩ := info_parts tinfo5
      have km := run_make (P := Tryz.prog) wr 86 5 _ _ Tryz.underlying86 hi hz0 .i64 .i64 (zn : Int) (zn : Int) (by omega) (Int.le_refl _) (by rw [hz2]; omega) (by omega)
      have hb := (ByteRow.zeros wr zn 5).back (P := Tryz.prog) 86 9 5 zn Tryz.underlying86 Tryz.underlying5 Tryz.underlying9
      rw [List.length_replicate] at hb
      rw [show List.replicate zn (0 : UInt8) = zerosL zn from rfl] at hb
      rw [Int.toNat_natCast, hz1, Nat.mul_one, show (Value.int IntKind.u8 0).cells = #[.int .u8 0] from rfl] at km
      have hq := Q.alloc wr (.cells (madeCells #[.int .u8 0] zn) 5)
      have hzl : (zerosL zn).length ≤ 1000 := by rw [zerosL_length]; omega
      have hgl2 : (headG seq ws ws.length).length ≤ 1000 := by omega
      generalize wr.alloc (.cells (madeCells #[.int .u8 0] zn) 5) = w5 at *
      generalize zerosL zn = z at *
      generalize headG seq ws ws.length = hg at *
      have hw248 : IntKind.i64.wrap ((248 : Int) - (hg.length : Int)) = (zn : Int) := by rw [IntWalk.i64_in _ (by omega)]; omega
      have hw249 : (248 : Int) - (hg.length : Int) = (zn : Int) := by omega
      rw [← hw249] at km
      have HEND := Lib.hid hend; have HQ5 := Lib.hid (HQ.out.trans hq)
      clear hend hq hzn hgl hz0 hz1 hz2 hzi hgl3 hw248 hw249
      go_wp2_with fail
      go_ret
      exact ⟨by rw [← HEND.out]; simp only [bytes_append]; rfl, HQ5.out⟩
end
end Go.Proofs.YtnmijegmbomfdaaGreatDoor
