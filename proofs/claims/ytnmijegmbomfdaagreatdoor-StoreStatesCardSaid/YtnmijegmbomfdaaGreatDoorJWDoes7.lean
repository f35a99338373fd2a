/- Joined texts of one proof: what is needed of WDoes7, WRef7b, WRef7c. -/
import Derived.Test.YtnmijegmbomfdaaGreatDoorJWStoM
import Derived.Test.YtnmijegmbomfdaaGreatDoorJWRDevD
import Derived.Test.YtnmijegmbomfdaaGreatDoorJWCacI
import Derived.Test.YtnmijegmbomfdaaGreatDoorJWRef4c
import Derived.Test.YtnmijegmbomfdaaGreatDoorJWRef4f
import Derived.Test.YtnmijegmbomfdaaGreatDoorJWRef4g
import Derived.Test.YtnmijegmbomfdaaGreatDoorJNums
import Derived.Test.YtnmijegmbomfdaaGreatDoorJBitA
set_option linter.unusedSimpArgs false
set_option linter.unusedVariables false
set_option linter.unnecessarySimpa false
set_option maxRecDepth 100000
set_option maxHeartbeats 16000000
namespace Go.Proofs.YtnmijegmbomfdaaGreatDoor
section
open Go.RowKit
theorem WAt.call {w0 w wa : World} {wb sb b : Nat} {σ : StL} {K : Nat} (h : WAt w0 w wb sb b σ K) (qa : Q w wa) : ∃ F : Nat → Prop, (∀ k, F k → k < w.heap.size) ∧ ¬ F wb ∧ StAt w F sb b σ K ∧
    ∀ W w' σ' K', Q wa W → StAt w' (grow F W w') sb b σ' K' → Turn F W w' → WAt w0 w' wb sb b σ' K' ∧ Turn F wa w' := by
  obtain ⟨F, hF, hwb, hs, hb, q0⟩ := h
  refine ⟨F, hs.lt, hwb, hs, fun W w' σ' K' q h1 t => ?_⟩
  obtain ⟨h2, t2⟩ := StAt.then' (qa.trans q) hs.lt h1 t
  exact ⟨⟨grow F w w', grow_low hF q0.size, fun hg => hg.elim hwb (fun hg => by have := hb.lt; omega), h2, t2.blk hb hwb, t2.low hF q0⟩, (Turn.of_q q).trans t⟩
theorem seven {w w' : World} (q : Q w w') {a0 a1 a2 a3 a4 a5 : Addr} {v0 v1 v2 v3 v4 v5 : Value} (h0 : w.cell? a0 = some v0) (h1 : w.cell? a1 = some v1) (h2 : w.cell? a2 = some v2) (h3 : w.cell? a3 = some v3) (h4 : w.cell? a4 = some v4) (h5 : w.cell? a5 = some v5) :
    w'.cell? a0 = some v0 ∧ w'.cell? a1 = some v1 ∧ w'.cell? a2 = some v2 ∧ w'.cell? a3 = some v3 ∧ w'.cell? a4 = some v4 ∧ w'.cell? a5 = some v5 := ⟨cell_stays q h0, cell_stays q h1, cell_stays q h2, cell_stays q h3, cell_stays q h4, cell_stays q h5⟩
theorem Turn.seven {F : Nat → Prop} {w w' : World} (t : Turn F w w') {a0 a1 a2 a3 a4 a5 : Addr} {v0 v1 v2 v3 v4 v5 : Value} (h0 : w.cell? a0 = some v0) (h1 : w.cell? a1 = some v1) (h2 : w.cell? a2 = some v2) (h3 : w.cell? a3 = some v3) (h4 : w.cell? a4 = some v4) (h5 : w.cell? a5 = some v5)
    (n0 : ¬ F a0.block) (n1 : ¬ F a1.block) (n2 : ¬ F a2.block) (n3 : ¬ F a3.block) (n4 : ¬ F a4.block) (n5 : ¬ F a5.block) :
    w'.cell? a0 = some v0 ∧ w'.cell? a1 = some v1 ∧ w'.cell? a2 = some v2 ∧ w'.cell? a3 = some v3 ∧ w'.cell? a4 = some v4 ∧ w'.cell? a5 = some v5 := ⟨t.cell h0 n0, t.cell h1 n1, t.cell h2 n2, t.cell h3 n3, t.cell h4 n4, t.cell h5 n5⟩
theorem Blk.c5 {w : World} {k : Nat} {t : TypeId} {a0 a1 a2 a3 a4 : Value} (h : Blk w k t #[a0, a1, a2, a3, a4]) :
    w.cell? ⟨k, 0, none⟩ = some a0 ∧ w.cell? ⟨k, 1, none⟩ = some a1 ∧ w.cell? ⟨k, 2, none⟩ = some a2 ∧ w.cell? ⟨k, 3, none⟩ = some a3 ∧ w.cell? ⟨k, 4, none⟩ = some a4 :=
  ⟨h.cell 0 _ rfl, h.cell 1 _ rfl, h.cell 2 _ rfl, h.cell 3 _ rfl, h.cell 4 _ rfl⟩
abbrev actCs (ka : Option Addr) (kn kc : Nat) (a : Act7) : Array Value := #[.int .i64 a.op, .int .i64 a.at_, .int .i64 a.n, .slice ka kn kc, .int .u8 (a.byte.toNat : Nat)]
theorem DoesW_any (w0 w : World) (wb sb b : Nat) (σ : StL) (K : Nat) (h : WAt w0 w wb sb b σ K) (hn : StNum σ) (hK : K + 2 ≤ 1000000000000000000) (ka : Option Addr) (kn kc : Nat) (a : Act7) (ha : a.Wf) (most : Int) (hk : a.k = 0 ∨ a.k = 1) :
    Calls Tryz.prog 15 #[ptrV wb, actV (.slice ka kn kc) a, .int .i64 most] w fun e w' => e = .returned (.tuple #[.int .i64 0, strV [], .int .i64 (σ.write a.at7 a.data).2]) ∧ WAt w0 w' wb sb b (σ.write a.at7 a.data).1 (K + 1) := by
  obtain ⟨wa, hwa⟩ : ∃ wa, wa = w.alloc (.cells #[.int .i64 a.op, .int .i64 a.at_, .int .i64 a.n, .slice ka kn kc, .int .u8 (a.byte.toNat : Nat)] 25) := ⟨_, rfl⟩
  have qa : Q w wa := by rw [hwa]; exact Q.alloc _ _
  have hbx : Blk wa w.heap.size 25 (actCs ka kn kc a) := by rw [hwa]; exact Blk.new w _ _
  obtain ⟨F, hlt, hwb, hs, hcl⟩ := h.call qa
  have hbF : ¬ F w.heap.size := fun hf => by have := hlt _ hf; omega
  have hat : ∀ W, Calls Tryz.prog 29 #[.agg #[.int .i64 a.op, .int .i64 a.at_, .int .i64 a.n, .slice ka kn kc, .int .u8 (a.byte.toNat : Nat)]] W fun e w' => e = .returned (.int .i64 a.at7) ∧ Q W w' := fun W => At7_any ka kn kc a W ha
  have hda : ∀ W, Calls Tryz.prog 30 #[.agg #[.int .i64 a.op, .int .i64 a.at_, .int .i64 a.n, .slice ka kn kc, .int .u8 (a.byte.toNat : Nat)]] W fun e w' => e = .returned (strV a.data) ∧ Q W w' := fun W => Data7_any ka kn kc a W ha
  have hdl := a.data_len
  have hwr : ∀ W, Q wa W → Calls Tryz.prog 26 #[ptrV sb, .int .i64 a.at7, strV a.data] W fun e w' => e = .returned (.int .i64 (σ.write a.at7 a.data).2) ∧ WAt w0 w' wb sb b (σ.write a.at7 a.data).1 (K + 1) ∧ Turn F wa w' := fun W q => (SWrite_any W F sb b σ K a.at7 a.data (hs.keep (qa.trans q)) hn (by omega) (by omega)).mono fun e w' h1 => ⟨h1.1, hcl W w' _ _ q h1.2.1 h1.2.2⟩
  have hpk := fun (W : World) => Pick7_any a.op 11 W ha.op.1 ha.op.2 (by decide) (by decide)
  obtain ⟨b0, b1, b2, b3, b4⟩ := hbx.c5
  obtain ⟨_, c1⟩ := (h.keep qa).cells
  have HAT := Lib.hid hat; have HDA := Lib.hid hda; have HWR := Lib.hid hwr; have HPK := Lib.hid hpk
  have HWB := Lib.hid hwb; have HBF := Lib.hid hbF
  clear hat hda hwr hpk hwb hbF hcl hlt hs hbx qa h hn hdl
  have hk' : pickZ a.op 11 = 0 ∨ pickZ a.op 11 = 1 := hk
  generalize (σ.write a.at7 a.data).2 = res at *
  generalize a.at7 = x at *
  generalize a.data = y at *
  unfold actV
  go_enter Tryz.func15, Tryz.ntmps15
  go_wp2_with fail
  rw [← hwa]
  clear hwa
  refine (HPK.out _).mono ?_
  rintro e w1 ⟨rfl, rfl⟩
  have KK := Lib.hid (Q.refl wa)
  rcases hk' with hk' | hk'
  all_goals
    rw [hk']
    clear hk' hk
    go_wp2_with fail
    (go_region_held3 (fun w' => w'.cell? ⟨wb, 1, none⟩ = some (ptrV sb) ∧ w'.cell? ⟨w.heap.size, 0, none⟩ = some (.int .i64 a.op) ∧ w'.cell? ⟨w.heap.size, 1, none⟩ = some (.int .i64 a.at_) ∧ w'.cell? ⟨w.heap.size, 2, none⟩ = some (.int .i64 a.n) ∧ w'.cell? ⟨w.heap.size, 3, none⟩ = some (.slice ka kn kc) ∧ w'.cell? ⟨w.heap.size, 4, none⟩ = some (.int .u8 (a.byte.toNat : Nat)))
      (first | exact g0 | exact ⟨c1, b0, b1, b2, b3, b4⟩ | exact seven (by repeat (first | with_reducible exact KK.out | with_reducible exact Q.refl _ | with_reducible apply Qs.dr | with_reducible apply Qs.al)) c1 b0 b1 b2 b3 b4)
      (first
        | (go_at_call 29; with_reducible refine (HAT.out _).mono ?_; rintro e w3 ⟨rfl, q3⟩; have s' : Q wa w3 := Q.trans (by repeat (first | with_reducible exact KK.out | with_reducible apply Qs.dr | with_reducible apply Qs.al)) q3; clear KK; have KK := Lib.hid s'; clear s' q3)
        | (go_at_call 30; with_reducible refine (HDA.out _).mono ?_; rintro e w3 ⟨rfl, q3⟩; have s' : Q wa w3 := Q.trans (by repeat (first | with_reducible exact KK.out | with_reducible apply Qs.dr | with_reducible apply Qs.al)) q3; clear KK; have KK := Lib.hid s'; clear s' q3)
        | (go_at_call 26; with_reducible refine (HWR.out _ (by repeat (first | with_reducible exact KK.out | with_reducible apply Qs.dr | with_reducible apply Qs.al))).mono ?_; rintro e w5 ⟨rfl, h5, t5⟩; have g0 := Turn.seven t5 c1 b0 b1 b2 b3 b4 HWB.out HBF.out HBF.out HBF.out HBF.out HBF.out; have H5 := Lib.hid h5; clear h5 t5)))
    all_goals
      go_wp2_with fail
      go_ret3
      exact ⟨rfl, H5.out⟩
theorem DoesA_any (w0 w : World) (wb sb b : Nat) (σ : StL) (K : Nat) (h : WAt w0 w wb sb b σ K) (hn : StNum σ) (hK : K + 2 ≤ 1000000000000000000) (ka : Option Addr) (kn kc : Nat) (a : Act7) (ha : a.Wf) (most : Int) (hk : a.k = 2 ∨ a.k = 3) :
    Calls Tryz.prog 15 #[ptrV wb, actV (.slice ka kn kc) a, .int .i64 most] w fun e w' => e = .returned (.tuple #[.int .i64 (σ.alloc a.n).2.1, strV [], .int .i64 (σ.alloc a.n).2.2]) ∧ WAt w0 w' wb sb b (σ.alloc a.n).1 (K + 2) := by
  obtain ⟨wa, hwa⟩ : ∃ wa, wa = w.alloc (.cells #[.int .i64 a.op, .int .i64 a.at_, .int .i64 a.n, .slice ka kn kc, .int .u8 (a.byte.toNat : Nat)] 25) := ⟨_, rfl⟩
  have qa : Q w wa := by rw [hwa]; exact Q.alloc _ _
  have hbx : Blk wa w.heap.size 25 (actCs ka kn kc a) := by rw [hwa]; exact Blk.new w _ _
  obtain ⟨F, hlt, hwb, hs, hcl⟩ := h.call qa
  have hbF : ¬ F w.heap.size := fun hf => by have := hlt _ hf; omega
  have hat : ∀ W, Calls Tryz.prog 29 #[.agg #[.int .i64 a.op, .int .i64 a.at_, .int .i64 a.n, .slice ka kn kc, .int .u8 (a.byte.toNat : Nat)]] W fun e w' => e = .returned (.int .i64 a.at7) ∧ Q W w' := fun W => At7_any ka kn kc a W ha
  have hcc : ∀ W, Q wa W → Calls Tryz.prog 23 #[ptrV sb, .int .i64 a.n] W fun e w' => e = .returned (.tuple #[.int .i64 (σ.alloc a.n).2.1, .int .i64 (σ.alloc a.n).2.2]) ∧ WAt w0 w' wb sb b (σ.alloc a.n).1 (K + 2) ∧ Turn F wa w' := fun W q => (SAlloc_any W F sb b σ K a.n (hs.keep (qa.trans q)) hn hK).mono fun e w' h1 => ⟨h1.1, hcl W w' _ _ q h1.2.1 h1.2.2⟩
  have hpk := fun (W : World) => Pick7_any a.op 11 W ha.op.1 ha.op.2 (by decide) (by decide)
  obtain ⟨b0, b1, b2, b3, b4⟩ := hbx.c5
  obtain ⟨_, c1⟩ := (h.keep qa).cells
  have HAT := Lib.hid hat; have HCC := Lib.hid hcc; have HPK := Lib.hid hpk
  have HWB := Lib.hid hwb; have HBF := Lib.hid hbF; have HDONE := Lib.hid (h.keep qa)
  clear hat hcc hpk hwb hbF hcl hlt hs hbx qa h hn
  have hk' : pickZ a.op 11 = 2 ∨ pickZ a.op 11 = 3 := hk
  generalize (σ.alloc a.n).2.2 = res at *
  generalize (σ.alloc a.n).2.1 = res1 at *
  unfold actV
  go_enter Tryz.func15, Tryz.ntmps15
  go_wp2_with fail
  rw [← hwa]
  clear hwa
  refine (HPK.out _).mono ?_
  rintro e w1 ⟨rfl, rfl⟩
  have KK := Lib.hid (Q.refl wa)
  rcases hk' with hk' | hk'
  all_goals
    rw [hk']
    clear hk' hk
    go_wp2_with fail
    (go_region_held3 (fun w' => w'.cell? ⟨wb, 1, none⟩ = some (ptrV sb) ∧ w'.cell? ⟨w.heap.size, 0, none⟩ = some (.int .i64 a.op) ∧ w'.cell? ⟨w.heap.size, 1, none⟩ = some (.int .i64 a.at_) ∧ w'.cell? ⟨w.heap.size, 2, none⟩ = some (.int .i64 a.n) ∧ w'.cell? ⟨w.heap.size, 3, none⟩ = some (.slice ka kn kc) ∧ w'.cell? ⟨w.heap.size, 4, none⟩ = some (.int .u8 (a.byte.toNat : Nat)))
      (first | exact g0 | exact ⟨c1, b0, b1, b2, b3, b4⟩ | exact seven (by repeat (first | with_reducible exact KK.out | with_reducible exact Q.refl _ | with_reducible apply Qs.dr | with_reducible apply Qs.al)) c1 b0 b1 b2 b3 b4)
      (first
        | (go_at_call 29; with_reducible refine (HAT.out _).mono ?_; rintro e w3 ⟨rfl, q3⟩; have s' : Q wa w3 := Q.trans (by repeat (first | with_reducible exact KK.out | with_reducible apply Qs.dr | with_reducible apply Qs.al)) q3; clear KK; have KK := Lib.hid s'; clear s' q3)
        | (go_at_call 23; with_reducible refine (HCC.out _ (by repeat (first | with_reducible exact KK.out | with_reducible apply Qs.dr | with_reducible apply Qs.al))).mono ?_; rintro e w5 ⟨rfl, h5, t5⟩; have g0 := Turn.seven t5 c1 b0 b1 b2 b3 b4 HWB.out HBF.out HBF.out HBF.out HBF.out HBF.out; have H5 := Lib.hid h5; clear h5 t5)))
    all_goals
      go_wp2_with fail
      go_ret3
      exact ⟨rfl, H5.out⟩
theorem DoesR_any (w0 w : World) (wb sb b : Nat) (σ : StL) (K : Nat) (h : WAt w0 w wb sb b σ K) (hn : StNum σ) (hK : K + 2 ≤ 1000000000000000000) (ka : Option Addr) (kn kc : Nat) (a : Act7) (ha : a.Wf) (most : Int) (hk : a.k = 4) :
    Calls Tryz.prog 15 #[ptrV wb, actV (.slice ka kn kc) a, .int .i64 most] w fun e w' => e = .returned (.tuple #[.int .i64 0, strV [], .int .i64 (σ.release a.at7 a.n).2]) ∧ WAt w0 w' wb sb b (σ.release a.at7 a.n).1 (K + 2) := by
  obtain ⟨wa, hwa⟩ : ∃ wa, wa = w.alloc (.cells #[.int .i64 a.op, .int .i64 a.at_, .int .i64 a.n, .slice ka kn kc, .int .u8 (a.byte.toNat : Nat)] 25) := ⟨_, rfl⟩
  have qa : Q w wa := by rw [hwa]; exact Q.alloc _ _
  have hbx : Blk wa w.heap.size 25 (actCs ka kn kc a) := by rw [hwa]; exact Blk.new w _ _
  obtain ⟨F, hlt, hwb, hs, hcl⟩ := h.call qa
  have hbF : ¬ F w.heap.size := fun hf => by have := hlt _ hf; omega
  have hat : ∀ W, Calls Tryz.prog 29 #[.agg #[.int .i64 a.op, .int .i64 a.at_, .int .i64 a.n, .slice ka kn kc, .int .u8 (a.byte.toNat : Nat)]] W fun e w' => e = .returned (.int .i64 a.at7) ∧ Q W w' := fun W => At7_any ka kn kc a W ha
  have hcc : ∀ W, Q wa W → Calls Tryz.prog 24 #[ptrV sb, .int .i64 a.at7, .int .i64 a.n] W fun e w' => e = .returned (.int .i64 (σ.release a.at7 a.n).2) ∧ WAt w0 w' wb sb b (σ.release a.at7 a.n).1 (K + 2) ∧ Turn F wa w' := fun W q => (SRelease_any W F sb b σ K a.at7 a.n (hs.keep (qa.trans q)) hn hK).mono fun e w' h1 => ⟨h1.1, hcl W w' _ _ q h1.2.1 h1.2.2⟩
  have hpk := fun (W : World) => Pick7_any a.op 11 W ha.op.1 ha.op.2 (by decide) (by decide)
  obtain ⟨b0, b1, b2, b3, b4⟩ := hbx.c5
  obtain ⟨_, c1⟩ := (h.keep qa).cells
  have HAT := Lib.hid hat; have HCC := Lib.hid hcc; have HPK := Lib.hid hpk
  have HWB := Lib.hid hwb; have HBF := Lib.hid hbF; have HDONE := Lib.hid (h.keep qa)
  clear hat hcc hpk hwb hbF hcl hlt hs hbx qa h hn
  have hk' : pickZ a.op 11 = 4 := hk
  generalize (σ.release a.at7 a.n).2 = res at *
  generalize a.at7 = x at *
  unfold actV
  go_enter Tryz.func15, Tryz.ntmps15
  go_wp2_with fail
  rw [← hwa]
  clear hwa
  refine (HPK.out _).mono ?_
  rintro e w1 ⟨rfl, rfl⟩
  have KK := Lib.hid (Q.refl wa)
  skip
  all_goals
    rw [hk']
    clear hk' hk
    go_wp2_with fail
    (go_region_held3 (fun w' => w'.cell? ⟨wb, 1, none⟩ = some (ptrV sb) ∧ w'.cell? ⟨w.heap.size, 0, none⟩ = some (.int .i64 a.op) ∧ w'.cell? ⟨w.heap.size, 1, none⟩ = some (.int .i64 a.at_) ∧ w'.cell? ⟨w.heap.size, 2, none⟩ = some (.int .i64 a.n) ∧ w'.cell? ⟨w.heap.size, 3, none⟩ = some (.slice ka kn kc) ∧ w'.cell? ⟨w.heap.size, 4, none⟩ = some (.int .u8 (a.byte.toNat : Nat)))
      (first | exact g0 | exact ⟨c1, b0, b1, b2, b3, b4⟩ | exact seven (by repeat (first | with_reducible exact KK.out | with_reducible exact Q.refl _ | with_reducible apply Qs.dr | with_reducible apply Qs.al)) c1 b0 b1 b2 b3 b4)
      (first
        | (go_at_call 29; with_reducible refine (HAT.out _).mono ?_; rintro e w3 ⟨rfl, q3⟩; have s' : Q wa w3 := Q.trans (by repeat (first | with_reducible exact KK.out | with_reducible apply Qs.dr | with_reducible apply Qs.al)) q3; clear KK; have KK := Lib.hid s'; clear s' q3)
        | (go_at_call 24; with_reducible refine (HCC.out _ (by repeat (first | with_reducible exact KK.out | with_reducible apply Qs.dr | with_reducible apply Qs.al))).mono ?_; rintro e w5 ⟨rfl, h5, t5⟩; have g0 := Turn.seven t5 c1 b0 b1 b2 b3 b4 HWB.out HBF.out HBF.out HBF.out HBF.out HBF.out; have H5 := Lib.hid h5; clear h5 t5)))
    all_goals
      go_wp2_with fail
      go_ret3
      exact ⟨rfl, H5.out⟩
theorem DoesB_any (w0 w : World) (wb sb b : Nat) (σ : StL) (K : Nat) (h : WAt w0 w wb sb b σ K) (hn : StNum σ) (hK : K + 2 ≤ 1000000000000000000) (ka : Option Addr) (kn kc : Nat) (a : Act7) (ha : a.Wf) (most : Int) (hk : a.k = 5) :
    Calls Tryz.prog 15 #[ptrV wb, actV (.slice ka kn kc) a, .int .i64 most] w fun e w' => e = .returned (.tuple #[.int .i64 0, strV [], .int .i64 σ.begin.2]) ∧ WAt w0 w' wb sb b σ.begin.1 (K) := by
  obtain ⟨wa, hwa⟩ : ∃ wa, wa = w.alloc (.cells #[.int .i64 a.op, .int .i64 a.at_, .int .i64 a.n, .slice ka kn kc, .int .u8 (a.byte.toNat : Nat)] 25) := ⟨_, rfl⟩
  have qa : Q w wa := by rw [hwa]; exact Q.alloc _ _
  have hbx : Blk wa w.heap.size 25 (actCs ka kn kc a) := by rw [hwa]; exact Blk.new w _ _
  obtain ⟨F, hlt, hwb, hs, hcl⟩ := h.call qa
  have hbF : ¬ F w.heap.size := fun hf => by have := hlt _ hf; omega
  have hat : ∀ W, Calls Tryz.prog 29 #[.agg #[.int .i64 a.op, .int .i64 a.at_, .int .i64 a.n, .slice ka kn kc, .int .u8 (a.byte.toNat : Nat)]] W fun e w' => e = .returned (.int .i64 a.at7) ∧ Q W w' := fun W => At7_any ka kn kc a W ha
  have hcc : ∀ W, Q wa W → Calls Tryz.prog 22 #[ptrV sb] W fun e w' => e = .returned (.int .i64 σ.begin.2) ∧ WAt w0 w' wb sb b σ.begin.1 (K) ∧ Turn F wa w' := fun W q => (SBegin_any W F sb b σ K (hs.keep (qa.trans q))).mono fun e w' h1 => ⟨h1.1, hcl W w' _ _ q h1.2.1 h1.2.2⟩
  have hpk := fun (W : World) => Pick7_any a.op 11 W ha.op.1 ha.op.2 (by decide) (by decide)
  obtain ⟨b0, b1, b2, b3, b4⟩ := hbx.c5
  obtain ⟨_, c1⟩ := (h.keep qa).cells
  have HAT := Lib.hid hat; have HCC := Lib.hid hcc; have HPK := Lib.hid hpk
  have HWB := Lib.hid hwb; have HBF := Lib.hid hbF; have HDONE := Lib.hid (h.keep qa)
  clear hat hcc hpk hwb hbF hcl hlt hs hbx qa h hn
  have hk' : pickZ a.op 11 = 5 := hk
  generalize σ.begin.2 = res at *
  unfold actV
  go_enter Tryz.func15, Tryz.ntmps15
  go_wp2_with fail
  rw [← hwa]
  clear hwa
  refine (HPK.out _).mono ?_
  rintro e w1 ⟨rfl, rfl⟩
  have KK := Lib.hid (Q.refl wa)
  skip
  all_goals
    rw [hk']
    clear hk' hk
    go_wp2_with fail
    refine (HCC.out _ KK.out).mono ?_
    rintro e w5 ⟨rfl, h5, t5⟩
    have H5 := Lib.hid h5
    clear h5 t5
    go_wp2_with fail
    go_ret3
    exact ⟨rfl, H5.out⟩
theorem DoesC_any (w0 w : World) (wb sb b : Nat) (σ : StL) (K : Nat) (h : WAt w0 w wb sb b σ K) (hn : StNum σ) (hp : σ.state true = 0 → σ.tx ≠ [] → ComPre σ) (hK : K + 2 ≤ 1000000000000000000) (ka : Option Addr) (kn kc : Nat) (a : Act7) (ha : a.Wf) (most : Int) (hk : a.k = 6) :
    Calls Tryz.prog 15 #[ptrV wb, actV (.slice ka kn kc) a, .int .i64 most] w fun e w' => e = .returned (.tuple #[.int .i64 0, strV [], .int .i64 σ.commit.2]) ∧ WAt w0 w' wb sb b σ.commit.1 (K) := by
  obtain ⟨wa, hwa⟩ : ∃ wa, wa = w.alloc (.cells #[.int .i64 a.op, .int .i64 a.at_, .int .i64 a.n, .slice ka kn kc, .int .u8 (a.byte.toNat : Nat)] 25) := ⟨_, rfl⟩
  have qa : Q w wa := by rw [hwa]; exact Q.alloc _ _
  have hbx : Blk wa w.heap.size 25 (actCs ka kn kc a) := by rw [hwa]; exact Blk.new w _ _
  obtain ⟨F, hlt, hwb, hs, hcl⟩ := h.call qa
  have hbF : ¬ F w.heap.size := fun hf => by have := hlt _ hf; omega
  have hat : ∀ W, Calls Tryz.prog 29 #[.agg #[.int .i64 a.op, .int .i64 a.at_, .int .i64 a.n, .slice ka kn kc, .int .u8 (a.byte.toNat : Nat)]] W fun e w' => e = .returned (.int .i64 a.at7) ∧ Q W w' := fun W => At7_any ka kn kc a W ha
  have hcc : ∀ W, Q wa W → Calls Tryz.prog 28 #[ptrV sb] W fun e w' => e = .returned (.int .i64 σ.commit.2) ∧ WAt w0 w' wb sb b σ.commit.1 (K) ∧ Turn F wa w' := fun W q => (SCommit_any W F sb b σ K (hs.keep (qa.trans q)) hn hp).mono fun e w' h1 => ⟨h1.1, hcl W w' _ _ q h1.2.1 h1.2.2⟩
  have hpk := fun (W : World) => Pick7_any a.op 11 W ha.op.1 ha.op.2 (by decide) (by decide)
  obtain ⟨b0, b1, b2, b3, b4⟩ := hbx.c5
  obtain ⟨_, c1⟩ := (h.keep qa).cells
  have HAT := Lib.hid hat; have HCC := Lib.hid hcc; have HPK := Lib.hid hpk
  have HWB := Lib.hid hwb; have HBF := Lib.hid hbF; have HDONE := Lib.hid (h.keep qa)
  clear hat hcc hpk hwb hbF hcl hlt hs hbx qa h hn hp
  have hk' : pickZ a.op 11 = 6 := hk
  generalize σ.commit.2 = res at *
  unfold actV
  go_enter Tryz.func15, Tryz.ntmps15
  go_wp2_with fail
  rw [← hwa]
  clear hwa
  refine (HPK.out _).mono ?_
  rintro e w1 ⟨rfl, rfl⟩
  have KK := Lib.hid (Q.refl wa)
  skip
  all_goals
    rw [hk']
    clear hk' hk
    go_wp2_with fail
    refine (HCC.out _ KK.out).mono ?_
    rintro e w5 ⟨rfl, h5, t5⟩
    have H5 := Lib.hid h5
    clear h5 t5
    go_wp2_with fail
    go_ret3
    exact ⟨rfl, H5.out⟩
theorem DoesX_any (w0 w : World) (wb sb b : Nat) (σ : StL) (K : Nat) (h : WAt w0 w wb sb b σ K) (hn : StNum σ) (hK : K + 2 ≤ 1000000000000000000) (ka : Option Addr) (kn kc : Nat) (a : Act7) (ha : a.Wf) (most : Int) (hk : a.k = 7) :
    Calls Tryz.prog 15 #[ptrV wb, actV (.slice ka kn kc) a, .int .i64 most] w fun e w' => e = .returned (.tuple #[.int .i64 0, strV [], .int .i64 0]) ∧ WAt w0 w' wb sb b σ.abort (K) := by
  obtain ⟨wa, hwa⟩ : ∃ wa, wa = w.alloc (.cells #[.int .i64 a.op, .int .i64 a.at_, .int .i64 a.n, .slice ka kn kc, .int .u8 (a.byte.toNat : Nat)] 25) := ⟨_, rfl⟩
  have qa : Q w wa := by rw [hwa]; exact Q.alloc _ _
  have hbx : Blk wa w.heap.size 25 (actCs ka kn kc a) := by rw [hwa]; exact Blk.new w _ _
  obtain ⟨F, hlt, hwb, hs, hcl⟩ := h.call qa
  have hbF : ¬ F w.heap.size := fun hf => by have := hlt _ hf; omega
  have hat : ∀ W, Calls Tryz.prog 29 #[.agg #[.int .i64 a.op, .int .i64 a.at_, .int .i64 a.n, .slice ka kn kc, .int .u8 (a.byte.toNat : Nat)]] W fun e w' => e = .returned (.int .i64 a.at7) ∧ Q W w' := fun W => At7_any ka kn kc a W ha
  have hcc : ∀ W, Q wa W → Calls Tryz.prog 18 #[ptrV sb] W fun e w' => e = .returned (.tuple #[]) ∧ WAt w0 w' wb sb b σ.abort (K) ∧ Turn F wa w' := fun W q => (SAbort_any W F sb b σ K (hs.keep (qa.trans q))).mono fun e w' h1 => ⟨h1.1, hcl W w' _ _ q (h1.2.1.mono (fun k hk => .inl hk) (fun k hk => hk.elim (h1.2.1.lt k) (fun hk => hk.2)) (Nat.le_refl _)) h1.2.2⟩
  have hpk := fun (W : World) => Pick7_any a.op 11 W ha.op.1 ha.op.2 (by decide) (by decide)
  obtain ⟨b0, b1, b2, b3, b4⟩ := hbx.c5
  obtain ⟨_, c1⟩ := (h.keep qa).cells
  have HAT := Lib.hid hat; have HCC := Lib.hid hcc; have HPK := Lib.hid hpk
  have HWB := Lib.hid hwb; have HBF := Lib.hid hbF; have HDONE := Lib.hid (h.keep qa)
  clear hat hcc hpk hwb hbF hcl hlt hs hbx qa h hn
  have hk' : pickZ a.op 11 = 7 := hk
  unfold actV
  go_enter Tryz.func15, Tryz.ntmps15
  go_wp2_with fail
  rw [← hwa]
  clear hwa
  refine (HPK.out _).mono ?_
  rintro e w1 ⟨rfl, rfl⟩
  have KK := Lib.hid (Q.refl wa)
  skip
  all_goals
    rw [hk']
    clear hk' hk
    go_wp2_with fail
    refine (HCC.out _ KK.out).mono ?_
    rintro e w5 ⟨rfl, h5, t5⟩
    have H5 := Lib.hid h5
    clear h5 t5
    go_wp2_with fail
    go_ret3
    exact ⟨rfl, H5.out⟩
theorem DoesT_any (w0 w : World) (wb sb b : Nat) (σ : StL) (K : Nat) (h : WAt w0 w wb sb b σ K) (hn : StNum σ) (hK : K + 2 ≤ 1000000000000000000) (ka : Option Addr) (kn kc : Nat) (a : Act7) (ha : a.Wf) (most : Int) (hk : a.k = 8) :
    Calls Tryz.prog 15 #[ptrV wb, actV (.slice ka kn kc) a, .int .i64 most] w fun e w' => e = .returned (.tuple #[.int .i64 0, strV (σ.read a.at7).1, .int .i64 (σ.read a.at7).2]) ∧ WAt w0 w' wb sb b σ (K + 1) := by
  obtain ⟨wa, hwa⟩ : ∃ wa, wa = w.alloc (.cells #[.int .i64 a.op, .int .i64 a.at_, .int .i64 a.n, .slice ka kn kc, .int .u8 (a.byte.toNat : Nat)] 25) := ⟨_, rfl⟩
  have qa : Q w wa := by rw [hwa]; exact Q.alloc _ _
  have hbx : Blk wa w.heap.size 25 (actCs ka kn kc a) := by rw [hwa]; exact Blk.new w _ _
  obtain ⟨F, hlt, hwb, hs, hcl⟩ := h.call qa
  have hbF : ¬ F w.heap.size := fun hf => by have := hlt _ hf; omega
  have hat : ∀ W, Calls Tryz.prog 29 #[.agg #[.int .i64 a.op, .int .i64 a.at_, .int .i64 a.n, .slice ka kn kc, .int .u8 (a.byte.toNat : Nat)]] W fun e w' => e = .returned (.int .i64 a.at7) ∧ Q W w' := fun W => At7_any ka kn kc a W ha
  have hcc : ∀ W, Q wa W → Calls Tryz.prog 25 #[ptrV sb, .int .i64 a.at7] W fun e w' => e = .returned (.tuple #[strV (σ.read a.at7).1, .int .i64 (σ.read a.at7).2]) ∧ WAt w0 w' wb sb b σ (K + 1) ∧ Turn F wa w' := fun W q => (SRead_any W F sb b σ K a.at7 (hs.keep (qa.trans q)) hn (by omega)).mono fun e w' h1 => ⟨h1.1, hcl W w' _ _ q h1.2.1 h1.2.2⟩
  have hpk := fun (W : World) => Pick7_any a.op 11 W ha.op.1 ha.op.2 (by decide) (by decide)
  obtain ⟨b0, b1, b2, b3, b4⟩ := hbx.c5
  obtain ⟨_, c1⟩ := (h.keep qa).cells
  have HAT := Lib.hid hat; have HCC := Lib.hid hcc; have HPK := Lib.hid hpk
  have HWB := Lib.hid hwb; have HBF := Lib.hid hbF; have HDONE := Lib.hid (h.keep qa)
  clear hat hcc hpk hwb hbF hcl hlt hs hbx qa h hn
  have hk' : pickZ a.op 11 = 8 := hk
  generalize (σ.read a.at7).1 = res at *
  generalize (σ.read a.at7).2 = res1 at *
  generalize a.at7 = x at *
  unfold actV
  go_enter Tryz.func15, Tryz.ntmps15
  go_wp2_with fail
  rw [← hwa]
  clear hwa
  refine (HPK.out _).mono ?_
  rintro e w1 ⟨rfl, rfl⟩
  have KK := Lib.hid (Q.refl wa)
  skip
  all_goals
    rw [hk']
    clear hk' hk
    go_wp2_with fail
    (go_region_held3 (fun w' => w'.cell? ⟨wb, 1, none⟩ = some (ptrV sb) ∧ w'.cell? ⟨w.heap.size, 0, none⟩ = some (.int .i64 a.op) ∧ w'.cell? ⟨w.heap.size, 1, none⟩ = some (.int .i64 a.at_) ∧ w'.cell? ⟨w.heap.size, 2, none⟩ = some (.int .i64 a.n) ∧ w'.cell? ⟨w.heap.size, 3, none⟩ = some (.slice ka kn kc) ∧ w'.cell? ⟨w.heap.size, 4, none⟩ = some (.int .u8 (a.byte.toNat : Nat)))
      (first | exact g0 | exact ⟨c1, b0, b1, b2, b3, b4⟩ | exact seven (by repeat (first | with_reducible exact KK.out | with_reducible exact Q.refl _ | with_reducible apply Qs.dr | with_reducible apply Qs.al)) c1 b0 b1 b2 b3 b4)
      (first
        | (go_at_call 29; with_reducible refine (HAT.out _).mono ?_; rintro e w3 ⟨rfl, q3⟩; have s' : Q wa w3 := Q.trans (by repeat (first | with_reducible exact KK.out | with_reducible apply Qs.dr | with_reducible apply Qs.al)) q3; clear KK; have KK := Lib.hid s'; clear s' q3)
        | (go_at_call 25; with_reducible refine (HCC.out _ (by repeat (first | with_reducible exact KK.out | with_reducible apply Qs.dr | with_reducible apply Qs.al))).mono ?_; rintro e w5 ⟨rfl, h5, t5⟩; have g0 := Turn.seven t5 c1 b0 b1 b2 b3 b4 HWB.out HBF.out HBF.out HBF.out HBF.out HBF.out; have H5 := Lib.hid h5; clear h5 t5)))
    all_goals
      go_wp2_with fail
      go_ret3
      exact ⟨rfl, H5.out⟩
theorem Does7_any (w0 w : World) (wb sb b : Nat) (σ : StL) (K : Nat) (h : WAt w0 w wb sb b σ K) (hn : StNum σ) (hp : σ.state true = 0 → σ.tx ≠ [] → ComPre σ) (hK : K + 2 ≤ 1000000000000000000) (ka : Option Addr) (kn kc : Nat) (a : Act7) (ha : a.Wf) (most : Int) (hk : a.k < 9) :
    Calls Tryz.prog 15 #[ptrV wb, actV (.slice ka kn kc) a, .int .i64 most] w fun e w' => e = .returned (.tuple #[.int .i64 (doesN a σ), strV (doesT a σ), .int .i64 (doesE a σ)]) ∧ WAt w0 w' wb sb b (doesS a σ) (K + 2) := by
  unfold doesN doesT doesE doesS
  rcases (by omega : a.k ≤ 1 ∨ (2 ≤ a.k ∧ a.k ≤ 3) ∨ a.k = 4 ∨ a.k = 5 ∨ a.k = 6 ∨ a.k = 7 ∨ a.k = 8) with h1 | h1 | h1 | h1 | h1 | h1 | h1
  · rw [if_neg (by omega), if_neg (by omega), if_pos h1, if_pos h1]
    exact (DoesW_any w0 w wb sb b σ K h hn hK ka kn kc a ha most (by omega)).mono fun e w' h => ⟨h.1, h.2.mono (by omega)⟩
  · rw [if_pos h1, if_neg (by omega), if_neg (by omega), if_pos h1.2, if_neg (by omega), if_pos h1.2]
    exact (DoesA_any w0 w wb sb b σ K h hn hK ka kn kc a ha most (by omega)).mono fun e w' h => ⟨h.1, h.2.mono (by omega)⟩
  · simp only [h1, show ¬ (4 ≤ 1) by decide, show ¬ (4 ≤ 3) by decide, show ¬ (4 = 8) by decide, and_false, if_false, if_true]
    exact (DoesR_any w0 w wb sb b σ K h hn hK ka kn kc a ha most h1).mono fun e w' h => ⟨h.1, h.2.mono (by omega)⟩
  · simp only [h1, show ¬ (5 ≤ 1) by decide, show ¬ (5 ≤ 3) by decide, show ¬ (5 = 8) by decide, show ¬ (5 = 4) by decide, and_false, if_false, if_true]
    exact (DoesB_any w0 w wb sb b σ K h hn hK ka kn kc a ha most h1).mono fun e w' h => ⟨h.1, h.2.mono (by omega)⟩
  · simp only [h1, show ¬ (6 ≤ 1) by decide, show ¬ (6 ≤ 3) by decide, show ¬ (6 = 8) by decide, show ¬ (6 = 4) by decide, show ¬ (6 = 5) by decide, and_false, if_false, if_true]
    exact (DoesC_any w0 w wb sb b σ K h hn hp hK ka kn kc a ha most h1).mono fun e w' h => ⟨h.1, h.2.mono (by omega)⟩
  · simp only [h1, show ¬ (7 ≤ 1) by decide, show ¬ (7 ≤ 3) by decide, show ¬ (7 = 8) by decide, show ¬ (7 = 4) by decide, show ¬ (7 = 5) by decide, show ¬ (7 = 6) by decide, and_false, if_false, if_true]
    exact (DoesX_any w0 w wb sb b σ K h hn hK ka kn kc a ha most h1).mono fun e w' h => ⟨h.1, h.2.mono (by omega)⟩
  · simp only [h1, show ¬ (8 ≤ 1) by decide, show ¬ (8 ≤ 3) by decide, show ¬ (8 = 4) by decide, show ¬ (8 = 5) by decide, show ¬ (8 = 6) by decide, show ¬ (8 = 7) by decide, and_false, if_false, if_true]
    exact (DoesT_any w0 w wb sb b σ K h hn hK ka kn kc a ha most h1).mono fun e w' h => ⟨h.1, h.2.mono (by omega)⟩
theorem RFormat7_new (w : World) (F : Nat → Prop) (b n : Nat) (h : RDevAt w F b (DevL.new n)) (hF : ∀ k, F k → k < w.heap.size) (h1 : 128 ≤ n) (h2 : n ≤ 4096) :
    Calls Tryz.prog 40 #[ptrV b] w fun e w' => e = .returned (.int .i64 0) ∧ RDevAt w' (grow F w w') b (formatS (DevL.new n)).1 ∧ Turn F w w' := by
  obtain ⟨a, hlj, hp1, hok1, o1, o2, hol, hof⟩ := format_mid n h1 h2
  have hpre := format_pre n h1 h2
  have hl : (DevL.new n).l.length = n := List.length_replicate
  have hok := DevL.new_ok n (by omega) h2
  have hcode := (format_run n h1 h2).1
  have hfs : formatS (DevL.new n) = (((openJ (formatJ (DevL.new n) 60).1).1.commit (formatT n)).1.d, ((openJ (formatJ (DevL.new n) 60).1).1.commit (formatT n)).2) := by
    unfold formatS
    rw [if_neg (by rw [hl]; omega), if_neg (by rw [a]; simp), if_neg (by rw [o1]; simp), hl]
  rw [hfs] at hcode
  rw [hfs]
  have hjf := RFormat4_any w F b (DevL.new n) 60 h hok (fun _ => by simp [DevL.new]) (by decide) (by rw [hl]; omega)
  rw [a] at hjf
  obtain ⟨lv, pv, hdg⟩ := h
  obtain ⟨la, lc, rfl, _⟩ := hdg.lcells
  obtain ⟨d0, _⟩ := hdg.box.c4
  rw [hl] at d0
  clear hdg
  have hjo := fun (W : World) (G : Nat → Prop) (hW : RDevAt W G b (formatJ (DevL.new n) 60).1) (hG : ∀ k, G k → k < W.heap.size) => ROpen_live W G b (formatJ (DevL.new n) 60).1 hW hG hpre (by decide) (by rw [hp1]; simp) (by omega)
  unfold ROpenEnd at hjo
  have jn := o2.num (by decide) (by decide)
  have ju : (openJ (formatJ (DevL.new n) 60).1).1.used ≤ (openJ (formatJ (DevL.new n) 60).1).1.s.log := by have := o2.hrec.hchain.used; rw [o2.hused]; omega
  have jh : (openJ (formatJ (DevL.new n) 60).1).1.home = 62 := by unfold JL.home; rw [o2.hlog]
  clear hpre
  generalize openJ (formatJ (DevL.new n) 60).1 = oj at *
  generalize formatJ (DevL.new n) 60 = fj at *
  obtain ⟨d1, c1⟩ := fj
  obtain ⟨j, c2⟩ := oj
  simp only at o1 o2 hol hof jn ju jh hjo hcode hlj hp1 hok1 hjf ⊢
  subst o1
  obtain ⟨t1, t2, t3, t4⟩ := formatT_map n h1 h2 (fun _ => noughtsL)
  have hpar : partsN n ≤ 2 ∧ 1 ≤ partsN n ∧ 63 + partsN n < n := by unfold partsN; omega
  have hmk := fun (W : World) => rmake_any (2048 * (partsN n : Int)) W
  rw [makeL_parts n h2, if_pos hpar.2.1] at hmk
  have hfd : firstD n = 63 + partsN n := rfl
  have hset := fun (W : World) => rset_ok (zerosL (256 * partsN n)) 0 (firstD n) true W (by simp [zerosL]; omega) (by simp [zerosL]; omega)
  have hb0 : setTo (zerosL (256 * partsN n)) 0 true (firstD n) = bits0 n := rfl
  rw [hb0] at hset
  rw [show ((0 : Nat) : Int) = 0 from rfl, show ((firstD n : Nat) : Int) = 63 + ((partsN n : Nat) : Int) by rw [hfd]; omega] at hset
  have hbl2 : (bits0 n).length = 256 * partsN n := (bits0_good n h1 h2).len
  have hpa := fun (W : World) => RParts_any n W (by omega)
  have hti := fun (W : World) => RTitle_any n W (by omega)
  have hprt := fun (i : Nat) (hi : i < partsN n) => (show ({ data := (bits0 n).toArray } : ByteArray).extract (256 * i) (256 * i + 256) = ⟨(partL (bits0 n) i).toArray⟩ from by
    rw [bytes_extract, show 256 * i + 256 - 256 * i = 256 by omega, Nat.mul_comm 256 i]; rfl)
  have hft : formatT n = formatK n (partsN n) := rfl
  have hjc := fun (W : World) (G : Nat → Prop) (p : Nat) (lv : Value) (hj : RJrnAt W G p b j) (hl : SlO W G lv (formatT n).length 2 (wrVs (formatT n))) => RCommit_any W G p b j lv (formatT n) hj jn ⟨by simp [formatT], by omega, fun w hw => by have := t3 w hw; exact ⟨by omega, this.2.2⟩⟩ (fun w hw => by have := t3 w hw; rw [jh, hol]; exact ⟨this.1, this.2.1⟩) hl ju
  generalize hcmE : j.commit (formatT n) = cm at *
  obtain ⟨j2, c3⟩ := cm
  simp only at hcode hjc ⊢
  subst hcode
  rw [hft] at hjc
  obtain ⟨i1, hi1, hy0, hy1, hy2⟩ := info_parts tinfoWr
  have HJF := Lib.hid hjf; have HJO := Lib.hid hjo; have HMK := Lib.hid hmk; have HSET := Lib.hid hset; have HPA := Lib.hid hpa; have HTI := Lib.hid hti; have HPR := Lib.hid hprt; have HJC := Lib.hid hjc; have HF := Lib.hid hF
  have hpn2 := hpar.1
  have hnb : ¬ (n : Int) < 128 := by omega
  have HBL2 := Lib.hid hbl2
  clear hjf hjo hmk hset hpa hti hprt hjc hF hft hcmE t1 t2 t3 t4 hpar jn ju jh o2 hof hol hok1 hp1 hlj hfs hok hl hfd hb0 hbl2 a
  go_enter Tryz.func40, Tryz.ntmps40
  go_wp2_with fail
  refine HJF.out.mono ?_
  rintro e w1 ⟨rfl, hd1, t1⟩
  have hjo := HJO.out w1 _ hd1 (fun k hk => hk.elim (fun hk => Nat.lt_of_lt_of_le (HF.out k hk) t1.size) (fun hk => hk.2))
  have HO := Lib.hid hjo; have T1 := Lib.hid t1
  clear hjo hd1 t1 d0
  go_wp2_with fail
  refine HO.out.mono ?_
  rintro e w2 ⟨t2, ⟨_, p, rfl, hj2⟩ | ⟨h0, _⟩⟩
  · have T2 := Lib.hid t2; have HJ2 := Lib.hid hj2
    clear t2 hj2
    go_wp2_with fail
    refine (HPA.out _).mono ?_
    rintro e w3 ⟨rfl, rfl⟩
    go_wp2_with fail
    refine (HPA.out _).mono ?_
    rintro e w3 ⟨rfl, rfl⟩
    go_wp2_with fail
    refine (HMK.out _).mono ?_
    rintro e w3 ⟨rfl, q3⟩
    have Q3 := Lib.hid (show Q w2 w3 from q3)
    clear q3
    go_wp2_with fail
    refine (HSET.out _).mono ?_
    rintro e w4 ⟨rfl, q4⟩
    have Q4 := Lib.hid (Q3.out.trans (Q.of q4))
    clear q4
    go_wp2_with fail
    refine (HTI.out _).mono ?_
    rintro e w5 ⟨rfl, q5⟩
    have Q5 := Lib.hid (Q4.out.trans q5)
    clear q5
    go_wp2_with fail
    have hr0 := own_lit w5 88 2 #[.int .i64 62, strV (titleL n)] rfl (by decide)
    have q6 : Q w5 (w5.alloc (.cells #[.int .i64 62, strV (titleL n)] 88)) := Q.alloc _ _
    have HR0 := Lib.hid hr0; have Q6 := Lib.hid q6
    clear hr0 q6
    generalize w5.alloc (.cells #[.int .i64 62, strV (titleL n)] 88) = w6 at *
    generalize partsN n = pn at *
    generalize hbb : bits0 n = bb at *
    go_loopw [10, 11] (fun v i wr => ∃ k : Nat, i = .int .i64 (k : Nat) ∧ k ≤ pn ∧ Hid (wr.ownsRow w5.heap.size 88 2 v (formatK n k).length (wrVs (formatK n k))) ∧ Hid (Q w5 wr)) (fun _ i _ => pn - (intOf i).toNat)
    case atStart => exact ⟨0, rfl, Nat.zero_le _, HR0, Q6⟩
    case round =>
      obtain ⟨k, rfl, hk, HOW, HQ⟩ := hrel
      by_cases hlt : k < pn
      · have hki : (k : Int) < (pn : Int) := by omega
        have hst := formatK_succ n k
        rw [hbb] at hst
        have hfl := formatK_len n k
        have HST := Lib.hid hst
        clear hst
        generalize formatK n k = acc at *
        have hx := HPR.out k hlt
        have hbl := HBL2.out
        have w1 : IntKind.i64.wrap (256 * (k : Int)) = 256 * (k : Int) := IntWalk.i64_in _ (by omega)
        have w2 : IntKind.i64.wrap (256 * (k : Int) + 256) = 256 * (k : Int) + 256 := IntWalk.i64_in _ (by omega)
        have n1 : (256 * (k : Int)).toNat = 256 * k := by omega
        have n2 : (256 * (k : Int) + 256).toNat = 256 * k + 256 := by omega
        have l1 : (0 : Int) ≤ 256 * (k : Int) := by omega
        have l2 : 256 * (k : Int) ≤ 256 * (k : Int) + 256 := by omega
        have l3 : 256 * (k : Int) + 256 ≤ (bb.length : Int) := by omega
        have hc1 : ∀ u ∈ #[Value.int .i64 (63 + (k : Int)), strV (partL bb k)].toList, u.oneCell' = true := by intro u hu; simp at hu; rcases hu with rfl | rfl <;> rfl
        have hc2 : (acc.length + 1) * 24 ≤ 140737488355328 := by omega
        have HC3 := Lib.hid hc1; have HC4 := Lib.hid hc2
        have hb0 : w5.heap.size ≤ wr.heap.size := HQ.out.size
        clear hc1 hc2 hfl hbl
        go_wp2_with fail
        refine (HPA.out _).mono ?_
        rintro e w8 ⟨rfl, rfl⟩
        go_wp2_with (at_builtin; refine wpList_app wr (by rfl) _ _ 72 (by rfl) w5.heap.size 88 _ i1 (.agg #[.int .i64 0, strV []]) 2 24 Tryz.underlying72 hi1 hy0 hy1 hy2 rfl (by decide) (by decide) _ _ _ (by rfl) HOW.out #[.int .i64 (63 + (k : Int)), strV (partL bb k)] (by rfl) rfl HC3.out HC4.out hb0 ?_)
        intro g11 cap11 w11 hr11 hg11 ho11 hlt11 hlt11b
        have hq21 : Q w5 w11 := grown_below HQ.out HOW.out hg11 (Nat.le_refl _) hb0
        have hr11' : w11.ownsRow w5.heap.size 88 2 (.slice (some ⟨g11, 0, none⟩) (acc.length + 1) cap11) (formatK n (k + 1)).length (wrVs (formatK n (k + 1))) := by
          rw [HST.out, List.length_append, wrVs_append, show wrVs [(63 + k, partL bb k)] = [.int .i64 (63 + (k : Int)), strV (partL bb k)] by simp [wrVs, encW]]; exact hr11
        have HQ11 := Lib.hid hq21; have HR11 := Lib.hid hr11'
        clear hr11 hg11 ho11 hlt11 hlt11b hr11' hq21
        go_wp2_with fail
        go_roundw
        case rel => exact ⟨k + 1, by go_num, by omega, HR11, HQ11⟩
        case measure => simp [intOf]; omega
      · have hki : ¬ (k : Int) < (pn : Int) := by omega
        obtain rfl : k = pn := by omega
        have hq : Q w2 wr := Q5.out.trans HQ.out
        have hjc := HJC.out wr _ p _ (HJ2.out.keep hq) (SlO.owned HOW.out (fun g hg e => by have := HJ2.out.lt g e; have := Q5.out.size; omega))
        have HJ := Lib.hid hjc; have HQW := Lib.hid hq
        clear hjc hq
        go_wp2_with fail
        refine (HPA.out _).mono ?_
        rintro e w8 ⟨rfl, rfl⟩
        go_wp2_with fail
        refine HJ.out.mono ?_
        rintro e w9 ⟨rfl, h9, t9⟩
        have hz1 := T1.out.size; have hz2 := T2.out.size; have hzq := HQW.out.size
        have hz9 := t9.size
        have tt : Turn F w w9 := (T1.out.step T2.out).step (((Turn.of_q HQW.out).trans (t9.mono (own' := grow (grow F w w1) w1 w2) (fun k hk => hk))).mono (fun k hk => grow_trans hz1 hz2 hk))
        have hd9 : RDevAt w9 (grow F w w9) b j2.d := h9.dev.mono (fun k hk => by
          rcases hk with (hk | hk) | hk
          · exact hk.elim .inl (fun hk => .inr ⟨hk.1, by omega⟩)
          · exact .inr ⟨by omega, by omega⟩
          · exact .inr ⟨by omega, hk.2⟩)
        have HT := Lib.hid tt; have HD := Lib.hid hd9
        clear tt hd9 h9 t9
        go_wp2_with fail
        go_ret
        exact ⟨rfl, HD.out, HT.out⟩
  · exact absurd rfl h0
abbrev openedS (d : DevL) : StL := ⟨(openJ d).1, mapD (openJ d).1.d, [], false, []⟩
theorem ROpen7_ok (w : World) (F : Nat → Prop) (b : Nat) (d : DevL) (h : RDevAt w F b d) (hF : ∀ k, F k → k < w.heap.size) {K : Nat} {s : SlotL} {kk : Nat} {fr : List (List WrL)} {C : Nat → Bytes} (hop : OpenPre 60 K d s kk fr C) (hg : GoodC d.l.length C) (hn : 128 ≤ d.l.length) (hK : K + 3 < 18446744073709551616) (hp : d.p.length ≤ 800000) (he : (openJ d).2 = 0) :
    Calls Tryz.prog 41 #[ptrV b, .int .i64 64] w fun e w' => ∃ sb, e = .returned (.tuple #[ptrV sb, .int .i64 0]) ∧ RStAt w' (grow F w w') sb b (openedS d) ∧ Turn F w w' := by
  obtain ⟨hok, hinv, hnn⟩ := open_good hop hg hn hK he
  have hjo := ROpen_live w F b d h hF hop hK hp (by omega)
  unfold ROpenEnd at hjo
  have hmx := hop.ok.max
  have hnum := hinv.num (by omega)
  have hbm := hinv.bitsK
  have hjp : (openJ d).1.d.p.length ≤ 1000000 := Nat.le_trans hinv.inv.plen (by decide)
  have hj60 : (openJ d).1.s.log = 60 := hinv.inv.hlog
  have h62 : (openedS d).get 62 = titleL d.l.length := by
    rw [hinv.get 62 (by omega) (by rw [hnn]; omega)]
    show updC C [] 62 = _
    rw [show updC C [] 62 = C 62 from rfl, hg.title]
  have hgl : ∀ i, i < (openedS d).n → ((openedS d).get i).length = 256 := fun i hi => DevL.get_len hinv.inv.ok i hi
  have hdd : (openedS d).dead = false := hok.live
  have hm1 : (openedS d).map1.length = 256 * partsN (openedS d).n := hnum.map
  have hhigh := hinv.map.high
  have hlow := hinv.map.low
  have hst : ∀ (W : World) (FJ : Nat → Prop) (p sb : Nat), RJrnAt W FJ p b (openJ d).1 → Blk W sb 129 #[ptrV p, .bool false, .slice none 0 0] → ¬ FJ sb → RStG W FJ sb b p (.slice none 0 0) (openedS d) := fun W FJ p sb h1 h2 h3 =>
    ⟨h2, h1, h3, ⟨Sl.nil _ _, fun hx => absurd hx (Nat.lt_irrefl 0)⟩⟩
  have hfd := firstD_lt d.l.length hn hmx
  rw [hnn] at hbm hm1 hhigh hlow
  have hbl := fun (W : World) (FJ : Nat → Prop) (p sb : Nat) (hr : RStG W FJ sb b p (.slice none 0 0) (openedS d)) => RBlocks7_any hr
  have hfs := fun (W : World) (FJ : Nat → Prop) (p sb : Nat) (hr : RStG W FJ sb b p (.slice none 0 0) (openedS d)) => RFirst7_any hr (by rw [hnn]; exact hmx)
  have hda := fun (W : World) (FJ : Nat → Prop) (p sb : Nat) (hr : RStG W FJ sb b p (.slice none 0 0) (openedS d)) => RData7_any hr (by rw [hnn]; exact hmx) hdd hjp List.Pairwise.nil (Nat.zero_le 1000) 62 (by rw [hnn]; omega)
  have hbi := fun (W : World) (FJ : Nat → Prop) (p sb : Nat) (hr : RStG W FJ sb b p (.slice none 0 0) (openedS d)) => RBits7_any hr (by rw [hnn]; exact hn) (by rw [hnn]; exact hmx) hdd hjp List.Pairwise.nil (Nat.zero_le 1000) hgl
  rw [hnn] at hbl hfs hbi
  rw [h62] at hda
  rw [hbm] at hbi
  have hti := fun (W : World) => RTitle_any d.l.length W (by omega)
  have hfn : firstN (openedS d).map1 (firstD d.l.length : Nat) = firstD d.l.length := by unfold firstN; rw [hm1]; have := partsN_pos d.l.length (by omega); omega
  have hfr := fun (W : World) => rFree_any (openedS d).map1 (firstD d.l.length : Nat) W (by rw [hm1]; omega) (by omega) (by omega)
  rw [hfn, cnt_zero _ _ hlow] at hfr
  have hge := fun (W : World) (i : Nat) (h1 : d.l.length ≤ i) (h2 : i ≤ 100000) => rget_any (openedS d).map1 (i : Int) W (by rw [hm1]; omega) (by omega)
  have hgf : ∀ i : Nat, d.l.length ≤ i → bitI (openedS d).map1 (i : Int) = false := fun i hi => by rw [bitI_nat]; exact hhigh i hi
  have hpn : partsN d.l.length ≤ 2 := hfd.2
  have hpp := partsN_pos d.l.length (by omega)
  have hlt2 : firstD d.l.length < d.l.length := hfd.1
  have HJO := Lib.hid hjo; have HST := Lib.hid hst; have HBL := Lib.hid hbl; have HFS := Lib.hid hfs; have HDA := Lib.hid hda; have HBI := Lib.hid hbi; have HTI := Lib.hid hti; have HFR := Lib.hid hfr; have HGE := Lib.hid hge; have HGF := Lib.hid hgf; have HF := Lib.hid hF; have HE := Lib.hid he; have HPP := Lib.hid hpp
  have HJ60 := Lib.hid hj60
  have htitle := titleL_length d.l.length
  clear hjo hst hbl hfs hda hbi hti hfr hge hgf hF he hpp hj60 hfn hlow hhigh hdd hgl h62 hjp hbm hnum hinv hok hop hg h hK hp hfd hnn
  generalize hns : (openedS d).map1 = mp at *
  generalize titleL d.l.length = tl at *
  generalize firstD d.l.length = fd at *
  generalize partsN d.l.length = pn at *
  have hd1 : decide (d.l.length < fd) = false := decide_eq_false (by omega)
  have hd1i : decide ((d.l.length : Int) < (fd : Int)) = false := decide_eq_false (by omega)
  go_enter Tryz.func41, Tryz.ntmps41
  go_wp2_with fail
  refine HJO.out.mono ?_
  rintro e w2 ⟨t2, ⟨_, p, rfl, hj2⟩ | ⟨h0, _⟩⟩
  · obtain ⟨wa, hwa⟩ : ∃ wa, wa = w2.alloc (.cells #[ptrV p, .bool false, .slice none 0 0] 129) := ⟨_, rfl⟩
    have qa : Q w2 wa := by rw [hwa]; exact Q.alloc _ _
    have hbx : Blk wa w2.heap.size 129 #[ptrV p, .bool false, .slice none 0 0] := by rw [hwa]; exact Blk.new w2 _ _
    have hnF : ¬ grow F w w2 w2.heap.size := fun hc => by have := hj2.lt _ hc; omega
    have hr := HST.out wa _ p w2.heap.size (hj2.keep qa) hbx hnF
    obtain ⟨j0, j1, j2, j3, _⟩ := (hj2.keep qa).box.c8
    rw [HJ60.out] at j3
    have HR := Lib.hid hr; have T2 := Lib.hid t2; have QA := Lib.hid qa
    have hsz : w2.heap.size < wa.heap.size := hbx.lt
    have hlt : ∀ k, grow F w w2 k → k < w2.heap.size := hj2.lt
    have HLT := Lib.hid hlt
    clear hr hbx hnF hj2 t2 qa j1 j2 j0 hlt
    go_wp2_with fail
    rw [← hwa]
    clear hwa
    refine (HBL.out _ _ _ _ HR.out).mono ?_
    rintro e w3 ⟨rfl, rfl⟩
    go_wp2_with fail
    refine (HFS.out _ _ _ _ HR.out).mono ?_
    rintro e w3 ⟨rfl, rfl⟩
    go_wp2_with fail
    refine (HDA.out _ _ _ _ HR.out).mono ?_
    rintro e w3 ⟨rfl, q3⟩
    have HR3 := Lib.hid (HR.out.keep q3); have QA3 := Lib.hid (QA.out.trans q3)
    have hz3 := q3.size
    clear q3 HR j3
    go_wp2_with fail
    refine (HTI.out _).mono ?_
    rintro e w4 ⟨rfl, q4⟩
    have HR4 := Lib.hid (HR3.out.keep q4); have QA4 := Lib.hid (QA3.out.trans q4)
    have hz4 := q4.size
    clear q4 HR3 QA3
    go_wp2_with fail
    refine (HBI.out _ _ _ _ HR4.out).mono ?_
    rintro e w5 ⟨rfl, q5⟩
    have HR5 := Lib.hid (HR4.out.keep q5); have QA5 := Lib.hid (QA4.out.trans q5)
    have hz5 := q5.size
    clear q5 HR4 QA4
    go_wp2_with fail
    refine (HFS.out _ _ _ _ HR5.out).mono ?_
    rintro e w6 ⟨rfl, rfl⟩
    go_wp2_with fail
    refine (HFR.out _).mono ?_
    rintro e w6 ⟨rfl, rfl⟩
    go_wp2_with fail
    have hb8 : (8 : Int) * (mp.length : Int) ≤ 100000 := by omega
    have hb8n : d.l.length ≤ 8 * mp.length := by have := HPP.out; omega
    have HB8 := Lib.hid hb8n
    clear hb8n
    go_loop [11] (fun v => ∃ k : Nat, v = .int .i64 (k : Nat) ∧ d.l.length ≤ k ∧ k ≤ 8 * mp.length) (fun v => 8 * mp.length - (intOf v).toNat)
    case atStart => exact ⟨d.l.length, rfl, Nat.le_refl _, HB8.out⟩
    case round =>
      obtain ⟨k, rfl, hk1, hk2⟩ := hrel
      by_cases hlt : k < 8 * mp.length
      · have hki : (k : Int) < 8 * (mp.length : Int) := by omega
        have hg1 := fun (W : World) => HGE.out W k hk1 (by omega)
        rw [HGF.out k hk1] at hg1
        have HG1 := Lib.hid hg1
        clear hg1
        go_wp2_with fail
        refine (HG1.out _).mono ?_
        rintro e w7 ⟨rfl, rfl⟩
        go_wp2_with fail
        go_round
        case rel => exact ⟨k + 1, by go_num, by omega, by omega⟩
        case measure => simp [intOf]; omega
      · have hki : ¬ (k : Int) < 8 * (mp.length : Int) := by omega
        go_wp2_with fail
        go_ret2
        have hw2 := T2.out.size; have hqa := QA5.out.size
        refine ⟨_, rfl, ⟨grow F w w2, p, .slice none 0 0, HR5.out, fun k hk => ?_, fun g off n cap e => by simp at e, fun k hk => ?_⟩, T2.out.trans (Turn.of_q QA5.out)⟩
        · rcases hk with (hk | hk) | hk
          · exact .inl hk
          · exact .inr ⟨hk.1, by omega⟩
          · subst hk; exact .inr ⟨by omega, by omega⟩
        · rcases hk with hk | hk
          · have := HF.out k hk; omega
          · exact hk.2
  · exact absurd HE.out h0
end
end Go.Proofs.YtnmijegmbomfdaaGreatDoor
