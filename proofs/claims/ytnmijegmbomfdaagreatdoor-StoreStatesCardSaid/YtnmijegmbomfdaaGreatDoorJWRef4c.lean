/- Joined texts of one proof: what is needed of WRef4c, WRef4d, WRef4e, WRef3b. -/
import Derived.Test.YtnmijegmbomfdaaGreatDoorJWJrnI
import Derived.Test.YtnmijegmbomfdaaGreatDoorJWRDevD
import Derived.Test.YtnmijegmbomfdaaGreatDoorJWFrmD
set_option linter.unusedSimpArgs false
set_option linter.unusedVariables false
set_option linter.unnecessarySimpa false
set_option maxRecDepth 100000
set_option maxHeartbeats 16000000
namespace Go.Proofs.YtnmijegmbomfdaaGreatDoor
section
open Go.RowKit
theorem RJrnAt.next {A B C : World} {F : Nat → Prop} {p b : Nat} {j : JL} (hl : ∀ k, F k → k < A.heap.size) (t1 : Turn F A B) (h : RJrnAt C (grow (grow F A B) B C) p b j) (t2 : Turn (grow F A B) B C) : RJrnAt C (grow F A C) p b j ∧ Turn F A C := by
  have t := t1.step t2
  exact ⟨h.mono (fun k hk => grow_trans t1.size t2.size hk) (fun k hk => hk.elim (fun hk => Nat.lt_of_lt_of_le (hl k hk) t.size) (fun hk => hk.2)), t⟩
theorem lays_one (d : DevL) (x : WrL) : d.lays [x] = if (d.write (x.1 : Nat) x.2).2 = 0 then (d.write (x.1 : Nat) x.2).1.flush else d.write (x.1 : Nat) x.2 := by
  unfold DevL.lays
  rw [DevL.writes]
  by_cases h : (d.write (x.1 : Nat) x.2).2 = 0
  · rw [if_pos h, if_pos h]
    rfl
  · rw [if_neg h, if_neg h]
theorem ckpt_turns (j : JL) :
    j.ckpt = if (j.d.write (j.place 0 : Nat) noughtsL).2 ≠ 0 then ({ j with d := (j.d.write (j.place 0 : Nat) noughtsL).1 }, (j.d.write (j.place 0 : Nat) noughtsL).2) else
      if ((j.d.write (j.place 0 : Nat) noughtsL).1.flush).2 ≠ 0 then ({ j with d := (j.d.write (j.place 0 : Nat) noughtsL).1.flush.1 }, (j.d.write (j.place 0 : Nat) noughtsL).1.flush.2) else
      if (((j.d.write (j.place 0 : Nat) noughtsL).1.flush).1.write ((1 - j.k : Nat) : Nat) (slotT j.nextSlot)).2 ≠ 0 then ({ j with d := (((j.d.write (j.place 0 : Nat) noughtsL).1.flush).1.write ((1 - j.k : Nat) : Nat) (slotT j.nextSlot)).1 }, (((j.d.write (j.place 0 : Nat) noughtsL).1.flush).1.write ((1 - j.k : Nat) : Nat) (slotT j.nextSlot)).2) else
      if ((((j.d.write (j.place 0 : Nat) noughtsL).1.flush).1.write ((1 - j.k : Nat) : Nat) (slotT j.nextSlot)).1.flush).2 ≠ 0 then ({ j with d := (((j.d.write (j.place 0 : Nat) noughtsL).1.flush).1.write ((1 - j.k : Nat) : Nat) (slotT j.nextSlot)).1.flush.1 }, (((j.d.write (j.place 0 : Nat) noughtsL).1.flush).1.write ((1 - j.k : Nat) : Nat) (slotT j.nextSlot)).1.flush.2) else
      (⟨(((j.d.write (j.place 0 : Nat) noughtsL).1.flush).1.write ((1 - j.k : Nat) : Nat) (slotT j.nextSlot)).1.flush.1, j.nextSlot, 1 - j.k, j.next, 0⟩, 0) := by
  unfold JL.ckpt JL.ckpt2 JL.ckpt1
  simp only [lays_one]
  generalize j.d.write (j.place 0 : Nat) noughtsL = dA
  by_cases h1 : dA.2 = 0
  · simp only [h1, if_true, ne_eq, not_true, if_false]
    generalize dA.1.flush = dB
    by_cases h2 : dB.2 = 0
    · simp only [h2, if_true, ne_eq, not_true, if_false]
      generalize dB.1.write ((1 - j.k : Nat) : Nat) (slotT j.nextSlot) = dC
      by_cases h3 : dC.2 = 0
      · simp only [h3, if_true, ne_eq, not_true, if_false]
      · simp only [h3, ne_eq, not_false_eq_true, if_true, if_false]
    · simp only [h2, ne_eq, not_false_eq_true, if_true]
  · simp only [h1, ne_eq, not_false_eq_true, if_true, if_false]
theorem RCkpt_any (w : World) (F : Nat → Prop) (p b : Nat) (j : JL) (h : RJrnAt w F p b j) (hn : JNum j) :
    Calls Tryz.prog 131 #[ptrV p] w fun e w' => e = .returned (.int .i64 j.ckpt.2) ∧ RJrnAt w' (grow F w w') p b j.ckpt.1 ∧ Turn F w w' := by
  have hpl := fun (W : World) (q : Q w W) => RPlace_any W p b j j.used (h.box.stays q) hn.log hn.log2 hn.place (by have := hn.used; omega)
  have hp0 : logAt j.s j.used = j.place 0 := by unfold JL.place; rfl
  have hplt : j.place 0 ≤ 2000000 := by have := (logAt_lt j.s (j.used + 0) hn.log).2; have := hn.log2; unfold JL.place; omega
  rw [hp0] at hpl
  have hwA := h.write hn.ok (fun hx => by have := hn.plen hx; omega) (j.place 0 : Nat) noughtsL (by rw [noughts_len]; omega)
  have hck := ckpt_turns j
  have hokA := DevL.write_ok hn.ok (j.place 0 : Nat) noughtsL
  have hpA : (j.d.write (j.place 0 : Nat) noughtsL).1.dead = false → (j.d.write (j.place 0 : Nat) noughtsL).1.p.length ≤ 900001 := fun hx => by
    have h1 := hn.plen (DevL.write_live _ _ _ hx)
    have h2 := DevL.write_p j.d (j.place 0 : Nat) noughtsL
    omega
  have hno := fun (W : World) => RNoughts_any W
  have hlt := h.lt
  obtain ⟨c0, c1, c2, c3, c4, c5, c6, c7⟩ := h.box.c8
  generalize j.d.write (j.place 0 : Nat) noughtsL = dA at *
  have HPL := Lib.hid hpl; have HWA := Lib.hid hwA; have HCK := Lib.hid hck; have HOKA := Lib.hid hokA; have HPA := Lib.hid hpA; have HN := Lib.hid hn; have HNO := Lib.hid hno; have HLT := Lib.hid hlt
  have KK := Lib.hid (Q.refl w)
  clear hpl hwA hck hokA hpA hn hno hlt h hp0
  go_enter Tryz.func131, Tryz.ntmps131
  go_wp2_with fail
  go_region_held3 (fun w' => w'.cell? ⟨p, 0, none⟩ = some (ptrV b) ∧ w'.cell? ⟨p, 7, none⟩ = some (.int .i64 (j.used : Nat)))
    (first | exact g0 | exact ⟨c0, c7⟩ | exact two (by repeat (first | with_reducible exact KK.out | with_reducible exact Q.refl _ | with_reducible apply Qs.dr | with_reducible apply Qs.al)) c0 c7)
    (first
      | (go_at_call 163; with_reducible refine (HPL.out _ (by repeat (first | with_reducible exact KK.out | with_reducible apply Qs.dr | with_reducible apply Qs.al))).mono ?_; rintro e w1 ⟨rfl, q1⟩; have s' : Q w w1 := Q.trans (by repeat (first | with_reducible exact KK.out | with_reducible apply Qs.dr | with_reducible apply Qs.al)) q1; clear KK; have KK := Lib.hid s'; clear s' q1)
      | (go_at_call 84; with_reducible refine (HNO.out _).mono ?_; rintro e w2 ⟨rfl, q2⟩; have s' : Q w w2 := Q.trans (by repeat (first | with_reducible exact KK.out | with_reducible apply Qs.dr | with_reducible apply Qs.al)) q2; clear KK; have KK := Lib.hid s'; clear s' q2)
      | (go_at_call 125; with_reducible refine (HWA.out _ (by repeat (first | with_reducible exact KK.out | with_reducible apply Qs.dr | with_reducible apply Qs.al))).mono ?_; rintro e w3 ⟨rfl, h3, t3⟩; have g := RJrnAt.box h3; have g := Blk.c8 g; have g0 := And.intro g.1 g.2.2.2.2.2.2.2; clear g; have H3 := Lib.hid h3; have T3 := Lib.hid t3; clear h3 t3))
  all_goals
    clear c0 c1 c2 c3 c4 c5 c6 c7
    try clear g0
    by_cases hzA : dA.2 = 0
    case neg =>
      have e1 : (dA.2 == 0) = false := beq_eq_false_iff_ne.2 hzA
      have hck := HCK.out
      rw [if_pos hzA] at hck
      have HCK1 := Lib.hid hck
      clear hck hzA
      go_wp2_with fail
      go_ret
      rw [HCK1.out]
      exact ⟨rfl, H3.out, T3.out⟩
    have e1 : (dA.2 == 0) = true := beq_iff_eq.2 hzA
    have hck := HCK.out
    rw [if_neg (by rw [hzA]; simp)] at hck
    have hfB := H3.out.flush HOKA.out (fun hx => by have h1 := HPA.out hx; show dA.1.p.length ≤ _; omega) w3 (Q.refl _)
    have hokB := DevL.flush_ok HOKA.out
    have hpB : dA.1.flush.1.dead = false → dA.1.flush.1.p.length ≤ 900001 := fun hx => by
      have := HPA.out (DevL.flush_live _ hx); have := DevL.flush_p dA.1; omega
    simp only at hfB hokB hpB
    generalize dA.1.flush = dB at *
    obtain ⟨k0, _⟩ := H3.out.box.c8
    have HCK1 := Lib.hid hck; have HFB := Lib.hid hfB; have HOKB := Lib.hid hokB; have HPB := Lib.hid hpB
    clear hck hzA hfB hokB hpB HCK
    go_wp2_with fail
    refine HFB.out.mono ?_
    rintro e w4 ⟨rfl, h4, t4⟩
    have hs4 := RJrnAt.next HLT.out T3.out h4 t4
    have H4 := Lib.hid hs4.1; have T4 := Lib.hid hs4.2
    clear hs4 h4 t4 k0
    by_cases hzB : dB.2 = 0
    case neg =>
      have e2 : (dB.2 == 0) = false := beq_eq_false_iff_ne.2 hzB
      have hck := HCK1.out
      rw [if_pos hzB] at hck
      have HCK2 := Lib.hid hck
      clear hck hzB
      go_wp2_with fail
      go_ret
      rw [HCK2.out]
      exact ⟨rfl, H4.out, T4.out⟩
    have e2 : (dB.2 == 0) = true := beq_iff_eq.2 hzB
    have hck := HCK1.out
    rw [if_neg (by rw [hzB]; simp)] at hck
    have HCK2 := Lib.hid hck
    clear hck hzB HCK1
    obtain ⟨c0, c1, c2, c3, c4, c5, c6, c7⟩ := H4.out.box.c8
    simp only at c0 c1 c2 c3 c4 c5 c6 c7
    have hl0 : ¬ ((j.s.log : Nat) : Int) = 0 := by have := HN.out.log; omega
    have hl00 : ¬ j.s.log = 0 := by have := HN.out.log; omega
    have hwe : IntKind.u64.wrap ((j.s.e : Int) + 1) = (((j.s.e + 1) % 18446744073709551616 : Nat) : Int) := by simp [IntKind.wrap, IntKind.bits, IntKind.signed]
    have hwp : IntKind.i64.wrap ((j.s.place : Int) + (j.used : Int)) = ((j.s.place + j.used : Nat) : Int) := by have := HN.out.place; have := HN.out.used; rw [IntWalk.i64_in _ (by omega)]; omega
    have hwm : (((j.s.place + j.used : Nat) : Int)).tmod ((j.s.log : Nat) : Int) = (((j.s.place + j.used) % j.s.log : Nat) : Int) := by rfl
    have hwm2 : IntKind.i64.wrap (((j.s.place + j.used) % j.s.log : Nat) : Int) = (((j.s.place + j.used) % j.s.log : Nat) : Int) := by have := Nat.mod_lt (j.s.place + j.used) HN.out.log; have := HN.out.log2; rw [IntWalk.i64_in _ (by omega)]
    go_wp2_with fail
    go_region_held3 (fun w' => w'.cell? ⟨p, 1, none⟩ = some (.int .u64 (j.s.e : Nat)) ∧ w'.cell? ⟨p, 3, none⟩ = some (.int .i64 (j.s.log : Nat)) ∧ w'.cell? ⟨p, 4, none⟩ = some (.int .i64 (j.s.place : Nat)) ∧ w'.cell? ⟨p, 6, none⟩ = some (.int .u64 (j.next : Nat)) ∧ w'.cell? ⟨p, 7, none⟩ = some (.int .i64 (j.used : Nat)))
      (first | exact ⟨c1, c3, c4, c6, c7⟩ | exact five (by repeat (first | with_reducible exact Q.refl _ | with_reducible apply Qs.dr | with_reducible apply Qs.al | with_reducible refine Qs.st ?_ _ _ (Nat.le_refl _))) c1 c3 c4 c6 c7)
      (fail)
    all_goals
      have he : (((j.s.e : Int) + 1) % 18446744073709551616) = ((j.nextSlot.e : Nat) : Int) := by
        show (((j.s.e : Int) + 1) % 18446744073709551616) = (((j.s.e + 1) % 18446744073709551616 : Nat) : Int)
        omega
      have hpm : (((j.s.place : Int) + (j.used : Int)).tmod (j.s.log : Int)) = ((j.nextSlot.place : Nat) : Int) := rfl
      rw [he, hpm]
      have cst := fun (W : World) => RText4_any j.nextSlot HN.out.nslot W
      have hns : j.nextSlot.s = j.next := rfl
      have hnl : j.nextSlot.log = j.s.log := rfl
      rw [hns, hnl] at cst
      have CST := Lib.hid cst
      have hq5 : Q w4 ((w4.alloc (.cells #[.int .u64 (j.nextSlot.e : Nat), .int .u64 (j.next : Nat), .int .i64 (j.s.log : Nat), .int .i64 (j.nextSlot.place : Nat)] 131)).drew) := Qs.dr (Qs.al (Q.refl _) _)
      have hb5 : Blk ((w4.alloc (.cells #[.int .u64 (j.nextSlot.e : Nat), .int .u64 (j.next : Nat), .int .i64 (j.s.log : Nat), .int .i64 (j.nextSlot.place : Nat)] 131)).drew) w4.heap.size 131 #[.int .u64 (j.nextSlot.e : Nat), .int .u64 (j.next : Nat), .int .i64 (j.s.log : Nat), .int .i64 (j.nextSlot.place : Nat)] := Blk.new w4 _ _
      generalize hV : (w4.alloc (.cells #[.int .u64 (j.nextSlot.e : Nat), .int .u64 (j.next : Nat), .int .i64 (j.s.log : Nat), .int .i64 (j.nextSlot.place : Nat)] 131)).drew = w5 at *
      clear hV cst hns hnl he hpm hwe hwp hwm hwm2
      have h5 := H4.out.keep hq5
      have hlt5 : ∀ k, grow F w w4 k → k < w5.heap.size := h5.lt
      obtain ⟨d0, d1, d2, d3, d4, d5, d6, d7⟩ := h5.box.c8
      simp only at d0 d5
      obtain ⟨s0, s1, s2, s3, _⟩ := hb5.c4
      have hwk : IntKind.i64.wrap (1 - (j.k : Int)) = ((1 - j.k : Nat) : Int) := by have := HN.out.k; rw [IntWalk.i64_in _ (by omega)]; omega
      have hwC := h5.write HOKB.out (fun hx => by have h1 := HPB.out hx; show dB.1.p.length ≤ _; omega) ((1 - j.k : Nat) : Nat) (slotT j.nextSlot) (by rw [slotT_length]; omega)
      simp only at hwC
      have hokC := DevL.write_ok HOKB.out ((1 - j.k : Nat) : Nat) (slotT j.nextSlot)
      have hpC : (dB.1.write ((1 - j.k : Nat) : Nat) (slotT j.nextSlot)).1.dead = false → (dB.1.write ((1 - j.k : Nat) : Nat) (slotT j.nextSlot)).1.p.length ≤ 900002 := fun hx => by
        have h1 := HPB.out (DevL.write_live _ _ _ hx)
        have h2 := DevL.write_p dB.1 ((1 - j.k : Nat) : Nat) (slotT j.nextSlot)
        omega
      have hck := HCK2.out
      generalize dB.1.write ((1 - j.k : Nat) : Nat) (slotT j.nextSlot) = dC at *
      have hnb : w4.heap.size < w5.heap.size := hb5.lt
      have HWC := Lib.hid hwC; have HOKC := Lib.hid hokC; have HPC := Lib.hid hpC; have HCK3 := Lib.hid hck; have HB5 := Lib.hid hb5; have H5 := Lib.hid h5; have HQ5 := Lib.hid hq5
      have hng : ¬ grow F w w4 w4.heap.size := fun hc => by have := H4.out.lt _ hc; omega
      have HNG := Lib.hid hng
      clear hwC hokC hpC hck hb5 h5 hq5 c0 c1 c2 c3 c4 c5 c6 c7 d1 d2 d3 d4 d6 d7 hlt5 HCK2 hng KK
      generalize slotT j.nextSlot = st at *
      have KK := Lib.hid (Q.refl w5)
      go_wp2_with fail
      go_region_held3 (fun w' => w'.cell? ⟨p, 5, none⟩ = some (.int .i64 (j.k : Nat)) ∧ w'.cell? ⟨p, 0, none⟩ = some (ptrV b) ∧ w'.cell? ⟨w4.heap.size, 0, none⟩ = some (.int .u64 (j.nextSlot.e : Nat)) ∧ w'.cell? ⟨w4.heap.size, 1, none⟩ = some (.int .u64 (j.next : Nat)) ∧ w'.cell? ⟨w4.heap.size, 2, none⟩ = some (.int .i64 (j.s.log : Nat)) ∧ w'.cell? ⟨w4.heap.size, 3, none⟩ = some (.int .i64 (j.nextSlot.place : Nat)))
        (first | exact g0 | exact ⟨d5, d0, s0, s1, s2, s3⟩ | exact And.intro (cellQ (by repeat (first | with_reducible exact KK.out | with_reducible apply Qs.dr | with_reducible apply Qs.al)) d5) (five (by repeat (first | with_reducible exact KK.out | with_reducible apply Qs.dr | with_reducible apply Qs.al)) d0 s0 s1 s2 s3))
        (first
          | (go_at_call 126; with_reducible refine (CST.out _).mono ?_; rintro e w6 ⟨rfl, q6⟩; have s' : Q w5 w6 := Q.trans (by repeat (first | with_reducible exact KK.out | with_reducible apply Qs.dr | with_reducible apply Qs.al)) q6; clear KK; have KK := Lib.hid s'; clear s' q6)
          | (go_at_call 125; with_reducible refine (HWC.out _ (by repeat (first | with_reducible exact KK.out | with_reducible apply Qs.dr | with_reducible apply Qs.al))).mono ?_; rintro e w7 ⟨rfl, h7, t7⟩; have g := Blk.c8 (RJrnAt.box h7); have g0 := And.intro g.2.2.2.2.2.1 (And.intro g.1 (And.intro (Turn.cell t7 s0 HNG.out) (And.intro (Turn.cell t7 s1 HNG.out) (And.intro (Turn.cell t7 s2 HNG.out) (Turn.cell t7 s3 HNG.out))))); clear g; have H7 := Lib.hid h7; have T7 := Lib.hid t7; clear h7 t7))
      all_goals
        clear d0 d5 s0 s1 s2 s3
        obtain ⟨_, _, z0, z1, z2, z3⟩ := g0
        have t47 : Turn (grow F w w4) w4 w7 := (Turn.of_q HQ5.out).trans T7.out
        have h47 : RJrnAt w7 (grow (grow F w w4) w4 w7) p b { j with d := dC.1 } := H7.out.mono (fun k hk => hk.elim .inl (fun hk => .inr ⟨Nat.le_trans HQ5.out.size hk.1, hk.2⟩)) (fun k hk => hk.elim (fun hk => Nat.lt_of_lt_of_le (H4.out.lt k hk) t47.size) (fun hk => hk.2))
        have hs7 := RJrnAt.next HLT.out T4.out h47 t47
        have HS7 := Lib.hid hs7
        have hn7 : ¬ grow (grow F w w4) w5 w7 w4.heap.size := fun hc => hc.elim HNG.out (fun hc => by omega)
        have HN7 := Lib.hid hn7
        clear t47 h47 hs7 hn7
        by_cases hzC : dC.2 = 0
        case neg =>
          have e3 : (dC.2 == 0) = false := beq_eq_false_iff_ne.2 hzC
          have hck := HCK3.out
          rw [if_pos hzC] at hck
          have HCK4 := Lib.hid hck
          clear hck hzC
          go_wp2_with fail
          go_ret
          rw [HCK4.out]
          exact ⟨rfl, HS7.out.1, HS7.out.2⟩
        have e3 : (dC.2 == 0) = true := beq_iff_eq.2 hzC
        have hck := HCK3.out
        rw [if_neg (by rw [hzC]; simp)] at hck
        have hfD := H7.out.flush HOKC.out (fun hx => by have h1 := HPC.out hx; show dC.1.p.length ≤ _; omega) w7 (Q.refl _)
        simp only at hfD
        generalize dC.1.flush = dD at *
        obtain ⟨k0, _⟩ := HS7.out.1.box.c8
        have HCK4 := Lib.hid hck; have HFD := Lib.hid hfD
        clear hck hzC hfD HCK3
        go_wp2_with fail
        refine HFD.out.mono ?_
        rintro e w8 ⟨rfl, h8, t8⟩
        have y0 := t8.cell z0 HN7.out; have y1 := t8.cell z1 HN7.out; have y2 := t8.cell z2 HN7.out; have y3 := t8.cell z3 HN7.out
        have t48 : Turn (grow F w w4) w4 w8 := (Turn.of_q HQ5.out).trans (T7.out.step t8)
        have h48 : RJrnAt w8 (grow (grow F w w4) w4 w8) p b { j with d := dD.1 } := h8.mono (fun k hk => by
          have hz5 := HQ5.out.size; have hz7 := T7.out.size
          rcases hk with (hk | hk) | hk
          · exact .inl hk
          · exact .inr ⟨by omega, by have := t8.size; omega⟩
          · exact .inr ⟨by omega, hk.2⟩) (fun k hk => hk.elim (fun hk => Nat.lt_of_lt_of_le (H4.out.lt k hk) t48.size) (fun hk => hk.2))
        have hs8 := RJrnAt.next HLT.out T4.out h48 t48
        have HS8 := Lib.hid hs8
        clear hs8 k0 t48 h48 h8 t8 z0 z1 z2 z3
        by_cases hzD : dD.2 = 0
        case neg =>
          have e4 : (dD.2 == 0) = false := beq_eq_false_iff_ne.2 hzD
          have hck := HCK4.out
          rw [if_pos hzD] at hck
          have HCK5 := Lib.hid hck
          clear hck hzD
          go_wp2_with fail
          go_ret
          rw [HCK5.out]
          exact ⟨rfl, HS8.out.1, HS8.out.2⟩
        have e4 : (dD.2 == 0) = true := beq_iff_eq.2 hzD
        have hck := HCK4.out
        rw [if_neg (by rw [hzD]; simp)] at hck
        have HCK5 := Lib.hid hck
        clear hck hzD HCK4
        have hbx8 := HS8.out.1.box
        obtain ⟨d0, d1, d2, d3, d4, d5, d6, d7⟩ := hbx8.c8
        have f1 := hbx8.frozen 1; have f2 := hbx8.frozen 2; have f3 := hbx8.frozen 3; have f4 := hbx8.frozen 4; have f5 := hbx8.frozen 5; have f7 := hbx8.frozen 7
        have hbx : Blk ((((((w8.setCell ⟨p, 1, none⟩ (.int .u64 (j.nextSlot.e : Nat))).setCell ⟨p, 2, none⟩ (.int .u64 (j.next : Nat))).setCell ⟨p, 3, none⟩ (.int .i64 (j.s.log : Nat))).setCell ⟨p, 4, none⟩ (.int .i64 (j.nextSlot.place : Nat))).setCell ⟨p, 5, none⟩ (.int .i64 ((1 - j.k : Nat) : Int))).setCell ⟨p, 7, none⟩ (.int .i64 0)) p 133 (jcells b ⟨dD.1, j.nextSlot, 1 - j.k, j.next, 0⟩) := ((((((hbx8.set 1 (.int .u64 (j.nextSlot.e : Nat))).set 2 (.int .u64 (j.next : Nat))).set 3 (.int .i64 (j.s.log : Nat))).set 4 (.int .i64 (j.nextSlot.place : Nat))).set 5 (.int .i64 ((1 - j.k : Nat) : Int))).set 7 (.int .i64 0))
        have ht : Turn (fun k => k = p) w8 ((((((w8.setCell ⟨p, 1, none⟩ (.int .u64 (j.nextSlot.e : Nat))).setCell ⟨p, 2, none⟩ (.int .u64 (j.next : Nat))).setCell ⟨p, 3, none⟩ (.int .i64 (j.s.log : Nat))).setCell ⟨p, 4, none⟩ (.int .i64 (j.nextSlot.place : Nat))).setCell ⟨p, 5, none⟩ (.int .i64 ((1 - j.k : Nat) : Int))).setCell ⟨p, 7, none⟩ (.int .i64 0)) := (Turn.setCell (a := ⟨p, 7, none⟩) (Turn.setCell (a := ⟨p, 5, none⟩) (Turn.setCell (a := ⟨p, 4, none⟩) (Turn.setCell (a := ⟨p, 3, none⟩) (Turn.setCell (a := ⟨p, 2, none⟩) (Turn.setCell (a := ⟨p, 1, none⟩) (Turn.refl (fun k => k = p) w8) (.inl rfl) (.int .u64 (j.nextSlot.e : Nat))) (.inl rfl) (.int .u64 (j.next : Nat))) (.inl rfl) (.int .i64 (j.s.log : Nat))) (.inl rfl) (.int .i64 (j.nextSlot.place : Nat))) (.inl rfl) (.int .i64 ((1 - j.k : Nat) : Int))) (.inl rfl) (.int .i64 0))
        have hsz : ((((((w8.setCell ⟨p, 1, none⟩ (.int .u64 (j.nextSlot.e : Nat))).setCell ⟨p, 2, none⟩ (.int .u64 (j.next : Nat))).setCell ⟨p, 3, none⟩ (.int .i64 (j.s.log : Nat))).setCell ⟨p, 4, none⟩ (.int .i64 (j.nextSlot.place : Nat))).setCell ⟨p, 5, none⟩ (.int .i64 ((1 - j.k : Nat) : Int))).setCell ⟨p, 7, none⟩ (.int .i64 0)).heap.size = w8.heap.size := by simp only [setCell_size]
        have hjt : RJrnAt ((((((w8.setCell ⟨p, 1, none⟩ (.int .u64 (j.nextSlot.e : Nat))).setCell ⟨p, 2, none⟩ (.int .u64 (j.next : Nat))).setCell ⟨p, 3, none⟩ (.int .i64 (j.s.log : Nat))).setCell ⟨p, 4, none⟩ (.int .i64 (j.nextSlot.place : Nat))).setCell ⟨p, 5, none⟩ (.int .i64 ((1 - j.k : Nat) : Int))).setCell ⟨p, 7, none⟩ (.int .i64 0)) (grow F w w8) p b ⟨dD.1, j.nextSlot, 1 - j.k, j.next, 0⟩ := HS8.out.1.turned hbx rfl ht
        have hjw : RJrnAt ((((((w8.setCell ⟨p, 1, none⟩ (.int .u64 (j.nextSlot.e : Nat))).setCell ⟨p, 2, none⟩ (.int .u64 (j.next : Nat))).setCell ⟨p, 3, none⟩ (.int .i64 (j.s.log : Nat))).setCell ⟨p, 4, none⟩ (.int .i64 (j.nextSlot.place : Nat))).setCell ⟨p, 5, none⟩ (.int .i64 ((1 - j.k : Nat) : Int))).setCell ⟨p, 7, none⟩ (.int .i64 0)) (grow F w ((((((w8.setCell ⟨p, 1, none⟩ (.int .u64 (j.nextSlot.e : Nat))).setCell ⟨p, 2, none⟩ (.int .u64 (j.next : Nat))).setCell ⟨p, 3, none⟩ (.int .i64 (j.s.log : Nat))).setCell ⟨p, 4, none⟩ (.int .i64 (j.nextSlot.place : Nat))).setCell ⟨p, 5, none⟩ (.int .i64 ((1 - j.k : Nat) : Int))).setCell ⟨p, 7, none⟩ (.int .i64 0))) p b ⟨dD.1, j.nextSlot, 1 - j.k, j.next, 0⟩ := hjt.mono (fun k hk => hk.elim .inl (fun hk => .inr ⟨hk.1, by rw [hsz]; exact hk.2⟩)) (fun k hk => hk.elim (fun hk => Nat.lt_of_lt_of_le (HLT.out k hk) (by rw [hsz]; exact HS8.out.2.size)) (fun hk => hk.2))
        have htw : Turn F w ((((((w8.setCell ⟨p, 1, none⟩ (.int .u64 (j.nextSlot.e : Nat))).setCell ⟨p, 2, none⟩ (.int .u64 (j.next : Nat))).setCell ⟨p, 3, none⟩ (.int .i64 (j.s.log : Nat))).setCell ⟨p, 4, none⟩ (.int .i64 (j.nextSlot.place : Nat))).setCell ⟨p, 5, none⟩ (.int .i64 ((1 - j.k : Nat) : Int))).setCell ⟨p, 7, none⟩ (.int .i64 0)) := HS8.out.2.step (ht.mono (fun k hk => by subst hk; exact HS8.out.1.fp))
        have HJW := Lib.hid hjw; have HTW := Lib.hid htw
        clear hbx ht hsz hjt hjw htw hbx8
        go_wp2_with fail
        go_ret
        rw [HCK5.out]
        exact ⟨rfl, HJW.out, HTW.out⟩
theorem logW_at (j : JL) (ws : List WrL) (k : Nat) (h : k < ws.length) : (j.logW ws)[k]? = some (j.place (k + 1), ws[k].2) := by
  unfold JL.logW
  rw [List.getElem?_map, List.getElem?_zipIdx, List.getElem?_append_left (by simpa using h)]
  simp [h]
theorem logW_end (j : JL) (ws : List WrL) : (j.logW ws)[ws.length]? = some (j.place (ws.length + 1), noughtsL) := by
  unfold JL.logW
  rw [List.getElem?_map, List.getElem?_zipIdx, List.getElem?_append_right (by simp)]
  simp
theorem logW_len4 (j : JL) (ws : List WrL) : (j.logW ws).length = ws.length + 1 := by simp [JL.logW]
theorem drop_at {α : Type} {l : List α} {k : Nat} {x : α} (h : l[k]? = some x) : l.drop k = x :: l.drop (k + 1) := by
  obtain ⟨hk, rfl⟩ := List.getElem?_eq_some_iff.1 h
  exact List.drop_eq_getElem_cons hk
def JL.logR (j : JL) (ws : List WrL) : DevL × Int := if (j.com1 ws).2 ≠ 0 then j.com1 ws else j.com2 ws
theorem RLog_any (w : World) (F : Nat → Prop) (p b : Nat) (j : JL) (lv : Value) (ws : List WrL) (h : RJrnAt w F p b j) (hn : JNum j) (hw : WrOk ws) (hl : SlO w F lv (ws.length + 1) 1 ((packL j.next ws).map strV)) :
    Calls Tryz.prog 136 #[ptrV p, lv] w fun e w' => e = .returned (.int .i64 (j.logR ws).2) ∧ RJrnAt w' (grow F w w') p b { j with d := (j.logR ws).1 } ∧ Turn F w w' := by
  obtain ⟨la, lc, rfl, hlc⟩ := hl.value
  have hcell : ∀ k (hk : k < ws.length), ∃ lb lo, la = some ⟨lb, lo, none⟩ ∧ lb < w.heap.size ∧ ¬ F lb ∧ w.cell? ⟨lb, lo + (k + 1), none⟩ = some (strV ws[k].2) ∧ w.cell? ⟨lb, lo, none⟩ = some (strV (headL j.next ws)) := fun k hk => by
    obtain ⟨lb, lo, h1, h2, h3, h4⟩ := hlc (by omega)
    refine ⟨lb, lo, h1, h2, h3, h4 (k + 1) (strV ws[k].2) ?_, by have := h4 0 (strV (headL j.next ws)) (by simp [packL]); rwa [Nat.add_zero] at this⟩
    simp [packL, hk]
  have hlens : ∀ k (hk : k < ws.length), ws[k].2.length = 256 := fun k hk => (hw.2.2 _ (List.getElem_mem hk)).2
  have h1 := hw.1; have h2 := hw.2.1
  have hno := fun (W : World) => RNoughts_any W
  have hpl := fun (W : World) (G : Nat → Prop) (d2 : DevL) (hW : Blk W p 133 (jcells b { j with d := d2 })) (i : Nat) (hi : i ≤ 100) => (show Calls Tryz.prog 163 #[ptrV p, .int .i64 (IntKind.i64.wrap ((j.used : Int) + (i : Int)))] W fun e w' => e = .returned (.int .i64 (j.place i : Nat)) ∧ Q W w' from by
    rw [IntWalk.i64_in _ (by have := hn.used; omega), show (j.used : Int) + (i : Int) = ((j.used + i : Nat) : Int) by omega]
    exact RPlace_any W p b { j with d := d2 } (j.used + i) hW hn.log hn.log2 hn.place (by have := hn.used; omega))
  have hok := hn.ok
  have hpp := hn.plen
  have hlt := h.lt
  have HC := Lib.hid hcell; have HL := Lib.hid hlens; have HNO := Lib.hid hno; have HPL := Lib.hid hpl; have HN := Lib.hid hn; have HLT := Lib.hid hlt; have HJ := Lib.hid h
  clear hcell hlens hno hpl hn hlt h hlc hl hw hok hpp
  go_enter Tryz.func136, Tryz.ntmps136
  go_wp2_with fail
  go_loopw [5] (fun v wr => ∃ (k : Nat) (d2 : DevL), v = .int .i64 ((k + 1 : Nat) : Int) ∧ k ≤ ws.length ∧ Hid (j.d.writes (j.logW ws) = d2.writes ((j.logW ws).drop k)) ∧ Hid (RJrnAt wr (grow F w wr) p b { j with d := d2 }) ∧ Hid (Turn F w wr) ∧ Hid d2.Ok ∧ Hid (d2.dead = false → d2.p.length ≤ 900000 + k)) (fun v _ => ws.length + 1 - (intOf v).toNat)
  case atStart => exact ⟨0, j.d, rfl, Nat.zero_le _, by rw [List.drop_zero]; exact Lib.hid rfl, HJ.out.mono (fun _ h => grow_left h) (fun k hk => hk.elim (fun hk => HLT.out k hk) (fun hk => hk.2)), Turn.refl _ _, HN.out.ok, HN.out.plen⟩
  case round =>
    obtain ⟨k, d2, rfl, hk, HE, HG2, HT2, HD2, HP2⟩ := hrel
    by_cases hlt : k < ws.length
    · have hki : ((k + 1 : Nat) : Int) < (ws.length : Int) + 1 := by omega
      have hki0 : (0 : Int) ≤ ((k + 1 : Nat) : Int) := by omega
      obtain ⟨lb, lo, rfl, hlb, hlF, x1, x2⟩ := HC.out k hlt
      have y1 := HT2.out.cell (F := F) x1 hlF
      have he := HE.out
      rw [drop_at (logW_at j ws k hlt), DevL.writes] at he
      simp only at he
      have hdl := HL.out k hlt
      have hw1 := HG2.out.write HD2.out (fun hx => by have h1 := HP2.out hx; show d2.p.length ≤ _; omega) (j.place (k + 1) : Nat) ws[k].2 (by rw [hdl]; omega)
      simp only at hw1
      have hok := DevL.write_ok HD2.out (j.place (k + 1) : Nat) ws[k].2
      have hpn : (d2.write (j.place (k + 1) : Nat) ws[k].2).1.dead = false → (d2.write (j.place (k + 1) : Nat) ws[k].2).1.p.length ≤ 900000 + (k + 1) := fun hx => by
        have h1 := HP2.out (DevL.write_live _ _ _ hx)
        have h2 := DevL.write_p d2 (j.place (k + 1) : Nat) ws[k].2
        omega
      have hcst : ((k + 1 : Nat) : Int) = (k : Int) + 1 := by omega
      have hpl : ∀ (W : World), Q wr W → Calls Tryz.prog 163 #[ptrV p, .int .i64 (IntKind.i64.wrap ((j.used : Int) + ((k : Int) + 1)))] W fun e w' => e = .returned (.int .i64 (j.place (k + 1) : Nat)) ∧ Q W w' := fun W q => by have := HPL.out W F d2 (HG2.out.box.stays q) (k + 1) (by omega); rwa [hcst] at this
      obtain ⟨c0, c1, c2, c3, c4, c5, c6, c7⟩ := HG2.out.box.c8
      simp only at c0 c7
      have hnG : ¬ grow F w wr lb := fun hc => hc.elim hlF (fun hc => by omega)
      generalize hdw : d2.write (j.place (k + 1) : Nat) ws[k].2 = dw at *
      generalize hdk : ws[k].2 = dk at *
      generalize j.place (k + 1) = pk at *
      have HPK := Lib.hid hpl; have HW1 := Lib.hid hw1; have HEE := Lib.hid he; have HOK := Lib.hid hok; have HPN := Lib.hid hpn; have HNG := Lib.hid hnG; have KK := Lib.hid (Q.refl wr)
      clear hpl hw1 he hok hpn hdw hdk x1 x2 c1 c2 c3 c4 c5 c6 hdl hnG
      have hki2 : (k : Int) + 1 < (ws.length : Int) + 1 := by omega
      have hki3 : (0 : Int) ≤ (k : Int) + 1 := by omega
      have htn : ((k : Int) + 1).toNat = k + 1 := by omega
      clear hki hki0 hcst
      go_wp2_with fail
      go_region_held3 (fun w' => w'.cell? ⟨p, 0, none⟩ = some (ptrV b) ∧ w'.cell? ⟨p, 7, none⟩ = some (.int .i64 (j.used : Nat)) ∧ w'.cell? ⟨lb, lo + (k + 1), none⟩ = some (strV dk))
        (first | exact g0 | exact ⟨c0, c7, y1⟩ | exact three (by repeat (first | with_reducible exact KK.out | with_reducible exact Q.refl _ | with_reducible apply Qs.dr | with_reducible apply Qs.al)) c0 c7 y1)
        (first
          | (go_at_call 163; with_reducible refine (HPK.out _ (by repeat (first | with_reducible exact KK.out | with_reducible apply Qs.dr | with_reducible apply Qs.al))).mono ?_; rintro e w1 ⟨rfl, q1⟩; have s' : Q wr w1 := Q.trans (by repeat (first | with_reducible exact KK.out | with_reducible apply Qs.dr | with_reducible apply Qs.al)) q1; clear KK; have KK := Lib.hid s'; clear s' q1)
          | (go_at_call 125; with_reducible refine (HW1.out _ (by repeat (first | with_reducible exact KK.out | with_reducible apply Qs.dr | with_reducible apply Qs.al))).mono ?_; rintro e w3 ⟨rfl, h3, t3⟩; have g := Blk.c8 (RJrnAt.box h3); have g0 := And.intro g.1 (And.intro g.2.2.2.2.2.2.2 (Turn.cell t3 y1 HNG.out)); clear g; have H3 := Lib.hid h3; have T3 := Lib.hid t3; clear h3 t3))
      all_goals
        have hs3 := RJrnAt.next HLT.out HT2.out H3.out T3.out
        have HG3 := Lib.hid hs3.1; have HT3 := Lib.hid hs3.2
        clear hs3 c0 c7 y1
        try clear g0
        by_cases hz : dw.2 = 0
        · have hb : (dw.2 == 0) = true := beq_iff_eq.2 hz
          have hee := HEE.out
          rw [if_pos hz] at hee
          have HE2 := Lib.hid hee
          clear hee HEE hz
          go_wp2_with fail
          go_roundw
          case rel => exact ⟨k + 1, dw.1, by go_num, by omega, HE2, HG3, HT3, HOK, HPN⟩
          case measure => simp [intOf]; omega
        · have hb : (dw.2 == 0) = false := beq_eq_false_iff_ne.2 hz
          have hee := HEE.out
          rw [if_neg hz] at hee
          have hlr : j.logR ws = dw := by
            unfold JL.logR JL.com1 DevL.lays
            rw [hee, if_neg hz, if_pos hz]
          have HLR := Lib.hid hlr
          clear hee HEE hz hlr
          go_wp2_with fail
          go_ret
          rw [HLR.out]
          exact ⟨rfl, HG3.out, HT3.out⟩
    · obtain rfl : k = ws.length := by omega
      have hki : ¬ ((ws.length + 1 : Nat) : Int) < (ws.length : Int) + 1 := by omega
      obtain ⟨lb, lo, rfl, hlb, hlF, x1, x2⟩ := HC.out 0 (by omega)
      have y2 := HT2.out.cell (F := F) x2 hlF
      have he := HE.out
      rw [drop_at (logW_end j ws), DevL.writes, List.drop_eq_nil_of_le (by rw [logW_len4]; exact Nat.le_refl _)] at he
      simp only [DevL.writes] at he
      have hhl : (headL j.next ws).length = 256 := headL_length _ _ h2
      have hw1 := HG2.out.write HD2.out (fun hx => by have h1 := HP2.out hx; show d2.p.length ≤ _; omega) (j.place (ws.length + 1) : Nat) noughtsL (by rw [noughts_len]; omega)
      simp only at hw1
      have hok := DevL.write_ok HD2.out (j.place (ws.length + 1) : Nat) noughtsL
      have hpn : (d2.write (j.place (ws.length + 1) : Nat) noughtsL).1.dead = false → (d2.write (j.place (ws.length + 1) : Nat) noughtsL).1.p.length ≤ 900100 := fun hx => by
        have h1 := HP2.out (DevL.write_live _ _ _ hx)
        have h2 := DevL.write_p d2 (j.place (ws.length + 1) : Nat) noughtsL
        omega
      have hcst : ((ws.length + 1 : Nat) : Int) = (ws.length : Int) + 1 := by omega
      have hpl : ∀ (W : World), Q wr W → Calls Tryz.prog 163 #[ptrV p, .int .i64 (IntKind.i64.wrap ((j.used : Int) + ((ws.length : Int) + 1)))] W fun e w' => e = .returned (.int .i64 (j.place (ws.length + 1) : Nat)) ∧ Q W w' := fun W q => by have := HPL.out W F d2 (HG2.out.box.stays q) (ws.length + 1) (by omega); rwa [hcst] at this
      obtain ⟨c0, c1, c2, c3, c4, c5, c6, c7⟩ := HG2.out.box.c8
      simp only at c0 c7
      have hnG : ¬ grow F w wr lb := fun hc => hc.elim hlF (fun hc => by omega)
      generalize hdA : d2.write (j.place (ws.length + 1) : Nat) noughtsL = dA at *
      generalize j.place (ws.length + 1) = pk at *
      have HPK := Lib.hid hpl; have HW1 := Lib.hid hw1; have HEE := Lib.hid he; have HOK := Lib.hid hok; have HPN := Lib.hid hpn; have HNG := Lib.hid hnG; have KK := Lib.hid (Q.refl wr); have HHL := Lib.hid hhl
      clear hpl hw1 he hok hpn hdA x1 x2 c1 c2 c3 c4 c5 c6 hnG hcst hhl HE
      go_wp2_with fail
      go_region_held3 (fun w' => w'.cell? ⟨p, 0, none⟩ = some (ptrV b) ∧ w'.cell? ⟨p, 7, none⟩ = some (.int .i64 (j.used : Nat)))
        (first | exact g0 | exact ⟨c0, c7⟩ | exact two (by repeat (first | with_reducible exact KK.out | with_reducible exact Q.refl _ | with_reducible apply Qs.dr | with_reducible apply Qs.al)) c0 c7)
        (first
          | (go_at_call 163; with_reducible refine (HPK.out _ (by repeat (first | with_reducible exact KK.out | with_reducible apply Qs.dr | with_reducible apply Qs.al))).mono ?_; rintro e w1 ⟨rfl, q1⟩; have s' : Q wr w1 := Q.trans (by repeat (first | with_reducible exact KK.out | with_reducible apply Qs.dr | with_reducible apply Qs.al)) q1; clear KK; have KK := Lib.hid s'; clear s' q1)
          | (go_at_call 84; with_reducible refine (HNO.out _).mono ?_; rintro e w2 ⟨rfl, q2⟩; have s' : Q wr w2 := Q.trans (by repeat (first | with_reducible exact KK.out | with_reducible apply Qs.dr | with_reducible apply Qs.al)) q2; clear KK; have KK := Lib.hid s'; clear s' q2)
          | (go_at_call 125; with_reducible refine (HW1.out _ (by repeat (first | with_reducible exact KK.out | with_reducible apply Qs.dr | with_reducible apply Qs.al))).mono ?_; rintro e w3 ⟨rfl, h3, t3⟩; have g := Blk.c8 (RJrnAt.box h3); have g0 := And.intro g.1 g.2.2.2.2.2.2.2; clear g; have H3 := Lib.hid h3; have T3 := Lib.hid t3; clear h3 t3))
      all_goals
        have y3 := T3.out.cell y2 HNG.out
        have hs3 := RJrnAt.next HLT.out HT2.out H3.out T3.out
        have HG3 := Lib.hid hs3.1; have HT3 := Lib.hid hs3.2
        clear hs3 c0 c7 y2
        try clear g0
        by_cases hzA : dA.2 = 0
        case neg =>
          have e1 : (dA.2 == 0) = false := beq_eq_false_iff_ne.2 hzA
          have hee := HEE.out
          rw [if_neg hzA] at hee
          have hlr : j.logR ws = dA := by
            unfold JL.logR JL.com1 DevL.lays
            rw [hee, if_neg hzA, if_pos hzA]
          have HLR := Lib.hid hlr
          clear hee hzA hlr
          go_wp2_with fail
          go_ret
          rw [HLR.out]
          exact ⟨rfl, HG3.out, HT3.out⟩
        have e1 : (dA.2 == 0) = true := beq_iff_eq.2 hzA
        have hee := HEE.out
        rw [if_pos hzA] at hee
        have hcm1 : j.com1 ws = dA.1.flush := by
          unfold JL.com1 DevL.lays
          rw [hee, if_pos rfl]
        have hfB := HG3.out.flush HOK.out (fun hx => by have h1 := HPN.out hx; show dA.1.p.length ≤ _; omega) w3 (Q.refl _)
        have hokB := DevL.flush_ok HOK.out
        have hpB : dA.1.flush.1.dead = false → dA.1.flush.1.p.length ≤ 900100 := fun hx => by
          have := HPN.out (DevL.flush_live _ hx); have := DevL.flush_p dA.1; omega
        simp only at hfB hokB hpB
        generalize dA.1.flush = dB at *
        obtain ⟨k0, _⟩ := HG3.out.box.c8
        have HCM1 := Lib.hid hcm1; have HFB := Lib.hid hfB; have HOKB := Lib.hid hokB; have HPB := Lib.hid hpB
        have hnG3 : ¬ grow F w w3 lb := fun hc => hc.elim hlF (fun hc => by omega)
        have HNG3 := Lib.hid hnG3
        clear hee hzA hfB hokB hpB HEE hcm1 hnG3
        go_wp2_with fail
        refine HFB.out.mono ?_
        rintro e w4 ⟨rfl, h4, t4⟩
        have y4 := t4.cell y3 HNG3.out
        have hs4 := RJrnAt.next HLT.out HT3.out h4 t4
        have H4 := Lib.hid hs4.1; have T4 := Lib.hid hs4.2
        clear hs4 h4 t4 k0 y3
        by_cases hzB : dB.2 = 0
        case neg =>
          have e2 : (dB.2 == 0) = false := beq_eq_false_iff_ne.2 hzB
          have hlr : j.logR ws = dB := by
            unfold JL.logR
            rw [HCM1.out, if_pos hzB]
          have HLR := Lib.hid hlr
          clear hzB hlr
          go_wp2_with fail
          go_ret
          rw [HLR.out]
          exact ⟨rfl, H4.out, T4.out⟩
        have e2 : (dB.2 == 0) = true := beq_iff_eq.2 hzB
        have hcm2 : j.logR ws = dB.1.lays [(j.place 0, headL j.next ws)] := by
          unfold JL.logR JL.com2
          rw [HCM1.out, if_neg (by rw [hzB]; simp)]
        rw [lays_one] at hcm2
        simp only at hcm2
        have hw2 := H4.out.write HOKB.out (fun hx => by have h1 := HPB.out hx; show dB.1.p.length ≤ _; omega) (j.place 0 : Nat) (headL j.next ws) (by rw [HHL.out]; omega)
        simp only at hw2
        have hok2 := DevL.write_ok HOKB.out (j.place 0 : Nat) (headL j.next ws)
        have hpn2 : (dB.1.write (j.place 0 : Nat) (headL j.next ws)).1.dead = false → (dB.1.write (j.place 0 : Nat) (headL j.next ws)).1.p.length ≤ 900200 := fun hx => by
          have h1 := HPB.out (DevL.write_live _ _ _ hx)
          have h2 := DevL.write_p dB.1 (j.place 0 : Nat) (headL j.next ws)
          omega
        have hpl2 : ∀ (W : World), Q w4 W → Calls Tryz.prog 163 #[ptrV p, .int .i64 (j.used : Nat)] W fun e w' => e = .returned (.int .i64 (j.place 0 : Nat)) ∧ Q W w' := fun W q => by
          have := RPlace_any W p b { j with d := dB.1 } j.used (H4.out.box.stays q) HN.out.log HN.out.log2 HN.out.place (by have := HN.out.used; omega)
          exact this
        obtain ⟨c0, c1, c2, c3, c4, c5, c6, c7⟩ := H4.out.box.c8
        simp only at c0 c7
        generalize dB.1.write (j.place 0 : Nat) (headL j.next ws) = dC at *
        generalize headL j.next ws = hd at *
        generalize j.place 0 = p0 at *
        have HPK2 := Lib.hid hpl2; have HW2 := Lib.hid hw2; have HCM2 := Lib.hid hcm2; have HOKC := Lib.hid hok2; have HPC := Lib.hid hpn2
        clear hpl2 hw2 hcm2 hok2 hpn2 c1 c2 c3 c4 c5 c6 hzB KK HCM1
        have KK := Lib.hid (Q.refl w4)
        have hnG4 : ¬ grow F w w4 lb := fun hc => hc.elim hlF (fun hc => by omega)
        have HNG4 := Lib.hid hnG4
        have hi0 : (0 : Int) < (ws.length : Int) + 1 := by omega
        clear hnG4
        go_wp2_with fail
        go_region_held3 (fun w' => w'.cell? ⟨p, 0, none⟩ = some (ptrV b) ∧ w'.cell? ⟨p, 7, none⟩ = some (.int .i64 (j.used : Nat)) ∧ w'.cell? ⟨lb, lo, none⟩ = some (strV hd))
          (first | exact g0 | exact ⟨c0, c7, y4⟩ | exact three (by repeat (first | with_reducible exact KK.out | with_reducible exact Q.refl _ | with_reducible apply Qs.dr | with_reducible apply Qs.al)) c0 c7 y4)
          (first
            | (go_at_call 163; with_reducible refine (HPK2.out _ (by repeat (first | with_reducible exact KK.out | with_reducible apply Qs.dr | with_reducible apply Qs.al))).mono ?_; rintro e w5 ⟨rfl, q5⟩; have s' : Q w4 w5 := Q.trans (by repeat (first | with_reducible exact KK.out | with_reducible apply Qs.dr | with_reducible apply Qs.al)) q5; clear KK; have KK := Lib.hid s'; clear s' q5)
            | (go_at_call 125; with_reducible refine (HW2.out _ (by repeat (first | with_reducible exact KK.out | with_reducible apply Qs.dr | with_reducible apply Qs.al))).mono ?_; rintro e w6 ⟨rfl, h6, t6⟩; have g := Blk.c8 (RJrnAt.box h6); have g0 := And.intro g.1 (And.intro g.2.2.2.2.2.2.2 (Turn.cell t6 y4 HNG4.out)); clear g; have H6 := Lib.hid h6; have T6 := Lib.hid t6; clear h6 t6))
        all_goals
          have hs6 := RJrnAt.next HLT.out T4.out H6.out T6.out
          have HG6 := Lib.hid hs6.1; have HT6 := Lib.hid hs6.2
          clear hs6 c0 c7 y4
          try clear g0
          by_cases hzC : dC.2 = 0
          case neg =>
            have e3 : (dC.2 == 0) = false := beq_eq_false_iff_ne.2 hzC
            have hlr := HCM2.out
            rw [if_neg hzC] at hlr
            have HLR := Lib.hid hlr
            clear hzC hlr
            go_wp2_with fail
            go_ret
            rw [HLR.out]
            exact ⟨rfl, HG6.out, HT6.out⟩
          have e3 : (dC.2 == 0) = true := beq_iff_eq.2 hzC
          have hlr := HCM2.out
          rw [if_pos hzC] at hlr
          have hfD := HG6.out.flush HOKC.out (fun hx => by have h1 := HPC.out hx; show dC.1.p.length ≤ _; omega) w6 (Q.refl _)
          simp only at hfD
          generalize dC.1.flush = dD at *
          obtain ⟨k0, _⟩ := HG6.out.box.c8
          have HLR := Lib.hid hlr; have HFD := Lib.hid hfD
          clear hlr hfD hzC
          go_wp2_with fail
          refine HFD.out.mono ?_
          rintro e w7 ⟨rfl, h7, t7⟩
          have hs7 := RJrnAt.next HLT.out HT6.out h7 t7
          have HS7 := Lib.hid hs7
          clear hs7 h7 t7 k0
          go_wp2_with fail
          go_ret
          rw [HLR.out]
          exact ⟨rfl, HS7.out.1, HS7.out.2⟩
theorem RDevAt.next {A B C : World} {F : Nat → Prop} {b : Nat} {d : DevL} (t1 : Turn F A B) (h : RDevAt C (grow (grow F A B) B C) b d) (t2 : Turn (grow F A B) B C) : RDevAt C (grow F A C) b d ∧ Turn F A C := by
  have t := t1.step t2
  exact ⟨h.mono (fun k hk => grow_trans t1.size t2.size hk), t⟩
theorem RDevAt.quietly {A B C : World} {F : Nat → Prop} {b : Nat} {d : DevL} (q : Q A B) (h : RDevAt C (grow F B C) b d) (t2 : Turn F B C) : RDevAt C (grow F A C) b d ∧ Turn F A C :=
  ⟨h.mono (fun k hk => hk.elim .inl (fun hk => .inr ⟨Nat.le_trans q.size hk.1, hk.2⟩)), (Turn.of_q q).trans t2⟩
theorem formatW_at (log k : Nat) (h : k < log + 1) : (formatW log)[k]? = some (k + 1, noughtsL) := by
  unfold formatW
  rw [List.getElem?_append_left (by simpa using h)]
  simp [h]
theorem formatW_end (log : Nat) : (formatW log)[log + 1]? = some (0, slotT ⟨1, 1, log, 0⟩) := by
  unfold formatW
  rw [List.getElem?_append_right (by simp)]
  simp
theorem formatW_len (log : Nat) : (formatW log).length = log + 2 := by simp [formatW]
theorem RFormat4_any (w : World) (F : Nat → Prop) (b : Nat) (d : DevL) (log : Nat) (h : RDevAt w F b d) (hd : d.Ok) (hp : d.dead = false → d.p.length ≤ 800000) (h50 : 50 ≤ log) (hln : log + 3 ≤ d.l.length) :
    Calls Tryz.prog 85 #[ptrV b, .int .i64 (log : Nat)] w fun e w' => e = .returned (.int .i64 (formatJ d log).2) ∧ RDevAt w' (grow F w w') b (formatJ d log).1 ∧ Turn F w w' := by
  have hm := hd.max
  have hno := fun (W : World) => RNoughts_any W
  have hst := fun (W : World) => RText4_any ⟨1, 1, log, 0⟩ ⟨by show 1 < _; omega, by show 1 < _; omega, by show log < _; omega, by show 0 < _; omega⟩ W
  have hl1 : ¬ (log : Int) < 50 := by omega
  have hw3 : IntKind.i64.wrap ((d.l.length : Int) - 3) = (d.l.length : Int) - 3 := IntWalk.i64_in _ (by omega)
  have hl2 : ¬ (d.l.length : Int) - 3 < (log : Int) := by omega
  have hfj : formatJ d log = d.lays (formatW log) := rfl
  have h0 : RDevAt w (grow F w w) b d := h.mono (fun k hk => .inl hk)
  obtain ⟨lv, pv, hg⟩ := h
  obtain ⟨la, lc, rfl, -⟩ := hg.lcells
  obtain ⟨c0, c1, c2, c3, _⟩ := hg.box.c4
  have HNO := Lib.hid hno; have HST := Lib.hid hst; have HFJ := Lib.hid hfj; have H0 := Lib.hid h0; have HD := Lib.hid hd; have HP := Lib.hid hp
  have hlm : log ≤ 4096 := by omega
  clear hno hst hfj h0 hd hp hg
  go_enter Tryz.func85, Tryz.ntmps85
  go_wp2_with fail
  go_loopw [5] (fun v wr => ∃ (k : Nat) (d2 : DevL), v = .int .i64 ((k + 1 : Nat) : Int) ∧ k ≤ log + 1 ∧ Hid (d.writes (formatW log) = d2.writes ((formatW log).drop k)) ∧ Hid (RDevAt wr (grow F w wr) b d2) ∧ Hid (Turn F w wr) ∧ Hid d2.Ok ∧ Hid (d2.dead = false → d2.p.length ≤ 800000 + k)) (fun v _ => log + 2 - (intOf v).toNat)
  case atStart => exact ⟨0, d, rfl, Nat.zero_le _, by rw [List.drop_zero]; exact Lib.hid rfl, H0, Turn.refl _ _, HD, HP⟩
  case round =>
    obtain ⟨k, d2, rfl, hk, HE, HG2, HT2, HD2, HP2⟩ := hrel
    by_cases hlt : k < log + 1
    · have he := HE.out
      rw [drop_at (formatW_at log k hlt), DevL.writes] at he
      simp only at he
      have hw1 := fun (W : World) (q : Q wr W) => RWrite_any W _ b d2 ((k + 1 : Nat) : Int) noughtsL (HG2.out.keep q) HD2.out (fun hx => by have := HP2.out hx; omega) (by rw [noughts_len]; omega)
      have hok := DevL.write_ok HD2.out ((k + 1 : Nat) : Int) noughtsL
      have hpn : (d2.write ((k + 1 : Nat) : Int) noughtsL).1.dead = false → (d2.write ((k + 1 : Nat) : Int) noughtsL).1.p.length ≤ 800000 + (k + 1) := fun hx => by
        have h1 := HP2.out (DevL.write_live _ _ _ hx)
        have h2 := DevL.write_p d2 ((k + 1 : Nat) : Int) noughtsL
        omega
      generalize hdw : d2.write ((k + 1 : Nat) : Int) noughtsL = dw at *
      have hcst : ((k + 1 : Nat) : Int) = (k : Int) + 1 := by omega
      rw [hcst] at hw1
      have HW1 := Lib.hid hw1; have HEE := Lib.hid he; have HOK := Lib.hid hok; have HPN := Lib.hid hpn
      have hki : (k : Int) + 1 < 2 + (log : Int) := by omega
      clear hw1 he hok hpn hdw hcst
      go_wp2_with fail
      refine (HNO.out _).mono ?_
      rintro e w1 ⟨rfl, q1⟩
      have HQ1 := Lib.hid q1
      clear q1
      go_wp2_with fail
      refine (HW1.out _ HQ1.out).mono ?_
      rintro e w3 ⟨rfl, h3, t3⟩
      have hq := RDevAt.quietly HQ1.out h3 t3
      have hs3 := RDevAt.next HT2.out hq.1 hq.2
      have HG3 := Lib.hid hs3.1; have HT3 := Lib.hid hs3.2
      clear hs3 hq h3 t3
      by_cases hz : dw.2 = 0
      · have hb : (dw.2 == 0) = true := beq_iff_eq.2 hz
        have hee := HEE.out
        rw [if_pos hz] at hee
        have HE2 := Lib.hid hee
        clear hee HEE hz
        go_wp2_with fail
        go_roundw
        case rel => exact ⟨k + 1, dw.1, by go_num, by omega, HE2, HG3, HT3, HOK, HPN⟩
        case measure => simp [intOf]; omega
      · have hb : (dw.2 == 0) = false := beq_eq_false_iff_ne.2 hz
        have hee := HEE.out
        rw [if_neg hz] at hee
        have hlr : formatJ d log = dw := by
          rw [HFJ.out]
          unfold DevL.lays
          rw [hee, if_neg hz]
        have HLR := Lib.hid hlr
        clear hee HEE hz hlr
        go_wp2_with fail
        go_ret
        rw [HLR.out]
        exact ⟨rfl, HG3.out, HT3.out⟩
    · obtain rfl : k = log + 1 := by omega
      have hki : ¬ ((log + 1 + 1 : Nat) : Int) < 2 + (log : Int) := by omega
      have hki2 : ¬ (log : Int) + 1 + 1 < 2 + (log : Int) := by omega
      have he := HE.out
      rw [drop_at (formatW_end log), DevL.writes, List.drop_eq_nil_of_le (by rw [formatW_len]; exact Nat.le_refl _)] at he
      simp only [DevL.writes] at he
      have hw1 := fun (W : World) (q : Q wr W) => RWrite_any W _ b d2 ((0 : Nat) : Int) (slotT ⟨1, 1, log, 0⟩) (HG2.out.keep q) HD2.out (fun hx => by have := HP2.out hx; omega) (by rw [slotT_length]; omega)
      have hok := DevL.write_ok HD2.out ((0 : Nat) : Int) (slotT ⟨1, 1, log, 0⟩)
      have hpn : (d2.write ((0 : Nat) : Int) (slotT ⟨1, 1, log, 0⟩)).1.dead = false → (d2.write ((0 : Nat) : Int) (slotT ⟨1, 1, log, 0⟩)).1.p.length ≤ 900000 := fun hx => by
        have h1 := HP2.out (DevL.write_live _ _ _ hx)
        have h2 := DevL.write_p d2 ((0 : Nat) : Int) (slotT ⟨1, 1, log, 0⟩)
        omega
      rw [show ((0 : Nat) : Int) = 0 from rfl] at hw1
      rw [show ((0 : Nat) : Int) = 0 from rfl] at hok hpn he
      generalize d2.write 0 (slotT ⟨1, 1, log, 0⟩) = dA at *
      generalize slotT ⟨1, 1, log, 0⟩ = st at *
      have HW1 := Lib.hid hw1; have HEE := Lib.hid he; have HOK := Lib.hid hok; have HPN := Lib.hid hpn
      clear hw1 he hok hpn HE
      go_wp2_with fail
      refine (HST.out _).mono ?_
      rintro e w1 ⟨rfl, q1⟩
      have HQ1 := Lib.hid q1
      clear q1
      go_wp2_with fail
      refine (HW1.out _ HQ1.out).mono ?_
      rintro e w3 ⟨rfl, h3, t3⟩
      have hq := RDevAt.quietly HQ1.out h3 t3
      have hs3 := RDevAt.next HT2.out hq.1 hq.2
      have HG3 := Lib.hid hs3.1; have HT3 := Lib.hid hs3.2
      clear hs3 hq h3 t3
      by_cases hzA : dA.2 = 0
      case neg =>
        have e1 : (dA.2 == 0) = false := beq_eq_false_iff_ne.2 hzA
        have hee := HEE.out
        rw [if_neg hzA] at hee
        have hlr : formatJ d log = dA := by
          rw [HFJ.out]
          unfold DevL.lays
          rw [hee, if_neg hzA]
        have HLR := Lib.hid hlr
        clear hee HEE hzA hlr
        go_wp2_with fail
        go_ret
        rw [HLR.out]
        exact ⟨rfl, HG3.out, HT3.out⟩
      have e1 : (dA.2 == 0) = true := beq_iff_eq.2 hzA
      have hee := HEE.out
      rw [if_pos hzA] at hee
      have hlr : formatJ d log = dA.1.flush := by
        rw [HFJ.out]
        unfold DevL.lays
        rw [hee, if_pos rfl]
      have hfl := RFlush_any w3 _ b dA.1 HG3.out HOK.out (fun hx => by have := HPN.out hx; omega)
      generalize dA.1.flush = dB at *
      have HLR := Lib.hid hlr; have HFL := Lib.hid hfl
      clear hee HEE hzA hlr hfl
      go_wp2_with fail
      refine HFL.out.mono ?_
      rintro e w4 ⟨rfl, h4, t4⟩
      have hs4 := RDevAt.next HT3.out (h4.mono (fun k hk => .inl hk)) t4
      have HS4 := Lib.hid hs4
      clear hs4 h4 t4
      go_wp2_with fail
      go_ret
      rw [HLR.out]
      exact ⟨rfl, HS4.out.1, HS4.out.2⟩
theorem Q.turned' {A B C : World} {own : Nat → Prop} (q : Q A B) (t : Turn own B C) (ho : ∀ k, own k → A.heap.size ≤ k) : Q A C :=
  ⟨t.os.trans q.os, t.tape.trans q.tape, t.output.trans q.output, Nat.le_trans q.size t.size, fun k hk => (t.block k (Nat.lt_of_lt_of_le hk q.size) (fun e => by have := ho k e; omega)).trans (q.block k hk)⟩
theorem own_litR (w : World) (e : TypeId) (size : Nat) (cs : Array Value) (h : cs.size = size) (hs : size ≤ 1000) : (w.alloc (.cells cs e)).ownsRow w.heap.size e size (.slice (some ⟨w.heap.size, 0, none⟩) 1 1) 1 cs.toList :=
  ⟨by simp [h], .inr ⟨w.heap.size, 1, cs, rfl, Nat.le_refl _, heap_alloc_new _ _, by simp [h], by unfold maxLen; omega, by simpa using h, by simpa using List.take_of_length_le (l := cs.toList) (i := size) (by simp [h])⟩⟩
def dataK (ws : List WrL) (k : Nat) : Bytes := ((ws.take k).map (·.2)).flatten
theorem dataK_succ (ws : List WrL) (k : Nat) (h : k < ws.length) : dataK ws (k + 1) = dataK ws k ++ ws[k].2 := by
  unfold dataK
  rw [List.take_succ_eq_append_getElem h, List.map_append, List.flatten_append]
  simp
theorem dataK_len (ws : List WrL) (k : Nat) (hw : ∀ x ∈ ws, x.2.length = 256) (h : k ≤ ws.length) : (dataK ws k).length = 256 * k := by
  induction k with
  | zero => rfl
  | succ k ih => rw [dataK_succ ws k (by omega), List.length_append, ih (by omega), hw _ (List.getElem_mem _)]; omega
def packK (seq : Nat) (ws : List WrL) (k : Nat) : List Bytes := headL seq ws :: (ws.take k).map (·.2)
theorem packK_succ (seq : Nat) (ws : List WrL) (k : Nat) (h : k < ws.length) : packK seq ws (k + 1) = packK seq ws k ++ [ws[k].2] := by
  unfold packK
  rw [List.take_succ_eq_append_getElem h, List.map_append]; rfl
theorem RPack_any (w : World) (seq : Nat) (hs : seq < 18446744073709551616) (lv : Value) (ws : List WrL) (hl : Sl w lv ws.length 2 (wrVs ws)) (hw : WrOk ws) :
    Calls Tryz.prog 134 #[.int .u64 (seq : Nat), lv] w fun e w' => ∃ v, e = .returned (.tuple #[v, .int .i64 0]) ∧ w'.ownsRow w.heap.size 9 1 v (ws.length + 1) ((packL seq ws).map strV) ∧ Q w w' := by
  obtain ⟨w1, w2, w3⟩ := hw
  have hhd := fun (W : World) (q : Q w W) => RHead_any W seq hs lv ws (hl.stays q) w2 (fun x hx => (w3 x hx).1)
  obtain ⟨la, lc, rfl, hlc⟩ := hl.value
  have hcell : ∀ k (hk : k < ws.length), ∃ lb lo, la = some ⟨lb, lo, none⟩ ∧ w.cell? ⟨lb, lo + k * 2, none⟩ = some (.int .i64 (ws[k].1 : Nat)) ∧ w.cell? ⟨lb, lo + k * 2 + 1, none⟩ = some (strV ws[k].2) ∧ ws[k].1 < 4096 ∧ ws[k].2.length = 256 := fun k hk => by
    obtain ⟨lb, lo, h1, h4⟩ := hlc (by omega)
    exact ⟨lb, lo, h1, h4 _ _ (wrVs_at ws k hk).1, by have := h4 _ _ (wrVs_at ws k hk).2; rwa [← Nat.add_assoc] at this, w3 _ (List.getElem_mem hk)⟩
  have cf := fun (v : Nat) (hv : v < 4294967296) (W : World) => RFixed_any v W hv
  have cc := fun (s : Bytes) (hs : s.length ≤ 1000000) (W : World) => RCrc_any s W (by omega)
  have hdl := dataK_len ws
  have hdata := fun k hk => dataK_len ws k (fun x hx => (w3 x hx).2) hk
  have hbl := bodyL_length seq ws w2
  have hcrc := crcL_lt (bodyL seq ws ++ dataK ws ws.length)
  have hpk : headL seq ws = bodyL seq ws ++ (fixedL (crcL (bodyL seq ws ++ dataK ws ws.length)) ++ endT) := by unfold headL dataK dataL; rw [List.take_length]
  have hpl : packL seq ws = packK seq ws ws.length := by unfold packL packK; rw [List.take_length]
  obtain ⟨i1, hi1, hy0, hy1, hy2⟩ := info_parts tinfoStr1
  have HHD := Lib.hid hhd; have HC := Lib.hid hcell; have CF := Lib.hid cf; have CC := Lib.hid cc; have HDT := Lib.hid hdata; have HPK := Lib.hid hpk; have HPL := Lib.hid hpl; have HCRC := Lib.hid hcrc
  clear hhd hcell cf cc hlc hl hdata hpk hpl w3 hs hcrc hdl
  have e0 : ((ws.length : Int) == 0) = false := beq_eq_false_iff_ne.2 (by omega)
  have e1 : ¬ (48 : Int) < (ws.length : Int) := by omega
  go_enter Tryz.func134, Tryz.ntmps134
  go_wp2_with fail
  go_loopw [6, 7] (fun tv v wr => ∃ k : Nat, v = .int .i64 (k : Nat) ∧ k ≤ ws.length ∧ tv = strV (dataK ws k) ∧ Hid (w = wr)) (fun _ v _ => ws.length - (intOf v).toNat)
  case atStart => exact ⟨0, rfl, Nat.zero_le _, rfl, Lib.hid rfl⟩
  case round =>
    obtain ⟨k, rfl, hk, rfl, HQ⟩ := hrel
    have hdk := HDT.out k hk
    by_cases hlt : k < ws.length
    · have hki : (k : Int) < (ws.length : Int) := by omega
      obtain ⟨lb, lo, rfl, x1, x2, hx1, hx2⟩ := HC.out k hlt
      obtain rfl := HQ.out
      have hst := dataK_succ ws k hlt
      have HST := Lib.hid hst
      clear hst
      generalize ws[k].1 = bk at *
      generalize hdk2 : ws[k].2 = dk at *
      have hxl : ((dk.length : Int) != 256) = false := by rw [bne, beq_iff_eq.2 (by omega)]; rfl
      have hxl2 : (!((dk.length : Int) == 256)) = false := by rw [beq_iff_eq.2 (by omega)]; rfl
      have hg1 : ¬ (bk : Int) < 0 := by omega
      have hg2 : ¬ (4096 : Int) ≤ (bk : Int) := by omega
      have hl1 : (dataK ws k).length ≤ 100000 := by omega
      have hl2 : dk.length ≤ 1000 := by omega
      clear hdk hx2 hdk2
      generalize dataK ws k = da at *
      go_wp2_with fail
      go_roundw
      case rel => exact ⟨k + 1, by go_num, by omega, by rw [HST.out]; simp only [bytes_append], Lib.hid (by first | rfl | trivial)⟩
      case measure => simp [intOf]; omega
    · have hki : ¬ (k : Int) < (ws.length : Int) := by omega
      obtain rfl : k = ws.length := by omega
      obtain rfl := HQ.out
      have hl1 : (dataK ws ws.length).length ≤ 100000 := by omega
      have hl3 : (bodyL seq ws).length ≤ 1000 := by omega
      have hcl : (bodyL seq ws ++ dataK ws ws.length).length ≤ 1000000 := by rw [List.length_append]; omega
      have hcc := CC.out _ hcl
      have hcf := CF.out _ HCRC.out
      have hl4 := length_fixedL (crcL (bodyL seq ws ++ dataK ws ws.length))
      clear hdk hcl
      generalize dataK ws ws.length = da at *
      generalize bodyL seq ws = bd at *
      generalize crcL (bd ++ da) = cr at *
      generalize fixedL cr = fx at *
      have HCC := Lib.hid hcc; have HCF := Lib.hid hcf
      clear hcc hcf
      go_wp2_with fail
      refine (HHD.out _ (Q.refl _)).mono ?_
      rintro e w4 ⟨rfl, q4⟩
      have HQ4 := Lib.hid q4
      clear q4
      go_wp2_with fail
      rw [bytes_append]
      refine (HCC.out _).mono ?_
      rintro e w5 ⟨rfl, rfl⟩
      go_wp2_with fail
      refine (HCF.out _).mono ?_
      rintro e w6 ⟨rfl, q6⟩
      have HQ6 := Lib.hid (HQ4.out.trans q6)
      clear q6
      go_upto_region 14 with fail
      have hem : (#[67, 68, 88, 69] : Array UInt8) = endT.toArray := rfl
      simp only [hem, bytes_append]
      have hse : bd ++ fx ++ endT = headL seq ws := by rw [HPK.out, List.append_assoc]
      rw [hse]
      have hk0 : packK seq ws 0 = [headL seq ws] := by unfold packK; simp
      generalize headL seq ws = hd at *
      have hro := own_litR w6 9 1 #[strV hd] rfl (by decide)
      have hq7 : Q w (w6.alloc (.cells #[strV hd] 9)) := HQ6.out.trans (Q.alloc _ _)
      have hz7 : w6.heap.size ≤ (w6.alloc (.cells #[strV hd] 9)).heap.size := by simp
      generalize w6.alloc (.cells #[strV hd] 9) = w7 at *
      have hrow : w7.ownsRow w6.heap.size 9 1 (.slice (some ⟨w6.heap.size, 0, none⟩) 1 1) (0 + 1) ((packK seq ws 0).map strV) := by rw [hk0]; exact hro
      have HROW := Lib.hid hrow; have HQ7 := Lib.hid hq7; have HZ7 := Lib.hid hz7
      clear hro hrow hq7 hk0 hse hem hz7
      have e4 : ws.length = ws.length := rfl
      clear e4 hl1 hl3 hl4 hbl
      go_wp2_with fail
      go_loopw [9, 10] (fun v i wr => ∃ k : Nat, i = .int .i64 (k : Nat) ∧ k ≤ ws.length ∧ Hid (wr.ownsRow w6.heap.size 9 1 v (k + 1) ((packK seq ws k).map strV)) ∧ Hid (Q w wr) ∧ Hid (w6.heap.size ≤ wr.heap.size)) (fun _ i _ => ws.length - (intOf i).toNat)
      case atStart => exact ⟨0, rfl, Nat.zero_le _, HROW, HQ7, HZ7⟩
      case round =>
        obtain ⟨k, rfl, hk, HOW, HQ2, HZ2⟩ := hrel
        by_cases hlt : k < ws.length
        · have hki : (k : Int) < (ws.length : Int) := by omega
          obtain ⟨lb, lo, rfl, -, x2, -, -⟩ := HC.out k hlt
          have y2 := cellQ HQ2.out x2
          have hst := packK_succ seq ws k hlt
          have HST := Lib.hid hst
          clear hst x2
          generalize ws[k].2 = dk at *
          have hc1 : ∀ u ∈ #[strV dk].toList, u.oneCell' = true := by intro u hu; simp at hu; rw [hu]; rfl
          have hc2 : (k + 1 + 1) * 16 ≤ 140737488355328 := by omega
          have HC3 := Lib.hid hc1; have HC4 := Lib.hid hc2
          have hb0 : w6.heap.size ≤ wr.heap.size := HZ2.out
          clear hc1 hc2
          go_wp2_with (at_builtin; refine wpList_app wr (by rfl) _ _ 70 (by rfl) w6.heap.size 9 _ i1 (strV []) 1 16 Tryz.underlying70 hi1 hy0 hy1 hy2 rfl (by decide) (by decide) _ _ _ (by rfl) HOW.out #[strV dk] (by rfl) rfl HC3.out HC4.out hb0 ?_)
          intro g11 cap11 w11 hr11 hg11 ho11 hlt11 hlt11b
          have hq21 : Q w w11 := Q.turned' HQ2.out (own := fun g => w6.heap.size ≤ g) ⟨hg11.os, hg11.tape, hg11.output, hg11.size, fun g h1 h2 => hg11.block g h1 (fun e => h2 (HOW.out.lt g e.symm).1)⟩ (fun g hg => by have := HQ6.out.size; omega)
          have hr11' : w11.ownsRow w6.heap.size 9 1 (.slice (some ⟨g11, 0, none⟩) (k + 1 + 1) cap11) (k + 1 + 1) ((packK seq ws (k + 1)).map strV) := by
            rw [HST.out, List.map_append]; exact hr11
          have HQ11 := Lib.hid hq21; have HR11 := Lib.hid hr11'; have HZ11 := Lib.hid (Nat.le_trans HZ2.out hg11.size)
          clear hr11 hg11 ho11 hlt11 hlt11b hr11' hq21
          go_wp2_with fail
          go_roundw
          case rel => exact ⟨k + 1, by go_num, by omega, HR11, HQ11, HZ11⟩
          case measure => simp [intOf]; omega
        · have hki : ¬ (k : Int) < (ws.length : Int) := by omega
          obtain rfl : k = ws.length := by omega
          have hfin := owns_low (base' := w.heap.size) HOW.out HQ6.out.size
          rw [← HPL.out] at hfin
          have HFIN := Lib.hid hfin
          clear hfin
          go_wp2_with fail
          go_ret2
          exact ⟨_, rfl, HFIN.out, HQ2.out⟩
end
end Go.Proofs.YtnmijegmbomfdaaGreatDoor
