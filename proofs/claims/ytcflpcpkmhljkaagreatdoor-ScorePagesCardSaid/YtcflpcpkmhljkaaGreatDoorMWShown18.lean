/- Joined texts of one proof: WShown18. -/
import Derived.Test.YtcflpcpkmhljkaaGreatDoorMWSh18ToBitC
import Derived.Test.YtcflpcpkmhljkaaGreatDoorMWApply0ToWApply
set_option linter.unusedSimpArgs false
set_option linter.unusedVariables false
set_option linter.unnecessarySimpa false
/- (WShown18) codexlaw18.shown: walked: true. -/
section
namespace Go.Proofs.YtcflpcpkmhljkaaGreatDoor
open Go.RowKit
set_option linter.unusedVariables false

theorem short_ops18 (l : List OpL) (h : (l.all fun o => decide (o.2.1.length ≤ 1000) && decide (o.2.2.length ≤ 1000)) = true) : ∀ o ∈ l, o.2.1.length ≤ 9223372036854775807 ∧ o.2.2.length ≤ 9223372036854775807 := by
  intro o ho
  have := List.all_eq_true.1 h o ho
  simp only [Bool.and_eq_true, decide_eq_true_eq] at this
  omega
theorem parts_none18 (w : World) : PartsAt w (.slice none 0 0) [] := ⟨⟨[], Sl.nil _ _, rfl, fun i r p hr hp => by simp at hr⟩, fun a n c e => by cases e; exact Nat.le_refl _⟩
theorem qrys_two (w : World) (k1 k2 : Int) (s1 s2 : Bytes) (t : TypeId) : QrysAt (w.alloc (.cells #[.int .i64 k1, strV s1, .slice none 0 0, .slice none 0 0, .slice none 0 0, .int .i64 k2, strV s2, .slice none 0 0, .slice none 0 0, .slice none 0 0] t)) (.slice (some ⟨w.heap.size, 0, none⟩) 2 2) [.mk k1 s1 [] [] [], .mk k2 s2 [] [] []] := by
  have hb := Blk.new w t #[.int .i64 k1, strV s1, .slice none 0 0, .slice none 0 0, .slice none 0 0, .int .i64 k2, strV s2, .slice none 0 0, .slice none 0 0, .slice none 0 0]
  refine ⟨_, _, rfl, fun _ => ⟨_, _, rfl, ?_⟩⟩
  unfold QcellsAt
  refine ⟨⟨_, _, _, _, _, ⟨hb.cell 0 _ rfl, hb.cell 1 _ rfl, hb.cell 2 _ rfl, hb.cell 3 _ rfl, hb.cell 4 _ rfl⟩, one_at _ _ _⟩, ?_⟩
  unfold QcellsAt
  refine ⟨⟨_, _, _, _, _, ⟨hb.cell 5 _ rfl, hb.cell 6 _ rfl, hb.cell 7 _ rfl, hb.cell 8 _ rfl, hb.cell 9 _ rfl⟩, one_at _ _ _⟩, ?_⟩
  unfold QcellsAt
  trivial
theorem qrys_one (w : World) (k1 : Int) (s1 : Bytes) (t : TypeId) : QrysAt (w.alloc (.cells #[.int .i64 k1, strV s1, .slice none 0 0, .slice none 0 0, .slice none 0 0] t)) (.slice (some ⟨w.heap.size, 0, none⟩) 1 1) [.mk k1 s1 [] [] []] := by
  have hb := Blk.new w t #[.int .i64 k1, strV s1, .slice none 0 0, .slice none 0 0, .slice none 0 0]
  refine ⟨_, _, rfl, fun _ => ⟨_, _, rfl, ?_⟩⟩
  unfold QcellsAt
  refine ⟨⟨_, _, _, _, _, ⟨hb.cell 0 _ rfl, hb.cell 1 _ rfl, hb.cell 2 _ rfl, hb.cell 3 _ rfl, hb.cell 4 _ rfl⟩, one_at _ _ _⟩, ?_⟩
  unfold QcellsAt
  trivial
set_option maxRecDepth 100000 in
set_option maxHeartbeats 8000000 in
theorem Shown18 (w : World) (hT : Tabs w) (hSp : Spans w) : Calls Tryz.prog 11 #[] w fun e w' => e = .returned (.bool true) ∧ Q w w' := by
  have HT := Lib.hid hT; have HSP := Lib.hid hSp
  clear hT hSp
  go_enter Tryz.func11, Tryz.ntmps11
  go_wp2_with fail
  refine (doc18_any [120] [102, 111, 120, 32, 102, 111, 120, 32, 100, 111, 103] _).mono ?_
  rintro e w1 ⟨rfl, q1⟩
  have HQ1 := Lib.hid q1; clear q1
  go_wp2_with fail
  refine (doc18_any [121] [102, 111, 120] _).mono ?_
  rintro e w2 ⟨rfl, q2⟩
  have HQ2 := Lib.hid (HQ1.out.trans q2); clear q2
  go_wp2_with fail
  refine (doc18_any [122] [99, 97, 116] _).mono ?_
  rintro e w3 ⟨rfl, q3⟩
  have hq3 := HQ2.out.trans q3
  have hlit : Ops (w3.alloc (.cells #[.bool false, strV [120], strV [102, 111, 120, 32, 102, 111, 120, 32, 100, 111, 103], .bool false, strV [121], strV [102, 111, 120], .bool false, strV [122], strV [99, 97, 116]] 65)) (.slice (some ⟨w3.heap.size, 0, none⟩) 3 3) sxO := Sl.lit w3 _ _ 3 3 rfl
  have hq4 := hq3.trans (Q.alloc w3 (.cells #[.bool false, strV [120], strV [102, 111, 120, 32, 102, 111, 120, 32, 100, 111, 103], .bool false, strV [121], strV [102, 111, 120], .bool false, strV [122], strV [99, 97, 116]] 65))
  have c := Apply_any _ [] _ sxO _ (parts_none18 _) hlit (by decide) (short_ops18 _ (by decide)) (by decide) (by simp) (HT.out.stays hq4) (HSP.out.stays hq4)
  rw [sx_apply] at c
  have C := Lib.hid c; have HQ4 := Lib.hid hq4
  clear c hlit hq3 hq4 q3 HQ1 HQ2
  go_wp2_with fail
  refine C.out.mono ?_
  rintro e w5 ⟨⟨v1, rfl, hp1⟩, q5⟩
  have hq5 := HQ4.out.trans q5
  obtain ⟨a1, c1, rfl, hpc⟩ := hp1.value
  generalize segE sxD (idxL sxD) = S1 at *
  have hx1 := Q.alloc w5 (.cells #[.slice a1 1 c1] 37)
  have hb1 : Boxed (w5.alloc (.cells #[.slice a1 1 c1] 37)) w5.heap.size 37 (.slice a1 1 c1) := Boxed.new _ _ _
  have HB := Lib.hid hb1; have HQ := Lib.hid (hq5.trans hx1); have HP := Lib.hid (hp1.stays hx1)
  generalize hX : w5.heap.size = X at *
  clear hq5 q5 hp1 hpc hx1 hb1 C HQ4
  simp only [List.length_cons, List.length_nil, Nat.zero_add] at *
  go_wp2_with fail
  obtain ⟨wz, hwz⟩ : ∃ wz, wz = (w5.alloc (.cells #[.slice a1 1 c1] 37)) := ⟨_, rfl⟩
  rw [← hwz] at HB HQ HP ⊢
  have HPZ := HP; have HTZ := Lib.hid (HT.out.stays HQ.out); have HSPZ := Lib.hid (HSP.out.stays HQ.out)
  have HZ := Lib.hid (Q.refl wz)
  clear hwz
  refine sh_row4 wz wz X a1 c1 HZ.out (Boxed.cell (block_stays' HZ.out HB.out)) HPZ.out HTZ.out HSPZ.out _ _ _ _ _ _ _ _ _ _ _ _ _ _ _ _ _ _ _ _ _ _ _ _ _ _ _ _ _ _ _ _ _ _ _ _ _ _ _ _ _ _ _ _ _ _ _ _ _ _ _ _ _ _ _ _ _ _ _ _ _ _ _ _ _ _ _ _ _ _ _ _ _ _ _ _ _ _ _ _ _ _ _ _ _ _ _ _ _ _ _ ?_
  rintro W4 z4_0 z4_1 z4_2 z4_3 z4_4 z4_5 z4_6 q4
  have HZ4 := Lib.hid (HZ.out.trans q4)
  clear q4
  go_wp2_with fail
  refine sh_row5 wz W4 X a1 c1 HZ4.out (Boxed.cell (block_stays' HZ4.out HB.out)) HPZ.out HTZ.out HSPZ.out _ _ _ _ _ _ _ _ _ _ _ _ _ _ _ _ _ _ _ _ _ _ _ _ _ _ _ _ _ _ _ _ _ _ _ _ _ _ _ _ _ _ _ _ _ _ _ _ _ _ _ _ _ _ _ _ _ _ _ _ _ _ _ _ _ _ _ _ _ _ _ _ _ _ _ _ _ _ _ _ _ _ _ _ _ _ _ _ _ _ _ ?_
  rintro W5 z5_0 z5_1 z5_2 z5_3 z5_4 z5_5 q5
  have HZ5 := Lib.hid (HZ4.out.trans q5)
  clear q5
  go_wp2_with fail
  refine sh_row6 wz W5 X a1 c1 HZ5.out (Boxed.cell (block_stays' HZ5.out HB.out)) HPZ.out HTZ.out HSPZ.out _ _ _ _ _ _ _ _ _ _ _ _ _ _ _ _ _ _ _ _ _ _ _ _ _ _ _ _ _ _ _ _ _ _ _ _ _ _ _ _ _ _ _ _ _ _ _ _ _ _ _ _ _ _ _ _ _ _ _ _ _ _ _ _ _ _ _ _ _ _ _ _ _ _ _ _ _ _ _ _ _ _ _ _ _ _ _ _ _ _ _ ?_
  rintro W6 z6_0 z6_1 z6_2 z6_3 z6_4 z6_5 q6
  have HZ6 := Lib.hid (HZ5.out.trans q6)
  clear q6
  go_wp2_with fail
  refine sh_row7 wz W6 X a1 c1 HZ6.out (Boxed.cell (block_stays' HZ6.out HB.out)) HPZ.out HTZ.out HSPZ.out _ _ _ _ _ _ _ _ _ _ _ _ _ _ _ _ _ _ _ _ _ _ _ _ _ _ _ _ _ _ _ _ _ _ _ _ _ _ _ _ _ _ _ _ _ _ _ _ _ _ _ _ _ _ _ _ _ _ _ _ _ _ _ _ _ _ _ _ _ _ _ _ _ _ _ _ _ _ _ _ _ _ _ _ _ _ _ _ _ _ _ ?_
  rintro W7 z7_0 z7_1 z7_2 z7_3 z7_4 z7_5 z7_6 z7_7 q7
  have HZ7 := Lib.hid (HZ6.out.trans q7)
  clear q7
  go_wp2_with fail
  refine (one18_any 2 [102, 111, 120] _).mono ?_
  rintro e v1 ⟨rfl, q1⟩
  have HV1 := Lib.hid (HZ7.out.trans q1); clear q1
  go_wp2_with fail
  refine (one18_any 2 [99, 97, 116] _).mono ?_
  rintro e v2 ⟨rfl, q2⟩
  have HV2 := Lib.hid (HV1.out.trans q2); clear q2 HV1
  have hm := qrys_two v2 2 2 [102, 111, 120] [99, 97, 116] 32
  have hqm := Q.alloc v2 (.cells #[.int .i64 2, strV [102, 111, 120], .slice none 0 0, .slice none 0 0, .slice none 0 0, .int .i64 2, strV [99, 97, 116], .slice none 0 0, .slice none 0 0, .slice none 0 0] 32)
  have HM := Lib.hid hm; have HV3 := Lib.hid (HV2.out.trans hqm)
  clear hm hqm HV2
  go_wp2_with fail
  refine (one18_any 2 [100, 111, 103] _).mono ?_
  rintro e v4 ⟨rfl, q4⟩
  have hn := qrys_one v4 2 [100, 111, 103] 32
  have hqn := Q.alloc v4 (.cells #[.int .i64 2, strV [100, 111, 103], .slice none 0 0, .slice none 0 0, .slice none 0 0] 32)
  have hqx := Q.alloc (v4.alloc (.cells #[.int .i64 2, strV [100, 111, 103], .slice none 0 0, .slice none 0 0, .slice none 0 0] 32)) (.cells #[.int .i64 5, strV [], .slice none 0 0, .slice (some ⟨v2.heap.size, 0, none⟩) 2 2, .slice (some ⟨v4.heap.size, 0, none⟩) 1 1] 32)
  have hq5 := (HV3.out.trans q4).trans (hqn.trans hqx)
  have hqat : QryAt _ sxQ (.agg #[.int .i64 5, strV [], .slice none 0 0, .slice (some ⟨v2.heap.size, 0, none⟩) 2 2, .slice (some ⟨v4.heap.size, 0, none⟩) 1 1]) := QryAt.mk' (QrysAt.nil _) ((HM.out.stays q4).stays (hqn.trans hqx)) (hn.stays hqx)
  have c := ScSearch_any _ (.slice a1 1 c1) sxP sxQ _ (HPZ.out.stays hq5) sx_ok (by decide) hqat (by decide +kernel) (by decide +kernel) (HTZ.out.stays hq5) (HSPZ.out.stays hq5)
  rw [sx_5] at c
  have k0 : (((v4.alloc (.cells #[.int .i64 2, strV [100, 111, 103], .slice none 0 0, .slice none 0 0, .slice none 0 0] 32)).alloc (.cells #[.int .i64 5, strV [], .slice none 0 0, .slice (some ⟨v2.heap.size, 0, none⟩) 2 2, .slice (some ⟨v4.heap.size, 0, none⟩) 1 1] 32))).cell? ⟨X, 0, none⟩ = some (.slice a1 1 c1) := Boxed.cell (block_stays' hq5 HB.out)
  have C := Lib.hid c; have HV5 := Lib.hid hq5
  clear c hq5 hqat hn hqn hqx q4 HM HV3
  go_wp2_with fail
  refine C.out.mono ?_
  rintro e v6 ⟨sv, rfl, hh, q6⟩
  obtain ⟨sa, sc, rfl, _⟩ := hh.value
  have HV6 := Lib.hid (HV5.out.trans q6)
  have cs := SameT_any _ (.slice (some ⟨v6.heap.size, 0, none⟩) 2 2) [([122], 2), ([121], 1)] _ (hh.stays (Q.alloc v6 (.cells #[strV [122], .int .i64 2, strV [121], .int .i64 1] 49))) (Hits.lit (x := v6) #[strV [122], .int .i64 2, strV [121], .int .i64 1] 49 rfl rfl (Q.refl _)) (by decide)
  have CS := Lib.hid cs; have HV7 := Lib.hid (HV6.out.trans (Q.alloc v6 (.cells #[strV [122], .int .i64 2, strV [121], .int .i64 1] 49)))
  clear cs hh q6 C HV5 HV6 k0
  go_wp2_with fail
  refine CS.out.mono ?_
  rintro e v8 ⟨rfl, q8⟩
  have HV8 := Lib.hid ((HQ.out.trans HV7.out).trans q8)
  clear q8 CS HV7
  have w31 : weightZ 3 1 = 2 := by decide +kernel
  have w32 : weightZ 3 2 = 1 := by decide +kernel
  have w81 : weightZ 8 1 = 4 := by decide +kernel
  have w01 : weightZ 0 1 = 0 := by decide +kernel
  have cw31 := fun W => Weight_any 3 1 W (by omega) (by omega) (by omega) (by omega)
  have cw32 := fun W => Weight_any 3 2 W (by omega) (by omega) (by omega) (by omega)
  have cw81 := fun W => Weight_any 8 1 W (by omega) (by omega) (by omega) (by omega)
  have cw01 := fun W => Weight_any 0 1 W (by omega) (by omega) (by omega) (by omega)
  rw [w31] at cw31; rw [w32] at cw32; rw [w81] at cw81; rw [w01] at cw01
  have CA := Lib.hid cw31; have CB := Lib.hid cw32; have CC := Lib.hid cw81; have CD := Lib.hid cw01
  clear cw31 cw32 cw81 cw01 w31 w32 w81 w01
  go_wp2_with (first | (go_at_call 12; (with_reducible refine (CA.out _).mono ?_); rintro e w' ⟨rfl, rfl⟩) | (go_at_call 12; (with_reducible refine (CB.out _).mono ?_); rintro e w' ⟨rfl, rfl⟩) | (go_at_call 12; (with_reducible refine (CC.out _).mono ?_); rintro e w' ⟨rfl, rfl⟩) | (go_at_call 12; (with_reducible refine (CD.out _).mono ?_); rintro e w' ⟨rfl, rfl⟩))
  go_ret
  exact ⟨rfl, HV8.out⟩
end Go.Proofs.YtcflpcpkmhljkaaGreatDoor
end
