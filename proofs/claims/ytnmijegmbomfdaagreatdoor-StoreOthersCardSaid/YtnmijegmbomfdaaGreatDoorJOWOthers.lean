/- Joined texts of one proof: what is needed of WOthers. -/
import Derived.Test.YtnmijegmbomfdaaGreatDoorJStt7
set_option linter.unusedSimpArgs false
set_option linter.unusedVariables false
set_option linter.unnecessarySimpa false
set_option maxRecDepth 100000
set_option maxHeartbeats 16000000
namespace Go.Proofs.YtnmijegmbomfdaaGreatDoor
section
open Go.RowKit
theorem byte_at (s : Bytes) (J : Nat) (h : J < ({ data := s.toArray } : ByteArray).size) : ({ data := s.toArray } : ByteArray)[J] = s.getD J 0 := by
  have h2 : J < s.length := by simpa [ByteArray.size] using h
  rw [List.getD_eq_getElem?_getD, List.getElem?_eq_getElem h2]
  rfl
theorem chunk_bytes (f : Nat → Bytes) (ks : List Nat) (j : Nat) (hj : j < ks.length) (h : ∀ k ∈ ks, (f k).length = 256) : ((ks.flatMap (chunk f)).getD (258 * j) 0) = UInt8.ofNat (ks[j] % 256) ∧ ((ks.flatMap (chunk f)).getD (258 * j + 1) 0) = UInt8.ofNat (ks[j] / 256 % 256) := by
  have e := chunks_at f ks j hj h
  have e0 : (((ks.flatMap (chunk f)).drop (258 * j)).take 258).getD 0 0 = UInt8.ofNat (ks[j] % 256) := by rw [e]; rfl
  have e1 : (((ks.flatMap (chunk f)).drop (258 * j)).take 258).getD 1 0 = UInt8.ofNat (ks[j] / 256 % 256) := by rw [e]; rfl
  constructor
  · rw [← e0]; simp [List.getD_eq_getElem?_getD]
  · rw [← e1]; simp [List.getD_eq_getElem?_getD]
theorem Others_walk (v : Value) (l : List Act7) (m : Int) (cn : Int) (cm : Bool) (w : World) (hv : Acts7 w v l) (hl : Acts7Wf l) (m0 : -9223372036854775808 ≤ m) (m1 : m ≤ 9223372036854775807) (hcn : 0 ≤ cn ∧ cn ≤ 255) :
    Calls Tryz.prog 5 #[v, .int .i64 m, .int .u8 cn, .bool cm] w fun e w' => e = .returned (.bool true) ∧ Below w.heap.size w w' := by
  have hsh := fun (W : World) => Shown7_any W
  have hsm := fun (W : World) (q : Q w W) => Small7_any v l W (hv.stays q) hl
  have hbg := fun (W : World) => Begin7_any W 64 (by decide)
  obtain ⟨va, vc, rfl, hcell⟩ := hv.value
  have hwf := hl.2
  have HSH := Lib.hid hsh; have HSM := Lib.hid hsm; have HBG := Lib.hid hbg; have HCE := Lib.hid hcell; have HWF := Lib.hid hwf
  have hl0 := hl.1
  have hpm : ∀ W, Calls Tryz.prog 13 #[.int .i64 m, .int .i64 9] W fun e w' => e = .returned (.int .i64 (pickZ m 9 : Nat)) ∧ W = w' := fun W => Pick7_any m 9 W m0 m1 (by decide) (by decide)
  have HPM := Lib.hid hpm
  have hml := pickZ_lt m 9 (by decide)
  obtain ⟨c8, rfl⟩ : ∃ c8 : UInt8, cn = (c8.toNat : Nat) := ⟨UInt8.ofNat cn.toNat, by rw [UInt8.toNat_ofNat', Nat.mod_eq_of_lt (by omega)]; omega⟩
  have hfu := fun (W : World) => Full_any c8 W
  have hful := fullL_len c8
  have HFU := Lib.hid hfu
  clear hpm hfu hcn
  generalize pickZ m 9 = pm at *
  clear hsh hsm hbg hcell hwf hv hl
  go_enter Tryz.func5, Tryz.ntmps5
  go_wp2_with fail
  refine (HSH.out _).mono ?_
  rintro e w1 ⟨rfl, q1⟩
  have Q1 := Lib.hid q1
  clear q1
  go_wp2_with fail
  refine (HSM.out _ Q1.out).mono ?_
  rintro e w2 ⟨rfl, rfl⟩
  cases hsb : small7B l with
  | false =>
    go_wp2_with fail
    go_ret
    exact ⟨rfl, Q1.out⟩
  | true =>
    obtain ⟨hl80, hkeep⟩ := small7_wf hsb
    clear hsb hkeep
    have HBG1 := Lib.hid (HBG.out w1)
    rw [show ((64 : Nat) : Int) = 64 from rfl] at HBG1
    go_wp2_with fail
    refine HBG1.out.mono ?_
    rintro e w3 ⟨wb, sb, b, mb, rs, rb, rfl, hB⟩
    have HW0 := Lib.hid (show WAt w1 w3 wb sb b (startS 132) (2 * 0) from hB.w)
    clear hB
    go_wp2_with fail
    go_loopw [14] (fun i wr => ∃ (k : Nat) (σ : StL), i = .int .i64 (k : Nat) ∧ k ≤ l.length ∧ Hid (WAt w1 wr wb sb b σ (2 * k)) ∧ Hid (Good7 k σ)) (fun i _ => l.length - (intOf i).toNat)
    case atStart => exact ⟨0, startS 132, rfl, Nat.zero_le _, HW0, Lib.hid good7_start⟩
    case round =>
      obtain ⟨k, σ, rfl, hk, HW, HG⟩ := hrel
      by_cases hlt : k < l.length
      · have hki : (k : Int) < (l.length : Int) := by omega
        have hk0 : (0 : Int) ≤ (k : Int) := by omega
        obtain ⟨g, off, rfl, hc⟩ := HCE.out (by omega)
        obtain ⟨kv, x0, x1, x2, x3, x4, hbs⟩ := hc k hlt
        obtain ⟨ka2, kc2, rfl⟩ := hbs.len
        have hqw := Q1.out.trans HW.out.q
        obtain ⟨x0, x1, x2, x3, x4⟩ := five hqw x0 x1 x2 x3 x4
        have hwk := HWF.out _ (List.getElem_mem hlt)
        have hst := fun (h9 : l[k].k < 9) => Act7_step HW.out HG.out (by omega) ka2 l[k].keep.length kc2 l[k] hwk 64 h9
        have hpk := fun (W : World) => Pick7_any l[k].op 11 W hwk.op.1 hwk.op.2 (by decide) (by decide)
        have HST := Lib.hid hst; have HPK := Lib.hid hpk
        clear hc hbs hqw hwk hst hpk
        generalize l[k] = ac at *
        have hkk : ac.k = pickZ ac.op 11 := rfl
        rw [hkk] at HST
        clear hkk
        generalize hpz : pickZ ac.op 11 = pz at *
        clear hpz
        by_cases h9 : pz < 9
        · have h9i : (pz : Int) < 9 := by omega
          have HST2 := Lib.hid (HST.out h9)
          clear HST
          go_wp2_with fail
          refine (HPK.out _).mono ?_
          rintro e w4 ⟨rfl, rfl⟩
          go_wp2_with fail
          refine HST2.out.mono ?_
          rintro e w5 ⟨rfl, h5, g5⟩
          have H5 := Lib.hid h5; have G5 := Lib.hid g5
          clear h5 g5
          go_wp2_with fail
          go_roundw
          case rel => exact ⟨k + 1, _, by go_num, by omega, H5, G5⟩
          case measure => simp [intOf]; omega
        · have h9i : ¬ (pz : Int) < 9 := by omega
          have HWM := Lib.hid (HW.out.mono (show 2 * k ≤ 2 * (k + 1) by omega)); have HGM := Lib.hid HG.out.more
          clear HST
          go_wp2_with fail
          refine (HPK.out _).mono ?_
          rintro e w4 ⟨rfl, rfl⟩
          go_wp2_with fail
          go_roundw
          case rel => exact ⟨k + 1, _, by go_num, by omega, HWM, HGM⟩
          case measure => simp [intOf]; omega
      · have hki : ¬ (k : Int) < (l.length : Int) := by omega
        obtain rfl : k = l.length := by omega
        clear hki hlt hk HCE HWF
        obtain ⟨⟨fr, C, hi⟩, hfr, hn⟩ := HG.out.abort
        have ho := abort_open σ
        have kab := HW.out.abortK
        have c1 := HW.out.cells.2
        generalize hs : σ.abort = s at *
        have hfd : firstD s.n = 64 := by rw [hn]; decide
        have b1 := begin_run hi ho
        have i1 := begin_inv hi
        rw [b1] at i1
        obtain ⟨s1, hs1⟩ : ∃ s1 : StL, s1 = { s with open_ := true, was := s.map1 } := ⟨_, rfl⟩
        rw [← hs1] at b1 i1
        simp only at i1
        have o1 : s1.open_ = true := by rw [hs1]
        have t1 : s1.tx = [] := by rw [hs1]; exact hi.closed ho
        have n1 : s1.n = 132 := by rw [hs1]; exact hn
        have f1 : s1.j.d.Free := by rw [hs1]; exact hfr
        have u1 := i1.num (by omega)
        have kbe := fun (W : World) (K : Nat) (h : WAt w1 W wb sb b s K) => h.beginK
        simp only [b1] at kbe
        have ka1 := fun (W : World) (K : Nat) (hK : K ≤ 1000000000000) (h : WAt w1 W wb sb b s1 K) => h.allocK ((1 + pm : Nat) : Int) u1 (by omega)
        have hfa := fresh_alloc i1 o1 t1 (1 + pm) (by omega)
        have hwp : IntKind.i64.wrap (1 + (pm : Int)) = 1 + (pm : Int) := IntWalk.i64_in _ (by omega)
        have ein : ((1 + pm : Nat) : Int) = 1 + (pm : Int) := by omega
        have einw : ((1 + pm : Nat) : Int) = IntKind.i64.wrap (1 + (pm : Int)) := by rw [hwp, ein]
        have KAB := Lib.hid kab; have KBE := Lib.hid kbe
        have I1 := Lib.hid (And.intro i1 (And.intro o1 (And.intro t1 (And.intro n1 f1))))
        clear kab kbe hi hfr hn ho hs hfd b1 hs1 i1 o1 t1 n1 u1 f1 HW HG
        go_wp2_with fail
        refine (KAB.out _ (Q.refl _)).mono ?_
        rintro e w4 ⟨rfl, h4, k4⟩
        have S4 := Lib.hid h4
        clear h4 k4 c1
        have c1 := S4.out.cells.2
        go_wp2_with fail
        refine (KBE.out _ _ S4.out _ (Q.refl _)).mono ?_
        rintro e w5 ⟨rfl, h5, k5⟩
        have S5 := Lib.hid h5
        clear h5 k5 S4 c1
        have c1 := S5.out.cells.2
        have ka5 := ka1 w5 _ (by omega) S5.out
        have KK := Lib.hid (Q.refl w5)
        rcases hfa with ⟨a, x1, x2, x3, x4, x5, x6, x7, x8, x9, x10, x11⟩ | x
        · have kal := ka5
          rw [x1] at kal
          obtain ⟨i1, o1, t1, n1, f1⟩ := I1.out
          have n2 : (s1.alloc ((1 + pm : Nat) : Int)).1.n = 132 := by unfold StL.n; rw [x9]; exact n1
          have f2 : (s1.alloc ((1 + pm : Nat) : Int)).1.j.d.Free := by rw [x9]; exact f1
          have hfd2 : firstD 132 = 64 := by decide
          have hb2 := i1.bits
          rw [n1] at hb2 x2 x3
          have hbit : bit (s1.alloc ((1 + pm : Nat) : Int)).1.map1 (a + pm) = true := by
            rw [x5, bit_setTo _ _ _ _ _ (by omega), if_pos (by omega)]
          generalize hs2 : (s1.alloc ((1 + pm : Nat) : Int)).1 = s2 at *
          rw [n1] at x11
          have u2 := x6.num (by omega)
          rw [hfd2] at x2
          have hx := get_home x6 (a + pm) (by rw [n2, hfd2]; omega) (by rw [n2]; omega) (by rw [n2]; exact x11)
          have hrx := read_data x6 (a + pm) (by rw [n2, hfd2]; omega) (by rw [n2]; omega)
          rw [hx] at hrx
          obtain ⟨y1, y2, y3, y4⟩ := fresh_write x6 x8 x7 (a + pm) (fullL c8) hful (by rw [n2, hfd2]; omega) (by rw [n2]; omega) hbit
          obtain ⟨s3, hs3⟩ : ∃ s3 : StL, s3 = { s2 with tx := touchL s2.tx [(a + pm, fullL c8)] } := ⟨_, rfl⟩
          rw [← hs3] at y1 y2 y3 y4
          have o3 : s3.open_ = true := by rw [hs3]; exact x8
          have m3 : s3.map1 = s2.map1 := by rw [hs3]
          have n3 : s3.n = 132 := by rw [hs3]; exact n2
          have f3 : s3.j.d.Free := by rw [hs3]; exact f2
          have u3 := y2.num (by omega)
          have hr3 := read_data y2 (a + pm) (by rw [n3, hfd2]; omega) (by rw [n3]; omega)
          rw [y3] at hr3
          obtain ⟨g1, ⟨fr4, i4⟩, g3, g4, g5, g6⟩ := commit_free_run y2 f3 o3 (by omega)
          have u4 := i4.num (by omega)
          have hr4 : s3.commit.1.read ((a + pm : Nat) : Int) = (fullL c8, 0) := by
            rw [read_data i4 (a + pm) (by rw [g5, n3, hfd2]; omega) (by rw [g5, n3]; omega), i4.get (a + pm) (by omega) (by rw [g5, n3]; omega), i4.closed g3]
            show (updC C s3.tx (a + pm), (0 : Int)) = _
            rw [← y2.get (a + pm) (by omega) (by rw [n3]; omega), y3]
          have ht4 : s3.commit.1.tell = s3.tell := commit_tell y2 i4 g3 g5
          have hr5 := abort_get y2 (a + pm) (by rw [n3, hfd2]; omega) (by rw [n3]; omega)
          have i5 := abort_inv y2
          have u5 := i5.num (by omega)
          have hg2 : ∀ k ∈ usedK 132 s2.map1, (s2.get k).length = 256 := fun k hk => by
            obtain ⟨k1, k2, _⟩ := usedK_lt hk
            rw [x6.get k (by rw [hfd2] at k1; omega) (by rw [n2]; exact k2)]
            exact upd_len x6.len (fun w hw => (x6.txok w hw).2.2) k (by rw [hfd2] at k1; omega) (by rw [n2]; exact k2)
          have hg3 : ∀ k ∈ usedK 132 s2.map1, (s3.get k).length = 256 := fun k hk => by
            by_cases hkn : k = a + pm
            · rw [hkn, y3]; exact hful
            · rw [y4 k hkn]; exact hg2 k hk
          have hw2 : s2.tell = (usedK 132 s2.map1).flatMap (chunk s2.get) := by unfold StL.tell; rw [n2, tell_chunks]
          have hw3 : s3.tell = (usedK 132 s2.map1).flatMap (chunk s3.get) := by unfold StL.tell; rw [n3, m3, tell_chunks]
          have hl2 := chunks_len s2.get _ hg2
          have hl3 := chunks_len s3.get _ hg3
          rw [← hw2] at hl2
          rw [← hw3] at hl3
          have hby : ∀ j (hj : j < (usedK 132 s2.map1).length), s2.tell.getD (258 * j) 0 = UInt8.ofNat ((usedK 132 s2.map1)[j] % 256) ∧ s2.tell.getD (258 * j + 1) 0 = UInt8.ofNat ((usedK 132 s2.map1)[j] / 256 % 256) := fun j hj => by rw [hw2]; exact chunk_bytes s2.get _ j hj hg2
          have hsa : ∀ j (hj : j < (usedK 132 s2.map1).length), (usedK 132 s2.map1)[j] ≠ a + pm → (s2.tell.drop (258 * j)).take 258 = (s3.tell.drop (258 * j)).take 258 := fun j hj hne => by
            rw [hw2, hw3, chunks_at s2.get _ j hj hg2, chunks_at s3.get _ j hj hg3, chunk, chunk, y4 _ hne]
          have hks : ∀ j (hj : j < (usedK 132 s2.map1).length), (usedK 132 s2.map1)[j] < 132 := fun j hj => (usedK_lt (List.getElem_mem hj)).2.1
          have hnk : (usedK 132 s2.map1).length ≤ 132 := by
            unfold usedK
            exact Nat.le_trans (List.length_filter_le _ _) (by simp)
          have kst := fun (W : World) (K : Nat) (hK : K ≤ 1000000000000) (h : WAt w1 W wb sb b s2 K) => h.stateK u2 x6.inv.live x6.map.low (by omega)
          have krd := fun (W : World) (K : Nat) (hK : K ≤ 1000000000000) (h : WAt w1 W wb sb b s2 K) => h.readK ((a + pm : Nat) : Int) u2 (by omega)
          have kwr := fun (W : World) (K : Nat) (hK : K ≤ 1000000000000) (h : WAt w1 W wb sb b s2 K) => h.writeK ((a + pm : Nat) : Int) (fullL c8) u2 (by omega) (by omega)
          have kr3 := fun (W : World) (K : Nat) (hK : K ≤ 1000000000000) (h : WAt w1 W wb sb b s3 K) => h.readK ((a + pm : Nat) : Int) u3 (by omega)
          have ks3 := fun (W : World) (K : Nat) (hK : K ≤ 1000000000000) (h : WAt w1 W wb sb b s3 K) => h.stateK u3 y2.inv.live y2.map.low (by omega)
          have kc3 := fun (W : World) (K : Nat) (h : WAt w1 W wb sb b s3 K) => h.commitK u3 (commit_pre y2 (by omega))
          have kb3 := fun (W : World) (K : Nat) (h : WAt w1 W wb sb b s3 K) => h.abortK
          have kr4 := fun (W : World) (K : Nat) (hK : K ≤ 1000000000000) (h : WAt w1 W wb sb b s3.commit.1 K) => h.readK ((a + pm : Nat) : Int) u4 (by omega)
          have ks4 := fun (W : World) (K : Nat) (hK : K ≤ 1000000000000) (h : WAt w1 W wb sb b s3.commit.1 K) => h.stateK u4 i4.inv.live i4.map.low (by omega)
          have kr5 := fun (W : World) (K : Nat) (hK : K ≤ 1000000000000) (h : WAt w1 W wb sb b s3.abort K) => h.readK ((a + pm : Nat) : Int) u5 (by omega)
          simp only [hrx] at krd; simp only [y1] at kwr; simp only [hr3] at kr3; simp only [g1] at kc3; simp only [hr4] at kr4; simp only [ht4] at ks4; simp only [hr5] at kr5
          have ea : ((a + pm : Nat) : Int) = (a : Int) + (pm : Int) := by omega
          simp only [ea] at krd kwr kr3 kr4 kr5
          have eaw : IntKind.i64.wrap ((a : Int) + (pm : Int)) = (a : Int) + (pm : Int) := IntWalk.i64_in _ (by omega)
          have kalw := kal
          rw [ein] at kal
          rw [einw] at kalw
          have KAL := Lib.hid kal; have KALW := Lib.hid kalw; have KST := Lib.hid kst; have KRD := Lib.hid krd; have KWR := Lib.hid kwr; have KR3 := Lib.hid kr3; have KS3 := Lib.hid ks3; have KC3 := Lib.hid kc3; have KB3 := Lib.hid kb3; have KR4 := Lib.hid kr4; have KS4 := Lib.hid ks4; have KR5 := Lib.hid kr5
          have HBY := Lib.hid hby; have HSA := Lib.hid hsa; have HKS := Lib.hid hks
          clear kal kalw kst krd kwr kr3 ks3 kc3 kb3 kr4 ks4 kr5 hby hsa hks x1 x4 x5 x6 x7 x8 x9 x10 x11 i1 o1 t1 n1 f1 n2 f2 hfd2 hb2 hbit hs2 u2 hx hrx y1 y2 y3 y4 hs3 o3 m3 n3 f3 u3 hr3 g1 i4 g3 g4 g5 g6 u4 hr4 ht4 hr5 i5 u5 hg2 hg3 hw2 hw3 ka5 ka1 hwp ein einw
          generalize usedK 132 s2.map1 = ks at *
          generalize hwasd : s2.tell = was at *
          generalize hnowd : s3.tell = now at *
          clear hwasd hnowd
          go_wp2_with fail
          (go_region_held3 (fun w' => w'.cell? ⟨wb, 1, none⟩ = some (ptrV sb))
            (first | exact g0 | exact c1 | exact cellQ (by repeat (first | with_reducible exact KK.out | with_reducible exact Q.refl _ | with_reducible apply Qs.dr | with_reducible apply Qs.al)) c1)
            (first
              | (go_at_call 13; with_reducible refine (HPM.out _).mono ?_; rintro e w9y ⟨rfl, rfl⟩)
              | (go_at_call 23; with_reducible refine (KAL.out _ (by repeat (first | with_reducible exact KK.out | with_reducible exact Q.refl _ | with_reducible apply Qs.dr | with_reducible apply Qs.al))).mono ?_; rintro e w6 ⟨rfl, h6, k6⟩; have g0 := Keeps.wb k6 c1; have S6 := Lib.hid h6; clear h6 k6)
              | (go_at_call 23; with_reducible refine (KALW.out _ (by repeat (first | with_reducible exact KK.out | with_reducible exact Q.refl _ | with_reducible apply Qs.dr | with_reducible apply Qs.al))).mono ?_; rintro e w6 ⟨rfl, h6, k6⟩; have g0 := Keeps.wb k6 c1; have S6 := Lib.hid h6; clear h6 k6)))
          all_goals
            clear KK S5 c1
            try clear g0
            have c1 := S6.out.cells.2
            go_wp2_with fail
            refine (KST.out _ _ (by omega) S6.out _ (Q.refl _)).mono ?_
            rintro e w7 ⟨rfl, h7, k7⟩
            have S7 := Lib.hid h7
            clear h7 k7 S6 c1
            have c1 := S7.out.cells.2
            go_wp2_with fail
            refine (HPM.out _).mono ?_
            rintro e w8 ⟨rfl, rfl⟩
            go_wp2_with fail
            refine (KRD.out _ _ (by omega) S7.out _ (Q.refl _)).mono ?_
            rintro e w9 ⟨rfl, h9, k9⟩
            have S9 := Lib.hid h9
            clear h9 k9 S7 c1
            have c1 := S9.out.cells.2
            have KK := Lib.hid (Q.refl w9)
            go_wp2_with fail
            (go_region_held3 (fun w' => w'.cell? ⟨wb, 1, none⟩ = some (ptrV sb))
              (first | exact g0 | exact c1 | exact cellQ (by repeat (first | with_reducible exact KK.out | with_reducible exact Q.refl _ | with_reducible apply Qs.dr | with_reducible apply Qs.al)) c1)
              (first
                | (go_at_call 27; with_reducible refine (HFU.out _).mono ?_; rintro e w9y ⟨rfl, q9y⟩; have s' : Q w9 w9y := Q.trans (by repeat (first | with_reducible exact KK.out | with_reducible exact Q.refl _ | with_reducible apply Qs.dr | with_reducible apply Qs.al)) q9y; clear KK; have KK := Lib.hid s'; clear s' q9y)
                | (go_at_call 26; with_reducible refine (KWR.out w9 _ (by omega) S9.out _ (by repeat (first | with_reducible exact KK.out | with_reducible exact Q.refl _ | with_reducible apply Qs.dr | with_reducible apply Qs.al))).mono ?_; rintro e w10 ⟨rfl, h10, k10⟩; have g0 := Keeps.wb k10 c1; have S10 := Lib.hid h10; clear h10 k10)))
            all_goals
              clear KK S9 c1
              try clear g0
              have c1 := S10.out.cells.2
              go_wp2_with fail
              refine (KR3.out _ _ (by omega) S10.out _ (Q.refl _)).mono ?_
              rintro e w11 ⟨rfl, h11, k11⟩
              have S11 := Lib.hid h11
              clear h11 k11 S10 c1
              have c1 := S11.out.cells.2
              go_wp2_with fail
              refine (KS3.out _ _ (by omega) S11.out _ (Q.refl _)).mono ?_
              rintro e w12 ⟨rfl, h12, k12⟩
              have S12 := Lib.hid h12
              clear h12 k12 S11 c1
              have c1 := S12.out.cells.2
              have hll : now.length = was.length := by omega
              have hlli : (now.length : Int) = (was.length : Int) := by omega
              have hllb : ((now.length : Int) == (was.length : Int)) = true := by rw [hlli]; exact beq_self_eq_true _
              have HLL := Lib.hid hll; have HL2 := Lib.hid hl2; have HL3 := Lib.hid hl3
              clear hll hl2 hl3
              go_wp2_with fail
              refine (HFU.out _).mono ?_
              rintro e w13 ⟨rfl, q13⟩
              have S13 := Lib.hid (S12.out.keep q13)
              clear q13 S12 c1
              have c1 := S13.out.cells.2
              go_wp2_with fail
              go_loopw [25] (fun iv wr => ∃ j J : Nat, iv = .int .i64 (J : Nat) ∧ j ≤ ks.length ∧ J ≤ was.length ∧ Hid (J = 258 * j) ∧ Hid (WAt w1 wr wb sb b s3 40000000)) (fun iv _ => was.length + 1 - (intOf iv).toNat)
              case atStart => exact ⟨0, 0, rfl, Nat.zero_le _, Nat.zero_le _, Lib.hid rfl, Lib.hid (S13.out.mono (by omega))⟩
              case round =>
                obtain ⟨j, J, rfl, hj, hJl, HJ, HWJ⟩ := hrel
                have c1 := HWJ.out.cells.2
                by_cases hjl : j < ks.length
                · have hcond : (J : Int) + 258 ≤ (was.length : Int) := by have := HL2.out; have := HJ.out; omega
                  have hwl : was.length ≤ 258 * 132 := by have := HL2.out; omega
                  have hw1 : IntKind.i64.wrap ((J : Int) + 258) = (J : Int) + 258 := IntWalk.i64_in _ (by omega)
                  have hw2 : IntKind.i64.wrap ((J : Int) + 1) = (J : Int) + 1 := IntWalk.i64_in _ (by omega)
                  obtain ⟨hb0, hb1⟩ := HBY.out j hjl
                  rw [← HJ.out] at hb0 hb1
                  have hi0 : (0 : Int) ≤ (J : Int) := by omega
                  have hi1 : (J : Int) < (was.length : Int) := by omega
                  have hi2 : (J : Int) + 1 < (was.length : Int) := by omega
                  have hi3 : (0 : Int) ≤ (J : Int) + 1 := by omega
                  have ht1 : ((J : Int) + 1).toNat = J + 1 := by omega
                  have ht2 : ((J : Int) + 258).toNat = J + 258 := by omega
                  have HB := Lib.hid (And.intro hb0 hb1)
                  clear hb0 hb1
                  go_wp2_with fail
                  go_quiet (fail)
                  obtain ⟨hb0, hb1⟩ := HB.out
                  have hkj := HKS.out j hjl
                  have hsl := HSA.out j hjl
                  generalize ks[j] = kj at *
                  have e0 : ∀ h, (({ data := was.toArray } : ByteArray)[J]'h).toNat = kj % 256 := fun h => by rw [byte_at was J h, hb0, UInt8.toNat_ofNat', Nat.mod_eq_of_lt (by omega)]
                  have e1 : ∀ h, (({ data := was.toArray } : ByteArray)[J + 1]'h).toNat = kj / 256 % 256 := fun h => by rw [byte_at was (J + 1) h, hb1, UInt8.toNat_ofNat', Nat.mod_eq_of_lt (by omega)]
                  simp only [e0, e1]
                  have ek : wrap64 (wrap64 ((kj % 256 : Nat) : Int) + wrap64 (256 * wrap64 ((kj / 256 % 256 : Nat) : Int))) = (kj : Int) := by
                    rw [show wrap64 ((kj % 256 : Nat) : Int) = ((kj % 256 : Nat) : Int) from IntWalk.wrap64_in _ (by omega), show wrap64 ((kj / 256 % 256 : Nat) : Int) = ((kj / 256 % 256 : Nat) : Int) from IntWalk.wrap64_in _ (by omega), show wrap64 (256 * ((kj / 256 % 256 : Nat) : Int)) = 256 * ((kj / 256 % 256 : Nat) : Int) from IntWalk.wrap64_in _ (by omega)]
                    rw [show ((kj % 256 : Nat) : Int) + 256 * ((kj / 256 % 256 : Nat) : Int) = (kj : Int) by omega]
                    exact IntWalk.wrap64_in _ (by omega)
                  rw [ek]
                  have hx1 : ({ data := was.toArray } : ByteArray).extract J (J + 258) = ⟨((was.drop J).take 258).toArray⟩ := by rw [bytes_extract, Nat.add_sub_cancel_left]
                  have hx2 : ({ data := now.toArray } : ByteArray).extract J (J + 258) = ⟨((now.drop J).take 258).toArray⟩ := by rw [bytes_extract, Nat.add_sub_cancel_left]
                  have hnl : (J : Int) + 258 ≤ (now.length : Int) := by rw [hlli]; exact hcond
                  have hj258 : (J : Int) ≤ (J : Int) + 258 := by omega
                  clear hb0 hb1 e0 e1 ek
                  by_cases hkn : kj = a + pm
                  · rw [show (kj : Int) = (a : Int) + (pm : Int) by omega]
                    clear hsl hkn hkj
                    go_wp2_with fail
                    go_quiet (fail)
                    go_wp2_with fail
                    go_roundw
                    case rel => exact ⟨j + 1, J + 258, by go_num, by omega, by omega, Lib.hid (by rw [HJ.out]; omega), Lib.hid (HWJ.out.keep (Q.drewN _ _))⟩
                    case measure => simp [intOf]; omega
                  · have hneb : ((kj : Int) == (a : Int) + (pm : Int)) = false := beq_eq_false_iff_ne.2 (by omega)
                    have hne2 : (kj == a + pm) = false := beq_eq_false_iff_ne.2 hkn
                    have hne3 : decide (kj = a + pm) = false := decide_eq_false hkn
                    have hne4 : decide ((kj : Int) = (a : Int) + (pm : Int)) = false := decide_eq_false (by omega)
                    have hne5 : ¬ (kj : Int) = (a : Int) + (pm : Int) := by omega
                    have hse := hsl hkn
                    rw [← HJ.out] at hse
                    rw [← hse] at hx2
                    have hsb : (((was.drop J).take 258) == ((was.drop J).take 258)) = true := beq_self_eq_true _
                    have hkn2 := hkn
                    clear hsl hkn hkj hse
                    generalize (was.drop J).take 258 = sl at *
                    go_wp2_with fail
                    go_quiet (fail)
                    go_wp2_with fail
                    go_roundw
                    case rel => exact ⟨j + 1, J + 258, by go_num, by omega, by omega, Lib.hid (by rw [HJ.out]; omega), Lib.hid (HWJ.out.keep (Q.drewN _ _))⟩
                    case measure => simp [intOf]; omega
                · have hJe : J = was.length := by have := HL2.out; have := HJ.out; omega
                  subst hJe
                  have hwl : was.length ≤ 258 * 132 := by have := HL2.out; omega
                  have hw1 : IntKind.i64.wrap ((was.length : Int) + 258) = (was.length : Int) + 258 := IntWalk.i64_in _ (by omega)
                  have hcond : ¬ (was.length : Int) + 258 ≤ (was.length : Int) := by omega
                  cases cm with
                  | true =>
                    go_wp2_with fail
                    refine (KC3.out _ _ HWJ.out _ (Q.refl _)).mono ?_
                    rintro e w14 ⟨rfl, h14, k14⟩
                    have S14 := Lib.hid h14
                    clear h14 k14 c1
                    have c1 := S14.out.cells.2
                    go_wp2_with fail
                    refine (KR4.out _ _ (by decide) S14.out _ (Q.refl _)).mono ?_
                    rintro e w15 ⟨rfl, h15, k15⟩
                    have S15 := Lib.hid h15
                    clear h15 k15 S14 c1
                    have c1 := S15.out.cells.2
                    go_wp2_with fail
                    refine (HFU.out _).mono ?_
                    rintro e w16 ⟨rfl, q16⟩
                    have S16 := Lib.hid (S15.out.keep q16)
                    clear q16 S15 c1
                    have c1 := S16.out.cells.2
                    go_wp2_with fail
                    refine (KS4.out _ _ (by decide) S16.out _ (Q.refl _)).mono ?_
                    rintro e w17 ⟨rfl, h17, k17⟩
                    have S17 := Lib.hid h17
                    clear h17 k17 S16 c1
                    go_wp2_with fail
                    go_ret
                    exact ⟨rfl, Q1.out.trans S17.out.q⟩
                  | false =>
                    go_wp2_with fail
                    refine (KB3.out _ _ HWJ.out _ (Q.refl _)).mono ?_
                    rintro e w14 ⟨rfl, h14, k14⟩
                    have S14 := Lib.hid h14
                    clear h14 k14 c1
                    have c1 := S14.out.cells.2
                    go_wp2_with fail
                    refine (KR5.out _ _ (by decide) S14.out _ (Q.refl _)).mono ?_
                    rintro e w15 ⟨rfl, h15, k15⟩
                    have S15 := Lib.hid h15
                    clear h15 k15 S14 c1
                    go_wp2_with fail
                    go_ret
                    exact ⟨rfl, Q1.out.trans S15.out.q⟩
        · have kal := ka5
          rw [x] at kal
          have kalw := kal
          rw [ein] at kal
          rw [einw] at kalw
          have KAL := Lib.hid kal; have KALW := Lib.hid kalw
          clear kal kalw ka5 ka1 x hwp ein einw
          go_wp2_with fail
          (go_region_held3 (fun w' => w'.cell? ⟨wb, 1, none⟩ = some (ptrV sb))
            (first | exact g0 | exact c1 | exact cellQ (by repeat (first | with_reducible exact KK.out | with_reducible exact Q.refl _ | with_reducible apply Qs.dr | with_reducible apply Qs.al)) c1)
            (first
              | (go_at_call 13; with_reducible refine (HPM.out _).mono ?_; rintro e w9y ⟨rfl, rfl⟩)
              | (go_at_call 23; with_reducible refine (KAL.out _ (by repeat (first | with_reducible exact KK.out | with_reducible exact Q.refl _ | with_reducible apply Qs.dr | with_reducible apply Qs.al))).mono ?_; rintro e w6 ⟨rfl, h6, k6⟩; have g0 := Keeps.wb k6 c1; have S6 := Lib.hid h6; clear h6 k6)
              | (go_at_call 23; with_reducible refine (KALW.out _ (by repeat (first | with_reducible exact KK.out | with_reducible exact Q.refl _ | with_reducible apply Qs.dr | with_reducible apply Qs.al))).mono ?_; rintro e w6 ⟨rfl, h6, k6⟩; have g0 := Keeps.wb k6 c1; have S6 := Lib.hid h6; clear h6 k6)))
          all_goals
            go_wp2_with fail
            go_ret
            exact ⟨rfl, Q1.out.trans S6.out.q⟩
end
end Go.Proofs.YtnmijegmbomfdaaGreatDoor
