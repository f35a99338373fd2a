/- Joined texts of one proof: WRef11d, ValidEq, WRef2a, WRef12a. -/
import Derived.Test.YtoabhcfmdkhmgaaGreatDoorPWStopToToks0
import Derived.Test.YtoabhcfmdkhmgaaGreatDoorPLessToWPostA
import Derived.Test.YtoabhcfmdkhmgaaGreatDoorPPostRdToAppSl
import Derived.Test.YtoabhcfmdkhmgaaGreatDoorPTokToWDictR
import Derived.Test.YtoabhcfmdkhmgaaGreatDoorPWPostBToIx
import Derived.BigQuiet
import Derived.Deep.RegionLaw
import Derived.Test.YtoabhcfmdkhmgaaGreatDoorPMem3ToBld
import Derived.Lib.ValidLaws
import Derived.Lib.TrimUEq
import Derived.Test.YtoabhcfmdkhmgaaGreatDoorPWBldToWRef10f
import Derived.Test.YtoabhcfmdkhmgaaGreatDoorPWFoldToWFolded
set_option linter.unusedSimpArgs false
set_option linter.unusedVariables false
set_option linter.unnecessarySimpa false
/- (WRef11d) codexref11: Terms: walked. -/
section
namespace Go.Proofs.YtoabhcfmdkhmgaaGreatDoor
open Go.RowKit
set_option linter.unusedVariables false

theorem owns_cap2 {w : World} {base : Nat} {e : TypeId} {size n : Nat} {xs : List Value} {a : Option Addr} {c : Nat} (h : w.ownsRow base e size (.slice a n c) n xs) : n ≤ c ∧ c ≤ 9223372036854775807 := by
  rcases h.2 with ⟨hv, hn⟩ | ⟨g, cap, cur, hv, _, _, h1, h2, _⟩
  · cases hv; exact ⟨by omega, by omega⟩
  · cases hv; unfold maxLen at h2; exact ⟨h1, by omega⟩
abbrev strVs (l : List Bytes) : List Value := l.map strV
theorem own_lit0 (W : World) (base : Nat) (hb : base ≤ W.heap.size) : (W.alloc (.cells #[] 9)).ownsRow base 9 1 (.slice (some ⟨W.heap.size, 0, none⟩) 0 0) 0 (strVs []) := owns_lit W base 9 #[] 0 rfl hb (by decide)
theorem own_lit1 (W : World) (A : Obj) (base : Nat) (hb : base ≤ W.heap.size) : ((W.alloc A).alloc (.cells #[] 9)).ownsRow base 9 1 (.slice (some ⟨W.heap.size + 1, 0, none⟩) 0 0) 0 (strVs []) := by
  have := own_lit0 (W.alloc A) base (by simp; omega)
  simpa using this
theorem lit_two (W : World) (A B : Obj) : ((W.alloc A).alloc B).heap[W.heap.size + 1]? = some B := by
  have := World.alloc_heap_new (W.alloc A) B
  simpa using this
theorem lit_one (W : World) (A B : Obj) : ((W.alloc B).alloc A).heap[W.heap.size]? = some B := (Q.alloc (W.alloc B) A).block W.heap.size (by simp) |>.trans (World.alloc_heap_new W B)
theorem sl_blk {w : World} {g : Nat} {t : Bytes} {T : TypeId} {fr : Nat × Nat} (h : w.heap[g]? = some (.cells #[strV t] T fr)) : Sl w (.slice (some ⟨g, 0, none⟩) 1 1) 1 1 (strVs [t]) := by
  refine ⟨rfl, _, _, rfl, fun _ => ⟨g, 0, rfl, fun j u hj => ?_⟩⟩
  simp only [World.cell?, h]
  simpa using hj
theorem trm_app (W0 : World) {w : World} {ops : Array Oper} {o : Oper} {a : Act} {K : Act → World → Prop} {Qx : Exit → Act → World → Prop} {E : Prop} (hgd : o.guard = none) (s x : Operand)
    (ho : o.op = .call { callee := .builtin .append, args := #[s, x], argTypes := #[90, 90] })
    (v : Value) (n : Nat) (xs : List Bytes) (hs : a.eval s = v) (hown : w.ownsRow W0.heap.size 9 1 v n (strVs xs)) (hq : Q W0 w)
    (vx : Value) (m : Nat) (ys : List Bytes) (hx : a.eval x = vx) (hl : Sl w vx m 1 (strVs ys)) (hnm : n + m ≤ 1000000000)
    (h : ∀ v' w', w'.ownsRow W0.heap.size 9 1 v' (n + m) (strVs (xs ++ ys)) → Q W0 w' → (∀ g o, w.heap[g]? = some o → v.ownBlock ≠ some g → w'.heap[g]? = some o) → K (a.put o.dst v') w') :
    if Region.wanted o (yielded ops a.tmps) = true then Oper.wp Tryz.prog o a w K Qx else E := by
  obtain ⟨i0, hi, hz0, hz1, hz2⟩ := info_parts (show (Tryz.prog.info? 9).map (fun i => (i.zero, i.size, i.bytes)) = some (some (strV []), 1, 16) by kernel_rfl)
  have hw : Region.wanted o (yielded ops a.tmps) = true := by simp [Region.wanted, hgd]
  rw [if_pos hw]
  refine wp_append_sl w s x 90 ho W0.heap.size 9 i0 (strV []) 1 16 Tryz.underlying90 hi hz0 hz1 hz2 rfl (by decide) v n (strVs xs) hs hown vx m (strVs ys) hx hl (fun u hu => ?_) (by unfold maxLen; omega) (by omega) hq.size ?_
  · obtain ⟨y, _, rfl⟩ := List.mem_map.1 hu; rfl
  · intro v' w' h2 h3 _
    refine h v' w' (by rw [strVs, List.map_append]; exact h2) (grown_below hq hown h3 (Nat.le_refl _) hq.size) (fun g o hg hne => (h3.block g (Array.getElem?_eq_some_iff.1 hg).1 (Ne.symm hne)).trans hg)
def trmTo (l : List (Bytes × Nat)) (k : Nat) : List Bytes := ((l.take k).map (·.1)).foldl (fun a t => putL t a) []
theorem trmTo_succ (l : List (Bytes × Nat)) (k : Nat) (h : k < l.length) : trmTo l (k + 1) = putL l[k].1 (trmTo l k) := by
  unfold trmTo
  rw [List.take_succ_eq_append_getElem h, List.map_append, List.foldl_append]; rfl
theorem trmTo_rise (l : List (Bytes × Nat)) (k : Nat) : (trmTo l k).Pairwise (· < ·) := foldPutL_rise _ _ List.Pairwise.nil
theorem trmTo_len (l : List (Bytes × Nat)) (k : Nat) : (trmTo l k).length ≤ k := by
  have := foldPutL_len ((l.take k).map (·.1)) []
  rw [List.length_map, List.length_take, List.length_nil] at this
  unfold trmTo; omega
set_option maxRecDepth 100000 in
set_option maxHeartbeats 4000000 in
theorem RTerms_any (s : Bytes) (w : World) (hs : s.length ≤ 100000000) :
    Calls Tryz.prog 77 #[strV s] w fun e w' => ∃ v, e = .returned v ∧ w'.ownsRow w.heap.size 9 1 v (termsT s).length (strVs (termsT s)) ∧ Q w w' := by
  obtain ⟨i0, hi, hz0, hz1, hz2⟩ := info_parts (show (Tryz.prog.info? 9).map (fun i => (i.zero, i.size, i.bytes)) = some (some (strV []), 1, 16) by kernel_rfl)
  have ct := RTokens_any s w hs
  have htl : (tokensL s).length ≤ s.length + 1 := by
    have := tokensF_len (wordsL s) 0
    have := (wordsL_len s).1
    unfold tokensL; omega
  have hpl : termsT s = trmTo (tokensL s) (tokensL s).length := by unfold trmTo termsT termsIn; rw [List.take_length]
  rw [hpl]
  clear hpl
  generalize tokensL s = l at *
  have CT := Lib.hid ct
  clear ct
  have hmx : Tryz.prog.follows .mixedOrders = true := by kernel_rfl
  go_enter Tryz.func77, Tryz.ntmps77
  go_wp2_with fail
  refine CT.out.mono ?_
  rintro e w1 ⟨v1, rfl, ho1, q1⟩
  have htoks : Toks w1 v1 l := Sl.of_owns ho1
  obtain ⟨a, cap, rfl, hc⟩ := htoks.value
  have HC := Lib.hid hc; have HQ1 := Lib.hid q1
  have hsz1 : w.heap.size ≤ w1.heap.size := q1.size
  clear ho1 htoks hc q1 CT
  go_wp2_with fail
  go_loopw [3, 5, 6] (fun ov i _ wr => ∃ (k : Nat) (o : List Bytes), k ≤ l.length ∧ i = .int .i64 (k : Nat) ∧ o.length ≤ k ∧ Hid (o = trmTo l k) ∧ Hid (wr.ownsRow w1.heap.size 9 1 ov o.length (strVs o)) ∧ Hid (Q w1 wr)) (fun _ i _ _ => l.length - (intOf i).toNat)
  case atStart => exact ⟨0, [], by omega, rfl, by simp, rfl, World.ownsRow_nil _ _ _ _, Q.refl _⟩
  case round =>
    obtain ⟨k, o, hk, rfl, hol, HOE, HO, HQ⟩ := hrel
    obtain ⟨wo, rfl⟩ : ∃ wo : World, wo = wr := ⟨_, rfl⟩
    by_cases hlt : k < l.length
    · obtain ⟨b, of, rfl, hcc⟩ := HC.out (by omega)
      have z0 := (hcc k hlt).1
      have hki : (k : Int) < (l.length : Int) := by omega
      have hk0 : (0 : Int) ≤ (k : Int) := by omega
      have hsu := trmTo_succ l k hlt
      have hri := trmTo_rise l k
      rw [← HOE.out] at hsu hri
      have hstr : Strs wo _ o := Sl.of_owns HO.out
      obtain ⟨oa, ocap, rfl, hoc⟩ := hstr.value
      have hcap := owns_cap2 HO.out
      obtain ⟨hcap1, hcap2⟩ := hcap
      clear hcc hstr
      generalize l[k] = x at *
      obtain ⟨t, p⟩ := x
      simp only at z0 hsu
      have Z0 := Lib.hid z0; have HSU := Lib.hid hsu; have HRI := Lib.hid hri; have HOC := Lib.hid hoc
      clear z0 hsu hri hoc
      go_wp2_with fail
      go_loopw [6] (fun j wr => ∃ m : Nat, m ≤ o.length ∧ j = .int .i64 (m : Nat) ∧ Hid (∀ x ∈ o.take m, lessL x t = true) ∧ Hid (Q wo wr)) (fun j _ => o.length - (intOf j).toNat)
      case atStart => exact ⟨0, by omega, rfl, fun x hx => by simp at hx, Q.refl _⟩
      case round =>
        obtain ⟨m, hm, rfl, HLE, HQm⟩ := hrel
        obtain ⟨wm, rfl⟩ : ∃ wm : World, wm = wr := ⟨_, rfl⟩
        have t0 := cell_stays (HQ.out.trans HQm.out) Z0.out
        have hmi0 : (0 : Int) ≤ (m : Int) := by omega
        by_cases hgo : ∃ y, o[m]? = some y ∧ lessL y t = true
        · obtain ⟨y, hy, hless⟩ := hgo
          obtain ⟨hltm, hye⟩ := List.getElem?_eq_some_iff.1 hy
          obtain ⟨ob, oo, rfl, hoc⟩ := HOC.out (by omega)
          have c0 := cell_stays HQm.out (hoc m hltm)
          rw [hye] at c0
          have hmi : (m : Int) < (o.length : Int) := by omega
          have htk : o.take (m + 1) = o.take m ++ [o[m]] := List.take_succ_eq_append_getElem hltm
          rw [hye] at htk
          have hd1 : decide (m < o.length) = true := decide_eq_true hltm
          have hb : Op.bytesLess y t = true := by rw [lessL_eq]; exact hless
          have hle2 : ∀ x ∈ o.take (m + 1), lessL x t = true := fun x hx => by
            rw [htk] at hx
            rcases List.mem_append.1 hx with hx | hx
            · exact HLE.out x hx
            · rw [List.mem_singleton] at hx; subst hx; exact hless
          have HLE2 := Lib.hid hle2
          clear hless htk hle2 hy hye hoc
          go_wp2_with fail
          go_quiet (fail)
          go_wp2_with fail
          go_roundw
          case rel => exact ⟨m + 1, by omega, by go_num, HLE2, HQm.out.trans (Q.drewN _ _)⟩
          case measure => simp [intOf]; omega
        · have hpc := putL_cut t o m (by omega) HLE.out (fun x hx => by
            cases hl : lessL x t with
            | false => rfl
            | true => exact absurd ⟨x, hx, hl⟩ hgo) HRI.out
          by_cases heq : o[m]? = some t
          · rw [if_pos heq] at hpc
            obtain ⟨hltm, hye⟩ := List.getElem?_eq_some_iff.1 heq
            obtain ⟨ob, oo, rfl, hoc⟩ := HOC.out (by omega)
            have c0 := cell_stays HQm.out (hoc m hltm)
            rw [hye] at c0
            have hmi : (m : Int) < (o.length : Int) := by omega
            have hd1 : decide (m < o.length) = true := decide_eq_true hltm
            have hb : Op.bytesLess t t = false := by
              rw [lessL_eq]
              cases hl : lessL t t with
              | false => rfl
              | true => exact absurd ⟨t, heq, hl⟩ hgo
            have hne : ((m : Int) == (o.length : Int)) = false := by simp; omega
            have HPC := Lib.hid hpc
            clear hgo heq hye hoc hpc
            go_wp2_with fail
            go_quiet (fail)
            go_wp2_with fail
            go_quiet (fail)
            go_wp2_with fail
            go_roundw
            case rel => exact ⟨k + 1, o, by omega, by go_num, by omega, by show _ = _; rw [HSU.out, HPC.out], ownsRow_below HO.out (HQm.out.trans (Q.drewN _ _)), (HQ.out.trans HQm.out).trans (Q.drewN _ _)⟩
            case measure => simp [intOf]; omega
          · rw [if_neg heq] at hpc
            by_cases hltm : m < o.length
            · obtain ⟨ob, oo, rfl, hoc⟩ := HOC.out (by omega)
              have c0 := cell_stays HQm.out (hoc m hltm)
              have hne1 : o[m] ≠ t := fun e => heq (by rw [List.getElem?_eq_getElem hltm, e])
              have hb : Op.bytesLess o[m] t = false := by
                rw [lessL_eq]
                cases hl : lessL o[m] t with
                | false => rfl
                | true => exact absurd ⟨o[m], List.getElem?_eq_getElem hltm, hl⟩ hgo
              have hmi : (m : Int) < (o.length : Int) := by omega
              have hd1 : decide (m < o.length) = true := decide_eq_true hltm
              have hne : ((m : Int) == (o.length : Int)) = false := by simp; omega
              clear hgo heq hoc
              generalize o[m] = y at *
              have heb1 : (y == t) = false := by simpa using hne1
              have heb2 : @BEq.beq (List UInt8) instBEqOfDecidableEq y t = false := by simpa using hne1
              have heb3 : @BEq.beq (List UInt8) List.instBEq y t = false := by simpa using hne1
              have HPC := Lib.hid hpc
              clear hne1 hpc
              go_wp2_with fail
              go_quiet (fail)
              go_wp2_with fail
              go_quiet (fail)
              go_wp2_with fail
              rename_i na
              obtain ⟨W, hW⟩ : ∃ W, W = (wm.drewN na).drewN nq := ⟨_, rfl⟩
              rw [← hW]
              have hqW : Q wo W := by rw [hW]; exact HQm.out.trans ((Q.drewN _ _).trans (Q.drewN _ _))
              have x0 := cell_stays (HQ.out.trans hqW) Z0.out
              have hown := ownsRow_below HO.out hqW
              have hsl := Sl.of_owns hown
              have hoc0 : ¬ ocap = 0 := by omega
              have hocm : ¬ ocap = m := by omega
              have sl1 : ∀ V, Q W V → Sl V (.slice (some ⟨ob, oo, none⟩) m ocap) m 1 (strVs (o.take m)) := fun V q => by
                have := Sl.cut (size := 1) (Sl.stays hsl q) 0 m (by omega) hm hcap1
                simpa [hoc0, add_off, strVs, List.map_take] using this
              have sl2 : ∀ V, Q W V → Sl V (.slice (some ⟨ob, oo + m, none⟩) (o.length - m) (ocap - m)) (o.length - m) 1 (strVs (o.drop m)) := fun V q => by
                have := Sl.cut (size := 1) (Sl.stays hsl q) m o.length hm (Nat.le_refl _) hcap1
                rw [List.take_of_length_le (by simp)] at this
                simpa [hocm, add_off, strVs, List.map_drop] using this
              have SL1 := Lib.hid sl1; have SL2 := Lib.hid sl2; have HOW := Lib.hid hown; have HQW := Lib.hid hqW
              clear sl1 sl2 hown hqW hsl
              clear c0 hb heb1 heb2 heb3 hne hd1 hW t0
              have hmi2 : (m : Int) ≤ (o.length : Int) := by omega
              have hmi3 : (m : Int) ≤ (ocap : Int) := by omega
              have hoi3 : (o.length : Int) ≤ (ocap : Int) := by omega
              have hpl : (putL t o).length ≤ o.length + 1 := putL_len t o
              have hrow : ∀ (v : Value) (V : World), V.ownsRow W.heap.size 9 1 v (0 + m + 1 + (o.length - m)) (strVs ([] ++ o.take m ++ [t] ++ o.drop m)) → V.ownsRow w1.heap.size 9 1 v (putL t o).length (strVs (putL t o)) := fun v V h => by
                have e : [] ++ o.take m ++ [t] ++ o.drop m = putL t o := by rw [HPC.out]; simp
                rw [e] at h
                have e2 : 0 + m + 1 + (o.length - m) = (putL t o).length := by
                  rw [HPC.out]; simp; omega
                rw [e2] at h
                exact owns_low h (HQ.out.trans HQW.out).size
              have HPL := Lib.hid hpl; have HROW := Lib.hid hrow
              clear hpl hrow
              have xe := cell_stays (Q.alloc W (.cells #[] 9)) x0
              go_region_law
                (first
                  | (refine trm_app W (by rfl) _ _ (by rfl) (.slice (some ⟨W.heap.size, 0, none⟩) 0 0) 0 [] (by rfl) (by first | exact own_lit0 W _ (Nat.le_refl _) | exact rowDr (own_lit0 W _ (Nat.le_refl _)) | exact rowAl _ (own_lit0 W _ (Nat.le_refl _)) | exact rowDr (rowAl _ (own_lit0 W _ (Nat.le_refl _)))) (by repeat (first | with_reducible exact Q.refl _ | with_reducible refine Q.trans ?_ (Q.drew _) | with_reducible refine Q.trans ?_ (Q.alloc _ _))) _ m (o.take m) (by rfl) (SL1.out _ (by repeat (first | with_reducible exact Q.refl _ | with_reducible refine Q.trans ?_ (Q.drew _) | with_reducible refine Q.trans ?_ (Q.alloc _ _)))) (by omega) ?_; intro va wa ha qa ka; have xa := cell_stays qa x0; have HA := Lib.hid ha; have QA := Lib.hid qa; have KA := Lib.hid ka; clear ha qa ka)
                  | (refine trm_app W (by rfl) _ _ (by rfl) (.slice (some ⟨W.heap.size + 1, 0, none⟩) 0 0) 0 [] (by rfl) (by first | exact own_lit1 W _ _ (Nat.le_refl _) | exact rowDr (own_lit1 W _ _ (Nat.le_refl _))) (by repeat (first | with_reducible exact Q.refl _ | with_reducible refine Q.trans ?_ (Q.drew _) | with_reducible refine Q.trans ?_ (Q.alloc _ _))) _ m (o.take m) (by rfl) (SL1.out _ (by repeat (first | with_reducible exact Q.refl _ | with_reducible refine Q.trans ?_ (Q.drew _) | with_reducible refine Q.trans ?_ (Q.alloc _ _)))) (by omega) ?_; intro va wa ha qa ka; have xa := cell_stays qa x0; have HA := Lib.hid ha; have QA := Lib.hid qa; have KA := Lib.hid ka; clear ha qa ka)
                  | (refine trm_app W (by rfl) _ _ (by rfl) va (0 + m) ([] ++ o.take m) (by rfl) (by first | exact HA.out | exact rowDr HA.out | exact rowAl _ HA.out | exact rowDr (rowAl _ HA.out)) (by first | exact QA.out | exact QA.out.trans (Q.drew _) | exact QA.out.trans (Q.alloc _ _) | exact (QA.out.trans (Q.alloc _ _)).trans (Q.drew _)) (.slice (some ⟨wa.heap.size, 0, none⟩) 1 1) 1 [t] (by rfl) (by exact sl_blk (World.alloc_heap_new _ _)) (by omega) ?_; intro vb wb hb2 qb kb; have HB := Lib.hid hb2; have QB := Lib.hid qb; clear hb2 qb kb)
                  | (refine trm_app W (by rfl) _ _ (by rfl) va (0 + m) ([] ++ o.take m) (by rfl) (by first | exact HA.out | exact rowDr HA.out | exact rowAl _ HA.out | exact rowDr (rowAl _ HA.out)) (by first | exact QA.out | exact QA.out.trans (Q.drew _) | exact QA.out.trans (Q.alloc _ _) | exact (QA.out.trans (Q.alloc _ _)).trans (Q.drew _)) (.slice (some ⟨W.heap.size + 1, 0, none⟩) 1 1) 1 [t] (by rfl) (by exact sl_blk (KA.out _ _ (lit_two W (.cells #[] 9) (.cells #[strV t] 9)) (by simp [Value.ownBlock]))) (by omega) ?_; intro vb wb hb2 qb kb; have HB := Lib.hid hb2; have QB := Lib.hid qb; clear hb2 qb kb)
                  | (refine trm_app W (by rfl) _ _ (by rfl) va (0 + m) ([] ++ o.take m) (by rfl) (by first | exact HA.out | exact rowDr HA.out | exact rowAl _ HA.out | exact rowDr (rowAl _ HA.out)) (by first | exact QA.out | exact QA.out.trans (Q.drew _) | exact QA.out.trans (Q.alloc _ _) | exact (QA.out.trans (Q.alloc _ _)).trans (Q.drew _)) (.slice (some ⟨W.heap.size, 0, none⟩) 1 1) 1 [t] (by rfl) (by exact sl_blk (KA.out _ _ (lit_one W (.cells #[] 9) (.cells #[strV t] 9)) (by simp [Value.ownBlock]))) (by omega) ?_; intro vb wb hb2 qb kb; have HB := Lib.hid hb2; have QB := Lib.hid qb; clear hb2 qb kb)
                  | (refine trm_app W (by rfl) _ _ (by rfl) vb (0 + m + 1) ([] ++ o.take m ++ [t]) (by rfl) (by first | exact HB.out | exact rowDr HB.out) (by first | exact QB.out | exact QB.out.trans (Q.drew _)) _ (o.length - m) (o.drop m) (by rfl) (SL2.out _ (by first | exact QB.out | exact QB.out.trans (Q.drew _))) (by omega) ?_; intro vc wc hc2 qc kc; have HCC := Lib.hid hc2; have QC := Lib.hid qc; clear hc2 qc kc))
              all_goals
                clear xa xe x0
                go_wp2_with fail
                go_roundw
                case rel => exact ⟨k + 1, putL t o, by omega, by go_num, by have := HPL.out; omega, by show _ = _; rw [HSU.out], HROW.out _ _ HCC.out, (HQ.out.trans HQW.out).trans QC.out⟩
                case measure => simp [intOf]; omega
            · have hme : m = o.length := by omega
              have hne : ((m : Int) == (o.length : Int)) = true := by simp; omega
              have hd1 : decide (m < o.length) = false := decide_eq_false (by omega)
              have hmi : ¬ (m : Int) < (o.length : Int) := by omega
              have HPC := Lib.hid hpc; have HME := Lib.hid hme
              clear hgo heq hpc hme
              have hform : (oa = none ∧ ocap = 0 ∧ o.length = 0) ∨ ∃ g, oa = some ⟨g, 0, none⟩ := by
                rcases HO.out.2 with ⟨hv, hn⟩ | ⟨g, cap, cur, hv, _⟩
                · injection hv with e1 e2 e3; exact .inl ⟨e1, e3, e2⟩
                · injection hv with e1 e2 e3; exact .inr ⟨g, e1⟩
              go_wp2_with fail
              go_quiet (fail)
              go_wp2_with fail
              go_quiet (fail)
              go_wp2_with fail
              rename_i na
              obtain ⟨W, hW⟩ : ∃ W, W = (wm.drewN na).drewN nq := ⟨_, rfl⟩
              rw [← hW]
              have hqW : Q wo W := by rw [hW]; exact HQm.out.trans ((Q.drewN _ _).trans (Q.drewN _ _))
              have x0 := cell_stays (HQ.out.trans hqW) Z0.out
              have hown := ownsRow_below HO.out hqW
              have hsl := Sl.of_owns hown
              have sl0 : ∀ (V : World) (A : Option Addr) (c : Nat), Sl V (.slice A 0 c) 0 1 (strVs []) := fun V A c => ⟨rfl, _, _, rfl, fun h => by omega⟩
              have hdrop : o.drop m = [] := List.drop_eq_nil_of_le (by omega)
              have htake : o.take m = o := List.take_of_length_le (by omega)
              clear hne hd1 hW t0
              have hmi2 : (m : Int) ≤ (o.length : Int) := by omega
              have hmi3 : (m : Int) ≤ (ocap : Int) := by omega
              have hoi3 : (o.length : Int) ≤ (ocap : Int) := by omega
              rcases hform with ⟨h1, h2, h3⟩ | ⟨g, h1⟩
              · subst h1
                have hm0 : m = 0 := by have := HME.out; omega
                have sl1 : ∀ V, Q W V → Sl V (.slice none 0 0) m 1 (strVs (o.take m)) := fun V q => by
                  have e : o = [] := List.eq_nil_of_length_eq_zero h3
                  rw [hm0, e]; exact sl0 V _ _
                have sl2 : ∀ V, Q W V → Sl V (.slice none 0 0) (o.length - m) 1 (strVs (o.drop m)) := fun V q => by
                  have e : o = [] := List.eq_nil_of_length_eq_zero h3
                  rw [hm0, e]; exact sl0 V _ _
                have SL1 := Lib.hid sl1; have SL2 := Lib.hid sl2; have HOW := Lib.hid hown; have HQW := Lib.hid hqW
                clear sl1 sl2 hown hqW hsl sl0 hdrop htake
                have hpl : (putL t o).length ≤ o.length + 1 := putL_len t o
                have hrow : ∀ (v : Value) (V : World), V.ownsRow W.heap.size 9 1 v (0 + m + 1 + (o.length - m)) (strVs ([] ++ o.take m ++ [t] ++ o.drop m)) → V.ownsRow w1.heap.size 9 1 v (putL t o).length (strVs (putL t o)) := fun v V h => by
                  have e : [] ++ o.take m ++ [t] ++ o.drop m = putL t o := by rw [HPC.out]; simp
                  rw [e] at h
                  have e2 : 0 + m + 1 + (o.length - m) = (putL t o).length := by
                    rw [HPC.out]; simp; omega
                  rw [e2] at h
                  exact owns_low h (HQ.out.trans HQW.out).size
                have HPL := Lib.hid hpl; have HROW := Lib.hid hrow
                clear hpl hrow
                have xe := cell_stays (Q.alloc W (.cells #[] 9)) x0
                go_region_law
                  (first
                    | (refine trm_app W (by rfl) _ _ (by rfl) (.slice (some ⟨W.heap.size, 0, none⟩) 0 0) 0 [] (by rfl) (by first | exact own_lit0 W _ (Nat.le_refl _) | exact rowDr (own_lit0 W _ (Nat.le_refl _)) | exact rowAl _ (own_lit0 W _ (Nat.le_refl _)) | exact rowDr (rowAl _ (own_lit0 W _ (Nat.le_refl _)))) (by repeat (first | with_reducible exact Q.refl _ | with_reducible refine Q.trans ?_ (Q.drew _) | with_reducible refine Q.trans ?_ (Q.alloc _ _))) _ m (o.take m) (by rfl) (SL1.out _ (by repeat (first | with_reducible exact Q.refl _ | with_reducible refine Q.trans ?_ (Q.drew _) | with_reducible refine Q.trans ?_ (Q.alloc _ _)))) (by omega) ?_; intro va wa ha qa ka; have xa := cell_stays qa x0; have HA := Lib.hid ha; have QA := Lib.hid qa; have KA := Lib.hid ka; clear ha qa ka)
                    | (refine trm_app W (by rfl) _ _ (by rfl) (.slice (some ⟨W.heap.size + 1, 0, none⟩) 0 0) 0 [] (by rfl) (by first | exact own_lit1 W _ _ (Nat.le_refl _) | exact rowDr (own_lit1 W _ _ (Nat.le_refl _))) (by repeat (first | with_reducible exact Q.refl _ | with_reducible refine Q.trans ?_ (Q.drew _) | with_reducible refine Q.trans ?_ (Q.alloc _ _))) _ m (o.take m) (by rfl) (SL1.out _ (by repeat (first | with_reducible exact Q.refl _ | with_reducible refine Q.trans ?_ (Q.drew _) | with_reducible refine Q.trans ?_ (Q.alloc _ _)))) (by omega) ?_; intro va wa ha qa ka; have xa := cell_stays qa x0; have HA := Lib.hid ha; have QA := Lib.hid qa; have KA := Lib.hid ka; clear ha qa ka)
                    | (refine trm_app W (by rfl) _ _ (by rfl) va (0 + m) ([] ++ o.take m) (by rfl) (by first | exact HA.out | exact rowDr HA.out | exact rowAl _ HA.out | exact rowDr (rowAl _ HA.out)) (by first | exact QA.out | exact QA.out.trans (Q.drew _) | exact QA.out.trans (Q.alloc _ _) | exact (QA.out.trans (Q.alloc _ _)).trans (Q.drew _)) (.slice (some ⟨wa.heap.size, 0, none⟩) 1 1) 1 [t] (by rfl) (by exact sl_blk (World.alloc_heap_new _ _)) (by omega) ?_; intro vb wb hb2 qb kb; have HB := Lib.hid hb2; have QB := Lib.hid qb; clear hb2 qb kb)
                    | (refine trm_app W (by rfl) _ _ (by rfl) va (0 + m) ([] ++ o.take m) (by rfl) (by first | exact HA.out | exact rowDr HA.out | exact rowAl _ HA.out | exact rowDr (rowAl _ HA.out)) (by first | exact QA.out | exact QA.out.trans (Q.drew _) | exact QA.out.trans (Q.alloc _ _) | exact (QA.out.trans (Q.alloc _ _)).trans (Q.drew _)) (.slice (some ⟨W.heap.size + 1, 0, none⟩) 1 1) 1 [t] (by rfl) (by exact sl_blk (KA.out _ _ (lit_two W (.cells #[] 9) (.cells #[strV t] 9)) (by simp [Value.ownBlock]))) (by omega) ?_; intro vb wb hb2 qb kb; have HB := Lib.hid hb2; have QB := Lib.hid qb; clear hb2 qb kb)
                    | (refine trm_app W (by rfl) _ _ (by rfl) va (0 + m) ([] ++ o.take m) (by rfl) (by first | exact HA.out | exact rowDr HA.out | exact rowAl _ HA.out | exact rowDr (rowAl _ HA.out)) (by first | exact QA.out | exact QA.out.trans (Q.drew _) | exact QA.out.trans (Q.alloc _ _) | exact (QA.out.trans (Q.alloc _ _)).trans (Q.drew _)) (.slice (some ⟨W.heap.size, 0, none⟩) 1 1) 1 [t] (by rfl) (by exact sl_blk (KA.out _ _ (lit_one W (.cells #[] 9) (.cells #[strV t] 9)) (by simp [Value.ownBlock]))) (by omega) ?_; intro vb wb hb2 qb kb; have HB := Lib.hid hb2; have QB := Lib.hid qb; clear hb2 qb kb)
                    | (refine trm_app W (by rfl) _ _ (by rfl) vb (0 + m + 1) ([] ++ o.take m ++ [t]) (by rfl) (by first | exact HB.out | exact rowDr HB.out) (by first | exact QB.out | exact QB.out.trans (Q.drew _)) _ (o.length - m) (o.drop m) (by rfl) (SL2.out _ (by first | exact QB.out | exact QB.out.trans (Q.drew _))) (by omega) ?_; intro vc wc hc2 qc kc; have HCC := Lib.hid hc2; have QC := Lib.hid qc; clear hc2 qc kc))
                all_goals
                  clear xa xe x0
                  go_wp2_with fail
                  go_roundw
                  case rel => exact ⟨k + 1, putL t o, by omega, by go_num, by have := HPL.out; omega, by show _ = _; rw [HSU.out], HROW.out _ _ HCC.out, (HQ.out.trans HQW.out).trans QC.out⟩
                  case measure => simp [intOf]; omega
              · subst h1
                have hmo : o.length - m = 0 := by omega
                have sl1 : ∀ V, Q W V → Sl V (.slice (some ⟨g, 0, none⟩) m ocap) m 1 (strVs (o.take m)) := fun V q => by
                  rw [htake]
                  have := Sl.stays hsl q
                  have e := HME.out
                  rw [← e] at this
                  exact this
                have sl2 : ∀ V (A : Option Addr) (c : Nat), Q W V → Sl V (.slice A 0 c) 0 1 (strVs (o.drop m)) := fun V A c q => by
                  rw [hdrop]; exact sl0 V _ _
                have hmo1 : (0 : Nat) = o.length - m := by omega
                have SL1 := Lib.hid sl1; have SL2 := Lib.hid sl2; have HOW := Lib.hid hown; have HQW := Lib.hid hqW
                clear sl1 sl2 hown hqW hsl sl0 hdrop htake hmo1
                by_cases hocm : ocap = m
                · have hocm2 := hocm.symm
                  subst hocm2
                  have hpl : (putL t o).length ≤ o.length + 1 := putL_len t o
                  have hrow : ∀ (v : Value) (V : World), V.ownsRow W.heap.size 9 1 v (0 + m + 1 + 0) (strVs ([] ++ o.take m ++ [t] ++ o.drop m)) → V.ownsRow w1.heap.size 9 1 v (putL t o).length (strVs (putL t o)) := fun v V h => by
                    have e : [] ++ o.take m ++ [t] ++ o.drop m = putL t o := by rw [HPC.out]; simp
                    rw [e] at h
                    have e2 : 0 + m + 1 + 0 = (putL t o).length := by
                      rw [HPC.out]; simp; omega
                    rw [e2] at h
                    exact owns_low h (HQ.out.trans HQW.out).size
                  have HPL := Lib.hid hpl; have HROW := Lib.hid hrow
                  clear hpl hrow
                  have xe := cell_stays (Q.alloc W (.cells #[] 9)) x0
                  go_region_law
                    (first
                      | (refine trm_app W (by rfl) _ _ (by rfl) (.slice (some ⟨W.heap.size, 0, none⟩) 0 0) 0 [] (by rfl) (by first | exact own_lit0 W _ (Nat.le_refl _) | exact rowDr (own_lit0 W _ (Nat.le_refl _)) | exact rowAl _ (own_lit0 W _ (Nat.le_refl _)) | exact rowDr (rowAl _ (own_lit0 W _ (Nat.le_refl _)))) (by repeat (first | with_reducible exact Q.refl _ | with_reducible refine Q.trans ?_ (Q.drew _) | with_reducible refine Q.trans ?_ (Q.alloc _ _))) _ m (o.take m) (by rfl) (SL1.out _ (by repeat (first | with_reducible exact Q.refl _ | with_reducible refine Q.trans ?_ (Q.drew _) | with_reducible refine Q.trans ?_ (Q.alloc _ _)))) (by omega) ?_; intro va wa ha qa ka; have xa := cell_stays qa x0; have HA := Lib.hid ha; have QA := Lib.hid qa; have KA := Lib.hid ka; clear ha qa ka)
                      | (refine trm_app W (by rfl) _ _ (by rfl) (.slice (some ⟨W.heap.size + 1, 0, none⟩) 0 0) 0 [] (by rfl) (by first | exact own_lit1 W _ _ (Nat.le_refl _) | exact rowDr (own_lit1 W _ _ (Nat.le_refl _))) (by repeat (first | with_reducible exact Q.refl _ | with_reducible refine Q.trans ?_ (Q.drew _) | with_reducible refine Q.trans ?_ (Q.alloc _ _))) _ m (o.take m) (by rfl) (SL1.out _ (by repeat (first | with_reducible exact Q.refl _ | with_reducible refine Q.trans ?_ (Q.drew _) | with_reducible refine Q.trans ?_ (Q.alloc _ _)))) (by omega) ?_; intro va wa ha qa ka; have xa := cell_stays qa x0; have HA := Lib.hid ha; have QA := Lib.hid qa; have KA := Lib.hid ka; clear ha qa ka)
                      | (refine trm_app W (by rfl) _ _ (by rfl) va (0 + m) ([] ++ o.take m) (by rfl) (by first | exact HA.out | exact rowDr HA.out | exact rowAl _ HA.out | exact rowDr (rowAl _ HA.out)) (by first | exact QA.out | exact QA.out.trans (Q.drew _) | exact QA.out.trans (Q.alloc _ _) | exact (QA.out.trans (Q.alloc _ _)).trans (Q.drew _)) (.slice (some ⟨wa.heap.size, 0, none⟩) 1 1) 1 [t] (by rfl) (by exact sl_blk (World.alloc_heap_new _ _)) (by omega) ?_; intro vb wb hb2 qb kb; have HB := Lib.hid hb2; have QB := Lib.hid qb; clear hb2 qb kb)
                      | (refine trm_app W (by rfl) _ _ (by rfl) va (0 + m) ([] ++ o.take m) (by rfl) (by first | exact HA.out | exact rowDr HA.out | exact rowAl _ HA.out | exact rowDr (rowAl _ HA.out)) (by first | exact QA.out | exact QA.out.trans (Q.drew _) | exact QA.out.trans (Q.alloc _ _) | exact (QA.out.trans (Q.alloc _ _)).trans (Q.drew _)) (.slice (some ⟨W.heap.size + 1, 0, none⟩) 1 1) 1 [t] (by rfl) (by exact sl_blk (KA.out _ _ (lit_two W (.cells #[] 9) (.cells #[strV t] 9)) (by simp [Value.ownBlock]))) (by omega) ?_; intro vb wb hb2 qb kb; have HB := Lib.hid hb2; have QB := Lib.hid qb; clear hb2 qb kb)
                      | (refine trm_app W (by rfl) _ _ (by rfl) va (0 + m) ([] ++ o.take m) (by rfl) (by first | exact HA.out | exact rowDr HA.out | exact rowAl _ HA.out | exact rowDr (rowAl _ HA.out)) (by first | exact QA.out | exact QA.out.trans (Q.drew _) | exact QA.out.trans (Q.alloc _ _) | exact (QA.out.trans (Q.alloc _ _)).trans (Q.drew _)) (.slice (some ⟨W.heap.size, 0, none⟩) 1 1) 1 [t] (by rfl) (by exact sl_blk (KA.out _ _ (lit_one W (.cells #[] 9) (.cells #[strV t] 9)) (by simp [Value.ownBlock]))) (by omega) ?_; intro vb wb hb2 qb kb; have HB := Lib.hid hb2; have QB := Lib.hid qb; clear hb2 qb kb)
                      | (refine trm_app W (by rfl) _ _ (by rfl) vb (0 + m + 1) ([] ++ o.take m ++ [t]) (by rfl) (by first | exact HB.out | exact rowDr HB.out) (by first | exact QB.out | exact QB.out.trans (Q.drew _)) _ 0 (o.drop m) (by rfl) (SL2.out _ _ _ (by first | exact QB.out | exact QB.out.trans (Q.drew _))) (by omega) ?_; intro vc wc hc2 qc kc; have HCC := Lib.hid hc2; have QC := Lib.hid qc; clear hc2 qc kc))
                  all_goals
                    clear xa xe x0
                    go_wp2_with fail
                    go_roundw
                    case rel => exact ⟨k + 1, putL t o, by omega, by go_num, by have := HPL.out; omega, by show _ = _; rw [HSU.out], HROW.out _ _ HCC.out, (HQ.out.trans HQW.out).trans QC.out⟩
                    case measure => simp [intOf]; omega
                · have hpl : (putL t o).length ≤ o.length + 1 := putL_len t o
                  have hrow : ∀ (v : Value) (V : World), V.ownsRow W.heap.size 9 1 v (0 + m + 1 + 0) (strVs ([] ++ o.take m ++ [t] ++ o.drop m)) → V.ownsRow w1.heap.size 9 1 v (putL t o).length (strVs (putL t o)) := fun v V h => by
                    have e : [] ++ o.take m ++ [t] ++ o.drop m = putL t o := by rw [HPC.out]; simp
                    rw [e] at h
                    have e2 : 0 + m + 1 + 0 = (putL t o).length := by
                      rw [HPC.out]; simp; omega
                    rw [e2] at h
                    exact owns_low h (HQ.out.trans HQW.out).size
                  have HPL := Lib.hid hpl; have HROW := Lib.hid hrow
                  clear hpl hrow
                  have xe := cell_stays (Q.alloc W (.cells #[] 9)) x0
                  go_region_law
                    (first
                      | (refine trm_app W (by rfl) _ _ (by rfl) (.slice (some ⟨W.heap.size, 0, none⟩) 0 0) 0 [] (by rfl) (by first | exact own_lit0 W _ (Nat.le_refl _) | exact rowDr (own_lit0 W _ (Nat.le_refl _)) | exact rowAl _ (own_lit0 W _ (Nat.le_refl _)) | exact rowDr (rowAl _ (own_lit0 W _ (Nat.le_refl _)))) (by repeat (first | with_reducible exact Q.refl _ | with_reducible refine Q.trans ?_ (Q.drew _) | with_reducible refine Q.trans ?_ (Q.alloc _ _))) _ m (o.take m) (by rfl) (SL1.out _ (by repeat (first | with_reducible exact Q.refl _ | with_reducible refine Q.trans ?_ (Q.drew _) | with_reducible refine Q.trans ?_ (Q.alloc _ _)))) (by omega) ?_; intro va wa ha qa ka; have xa := cell_stays qa x0; have HA := Lib.hid ha; have QA := Lib.hid qa; have KA := Lib.hid ka; clear ha qa ka)
                      | (refine trm_app W (by rfl) _ _ (by rfl) (.slice (some ⟨W.heap.size + 1, 0, none⟩) 0 0) 0 [] (by rfl) (by first | exact own_lit1 W _ _ (Nat.le_refl _) | exact rowDr (own_lit1 W _ _ (Nat.le_refl _))) (by repeat (first | with_reducible exact Q.refl _ | with_reducible refine Q.trans ?_ (Q.drew _) | with_reducible refine Q.trans ?_ (Q.alloc _ _))) _ m (o.take m) (by rfl) (SL1.out _ (by repeat (first | with_reducible exact Q.refl _ | with_reducible refine Q.trans ?_ (Q.drew _) | with_reducible refine Q.trans ?_ (Q.alloc _ _)))) (by omega) ?_; intro va wa ha qa ka; have xa := cell_stays qa x0; have HA := Lib.hid ha; have QA := Lib.hid qa; have KA := Lib.hid ka; clear ha qa ka)
                      | (refine trm_app W (by rfl) _ _ (by rfl) va (0 + m) ([] ++ o.take m) (by rfl) (by first | exact HA.out | exact rowDr HA.out | exact rowAl _ HA.out | exact rowDr (rowAl _ HA.out)) (by first | exact QA.out | exact QA.out.trans (Q.drew _) | exact QA.out.trans (Q.alloc _ _) | exact (QA.out.trans (Q.alloc _ _)).trans (Q.drew _)) (.slice (some ⟨wa.heap.size, 0, none⟩) 1 1) 1 [t] (by rfl) (by exact sl_blk (World.alloc_heap_new _ _)) (by omega) ?_; intro vb wb hb2 qb kb; have HB := Lib.hid hb2; have QB := Lib.hid qb; clear hb2 qb kb)
                      | (refine trm_app W (by rfl) _ _ (by rfl) va (0 + m) ([] ++ o.take m) (by rfl) (by first | exact HA.out | exact rowDr HA.out | exact rowAl _ HA.out | exact rowDr (rowAl _ HA.out)) (by first | exact QA.out | exact QA.out.trans (Q.drew _) | exact QA.out.trans (Q.alloc _ _) | exact (QA.out.trans (Q.alloc _ _)).trans (Q.drew _)) (.slice (some ⟨W.heap.size + 1, 0, none⟩) 1 1) 1 [t] (by rfl) (by exact sl_blk (KA.out _ _ (lit_two W (.cells #[] 9) (.cells #[strV t] 9)) (by simp [Value.ownBlock]))) (by omega) ?_; intro vb wb hb2 qb kb; have HB := Lib.hid hb2; have QB := Lib.hid qb; clear hb2 qb kb)
                      | (refine trm_app W (by rfl) _ _ (by rfl) va (0 + m) ([] ++ o.take m) (by rfl) (by first | exact HA.out | exact rowDr HA.out | exact rowAl _ HA.out | exact rowDr (rowAl _ HA.out)) (by first | exact QA.out | exact QA.out.trans (Q.drew _) | exact QA.out.trans (Q.alloc _ _) | exact (QA.out.trans (Q.alloc _ _)).trans (Q.drew _)) (.slice (some ⟨W.heap.size, 0, none⟩) 1 1) 1 [t] (by rfl) (by exact sl_blk (KA.out _ _ (lit_one W (.cells #[] 9) (.cells #[strV t] 9)) (by simp [Value.ownBlock]))) (by omega) ?_; intro vb wb hb2 qb kb; have HB := Lib.hid hb2; have QB := Lib.hid qb; clear hb2 qb kb)
                      | (refine trm_app W (by rfl) _ _ (by rfl) vb (0 + m + 1) ([] ++ o.take m ++ [t]) (by rfl) (by first | exact HB.out | exact rowDr HB.out) (by first | exact QB.out | exact QB.out.trans (Q.drew _)) _ 0 (o.drop m) (by rfl) (SL2.out _ _ _ (by first | exact QB.out | exact QB.out.trans (Q.drew _))) (by omega) ?_; intro vc wc hc2 qc kc; have HCC := Lib.hid hc2; have QC := Lib.hid qc; clear hc2 qc kc))
                  all_goals
                    clear xa xe x0
                    go_wp2_with fail
                    go_roundw
                    case rel => exact ⟨k + 1, putL t o, by omega, by go_num, by have := HPL.out; omega, by show _ = _; rw [HSU.out], HROW.out _ _ HCC.out, (HQ.out.trans HQW.out).trans QC.out⟩
                    case measure => simp [intOf]; omega
    · have hke : k = l.length := by omega
      subst hke
      go_wp2_with fail
      go_ret
      exact ⟨_, rfl, by rw [← HOE.out]; exact owns_low HO.out hsz1, HQ1.out.trans HQ.out⟩
end Go.Proofs.YtoabhcfmdkhmgaaGreatDoor
end

/- (ValidEq) Plain: valid texts, in both spellings. -/
section
namespace Go.Proofs.YtoabhcfmdkhmgaaGreatDoor
set_option linter.unusedVariables false

theorem decodeN_none (n b0 b1 b2 b3 : Nat) (h : (Lib.decodeN n b0 b1 b2 b3).1 = 65533) : (Lib.decodeN n b0 b1 b2 b3).2 = 1 ∨ 3 ≤ (Lib.decodeN n b0 b1 b2 b3).2 := by
  unfold Lib.decodeN at h ⊢
  repeat' split
  all_goals (try simp only at h ⊢)
  all_goals first | omega | (simp_all; done) | (simp_all; omega)
theorem rune1_D (s : Bytes) (h : s ≠ []) : (0 ≤ (rune1 s).1 ↔ ¬ ((Lib.decodeL s).1 = 65533 ∧ (Lib.decodeL s).2 = 1)) ∧ (rune1 s).2 = (Lib.decodeL s).2 := by
  cases s with
  | nil => exact absurd rfl h
  | cons b t =>
    have hd : Lib.decodeL (b :: t) = Lib.decodeN (b :: t).length ((b :: t).getD 0 0).toNat ((b :: t).getD 1 0).toNat ((b :: t).getD 2 0).toNat ((b :: t).getD 3 0).toNat := Lib.decodeL_N _
    have h2 := decodeN_none (b :: t).length ((b :: t).getD 0 0).toNat ((b :: t).getD 1 0).toNat ((b :: t).getD 2 0).toNat ((b :: t).getD 3 0).toNat
    rw [← hd] at h2
    have hr : rune1 (b :: t) = if (Lib.decodeN (b :: t).length ((b :: t).getD 0 0).toNat ((b :: t).getD 1 0).toNat ((b :: t).getD 2 0).toNat ((b :: t).getD 3 0).toNat).1 = 65533 ∧ (Lib.decodeN (b :: t).length ((b :: t).getD 0 0).toNat ((b :: t).getD 1 0).toNat ((b :: t).getD 2 0).toNat ((b :: t).getD 3 0).toNat).2 < 3 then (-1, (Lib.decodeN (b :: t).length ((b :: t).getD 0 0).toNat ((b :: t).getD 1 0).toNat ((b :: t).getD 2 0).toNat ((b :: t).getD 3 0).toNat).2) else (((Lib.decodeN (b :: t).length ((b :: t).getD 0 0).toNat ((b :: t).getD 1 0).toNat ((b :: t).getD 2 0).toNat ((b :: t).getD 3 0).toNat).1 : Int), (Lib.decodeN (b :: t).length ((b :: t).getD 0 0).toNat ((b :: t).getD 1 0).toNat ((b :: t).getD 2 0).toNat ((b :: t).getD 3 0).toNat).2) := rfl
    rw [← hd] at hr
    rw [hr]
    clear hr hd
    generalize Lib.decodeL (b :: t) = d at *
    by_cases h1 : d.1 = 65533 ∧ d.2 < 3
    · rw [if_pos h1]
      have := h2 h1.1
      refine ⟨⟨fun h => by simp at h, fun h => absurd ⟨h1.1, by omega⟩ h⟩, rfl⟩
    · rw [if_neg h1]
      refine ⟨⟨fun _ hh => h1 ⟨hh.1, by omega⟩, fun _ => by simp⟩, rfl⟩
theorem validL_D (n : Nat) (s : Bytes) (hn : s.length ≤ n) : validL s = Lib.validD s := by
  induction n generalizing s with
  | zero =>
    have : s = [] := List.eq_nil_of_length_eq_zero (by omega)
    subst this; rfl
  | succ n ih =>
    by_cases h : s = []
    · subst h; rfl
    · obtain ⟨h1, h2⟩ := rune1_D s h
      have h3 := rune1_size s h
      rw [validL_step s h, Lib.validD_step s h, ← h2, ih _ (by rw [List.length_drop]; omega)]
      by_cases hb : (Lib.decodeL s).1 = 65533 ∧ (Lib.decodeL s).2 = 1
      · rw [if_pos (by rw [h2]; exact hb)]
        have : decide (0 ≤ (rune1 s).1) = false := decide_eq_false (fun h => h1.1 h hb)
        rw [this]; rfl
      · rw [if_neg (by rw [h2]; exact hb), decide_eq_true (h1.2 hb), Bool.true_and]
end Go.Proofs.YtoabhcfmdkhmgaaGreatDoor
end

/- (WRef2a) codexref2: Var, Text: walked. -/
section
namespace Go.Proofs.YtoabhcfmdkhmgaaGreatDoor
open Go.RowKit
set_option linter.unusedVariables false

theorem tinfoR5 : (Tryz.prog.info? 5).map (fun i => (i.zero, i.size, i.bytes)) = some (some (.int .u8 0), 1, 1) := by kernel_rfl
theorem byteVs_snoc (l : Bytes) (x : Nat) (hx : x < 256) : byteVs l ++ (#[Value.int .u8 (x : Int)] : Array Value).toList = byteVs (l ++ [UInt8.ofNat x]) := by
  rw [byteVs_append]
  simp [byteVs, Lib.byteCells]
  omega
set_option maxRecDepth 100000 in
set_option maxHeartbeats 4000000 in
theorem RVar_any (v : Nat) (w : World) (hv : v < 18446744073709551616) :
    Calls Tryz.prog 51 #[.int .u64 v] w fun e w' => e = .returned (strV (varE v)) ∧ Q w w' := by
  obtain ⟨i0, hi, hz0, hz1, hz2⟩ := info_parts tinfoR5
  go_enter Tryz.func51, Tryz.ntmps51
  go_wp2_with fail
  go_loopw [3, 0] (fun bv x wr => ∃ (y m : Nat) (l : Bytes), x = .int .u64 y ∧ y < 18446744073709551616 ∧ m ≤ 10 ∧ l.length + m ≤ 10 ∧ Hid (0 < m ∧ y < 128 ^ m) ∧ Hid (l ++ varF m y = varE v) ∧ Hid (wr.ownsRow w.heap.size 5 1 bv l.length (byteVs l)) ∧ Hid (Q w wr)) (fun _ x _ => (intOf x).toNat)
  case atStart => exact ⟨v, 10, [], rfl, hv, by omega, by simp, ⟨by omega, lt64 v hv⟩, rfl, World.ownsRow_nil _ _ _ _, Q.refl _⟩
  case round =>
    obtain ⟨y, m, l, rfl, hy, hm, hlm, HM, HL, HO, HQ⟩ := hrel
    obtain ⟨wo, rfl⟩ : ∃ wo : World, wo = wr := ⟨_, rfl⟩
    obtain ⟨hm0, hym⟩ := HM.out
    have hsz : w.heap.size ≤ wo.heap.size := HQ.out.size
    have ho := HO.out
    by_cases hbig : 128 ≤ y
    · obtain ⟨hm1, hvb, hyl⟩ := varF_big m y hbig hym
      have hst : l ++ varF m y = (l ++ [UInt8.ofNat (y % 128 + 128)]) ++ varF (m - 1) (y / 128) := by rw [hvb]; simp
      have HST := Lib.hid hst; have HYL := Lib.hid hyl
      clear hst hvb hyl hym HO
      go_wp2_with (at_builtin; go_must (refine wpList_app wo (by rfl) _ _ 100 (by rfl) w.heap.size 5 _ i0 (.int .u8 0) 1 1 Tryz.underlying100 hi hz0 hz1 hz2 rfl (by decide) (by decide) _ _ _ (by rfl) ho #[.int .u8 (128 + (y : Int) % 128)] (by simp [Act.eval]) rfl ?c1 ?c2 hsz ?_))
      case c1 => simp [Value.oneCell']
      case c2 => omega
      intro g6 cap6 w6 hown6 hg6 hat6 hlt6 hsz6
      have q6 : Q w w6 := grown_below HQ.out ho hg6 (Nat.le_refl _) (by omega)
      rw [show (128 + (y : Int) % 128) = ((y % 128 + 128 : Nat) : Int) by omega, byteVs_snoc _ _ (by omega), show l.length + 1 = (l ++ [UInt8.ofNat (y % 128 + 128)]).length by simp] at hown6
      have HO6 := Lib.hid hown6; have HQ6 := Lib.hid q6
      clear hown6 q6 hg6 hat6 ho
      rw [show l.length + 1 = (l ++ [UInt8.ofNat (y % 128 + 128)]).length by simp]
      generalize hl2 : l ++ [UInt8.ofNat (y % 128 + 128)] = l2 at *
      have hl2l : l2.length = l.length + 1 := by rw [← hl2]; simp
      clear hl2
      go_wp2_with fail
      go_roundw
      case rel => exact ⟨y / 128, m - 1, l2, by go_num, by omega, by omega, by omega, ⟨by omega, HYL.out⟩, by show _ = _; rw [← HST.out]; exact HL.out, HO6, HQ6⟩
      case measure => simp [intOf]; omega
    · have hvs := varF_small m y hm0 (by omega)
      have hend : l ++ [UInt8.ofNat y] = varE v := by rw [← HL.out, hvs]
      have HE := Lib.hid hend
      clear hend hvs hym HO
      go_wp2_with (at_builtin; go_must (refine wpList_app wo (by rfl) _ _ 100 (by rfl) w.heap.size 5 _ i0 (.int .u8 0) 1 1 Tryz.underlying100 hi hz0 hz1 hz2 rfl (by decide) (by decide) _ _ _ (by rfl) ho #[.int .u8 (y : Int)] (by simp [Act.eval]) rfl ?c1 ?c2 hsz ?_))
      case c1 => simp [Value.oneCell']
      case c2 => omega
      intro g6 cap6 w6 hown6 hg6 hat6 hlt6 hsz6
      have q6 : Q w w6 := grown_below HQ.out ho hg6 (Nat.le_refl _) (by omega)
      rw [byteVs_snoc _ _ (by omega), HE.out, show l.length + 1 = (varE v).length by rw [← HE.out]; simp] at hown6
      have hc := row_string hown6
      have HQ6 := Lib.hid q6
      rw [show l.length + 1 = (varE v).length by rw [← HE.out]; simp]
      clear hown6 q6 hg6 hat6 ho
      go_wp2_with fail
      go_ret
      exact ⟨rfl, HQ6.out⟩
theorem RText_any (s : Bytes) (w : World) (hs : s.length ≤ 1000000000000) :
    Calls Tryz.prog 53 #[strV s] w fun e w' => e = .returned (strV (textE s)) ∧ Q w w' := by
  have c := fun W => RVar_any s.length W (by omega)
  have C := Lib.hid c
  have hl := varE_len s.length
  clear c
  go_enter Tryz.func53, Tryz.ntmps53
  go_wp2_with fail
  refine (C.out _).mono ?_
  rintro e w1 ⟨rfl, q1⟩
  have HQ1 := Lib.hid q1
  clear q1 C
  go_wp2_with fail
  go_ret
  exact ⟨congrArg (fun b => Ending.returned (.string b)) (bytes_append _ _), HQ1.out⟩
end Go.Proofs.YtoabhcfmdkhmgaaGreatDoor
end

/- (WRef12a) codexref12: number, rising, Right: walked (where they are right). -/
section
namespace Go.Proofs.YtoabhcfmdkhmgaaGreatDoor
open Go.RowKit
set_option linter.unusedVariables false

theorem risingAt (a : Int) (l : List Int) (b : Int) (h : risingI a l b = true) (k : Nat) (hk : k < l.length) : (if k = 0 then a else l.getD (k - 1) 0) < l[k] ∧ l[k] < b ∧ a ≤ (if k = 0 then a else l.getD (k - 1) 0) := by
  induction l generalizing a k with
  | nil => simp at hk
  | cons x l ih =>
    simp only [risingI, Bool.and_eq_true, decide_eq_true_eq] at h
    cases k with
    | zero => exact ⟨by simpa using h.1.1, h.1.2, by simp⟩
    | succ k =>
      have := ih x h.2 k (by simpa using hk)
      have hx := h.1.1
      cases k with
      | zero => simp at this ⊢; exact ⟨this.1, this.2, by omega⟩
      | succ k => simp at this ⊢; exact ⟨this.1, this.2.1, by omega⟩
theorem RPNumber_any (n : Nat) (w : World) (hn : n < 9223372036854775808) :
    Calls Tryz.prog 100 #[.int .i64 (n : Nat)] w fun e w' => e = .returned (strV (varE n)) ∧ Q w w' := by
  have c := fun W => RVar_any n W (by omega)
  have C := Lib.hid c
  have hw : IntKind.u64.wrap (n : Int) = n := IntWalk.u64_in _ (by omega)
  clear c
  go_enter Tryz.func100, Tryz.ntmps100
  go_wp2_with fail
  refine (C.out _).mono ?_
  rintro e w1 ⟨rfl, q1⟩
  have HQ1 := Lib.hid q1
  clear q1 C
  go_wp2_with fail
  go_ret
  exact ⟨rfl, HQ1.out⟩
set_option maxRecDepth 100000 in
set_option maxHeartbeats 4000000 in
theorem RPRising_ok (v : Value) (l : List Int) (b : Int) (w : World) (hv : Ints w v l) (hn : l.length ≤ 1000000000000) (hr : risingI (-1) l b = true) :
    Calls Tryz.prog 99 #[v, .int .i64 b] w fun e w' => e = .returned (.bool true) ∧ Q w w' := by
  obtain ⟨a, cap, rfl, hcell⟩ := hv.value
  have HC := Lib.hid hcell; have HR := Lib.hid hr
  clear hcell hv hr
  go_enter Tryz.func99, Tryz.ntmps99
  go_wp2_with fail
  go_loopw [5] (fun i wr => ∃ k : Nat, k ≤ l.length ∧ i = .int .i64 (k : Nat) ∧ Hid (Q w wr)) (fun i _ => l.length - (intOf i).toNat)
  case atStart => exact ⟨0, by omega, rfl, Q.refl _⟩
  case round =>
    obtain ⟨k, hk, rfl, HQ⟩ := hrel
    obtain ⟨wo, rfl⟩ : ∃ wo : World, wo = wr := ⟨_, rfl⟩
    by_cases hlt : k < l.length
    · obtain ⟨bb, o, rfl, hc⟩ := HC.out (by omega)
      have c0 := cell_stays HQ.out (hc k hlt)
      obtain ⟨r1, r2, r3⟩ := risingAt _ _ _ HR.out k hlt
      have hki : (k : Int) < (l.length : Int) := by omega
      have hk0 : (0 : Int) ≤ (k : Int) := by omega
      by_cases hz : k = 0
      · subst hz
        simp only [if_true] at r1 r3
        simp only [Nat.add_zero] at c0
        clear hc
        generalize l[0] = x at *
        have h1 : decide (x < 0) = false := by simp; omega
        have h2 : decide (b ≤ x) = false := by simp; omega
        go_wp2_with fail
        go_quiet (fail)
        go_wp2_with fail
        go_roundw
        case rel => exact ⟨0 + 1, by omega, by go_num, HQ.out.trans (Q.drewN _ _)⟩
        case measure => simp [intOf]; omega
      · have c1 := cell_stays HQ.out (hc (k - 1) (by omega))
        rw [if_neg hz] at r1 r3
        have e1 : l.getD (k - 1) 0 = l[k - 1] := by rw [List.getD_eq_getElem?_getD, List.getElem?_eq_getElem (by omega)]; rfl
        rw [e1] at r1 r3
        clear hc e1
        generalize l[k - 1] = x' at *
        generalize l[k] = x at *
        have hk1 : (0 : Int) < (k : Int) := by omega
        have hk2 : 0 < k := by omega
        have hk3 : decide (0 < k) = true := by simp; omega
        have h1 : decide (x < 0) = false := by simp; omega
        have h2 : decide (b ≤ x) = false := by simp; omega
        have h3 : decide (x ≤ x') = false := by simp; omega
        have hkk : (k : Int) - 1 = ((k - 1 : Nat) : Int) := by omega
        have hkl : ((k - 1 : Nat) : Int) < (l.length : Int) := by omega
        generalize k - 1 = k1 at *
        go_wp2_with fail
        go_quiet (fail)
        go_wp2_with fail
        go_roundw
        case rel => exact ⟨k + 1, by omega, by go_num, HQ.out.trans (Q.drewN _ _)⟩
        case measure => simp [intOf]; omega
    · have hke : k = l.length := by omega
      subst hke
      go_wp2_with fail
      go_ret
      exact ⟨rfl, HQ.out⟩
end Go.Proofs.YtoabhcfmdkhmgaaGreatDoor
end
