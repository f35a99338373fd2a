/- codexref11: Terms: walked. -/
import Derived.Test.YtcblmcbpnakphaaGreatDoorMWRef11cToTurns14
import Derived.Test.YtcblmcbpnakphaaGreatDoorMTermsJToWRef12a
import Derived.Test.YtcblmcbpnakphaaGreatDoorMIx2ToSegRd
import Derived.Test.YtcblmcbpnakphaaGreatDoorHAppSl
import Derived.Test.YtcblmcbpnakphaaGreatDoorMTokToWDictR
import Derived.Test.YtcblmcbpnakphaaGreatDoorMWTokensToWIdxR
import Derived.BigQuiet
import Derived.Deep.RegionLaw
set_option linter.unusedSimpArgs false
set_option linter.unusedVariables false
set_option linter.unnecessarySimpa false
namespace Go.Proofs.YtcblmcbpnakphaaGreatDoor
open Go.RowKit
set_option linter.unusedVariables false

theorem owns_cap {w : World} {base : Nat} {e : TypeId} {size n : Nat} {xs : List Value} {a : Option Addr} {c : Nat} (h : w.ownsRow base e size (.slice a n c) n xs) : n ≤ c ∧ c ≤ 9223372036854775807 := by
  rcases h.2 with ⟨hv, hn⟩ | ⟨g, cap, cur, hv, _, _, h1, h2, _⟩
  · cases hv; exact ⟨by omega, by omega⟩
  · cases hv; unfold maxLen at h2; exact ⟨h1, by omega⟩
abbrev strVs (l : List Bytes) : List Value := l.map strV
theorem own_lit0 (W : World) (base : Nat) (hb : base ≤ W.heap.size) : (W.alloc (.cells #[] 9)).ownsRow base 9 1 (.slice (some ⟨W.heap.size, 0, none⟩) 0 0) 0 (strVs []) := owns_lit W base 9 #[] 0 rfl hb (by decide)
theorem own_lit1 (W : World) (A : Obj) (base : Nat) (hb : base ≤ W.heap.size) : ((W.alloc A).alloc (.cells #[] 9)).ownsRow base 9 1 (.slice (some ⟨W.heap.size + 1, 0, none⟩) 0 0) 0 (strVs []) := by
  have := own_lit0 (W.alloc A) base (by simp; omega)
  simpa using this
theorem lit_two (W : World) (A B : Obj) : ((W.alloc A).alloc B).heap[W.heap.size + 1]? = some B := by
  have := World.alloc_heap_new (W.alloc A) B
  simpa using this
theorem lit_one (W : World) (A B : Obj) : ((W.alloc B).alloc A).heap[W.heap.size]? = some B := (Q.alloc (W.alloc B) A).block W.heap.size (by simp) |>.trans (World.alloc_heap_new W B)
theorem sl_blk {w : World} {g : Nat} {t : Bytes} {T : TypeId} {fr : Nat × Nat} (h : w.heap[g]? = some (.cells #[strV t] T fr)) : Sl w (.slice (some ⟨g, 0, none⟩) 1 1) 1 1 (strVs [t]) := by
  refine ⟨rfl, _, _, rfl, fun _ => ⟨g, 0, rfl, fun j u hj => ?_⟩⟩
  simp only [World.cell?, h]
  simpa using hj
theorem trm_app (W0 : World) {w : World} {ops : Array Oper} {o : Oper} {a : Act} {K : Act → World → Prop} {Qx : Exit → Act → World → Prop} {E : Prop} (hgd : o.guard = none) (s x : Operand)
    (ho : o.op = .call { callee := .builtin .append, args := #[s, x], argTypes := #[68, 68] })
    (v : Value) (n : Nat) (xs : List Bytes) (hs : a.eval s = v) (hown : w.ownsRow W0.heap.size 9 1 v n (strVs xs)) (hq : Q W0 w)
    (vx : Value) (m : Nat) (ys : List Bytes) (hx : a.eval x = vx) (hl : Sl w vx m 1 (strVs ys)) (hnm : n + m ≤ 1000000000)
    (h : ∀ v' w', w'.ownsRow W0.heap.size 9 1 v' (n + m) (strVs (xs ++ ys)) → Q W0 w' → (∀ g o, w.heap[g]? = some o → v.ownBlock ≠ some g → w'.heap[g]? = some o) → K (a.put o.dst v') w') :
    if Region.wanted o (yielded ops a.tmps) = true then Oper.wp Tryz.prog o a w K Qx else E := by
  obtain ⟨i0, hi, hz0, hz1, hz2⟩ := info_parts (show (Tryz.prog.info? 9).map (fun i => (i.zero, i.size, i.bytes)) = some (some (strV []), 1, 16) by kernel_rfl)
  have hw : Region.wanted o (yielded ops a.tmps) = true := by simp [Region.wanted, hgd]
  rw [if_pos hw]
  refine wp_append_sl w s x 68 ho W0.heap.size 9 i0 (strV []) 1 16 Tryz.underlying68 hi hz0 hz1 hz2 rfl (by decide) v n (strVs xs) hs hown vx m (strVs ys) hx hl (fun u hu => ?_) (by unfold maxLen; omega) (by omega) hq.size ?_
  · obtain ⟨y, _, rfl⟩ := List.mem_map.1 hu; rfl
  · intro v' w' h2 h3 _
    refine h v' w' (by rw [strVs, List.map_append]; exact h2) (grown_below hq hown h3 (Nat.le_refl _) hq.size) (fun g o hg hne => (h3.block g (Array.getElem?_eq_some_iff.1 hg).1 (Ne.symm hne)).trans hg)
def trmTo (l : List (Bytes × Nat)) (k : Nat) : List Bytes := ((l.take k).map (·.1)).foldl (fun a t => putL t a) []
theorem trmTo_succ (l : List (Bytes × Nat)) (k : Nat) (h : k < l.length) : trmTo l (k + 1) = putL l[k].1 (trmTo l k) := by
  unfold trmTo
  rw [List.take_succ_eq_append_getElem h, List.map_append, List.foldl_append]; rfl
theorem trmTo_rise (l : List (Bytes × Nat)) (k : Nat) : (trmTo l k).Pairwise (· < ·) := foldPutL_rise _ _ List.Pairwise.nil
theorem trmTo_len (l : List (Bytes × Nat)) (k : Nat) : (trmTo l k).length ≤ k := by
  have := foldPutL_len ((l.take k).map (·.1)) []
  rw [List.length_map, List.length_take, List.length_nil] at this
  unfold trmTo; omega
set_option maxRecDepth 100000 in
set_option maxHeartbeats 4000000 in
theorem RTerms_any (s : Bytes) (w : World) (hs : s.length ≤ 100000000) :
    Calls Tryz.prog 71 #[strV s] w fun e w' => ∃ v, e = .returned v ∧ w'.ownsRow w.heap.size 9 1 v (termsT s).length (strVs (termsT s)) ∧ Q w w' := by
  obtain ⟨i0, hi, hz0, hz1, hz2⟩ := info_parts (show (Tryz.prog.info? 9).map (fun i => (i.zero, i.size, i.bytes)) = some (some (strV []), 1, 16) by kernel_rfl)
  have ct := RTokens_any s w hs
  have htl : (tokensL s).length ≤ s.length + 1 := by
    have := tokensF_len (wordsL s) 0
    have := (wordsL_len s).1
    unfold tokensL; omega
  have hpl : termsT s = trmTo (tokensL s) (tokensL s).length := by unfold trmTo termsT termsIn; rw [List.take_length]
  rw [hpl]
  clear hpl
  generalize tokensL s = l at *
  have CT := Lib.hid ct
  clear ct
  have hmx : Tryz.prog.follows .mixedOrders = true := by kernel_rfl
  go_enter Tryz.func71, Tryz.ntmps71
  go_wp2_with fail
  refine CT.out.mono ?_
  rintro e w1 ⟨v1, rfl, ho1, q1⟩
  have htoks : Toks w1 v1 l := Sl.of_owns ho1
  obtain ⟨a, cap, rfl, hc⟩ := htoks.value
  have HC := Lib.hid hc; have HQ1 := Lib.hid q1
  have hsz1 : w.heap.size ≤ w1.heap.size := q1.size
  clear ho1 htoks hc q1 CT
  go_wp2_with fail
  go_loopw [3, 5, 6] (fun ov i _ wr => ∃ (k : Nat) (o : List Bytes), k ≤ l.length ∧ i = .int .i64 (k : Nat) ∧ o.length ≤ k ∧ Hid (o = trmTo l k) ∧ Hid (wr.ownsRow w1.heap.size 9 1 ov o.length (strVs o)) ∧ Hid (Q w1 wr)) (fun _ i _ _ => l.length - (intOf i).toNat)
  case atStart => exact ⟨0, [], by omega, rfl, by simp, rfl, World.ownsRow_nil _ _ _ _, Q.refl _⟩
  case round =>
    obtain ⟨k, o, hk, rfl, hol, HOE, HO, HQ⟩ := hrel
    obtain ⟨wo, rfl⟩ : ∃ wo : World, wo = wr := ⟨_, rfl⟩
    by_cases hlt : k < l.length
    · obtain ⟨b, of, rfl, hcc⟩ := HC.out (by omega)
      have z0 := (hcc k hlt).1
      have hki : (k : Int) < (l.length : Int) := by omega
      have hk0 : (0 : Int) ≤ (k : Int) := by omega
      have hsu := trmTo_succ l k hlt
      have hri := trmTo_rise l k
      rw [← HOE.out] at hsu hri
      have hstr : Strs wo _ o := Sl.of_owns HO.out
      obtain ⟨oa, ocap, rfl, hoc⟩ := hstr.value
      have hcap := owns_cap HO.out
      obtain ⟨hcap1, hcap2⟩ := hcap
      clear hcc hstr
      generalize l[k] = x at *
      obtain ⟨t, p⟩ := x
      simp only at z0 hsu
      have Z0 := Lib.hid z0; have HSU := Lib.hid hsu; have HRI := Lib.hid hri; have HOC := Lib.hid hoc
      clear z0 hsu hri hoc
      go_wp2_with fail
      go_loopw [6] (fun j wr => ∃ m : Nat, m ≤ o.length ∧ j = .int .i64 (m : Nat) ∧ Hid (∀ x ∈ o.take m, lessL x t = true) ∧ Hid (Q wo wr)) (fun j _ => o.length - (intOf j).toNat)
      case atStart => exact ⟨0, by omega, rfl, fun x hx => by simp at hx, Q.refl _⟩
      case round =>
        obtain ⟨m, hm, rfl, HLE, HQm⟩ := hrel
        obtain ⟨wm, rfl⟩ : ∃ wm : World, wm = wr := ⟨_, rfl⟩
        have t0 := cell_stays (HQ.out.trans HQm.out) Z0.out
        have hmi0 : (0 : Int) ≤ (m : Int) := by omega
        by_cases hgo : ∃ y, o[m]? = some y ∧ lessL y t = true
        · obtain ⟨y, hy, hless⟩ := hgo
          obtain ⟨hltm, hye⟩ := List.getElem?_eq_some_iff.1 hy
          obtain ⟨ob, oo, rfl, hoc⟩ := HOC.out (by omega)
          have c0 := cell_stays HQm.out (hoc m hltm)
          rw [hye] at c0
          have hmi : (m : Int) < (o.length : Int) := by omega
          have htk : o.take (m + 1) = o.take m ++ [o[m]] := List.take_succ_eq_append_getElem hltm
          rw [hye] at htk
          have hd1 : decide (m < o.length) = true := decide_eq_true hltm
          have hb : Op.bytesLess y t = true := by rw [lessL_eq]; exact hless
          have hle2 : ∀ x ∈ o.take (m + 1), lessL x t = true := fun x hx => by
            rw [htk] at hx
            rcases List.mem_append.1 hx with hx | hx
            · exact HLE.out x hx
            · rw [List.mem_singleton] at hx; subst hx; exact hless
          have HLE2 := Lib.hid hle2
          clear hless htk hle2 hy hye hoc
          go_wp2_with fail
          go_quiet (fail)
          go_wp2_with fail
          go_roundw
          case rel => exact ⟨m + 1, by omega, by go_num, HLE2, HQm.out.trans (Q.drewN _ _)⟩
          case measure => simp [intOf]; omega
        · have hpc := putL_cut t o m (by omega) HLE.out (fun x hx => by
            cases hl : lessL x t with
            | false => rfl
            | true => exact absurd ⟨x, hx, hl⟩ hgo) HRI.out
          by_cases heq : o[m]? = some t
          · rw [if_pos heq] at hpc
            obtain ⟨hltm, hye⟩ := List.getElem?_eq_some_iff.1 heq
            obtain ⟨ob, oo, rfl, hoc⟩ := HOC.out (by omega)
            have c0 := cell_stays HQm.out (hoc m hltm)
            rw [hye] at c0
            have hmi : (m : Int) < (o.length : Int) := by omega
            have hd1 : decide (m < o.length) = true := decide_eq_true hltm
            have hb : Op.bytesLess t t = false := by
              rw [lessL_eq]
              cases hl : lessL t t with
              | false => rfl
              | true => exact absurd ⟨t, heq, hl⟩ hgo
            have hne : ((m : Int) == (o.length : Int)) = false := by simp; omega
            have HPC := Lib.hid hpc
            clear hgo heq hye hoc hpc
            go_wp2_with fail
            go_quiet (fail)
            go_wp2_with fail
            go_quiet (fail)
            go_wp2_with fail
            go_roundw
            case rel => exact ⟨k + 1, o, by omega, by go_num, by omega, by show _ = _; rw [HSU.out, HPC.out], ownsRow_below HO.out (HQm.out.trans (Q.drewN _ _)), (HQ.out.trans HQm.out).trans (Q.drewN _ _)⟩
            case measure => simp [intOf]; omega
          · rw [if_neg heq] at hpc
            by_cases hltm : m < o.length
            · obtain ⟨ob, oo, rfl, hoc⟩ := HOC.out (by omega)
              have c0 := cell_stays HQm.out (hoc m hltm)
              have hne1 : o[m] ≠ t := fun e => heq (by rw [List.getElem?_eq_getElem hltm, e])
              have hb : Op.bytesLess o[m] t = false := by
                rw [lessL_eq]
                cases hl : lessL o[m] t with
                | false => rfl
                | true => exact absurd ⟨o[m], List.getElem?_eq_getElem hltm, hl⟩ hgo
              have hmi : (m : Int) < (o.length : Int) := by omega
              have hd1 : decide (m < o.length) = true := decide_eq_true hltm
              have hne : ((m : Int) == (o.length : Int)) = false := by simp; omega
              clear hgo heq hoc
              generalize o[m] = y at *
              have heb1 : (y == t) = false := by simpa using hne1
              have heb2 : @BEq.beq (List UInt8) instBEqOfDecidableEq y t = false := by simpa using hne1
              have heb3 : @BEq.beq (List UInt8) List.instBEq y t = false := by simpa using hne1
              have HPC := Lib.hid hpc
              clear hne1 hpc
              go_wp2_with fail
              go_quiet (fail)
              go_wp2_with fail
              go_quiet (fail)
              go_wp2_with fail
              rename_i na
              obtain ⟨W, hW⟩ : ∃ W, W = (wm.drewN na).drewN nq := ⟨_, rfl⟩
              rw [← hW]
              have hqW : Q wo W := by rw [hW]; exact HQm.out.trans ((Q.drewN _ _).trans (Q.drewN _ _))
              have x0 := cell_stays (HQ.out.trans hqW) Z0.out
              have hown := ownsRow_below HO.out hqW
              have hsl := Sl.of_owns hown
              have hoc0 : ¬ ocap = 0 := by omega
              have hocm : ¬ ocap = m := by omega
              have sl1 : ∀ V, Q W V → Sl V (.slice (some ⟨ob, oo, none⟩) m ocap) m 1 (strVs (o.take m)) := fun V q => by
                have := Sl.cut (size := 1) (Sl.stays hsl q) 0 m (by omega) hm hcap1
                simpa [hoc0, add_off, strVs, List.map_take] using this
              have sl2 : ∀ V, Q W V → Sl V (.slice (some ⟨ob, oo + m, none⟩) (o.length - m) (ocap - m)) (o.length - m) 1 (strVs (o.drop m)) := fun V q => by
                have := Sl.cut (size := 1) (Sl.stays hsl q) m o.length hm (Nat.le_refl _) hcap1
                rw [List.take_of_length_le (by simp)] at this
                simpa [hocm, add_off, strVs, List.map_drop] using this
              have SL1 := Lib.hid sl1; have SL2 := Lib.hid sl2; have HOW := Lib.hid hown; have HQW := Lib.hid hqW
              clear sl1 sl2 hown hqW hsl
              clear c0 hb heb1 heb2 heb3 hne hd1 hW t0
              have hmi2 : (m : Int) ≤ (o.length : Int) := by omega
              have hmi3 : (m : Int) ≤ (ocap : Int) := by omega
              have hoi3 : (o.length : Int) ≤ (ocap : Int) := by omega
              have hpl : (putL t o).length ≤ o.length + 1 := putL_len t o
              have hrow : ∀ (v : Value) (V : World), V.ownsRow W.heap.size 9 1 v (0 + m + 1 + (o.length - m)) (strVs ([] ++ o.take m ++ [t] ++ o.drop m)) → V.ownsRow w1.heap.size 9 1 v (putL t o).length (strVs (putL t o)) := fun v V h => by
                have e : [] ++ o.take m ++ [t] ++ o.drop m = putL t o := by rw [HPC.out]; simp
                rw [e] at h
                have e2 : 0 + m + 1 + (o.length - m) = (putL t o).length := by
                  rw [HPC.out]; simp; omega
                rw [e2] at h
                exact owns_low h (HQ.out.trans HQW.out).size
              have HPL := Lib.hid hpl; have HROW := Lib.hid hrow
              clear hpl hrow
              have xe := cell_stays (Q.alloc W (.cells #[] 9)) x0
              go_region_law
                (first
                  | (refine trm_app W (by rfl) _ _ (by rfl) (.slice (some ⟨W.heap.size, 0, none⟩) 0 0) 0 [] (by rfl) (by first | exact own_lit0 W _ (Nat.le_refl _) | exact rowDr (own_lit0 W _ (Nat.le_refl _)) | exact rowAl _ (own_lit0 W _ (Nat.le_refl _)) | exact rowDr (rowAl _ (own_lit0 W _ (Nat.le_refl _)))) (by repeat (first | with_reducible exact Q.refl _ | with_reducible refine Q.trans ?_ (Q.drew _) | with_reducible refine Q.trans ?_ (Q.alloc _ _))) _ m (o.take m) (by rfl) (SL1.out _ (by repeat (first | with_reducible exact Q.refl _ | with_reducible refine Q.trans ?_ (Q.drew _) | with_reducible refine Q.trans ?_ (Q.alloc _ _)))) (by omega) ?_; intro va wa ha qa ka; have xa := cell_stays qa x0; have HA := Lib.hid ha; have QA := Lib.hid qa; have KA := Lib.hid ka; clear ha qa ka)
                  | (refine trm_app W (by rfl) _ _ (by rfl) (.slice (some ⟨W.heap.size + 1, 0, none⟩) 0 0) 0 [] (by rfl) (by first | exact own_lit1 W _ _ (Nat.le_refl _) | exact rowDr (own_lit1 W _ _ (Nat.le_refl _))) (by repeat (first | with_reducible exact Q.refl _ | with_reducible refine Q.trans ?_ (Q.drew _) | with_reducible refine Q.trans ?_ (Q.alloc _ _))) _ m (o.take m) (by rfl) (SL1.out _ (by repeat (first | with_reducible exact Q.refl _ | with_reducible refine Q.trans ?_ (Q.drew _) | with_reducible refine Q.trans ?_ (Q.alloc _ _)))) (by omega) ?_; intro va wa ha qa ka; have xa := cell_stays qa x0; have HA := Lib.hid ha; have QA := Lib.hid qa; have KA := Lib.hid ka; clear ha qa ka)
                  | (refine trm_app W (by rfl) _ _ (by rfl) va (0 + m) ([] ++ o.take m) (by rfl) (by first | exact HA.out | exact rowDr HA.out | exact rowAl _ HA.out | exact rowDr (rowAl _ HA.out)) (by first | exact QA.out | exact QA.out.trans (Q.drew _) | exact QA.out.trans (Q.alloc _ _) | exact (QA.out.trans (Q.alloc _ _)).trans (Q.drew _)) (.slice (some ⟨wa.heap.size, 0, none⟩) 1 1) 1 [t] (by rfl) (by exact sl_blk (World.alloc_heap_new _ _)) (by omega) ?_; intro vb wb hb2 qb kb; have HB := Lib.hid hb2; have QB := Lib.hid qb; clear hb2 qb kb)
                  | (refine trm_app W (by rfl) _ _ (by rfl) va (0 + m) ([] ++ o.take m) (by rfl) (by first | exact HA.out | exact rowDr HA.out | exact rowAl _ HA.out | exact rowDr (rowAl _ HA.out)) (by first | exact QA.out | exact QA.out.trans (Q.drew _) | exact QA.out.trans (Q.alloc _ _) | exact (QA.out.trans (Q.alloc _ _)).trans (Q.drew _)) (.slice (some ⟨W.heap.size + 1, 0, none⟩) 1 1) 1 [t] (by rfl) (by exact sl_blk (KA.out _ _ (lit_two W (.cells #[] 9) (.cells #[strV t] 9)) (by simp [Value.ownBlock]))) (by omega) ?_; intro vb wb hb2 qb kb; have HB := Lib.hid hb2; have QB := Lib.hid qb; clear hb2 qb kb)
                  | (refine trm_app W (by rfl) _ _ (by rfl) va (0 + m) ([] ++ o.take m) (by rfl) (by first | exact HA.out | exact rowDr HA.out | exact rowAl _ HA.out | exact rowDr (rowAl _ HA.out)) (by first | exact QA.out | exact QA.out.trans (Q.drew _) | exact QA.out.trans (Q.alloc _ _) | exact (QA.out.trans (Q.alloc _ _)).trans (Q.drew _)) (.slice (some ⟨W.heap.size, 0, none⟩) 1 1) 1 [t] (by rfl) (by exact sl_blk (KA.out _ _ (lit_one W (.cells #[] 9) (.cells #[strV t] 9)) (by simp [Value.ownBlock]))) (by omega) ?_; intro vb wb hb2 qb kb; have HB := Lib.hid hb2; have QB := Lib.hid qb; clear hb2 qb kb)
                  | (refine trm_app W (by rfl) _ _ (by rfl) vb (0 + m + 1) ([] ++ o.take m ++ [t]) (by rfl) (by first | exact HB.out | exact rowDr HB.out) (by first | exact QB.out | exact QB.out.trans (Q.drew _)) _ (o.length - m) (o.drop m) (by rfl) (SL2.out _ (by first | exact QB.out | exact QB.out.trans (Q.drew _))) (by omega) ?_; intro vc wc hc2 qc kc; have HCC := Lib.hid hc2; have QC := Lib.hid qc; clear hc2 qc kc))
              all_goals
                clear xa xe x0
                go_wp2_with fail
                go_roundw
                case rel => exact ⟨k + 1, putL t o, by omega, by go_num, by have := HPL.out; omega, by show _ = _; rw [HSU.out], HROW.out _ _ HCC.out, (HQ.out.trans HQW.out).trans QC.out⟩
                case measure => simp [intOf]; omega
            · have hme : m = o.length := by omega
              have hne : ((m : Int) == (o.length : Int)) = true := by simp; omega
              have hd1 : decide (m < o.length) = false := decide_eq_false (by omega)
              have hmi : ¬ (m : Int) < (o.length : Int) := by omega
              have HPC := Lib.hid hpc; have HME := Lib.hid hme
              clear hgo heq hpc hme
              have hform : (oa = none ∧ ocap = 0 ∧ o.length = 0) ∨ ∃ g, oa = some ⟨g, 0, none⟩ := by
                rcases HO.out.2 with ⟨hv, hn⟩ | ⟨g, cap, cur, hv, _⟩
                · injection hv with e1 e2 e3; exact .inl ⟨e1, e3, e2⟩
                · injection hv with e1 e2 e3; exact .inr ⟨g, e1⟩
              go_wp2_with fail
              go_quiet (fail)
              go_wp2_with fail
              go_quiet (fail)
              go_wp2_with fail
              rename_i na
              obtain ⟨W, hW⟩ : ∃ W, W = (wm.drewN na).drewN nq := ⟨_, rfl⟩
              rw [← hW]
              have hqW : Q wo W := by rw [hW]; exact HQm.out.trans ((Q.drewN _ _).trans (Q.drewN _ _))
              have x0 := cell_stays (HQ.out.trans hqW) Z0.out
              have hown := ownsRow_below HO.out hqW
              have hsl := Sl.of_owns hown
              have sl0 : ∀ (V : World) (A : Option Addr) (c : Nat), Sl V (.slice A 0 c) 0 1 (strVs []) := fun V A c => ⟨rfl, _, _, rfl, fun h => by omega⟩
              have hdrop : o.drop m = [] := List.drop_eq_nil_of_le (by omega)
              have htake : o.take m = o := List.take_of_length_le (by omega)
              clear hne hd1 hW t0
              have hmi2 : (m : Int) ≤ (o.length : Int) := by omega
              have hmi3 : (m : Int) ≤ (ocap : Int) := by omega
              have hoi3 : (o.length : Int) ≤ (ocap : Int) := by omega
              rcases hform with ⟨h1, h2, h3⟩ | ⟨g, h1⟩
              · subst h1
                have hm0 : m = 0 := by have := HME.out; omega
                have sl1 : ∀ V, Q W V → Sl V (.slice none 0 0) m 1 (strVs (o.take m)) := fun V q => by
                  have e : o = [] := List.eq_nil_of_length_eq_zero h3
                  rw [hm0, e]; exact sl0 V _ _
                have sl2 : ∀ V, Q W V → Sl V (.slice none 0 0) (o.length - m) 1 (strVs (o.drop m)) := fun V q => by
                  have e : o = [] := List.eq_nil_of_length_eq_zero h3
                  rw [hm0, e]; exact sl0 V _ _
                have SL1 := Lib.hid sl1; have SL2 := Lib.hid sl2; have HOW := Lib.hid hown; have HQW := Lib.hid hqW
                clear sl1 sl2 hown hqW hsl sl0 hdrop htake
                have hpl : (putL t o).length ≤ o.length + 1 := putL_len t o
                have hrow : ∀ (v : Value) (V : World), V.ownsRow W.heap.size 9 1 v (0 + m + 1 + (o.length - m)) (strVs ([] ++ o.take m ++ [t] ++ o.drop m)) → V.ownsRow w1.heap.size 9 1 v (putL t o).length (strVs (putL t o)) := fun v V h => by
                  have e : [] ++ o.take m ++ [t] ++ o.drop m = putL t o := by rw [HPC.out]; simp
                  rw [e] at h
                  have e2 : 0 + m + 1 + (o.length - m) = (putL t o).length := by
                    rw [HPC.out]; simp; omega
                  rw [e2] at h
                  exact owns_low h (HQ.out.trans HQW.out).size
                have HPL := Lib.hid hpl; have HROW := Lib.hid hrow
                clear hpl hrow
                have xe := cell_stays (Q.alloc W (.cells #[] 9)) x0
                go_region_law
                  (first
                    | (refine trm_app W (by rfl) _ _ (by rfl) (.slice (some ⟨W.heap.size, 0, none⟩) 0 0) 0 [] (by rfl) (by first | exact own_lit0 W _ (Nat.le_refl _) | exact rowDr (own_lit0 W _ (Nat.le_refl _)) | exact rowAl _ (own_lit0 W _ (Nat.le_refl _)) | exact rowDr (rowAl _ (own_lit0 W _ (Nat.le_refl _)))) (by repeat (first | with_reducible exact Q.refl _ | with_reducible refine Q.trans ?_ (Q.drew _) | with_reducible refine Q.trans ?_ (Q.alloc _ _))) _ m (o.take m) (by rfl) (SL1.out _ (by repeat (first | with_reducible exact Q.refl _ | with_reducible refine Q.trans ?_ (Q.drew _) | with_reducible refine Q.trans ?_ (Q.alloc _ _)))) (by omega) ?_; intro va wa ha qa ka; have xa := cell_stays qa x0; have HA := Lib.hid ha; have QA := Lib.hid qa; have KA := Lib.hid ka; clear ha qa ka)
                    | (refine trm_app W (by rfl) _ _ (by rfl) (.slice (some ⟨W.heap.size + 1, 0, none⟩) 0 0) 0 [] (by rfl) (by first | exact own_lit1 W _ _ (Nat.le_refl _) | exact rowDr (own_lit1 W _ _ (Nat.le_refl _))) (by repeat (first | with_reducible exact Q.refl _ | with_reducible refine Q.trans ?_ (Q.drew _) | with_reducible refine Q.trans ?_ (Q.alloc _ _))) _ m (o.take m) (by rfl) (SL1.out _ (by repeat (first | with_reducible exact Q.refl _ | with_reducible refine Q.trans ?_ (Q.drew _) | with_reducible refine Q.trans ?_ (Q.alloc _ _)))) (by omega) ?_; intro va wa ha qa ka; have xa := cell_stays qa x0; have HA := Lib.hid ha; have QA := Lib.hid qa; have KA := Lib.hid ka; clear ha qa ka)
                    | (refine trm_app W (by rfl) _ _ (by rfl) va (0 + m) ([] ++ o.take m) (by rfl) (by first | exact HA.out | exact rowDr HA.out | exact rowAl _ HA.out | exact rowDr (rowAl _ HA.out)) (by first | exact QA.out | exact QA.out.trans (Q.drew _) | exact QA.out.trans (Q.alloc _ _) | exact (QA.out.trans (Q.alloc _ _)).trans (Q.drew _)) (.slice (some ⟨wa.heap.size, 0, none⟩) 1 1) 1 [t] (by rfl) (by exact sl_blk (World.alloc_heap_new _ _)) (by omega) ?_; intro vb wb hb2 qb kb; have HB := Lib.hid hb2; have QB := Lib.hid qb; clear hb2 qb kb)
                    | (refine trm_app W (by rfl) _ _ (by rfl) va (0 + m) ([] ++ o.take m) (by rfl) (by first | exact HA.out | exact rowDr HA.out | exact rowAl _ HA.out | exact rowDr (rowAl _ HA.out)) (by first | exact QA.out | exact QA.out.trans (Q.drew _) | exact QA.out.trans (Q.alloc _ _) | exact (QA.out.trans (Q.alloc _ _)).trans (Q.drew _)) (.slice (some ⟨W.heap.size + 1, 0, none⟩) 1 1) 1 [t] (by rfl) (by exact sl_blk (KA.out _ _ (lit_two W (.cells #[] 9) (.cells #[strV t] 9)) (by simp [Value.ownBlock]))) (by omega) ?_; intro vb wb hb2 qb kb; have HB := Lib.hid hb2; have QB := Lib.hid qb; clear hb2 qb kb)
                    | (refine trm_app W (by rfl) _ _ (by rfl) va (0 + m) ([] ++ o.take m) (by rfl) (by first | exact HA.out | exact rowDr HA.out | exact rowAl _ HA.out | exact rowDr (rowAl _ HA.out)) (by first | exact QA.out | exact QA.out.trans (Q.drew _) | exact QA.out.trans (Q.alloc _ _) | exact (QA.out.trans (Q.alloc _ _)).trans (Q.drew _)) (.slice (some ⟨W.heap.size, 0, none⟩) 1 1) 1 [t] (by rfl) (by exact sl_blk (KA.out _ _ (lit_one W (.cells #[] 9) (.cells #[strV t] 9)) (by simp [Value.ownBlock]))) (by omega) ?_; intro vb wb hb2 qb kb; have HB := Lib.hid hb2; have QB := Lib.hid qb; clear hb2 qb kb)
                    | (refine trm_app W (by rfl) _ _ (by rfl) vb (0 + m + 1) ([] ++ o.take m ++ [t]) (by rfl) (by first | exact HB.out | exact rowDr HB.out) (by first | exact QB.out | exact QB.out.trans (Q.drew _)) _ (o.length - m) (o.drop m) (by rfl) (SL2.out _ (by first | exact QB.out | exact QB.out.trans (Q.drew _))) (by omega) ?_; intro vc wc hc2 qc kc; have HCC := Lib.hid hc2; have QC := Lib.hid qc; clear hc2 qc kc))
                all_goals
                  clear xa xe x0
                  go_wp2_with fail
                  go_roundw
                  case rel => exact ⟨k + 1, putL t o, by omega, by go_num, by have := HPL.out; omega, by show _ = _; rw [HSU.out], HROW.out _ _ HCC.out, (HQ.out.trans HQW.out).trans QC.out⟩
                  case measure => simp [intOf]; omega
              · subst h1
                have hmo : o.length - m = 0 := by omega
                have sl1 : ∀ V, Q W V → Sl V (.slice (some ⟨g, 0, none⟩) m ocap) m 1 (strVs (o.take m)) := fun V q => by
                  rw [htake]
                  have := Sl.stays hsl q
                  have e := HME.out
                  rw [← e] at this
                  exact this
                have sl2 : ∀ V (A : Option Addr) (c : Nat), Q W V → Sl V (.slice A 0 c) 0 1 (strVs (o.drop m)) := fun V A c q => by
                  rw [hdrop]; exact sl0 V _ _
                have hmo1 : (0 : Nat) = o.length - m := by omega
                have SL1 := Lib.hid sl1; have SL2 := Lib.hid sl2; have HOW := Lib.hid hown; have HQW := Lib.hid hqW
                clear sl1 sl2 hown hqW hsl sl0 hdrop htake hmo1
                by_cases hocm : ocap = m
                · have hocm2 := hocm.symm
                  subst hocm2
                  have hpl : (putL t o).length ≤ o.length + 1 := putL_len t o
                  have hrow : ∀ (v : Value) (V : World), V.ownsRow W.heap.size 9 1 v (0 + m + 1 + 0) (strVs ([] ++ o.take m ++ [t] ++ o.drop m)) → V.ownsRow w1.heap.size 9 1 v (putL t o).length (strVs (putL t o)) := fun v V h => by
                    have e : [] ++ o.take m ++ [t] ++ o.drop m = putL t o := by rw [HPC.out]; simp
                    rw [e] at h
                    have e2 : 0 + m + 1 + 0 = (putL t o).length := by
                      rw [HPC.out]; simp; omega
                    rw [e2] at h
                    exact owns_low h (HQ.out.trans HQW.out).size
                  have HPL := Lib.hid hpl; have HROW := Lib.hid hrow
                  clear hpl hrow
                  have xe := cell_stays (Q.alloc W (.cells #[] 9)) x0
                  go_region_law
                    (first
                      | (refine trm_app W (by rfl) _ _ (by rfl) (.slice (some ⟨W.heap.size, 0, none⟩) 0 0) 0 [] (by rfl) (by first | exact own_lit0 W _ (Nat.le_refl _) | exact rowDr (own_lit0 W _ (Nat.le_refl _)) | exact rowAl _ (own_lit0 W _ (Nat.le_refl _)) | exact rowDr (rowAl _ (own_lit0 W _ (Nat.le_refl _)))) (by repeat (first | with_reducible exact Q.refl _ | with_reducible refine Q.trans ?_ (Q.drew _) | with_reducible refine Q.trans ?_ (Q.alloc _ _))) _ m (o.take m) (by rfl) (SL1.out _ (by repeat (first | with_reducible exact Q.refl _ | with_reducible refine Q.trans ?_ (Q.drew _) | with_reducible refine Q.trans ?_ (Q.alloc _ _)))) (by omega) ?_; intro va wa ha qa ka; have xa := cell_stays qa x0; have HA := Lib.hid ha; have QA := Lib.hid qa; have KA := Lib.hid ka; clear ha qa ka)
                      | (refine trm_app W (by rfl) _ _ (by rfl) (.slice (some ⟨W.heap.size + 1, 0, none⟩) 0 0) 0 [] (by rfl) (by first | exact own_lit1 W _ _ (Nat.le_refl _) | exact rowDr (own_lit1 W _ _ (Nat.le_refl _))) (by repeat (first | with_reducible exact Q.refl _ | with_reducible refine Q.trans ?_ (Q.drew _) | with_reducible refine Q.trans ?_ (Q.alloc _ _))) _ m (o.take m) (by rfl) (SL1.out _ (by repeat (first | with_reducible exact Q.refl _ | with_reducible refine Q.trans ?_ (Q.drew _) | with_reducible refine Q.trans ?_ (Q.alloc _ _)))) (by omega) ?_; intro va wa ha qa ka; have xa := cell_stays qa x0; have HA := Lib.hid ha; have QA := Lib.hid qa; have KA := Lib.hid ka; clear ha qa ka)
                      | (refine trm_app W (by rfl) _ _ (by rfl) va (0 + m) ([] ++ o.take m) (by rfl) (by first | exact HA.out | exact rowDr HA.out | exact rowAl _ HA.out | exact rowDr (rowAl _ HA.out)) (by first | exact QA.out | exact QA.out.trans (Q.drew _) | exact QA.out.trans (Q.alloc _ _) | exact (QA.out.trans (Q.alloc _ _)).trans (Q.drew _)) (.slice (some ⟨wa.heap.size, 0, none⟩) 1 1) 1 [t] (by rfl) (by exact sl_blk (World.alloc_heap_new _ _)) (by omega) ?_; intro vb wb hb2 qb kb; have HB := Lib.hid hb2; have QB := Lib.hid qb; clear hb2 qb kb)
                      | (refine trm_app W (by rfl) _ _ (by rfl) va (0 + m) ([] ++ o.take m) (by rfl) (by first | exact HA.out | exact rowDr HA.out | exact rowAl _ HA.out | exact rowDr (rowAl _ HA.out)) (by first | exact QA.out | exact QA.out.trans (Q.drew _) | exact QA.out.trans (Q.alloc _ _) | exact (QA.out.trans (Q.alloc _ _)).trans (Q.drew _)) (.slice (some ⟨W.heap.size + 1, 0, none⟩) 1 1) 1 [t] (by rfl) (by exact sl_blk (KA.out _ _ (lit_two W (.cells #[] 9) (.cells #[strV t] 9)) (by simp [Value.ownBlock]))) (by omega) ?_; intro vb wb hb2 qb kb; have HB := Lib.hid hb2; have QB := Lib.hid qb; clear hb2 qb kb)
                      | (refine trm_app W (by rfl) _ _ (by rfl) va (0 + m) ([] ++ o.take m) (by rfl) (by first | exact HA.out | exact rowDr HA.out | exact rowAl _ HA.out | exact rowDr (rowAl _ HA.out)) (by first | exact QA.out | exact QA.out.trans (Q.drew _) | exact QA.out.trans (Q.alloc _ _) | exact (QA.out.trans (Q.alloc _ _)).trans (Q.drew _)) (.slice (some ⟨W.heap.size, 0, none⟩) 1 1) 1 [t] (by rfl) (by exact sl_blk (KA.out _ _ (lit_one W (.cells #[] 9) (.cells #[strV t] 9)) (by simp [Value.ownBlock]))) (by omega) ?_; intro vb wb hb2 qb kb; have HB := Lib.hid hb2; have QB := Lib.hid qb; clear hb2 qb kb)
                      | (refine trm_app W (by rfl) _ _ (by rfl) vb (0 + m + 1) ([] ++ o.take m ++ [t]) (by rfl) (by first | exact HB.out | exact rowDr HB.out) (by first | exact QB.out | exact QB.out.trans (Q.drew _)) _ 0 (o.drop m) (by rfl) (SL2.out _ _ _ (by first | exact QB.out | exact QB.out.trans (Q.drew _))) (by omega) ?_; intro vc wc hc2 qc kc; have HCC := Lib.hid hc2; have QC := Lib.hid qc; clear hc2 qc kc))
                  all_goals
                    clear xa xe x0
                    go_wp2_with fail
                    go_roundw
                    case rel => exact ⟨k + 1, putL t o, by omega, by go_num, by have := HPL.out; omega, by show _ = _; rw [HSU.out], HROW.out _ _ HCC.out, (HQ.out.trans HQW.out).trans QC.out⟩
                    case measure => simp [intOf]; omega
                · have hpl : (putL t o).length ≤ o.length + 1 := putL_len t o
                  have hrow : ∀ (v : Value) (V : World), V.ownsRow W.heap.size 9 1 v (0 + m + 1 + 0) (strVs ([] ++ o.take m ++ [t] ++ o.drop m)) → V.ownsRow w1.heap.size 9 1 v (putL t o).length (strVs (putL t o)) := fun v V h => by
                    have e : [] ++ o.take m ++ [t] ++ o.drop m = putL t o := by rw [HPC.out]; simp
                    rw [e] at h
                    have e2 : 0 + m + 1 + 0 = (putL t o).length := by
                      rw [HPC.out]; simp; omega
                    rw [e2] at h
                    exact owns_low h (HQ.out.trans HQW.out).size
                  have HPL := Lib.hid hpl; have HROW := Lib.hid hrow
                  clear hpl hrow
                  have xe := cell_stays (Q.alloc W (.cells #[] 9)) x0
                  go_region_law
                    (first
                      | (refine trm_app W (by rfl) _ _ (by rfl) (.slice (some ⟨W.heap.size, 0, none⟩) 0 0) 0 [] (by rfl) (by first | exact own_lit0 W _ (Nat.le_refl _) | exact rowDr (own_lit0 W _ (Nat.le_refl _)) | exact rowAl _ (own_lit0 W _ (Nat.le_refl _)) | exact rowDr (rowAl _ (own_lit0 W _ (Nat.le_refl _)))) (by repeat (first | with_reducible exact Q.refl _ | with_reducible refine Q.trans ?_ (Q.drew _) | with_reducible refine Q.trans ?_ (Q.alloc _ _))) _ m (o.take m) (by rfl) (SL1.out _ (by repeat (first | with_reducible exact Q.refl _ | with_reducible refine Q.trans ?_ (Q.drew _) | with_reducible refine Q.trans ?_ (Q.alloc _ _)))) (by omega) ?_; intro va wa ha qa ka; have xa := cell_stays qa x0; have HA := Lib.hid ha; have QA := Lib.hid qa; have KA := Lib.hid ka; clear ha qa ka)
                      | (refine trm_app W (by rfl) _ _ (by rfl) (.slice (some ⟨W.heap.size + 1, 0, none⟩) 0 0) 0 [] (by rfl) (by first | exact own_lit1 W _ _ (Nat.le_refl _) | exact rowDr (own_lit1 W _ _ (Nat.le_refl _))) (by repeat (first | with_reducible exact Q.refl _ | with_reducible refine Q.trans ?_ (Q.drew _) | with_reducible refine Q.trans ?_ (Q.alloc _ _))) _ m (o.take m) (by rfl) (SL1.out _ (by repeat (first | with_reducible exact Q.refl _ | with_reducible refine Q.trans ?_ (Q.drew _) | with_reducible refine Q.trans ?_ (Q.alloc _ _)))) (by omega) ?_; intro va wa ha qa ka; have xa := cell_stays qa x0; have HA := Lib.hid ha; have QA := Lib.hid qa; have KA := Lib.hid ka; clear ha qa ka)
                      | (refine trm_app W (by rfl) _ _ (by rfl) va (0 + m) ([] ++ o.take m) (by rfl) (by first | exact HA.out | exact rowDr HA.out | exact rowAl _ HA.out | exact rowDr (rowAl _ HA.out)) (by first | exact QA.out | exact QA.out.trans (Q.drew _) | exact QA.out.trans (Q.alloc _ _) | exact (QA.out.trans (Q.alloc _ _)).trans (Q.drew _)) (.slice (some ⟨wa.heap.size, 0, none⟩) 1 1) 1 [t] (by rfl) (by exact sl_blk (World.alloc_heap_new _ _)) (by omega) ?_; intro vb wb hb2 qb kb; have HB := Lib.hid hb2; have QB := Lib.hid qb; clear hb2 qb kb)
                      | (refine trm_app W (by rfl) _ _ (by rfl) va (0 + m) ([] ++ o.take m) (by rfl) (by first | exact HA.out | exact rowDr HA.out | exact rowAl _ HA.out | exact rowDr (rowAl _ HA.out)) (by first | exact QA.out | exact QA.out.trans (Q.drew _) | exact QA.out.trans (Q.alloc _ _) | exact (QA.out.trans (Q.alloc _ _)).trans (Q.drew _)) (.slice (some ⟨W.heap.size + 1, 0, none⟩) 1 1) 1 [t] (by rfl) (by exact sl_blk (KA.out _ _ (lit_two W (.cells #[] 9) (.cells #[strV t] 9)) (by simp [Value.ownBlock]))) (by omega) ?_; intro vb wb hb2 qb kb; have HB := Lib.hid hb2; have QB := Lib.hid qb; clear hb2 qb kb)
                      | (refine trm_app W (by rfl) _ _ (by rfl) va (0 + m) ([] ++ o.take m) (by rfl) (by first | exact HA.out | exact rowDr HA.out | exact rowAl _ HA.out | exact rowDr (rowAl _ HA.out)) (by first | exact QA.out | exact QA.out.trans (Q.drew _) | exact QA.out.trans (Q.alloc _ _) | exact (QA.out.trans (Q.alloc _ _)).trans (Q.drew _)) (.slice (some ⟨W.heap.size, 0, none⟩) 1 1) 1 [t] (by rfl) (by exact sl_blk (KA.out _ _ (lit_one W (.cells #[] 9) (.cells #[strV t] 9)) (by simp [Value.ownBlock]))) (by omega) ?_; intro vb wb hb2 qb kb; have HB := Lib.hid hb2; have QB := Lib.hid qb; clear hb2 qb kb)
                      | (refine trm_app W (by rfl) _ _ (by rfl) vb (0 + m + 1) ([] ++ o.take m ++ [t]) (by rfl) (by first | exact HB.out | exact rowDr HB.out) (by first | exact QB.out | exact QB.out.trans (Q.drew _)) _ 0 (o.drop m) (by rfl) (SL2.out _ _ _ (by first | exact QB.out | exact QB.out.trans (Q.drew _))) (by omega) ?_; intro vc wc hc2 qc kc; have HCC := Lib.hid hc2; have QC := Lib.hid qc; clear hc2 qc kc))
                  all_goals
                    clear xa xe x0
                    go_wp2_with fail
                    go_roundw
                    case rel => exact ⟨k + 1, putL t o, by omega, by go_num, by have := HPL.out; omega, by show _ = _; rw [HSU.out], HROW.out _ _ HCC.out, (HQ.out.trans HQW.out).trans QC.out⟩
                    case measure => simp [intOf]; omega
    · have hke : k = l.length := by omega
      subst hke
      go_wp2_with fail
      go_ret
      exact ⟨_, rfl, by rw [← HOE.out]; exact owns_low HO.out hsz1, HQ1.out.trans HQ.out⟩
end Go.Proofs.YtcblmcbpnakphaaGreatDoor
