/- Joined texts of one proof: WRef15b. -/
import Derived.Test.YtoabhcfmdkhmgaaGreatDoorPWLastToLive2
import Derived.Test.YtoabhcfmdkhmgaaGreatDoorPRLiveToRLive2
import Derived.Test.YtoabhcfmdkhmgaaGreatDoorPWRef11dToWRef12a
set_option linter.unusedSimpArgs false
set_option linter.unusedVariables false
set_option linter.unnecessarySimpa false
/- (WRef15b) codexref15: With: walked. -/
section
namespace Go.Proofs.YtoabhcfmdkhmgaaGreatDoor
open Go.RowKit
set_option linter.unusedVariables false

theorem withR_cut (d : DocL) (l : List DocL) (k : Nat) (hk : k ≤ l.length) (h1 : ∀ x ∈ l.take k, lessL x.1 d.1 = true) (h2 : ∀ x, l[k]? = some x → lessL x.1 d.1 = false) :
    withR d l = l.take k ++ d :: (if (∃ x, l[k]? = some x ∧ x.1 = d.1) then l.drop (k + 1) else l.drop k) := by
  induction l generalizing k with
  | nil => simp [withR]
  | cons x l ih =>
    rw [withR]
    cases k with
    | zero =>
      have h3 := h2 x rfl
      rw [if_neg (by rw [h3]; simp)]
      by_cases he : x.1 = d.1
      · rw [if_pos he, if_pos ⟨x, rfl, he⟩]; simp
      · rw [if_neg he, if_neg (by rintro ⟨y, hy, hye⟩; simp at hy; subst hy; exact he hye)]; simp
    | succ k =>
      have h3 : lessL x.1 d.1 = true := h1 x (by simp)
      rw [if_pos h3, ih k (by simpa using hk) (fun y hy => h1 y (by simp [hy])) (fun y hy => h2 y (by simpa using hy))]
      simp
theorem own_lit0D (W : World) (base : Nat) (hb : base ≤ W.heap.size) : (W.alloc (.cells #[] 49)).ownsRow base 49 2 (.slice (some ⟨W.heap.size, 0, none⟩) 0 0) 0 (docVs []) := ⟨rfl, .inr ⟨W.heap.size, 0, #[], rfl, hb, heap_alloc_new _ _, Nat.le_refl _, by decide, rfl, rfl⟩⟩
theorem own_lit1D (W : World) (A : Obj) (base : Nat) (hb : base ≤ W.heap.size) : ((W.alloc A).alloc (.cells #[] 49)).ownsRow base 49 2 (.slice (some ⟨W.heap.size + 1, 0, none⟩) 0 0) 0 (docVs []) := by
  have := own_lit0D (W.alloc A) base (by simp; omega)
  simpa using this
theorem sl_blkD {w : World} {g : Nat} {d : DocL} {T : TypeId} {fr : Nat × Nat} (h : w.heap[g]? = some (.cells #[strV d.1, strV d.2] T fr)) : Sl w (.slice (some ⟨g, 0, none⟩) 1 1) 1 2 (docVs [d]) := by
  refine ⟨rfl, _, _, rfl, fun _ => ⟨g, 0, rfl, fun j u hj => ?_⟩⟩
  simp only [World.cell?, h]
  simpa [docVs] using hj
theorem dcs_app (W0 : World) {w : World} {ops : Array Oper} {o : Oper} {a : Act} {K : Act → World → Prop} {Qx : Exit → Act → World → Prop} {E : Prop} (hgd : o.guard = none) (s x : Operand)
    (ho : o.op = .call { callee := .builtin .append, args := #[s, x], argTypes := #[37, 37] })
    (v : Value) (n : Nat) (xs : List DocL) (hs : a.eval s = v) (hown : w.ownsRow W0.heap.size 49 2 v n (docVs xs)) (hq : Q W0 w)
    (vx : Value) (m : Nat) (ys : List DocL) (hx : a.eval x = vx) (hl : Sl w vx m 2 (docVs ys)) (hnm : n + m ≤ 1000000000)
    (h : ∀ v' w', w'.ownsRow W0.heap.size 49 2 v' (n + m) (docVs (xs ++ ys)) → Q W0 w' → (∀ g o, w.heap[g]? = some o → v.ownBlock ≠ some g → w'.heap[g]? = some o) → K (a.put o.dst v') w') :
    if Region.wanted o (yielded ops a.tmps) = true then Oper.wp Tryz.prog o a w K Qx else E := by
  obtain ⟨i0, hi, hz0, hz1, hz2⟩ := info_parts tinfo49
  have hw : Region.wanted o (yielded ops a.tmps) = true := by simp [Region.wanted, hgd]
  rw [if_pos hw]
  refine wp_append_sl w s x 37 ho W0.heap.size 49 i0 (.agg #[strV [], strV []]) 2 32 Tryz.underlying37 hi hz0 hz1 hz2 rfl (by decide) v n (docVs xs) hs hown vx m (docVs ys) hx hl (docVs_one ys) (by unfold maxLen; omega) (by omega) hq.size ?_
  · intro v' w' h2 h3 _
    refine h v' w' (by rw [show docVs (xs ++ ys) = docVs xs ++ docVs ys by simp [docVs]]; exact h2) (grown_below hq hown h3 (Nat.le_refl _) hq.size) (fun g o hg hne => (h3.block g (Array.getElem?_eq_some_iff.1 hg).1 (Ne.symm hne)).trans hg)
theorem gen_world {wo V : World} {P : World → Prop} (hq : Q wo V) (h : ∀ W, Q wo W → P W) : P V := h V hq
theorem sl_take {w : World} {a : Option Addr} {n c sz : Nat} {xs : List Value} (h : Sl w (.slice a n c) n sz xs) (k : Nat) (hk : k ≤ n) : Sl w (.slice a k c) k sz (xs.take (k * sz)) := by
  obtain ⟨hl, a', c', hv, hc⟩ := h
  cases hv
  refine ⟨by rw [List.length_take, hl, Nat.min_eq_left (Nat.mul_le_mul_right _ hk)], _, _, rfl, fun hp => ?_⟩
  obtain ⟨b, off, rfl, hcc⟩ := hc (by omega)
  refine ⟨b, off, rfl, fun j u hj => hcc j u ?_⟩
  rw [List.getElem?_take] at hj
  split at hj
  · exact hj
  · cases hj
theorem sl_drop {w : World} {g o n c sz : Nat} {xs : List Value} (h : Sl w (.slice (some ⟨g, o, none⟩) n c) n sz xs) (k : Nat) (hk : k ≤ n) (o' c' : Nat) (ho : o' = o + k * sz) : Sl w (.slice (some ⟨g, o', none⟩) (n - k) c') (n - k) sz (xs.drop (k * sz)) := by
  obtain ⟨hl, a', c2, hv, hc⟩ := h
  cases hv
  subst ho
  refine ⟨by rw [List.length_drop, hl, Nat.sub_mul], _, _, rfl, fun hp => ?_⟩
  obtain ⟨b, off, hb, hcc⟩ := hc (by omega)
  cases hb
  refine ⟨g, o + k * sz, rfl, fun j u hj => ?_⟩
  rw [List.getElem?_drop] at hj
  have := hcc _ u hj
  rw [← Nat.add_assoc] at this
  exact this
theorem sl_none (w : World) (A : Option Addr) (c sz : Nat) : Sl w (.slice A 0 c) 0 sz [] := ⟨by simp, _, _, rfl, fun h => by omega⟩
theorem docVs_takeD (l : List DocL) (k : Nat) : (docVs l).take (k * 2) = docVs (l.take k) := pairVs_take l k
theorem docVs_dropD (l : List DocL) (k : Nat) : (docVs l).drop (k * 2) = docVs (l.drop k) := pairVs_drop l k
set_option maxRecDepth 100000 in
set_option maxHeartbeats 8000000 in
theorem RWith_any (v : Value) (l : List DocL) (d : DocL) (w : World) (base : Nat) (hv : w.ownsRow base 49 2 v l.length (docVs l)) (hn : l.length ≤ 1000000) :
    Calls Tryz.prog 22 #[v, .agg #[strV d.1, strV d.2]] w fun e w' => ∃ v', e = .returned v' ∧ w'.ownsRow w.heap.size 49 2 v' (withR d l).length (docVs (withR d l)) ∧ Q w w' := by
  have hsl : Docs w v l := Sl.of_owns hv
  obtain ⟨a, cap, rfl, hcell⟩ := hsl.value
  obtain ⟨hcap1, hcap2⟩ := owns_cap2 hv
  have hform : (a = none ∧ cap = 0 ∧ l.length = 0) ∨ ∃ g, a = some ⟨g, 0, none⟩ := by
    rcases hv.2 with ⟨hv, hn⟩ | ⟨g, cap, cur, hv, _⟩
    · injection hv with e1 e2 e3; exact .inl ⟨e1, e3, e2⟩
    · injection hv with e1 e2 e3; exact .inr ⟨g, e1⟩
  have hmx : Tryz.prog.follows .mixedOrders = true := by kernel_rfl
  obtain ⟨id, tx⟩ := d
  have hx := heap_alloc_new w (.cells #[strV id, strV tx] 49)
  obtain ⟨x0, x1⟩ := cells2 hx
  have hq0 := Q.alloc w (.cells #[strV id, strV tx] 49)
  have hcut := withR_cut (id, tx) l
  have hlenW : w.heap.size ≤ (w.alloc (.cells #[strV id, strV tx] 49)).heap.size := by simp
  have HC := Lib.hid hcell; have HSL := Lib.hid hsl; have HX0 := Lib.hid x0; have HX1 := Lib.hid x1; have HQ0 := Lib.hid hq0; have HCUT := Lib.hid hcut
  clear hcell hsl hv x0 x1 hx hq0 hcut
  rcases hform with ⟨h1, h2, h3⟩ | ⟨g, h1⟩
  · have hl0 : l = [] := List.eq_nil_of_length_eq_zero h3
    subst hl0
    subst h1
    subst h2
    have hwd : withR (id, tx) [] = [(id, tx)] := rfl
    rw [hwd]
    go_enter Tryz.func22, Tryz.ntmps22
    go_wp2_with fail
    generalize w.alloc (.cells #[strV id, strV tx] 49) = wb at *
    generalize hBd : w.heap.size = B at *
    go_loopw [5] (fun i wr => i = .int .i64 0 ∧ Hid (Q wb wr)) (fun i _ => 0)
    case atStart => exact ⟨rfl, Q.refl _⟩
    case round =>
      obtain ⟨rfl, HQ⟩ := hrel
      obtain ⟨wo, rfl⟩ : ∃ wo : World, wo = wr := ⟨_, rfl⟩
      have e0 := cell_stays HQ.out HX0.out
      have e1 := cell_stays HQ.out HX1.out
      go_wp2_with fail
      go_quiet (fail)
      go_wp2_with fail
      go_quiet (fail)
      go_wp2_with fail
      refine gen_world (wo := wo) (by first | exact Q.drewN _ _ | exact Q.trans (Q.drewN _ _) (Q.drewN _ _)) (fun W hqW => ?_)
      have y0 := cell_stays hqW e0
      have y1 := cell_stays hqW e1
      have sl1 : ∀ V, Sl V (.slice none 0 0) 0 2 (docVs []) := fun V => sl_none V _ _ _
      have SL1 := Lib.hid sl1; have HQW := Lib.hid ((HQ0.out.trans HQ.out).trans hqW)
      have hszW : w.heap.size ≤ W.heap.size := HQW.out.size
      clear sl1 hqW e0 e1
      have xe0 := cell_stays (Q.alloc W (.cells #[] 49)) y0
      have xe1 := cell_stays (Q.alloc W (.cells #[] 49)) y1
      go_region_law
        (first
          | (refine dcs_app W (by rfl) _ _ (by rfl) (.slice (some ⟨W.heap.size, 0, none⟩) 0 0) 0 [] (by rfl) (by first | exact own_lit0D W _ (Nat.le_refl _) | exact rowDr (own_lit0D W _ (Nat.le_refl _)) | exact rowAl _ (own_lit0D W _ (Nat.le_refl _)) | exact rowDr (rowAl _ (own_lit0D W _ (Nat.le_refl _)))) (by repeat (first | with_reducible exact Q.refl _ | with_reducible refine Q.trans ?_ (Q.drew _) | with_reducible refine Q.trans ?_ (Q.alloc _ _))) _ 0 [] (by rfl) (SL1.out _) (by omega) ?_; intro va wa ha qa ka; have xa0 := cell_stays qa y0; have xa1 := cell_stays qa y1; have HA := Lib.hid ha; have QA := Lib.hid qa; have KA := Lib.hid ka; clear ha qa ka)
          | (refine dcs_app W (by rfl) _ _ (by rfl) (.slice (some ⟨W.heap.size + 1, 0, none⟩) 0 0) 0 [] (by rfl) (by first | exact own_lit1D W _ _ (Nat.le_refl _) | exact rowDr (own_lit1D W _ _ (Nat.le_refl _))) (by repeat (first | with_reducible exact Q.refl _ | with_reducible refine Q.trans ?_ (Q.drew _) | with_reducible refine Q.trans ?_ (Q.alloc _ _))) _ 0 [] (by rfl) (SL1.out _) (by omega) ?_; intro va wa ha qa ka; have xa0 := cell_stays qa y0; have xa1 := cell_stays qa y1; have HA := Lib.hid ha; have QA := Lib.hid qa; have KA := Lib.hid ka; clear ha qa ka)
          | (refine dcs_app W (by rfl) _ _ (by rfl) va (0 + 0) (([] : List DocL) ++ []) (by rfl) (by first | exact HA.out | exact rowDr HA.out | exact rowAl _ HA.out | exact rowDr (rowAl _ HA.out)) (by first | exact QA.out | exact QA.out.trans (Q.drew _) | exact QA.out.trans (Q.alloc _ _) | exact (QA.out.trans (Q.alloc _ _)).trans (Q.drew _)) (.slice (some ⟨wa.heap.size, 0, none⟩) 1 1) 1 [(id, tx)] (by rfl) (by exact sl_blkD (World.alloc_heap_new _ _)) (by omega) ?_; intro vb wb2 hb2 qb kb; have HB2 := Lib.hid hb2; have QB := Lib.hid qb; clear hb2 qb kb)
          | (refine dcs_app W (by rfl) _ _ (by rfl) va (0 + 0) (([] : List DocL) ++ []) (by rfl) (by first | exact HA.out | exact rowDr HA.out | exact rowAl _ HA.out | exact rowDr (rowAl _ HA.out)) (by first | exact QA.out | exact QA.out.trans (Q.drew _) | exact QA.out.trans (Q.alloc _ _) | exact (QA.out.trans (Q.alloc _ _)).trans (Q.drew _)) (.slice (some ⟨W.heap.size + 1, 0, none⟩) 1 1) 1 [(id, tx)] (by rfl) (by exact sl_blkD (KA.out _ _ (lit_two W (.cells #[] 49) (.cells #[strV (id, tx).1, strV (id, tx).2] 49)) (by simp [Value.ownBlock]))) (by omega) ?_; intro vb wb2 hb2 qb kb; have HB2 := Lib.hid hb2; have QB := Lib.hid qb; clear hb2 qb kb)
          | (refine dcs_app W (by rfl) _ _ (by rfl) va (0 + 0) (([] : List DocL) ++ []) (by rfl) (by first | exact HA.out | exact rowDr HA.out | exact rowAl _ HA.out | exact rowDr (rowAl _ HA.out)) (by first | exact QA.out | exact QA.out.trans (Q.drew _) | exact QA.out.trans (Q.alloc _ _) | exact (QA.out.trans (Q.alloc _ _)).trans (Q.drew _)) (.slice (some ⟨W.heap.size, 0, none⟩) 1 1) 1 [(id, tx)] (by rfl) (by exact sl_blkD (KA.out _ _ (lit_one W (.cells #[] 49) (.cells #[strV (id, tx).1, strV (id, tx).2] 49)) (by simp [Value.ownBlock]))) (by omega) ?_; intro vb wb2 hb2 qb kb; have HB2 := Lib.hid hb2; have QB := Lib.hid qb; clear hb2 qb kb)
          | (refine dcs_app W (by rfl) _ _ (by rfl) vb (0 + 0 + 1) (([] : List DocL) ++ [] ++ [(id, tx)]) (by rfl) (by first | exact HB2.out | exact rowDr HB2.out) (by first | exact QB.out | exact QB.out.trans (Q.drew _)) _ 0 [] (by rfl) (SL1.out _) (by omega) ?_; intro vc wc hc2 qc kc; have HCC := Lib.hid hc2; have QC := Lib.hid qc; clear hc2 qc kc))
      all_goals
        go_wp2_with fail
        go_ret
        exact ⟨_, rfl, owns_low HCC.out (by omega), HQW.out.trans QC.out⟩
  · subst h1
    go_enter Tryz.func22, Tryz.ntmps22
    go_wp2_with fail
    generalize w.alloc (.cells #[strV id, strV tx] 49) = wb at *
    generalize hBd : w.heap.size = B at *
    go_loopw [5] (fun i wr => ∃ k : Nat, k ≤ l.length ∧ i = .int .i64 (k : Nat) ∧ Hid (∀ x ∈ l.take k, lessL x.1 id = true) ∧ Hid (Q wb wr)) (fun i _ => l.length - (intOf i).toNat)
    case atStart => exact ⟨0, by omega, rfl, fun x hx => by simp at hx, Q.refl _⟩
    case round =>
      obtain ⟨k, hk, rfl, HLE, HQ⟩ := hrel
      obtain ⟨wo, rfl⟩ : ∃ wo : World, wo = wr := ⟨_, rfl⟩
      have e0 := cell_stays HQ.out HX0.out
      have e1 := cell_stays HQ.out HX1.out
      have hk0 : (0 : Int) ≤ (k : Int) := by omega
      by_cases hgo : ∃ x, l[k]? = some x ∧ lessL x.1 id = true
      · obtain ⟨x, hx, hless⟩ := hgo
        obtain ⟨hlt, hxe⟩ := List.getElem?_eq_some_iff.1 hx
        obtain ⟨bb, oo, hbo, hcc⟩ := HC.out (by omega)
        cases hbo
        have c0 := cell_stays (HQ0.out.trans HQ.out) (hcc k hlt).1
        rw [hxe] at c0
        simp only [Nat.zero_add] at c0
        have hki : (k : Int) < (l.length : Int) := by omega
        have hd1 : decide (k < l.length) = true := decide_eq_true hlt
        have hb : Op.bytesLess x.1 id = true := by rw [lessL_eq]; exact hless
        have hle2 : ∀ y ∈ l.take (k + 1), lessL y.1 id = true := fun y hy => by
          rw [List.take_succ_eq_append_getElem hlt, hxe] at hy
          rcases List.mem_append.1 hy with hy | hy
          · exact HLE.out y hy
          · rw [List.mem_singleton] at hy; subst hy; exact hless
        have HLE2 := Lib.hid hle2
        clear hless hle2 hx hxe hcc
        obtain ⟨xid, xtx⟩ := x
        simp only at c0 hb
        go_wp2_with fail
        go_quiet (fail)
        go_wp2_with fail
        go_roundw
        case rel => exact ⟨k + 1, by omega, by go_num, HLE2, HQ.out.trans (Q.drewN _ _)⟩
        case measure => simp [intOf]; omega
      · have hcutk := HCUT.out k hk HLE.out (fun x hx => by
          cases hl : lessL x.1 id with
          | false => rfl
          | true => exact absurd ⟨x, hx, hl⟩ hgo)
        have hki3 : (k : Int) ≤ (l.length : Int) := by omega
        have hki4 : (k : Int) ≤ (cap : Int) := by omega
        have hlc : (l.length : Int) ≤ (cap : Int) := by omega
        by_cases hlt : k < l.length
        · obtain ⟨bb, oo, hbo, hcc⟩ := HC.out (by omega)
          cases hbo
          have c0 := cell_stays (HQ0.out.trans HQ.out) (hcc k hlt).1
          simp only [Nat.zero_add] at c0
          have hget : l[k]? = some l[k] := List.getElem?_eq_getElem hlt
          have hless : lessL l[k].1 id = false := by
            cases hl : lessL l[k].1 id with
            | false => rfl
            | true => exact absurd ⟨l[k], hget, hl⟩ hgo
          have hki : (k : Int) < (l.length : Int) := by omega
          have hd1 : decide (k < l.length) = true := decide_eq_true hlt
          have hb : Op.bytesLess l[k].1 id = false := by rw [lessL_eq]; exact hless
          have hpos : (0 : Int) < ((l.length - k : Nat) : Int) := by omega
          have hiff : (∃ x, l[k]? = some x ∧ x.1 = id) ↔ l[k].1 = id := by
            rw [hget]
            exact ⟨fun ⟨x, hx, he⟩ => by cases hx; exact he, fun he => ⟨_, rfl, he⟩⟩
          have hck : ¬ cap = k := by omega
          clear hcc hgo hless
          generalize l[k] = x at *
          obtain ⟨xid, xtx⟩ := x
          simp only at c0 hb hiff
          by_cases he : xid = id
          · rw [if_pos (hiff.2 he)] at hcutk
            have HCK := Lib.hid hcutk
            subst he
            clear hcutk hiff hget
            have hp1 : 0 < l.length - k := by omega
            have hp2 : (1 : Int) ≤ ((l.length - k : Nat) : Int) := by omega
            have hp3 : ((l.length - k : Nat) : Int) ≤ ((cap - k : Nat) : Int) := by omega
            have hp4 : 1 ≤ l.length - k := by omega
            have hp5 : 1 ≤ cap - k := by omega
            by_cases hc1 : cap - k = 1
            · skip
              go_wp2_with fail
              go_quiet (fail)
              go_wp2_with fail
              go_quiet (fail)
              go_wp2_with fail
              refine gen_world (wo := wo) (by first | exact Q.drewN _ _ | exact Q.trans (Q.drewN _ _) (Q.drewN _ _)) (fun W hqW => ?_)
              have y0 := cell_stays hqW e0
              have y1 := cell_stays hqW e1
              have hslw : ∀ V, Q W V → Docs V (.slice (some ⟨g, 0, none⟩) l.length cap) l := fun V q => Sl.stays HSL.out (((HQ0.out.trans HQ.out).trans hqW).trans q)
              have sl1 : ∀ V, Q W V → Sl V (.slice (some ⟨g, 0, none⟩) k cap) k 2 (docVs (l.take k)) := fun V q => by
                have := sl_take (hslw V q) k hk
                rw [docVs_takeD] at this; exact this
              have sl2 : ∀ V (c : Nat), Q W V → Sl V (.slice (some ⟨g, k * 2, none⟩) (l.length - k - 1) c) (l.length - k - 1) 2 (docVs (l.drop (k + 1))) := fun V c q => by
                have e1 : l.length - k - 1 = 0 := by omega
                have e2 : l.drop (k + 1) = [] := List.drop_eq_nil_of_le (by omega)
                rw [e1, e2]; exact sl_none V _ _ _
              have hrow : ∀ (v : Value) (V : World), V.ownsRow W.heap.size 49 2 v (0 + k + 1 + (l.length - k - 1)) (docVs ([] ++ l.take k ++ [(xid, tx)] ++ l.drop (k + 1))) → V.ownsRow w.heap.size 49 2 v (withR (xid, tx) l).length (docVs (withR (xid, tx) l)) := fun v V h => by
                have e : [] ++ l.take k ++ [(xid, tx)] ++ l.drop (k + 1) = withR (xid, tx) l := by rw [HCK.out]; simp
                rw [e] at h
                have e2 : 0 + k + 1 + (l.length - k - 1) = (withR (xid, tx) l).length := by rw [HCK.out]; simp; omega
                rw [e2] at h
                exact owns_low h (((HQ0.out.trans HQ.out).trans hqW).size)
              have SL1 := Lib.hid sl1; have SL2 := Lib.hid sl2; have HROW := Lib.hid hrow; have HQW := Lib.hid ((HQ0.out.trans HQ.out).trans hqW)
              clear sl1 sl2 hrow hqW hslw e0 e1
              try clear c0
              try clear hb
              try clear heb1 heb2 heb3
              have xe0 := cell_stays (Q.alloc W (.cells #[] 49)) y0
              have xe1 := cell_stays (Q.alloc W (.cells #[] 49)) y1
              go_region_law
                (first
                  | (refine dcs_app W (by rfl) _ _ (by rfl) (.slice (some ⟨W.heap.size, 0, none⟩) 0 0) 0 [] (by rfl) (by first | exact own_lit0D W _ (Nat.le_refl _) | exact rowDr (own_lit0D W _ (Nat.le_refl _)) | exact rowAl _ (own_lit0D W _ (Nat.le_refl _)) | exact rowDr (rowAl _ (own_lit0D W _ (Nat.le_refl _)))) (by repeat (first | with_reducible exact Q.refl _ | with_reducible refine Q.trans ?_ (Q.drew _) | with_reducible refine Q.trans ?_ (Q.alloc _ _))) _ k (l.take k) (by rfl) (SL1.out _ (by repeat (first | with_reducible exact Q.refl _ | with_reducible refine Q.trans ?_ (Q.drew _) | with_reducible refine Q.trans ?_ (Q.alloc _ _)))) (by omega) ?_; intro va wa ha qa ka; have xa0 := cell_stays qa y0; have xa1 := cell_stays qa y1; have HA := Lib.hid ha; have QA := Lib.hid qa; have KA := Lib.hid ka; clear ha qa ka)
                  | (refine dcs_app W (by rfl) _ _ (by rfl) (.slice (some ⟨W.heap.size + 1, 0, none⟩) 0 0) 0 [] (by rfl) (by first | exact own_lit1D W _ _ (Nat.le_refl _) | exact rowDr (own_lit1D W _ _ (Nat.le_refl _))) (by repeat (first | with_reducible exact Q.refl _ | with_reducible refine Q.trans ?_ (Q.drew _) | with_reducible refine Q.trans ?_ (Q.alloc _ _))) _ k (l.take k) (by rfl) (SL1.out _ (by repeat (first | with_reducible exact Q.refl _ | with_reducible refine Q.trans ?_ (Q.drew _) | with_reducible refine Q.trans ?_ (Q.alloc _ _)))) (by omega) ?_; intro va wa ha qa ka; have xa0 := cell_stays qa y0; have xa1 := cell_stays qa y1; have HA := Lib.hid ha; have QA := Lib.hid qa; have KA := Lib.hid ka; clear ha qa ka)
                  | (refine dcs_app W (by rfl) _ _ (by rfl) va (0 + k) ([] ++ l.take k) (by rfl) (by first | exact HA.out | exact rowDr HA.out | exact rowAl _ HA.out | exact rowDr (rowAl _ HA.out)) (by first | exact QA.out | exact QA.out.trans (Q.drew _) | exact QA.out.trans (Q.alloc _ _) | exact (QA.out.trans (Q.alloc _ _)).trans (Q.drew _)) (.slice (some ⟨wa.heap.size, 0, none⟩) 1 1) 1 [(xid, tx)] (by rfl) (by exact sl_blkD (World.alloc_heap_new _ _)) (by omega) ?_; intro vb wb2 hb2 qb kb; have HB2 := Lib.hid hb2; have QB := Lib.hid qb; clear hb2 qb kb)
                  | (refine dcs_app W (by rfl) _ _ (by rfl) va (0 + k) ([] ++ l.take k) (by rfl) (by first | exact HA.out | exact rowDr HA.out | exact rowAl _ HA.out | exact rowDr (rowAl _ HA.out)) (by first | exact QA.out | exact QA.out.trans (Q.drew _) | exact QA.out.trans (Q.alloc _ _) | exact (QA.out.trans (Q.alloc _ _)).trans (Q.drew _)) (.slice (some ⟨W.heap.size + 1, 0, none⟩) 1 1) 1 [(xid, tx)] (by rfl) (by exact sl_blkD (KA.out _ _ (lit_two W (.cells #[] 49) (.cells #[strV (xid, tx).1, strV (xid, tx).2] 49)) (by simp [Value.ownBlock]))) (by omega) ?_; intro vb wb2 hb2 qb kb; have HB2 := Lib.hid hb2; have QB := Lib.hid qb; clear hb2 qb kb)
                  | (refine dcs_app W (by rfl) _ _ (by rfl) va (0 + k) ([] ++ l.take k) (by rfl) (by first | exact HA.out | exact rowDr HA.out | exact rowAl _ HA.out | exact rowDr (rowAl _ HA.out)) (by first | exact QA.out | exact QA.out.trans (Q.drew _) | exact QA.out.trans (Q.alloc _ _) | exact (QA.out.trans (Q.alloc _ _)).trans (Q.drew _)) (.slice (some ⟨W.heap.size, 0, none⟩) 1 1) 1 [(xid, tx)] (by rfl) (by exact sl_blkD (KA.out _ _ (lit_one W (.cells #[] 49) (.cells #[strV (xid, tx).1, strV (xid, tx).2] 49)) (by simp [Value.ownBlock]))) (by omega) ?_; intro vb wb2 hb2 qb kb; have HB2 := Lib.hid hb2; have QB := Lib.hid qb; clear hb2 qb kb)
                  | (refine dcs_app W (by rfl) _ _ (by rfl) vb (0 + k + 1) ([] ++ l.take k ++ [(xid, tx)]) (by rfl) (by first | exact HB2.out | exact rowDr HB2.out) (by first | exact QB.out | exact QB.out.trans (Q.drew _)) _ (l.length - k - 1) (l.drop (k + 1)) (by rfl) (SL2.out _ _ (by first | exact QB.out | exact QB.out.trans (Q.drew _))) (by omega) ?_; intro vc wc hc2 qc kc; have HCC := Lib.hid hc2; have QC := Lib.hid qc; clear hc2 qc kc))
              all_goals
                go_wp2_with fail
                go_ret
                exact ⟨_, rfl, HROW.out _ _ HCC.out, HQW.out.trans QC.out⟩
            · skip
              go_wp2_with fail
              go_quiet (fail)
              go_wp2_with fail
              go_quiet (fail)
              go_wp2_with fail
              refine gen_world (wo := wo) (by first | exact Q.drewN _ _ | exact Q.trans (Q.drewN _ _) (Q.drewN _ _)) (fun W hqW => ?_)
              have y0 := cell_stays hqW e0
              have y1 := cell_stays hqW e1
              have hslw : ∀ V, Q W V → Docs V (.slice (some ⟨g, 0, none⟩) l.length cap) l := fun V q => Sl.stays HSL.out (((HQ0.out.trans HQ.out).trans hqW).trans q)
              have sl1 : ∀ V, Q W V → Sl V (.slice (some ⟨g, 0, none⟩) k cap) k 2 (docVs (l.take k)) := fun V q => by
                have := sl_take (hslw V q) k hk
                rw [docVs_takeD] at this; exact this
              have sl2 : ∀ V (c : Nat), Q W V → Sl V (.slice (some ⟨g, k * 2 + 2, none⟩) (l.length - k - 1) c) (l.length - k - 1) 2 (docVs (l.drop (k + 1))) := fun V c q => by
                have := sl_drop (hslw V q) (k + 1) (by omega) (k * 2 + 2) c (by omega)
                rw [docVs_dropD, show l.length - (k + 1) = l.length - k - 1 by omega] at this; exact this
              have hrow : ∀ (v : Value) (V : World), V.ownsRow W.heap.size 49 2 v (0 + k + 1 + (l.length - k - 1)) (docVs ([] ++ l.take k ++ [(xid, tx)] ++ l.drop (k + 1))) → V.ownsRow w.heap.size 49 2 v (withR (xid, tx) l).length (docVs (withR (xid, tx) l)) := fun v V h => by
                have e : [] ++ l.take k ++ [(xid, tx)] ++ l.drop (k + 1) = withR (xid, tx) l := by rw [HCK.out]; simp
                rw [e] at h
                have e2 : 0 + k + 1 + (l.length - k - 1) = (withR (xid, tx) l).length := by rw [HCK.out]; simp; omega
                rw [e2] at h
                exact owns_low h (((HQ0.out.trans HQ.out).trans hqW).size)
              have SL1 := Lib.hid sl1; have SL2 := Lib.hid sl2; have HROW := Lib.hid hrow; have HQW := Lib.hid ((HQ0.out.trans HQ.out).trans hqW)
              clear sl1 sl2 hrow hqW hslw e0 e1
              try clear c0
              try clear hb
              try clear heb1 heb2 heb3
              have xe0 := cell_stays (Q.alloc W (.cells #[] 49)) y0
              have xe1 := cell_stays (Q.alloc W (.cells #[] 49)) y1
              go_region_law
                (first
                  | (refine dcs_app W (by rfl) _ _ (by rfl) (.slice (some ⟨W.heap.size, 0, none⟩) 0 0) 0 [] (by rfl) (by first | exact own_lit0D W _ (Nat.le_refl _) | exact rowDr (own_lit0D W _ (Nat.le_refl _)) | exact rowAl _ (own_lit0D W _ (Nat.le_refl _)) | exact rowDr (rowAl _ (own_lit0D W _ (Nat.le_refl _)))) (by repeat (first | with_reducible exact Q.refl _ | with_reducible refine Q.trans ?_ (Q.drew _) | with_reducible refine Q.trans ?_ (Q.alloc _ _))) _ k (l.take k) (by rfl) (SL1.out _ (by repeat (first | with_reducible exact Q.refl _ | with_reducible refine Q.trans ?_ (Q.drew _) | with_reducible refine Q.trans ?_ (Q.alloc _ _)))) (by omega) ?_; intro va wa ha qa ka; have xa0 := cell_stays qa y0; have xa1 := cell_stays qa y1; have HA := Lib.hid ha; have QA := Lib.hid qa; have KA := Lib.hid ka; clear ha qa ka)
                  | (refine dcs_app W (by rfl) _ _ (by rfl) (.slice (some ⟨W.heap.size + 1, 0, none⟩) 0 0) 0 [] (by rfl) (by first | exact own_lit1D W _ _ (Nat.le_refl _) | exact rowDr (own_lit1D W _ _ (Nat.le_refl _))) (by repeat (first | with_reducible exact Q.refl _ | with_reducible refine Q.trans ?_ (Q.drew _) | with_reducible refine Q.trans ?_ (Q.alloc _ _))) _ k (l.take k) (by rfl) (SL1.out _ (by repeat (first | with_reducible exact Q.refl _ | with_reducible refine Q.trans ?_ (Q.drew _) | with_reducible refine Q.trans ?_ (Q.alloc _ _)))) (by omega) ?_; intro va wa ha qa ka; have xa0 := cell_stays qa y0; have xa1 := cell_stays qa y1; have HA := Lib.hid ha; have QA := Lib.hid qa; have KA := Lib.hid ka; clear ha qa ka)
                  | (refine dcs_app W (by rfl) _ _ (by rfl) va (0 + k) ([] ++ l.take k) (by rfl) (by first | exact HA.out | exact rowDr HA.out | exact rowAl _ HA.out | exact rowDr (rowAl _ HA.out)) (by first | exact QA.out | exact QA.out.trans (Q.drew _) | exact QA.out.trans (Q.alloc _ _) | exact (QA.out.trans (Q.alloc _ _)).trans (Q.drew _)) (.slice (some ⟨wa.heap.size, 0, none⟩) 1 1) 1 [(xid, tx)] (by rfl) (by exact sl_blkD (World.alloc_heap_new _ _)) (by omega) ?_; intro vb wb2 hb2 qb kb; have HB2 := Lib.hid hb2; have QB := Lib.hid qb; clear hb2 qb kb)
                  | (refine dcs_app W (by rfl) _ _ (by rfl) va (0 + k) ([] ++ l.take k) (by rfl) (by first | exact HA.out | exact rowDr HA.out | exact rowAl _ HA.out | exact rowDr (rowAl _ HA.out)) (by first | exact QA.out | exact QA.out.trans (Q.drew _) | exact QA.out.trans (Q.alloc _ _) | exact (QA.out.trans (Q.alloc _ _)).trans (Q.drew _)) (.slice (some ⟨W.heap.size + 1, 0, none⟩) 1 1) 1 [(xid, tx)] (by rfl) (by exact sl_blkD (KA.out _ _ (lit_two W (.cells #[] 49) (.cells #[strV (xid, tx).1, strV (xid, tx).2] 49)) (by simp [Value.ownBlock]))) (by omega) ?_; intro vb wb2 hb2 qb kb; have HB2 := Lib.hid hb2; have QB := Lib.hid qb; clear hb2 qb kb)
                  | (refine dcs_app W (by rfl) _ _ (by rfl) va (0 + k) ([] ++ l.take k) (by rfl) (by first | exact HA.out | exact rowDr HA.out | exact rowAl _ HA.out | exact rowDr (rowAl _ HA.out)) (by first | exact QA.out | exact QA.out.trans (Q.drew _) | exact QA.out.trans (Q.alloc _ _) | exact (QA.out.trans (Q.alloc _ _)).trans (Q.drew _)) (.slice (some ⟨W.heap.size, 0, none⟩) 1 1) 1 [(xid, tx)] (by rfl) (by exact sl_blkD (KA.out _ _ (lit_one W (.cells #[] 49) (.cells #[strV (xid, tx).1, strV (xid, tx).2] 49)) (by simp [Value.ownBlock]))) (by omega) ?_; intro vb wb2 hb2 qb kb; have HB2 := Lib.hid hb2; have QB := Lib.hid qb; clear hb2 qb kb)
                  | (refine dcs_app W (by rfl) _ _ (by rfl) vb (0 + k + 1) ([] ++ l.take k ++ [(xid, tx)]) (by rfl) (by first | exact HB2.out | exact rowDr HB2.out) (by first | exact QB.out | exact QB.out.trans (Q.drew _)) _ (l.length - k - 1) (l.drop (k + 1)) (by rfl) (SL2.out _ _ (by first | exact QB.out | exact QB.out.trans (Q.drew _))) (by omega) ?_; intro vc wc hc2 qc kc; have HCC := Lib.hid hc2; have QC := Lib.hid qc; clear hc2 qc kc))
              all_goals
                go_wp2_with fail
                go_ret
                exact ⟨_, rfl, HROW.out _ _ HCC.out, HQW.out.trans QC.out⟩
          · rw [if_neg (fun h => he (hiff.1 h))] at hcutk
            have heb1 : (xid == id) = false := by simpa using he
            have heb2 : @BEq.beq (List UInt8) instBEqOfDecidableEq xid id = false := by simpa using he
            have heb3 : @BEq.beq (List UInt8) List.instBEq xid id = false := by simpa using he
            have HCK := Lib.hid hcutk
            have hp1 : 0 < l.length - k := by omega
            clear hcutk hiff hget he
            go_wp2_with fail
            go_quiet (fail)
            go_wp2_with fail
            go_quiet (fail)
            go_wp2_with fail
            refine gen_world (wo := wo) (by first | exact Q.drewN _ _ | exact Q.trans (Q.drewN _ _) (Q.drewN _ _)) (fun W hqW => ?_)
            have y0 := cell_stays hqW e0
            have y1 := cell_stays hqW e1
            have hslw : ∀ V, Q W V → Docs V (.slice (some ⟨g, 0, none⟩) l.length cap) l := fun V q => Sl.stays HSL.out (((HQ0.out.trans HQ.out).trans hqW).trans q)
            have sl1 : ∀ V, Q W V → Sl V (.slice (some ⟨g, 0, none⟩) k cap) k 2 (docVs (l.take k)) := fun V q => by
              have := sl_take (hslw V q) k hk
              rw [docVs_takeD] at this; exact this
            have sl2 : ∀ V (c : Nat), Q W V → Sl V (.slice (some ⟨g, k * 2, none⟩) (l.length - k) c) (l.length - k) 2 (docVs (l.drop k)) := fun V c q => by
              have := sl_drop (hslw V q) k hk (k * 2) c (by omega)
              rw [docVs_dropD] at this; exact this
            have hrow : ∀ (v : Value) (V : World), V.ownsRow W.heap.size 49 2 v (0 + k + 1 + (l.length - k)) (docVs ([] ++ l.take k ++ [(id, tx)] ++ l.drop k)) → V.ownsRow w.heap.size 49 2 v (withR (id, tx) l).length (docVs (withR (id, tx) l)) := fun v V h => by
              have e : [] ++ l.take k ++ [(id, tx)] ++ l.drop k = withR (id, tx) l := by rw [HCK.out]; simp
              rw [e] at h
              have e2 : 0 + k + 1 + (l.length - k) = (withR (id, tx) l).length := by rw [HCK.out]; simp; omega
              rw [e2] at h
              exact owns_low h (((HQ0.out.trans HQ.out).trans hqW).size)
            have SL1 := Lib.hid sl1; have SL2 := Lib.hid sl2; have HROW := Lib.hid hrow; have HQW := Lib.hid ((HQ0.out.trans HQ.out).trans hqW)
            clear sl1 sl2 hrow hqW hslw e0 e1
            try clear c0
            try clear hb
            try clear heb1 heb2 heb3
            have xe0 := cell_stays (Q.alloc W (.cells #[] 49)) y0
            have xe1 := cell_stays (Q.alloc W (.cells #[] 49)) y1
            go_region_law
              (first
                | (refine dcs_app W (by rfl) _ _ (by rfl) (.slice (some ⟨W.heap.size, 0, none⟩) 0 0) 0 [] (by rfl) (by first | exact own_lit0D W _ (Nat.le_refl _) | exact rowDr (own_lit0D W _ (Nat.le_refl _)) | exact rowAl _ (own_lit0D W _ (Nat.le_refl _)) | exact rowDr (rowAl _ (own_lit0D W _ (Nat.le_refl _)))) (by repeat (first | with_reducible exact Q.refl _ | with_reducible refine Q.trans ?_ (Q.drew _) | with_reducible refine Q.trans ?_ (Q.alloc _ _))) _ k (l.take k) (by rfl) (SL1.out _ (by repeat (first | with_reducible exact Q.refl _ | with_reducible refine Q.trans ?_ (Q.drew _) | with_reducible refine Q.trans ?_ (Q.alloc _ _)))) (by omega) ?_; intro va wa ha qa ka; have xa0 := cell_stays qa y0; have xa1 := cell_stays qa y1; have HA := Lib.hid ha; have QA := Lib.hid qa; have KA := Lib.hid ka; clear ha qa ka)
                | (refine dcs_app W (by rfl) _ _ (by rfl) (.slice (some ⟨W.heap.size + 1, 0, none⟩) 0 0) 0 [] (by rfl) (by first | exact own_lit1D W _ _ (Nat.le_refl _) | exact rowDr (own_lit1D W _ _ (Nat.le_refl _))) (by repeat (first | with_reducible exact Q.refl _ | with_reducible refine Q.trans ?_ (Q.drew _) | with_reducible refine Q.trans ?_ (Q.alloc _ _))) _ k (l.take k) (by rfl) (SL1.out _ (by repeat (first | with_reducible exact Q.refl _ | with_reducible refine Q.trans ?_ (Q.drew _) | with_reducible refine Q.trans ?_ (Q.alloc _ _)))) (by omega) ?_; intro va wa ha qa ka; have xa0 := cell_stays qa y0; have xa1 := cell_stays qa y1; have HA := Lib.hid ha; have QA := Lib.hid qa; have KA := Lib.hid ka; clear ha qa ka)
                | (refine dcs_app W (by rfl) _ _ (by rfl) va (0 + k) ([] ++ l.take k) (by rfl) (by first | exact HA.out | exact rowDr HA.out | exact rowAl _ HA.out | exact rowDr (rowAl _ HA.out)) (by first | exact QA.out | exact QA.out.trans (Q.drew _) | exact QA.out.trans (Q.alloc _ _) | exact (QA.out.trans (Q.alloc _ _)).trans (Q.drew _)) (.slice (some ⟨wa.heap.size, 0, none⟩) 1 1) 1 [(id, tx)] (by rfl) (by exact sl_blkD (World.alloc_heap_new _ _)) (by omega) ?_; intro vb wb2 hb2 qb kb; have HB2 := Lib.hid hb2; have QB := Lib.hid qb; clear hb2 qb kb)
                | (refine dcs_app W (by rfl) _ _ (by rfl) va (0 + k) ([] ++ l.take k) (by rfl) (by first | exact HA.out | exact rowDr HA.out | exact rowAl _ HA.out | exact rowDr (rowAl _ HA.out)) (by first | exact QA.out | exact QA.out.trans (Q.drew _) | exact QA.out.trans (Q.alloc _ _) | exact (QA.out.trans (Q.alloc _ _)).trans (Q.drew _)) (.slice (some ⟨W.heap.size + 1, 0, none⟩) 1 1) 1 [(id, tx)] (by rfl) (by exact sl_blkD (KA.out _ _ (lit_two W (.cells #[] 49) (.cells #[strV (id, tx).1, strV (id, tx).2] 49)) (by simp [Value.ownBlock]))) (by omega) ?_; intro vb wb2 hb2 qb kb; have HB2 := Lib.hid hb2; have QB := Lib.hid qb; clear hb2 qb kb)
                | (refine dcs_app W (by rfl) _ _ (by rfl) va (0 + k) ([] ++ l.take k) (by rfl) (by first | exact HA.out | exact rowDr HA.out | exact rowAl _ HA.out | exact rowDr (rowAl _ HA.out)) (by first | exact QA.out | exact QA.out.trans (Q.drew _) | exact QA.out.trans (Q.alloc _ _) | exact (QA.out.trans (Q.alloc _ _)).trans (Q.drew _)) (.slice (some ⟨W.heap.size, 0, none⟩) 1 1) 1 [(id, tx)] (by rfl) (by exact sl_blkD (KA.out _ _ (lit_one W (.cells #[] 49) (.cells #[strV (id, tx).1, strV (id, tx).2] 49)) (by simp [Value.ownBlock]))) (by omega) ?_; intro vb wb2 hb2 qb kb; have HB2 := Lib.hid hb2; have QB := Lib.hid qb; clear hb2 qb kb)
                | (refine dcs_app W (by rfl) _ _ (by rfl) vb (0 + k + 1) ([] ++ l.take k ++ [(id, tx)]) (by rfl) (by first | exact HB2.out | exact rowDr HB2.out) (by first | exact QB.out | exact QB.out.trans (Q.drew _)) _ (l.length - k) (l.drop k) (by rfl) (SL2.out _ _ (by first | exact QB.out | exact QB.out.trans (Q.drew _))) (by omega) ?_; intro vc wc hc2 qc kc; have HCC := Lib.hid hc2; have QC := Lib.hid qc; clear hc2 qc kc))
            all_goals
              go_wp2_with fail
              go_ret
              exact ⟨_, rfl, HROW.out _ _ HCC.out, HQW.out.trans QC.out⟩
        · have hme : k = l.length := by omega
          have hnone : l[k]? = none := List.getElem?_eq_none (by omega)
          rw [if_neg (by rw [hnone]; rintro ⟨x, hx, _⟩; cases hx)] at hcutk
          have HCK := Lib.hid hcutk; have HME := Lib.hid hme
          have hd1 : decide (k < l.length) = false := decide_eq_false hlt
          have hki : ¬ (k : Int) < (l.length : Int) := by omega
          clear hcutk hgo hnone hme
          by_cases hcm : cap = k
          · have hcm2 := hcm.symm
            subst hcm2
            go_wp2_with fail
            go_quiet (fail)
            go_wp2_with fail
            go_quiet (fail)
            go_wp2_with fail
            refine gen_world (wo := wo) (by first | exact Q.drewN _ _ | exact Q.trans (Q.drewN _ _) (Q.drewN _ _)) (fun W hqW => ?_)
            have y0 := cell_stays hqW e0
            have y1 := cell_stays hqW e1
            have hslw : ∀ V, Q W V → Docs V (.slice (some ⟨g, 0, none⟩) l.length k) l := fun V q => Sl.stays HSL.out (((HQ0.out.trans HQ.out).trans hqW).trans q)
            have sl1 : ∀ V, Q W V → Sl V (.slice (some ⟨g, 0, none⟩) k k) k 2 (docVs (l.take k)) := fun V q => by
              have := sl_take (hslw V q) k hk
              rw [docVs_takeD] at this; exact this
            have sl2 : ∀ V (A : Option Addr) (c : Nat), Q W V → Sl V (.slice A 0 c) 0 2 (docVs (l.drop k)) := fun V A c q => by
              rw [List.drop_eq_nil_of_le (by have := HME.out; omega)]; exact sl_none V _ _ _
            have hrow : ∀ (v : Value) (V : World), V.ownsRow W.heap.size 49 2 v (0 + k + 1 + 0) (docVs ([] ++ l.take k ++ [(id, tx)] ++ l.drop k)) → V.ownsRow w.heap.size 49 2 v (withR (id, tx) l).length (docVs (withR (id, tx) l)) := fun v V h => by
              have e : [] ++ l.take k ++ [(id, tx)] ++ l.drop k = withR (id, tx) l := by rw [HCK.out]; simp
              rw [e] at h
              have e2 : 0 + k + 1 + 0 = (withR (id, tx) l).length := by rw [HCK.out]; have := HME.out; simp; omega
              rw [e2] at h
              exact owns_low h (((HQ0.out.trans HQ.out).trans hqW).size)
            have SL1 := Lib.hid sl1; have SL2 := Lib.hid sl2; have HROW := Lib.hid hrow; have HQW := Lib.hid ((HQ0.out.trans HQ.out).trans hqW)
            clear sl1 sl2 hrow hqW hslw e0 e1
            try clear c0
            try clear hb
            try clear heb1 heb2 heb3
            have xe0 := cell_stays (Q.alloc W (.cells #[] 49)) y0
            have xe1 := cell_stays (Q.alloc W (.cells #[] 49)) y1
            go_region_law
              (first
                | (refine dcs_app W (by rfl) _ _ (by rfl) (.slice (some ⟨W.heap.size, 0, none⟩) 0 0) 0 [] (by rfl) (by first | exact own_lit0D W _ (Nat.le_refl _) | exact rowDr (own_lit0D W _ (Nat.le_refl _)) | exact rowAl _ (own_lit0D W _ (Nat.le_refl _)) | exact rowDr (rowAl _ (own_lit0D W _ (Nat.le_refl _)))) (by repeat (first | with_reducible exact Q.refl _ | with_reducible refine Q.trans ?_ (Q.drew _) | with_reducible refine Q.trans ?_ (Q.alloc _ _))) _ k (l.take k) (by rfl) (SL1.out _ (by repeat (first | with_reducible exact Q.refl _ | with_reducible refine Q.trans ?_ (Q.drew _) | with_reducible refine Q.trans ?_ (Q.alloc _ _)))) (by omega) ?_; intro va wa ha qa ka; have xa0 := cell_stays qa y0; have xa1 := cell_stays qa y1; have HA := Lib.hid ha; have QA := Lib.hid qa; have KA := Lib.hid ka; clear ha qa ka)
                | (refine dcs_app W (by rfl) _ _ (by rfl) (.slice (some ⟨W.heap.size + 1, 0, none⟩) 0 0) 0 [] (by rfl) (by first | exact own_lit1D W _ _ (Nat.le_refl _) | exact rowDr (own_lit1D W _ _ (Nat.le_refl _))) (by repeat (first | with_reducible exact Q.refl _ | with_reducible refine Q.trans ?_ (Q.drew _) | with_reducible refine Q.trans ?_ (Q.alloc _ _))) _ k (l.take k) (by rfl) (SL1.out _ (by repeat (first | with_reducible exact Q.refl _ | with_reducible refine Q.trans ?_ (Q.drew _) | with_reducible refine Q.trans ?_ (Q.alloc _ _)))) (by omega) ?_; intro va wa ha qa ka; have xa0 := cell_stays qa y0; have xa1 := cell_stays qa y1; have HA := Lib.hid ha; have QA := Lib.hid qa; have KA := Lib.hid ka; clear ha qa ka)
                | (refine dcs_app W (by rfl) _ _ (by rfl) va (0 + k) ([] ++ l.take k) (by rfl) (by first | exact HA.out | exact rowDr HA.out | exact rowAl _ HA.out | exact rowDr (rowAl _ HA.out)) (by first | exact QA.out | exact QA.out.trans (Q.drew _) | exact QA.out.trans (Q.alloc _ _) | exact (QA.out.trans (Q.alloc _ _)).trans (Q.drew _)) (.slice (some ⟨wa.heap.size, 0, none⟩) 1 1) 1 [(id, tx)] (by rfl) (by exact sl_blkD (World.alloc_heap_new _ _)) (by omega) ?_; intro vb wb2 hb2 qb kb; have HB2 := Lib.hid hb2; have QB := Lib.hid qb; clear hb2 qb kb)
                | (refine dcs_app W (by rfl) _ _ (by rfl) va (0 + k) ([] ++ l.take k) (by rfl) (by first | exact HA.out | exact rowDr HA.out | exact rowAl _ HA.out | exact rowDr (rowAl _ HA.out)) (by first | exact QA.out | exact QA.out.trans (Q.drew _) | exact QA.out.trans (Q.alloc _ _) | exact (QA.out.trans (Q.alloc _ _)).trans (Q.drew _)) (.slice (some ⟨W.heap.size + 1, 0, none⟩) 1 1) 1 [(id, tx)] (by rfl) (by exact sl_blkD (KA.out _ _ (lit_two W (.cells #[] 49) (.cells #[strV (id, tx).1, strV (id, tx).2] 49)) (by simp [Value.ownBlock]))) (by omega) ?_; intro vb wb2 hb2 qb kb; have HB2 := Lib.hid hb2; have QB := Lib.hid qb; clear hb2 qb kb)
                | (refine dcs_app W (by rfl) _ _ (by rfl) va (0 + k) ([] ++ l.take k) (by rfl) (by first | exact HA.out | exact rowDr HA.out | exact rowAl _ HA.out | exact rowDr (rowAl _ HA.out)) (by first | exact QA.out | exact QA.out.trans (Q.drew _) | exact QA.out.trans (Q.alloc _ _) | exact (QA.out.trans (Q.alloc _ _)).trans (Q.drew _)) (.slice (some ⟨W.heap.size, 0, none⟩) 1 1) 1 [(id, tx)] (by rfl) (by exact sl_blkD (KA.out _ _ (lit_one W (.cells #[] 49) (.cells #[strV (id, tx).1, strV (id, tx).2] 49)) (by simp [Value.ownBlock]))) (by omega) ?_; intro vb wb2 hb2 qb kb; have HB2 := Lib.hid hb2; have QB := Lib.hid qb; clear hb2 qb kb)
                | (refine dcs_app W (by rfl) _ _ (by rfl) vb (0 + k + 1) ([] ++ l.take k ++ [(id, tx)]) (by rfl) (by first | exact HB2.out | exact rowDr HB2.out) (by first | exact QB.out | exact QB.out.trans (Q.drew _)) _ 0 (l.drop k) (by rfl) (SL2.out _ _ _ (by first | exact QB.out | exact QB.out.trans (Q.drew _))) (by omega) ?_; intro vc wc hc2 qc kc; have HCC := Lib.hid hc2; have QC := Lib.hid qc; clear hc2 qc kc))
            all_goals
              go_wp2_with fail
              go_ret
              exact ⟨_, rfl, HROW.out _ _ HCC.out, HQW.out.trans QC.out⟩
          · have hck : ¬ cap = k := hcm
            have hz : l.length - k = 0 := by omega
            go_wp2_with fail
            go_quiet (fail)
            go_wp2_with fail
            go_quiet (fail)
            go_wp2_with fail
            refine gen_world (wo := wo) (by first | exact Q.drewN _ _ | exact Q.trans (Q.drewN _ _) (Q.drewN _ _)) (fun W hqW => ?_)
            have y0 := cell_stays hqW e0
            have y1 := cell_stays hqW e1
            have hslw : ∀ V, Q W V → Docs V (.slice (some ⟨g, 0, none⟩) l.length cap) l := fun V q => Sl.stays HSL.out (((HQ0.out.trans HQ.out).trans hqW).trans q)
            have sl1 : ∀ V, Q W V → Sl V (.slice (some ⟨g, 0, none⟩) k cap) k 2 (docVs (l.take k)) := fun V q => by
              have := sl_take (hslw V q) k hk
              rw [docVs_takeD] at this; exact this
            have sl2 : ∀ V (A : Option Addr) (c : Nat), Q W V → Sl V (.slice A 0 c) 0 2 (docVs (l.drop k)) := fun V A c q => by
              rw [List.drop_eq_nil_of_le (by have := HME.out; omega)]; exact sl_none V _ _ _
            have hrow : ∀ (v : Value) (V : World), V.ownsRow W.heap.size 49 2 v (0 + k + 1 + 0) (docVs ([] ++ l.take k ++ [(id, tx)] ++ l.drop k)) → V.ownsRow w.heap.size 49 2 v (withR (id, tx) l).length (docVs (withR (id, tx) l)) := fun v V h => by
              have e : [] ++ l.take k ++ [(id, tx)] ++ l.drop k = withR (id, tx) l := by rw [HCK.out]; simp
              rw [e] at h
              have e2 : 0 + k + 1 + 0 = (withR (id, tx) l).length := by rw [HCK.out]; have := HME.out; simp; omega
              rw [e2] at h
              exact owns_low h (((HQ0.out.trans HQ.out).trans hqW).size)
            have SL1 := Lib.hid sl1; have SL2 := Lib.hid sl2; have HROW := Lib.hid hrow; have HQW := Lib.hid ((HQ0.out.trans HQ.out).trans hqW)
            clear sl1 sl2 hrow hqW hslw e0 e1
            try clear c0
            try clear hb
            try clear heb1 heb2 heb3
            have xe0 := cell_stays (Q.alloc W (.cells #[] 49)) y0
            have xe1 := cell_stays (Q.alloc W (.cells #[] 49)) y1
            go_region_law
              (first
                | (refine dcs_app W (by rfl) _ _ (by rfl) (.slice (some ⟨W.heap.size, 0, none⟩) 0 0) 0 [] (by rfl) (by first | exact own_lit0D W _ (Nat.le_refl _) | exact rowDr (own_lit0D W _ (Nat.le_refl _)) | exact rowAl _ (own_lit0D W _ (Nat.le_refl _)) | exact rowDr (rowAl _ (own_lit0D W _ (Nat.le_refl _)))) (by repeat (first | with_reducible exact Q.refl _ | with_reducible refine Q.trans ?_ (Q.drew _) | with_reducible refine Q.trans ?_ (Q.alloc _ _))) _ k (l.take k) (by rfl) (SL1.out _ (by repeat (first | with_reducible exact Q.refl _ | with_reducible refine Q.trans ?_ (Q.drew _) | with_reducible refine Q.trans ?_ (Q.alloc _ _)))) (by omega) ?_; intro va wa ha qa ka; have xa0 := cell_stays qa y0; have xa1 := cell_stays qa y1; have HA := Lib.hid ha; have QA := Lib.hid qa; have KA := Lib.hid ka; clear ha qa ka)
                | (refine dcs_app W (by rfl) _ _ (by rfl) (.slice (some ⟨W.heap.size + 1, 0, none⟩) 0 0) 0 [] (by rfl) (by first | exact own_lit1D W _ _ (Nat.le_refl _) | exact rowDr (own_lit1D W _ _ (Nat.le_refl _))) (by repeat (first | with_reducible exact Q.refl _ | with_reducible refine Q.trans ?_ (Q.drew _) | with_reducible refine Q.trans ?_ (Q.alloc _ _))) _ k (l.take k) (by rfl) (SL1.out _ (by repeat (first | with_reducible exact Q.refl _ | with_reducible refine Q.trans ?_ (Q.drew _) | with_reducible refine Q.trans ?_ (Q.alloc _ _)))) (by omega) ?_; intro va wa ha qa ka; have xa0 := cell_stays qa y0; have xa1 := cell_stays qa y1; have HA := Lib.hid ha; have QA := Lib.hid qa; have KA := Lib.hid ka; clear ha qa ka)
                | (refine dcs_app W (by rfl) _ _ (by rfl) va (0 + k) ([] ++ l.take k) (by rfl) (by first | exact HA.out | exact rowDr HA.out | exact rowAl _ HA.out | exact rowDr (rowAl _ HA.out)) (by first | exact QA.out | exact QA.out.trans (Q.drew _) | exact QA.out.trans (Q.alloc _ _) | exact (QA.out.trans (Q.alloc _ _)).trans (Q.drew _)) (.slice (some ⟨wa.heap.size, 0, none⟩) 1 1) 1 [(id, tx)] (by rfl) (by exact sl_blkD (World.alloc_heap_new _ _)) (by omega) ?_; intro vb wb2 hb2 qb kb; have HB2 := Lib.hid hb2; have QB := Lib.hid qb; clear hb2 qb kb)
                | (refine dcs_app W (by rfl) _ _ (by rfl) va (0 + k) ([] ++ l.take k) (by rfl) (by first | exact HA.out | exact rowDr HA.out | exact rowAl _ HA.out | exact rowDr (rowAl _ HA.out)) (by first | exact QA.out | exact QA.out.trans (Q.drew _) | exact QA.out.trans (Q.alloc _ _) | exact (QA.out.trans (Q.alloc _ _)).trans (Q.drew _)) (.slice (some ⟨W.heap.size + 1, 0, none⟩) 1 1) 1 [(id, tx)] (by rfl) (by exact sl_blkD (KA.out _ _ (lit_two W (.cells #[] 49) (.cells #[strV (id, tx).1, strV (id, tx).2] 49)) (by simp [Value.ownBlock]))) (by omega) ?_; intro vb wb2 hb2 qb kb; have HB2 := Lib.hid hb2; have QB := Lib.hid qb; clear hb2 qb kb)
                | (refine dcs_app W (by rfl) _ _ (by rfl) va (0 + k) ([] ++ l.take k) (by rfl) (by first | exact HA.out | exact rowDr HA.out | exact rowAl _ HA.out | exact rowDr (rowAl _ HA.out)) (by first | exact QA.out | exact QA.out.trans (Q.drew _) | exact QA.out.trans (Q.alloc _ _) | exact (QA.out.trans (Q.alloc _ _)).trans (Q.drew _)) (.slice (some ⟨W.heap.size, 0, none⟩) 1 1) 1 [(id, tx)] (by rfl) (by exact sl_blkD (KA.out _ _ (lit_one W (.cells #[] 49) (.cells #[strV (id, tx).1, strV (id, tx).2] 49)) (by simp [Value.ownBlock]))) (by omega) ?_; intro vb wb2 hb2 qb kb; have HB2 := Lib.hid hb2; have QB := Lib.hid qb; clear hb2 qb kb)
                | (refine dcs_app W (by rfl) _ _ (by rfl) vb (0 + k + 1) ([] ++ l.take k ++ [(id, tx)]) (by rfl) (by first | exact HB2.out | exact rowDr HB2.out) (by first | exact QB.out | exact QB.out.trans (Q.drew _)) _ 0 (l.drop k) (by rfl) (SL2.out _ _ _ (by first | exact QB.out | exact QB.out.trans (Q.drew _))) (by omega) ?_; intro vc wc hc2 qc kc; have HCC := Lib.hid hc2; have QC := Lib.hid qc; clear hc2 qc kc))
            all_goals
              go_wp2_with fail
              go_ret
              exact ⟨_, rfl, HROW.out _ _ HCC.out, HQW.out.trans QC.out⟩
end Go.Proofs.YtoabhcfmdkhmgaaGreatDoor
end
