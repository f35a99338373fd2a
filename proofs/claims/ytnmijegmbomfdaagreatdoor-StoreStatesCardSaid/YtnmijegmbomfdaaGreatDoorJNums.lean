/- Joined texts of one proof: what is needed of Nums, Fmt7, WRef1a, AppS, Bld, ByteV, Shn7. -/
import Derived.Test.YtnmijegmbomfdaaGreatDoorJWire
import Derived.Test.YtnmijegmbomfdaaGreatDoorJSto2
import Derived.Test.YtnmijegmbomfdaaGreatDoorJWRDevD
import Derived.Test.YtnmijegmbomfdaaGreatDoorJWBlkB
import Derived.Deep.RegionLaw
import Derived.Deep.RegionHeld3
import Derived.Lib.AppendStr
import Derived.Test.YtnmijegmbomfdaaGreatDoorProg
import Derived.WalkKit
import Derived.WalkSpells
import Derived.WalkLawsBesides
import Derived.Lib.Builder
import Derived.Lib.FrozenHead
import Derived.Lib.FrozenHead2
import Derived.Outline
import Derived.KernelRfl
import Derived.Test.YtnmijegmbomfdaaGreatDoorJMem3
set_option linter.unusedSimpArgs false
set_option linter.unusedVariables false
set_option linter.unnecessarySimpa false
set_option maxRecDepth 100000
set_option maxHeartbeats 16000000
namespace Go.Proofs.YtnmijegmbomfdaaGreatDoor
section
theorem unfix_tk (t : Bytes) (m : Nat) (h : 4 ≤ m) : unfix (t.take m) = unfix t := by
  have e : ∀ k, k < 4 → byteN (t.take m) k = byteN t k := fun k hk => by
    unfold byteN
    rw [List.getD_eq_getElem?_getD, List.getD_eq_getElem?_getD, List.getElem?_take_of_lt (by omega)]
  unfold unfix
  rw [e 0 (by omega), e 1 (by omega), e 2 (by omega), e 3 (by omega)]
def numA (s : Bytes) (k : Nat) : Nat := unfix (s.drop (16 + 4 * k))
def numsK (s : Bytes) (k : Nat) : List Nat := (List.range k).map (numA s)
theorem numsK_succ (s : Bytes) (k : Nat) : numsK s (k + 1) = numsK s k ++ [numA s k] := by unfold numsK; rw [List.range_succ, List.map_append]; rfl
theorem numsK_len (s : Bytes) (k : Nat) : (numsK s k).length = k := by simp [numsK]
theorem nums_good (n : Nat) : ∀ (t : Bytes), (∀ k, k < n → unfix (t.drop (4 * k)) < 4096) → numsL n t = some ((List.range n).map (fun k => unfix (t.drop (4 * k))), t.drop (4 * n)) := by
  induction n with
  | zero => intro t h; rfl
  | succ n ih =>
    intro t h
    have h0 := h 0 (by omega)
    rw [Nat.mul_zero, List.drop_zero] at h0
    have h1 := ih (t.drop 4) (fun k hk => by have := h (k + 1) (by omega); rw [List.drop_drop]; rwa [show 4 + 4 * k = 4 * (k + 1) by omega])
    rw [numsL, if_pos h0, h1, List.range_succ_eq_map]
    simp only [Option.map_some, List.map_cons, List.map_map, Nat.mul_zero, List.drop_zero, List.drop_drop]
    congr 2
    · congr 1
      refine List.map_congr_left (fun k _ => ?_)
      simp only [Function.comp]
      rw [show 4 + 4 * k = 4 * (k + 1) by omega]
    · rw [show 4 + 4 * n = 4 * (n + 1) by omega]
theorem nums_bad (n : Nat) : ∀ (t : Bytes) (k : Nat), k < n → ¬ unfix (t.drop (4 * k)) < 4096 → numsL n t = none := by
  induction n with
  | zero => intro t k h; omega
  | succ n ih =>
    intro t k hk hb
    rw [numsL]
    by_cases h0 : unfix t < 4096
    · rw [if_pos h0]
      cases k with
      | zero => rw [Nat.mul_zero, List.drop_zero] at hb; exact absurd h0 hb
      | succ k =>
        rw [ih (t.drop 4) k (by omega) (by rw [List.drop_drop, show 4 + 4 * k = 4 * (k + 1) by omega]; exact hb)]
        rfl
    · rw [if_neg h0]
theorem numA_cut (s : Bytes) (k : Nat) (h : k < 48) : unfix (((s.drop 16).take 232).drop (4 * k)) = numA s k := by
  unfold numA
  rw [List.drop_take, List.drop_drop, unfix_tk _ _ (by omega)]
theorem toHead_good (s : Bytes) (hl : s.length = 256) (h1 : s.take 4 = magicT) (h2 : s.drop 252 = endT) (h3 : 1 ≤ unfix (s.drop 12)) (h4 : unfix (s.drop 12) ≤ 48) (h5 : ∀ k, k < unfix (s.drop 12) → numA s k < 4096) (h6 : ∀ i, 16 + 4 * unfix (s.drop 12) ≤ i → i < 248 → byteN s i = 0) :
    toHeadL s = some (unfix (s.drop 8) * 4294967296 + unfix (s.drop 4), numsK s (unfix (s.drop 12))) := by
  unfold toHeadL
  rw [if_pos ⟨hl, h1, h2⟩]
  simp only []
  rw [if_pos ⟨h3, h4⟩, nums_good _ _ (fun k hk => by rw [numA_cut s k (by omega)]; exact h5 k hk)]
  simp only []
  rw [if_pos]
  · congr 2
    unfold numsK
    refine List.map_congr_left (fun k hk => ?_)
    exact numA_cut s k (by have := List.mem_range.1 hk; omega)
  · rw [List.all_eq_true]
    intro x hx
    obtain ⟨i, hi, rfl⟩ := List.getElem_of_mem hx
    rw [List.length_drop, List.length_take, List.length_drop, hl] at hi
    have hb := h6 (16 + (4 * unfix (s.drop 12) + i)) (by omega) (by omega)
    rw [List.getElem_drop, List.getElem_take, List.getElem_drop]
    unfold byteN at hb
    rw [List.getD_eq_getElem?_getD, List.getElem?_eq_getElem (by omega)] at hb
    simp only [Option.getD_some] at hb
    rw [beq_iff_eq]
    exact UInt8.toNat_inj.1 (by simpa using hb)
theorem toHead_num (s : Bytes) (h : ¬ (1 ≤ unfix (s.drop 12) ∧ unfix (s.drop 12) ≤ 48)) : toHeadL s = none := by
  unfold toHeadL
  split
  · simp only []; rw [if_neg h]
  · rfl
theorem toHead_big (s : Bytes) (k : Nat) (hk : k < unfix (s.drop 12)) (h4 : unfix (s.drop 12) ≤ 48) (hb : ¬ numA s k < 4096) : toHeadL s = none := by
  unfold toHeadL
  split
  · simp only []
    split
    · rw [nums_bad _ _ k hk (by rw [numA_cut s k (by omega)]; exact hb)]
    · rfl
  · rfl
theorem toHead_rest (s : Bytes) (hl : s.length = 256) (h4 : unfix (s.drop 12) ≤ 48) (i : Nat) (h1 : 16 + 4 * unfix (s.drop 12) ≤ i) (h2 : i < 248) (hb : byteN s i ≠ 0) : toHeadL s = none := by
  unfold toHeadL
  split
  · simp only []
    split
    · by_cases hg : ∀ k, k < unfix (s.drop 12) → numA s k < 4096
      · rw [nums_good _ _ (fun k hk => by rw [numA_cut s k (by omega)]; exact hg k hk)]
        simp only []
        rw [if_neg]
        intro hall
        rw [List.all_eq_true] at hall
        have hm : s[i]'(by omega) ∈ (List.take 232 (List.drop 16 s)).drop (4 * unfix (List.drop 12 s)) := by
          refine List.mem_iff_getElem.2 ⟨i - 16 - 4 * unfix (s.drop 12), by rw [List.length_drop, List.length_take, List.length_drop, hl]; omega, ?_⟩
          rw [List.getElem_drop, List.getElem_take, List.getElem_drop]
          congr 1
          omega
        have := hall _ hm
        rw [beq_iff_eq] at this
        apply hb
        unfold byteN
        rw [List.getD_eq_getElem?_getD, List.getElem?_eq_getElem (by omega)]
        simp only [Option.getD_some]
        rw [this]; rfl
      · obtain ⟨k, hk⟩ := Classical.not_forall.1 hg
        obtain ⟨hk1, hk2⟩ := Classical.not_imp.1 hk
        rw [nums_bad _ _ k hk1 (by rw [numA_cut s k (by omega)]; exact hk2)]
    · rfl
  · rfl
theorem toHead_marks (s : Bytes) (h : ¬ (s.length = 256 ∧ s.take 4 = magicT ∧ s.drop 252 = endT)) : toHeadL s = none := by
  unfold toHeadL
  rw [if_neg h]
theorem format_pre (n : Nat) (h : 128 ≤ n) (hm : n ≤ 4096) : OpenPre 60 1 (formatJ (DevL.new n) 60).1 ⟨1, 1, 60, 0⟩ 0 [] (fun _ => noughtsL) := by
  have hl : (DevL.new n).l.length = n := List.length_replicate
  have hok := DevL.new_ok n (by omega) hm
  have hfree : (DevL.new n).Free := ⟨rfl, rfl⟩
  have hw : ∀ w ∈ formatW 60, w.1 < (DevL.new n).l.length ∧ w.2.length = 256 := fun w hw => by
    rw [hl]
    rcases List.mem_append.1 hw with hw | hw
    · obtain ⟨i, hi, rfl⟩ := List.mem_map.1 hw
      have := List.mem_range.1 hi
      exact ⟨by simp only; omega, noughts_len⟩
    · rw [List.mem_singleton] at hw; subst hw
      exact ⟨by simp only; omega, slotT_length _⟩
  obtain ⟨a, b, c, e⟩ : (formatJ (DevL.new n) 60).2 = 0 ∧ (formatJ (DevL.new n) 60).1.dead = false ∧ (formatJ (DevL.new n) 60).1.l = layP (DevL.new n).l ((DevL.new n).p ++ formatW 60) ∧ (formatJ (DevL.new n) 60).1.p = [] := by
    rcases DevL.lays_run (formatW 60) (DevL.new n) rfl hw with h1 | ⟨_, h2, _⟩
    · exact h1
    · exfalso
      have := (DevL.lays_free' hfree (formatW 60)).2
      rw [h2] at this; exact absurd this (by decide)
  have hfj : (formatJ (DevL.new n) 60).1.Free := DevL.lays_free' hfree _
  have hlj : (formatJ (DevL.new n) 60).1.l.length = n := by rw [c, layP_length, hl]
  have hnew : ∀ i, i < n → at' (DevL.new n).l i = noughtsL := fun i hi => by
    simp only [DevL.new, at', List.getD_eq_getElem?_getD, List.getElem?_replicate, if_pos hi, Option.getD_some]
  have hg : ∀ i, i < n → at' (formatJ (DevL.new n) 60).1.l i = if i = 0 then slotT ⟨1, 1, 60, 0⟩ else noughtsL := fun i hi => by
    rw [c, layP_at _ _ _ (by rw [hl]; exact hi), hnew i hi]
    show lastP ([] ++ formatW 60) i noughtsL = _
    rw [List.nil_append]
    unfold formatW
    rw [lastP_snoc]
    by_cases h0 : i = 0
    · rw [if_pos h0, if_pos h0.symm]
    · rw [if_neg h0, if_neg (Ne.symm h0)]
      by_cases hx : ∃ w ∈ (List.range (60 + 1)).map (fun i => (i + 1, noughtsL)), w.1 = i
      · obtain ⟨w, hw, _, e⟩ := lastP_mem _ i noughtsL hx
        obtain ⟨m, _, rfl⟩ := List.mem_map.1 hw
        exact e
      · exact lastP_none _ _ _ (fun w hw e => hx ⟨w, hw, e⟩)
  have hso : (⟨1, 1, 60, 0⟩ : SlotL).Ok := ⟨by decide, by decide, by decide, by decide⟩
  have hrec : RecS (formatJ (DevL.new n) 60).1.l ⟨1, 1, 60, 0⟩ 0 [] (fun _ => noughtsL) := by
    refine ⟨by rw [hlj]; exact hm, (DevL.lays_ok hok _).l, by decide, by rw [hlj]; show 60 + 3 ≤ n; omega, by decide, by decide, by decide, by decide, ?_, ?_, ⟨by decide, ?_⟩, fun i h1 h2 => ?_⟩
    · rw [hg 0 (by omega), if_pos rfl]
    · refine OldX.other ?_ ⟨by decide, by decide, by decide, by decide⟩ (by decide)
      rw [hg _ (by omega), if_neg (by decide)]
      exact .inl rfl
    · rw [show logAt ⟨1, 1, 60, 0⟩ 0 = 2 from rfl, hg 2 (by omega), if_neg (by decide)]
      exact noughts_end
    · rw [hlj] at h2
      show at' _ i = _
      rw [hg i h2, if_neg (by have : 2 + 60 ≤ i := h1; omega)]
  have hpre : OpenPre 60 1 (formatJ (DevL.new n) 60).1 ⟨1, 1, 60, 0⟩ 0 [] (fun _ => noughtsL) :=
    ⟨DevL.lays_ok hok _, b, hrec, rfl, by decide, by decide, fun w hw => by rw [e] at hw; simp at hw⟩
  exact hpre
theorem format_run2 (n : Nat) (h : 128 ≤ n) (hm : n ≤ 4096) :
    (formatS (DevL.new n)).2 = 0 ∧ (formatS (DevL.new n)).1.Free ∧ (formatS (DevL.new n)).1.l.length = n ∧ (formatS (DevL.new n)).1.Ok ∧ (∃ s k fr, OpenPre 60 4 (formatS (DevL.new n)).1 s k fr (updC (fun _ => noughtsL) (formatT n))) ∧ GoodC n (updC (fun _ => noughtsL) (formatT n)) ∧ mapC n (updC (fun _ => noughtsL) (formatT n)) = bits0 n ∧ (formatS (DevL.new n)).1.p.length ≤ 48 := by
  have hl : (DevL.new n).l.length = n := List.length_replicate
  obtain ⟨a, hlj, _, _, o1, o2, hol, hof⟩ := format_mid n h hm
  obtain ⟨t1, t2, t3, t4⟩ := formatT_map n h hm (fun _ => noughtsL)
  have hwo : WrOk (formatT n) := ⟨by simp [formatT], by omega, fun w hw => by have := t3 w hw; exact ⟨by omega, this.2.2⟩⟩
  obtain ⟨q1, fr, q2⟩ : ((openJ (formatJ (DevL.new n) 60).1).1.commit (formatT n)).2 = 0 ∧ ∃ fr', JInv 60 4 ((openJ (formatJ (DevL.new n) 60).1).1.commit (formatT n)).1 fr' (updC (fun _ => noughtsL) (formatT n)) := by
    rcases commit_run o2 (formatT n) hwo (fun w hw => by rw [hol]; have := t3 w hw; exact ⟨by omega, this.2.1⟩) (by decide) with x | ⟨_, x, _⟩
    · exact x
    · exfalso
      have := (JL.commit_free hof (formatT n)).2
      rw [x] at this; exact absurd this (by decide)
  have hfs : formatS (DevL.new n) = (((openJ (formatJ (DevL.new n) 60).1).1.commit (formatT n)).1.d, 0) := by
    unfold formatS
    rw [if_neg (by rw [hl]; omega), if_neg (by rw [a]; simp), if_neg (by rw [o1]; simp), hl, q1]
  rw [hfs]
  exact ⟨rfl, JL.commit_free hof _, by rw [JL.commit_len, hol], q2.ok, ⟨_, _, fr, q2.toJPre.open⟩, ⟨t2, by rw [t1]; exact bits0_good n h hm⟩, t1, q2.plen⟩
end
section
open Go.RowKit
theorem tinfoStrN : (Tryz.prog.info? 9).map (fun i => (i.zero, i.size, i.bytes)) = some (some (strV []), 1, 16) := by kernel_rfl
theorem str_app {B : Nat} {w : World} {ops : Array Oper} {o : Oper} {a : Act} {K : Act → World → Prop} {Qx : Exit → Act → World → Prop} {E : Prop} (hgd : o.guard = none) (s x : Operand)
    (ho : o.op = .call { callee := .builtin .append, args := #[s, x], argTypes := #[70, 70] })
    (v : Value) (n : Nat) (xs : List Bytes) (hs : a.eval s = v) (hown : w.ownsRow B 9 1 v n (xs.map strV)) (hB : B ≤ w.heap.size)
    (y : Bytes) (vx : Value) (hx : a.eval x = vx) (hl : Sl w vx 1 1 [strV y]) (hn : n ≤ 1000000)
    (h : ∀ v' w', w'.ownsRow B 9 1 v' (n + 1) ((xs ++ [y]).map strV) → w.grownBy w' v.ownBlock → K (a.put o.dst v') w') :
    if Region.wanted o (yielded ops a.tmps) = true then Oper.wp Tryz.prog o a w K Qx else E := by
  obtain ⟨i0, hi, hz0, hz1, hz2⟩ := info_parts tinfoStrN
  have hw : Region.wanted o (yielded ops a.tmps) = true := by simp [Region.wanted, hgd]
  rw [if_pos hw]
  refine wp_append_sl w s x 70 ho B 9 i0 (strV []) 1 16 Tryz.underlying70 hi hz0 hz1 hz2 rfl (by decide) v n (xs.map strV) hs hown vx 1 [strV y] hx hl (by intro u hu; simp at hu; subst hu; rfl) (by unfold maxLen; omega) (by omega) hB ?_
  intro v' w' h2 h3 _
  exact h v' w' (by rw [List.map_append]; exact h2) h3
theorem RNew_any (w : World) (n : Nat) (h1 : 1 ≤ n) (h2 : n ≤ 4096) :
    Calls Tryz.prog 39 #[.int .i64 (n : Nat)] w fun e w' => e = .returned (.tuple #[ptrV w.heap.size, .bool true]) ∧ RDevAt w' (fun k => w.heap.size ≤ k ∧ k < w'.heap.size) w.heap.size (DevL.new n) ∧ Q w w' := by
  have hn := fun (W : World) => RNoughts_any W
  have HN := Lib.hid hn
  have e1 : ¬ (n : Int) < 1 := by omega
  have e2 : ¬ (4096 : Int) < (n : Int) := by omega
  have hb0 : Blk (w.alloc (.cells #[.slice none 0 0, .slice none 0 0, .int .i64 (-1), .bool false] 74)) w.heap.size 74 #[.slice none 0 0, .slice none 0 0, .int .i64 (-1), .bool false] := Blk.new w _ _
  have hq0 := Q.alloc w (.cells #[.slice none 0 0, .slice none 0 0, .int .i64 (-1), .bool false] 74)
  have HB0 := Lib.hid hb0; have HQ0 := Lib.hid hq0
  clear hn hb0 hq0
  go_enter Tryz.func39, Tryz.ntmps39
  go_wp2_with fail
  go_loopw [5] (fun v wr => ∃ (k : Nat) (lv : Value), v = .int .i64 (k : Nat) ∧ k ≤ n ∧ Hid (Blk wr w.heap.size 74 #[lv, .slice none 0 0, .int .i64 (-1), .bool false]) ∧ Hid (wr.ownsRow (w.heap.size + 1) 9 1 lv k ((List.replicate k noughtsL).map strV)) ∧ Hid (Q w wr)) (fun v _ => n - (intOf v).toNat)
  case atStart => exact ⟨0, .slice none 0 0, rfl, Nat.zero_le _, HB0, Lib.hid (World.ownsRow_nil _ _ _ _), HQ0⟩
  case round =>
    obtain ⟨k, lv, rfl, hk, HB, HO, HQ⟩ := hrel
    by_cases hlt : k < n
    · have hki : (k : Int) < (n : Int) := by omega
      obtain ⟨c0, _⟩ := HB.out.c4
      have KK := Lib.hid (Q.refl wr)
      obtain ⟨la, lc, rfl, _⟩ := owns_value HO.out
      have hk6 : k ≤ 1000000 := by omega
      have HK6 := Lib.hid hk6
      clear hk6
      go_wp2_with fail
      go_region_law
        (first
          | (go_simp; go_at_call 84; with_reducible refine (HN.out _).mono ?_; rintro e w3 ⟨rfl, q3⟩; have s' : Q wr w3 := Q.trans (by repeat (first | with_reducible exact KK.out | with_reducible apply Qs.dr | with_reducible apply Qs.al)) q3; clear KK; have KK := Lib.hid s'; have c0' := cellQ s' c0; have c0x := cellQ (Q.alloc w3 (.cells #[strV noughtsL] 9)) c0'; clear s' q3)
          | (refine str_app (B := w.heap.size + 1) (by rfl) _ _ (by rfl) (.slice la k lc) k (List.replicate k noughtsL) (by rfl) (ownsRow_below (ownsRow_below HO.out KK.out) (Q.alloc _ _)) (by have h1 := HB.out.lt; have h2 := KK.out.size; simp; omega) noughtsL (.slice (some ⟨w3.heap.size, 0, none⟩) 1 1) (by rfl) (Sl.lit w3 #[strV noughtsL] 9 1 1 rfl) HK6.out ?_; intro v7 w7 h7 g7; obtain ⟨a7, cap7, rfl, -⟩ := owns_value h7; have bx7 := blk_beside ((HB.out.stays KK.out).stays (Q.alloc _ _)) (ownsRow_below (ownsRow_below HO.out KK.out) (Q.alloc _ _)) g7 (by decide); have y0 := bx7.cell 0 _ rfl; have fz0 := bx7.frozen 0; have q7 : Q w w7 := grown_below ((HQ.out.trans KK.out).trans (Q.alloc _ _)) (owns_low (base' := w.heap.size) (ownsRow_below (ownsRow_below HO.out KK.out) (Q.alloc _ _)) (Nat.le_succ _)) g7 (Nat.le_refl _) (Nat.le_trans HQ.out.size (Nat.le_trans KK.out.size (by simp))); have H7 := Lib.hid h7; have B7 := Lib.hid bx7; have Q7 := Lib.hid q7; clear h7 g7 bx7 q7))
      all_goals
        go_wp2_with fail
        go_roundw
        case rel =>
          refine ⟨k + 1, .slice a7 (k + 1) cap7, by go_num, by omega, Lib.hid (B7.out.set 0 (.slice a7 (k + 1) cap7)), ?_, Lib.hid (Qs.st Q7.out _ _ (Nat.le_refl _))⟩
          have t : Turn (fun k => k = w.heap.size) w7 (w7.setCell ⟨w.heap.size, 0, none⟩ (.slice a7 (k + 1) cap7)) := Turn.setCell (a := ⟨w.heap.size, 0, none⟩) (Turn.refl (fun k => k = w.heap.size) w7) (.inl rfl) _
          have hr := H7.out
          rw [show List.replicate k noughtsL ++ [noughtsL] = List.replicate (k + 1) noughtsL from List.replicate_succ'.symm] at hr
          exact Lib.hid (t.owns hr (fun g e => by have := (hr.lt g e).1; omega))
        case measure => simp [intOf]; omega
    · have hki : ¬ (k : Int) < (n : Int) := by omega
      obtain rfl : k = n := by omega
      go_wp2_with fail
      go_ret2
      refine ⟨rfl, ⟨lv, .slice none 0 0, ⟨HB.out, ⟨Nat.le_refl _, HB.out.lt⟩, ?_, fun g e => ?_, ⟨rfl, .inl ⟨rfl, rfl⟩⟩, fun k e => by simp [Value.ownBlock] at e⟩⟩, HQ.out⟩
      · show wr.ownsRow 0 9 1 lv (List.replicate k noughtsL).length ((List.replicate k noughtsL).map strV)
        rw [List.length_replicate]
        exact owns_low HO.out (Nat.zero_le _)
      · have := HO.out.lt g e
        exact ⟨by omega, this.2⟩
theorem run_app_strN {P : Program} (W : World) (base : Nat) (t u ty e : TypeId) (i : TypeInfo) (ht : P.underlying t = some (.slice e)) (hu : P.underlying u = some .string) (hi : P.info? e = some i) (hz : i.zero = some (.int .u8 0))
    (hsize : i.size = 1) (hby : i.bytes = 1) (v : Value) (n : Nat) (xs : List Value) (hown : W.ownsRow base e 1 v n xs) (s : ByteArray) (hbytes : n + s.size ≤ 140737488355328) (hbase : base ≤ W.heap.size) :
    ∃ v' w', (Builtin.append_ #[t, u] ty #[v, .string s]).run P W = .ok v' w' ∧ w'.ownsRow base e 1 v' (n + s.size) (xs ++ Lib.strCells s) ∧ W.grownBy w' v.ownBlock ∧ (v'.ownBlock = v.ownBlock ∨ ∃ g, v'.ownBlock = some g ∧ W.heap.size ≤ g) := by
  obtain ⟨v', w', hr, ho, hg, hn⟩ := Lib.run_append_own_string (P := P) W base t u ty e i ht hu hi hz hsize hby v n xs hown s (by unfold maxLen; omega) hbytes hbase
  refine ⟨v', w', hr, ho, hg, ?_⟩
  rcases hown.2 with ⟨rfl, rfl⟩ | ⟨g, cap, cur, rfl, hbg, hgg, hnc, hcm, hcs, htake⟩
  · obtain ⟨v2, w2, hr2, ho2, _⟩ := Lib.run_append_own_string (P := P) W W.heap.size t u ty e i ht hu hi hz hsize hby (.slice none 0 0) 0 [] (World.ownsRow_nil _ _ _ _) s (by unfold maxLen; omega) hbytes (Nat.le_refl _)
    rw [hr] at hr2
    simp only [Result.ok.injEq] at hr2
    obtain ⟨rfl, rfl⟩ := hr2
    cases hk : v'.ownBlock with
    | none => exact Or.inl rfl
    | some g => exact Or.inr ⟨g, rfl, (ho2.lt g hk).1⟩
  · by_cases hroom : n + s.size ≤ cap
    · have h2 := Lib.run_append_room_string (P := P) W t u ty e i ht hu hi hsize g n cap cur hgg s hroom (by omega)
      rw [hr] at h2
      simp only [Result.ok.injEq] at h2
      rw [h2.1]; exact Or.inl rfl
    · have holds : ∀ j x, xs[j]? = some x → W.cell? ((⟨g, 0, none⟩ : Addr).add j) = some x := hown.cells (g := g) rfl
      have h2 := Lib.run_append_grow_string (P := P) W t u ty e i (.int .u8 0) ht hu hi hz ⟨g, 0, none⟩ n cap xs (by rw [hsize]; exact hown.1) holds s (by omega) (by omega) (by rw [hby]; exact growslice_fits (by omega) (by omega))
      rw [hr] at h2
      simp only [Result.ok.injEq] at h2
      rw [h2.1]; exact Or.inr ⟨_, rfl, Nat.le_refl _⟩
theorem wpList_app_strN {P : Program} (W : World) {ops : Array Oper} {rest : List Oper} {o : Oper} {a : Act} {Q : Exit → Act → World → Prop} (hgd : o.guard = none) (sl x : Operand) (t u : TypeId)
    (ho : o.op = .call { callee := .builtin .append, args := #[sl, x], argTypes := #[t, u] })
    (base : Nat) (e : TypeId) (i : TypeInfo) (ht : P.underlying t = some (.slice e)) (hu : P.underlying u = some .string) (hi : P.info? e = some i) (hz : i.zero = some (.int .u8 0)) (hsize : i.size = 1) (hby : i.bytes = 1)
    (v : Value) (n : Nat) (xs : List Value) (hs : a.eval sl = v) (hown : W.ownsRow base e 1 v n xs) (s : ByteArray) (hx : a.eval x = .string s) (hbytes : n + s.size ≤ 140737488355328) (hbase : base ≤ W.heap.size)
    (h : ∀ v' w', w'.ownsRow base e 1 v' (n + s.size) (xs ++ Lib.strCells s) → W.grownBy w' v.ownBlock → (v'.ownBlock = v.ownBlock ∨ ∃ g, v'.ownBlock = some g ∧ W.heap.size ≤ g) → wpList P ops Q rest (a.put o.dst v') w') : wpList P ops Q (o :: rest) a W := by
  obtain ⟨v', w', hr, h2, h3, h4⟩ := run_app_strN (P := P) W base t u o.type e i ht hu hi hz hsize hby v n xs hown s hbytes hbase
  refine wpList_plain hgd fun _ hK => ?_
  unfold Oper.wp execOp
  simp only [ho, resolve, invoke, builtin, Sem.run_bind, Sem.run_pure, Result.andThen_ok, List.map_toArray, List.map_cons, List.map_nil, hs, hx, hr]
  exact hK _ _ (h v' w' h2 h3 h4)
abbrev byteVs (l : Bytes) : List Value := Lib.byteCells l
def Bld (w : World) (B b : Nat) (r : Option Nat) (l : Bytes) : Prop :=
  B ≤ b ∧ ∃ p v, w.heap[b]? = some (.cells #[p, v] 182 (0, 0)) ∧ (p = .pointer none ∨ p = .pointer (some ⟨b, 0, none⟩)) ∧ w.ownsRowF B 5 1 v l.length (byteVs l) ∧ v.ownBlock = r ∧ r ≠ some b ∧ (l = [] → r = none)
structure Step2 (w w' : World) (b : Nat) (r : Option Nat) : Prop where
  os : w'.os = w.os
  tape : w'.tape = w.tape
  output : w'.output = w.output
  size : w.heap.size ≤ w'.heap.size
  block : ∀ k, k < w.heap.size → k ≠ b → some k ≠ r → w'.heap[k]? = w.heap[k]?
theorem Step2.refl (w : World) (b : Nat) (r : Option Nat) : Step2 w w b r := ⟨rfl, rfl, rfl, Nat.le_refl _, fun _ _ _ _ => rfl⟩
theorem Step2.below {w w' : World} {b : Nat} {r : Option Nat} {B : Nat} (h : Step2 w w' b r) (hb : B ≤ b) (hr : ∀ k, r = some k → B ≤ k) (hB : B ≤ w.heap.size) : Below B w w' :=
  ⟨h.os, h.tape, h.output, h.size, fun k hk => h.block k (by omega) (by omega) (fun e => by have := hr k e.symm; omega)⟩
theorem Bld.lt {w : World} {B b : Nat} {r : Option Nat} {l : Bytes} (h : Bld w B b r l) : b < w.heap.size := by
  obtain ⟨_, p, v, hb, _⟩ := h
  exact (Array.getElem?_eq_some_iff.1 hb).1
theorem Bld.row {w : World} {B b : Nat} {r : Option Nat} {l : Bytes} (h : Bld w B b r l) : ∀ k, r = some k → B ≤ k ∧ k < w.heap.size := by
  obtain ⟨_, p, v, hb, _, ho, hr, _, _⟩ := h
  intro k hk
  exact ho.lt k (hr.trans hk)
theorem Bld.below {w w' : World} {B b : Nat} {r : Option Nat} {l : Bytes} (h : Bld w B b r l) (hs : Step2 w w' b r) (hB : B ≤ w.heap.size) : Below B w w' :=
  hs.below h.1 (fun k hk => (h.row k hk).1) hB
theorem Bld.stays {w w' : World} {B b : Nat} {r : Option Nat} {l : Bytes} (h : Bld w B b r l) (hb : w'.heap[b]? = w.heap[b]?) (hr : ∀ k, r = some k → w'.heap[k]? = w.heap[k]?) (hsz : w.heap.size ≤ w'.heap.size) : Bld w' B b r l := by
  obtain ⟨h1, p, v, h2, h3, ho, h4, h5⟩ := h
  refine ⟨h1, p, v, hb.trans h2, h3, ⟨ho.1, ?_⟩, h4, h5⟩
  rcases ho.2 with hn | ⟨g, cap, cur, fz, rfl, hbg, hg, rest⟩
  · exact .inl hn
  · exact .inr ⟨g, cap, cur, fz, rfl, hbg, (hr g (by rw [← h4]; rfl)).trans hg, rest⟩
theorem Bld.alloc {w : World} {B b : Nat} {r : Option Nat} {l : Bytes} (h : Bld w B b r l) (o : Obj) : Bld (w.alloc o) B b r l :=
  h.stays (Below.heap_alloc _ _ _ h.lt) (fun k hk => Below.heap_alloc _ _ _ (h.row k hk).2) (by simp)
theorem Bld.step {w w' : World} {B b b2 : Nat} {r r2 : Option Nat} {l : Bytes} (h : Bld w B b r l) (hs : Step2 w w' b2 r2) (h1 : b ≠ b2) (h2 : some b ≠ r2) (h3 : r ≠ some b2) (h4 : r = none ∨ r ≠ r2) : Bld w' B b r l :=
  h.stays (hs.block b h.lt h1 h2) (fun k hk => hs.block k (h.row k hk).2 (fun e => h3 (by rw [hk, e])) (fun e => by
    rcases h4 with h4 | h4
    · rw [h4] at hk; cases hk
    · exact h4 (hk.trans e))) hs.size
theorem Bld.new (w : World) (B : Nat) (hB : B ≤ w.heap.size) : Bld (w.alloc (.cells #[.pointer none, .slice none 0 0] 182)) B w.heap.size none [] :=
  ⟨hB, _, _, heap_alloc_new w _, .inl rfl, World.ownsRowF_nil _ _ _ _, rfl, by simp, fun _ => rfl⟩
theorem sizeBuilder : (Tryz.prog.info? 182).map (·.size) = some 2 := by kernel_rfl
theorem liesBuilder : liesAt Tryz.prog Tryz.prog.depth 182 (2 / Tryz.prog.cellsOf 182) 0 182 1 = true := by kernel_rfl
theorem infoByte : (Tryz.prog.info? 5).map (fun i => (i.zero, i.size, i.bytes)) = some (some (.int .u8 0), 1, 1) := by kernel_rfl
theorem byteVs_append (a b : Bytes) : byteVs (a ++ b) = byteVs a ++ byteVs b := by simp [byteVs, Lib.byteCells]
theorem strCells_bytes (l : Bytes) : Lib.strCells ⟨l.toArray⟩ = byteVs l := by simp [Lib.strCells, byteVs, Lib.byteCells]
theorem row_string {w : World} {base : Nat} {v : Value} {l : Bytes} (h : w.ownsRow base 5 1 v l.length (byteVs l)) :
    (convert 86 9 v).run Tryz.prog w = .ok (strV l) w := by
  obtain ⟨a, cap, rfl, hg⟩ := owns_value h
  by_cases hl : l = []
  · subst hl
    rcases h.2 with ⟨hv, _⟩ | ⟨g, c, cur, hv, _⟩
    · cases hv
      show (convert 86 9 (.slice none 0 0)).run Tryz.prog w = _
      rw [run_convert_bytes_string w 86 9 5 none 0 0 Tryz.underlying86 Tryz.underlying5 Tryz.underlying9]
      rfl
    · cases hv
      exact run_convert_bytes_back (P := Tryz.prog) w 86 9 5 ⟨g, 0, none⟩ cap [] Tryz.underlying86 Tryz.underlying5 Tryz.underlying9 (fun j hj => by simp at hj)
  · obtain ⟨g, rfl⟩ := hg (List.length_pos_iff.2 hl)
    refine run_convert_bytes_back (P := Tryz.prog) w 86 9 5 ⟨g, 0, none⟩ cap l Tryz.underlying86 Tryz.underlying5 Tryz.underlying9 (fun j hj => ?_)
    rw [add_off, Nat.zero_add, h.cellAt j (by omega)]
    simp [byteVs, Lib.byteCells, hj]
end
section
theorem begin_run {K : Nat} {σ : StL} {fr : List (List WrL)} {C : Nat → Bytes} (h : StInv K σ fr C) (ho : σ.open_ = false) : σ.begin = ({ σ with open_ := true, was := σ.map1 }, 0) := by
  unfold StL.begin
  rw [if_neg (by rw [live_state h, if_pos ho]; simp)]
theorem alloc_closed {K : Nat} {σ : StL} {fr : List (List WrL)} {C : Nat → Bytes} (h : StInv K σ fr C) (ho : σ.open_ = false) (c : Int) : σ.alloc c = (σ, 0, 15) := by
  unfold StL.alloc
  rw [if_pos (by rw [live_state h, ho]; decide), live_state h, ho]; rfl
theorem write_closed {K : Nat} {σ : StL} {fr : List (List WrL)} {C : Nat → Bytes} (h : StInv K σ fr C) (ho : σ.open_ = false) (i : Int) (s : Bytes) : σ.write i s = (σ, 15) := by
  unfold StL.write
  rw [if_pos (by rw [live_state h, ho]; decide), live_state h, ho]; rfl
theorem release_closed {K : Nat} {σ : StL} {fr : List (List WrL)} {C : Nat → Bytes} (h : StInv K σ fr C) (ho : σ.open_ = false) (a c : Int) : σ.release a c = (σ, 15) := by
  unfold StL.release
  rw [if_pos (by rw [live_state h, ho]; decide), live_state h, ho]; rfl
theorem commit_closed {K : Nat} {σ : StL} {fr : List (List WrL)} {C : Nat → Bytes} (h : StInv K σ fr C) (ho : σ.open_ = false) : σ.commit = (σ, 15) := by
  unfold StL.commit
  rw [if_pos (by rw [live_state h, ho]; decide), live_state h, ho]; rfl
theorem begin_again {K : Nat} {σ : StL} {fr : List (List WrL)} {C : Nat → Bytes} (h : StInv K σ fr C) (ho : σ.open_ = true) : σ.begin = (σ, 15) := by
  unfold StL.begin
  rw [if_pos (by rw [live_state h, ho]; decide), live_state h, ho]; rfl
theorem commit_free_run {K : Nat} {σ : StL} {fr : List (List WrL)} {C : Nat → Bytes} (h : StInv K σ fr C) (hf : σ.j.d.Free) (ho : σ.open_ = true) (hK : K + 4 < 18446744073709551616) :
    σ.commit.2 = 0 ∧ (∃ fr', StInv (K + 2) σ.commit.1 fr' (updC C σ.tx)) ∧ σ.commit.1.open_ = false ∧ σ.commit.1.map1 = σ.map1 ∧ σ.commit.1.n = σ.n ∧ σ.commit.1.j.d.Free := by
  have hfree : σ.commit.1.j.d.Free := by
    unfold StL.commit
    split
    · exact hf
    · split
      · exact hf
      · split <;> exact JL.commit_free hf _
  rcases scommit_run h hK with ⟨e, i, o, _, m⟩ | ⟨_, _, o⟩ | ⟨_, _, _, _, _, x, _⟩
  · exact ⟨e, i, o, m, commit_n σ, hfree⟩
  · rw [o] at ho; exact absurd ho (by decide)
  · exact absurd hf x
def map7a : Bytes := bits0 128
def map7b : Bytes := setTo map7a 64 true 2
def map7c : Bytes := setTo map7b 64 false 1
theorem shown_first {K : Nat} {σ : StL} {fr : List (List WrL)} {C : Nat → Bytes} (h : StInv K σ fr C) (hn : σ.n = 128) (hm : σ.map1 = map7a) (ho : σ.open_ = false) (hf : σ.j.d.Free) (hK : K + 10 < 18446744073709551616) :
    ∃ s1 s2 s3 s4 : StL, ∃ fr' C', σ.alloc 2 = (σ, 0, 15) ∧ σ.begin = (s1, 0) ∧ s1.alloc 2 = (s2, 64, 0) ∧ s2.write 64 (fullL 97) = (s3, 0) ∧ s3.write 66 (fullL 97) = (s3, 10) ∧ s3.commit = (s4, 0) ∧
      StInv K s1 fr C ∧ StInv K s2 fr C ∧ StInv K s3 fr C ∧ StInv (K + 2) s4 fr' C' ∧ s4.n = 128 ∧ s4.map1 = map7b ∧ s4.open_ = false ∧ s4.j.d.Free ∧ C' 64 = fullL 97 := by
  have hfd : firstD 128 = 64 := by decide
  have ht := h.closed ho
  have hb := begin_run h ho
  have i1 := begin_inv h
  rw [hb] at i1
  have hal : fitN map7a 2 128 = some 64 := by decide +kernel
  obtain ⟨s1, hs1⟩ : ∃ s1 : StL, s1 = { σ with open_ := true, was := σ.map1 } := ⟨_, rfl⟩
  rw [← hs1] at hb i1
  simp only at i1
  have o1 : s1.open_ = true := by rw [hs1]
  have t1 : s1.tx = [] := by rw [hs1]; exact ht
  have m1 : s1.map1 = map7a := by rw [hs1]; exact hm
  have n1 : s1.n = 128 := by rw [hs1]; exact hn
  have j1 : s1.j = σ.j := by rw [hs1]
  rcases fresh_alloc i1 o1 t1 2 (by decide) with ⟨a, x1, x2, x3, x4, x5, x6, x7, x8, x9, x10, x11⟩ | x
  · have ha : a = 64 := by
      have e : (s1.alloc (2 : Nat)).2.1 = 64 := by
        unfold StL.alloc
        rw [if_neg (by rw [live_state i1, if_pos o1]; simp), if_neg (by omega), Int.toNat_natCast, m1, n1, hal]
        simp only []
        obtain ⟨z0, _⟩ := turn_ok i1 o1 (by rw [t1]; decide) 64 2 true (by rw [n1, hfd]; exact Nat.le_refl _) (by rw [n1]; decide)
        rw [if_neg (by rw [z0]; simp)]; rfl
      rw [x1] at e
      simp only at e; omega
    subst ha
    obtain ⟨s2, hs2⟩ : ∃ s2, s2 = (s1.alloc (2 : Nat)).1 := ⟨_, rfl⟩
    rw [← hs2] at x5 x6 x7 x8 x9 x11
    have n2 : s2.n = 128 := by unfold StL.n; rw [x9]; exact n1
    rw [m1] at x5
    have e2 : s1.alloc 2 = (s2, 64, 0) := by
      rw [hs2]; exact Prod.ext rfl x1
    obtain ⟨y1, y2, y3, y4⟩ := fresh_write x6 x8 x7 64 (fullL 97) (fullL_len 97) (by rw [n2, hfd]; exact Nat.le_refl _) (by rw [n2]; decide) (by rw [x5]; decide +kernel)
    obtain ⟨s3, hs3⟩ : ∃ s3 : StL, s3 = { s2 with tx := touchL s2.tx [(64, fullL 97)] } := ⟨_, rfl⟩
    rw [← hs3] at y1 y2 y3
    have o3 : s3.open_ = true := by rw [hs3]; exact x8
    have m3 : s3.map1 = map7b := by rw [hs3]; exact x5
    have n3 : s3.n = 128 := by rw [hs3]; exact n2
    have f3 : s3.j.d.Free := by rw [hs3]; show s2.j.d.Free; rw [x9, j1]; exact hf
    have hw : s3.write 66 (fullL 97) = (s3, 10) := by
      unfold StL.write
      rw [if_neg (by rw [live_state y2, if_pos o3]; simp), if_neg (by unfold StL.isData; rw [n3, hfd]; decide), if_pos (by rw [m3]; decide +kernel)]
    obtain ⟨c1, ⟨fr', c2⟩, c3, c4, c5, c6⟩ := commit_free_run y2 f3 o3 (by omega)
    refine ⟨s1, s2, s3, s3.commit.1, fr', _, alloc_closed h ho 2, hb, e2, y1, hw, Prod.ext rfl c1, i1, x6, y2, c2, c5.trans n3, c4.trans m3, c3, c6, ?_⟩
    have := y2.get 64 (by decide) (by rw [n3]; decide)
    rw [← this]; exact y3
  · exfalso
    have e : (s1.alloc (2 : Nat)).2.2 = 9 := by rw [x]
    unfold StL.alloc at e
    rw [if_neg (by rw [live_state i1, if_pos o1]; simp), if_neg (by omega), Int.toNat_natCast, m1, n1, hal] at e
    simp only [] at e
    obtain ⟨z0, _⟩ := turn_ok i1 o1 (by rw [t1]; decide) 64 2 true (by rw [n1, hfd]; exact Nat.le_refl _) (by rw [n1]; decide)
    rw [if_neg (by rw [z0]; simp)] at e
    simp at e
theorem shown_second {K : Nat} {σ : StL} {fr : List (List WrL)} {C : Nat → Bytes} (h : StInv K σ fr C) (hn : σ.n = 128) (hm : σ.map1 = map7b) (ho : σ.open_ = false) (hC : C 64 = fullL 97) :
    ∃ s5 s6 s7 : StL, σ.begin = (s5, 0) ∧ s5.release 64 1 = (s6, 0) ∧ s6.alloc 64 = (s6, 0, 9) ∧ s6.abort = s7 ∧ StInv K s5 fr C ∧ StInv K s6 fr C ∧ StInv K s7 fr C ∧ s7.free = 62 ∧ s7.read 64 = (fullL 97, 0) ∧ usedR σ.map1 (firstD σ.n) σ.n = [(64, 2)] := by
  have hfd : firstD 128 = 64 := by decide
  have ht := h.closed ho
  have hb := begin_run h ho
  have i1 := begin_inv h
  rw [hb] at i1
  obtain ⟨s1, hs1⟩ : ∃ s1 : StL, s1 = { σ with open_ := true, was := σ.map1 } := ⟨_, rfl⟩
  rw [← hs1] at hb i1
  simp only at i1
  have o1 : s1.open_ = true := by rw [hs1]
  have t1 : s1.tx = [] := by rw [hs1]; exact ht
  have m1 : s1.map1 = map7b := by rw [hs1]; exact hm
  have n1 : s1.n = 128 := by rw [hs1]; exact hn
  have hbk : map7b = setTo map7c 64 true 1 := by decide +kernel
  obtain ⟨r1, r2, r3, r4⟩ := fresh_release i1 o1 (by rw [t1]; decide) map7c 64 1 (by decide) (by rw [n1, hfd]; exact Nat.le_refl _) (by rw [n1]; decide) (by rw [m1]; exact hbk) (by rw [m1]; decide +kernel) (fun j h1 h2 => by
    obtain rfl : j = 64 := by omega
    decide +kernel)
  have ro : (s1.release ((64 : Nat) : Int) ((1 : Nat) : Int)).1.open_ = true := by
    have hz : ¬ s1.state true ≠ 0 := by rw [live_state i1, if_pos o1]; simp
    unfold StL.release
    split
    · exact o1
    · split
      · exact o1
      · split
        · exact o1
        · unfold StL.turn StL.touch
          split
          · split <;> exact o1
          · split <;> exact o1
  obtain ⟨s6, hs6⟩ : ∃ s6, s6 = (s1.release ((64 : Nat) : Int) ((1 : Nat) : Int)).1 := ⟨_, rfl⟩
  rw [← hs6] at r2 r3 r4 ro
  have n6 : s6.n = 128 := by unfold StL.n; rw [r4]; exact n1
  have hno : fitN map7c 64 128 = none := by decide +kernel
  have e6 : s6.alloc 64 = (s6, 0, 9) := by
    unfold StL.alloc
    rw [if_neg (by rw [live_state r3, if_pos ro]; simp), if_neg (by omega), r2, n6]
    rw [show (64 : Int).toNat = 64 from rfl, hno]
  have i7 := abort_inv r3
  have n7 : s6.abort.n = 128 := (abort_n s6).trans n6
  have hm7 : s6.abort.map1 = map7b := by
    have := i7.now
    rw [i7.closed (abort_open s6), n7] at this
    have h2 := h.now
    rw [ht, hm, hn] at h2
    rw [this]; exact h2.symm
  refine ⟨s1, s6, s6.abort, hb, Prod.ext (by rw [hs6]; rfl) r1, e6, rfl, i1, r3, i7, ?_, ?_, ?_⟩
  · show cnt s6.abort.map1 s6.abort.n = 62
    rw [hm7, n7]; decide +kernel
  · have := abort_get r3 64 (by rw [n6, hfd]; exact Nat.le_refl _) (by rw [n6]; decide)
    rw [hC] at this
    exact this
  · rw [hm, hn, hfd]; decide +kernel
end
end Go.Proofs.YtnmijegmbomfdaaGreatDoor
