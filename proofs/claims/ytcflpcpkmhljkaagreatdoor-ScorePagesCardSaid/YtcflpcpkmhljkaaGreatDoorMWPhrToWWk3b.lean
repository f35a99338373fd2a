/- Joined texts of one proof: WPhr, WWk1, WWk2, WWk3b. -/
import Derived.Test.YtcflpcpkmhljkaaGreatDoorMWWordsToWPostA
import Derived.Test.YtcflpcpkmhljkaaGreatDoorMWPostBToIx
import Derived.Test.YtcflpcpkmhljkaaGreatDoorMToks0ToWSk7
import Derived.Test.YtcflpcpkmhljkaaGreatDoorMLive2ToWScW
import Derived.Test.YtcflpcpkmhljkaaGreatDoorMSegRdToWDictPR
import Derived.Test.YtcflpcpkmhljkaaGreatDoorMWLastToWSc
import Derived.Test.YtcflpcpkmhljkaaGreatDoorMWSk2ToWBin
import Derived.Test.YtcflpcpkmhljkaaGreatDoorMQry3ToMarks
import Derived.Deep.RegionHeld3
set_option linter.unusedSimpArgs false
set_option linter.unusedVariables false
set_option linter.unnecessarySimpa false
/- (WPhr) query.Phrase: walked. -/
section
namespace Go.Proofs.YtcflpcpkmhljkaaGreatDoor
open Go.RowKit
set_option linter.unusedVariables false

/-- the first k tokens shifted -/
def shiftTo (l : TokL) (k : Nat) : TokL := (l.take k).map (fun t => (t.1, t.2 - (l.headD ([], 0)).2)) ++ l.drop k
theorem shiftTo_zero (l : TokL) : shiftTo l 0 = l := by simp [shiftTo]
theorem shiftTo_all (l : TokL) : shiftTo l l.length = shiftL l := by simp [shiftTo, shiftL]
theorem shiftTo_len (l : TokL) (k : Nat) : (shiftTo l k).length = l.length := by simp [shiftTo]; omega
theorem shiftTo_at (l : TokL) (k : Nat) (h : k < l.length) : (shiftTo l k)[k]? = some l[k] := by
  unfold shiftTo
  rw [List.getElem?_append_right (by simp; omega), List.getElem?_drop]
  simp only [List.length_map, List.length_take, Nat.min_eq_left (Nat.le_of_lt h), Nat.sub_self, Nat.add_zero]
  exact List.getElem?_eq_getElem h
theorem shiftTo_step (l : TokL) (k : Nat) (h : k < l.length) : (shiftTo l k).set k (l[k].1, l[k].2 - (l.headD ([], 0)).2) = shiftTo l (k + 1) := by
  unfold shiftTo
  rw [List.set_append, if_neg (by simp; omega)]
  simp only [List.length_map, List.length_take, Nat.min_eq_left (Nat.le_of_lt h), Nat.sub_self]
  rw [List.drop_eq_getElem_cons h, List.set_cons_zero, List.take_succ_eq_append_getElem h, List.map_append, List.append_assoc]
  rfl
theorem tokVs_set (l : TokL) (i : Nat) (hi : i < l.length) (x : Nat) : (tokVs l).set (i * 2 + 1) (.int .i64 (x : Nat)) = tokVs (l.set i (l[i].1, x)) := by
  induction l generalizing i with
  | nil => simp at hi
  | cons t l ih =>
    have e : ∀ (t : Bytes × Nat) (l : TokL), tokVs (t :: l) = strV t.1 :: .int .i64 (t.2 : Nat) :: tokVs l := by intros; simp [tokVs]
    rw [e]
    cases i with
    | zero => rw [List.set_cons_zero, e]; rfl
    | succ i =>
      rw [show (i + 1) * 2 + 1 = (i * 2 + 1) + 1 + 1 by omega]
      simp only [List.set_cons_succ, List.getElem_cons_succ]
      rw [ih i (by simpa using hi), e]
theorem owns_thaw {w : World} {base : Nat} {e : TypeId} {size : Nat} {g n cap : Nat} {xs : List Value} (h : w.ownsRow base e size (.slice (some ⟨g, 0, none⟩) n cap) n xs) (i : Nat) : w.frozen? ⟨g, i, none⟩ = false := by
  obtain ⟨cs, hc⟩ := owns_kind h g rfl
  simp [World.frozen?, hc]
theorem owns_cell {w : World} {base : Nat} {e : TypeId} {size : Nat} {g n cap : Nat} {xs : List Value} (h : w.ownsRow base e size (.slice (some ⟨g, 0, none⟩) n cap) n xs) (hn : 0 < n) (i : Nat) (u : Value) (hu : xs[i]? = some u) : w.cell? ⟨g, i, none⟩ = some u := by
  obtain ⟨_, a, c, hv, hc⟩ := Sl.of_owns h
  obtain ⟨b, off, hb, hcc⟩ := hc hn
  have hb' : some ⟨g, 0, none⟩ = a := by cases hv; rfl
  rw [hb] at hb'
  cases hb'
  have := hcc i u hu
  rwa [Nat.zero_add] at this
theorem shift_le (s : Bytes) (k : Nat) (h : k < (tokensL s).length) : ((tokensL s).headD ([], 0)).2 ≤ (tokensL s)[k].2 := by
  have hr := (tokensL_rise s).1
  generalize tokensL s = l at *
  cases l with
  | nil => simp at h
  | cons x l =>
    cases k with
    | zero => exact Nat.le_refl _
    | succ k =>
      rw [List.map_cons, List.pairwise_cons] at hr
      have hk : k < l.length := by simpa using h
      have := hr.1 l[k].2 (List.mem_map.2 ⟨l[k], List.getElem_mem _, rfl⟩)
      simp only [List.headD_cons, List.getElem_cons_succ]; omega
set_option maxRecDepth 100000 in
set_option maxHeartbeats 4000000 in
theorem QPhrase_any (s : Bytes) (w : World) (hs : s.length ≤ 1000000) (hT : Tabs w) (hSp : Spans w) :
    Calls Tryz.prog 73 #[strV s] w fun e w' => ∃ v, e = .returned (.tuple #[v, .bool (!(phraseL s).isEmpty)]) ∧ w'.ownsRow w.heap.size 58 2 v (phraseL s).length (tokVs (phraseL s)) ∧ Q w w' := by
  have c := Tokens_any s w (by omega) hT hSp
  have hlt : ∀ x ∈ tokensL s, x.2 ≤ 1000000 := fun x hx => by have := ((tokensL_rise s).2 x hx).2.2; omega
  have hln : (tokensL s).length ≤ 1000001 := by
    have h2 := tokensF_len (wordsL s) 0
    have h3 := (wordsL_len s).1
    unfold tokensL; omega
  have hle := shift_le s
  have hph : phraseL s = shiftL (tokensL s) := rfl
  rw [hph]
  generalize tokensL s = l at *
  have C := Lib.hid c; have HLT := Lib.hid hlt; have HLE := Lib.hid hle
  clear c hlt hle hph hT hSp
  go_enter Tryz.func73, Tryz.ntmps73
  go_wp2_with fail
  refine C.out.mono ?_
  rintro e w1 ⟨v, rfl, ho, q1⟩
  obtain ⟨a, cap, rfl, hsm⟩ := owns_value ho
  by_cases h0 : l.length = 0
  · have hl : l = [] := List.eq_nil_of_length_eq_zero h0
    subst hl
    have HQ := Lib.hid q1
    clear C ho hsm q1 HLT HLE
    go_wp2_with fail
    go_ret2
    exact ⟨_, rfl, World.ownsRow_nil _ _ _ _, HQ.out⟩
  · obtain ⟨g, rfl⟩ := hsm (by omega)
    have hne : (shiftL l).isEmpty = false := by cases l with | nil => simp at h0 | cons a b => rfl
    have hc0 : w1.cell? ⟨g, 1, none⟩ = some (.int .i64 (l[0].2 : Nat)) := owns_cell ho (by omega) 1 _ (by have := (tokVs_at14 l 0 (by omega)).2; simpa using this)
    have hf : (l.headD ([], 0)).2 = l[0].2 := by cases l with | nil => simp at h0 | cons a b => rfl
    have hf0 := HLT.out l[0] (List.getElem_mem (by omega))
    obtain ⟨n, hn⟩ : ∃ n, n = l.length := ⟨_, rfl⟩
    have HNE := Lib.hid hne; have HO := Lib.hid ho; have HQ := Lib.hid q1; have HF := Lib.hid hf; have HN := Lib.hid hn
    rw [← hn] at h0 hln ⊢
    have hi0 : (0 : Int) < (n : Int) := by omega
    have hz : ((n : Int) == 0) = false := beq_eq_false_iff_ne.2 (by omega)
    clear ho q1 C hf hne hn
    generalize hff : l[0].2 = f at *
    clear hff hsm
    go_wp2_with fail
    go_loopw [18] (fun i wr => ∃ k : Nat, k ≤ n ∧ i = .int .i64 (k : Nat) ∧ Hid (wr.ownsRow w.heap.size 58 2 (.slice (some ⟨g, 0, none⟩) n cap) n (tokVs (shiftTo l k))) ∧ Hid (Q w wr)) (fun i _ => n - (intOf i).toNat)
    case atStart => exact ⟨0, by omega, rfl, by rw [shiftTo_zero, HN.out]; exact HO.out, HQ.out⟩
    case round =>
      obtain ⟨k, hk, rfl, HO1, HQ1⟩ := hrel
      obtain ⟨wo, rfl⟩ : ∃ wo : World, wo = wr := ⟨_, rfl⟩
      clear hc0
      by_cases hlt : k < n
      · have hlt' : k < l.length := by have := HN.out; omega
        have ha := shiftTo_at l k hlt'
        have hsl : k < (shiftTo l k).length := by rw [shiftTo_len]; exact hlt'
        have hgk : (shiftTo l k)[k] = l[k] := by rw [List.getElem?_eq_getElem hsl] at ha; exact Option.some.inj ha
        have hc1 := owns_cell HO1.out (by omega) (k * 2 + 1) _ (by rw [(tokVs_at14 (shiftTo l k) k hsl).2, hgk])
        have hfz := owns_thaw HO1.out (k * 2 + 1)
        have hb1 := HLT.out l[k] (List.getElem_mem hlt')
        have hb2 := HLE.out k hlt'
        rw [HF.out] at hb2
        have hst := shiftTo_step l k hlt'
        rw [HF.out] at hst
        have htl : (tokVs (shiftTo l k)).length = n * 2 := HO1.out.1
        have ho2 := owns_setAt HO1.out (k * 2 + 1) (by omega) (.int .i64 ((l[k].2 - f : Nat) : Int))
        rw [tokVs_set (shiftTo l k) k hsl (l[k].2 - f), hgk, hst] at ho2
        have hgw : w.heap.size ≤ g := (HO1.out.lt g rfl).1
        have hq2 : Q w (wo.setCell ⟨g, k * 2 + 1, none⟩ (.int .i64 ((l[k].2 - f : Nat) : Int))) := HQ1.out.setCell hgw _
        have hsub : ((l[k].2 - f : Nat) : Int) = (l[k].2 : Int) - (f : Int) := by omega
        have hwr : IntKind.i64.wrap ((l[k].2 : Int) - (f : Int)) = (l[k].2 : Int) - (f : Int) := IntWalk.i64_in _ (by omega)
        rw [hsub] at ho2 hq2
        have hi1 : (k : Int) < (n : Int) := by omega
        have hi2 : (0 : Int) ≤ (k : Int) := by omega
        have HO2 := Lib.hid ho2; have HQ2 := Lib.hid hq2
        clear ho2 hq2 hst ha hgk hsl HO1 HQ1 hsub
        generalize l[k].2 = pk at *
        go_wp2_with fail
        go_roundw
        case rel => exact ⟨k + 1, by omega, by go_num, HO2, HQ2⟩
        case measure => simp [intOf]; omega
      · have hke : k = n := by omega
        subst hke
        have ho := HO1.out
        rw [HN.out, shiftTo_all, ← HN.out] at ho
        have hll : k = (shiftL l).length := by rw [HN.out]; simp [shiftL]
        have HO2 := Lib.hid ho; have HL := Lib.hid hll
        clear ho HO1 hll
        go_wp2_with fail
        go_ret2
        exact ⟨_, by rw [HNE.out]; rfl, by rw [← HL.out]; exact HO2.out, HQ1.out⟩
end Go.Proofs.YtcflpcpkmhljkaaGreatDoor
end

/- (WWk1) score: what a search leans on; walkers of terms and of phrases; rows of walkers. -/
section
namespace Go.Proofs.YtcflpcpkmhljkaaGreatDoor
open Go.RowKit
set_option linter.unusedVariables false

theorem IsWk.wide {z z' : Zone} {n B : Nat} {w : World} {v : Value} {F : DF} (h : IsWk z n B w v F) (h1 : z.n ≤ z'.n) (h2 : z'.lo ≤ z.lo) (h3 : z.hi ≤ z'.hi) : IsWk z' n B w v F := by
  obtain ⟨t, x, g, e1, e2, e3, e4⟩ := h.is
  exact ⟨h.fits, t, x, g, e1, e2, e3, fun W doc hq hd => e4 W doc (hq.wide h1 h2 h3) hd⟩
theorem IsWk.refit {z : Zone} {n B n' B' : Nat} {w : World} {v : Value} {F G : DF} (h : IsWk z n B w v F) (hg : F = G) (hf : ∀ i s, G i = some s → i < n' ∧ s ≤ B') : IsWk z n' B' w v G := by
  subst hg; exact ⟨hf, h.is⟩
theorem WksAt.wide {z z' : Zone} {n B : Nat} {w : World} {v : Value} {Fs : List DF} (h : WksAt z n B w v Fs) (h1 : z.n ≤ z'.n) (h2 : z'.lo ≤ z.lo) (h3 : z.hi ≤ z'.hi) : WksAt z' n B w v Fs := by
  obtain ⟨vs, e1, e2⟩ := h
  exact ⟨vs, e1.wide h2 h3, fun i hi u hu => (e2 i hi u hu).wide h1 h2 h3⟩
theorem WksAt.nil (z : Zone) (n B : Nat) (w : World) : WksAt z n B w (.slice none 0 0) [] := ⟨[], SlW.nil z w 1, fun i h => absurd h (Nat.not_lt_zero _)⟩
/-- a later world of a zone is later than all that lies below it -/
theorem Ws.later {z : Zone} {w₀ w W : World} (h : Ws z w W) (hq : Q w₀ w) (hz : z.n = w₀.heap.size) : Q w₀ W := by
  have hb := h.below (by rw [hz]; exact hq.size)
  rw [hz] at hb
  exact Below.trans hq hb
theorem Cs.grown {n₀ : Nat} {A B C : World} (h : Cs n₀ A B) {base : Nat} {e : TypeId} {size : Nat} {v : Value} {k : Nat} {xs : List Value} (ho : B.ownsRow base e size v k xs) (hg : B.grownBy C v.ownBlock) (hb : A.heap.size ≤ base) (hn : n₀ ≤ base) : Cs n₀ A C :=
  ⟨hg.os.trans h.os, hg.tape.trans h.tape, hg.output.trans h.output, Nat.le_trans h.size hg.size,
    fun i h1 h2 h3 => (hg.block i (Nat.lt_of_lt_of_le h2 h.size) (fun e' => by have := (ho.lt i e'.symm).1; omega)).trans (Itk.low h i h1 h2 h3),
    fun i o h1 h2 h3 => (hg.block i (Nat.lt_of_lt_of_le (lt_of_get h1) h.size) (fun e' => by have := (ho.lt i e'.symm).1; have := lt_of_get h1; omega)).trans (Itk.cells h i o h1 h2 h3)⟩
/-- what a search leans on, all of it in the world at its start -/
structure SrH (w₀ : World) (pv : Value) (ps : List PartL) (wt : Bytes → Nat) : Prop where
  parts : PartsAt w₀ pv ps
  ok : ∀ p ∈ ps, PartOk p
  len : ps.length ≤ 1000
  wt : ∀ t, wt t = wtL (liveL ps) t
  tabs : Tabs w₀
  spans : Spans w₀
theorem SrH.wt_le {w₀ : World} {pv : Value} {ps : List PartL} {wt : Bytes → Nat} (h : SrH w₀ pv ps wt) (t : Bytes) : wt t ≤ 63 := by
  have hl := live_len ps (fun p hp => (h.ok p hp).2.2.1)
  have := h.len
  rw [h.wt]; exact wtL_le _ (by omega) t
theorem termF_fits (l : List DocL) (t : Bytes) (hl : ∀ d ∈ l, d.2.length ≤ 2000) (i s : Nat) (h : termF l t i = some s) : i < l.length ∧ s ≤ 2001 := by
  unfold termF at h
  cases hd : l[i]? with
  | none => rw [hd] at h; cases h
  | some d =>
    rw [hd] at h
    simp only at h
    split at h
    · cases h
    · cases h
      have h1 : (placesIn d.2 t).length ≤ (tokensL d.2).length := List.length_filterMap_le _ _
      have h2 := (tokensL_facts d.2 (hl d (List.mem_of_getElem? hd))).1
      exact ⟨(List.getElem?_eq_some_iff.1 hd).1, by omega⟩
theorem docs_small {l : List DocL} (hok : docsOk l) : ∀ d ∈ l, d.2.length ≤ 2000 := fun d hd => (rightB_len (hok.1 d hd)).2
theorem IsWk.term {z : Zone} {w₀ w : World} {g : Nat} {l : List DocL} (t : Bytes) (hg : SegAt w₀ g l (idxS l)) (hq : Q w₀ w) (hz : z.n = w₀.heap.size) (hn : l.length ≤ 500) (hok : docsOk l) :
    IsWk z l.length 2001 w (.iface 185 (.agg #[.pointer (some ⟨g, 0, none⟩), strV t])) (termF l t) :=
  ⟨termF_fits l t (docs_small hok), _, _, 251, rfl, fun W => by kernel_rfl, enters_of Tryz.func251 (by kernel_rfl) rfl,
    fun W doc hW hd => Term_any g l t doc W (hg.stays (hW.later hq hz)) hn hok⟩
theorem IsWk.phrase {z : Zone} {w₀ w : World} {g : Nat} {l : List DocL} {tv : Value} {p : TokL} {wt n B : Nat} (hg : SegAt w₀ g l (idxS l)) (hq : Q w₀ w) (hz : z.n = w₀.heap.size) (hn : l.length ≤ 500) (hok : docsOk l) (ht : SlW z w tv p.length 2 (tokVs p))
    (hne : 0 < p.length) (hp6 : p.length ≤ 1000000) (hps : ∀ t ∈ p, t.2 ≤ 1000000) (hw : wt ≤ 1000000000) (hf : ∀ i s, phraseF l p wt i = some s → i < n ∧ s ≤ B) :
    IsWk z n B w (.iface 149 (.agg #[.pointer (some ⟨g, 0, none⟩), tv, .int .i64 (wt : Nat)])) (phraseF l p wt) :=
  ⟨hf, _, _, 245, rfl, fun W => by kernel_rfl, enters_of Tryz.func245 (by kernel_rfl) rfl,
    fun W doc hW hd => Phrase_any g tv wt p l doc W (hg.stays (hW.later hq hz)) (hW.sl ht).1 hn hok hne hp6 hps hw hd⟩
theorem tinfoWk : (Tryz.prog.info? 95).map (fun i => (i.zero, i.size, i.bytes)) = some (some .nilIface, 1, 16) := by kernel_rfl
/-- a row of walkers under way: each one's zone lies apart from the row -/
structure WkRow (n₀ lo n B : Nat) (w : World) (v : Value) (Fs : List DF) : Prop where
  row : ∃ vs : List Value, w.ownsRow lo 95 1 v Fs.length vs ∧ ∀ i (h : i < Fs.length) u, vs[i]? = some u → ∃ a b, lo ≤ a ∧ b ≤ w.heap.size ∧ (∀ g, v.ownBlock = some g → g < a ∨ b ≤ g) ∧ IsWk ⟨n₀, a, b⟩ n B w u Fs[i]
theorem WkRow.nil (n₀ lo n B : Nat) (w : World) : WkRow n₀ lo n B w (.slice none 0 0) [] := ⟨[], World.ownsRow_nil _ _ _ _, fun i h => absurd h (Nat.not_lt_zero _)⟩
theorem WkRow.done {n₀ lo n B : Nat} {w : World} {v : Value} {Fs : List DF} (h : WkRow n₀ lo n B w v Fs) : WksAt ⟨n₀, lo, w.heap.size⟩ n B w v Fs := by
  obtain ⟨vs, h1, h2⟩ := h.row
  refine ⟨vs, SlW.of_owns h1 (Nat.le_refl _) (Nat.le_refl _), fun i hi u hu => ?_⟩
  obtain ⟨a, b, k1, k2, _, k4⟩ := h2 i hi u hu
  exact k4.wide (Nat.le_refl _) k1 k2
theorem WkRow.stays {n₀ lo n B : Nat} {w w' : World} {v : Value} {Fs : List DF} (h : WkRow n₀ lo n B w v Fs) (c : Cs n₀ w w') : WkRow n₀ lo n B w' v Fs := by
  obtain ⟨vs, h1, h2⟩ := h.row
  refine ⟨vs, c.owns h1, fun i hi u hu => ?_⟩
  obtain ⟨a, b, k1, k2, k3, k4⟩ := h2 i hi u hu
  exact ⟨a, b, k1, Nat.le_trans k2 c.size, k3, k4.stays (Ws.of_cs c (Nat.le_refl _))⟩
/-- the row grows by one -/
theorem WkRow.grown {n₀ lo n B : Nat} {w w' : World} {v u : Value} {Fs : List DF} {F : DF} {vs : List Value} {g cap : Nat} (hlo : n₀ ≤ lo) (h1 : w.ownsRow lo 95 1 v Fs.length vs)
    (h2 : ∀ i (h : i < Fs.length) u, vs[i]? = some u → ∃ a b, lo ≤ a ∧ b ≤ w.heap.size ∧ (∀ g, v.ownBlock = some g → g < a ∨ b ≤ g) ∧ IsWk ⟨n₀, a, b⟩ n B w u Fs[i])
    (a b : Nat) (ha : lo ≤ a) (hb : b ≤ w.heap.size) (hap : ∀ g, v.ownBlock = some g → g < a ∨ b ≤ g) (hu : IsWk ⟨n₀, a, b⟩ n B w u F)
    (ho : w'.ownsRow lo 95 1 (.slice (some ⟨g, 0, none⟩) (Fs.length + 1) cap) (Fs.length + 1) (vs ++ [u])) (hg : w.grownBy w' v.ownBlock) (hat : v.ownBlock = some g ∨ w.heap.size < g) :
    WkRow n₀ lo n B w' (.slice (some ⟨g, 0, none⟩) (Fs.length + 1) cap) (Fs ++ [F]) := by
  have hvl : vs.length = Fs.length := by have := h1.1; omega
  have key : ∀ a b, lo ≤ a → b ≤ w.heap.size → (∀ g, v.ownBlock = some g → g < a ∨ b ≤ g) → Ws ⟨n₀, a, b⟩ w w' ∧ ∀ g', Value.ownBlock (.slice (some ⟨g, 0, none⟩) (Fs.length + 1) cap) = some g' → g' < a ∨ b ≤ g' := fun a b ha hb hap => by
    refine ⟨Ws.grown hg (fun k hk => ⟨?_, hap k hk⟩), fun g' hg' => ?_⟩
    · have := (h1.lt k hk).1
      show n₀ ≤ k
      omega
    · have e : g' = g := by simpa [Value.ownBlock] using hg'.symm
      subst e
      rcases hat with h | h
      · exact hap _ h
      · exact .inr (by omega)
  refine ⟨vs ++ [u], by rw [List.length_append]; exact ho, fun i hi x hx => ?_⟩
  by_cases hil : i < Fs.length
  · rw [List.getElem?_append_left (by omega)] at hx
    obtain ⟨a', b', k1, k2, k3, k4⟩ := h2 i hil x hx
    obtain ⟨q1, q2⟩ := key a' b' k1 k2 k3
    exact ⟨a', b', k1, Nat.le_trans k2 hg.size, q2, by rw [List.getElem_append_left hil]; exact k4.stays q1⟩
  · have hie : i = Fs.length := by simp at hi; omega
    subst hie
    rw [← hvl, List.getElem?_append_right (Nat.le_refl _), Nat.sub_self] at hx
    cases hx
    obtain ⟨q1, q2⟩ := key a b ha hb hap
    exact ⟨a, b, ha, Nat.le_trans hb hg.size, q2, by rw [List.getElem_append_right (Nat.le_refl _)]; simpa using hu.stays q1⟩
set_option maxRecDepth 100000 in
set_option maxHeartbeats 4000000 in
/-- searcher.prefix -/
theorem Prefix_any (w₀ : World) (sp : Value) (g : Nat) (l : List DocL) (f : Bytes) (W : World) (hq : Q w₀ W) (hg : SegAt w₀ g l (idxS l)) (hn : l.length ≤ 500) (hok : docsOk l) (hf : f.length ≤ 1000000000) :
    Calls Tryz.prog 74 #[sp, .pointer (some ⟨g, 0, none⟩), strV f] W fun e W' => ∃ v, e = .returned v ∧ IsWk ⟨w₀.heap.size, W.heap.size, W'.heap.size⟩ l.length (1000000 * 2001) W' v (prefixF (termsL l) l f) ∧ Q W W' := by
  by_cases h0 : f = []
  · subst h0
    have e : prefixF (termsL l) l [] = noneF := by unfold prefixF; rw [if_pos rfl]
    rw [e]
    clear e
    go_enter Tryz.func74, Tryz.ntmps74
    go_wp2_with fail
    go_ret
    exact ⟨_, rfl, IsWk.nothing _ _ _ _, Q.refl _⟩
  · obtain ⟨i0, hi, hz0, hz1, hz2⟩ := info_parts tinfoWk
    have hb : (f == []) = false := beq_eq_false_iff_ne.2 h0
    have e : prefixF (termsL l) l f = someF (((termsL l).filter fun t => f.isPrefixOf t).map (termF l)) := by unfold prefixF; rw [if_neg h0]
    have c := SegTerms_any g l f W (hg.stays hq) hn hok hf
    have htl : ((termsL l).filter fun t => f.isPrefixOf t).length ≤ 1000000 := Nat.le_trans (List.length_filter_le _ _) (termsL_len l hn (docs_small hok))
    rw [e]
    generalize (termsL l).filter (fun t => f.isPrefixOf t) = ts at *
    have ht := fun (z : Zone) (w : World) (t : Bytes) (hq : Q w₀ w) (hz : z.n = w₀.heap.size) => IsWk.term (z := z) (w := w) t hg hq hz hn hok
    have C := Lib.hid c; have HT := Lib.hid ht; have HQ := Lib.hid hq
    have hsz : w₀.heap.size ≤ W.heap.size := hq.size
    clear c ht e hg hok hq h0
    go_enter Tryz.func74, Tryz.ntmps74
    go_wp2_with fail
    refine C.out.mono ?_
    rintro e w1 ⟨v, rfl, ho, q1⟩
    obtain ⟨a, cap, rfl, hsm⟩ := owns_value ho
    have HO := Lib.hid ho; have HQ1 := Lib.hid q1
    obtain ⟨n, hnn⟩ : ∃ n, n = ts.length := ⟨_, rfl⟩
    rw [← hnn] at htl ⊢
    have HN := Lib.hid hnn; have HSM := Lib.hid hsm
    clear ho q1 C hsm hnn hb
    go_wp2_with fail
    go_loopw [7, 18] (fun lv i wr => ∃ (k : Nat), k ≤ n ∧ i = .int .i64 (k : Nat) ∧ Hid (WkRow w₀.heap.size w1.heap.size l.length 2001 wr lv ((ts.take k).map (termF l))) ∧ Hid (Q w1 wr)) (fun _ i _ => n - (intOf i).toNat)
    case atStart => exact ⟨0, by omega, rfl, WkRow.nil _ _ _ _ _, Q.refl _⟩
    case round =>
      obtain ⟨k, hk, rfl, HR, HQ2⟩ := hrel
      obtain ⟨wo, rfl⟩ : ∃ wo : World, wo = wr := ⟨_, rfl⟩
      by_cases hlt : k < n
      · have hlt' : k < ts.length := by have := HN.out; omega
        obtain ⟨gt, rfl⟩ := HSM.out (by omega)
        have hc := owns_cell (ownsRow_below HO.out HQ2.out) (by have := HN.out; omega) k (strV ts[k]) (by rw [List.getElem?_map, List.getElem?_eq_getElem hlt']; rfl)
        obtain ⟨vs, hvs, hws⟩ := HR.out.row
        have hlk : ((ts.take k).map (termF l)).length = k := by rw [List.length_map, List.length_take]; omega
        have hst : (ts.take (k + 1)).map (termF l) = (ts.take k).map (termF l) ++ [termF l ts[k]] := by rw [List.take_succ_eq_append_getElem hlt', List.map_append]; rfl
        have hu := fun z w hq hz => HT.out z w ts[k] hq hz
        have hq3 : Q w₀ wo := (HQ.out.trans HQ1.out).trans HQ2.out
        have hi1 : (k : Int) < (n : Int) := by omega
        have hi2 : (0 : Int) ≤ (k : Int) := by omega
        generalize ts[k] = t at *
        generalize hFk : (ts.take k).map (termF l) = Fk at *
        have HWS := Lib.hid hws; have HU := Lib.hid hu; have HST := Lib.hid hst; have HQ3 := Lib.hid hq3; have HLK := Lib.hid hlk
        obtain ⟨va, vcap, rfl, _⟩ := owns_value hvs
        have hsz2 : w1.heap.size ≤ wo.heap.size := HQ2.out.size
        have hsz1 : W.heap.size ≤ w1.heap.size := HQ1.out.size
        have hkk : Fk.length ≤ 1000000 := by omega
        clear hws hu hst hq3 HR hlk hFk
        go_wp2_with (at_builtin; go_must (refine wpList_app wo (by rfl) _ _ 183 (by rfl) w1.heap.size 95 _ i0 .nilIface 1 16 Tryz.underlying183 hi hz0 hz1 hz2 rfl (by decide) (by decide) _ _ _ (by rfl) hvs #[.iface 185 (.agg #[.pointer (some ⟨g, 0, none⟩), strV t])] (by simp [Act.eval]) rfl ?c1 ?c2 hsz2 ?_))
        case c1 => simp [Value.oneCell']
        case c2 => omega
        intro g6 cap6 w6 hown6 hg6 hat6 hlt6 hsz6
        have q6 : Q w1 w6 := grown_below HQ2.out hvs hg6 (Nat.le_refl _) hsz2
        have hr6 := WkRow.grown (by omega) hvs HWS.out wo.heap.size wo.heap.size hsz2 (Nat.le_refl _) (fun g h => .inl (hvs.lt g h).2) (HU.out ⟨w₀.heap.size, wo.heap.size, wo.heap.size⟩ wo HQ3.out rfl) (by simpa using hown6) hg6 hat6
        rw [← HST.out] at hr6
        have HR6 := Lib.hid hr6; have HQ6 := Lib.hid q6
        clear hown6 hg6 hat6 hr6 q6 hvs HWS HU HST HO hc
        go_wp2_with fail
        go_roundw
        case rel => exact ⟨k + 1, by omega, by go_num, HR6, HQ6⟩
        case measure => simp [intOf]; omega
      · have hke : k = n := by omega
        subst hke
        have hr := HR.out
        rw [HN.out, List.take_length] at hr
        have hll : (ts.map (termF l)).length ≤ 1000000 := by rw [List.length_map]; have := HN.out; omega
        have hwk := hr.done
        obtain ⟨va, vcap, hv, _⟩ := hwk.value
        rw [List.length_map] at hv
        subst hv
        have hsome := IsWk.someOf hwk hll (by omega)
        have HS := Lib.hid hsome; have HLL := Lib.hid hll
        have hsz1 : W.heap.size ≤ w1.heap.size := HQ1.out.size
        clear hr hwk hsome HR hll
        go_wp2_with fail
        go_ret
        refine ⟨_, rfl, (HS.out.wide (z' := ⟨w₀.heap.size, W.heap.size, wo.heap.size⟩) (Nat.le_refl _) hsz1 (Nat.le_refl _)).more (Nat.le_refl _) (Nat.mul_le_mul_right _ HLL.out), HQ1.out.trans HQ2.out⟩
end Go.Proofs.YtcflpcpkmhljkaaGreatDoor
end

/- (WWk2) score: rows of walkers of queries; searcher.both. -/
section
namespace Go.Proofs.YtcflpcpkmhljkaaGreatDoor
open Go.RowKit
set_option linter.unusedVariables false

theorem walksF_map (l : List DocL) (wt : Bytes → Nat) (qs : List QL) : walksF l wt qs = qs.map (walkF l wt) := by
  induction qs with
  | nil => rfl
  | cons q qs ih => rw [walksF, ih]; rfl
/-- a query's cells -/
theorem QryAt.form {w : World} {q : QL} {c0 c1 c2 c3 c4 : Value} (h : QryAt w q (.agg #[c0, c1, c2, c3, c4])) : ∃ k s a1 n1 p1 a2 n2 p2 a3 n3 p3, c0 = .int .i64 k ∧ c1 = strV s ∧ c2 = .slice a1 n1 p1 ∧ c3 = .slice a2 n2 p2 ∧ c4 = .slice a3 n3 p3 := by
  cases q with
  | mk k s m sh n =>
    obtain ⟨vm, vs, vn, he, ⟨a1, p1, e1, _⟩, ⟨a2, p2, e2, _⟩, ⟨a3, p3, e3, _⟩⟩ := h.open
    injection he with he
    injection he with he
    injection he with h0 he
    injection he with h1 he
    injection he with h2 he
    injection he with h3 he
    injection he with h4 he
    exact ⟨k, s, a1, _, p1, a2, _, p2, a3, _, p3, h0, h1, h2.trans e1, h3.trans e2, h4.trans e3⟩
/-- what searcher.walker tells of a query -/
def WkC (w₀ : World) (pv : Value) (n : Nat) (wt : Bytes → Nat) (sb mb g : Nat) (l : List DocL) (q : QL) : Prop :=
  ∀ (W : World) (v : Value), SrS w₀ pv n wt sb mb W → QryAt w₀ q v → Calls Tryz.prog 41 #[.pointer (some ⟨sb, 0, none⟩), .pointer (some ⟨g, 0, none⟩), v] W fun e W' =>
    ∃ u, e = .returned u ∧ IsWk ⟨w₀.heap.size, W.heap.size, W'.heap.size⟩ l.length topB W' u (walkF l wt q) ∧ Cs w₀.heap.size W W' ∧ SrS w₀ pv n wt sb mb W'
theorem Blk.cellAt {w : World} {k : Nat} {t : TypeId} {cs : Array Value} (h : Blk w k t cs) : ∀ i (hi : i < cs.size), w.cell? ⟨k, i, none⟩ = some cs[i] := fun i hi => h.cell i _ (Array.getElem?_eq_getElem hi)
theorem Blk.c5 {w : World} {k : Nat} {t : TypeId} {a b c d e : Value} (h : Blk w k t #[a, b, c, d, e]) : w.cell? ⟨k, 0, none⟩ = some a ∧ w.cell? ⟨k, 1, none⟩ = some b ∧ w.cell? ⟨k, 2, none⟩ = some c ∧ w.cell? ⟨k, 3, none⟩ = some d ∧ w.cell? ⟨k, 4, none⟩ = some e :=
  ⟨h.cell 0 _ rfl, h.cell 1 _ rfl, h.cell 2 _ rfl, h.cell 3 _ rfl, h.cell 4 _ rfl⟩
set_option maxRecDepth 100000 in
set_option maxHeartbeats 4000000 in
theorem Walkers_any (w₀ : World) (pv : Value) (n : Nat) (wt : Bytes → Nat) (sb mb g : Nat) (l : List DocL) (qs : List QL) (lv : Value) (W : World) (hwk : ∀ q ∈ qs, WkC w₀ pv n wt sb mb g l q) (hs : SrS w₀ pv n wt sb mb W) (hq : QrysAt w₀ lv qs) (hn : qs.length ≤ 1000) :
    Calls Tryz.prog 117 #[.pointer (some ⟨sb, 0, none⟩), .pointer (some ⟨g, 0, none⟩), lv] W fun e W' => ∃ u, e = .returned u ∧ WksAt ⟨w₀.heap.size, W.heap.size, W'.heap.size⟩ l.length topB W' u (walksF l wt qs) ∧ Cs w₀.heap.size W W' ∧ SrS w₀ pv n wt sb mb W' := by
  obtain ⟨i0, hi, hz0, hz1, hz2⟩ := info_parts tinfoWk
  rw [walksF_map]
  obtain ⟨a, cap, rfl, hcell⟩ := hq
  have HW := Lib.hid hwk; have HS := Lib.hid hs; have HC := Lib.hid hcell
  have hsz : w₀.heap.size ≤ W.heap.size := hs.q.size
  obtain ⟨m, hm⟩ : ∃ m, m = qs.length := ⟨_, rfl⟩
  rw [← hm] at hn ⊢
  have HM := Lib.hid hm
  clear hwk hs hcell hm
  go_enter Tryz.func117, Tryz.ntmps117
  go_wp2_with fail
  go_loopw [7, 12] (fun lv i wr => ∃ (k : Nat), k ≤ m ∧ i = .int .i64 (k : Nat) ∧ Hid (WkRow w₀.heap.size W.heap.size l.length topB wr lv ((qs.take k).map (walkF l wt))) ∧ Hid (Cs w₀.heap.size W wr) ∧ Hid (SrS w₀ pv n wt sb mb wr)) (fun _ i _ => m - (intOf i).toNat)
  case atStart => exact ⟨0, by omega, rfl, WkRow.nil _ _ _ _ _, Cs.refl _ _, HS.out⟩
  case round =>
    obtain ⟨k, hk, rfl, HR, HCS, HSS⟩ := hrel
    obtain ⟨wo, rfl⟩ : ∃ wo : World, wo = wr := ⟨_, rfl⟩
    by_cases hlt : k < m
    · have hlt' : k < qs.length := by have := HM.out; omega
      obtain ⟨b, off, rfl, hcc⟩ := HC.out (by omega)
      obtain ⟨c0, c1, c2, c3, c4, ⟨g0, g1, g2, g3, g4⟩, hqk⟩ := hcc.at k hlt'
      obtain ⟨fk, fs, a1, n1, p1, a2, n2, p2, a3, n3, p3, rfl, rfl, rfl, rfl, rfl⟩ := hqk.form
      have u0 := cell_stays HSS.out.q g0; have u1 := cell_stays HSS.out.q g1; have u2 := cell_stays HSS.out.q g2; have u3 := cell_stays HSS.out.q g3; have u4 := cell_stays HSS.out.q g4
      have hst : (qs.take (k + 1)).map (walkF l wt) = (qs.take k).map (walkF l wt) ++ [walkF l wt qs[k]] := by rw [List.take_succ_eq_append_getElem hlt', List.map_append]; rfl
      have hlk : ((qs.take k).map (walkF l wt)).length = k := by rw [List.length_map, List.length_take]; omega
      have c := HW.out qs[k] (List.getElem_mem hlt') (wo.alloc (.cells #[.int .i64 fk, strV fs, .slice a1 n1 p1, .slice a2 n2 p2, .slice a3 n3 p3] 32)) _ (HSS.out.stays (Q.alloc _ _)) hqk
      generalize qs[k] = q at *
      generalize hFk : (qs.take k).map (walkF l wt) = Fk at *
      obtain ⟨vs, hvs, hws⟩ := HR.out.row
      obtain ⟨va, vcap, rfl, _⟩ := owns_value hvs
      have hi1 : (k : Int) < (m : Int) := by omega
      have hi2 : (0 : Int) ≤ (k : Int) := by omega
      obtain ⟨y0, y1, y2, y3, y4⟩ := (Blk.new wo 32 #[.int .i64 fk, strV fs, .slice a1 n1 p1, .slice a2 n2 p2, .slice a3 n3 p3]).c5
      have C := Lib.hid c; have HST := Lib.hid hst; have HLK := Lib.hid hlk; have HVS := Lib.hid hvs
      clear c hst g0 g1 g2 g3 g4 hqk hcc hlk hvs hws hFk
      go_wp2_with fail
      refine C.out.mono ?_
      rintro e w1 ⟨u, rfl, hwk, hcs, hss⟩
      have hcs1 : Cs w₀.heap.size wo w1 := (Cs.of_q (Q.alloc _ _)).trans hcs
      have hrow := HR.out.stays hcs1
      have hcs2 := HCS.out.trans hcs1
      have hb0 : W.heap.size ≤ wo.heap.size := HCS.out.size
      have hb1 : W.heap.size ≤ w1.heap.size := hcs2.size
      have hap : ∀ g, Value.ownBlock (.slice va Fk.length vcap) = some g → g < (wo.alloc (.cells #[.int .i64 fk, strV fs, .slice a1 n1 p1, .slice a2 n2 p2, .slice a3 n3 p3] 32)).heap.size ∨ w1.heap.size ≤ g := fun g hg => .inl (by have := (HVS.out.lt g hg).2; simp; omega)
      have halo : W.heap.size ≤ (wo.alloc (.cells #[.int .i64 fk, strV fs, .slice a1 n1 p1, .slice a2 n2 p2, .slice a3 n3 p3] 32)).heap.size := by simp; omega
      have hvs := hcs1.owns HVS.out
      obtain ⟨vs2, hvs2, hws2⟩ := hrow.row
      clear hvs
      obtain ⟨ut, ux, ug, hue, _⟩ := hwk.is
      subst hue
      have hkk : Fk.length ≤ 1000000 := by have := HLK.out; omega
      have HWK := Lib.hid hwk; have HCS2 := Lib.hid hcs2; have HSS2 := Lib.hid hss; have HWS2 := Lib.hid hws2; have HAP := Lib.hid hap
      clear hwk hcs hss hcs1 hrow hcs2 hws2 hap C u0 u1 u2 u3 u4 y0 y1 y2 y3 y4 HR HCS HSS HVS
      go_wp2_with (at_builtin; go_must (refine wpList_app w1 (by rfl) _ _ 183 (by rfl) W.heap.size 95 _ i0 .nilIface 1 16 Tryz.underlying183 hi hz0 hz1 hz2 rfl (by decide) (by decide) _ _ _ (by rfl) hvs2 #[.iface ut ux] (by simp [Act.eval]) rfl ?c1 ?c2 hb1 ?_))
      case c1 => simp [Value.oneCell']
      case c2 => omega
      intro g6 cap6 w6 hown6 hg6 hat6 hlt6 hsz6
      have hr6 := WkRow.grown hsz hvs2 HWS2.out _ _ halo (Nat.le_refl _) HAP.out HWK.out (by simpa using hown6) hg6 hat6
      rw [← HST.out] at hr6
      have hc6 := HCS2.out.grown hvs2 hg6 (Nat.le_refl _) hsz
      have hs6 := HSS2.out.grown hvs2 hg6 hsz (by decide)
      have HR6 := Lib.hid hr6; have HC6 := Lib.hid hc6; have HS6 := Lib.hid hs6
      clear hown6 hg6 hat6 hr6 hc6 hs6 hvs2 HWS2 HST HWK HAP
      go_wp2_with fail
      go_roundw
      case rel => exact ⟨k + 1, by omega, by go_num, HR6, HC6, HS6⟩
      case measure => simp [intOf]; omega
    · have hke : k = m := by omega
      subst hke
      have hr := HR.out
      rw [HM.out, List.take_length] at hr
      have HR2 := Lib.hid hr.done
      clear hr HR
      go_wp2_with fail
      go_ret
      exact ⟨_, rfl, HR2.out, HCS.out, HSS.out⟩
theorem WksAt.more {z : Zone} {n n' B B' : Nat} {w : World} {v : Value} {Fs : List DF} (h : WksAt z n B w v Fs) (hn : n ≤ n') (hB : B ≤ B') : WksAt z n' B' w v Fs := by
  obtain ⟨vs, h1, h2⟩ := h
  exact ⟨vs, h1, fun i hi u hu => (h2 i hi u hu).more hn hB⟩
theorem Ws.set {z : Zone} (A : World) (b i : Nat) (v : Value) (hn : z.n ≤ b) (h : b < z.lo ∨ z.hi ≤ b) : Ws z A (A.setCell ⟨b, i, none⟩ v) :=
  Ws.grown (grownBy_setCellAt A b i v) (fun k hk => by injection hk with hk; subst hk; exact ⟨hn, h⟩)
/-- one walker in a row -/
theorem SlW.one (z : Zone) (w : World) (u : Value) (hl : z.lo ≤ w.heap.size) (hh : w.heap.size < z.hi) : SlW z (w.alloc (.cells #[u] 95)) (.slice (some ⟨w.heap.size, 0, none⟩) 1 1) 1 1 [u] := SlW.lit z w #[u] 95 1 1 rfl hl hh
theorem WksAt.one {z : Zone} {n B : Nat} {w : World} {v u : Value} {F : DF} (h : SlW z w v 1 1 [u]) (hu : IsWk z n B w u F) : WksAt z n B w v [F] :=
  ⟨[u], h, fun i hi x hx => by
    have : i = 0 := by simp at hi; omega
    subst this
    cases hx; exact hu⟩
end Go.Proofs.YtcflpcpkmhljkaaGreatDoor
end

/- (WWk3b) score: searcher.both: the region that lays its box. -/
section
namespace Go.Proofs.YtcflpcpkmhljkaaGreatDoor
open Go.RowKit
set_option linter.unusedVariables false

def bigB : Nat := 100000000000000
/-- the must of a node that has some, or of one that has none -/
theorem must_some (n : Nat) {M S : List DF} (h : M ≠ []) : mustF n M S = M := by unfold mustF; rw [if_neg h]
theorem must_all (n : Nat) {M S : List DF} (h : M = []) (hs : S = []) : mustF n M S = [freeF (everyF n)] := by unfold mustF; rw [if_pos h, if_pos hs]
theorem must_may (n : Nat) {M S : List DF} (h : M = []) (hs : S ≠ []) : mustF n M S = [freeF (someF S)] := by unfold mustF; rw [if_pos h, if_neg hs]
/-- the walkers of a node whose must there is -/
theorem both_is {n₀ lo n B : Nat} {w W : World} {vm vs vn : Value} {M S N : List DF} {a b c d : Nat} (hm : WksAt ⟨n₀, a, b⟩ n topB W vm M) (hs : WksAt ⟨n₀, b, c⟩ n topB W vs S) (hn : WksAt ⟨n₀, c, d⟩ n topB W vn N)
    (h1 : lo ≤ a) (h2 : a ≤ b) (h3 : b ≤ c) (h4 : c ≤ d) (h5 : d ≤ W.heap.size) (hl : M.length ≤ 100 ∧ S.length ≤ 100 ∧ N.length ≤ 100) (hne : 0 < M.length) (hnn : n ≤ 500) (hf : ∀ i s, bothF M S N i = some s → i < n ∧ s ≤ B) :
    IsWk ⟨n₀, lo, W.heap.size⟩ n B W (.iface 203 (.agg #[vm, vs, vn])) (bothF M S N) :=
  (IsWk.bothOf (hm.wide (z' := ⟨n₀, lo, W.heap.size⟩) (Nat.le_refl _) h1 (by show b ≤ W.heap.size; omega)) (hs.wide (z' := ⟨n₀, lo, W.heap.size⟩) (Nat.le_refl _) (by show lo ≤ b; omega) (by show c ≤ W.heap.size; omega)) (hn.wide (z' := ⟨n₀, lo, W.heap.size⟩) (Nat.le_refl _) (by show lo ≤ c; omega) (by show d ≤ W.heap.size; omega)) ⟨by omega, by omega, by omega⟩ (by decide) hne (by omega)).refit rfl hf
/-- the walkers of a node whose must is one, that was laid behind the others -/
theorem both_one {n₀ lo n B : Nat} {W : World} {vm vs vn u : Value} {F : DF} {S N : List DF} {b c d e : Nat} {zu : Zone} (hm : SlW ⟨n₀, e, e + 1⟩ W vm 1 1 [u]) (hu : IsWk zu n bigB W u F) (hs : WksAt ⟨n₀, b, c⟩ n topB W vs S) (hn : WksAt ⟨n₀, c, d⟩ n topB W vn N)
    (hz : zu.n = n₀ ∧ lo ≤ zu.lo ∧ zu.hi ≤ W.heap.size) (h1 : lo ≤ b) (h3 : b ≤ c) (h4 : c ≤ d) (h5 : d ≤ W.heap.size) (he : lo ≤ e ∧ e < W.heap.size) (hl : S.length ≤ 100 ∧ N.length ≤ 100) (hnn : n ≤ 500) (hf : ∀ i s, bothF [F] S N i = some s → i < n ∧ s ≤ B) :
    IsWk ⟨n₀, lo, W.heap.size⟩ n B W (.iface 203 (.agg #[vm, vs, vn])) (bothF [F] S N) := by
  have k1 : WksAt ⟨n₀, lo, W.heap.size⟩ n bigB W vm [F] := WksAt.one (hm.wide he.1 (by show e + 1 ≤ W.heap.size; omega)) (hu.wide (by rw [hz.1]; exact Nat.le_refl _) hz.2.1 hz.2.2)
  have k2 : WksAt ⟨n₀, lo, W.heap.size⟩ n bigB W vs S := (hs.wide (z' := ⟨n₀, lo, W.heap.size⟩) (Nat.le_refl _) h1 (by show c ≤ W.heap.size; omega)).more (B' := bigB) (Nat.le_refl _) (by decide)
  have k3 : WksAt ⟨n₀, lo, W.heap.size⟩ n bigB W vn N := (hn.wide (z' := ⟨n₀, lo, W.heap.size⟩) (Nat.le_refl _) (by show lo ≤ c; omega) (by show d ≤ W.heap.size; omega)).more (B' := bigB) (Nat.le_refl _) (by decide)
  exact (IsWk.bothOf k1 k2 k3 ⟨by simp, by omega, by omega⟩ (by decide) (by simp) (by omega)).refit rfl hf
theorem Cs.dr {n : Nat} {A B : World} (h : Cs n A B) : Cs n A B.drew := h.trans (Cs.of_q (Q.drew _))
theorem Cs.al {n : Nat} {A B : World} (h : Cs n A B) (o : Obj) : Cs n A (B.alloc o) := h.trans (Cs.of_q (Q.alloc _ _))
theorem Cs.st {n : Nat} {A B : World} (h : Cs n A B) {b : Nat} (hA : A.heap.size ≤ b) (hn : n ≤ b) (i : Nat) (v : Value) : Cs n A (B.setCell ⟨b, i, none⟩ v) :=
  ⟨h.os, h.tape, h.output, Nat.le_trans h.size (grownBy_setCellAt B b i v).size, fun k h1 h2 h3 => (Below.heap_setCell _ _ _ k (by simp only; omega)).trans (Itk.low h k h1 h2 h3),
    fun k o h1 h2 h3 => (Below.heap_setCell _ _ _ k (by have := lt_of_get h1; simp only; omega)).trans (Itk.cells h k o h1 h2 h3)⟩
theorem SrS.dr {w₀ : World} {pv : Value} {n : Nat} {wt : Bytes → Nat} {sb mb : Nat} {W : World} (h : SrS w₀ pv n wt sb mb W) : SrS w₀ pv n wt sb mb W.drew := h.stays (Q.drew _)
theorem SrS.al {w₀ : World} {pv : Value} {n : Nat} {wt : Bytes → Nat} {sb mb : Nat} {W : World} (h : SrS w₀ pv n wt sb mb W) (o : Obj) : SrS w₀ pv n wt sb mb (W.alloc o) := h.stays (Q.alloc _ _)
theorem SrS.set {w₀ : World} {pv : Value} {n : Nat} {wt : Bytes → Nat} {sb mb : Nat} {W : World} (h : SrS w₀ pv n wt sb mb W) {b : Nat} {t : TypeId} {cs : Array Value} (hb : Blk W b t cs) (ht : t ≠ 86) (hw : w₀.heap.size ≤ b) (i : Nat) (v : Value) : SrS w₀ pv n wt sb mb (W.setCell ⟨b, i, none⟩ v) := by
  obtain ⟨m, h1, h2⟩ := h.map
  have e1 : sb ≠ b := fun e => by
    have h5 : W.heap[b]? = some (.cells #[pv, .int .i64 (n : Nat), .map (some mb)] 86 (0, 0)) := by rw [← e]; exact h.blk
    rw [show W.heap[b]? = _ from hb] at h5
    injection h5 with h5
    injection h5 with _ h5
    exact ht h5
  have e2 : mb ≠ b := fun e => by
    obtain ⟨es, clock, h3, _⟩ := h1
    rw [e, show W.heap[b]? = _ from hb] at h3
    cases h3
  exact ⟨h.q.setCell hw _, h.blk.other ⟨b, i, none⟩ v e1, ⟨m, h1.same (Below.heap_setCell _ _ _ _ e2), h2⟩, h.sb_ge, h.mb_ge⟩
/-- walkers of a node: they lie apart from the node's box -/
def WkAp (n₀ lo n : Nat) (w : World) (bb : Nat) (v : Value) (Fs : List DF) : Prop := ∃ a b, lo ≤ a ∧ b ≤ w.heap.size ∧ (bb < a ∨ b ≤ bb) ∧ WksAt ⟨n₀, a, b⟩ n topB w v Fs
theorem WkAp.set {n₀ lo n : Nat} {w : World} {bb : Nat} {v : Value} {Fs : List DF} (h : WkAp n₀ lo n w bb v Fs) (hn : n₀ ≤ bb) (i : Nat) (u : Value) : WkAp n₀ lo n (w.setCell ⟨bb, i, none⟩ u) bb v Fs := by
  obtain ⟨a, b, h1, h2, h3, h4⟩ := h
  exact ⟨a, b, h1, Nat.le_trans h2 (grownBy_setCellAt w bb i u).size, h3, h4.stays (Ws.set w bb i u hn h3)⟩
theorem WkAp.later {n₀ lo n : Nat} {w w' : World} {bb : Nat} {v : Value} {Fs : List DF} (h : WkAp n₀ lo n w bb v Fs) (c : Cs n₀ w w') : WkAp n₀ lo n w' bb v Fs := by
  obtain ⟨a, b, h1, h2, h3, h4⟩ := h
  exact ⟨a, b, h1, Nat.le_trans h2 c.size, h3, h4.stays (Ws.of_cs c (Nat.le_refl _))⟩
/-- behind a node's box: the walkers of its lists -/
structure BothSt (w₀ : World) (pv : Value) (nd : Nat) (wt : Bytes → Nat) (sb mb : Nat) (wb : World) (n lo : Nat) (M S N : List DF) (Wf : World) (bb : Nat) (v1 v2 v3 : Value) : Prop where
  cs : Cs w₀.heap.size wb Wf
  srs : SrS w₀ pv nd wt sb mb Wf
  blk : Blk Wf bb 203 #[v1, v2, v3]
  new : wb.heap.size ≤ bb
  m : WkAp w₀.heap.size lo n Wf bb v1 M
  s : WkAp w₀.heap.size lo n Wf bb v2 S
  n' : WkAp w₀.heap.size lo n Wf bb v3 N
theorem BothSt.fresh {w₀ : World} {pv : Value} {nd : Nat} {wt : Bytes → Nat} {sb mb : Nat} {wb : World} {n lo : Nat} {M S N : List DF} {w : World} {v1 v2 v3 : Value} (c : Cs w₀.heap.size wb w) (hs : SrS w₀ pv nd wt sb mb w)
    (m : WkAp w₀.heap.size lo n w w.heap.size v1 M) (s : WkAp w₀.heap.size lo n w w.heap.size v2 S) (n' : WkAp w₀.heap.size lo n w w.heap.size v3 N) : BothSt w₀ pv nd wt sb mb wb n lo M S N (w.alloc (.cells #[v1, v2, v3] 203)) w.heap.size v1 v2 v3 :=
  ⟨c.al _, hs.al _, Blk.new _ _ _, c.size, m.later (Cs.of_q (Q.alloc _ _)), s.later (Cs.of_q (Q.alloc _ _)), n'.later (Cs.of_q (Q.alloc _ _))⟩
theorem BothSt.filled {w₀ : World} {pv : Value} {nd : Nat} {wt : Bytes → Nat} {sb mb : Nat} {wb : World} {n lo : Nat} {M S N : List DF} {w : World} {bb : Nat} {u1 u2 u3 v1 v2 v3 : Value} (hw : w₀.heap.size ≤ wb.heap.size) (c : Cs w₀.heap.size wb w) (hs : SrS w₀ pv nd wt sb mb w) (hb : Blk w bb 203 #[u1, u2, u3]) (hn : wb.heap.size ≤ bb)
    (m : WkAp w₀.heap.size lo n w bb v1 M) (s : WkAp w₀.heap.size lo n w bb v2 S) (n' : WkAp w₀.heap.size lo n w bb v3 N) : BothSt w₀ pv nd wt sb mb wb n lo M S N (((w.setCell ⟨bb, 0, none⟩ v1).setCell ⟨bb, 1, none⟩ v2).setCell ⟨bb, 2, none⟩ v3) bb v1 v2 v3 := by
  have h0 : w₀.heap.size ≤ bb := Nat.le_trans hw hn
  refine ⟨((c.st hn h0 0 v1).st hn h0 1 v2).st hn h0 2 v3, ((hs.set hb (by decide) h0 0 v1).set (hb.set 0 v1) (by decide) h0 1 v2).set ((hb.set 0 v1).set 1 v2) (by decide) h0 2 v3, (hb.r3 v1 v2 v3).2.2.2, hn, ((m.set h0 0 v1).set h0 1 v2).set h0 2 v3, ((s.set h0 0 v1).set h0 1 v2).set h0 2 v3, ((n'.set h0 0 v1).set h0 1 v2).set h0 2 v3⟩
noncomputable def bothRow : Code := ((Tryz.f76.body.bind (findRegion 1)).getD .skip)
theorem cells3 {n : Nat} {A B : World} (h : Cs n A B) {b : Nat} {x y z : Value} (k2 : A.cell? ⟨b, 2, none⟩ = some x) (k3 : A.cell? ⟨b, 3, none⟩ = some y) (k4 : A.cell? ⟨b, 4, none⟩ = some z) : B.cell? ⟨b, 2, none⟩ = some x ∧ B.cell? ⟨b, 3, none⟩ = some y ∧ B.cell? ⟨b, 4, none⟩ = some z := ⟨h.cell k2, h.cell k3, h.cell k4⟩
set_option maxRecDepth 100000 in
set_option maxHeartbeats 16000000 in
theorem both_row (w₀ : World) (pv : Value) (nd : Nat) (wt : Bytes → Nat) (sb mb n lo B : Nat) (sp gp xa : Value) (wb : World) (M S N : List DF) (vm vs vn : Value) (hsb : SrS w₀ pv nd wt sb mb wb)
    (cm : ∀ W, SrS w₀ pv nd wt sb mb W → Calls Tryz.prog 117 #[sp, gp, vm] W fun e W' => ∃ u, e = .returned u ∧ WksAt ⟨w₀.heap.size, W.heap.size, W'.heap.size⟩ n topB W' u M ∧ Cs w₀.heap.size W W' ∧ SrS w₀ pv nd wt sb mb W')
    (cs : ∀ W, SrS w₀ pv nd wt sb mb W → Calls Tryz.prog 117 #[sp, gp, vs] W fun e W' => ∃ u, e = .returned u ∧ WksAt ⟨w₀.heap.size, W.heap.size, W'.heap.size⟩ n topB W' u S ∧ Cs w₀.heap.size W W' ∧ SrS w₀ pv nd wt sb mb W')
    (cn : ∀ W, SrS w₀ pv nd wt sb mb W → Calls Tryz.prog 117 #[sp, gp, vn] W fun e W' => ∃ u, e = .returned u ∧ WksAt ⟨w₀.heap.size, W.heap.size, W'.heap.size⟩ n topB W' u N ∧ Cs w₀.heap.size W W' ∧ SrS w₀ pv nd wt sb mb W')
    (k2 : wb.cell? ⟨B, 2, none⟩ = some vm) (k3 : wb.cell? ⟨B, 3, none⟩ = some vs) (k4 : wb.cell? ⟨B, 4, none⟩ = some vn) (hlo : lo ≤ wb.heap.size) (hw : w₀.heap.size ≤ wb.heap.size)
    (Qx : Exit → Act → World → Prop) (x2 x4 x5 x7 x8 x9 x10 x11 x12 x13 x14 x15 x16 x17 x18 x19 x20 x21 x22 x23 x24 x25 x26 x27 x28 x29 x30 x31 x32 x33 x34 x35 x36 x37 x38 x39 x40 x41 x42 x43 x44 x45 x46 x47 x48 : Value)
    (hQ : ∀ (Wf : World) (bb : Nat) (a1 a2 a3 : Option Addr) (p1 p2 p3 : Nat) (z10 z11 z12 z13 z14 z15 z16 z17 z18 z19 z20 z21 z22 z23 z24 z25 : Value), BothSt w₀ pv nd wt sb mb wb n lo M S N Wf bb (.slice a1 M.length p1) (.slice a2 S.length p2) (.slice a3 N.length p3) → Qx .normal ⟨#[sp, gp, x2, xa, x4, x5, .pointer (some ⟨B, 0, none⟩), x7, x8, .pointer (some ⟨bb, 0, none⟩), z10, z11, z12, z13, z14, z15, z16, z17, z18, z19, z20, z21, z22, z23, z24, z25, x26, x27, x28, x29, x30, x31, x32, x33, x34, x35, x36, x37, x38, x39, x40, x41, x42, x43, x44, x45, x46, x47, x48], []⟩ Wf) :
    bothRow.wp Tryz.prog Qx ⟨#[sp, gp, x2, xa, x4, x5, .pointer (some ⟨B, 0, none⟩), x7, x8, x9, x10, x11, x12, x13, x14, x15, x16, x17, x18, x19, x20, x21, x22, x23, x24, x25, x26, x27, x28, x29, x30, x31, x32, x33, x34, x35, x36, x37, x38, x39, x40, x41, x42, x43, x44, x45, x46, x47, x48], []⟩ wb := by
  conv => arg 2; whnf
  have hmx : Tryz.prog.follows .mixedOrders = true := by kernel_rfl
  have CM := Lib.hid cm; have CS := Lib.hid cs; have CN := Lib.hid cn; have HQX := Lib.hid hQ; have KK := Lib.hid (And.intro (Cs.refl w₀.heap.size wb) hsb)
  clear cm cs cn hQ hsb
  go_region_held3 (fun w' => w'.cell? ⟨B, 2, none⟩ = some vm ∧ w'.cell? ⟨B, 3, none⟩ = some vs ∧ w'.cell? ⟨B, 4, none⟩ = some vn)
    (first | exact ⟨k2, k3, k4⟩ | exact cells3 (by repeat (first | with_reducible exact KK.out.1 | with_reducible apply Cs.al | with_reducible apply Cs.dr)) k2 k3 k4 | exact cells3 (((KK.out.1.st (by omega) (by omega) _ _).st (by omega) (by omega) _ _).st (by omega) (by omega) _ _) k2 k3 k4 | exact cells3 (((KK.out.1.dr.st (by omega) (by omega) _ _).st (by omega) (by omega) _ _).st (by omega) (by omega) _ _) k2 k3 k4)
    (first
      | (go_at_call 117; ((with_reducible refine (CM.out _ (by repeat (first | with_reducible exact KK.out.2 | with_reducible apply SrS.al | with_reducible apply SrS.dr))).mono ?_); rintro e w1 ⟨u1, rfl, hw1, hc1, hs1⟩); obtain ⟨a1, p1, hv1, _⟩ := hw1.value; subst hv1; have s' : Cs w₀.heap.size wb w1 ∧ SrS w₀ pv nd wt sb mb w1 := ⟨Cs.trans (by repeat (first | with_reducible exact KK.out.1 | with_reducible apply Cs.al | with_reducible apply Cs.dr)) hc1, hs1⟩; (try (have zb := hc1.blk (Blk.new _ 203 #[.slice none 0 0, .slice none 0 0, .slice none 0 0]); have ZB := Lib.hid zb; obtain ⟨zb0, zb1, zb2, zf0, zf1, zf2⟩ := zb.c3)); (try (have zb := hc1.blk ((Blk.new _ 203 #[.slice none 0 0, .slice none 0 0, .slice none 0 0]).stays (Q.drew _)); have ZB := Lib.hid zb; obtain ⟨zb0, zb1, zb2, zf0, zf1, zf2⟩ := zb.c3)); (try (have zb := hc1.blk ZB.out; have ZB := Lib.hid zb; obtain ⟨zb0, zb1, zb2, zf0, zf1, zf2⟩ := zb.c3)); (try (have zb := hc1.blk (ZB.out.stays (Q.drew _)); have ZB := Lib.hid zb; obtain ⟨zb0, zb1, zb2, zf0, zf1, zf2⟩ := zb.c3)); have z1 := s'.1.size; have y1 := hc1.size; have HW1 := Lib.hid hw1; have HC1 := Lib.hid hc1; clear KK; have KK := Lib.hid s'; clear s' hw1 hc1 hs1)
      | (go_at_call 117; ((with_reducible refine (CS.out _ (by repeat (first | with_reducible exact KK.out.2 | with_reducible apply SrS.al | with_reducible apply SrS.dr))).mono ?_); rintro e w2 ⟨u2, rfl, hw2, hc2, hs2⟩); obtain ⟨a2, p2, hv2, _⟩ := hw2.value; subst hv2; have s' : Cs w₀.heap.size wb w2 ∧ SrS w₀ pv nd wt sb mb w2 := ⟨Cs.trans (by repeat (first | with_reducible exact KK.out.1 | with_reducible apply Cs.al | with_reducible apply Cs.dr)) hc2, hs2⟩; (try (have zb := hc2.blk (Blk.new _ 203 #[.slice none 0 0, .slice none 0 0, .slice none 0 0]); have ZB := Lib.hid zb; obtain ⟨zb0, zb1, zb2, zf0, zf1, zf2⟩ := zb.c3)); (try (have zb := hc2.blk ((Blk.new _ 203 #[.slice none 0 0, .slice none 0 0, .slice none 0 0]).stays (Q.drew _)); have ZB := Lib.hid zb; obtain ⟨zb0, zb1, zb2, zf0, zf1, zf2⟩ := zb.c3)); (try (have zb := hc2.blk ZB.out; have ZB := Lib.hid zb; obtain ⟨zb0, zb1, zb2, zf0, zf1, zf2⟩ := zb.c3)); (try (have zb := hc2.blk (ZB.out.stays (Q.drew _)); have ZB := Lib.hid zb; obtain ⟨zb0, zb1, zb2, zf0, zf1, zf2⟩ := zb.c3)); have z2 := s'.1.size; have y2 := hc2.size; have HW2 := Lib.hid hw2; have c12 : Cs w₀.heap.size w1 w2 := Cs.trans (by repeat (first | with_reducible exact Cs.refl _ _ | with_reducible apply Cs.al | with_reducible apply Cs.dr)) hc2; have v2 := c12.size; have HC2 := Lib.hid c12; clear c12; clear KK; have KK := Lib.hid s'; clear s' hw2 hc2 hs2)
      | (go_at_call 117; ((with_reducible refine (CN.out _ (by repeat (first | with_reducible exact KK.out.2 | with_reducible apply SrS.al | with_reducible apply SrS.dr))).mono ?_); rintro e w3 ⟨u3, rfl, hw3, hc3, hs3⟩); obtain ⟨a3, p3, hv3, _⟩ := hw3.value; subst hv3; have s' : Cs w₀.heap.size wb w3 ∧ SrS w₀ pv nd wt sb mb w3 := ⟨Cs.trans (by repeat (first | with_reducible exact KK.out.1 | with_reducible apply Cs.al | with_reducible apply Cs.dr)) hc3, hs3⟩; (try (have zb := hc3.blk (Blk.new _ 203 #[.slice none 0 0, .slice none 0 0, .slice none 0 0]); have ZB := Lib.hid zb; obtain ⟨zb0, zb1, zb2, zf0, zf1, zf2⟩ := zb.c3)); (try (have zb := hc3.blk ((Blk.new _ 203 #[.slice none 0 0, .slice none 0 0, .slice none 0 0]).stays (Q.drew _)); have ZB := Lib.hid zb; obtain ⟨zb0, zb1, zb2, zf0, zf1, zf2⟩ := zb.c3)); (try (have zb := hc3.blk ZB.out; have ZB := Lib.hid zb; obtain ⟨zb0, zb1, zb2, zf0, zf1, zf2⟩ := zb.c3)); (try (have zb := hc3.blk (ZB.out.stays (Q.drew _)); have ZB := Lib.hid zb; obtain ⟨zb0, zb1, zb2, zf0, zf1, zf2⟩ := zb.c3)); have z3 := s'.1.size; have y3 := hc3.size; have HW3 := Lib.hid hw3; have c23 : Cs w₀.heap.size w2 w3 := Cs.trans (by repeat (first | with_reducible exact Cs.refl _ _ | with_reducible apply Cs.al | with_reducible apply Cs.dr)) hc3; have v3 := c23.size; have HC3 := Lib.hid c23; clear c23; clear KK; have KK := Lib.hid s'; clear s' hw3 hc3 hs3))
  all_goals refine HQX.out _ _ a1 a2 a3 p1 p2 p3 _ _ _ _ _ _ _ _ _ _ _ _ _ _ _ _ ?_
  all_goals (first
    | refine BothSt.fresh (by repeat (first | with_reducible exact KK.out.1 | with_reducible apply Cs.al | with_reducible apply Cs.dr)) (by repeat (first | with_reducible exact KK.out.2 | with_reducible apply SrS.al | with_reducible apply SrS.dr)) ?_ ?_ ?_
    | refine BothSt.filled hw (by repeat (first | with_reducible exact KK.out.1 | with_reducible apply Cs.al | with_reducible apply Cs.dr)) (by repeat (first | with_reducible exact KK.out.2 | with_reducible apply SrS.al | with_reducible apply SrS.dr)) (by first | exact ZB.out | exact ZB.out.stays (Q.drew _)) (by first | omega | (simp only [World.size_alloc]; omega)) ?_ ?_ ?_)
  all_goals (first
    | refine ⟨_, _, ?_, ?_, ?_, HW1.out.stays (Ws.of_cs (Cs.trans (HC2.out.trans HC3.out) (by repeat (first | with_reducible exact Cs.refl _ _ | with_reducible apply Cs.al | with_reducible apply Cs.dr))) (Nat.le_refl _))⟩
    | refine ⟨_, _, ?_, ?_, ?_, HW2.out.stays (Ws.of_cs (Cs.trans HC3.out (by repeat (first | with_reducible exact Cs.refl _ _ | with_reducible apply Cs.al | with_reducible apply Cs.dr))) (Nat.le_refl _))⟩
    | refine ⟨_, _, ?_, ?_, ?_, HW3.out.stays (Ws.of_cs (by repeat (first | with_reducible exact Cs.refl _ _ | with_reducible apply Cs.al | with_reducible apply Cs.dr)) (Nat.le_refl _))⟩)
  all_goals (have dz : ∀ w : World, w.drew.heap.size = w.heap.size := fun _ => rfl)
  all_goals (simp only [World.size_alloc, dz] at *)
  all_goals omega
end Go.Proofs.YtcflpcpkmhljkaaGreatDoor
end
