/- Joined texts of one proof: WWk3, Qry5, QryS, WWk4. -/
import Derived.Test.YtcflpcpkmhljkaaGreatDoorMWPhrToWWk3b
import Derived.Deep.RegionHeld3
import Derived.Test.YtcflpcpkmhljkaaGreatDoorMQry3ToMarks
import Derived.Sort.Statements
import Derived.Lib.Small
import Derived.Test.YtcflpcpkmhljkaaGreatDoorMWFoldedToWWordsR
set_option linter.unusedSimpArgs false
set_option linter.unusedVariables false
set_option linter.unnecessarySimpa false
/- (WWk3) score: searcher.both: walked. -/
section
namespace Go.Proofs.YtcflpcpkmhljkaaGreatDoor
open Go.RowKit
set_option linter.unusedVariables false

theorem WkAp.full {n₀ lo n : Nat} {w : World} {bb : Nat} {v : Value} {Fs : List DF} (h : WkAp n₀ lo n w bb v Fs) : WksAt ⟨n₀, lo, w.heap.size⟩ n topB w v Fs := by
  obtain ⟨a, b, h1, h2, h3, h4⟩ := h
  exact h4.wide (Nat.le_refl _) h1 h2
theorem both_full {z : Zone} {n B : Nat} {W : World} {vm vs vn : Value} {M S N : List DF} (hm : WksAt z n bigB W vm M) (hs : WksAt z n topB W vs S) (hn : WksAt z n topB W vn N)
    (hl : M.length ≤ 100 ∧ S.length ≤ 100 ∧ N.length ≤ 100) (hne : 0 < M.length) (hnn : n ≤ 500) (hf : ∀ i s, bothF M S N i = some s → i < n ∧ s ≤ B) :
    IsWk z n B W (.iface 203 (.agg #[vm, vs, vn])) (bothF M S N) :=
  (IsWk.bothOf hm (hs.more (B' := bigB) (Nat.le_refl _) (by decide)) (hn.more (B' := bigB) (Nat.le_refl _) (by decide)) ⟨by omega, by omega, by omega⟩ (by decide) hne (by omega)).refit rfl hf
/-- a must of one walker, laid behind the node's box -/
structure OneSt (w₀ : World) (pv : Value) (nd : Nat) (wt : Bytes → Nat) (sb mb : Nat) (wb : World) (n lo : Nat) (S N : List DF) (Wf : World) (bb : Nat) (v1 v2 v3 u : Value) : Prop where
  cs : Cs w₀.heap.size wb Wf
  srs : SrS w₀ pv nd wt sb mb Wf
  blk : Blk Wf bb 203 #[v1, v2, v3]
  new : wb.heap.size ≤ bb
  row : SlW ⟨w₀.heap.size, lo, Wf.heap.size⟩ Wf v1 1 1 [u]
  s : WkAp w₀.heap.size lo n Wf bb v2 S
  n' : WkAp w₀.heap.size lo n Wf bb v3 N
theorem OneSt.lay {w₀ : World} {pv : Value} {nd : Nat} {wt : Bytes → Nat} {sb mb : Nat} {wb : World} {n lo : Nat} {S N : List DF} {W : World} {bb : Nat} {v1 v2 v3 : Value} (u : Value) (hw : w₀.heap.size ≤ wb.heap.size) (hlo : lo ≤ wb.heap.size) (c : Cs w₀.heap.size wb W) (hs : SrS w₀ pv nd wt sb mb W) (hb : Blk W bb 203 #[v1, v2, v3]) (hn : wb.heap.size ≤ bb)
    (s : WkAp w₀.heap.size lo n W bb v2 S) (n' : WkAp w₀.heap.size lo n W bb v3 N) :
    OneSt w₀ pv nd wt sb mb wb n lo S N ((W.alloc (.cells #[u] 95)).setCell ⟨bb, 0, none⟩ (.slice (some ⟨W.heap.size, 0, none⟩) 1 1)) bb (.slice (some ⟨W.heap.size, 0, none⟩) 1 1) v2 v3 u := by
  have h0 : w₀.heap.size ≤ bb := Nat.le_trans hw hn
  have hbl : bb < W.heap.size := hb.lt
  have hsz := (grownBy_setCellAt (W.alloc (.cells #[u] 95)) bb 0 (.slice (some ⟨W.heap.size, 0, none⟩) 1 1)).size
  rw [World.size_alloc] at hsz
  have hcs := c.size
  refine ⟨(c.al _).st hn h0 0 _, (hs.al _).set (hb.alloc _) (by decide) h0 0 _, (hb.alloc _).set 0 _, hn, ?_, (s.later (Cs.of_q (Q.alloc _ _))).set h0 0 _, (n'.later (Cs.of_q (Q.alloc _ _))).set h0 0 _⟩
  have r := SlW.one ⟨w₀.heap.size, W.heap.size, W.heap.size + 1⟩ W u (Nat.le_refl _) (Nat.lt_succ_self _)
  have r2 := (Ws.set (z := ⟨w₀.heap.size, W.heap.size, W.heap.size + 1⟩) (W.alloc (.cells #[u] 95)) bb 0 (.slice (some ⟨W.heap.size, 0, none⟩) 1 1) h0 (.inl hbl)).sl r
  exact r2.wide (z' := ⟨w₀.heap.size, lo, _⟩) (by show lo ≤ W.heap.size; omega) hsz
set_option maxRecDepth 100000 in
set_option maxHeartbeats 8000000 in
theorem SBoth_any (w₀ : World) (pv : Value) (nd : Nat) (wt : Bytes → Nat) (sb mb g : Nat) (l : List DocL) (k : Int) (s : Bytes) (m sh no : List QL) (vm vs vn : Value) (W : World)
    (hm : ∀ q ∈ m, WkC w₀ pv nd wt sb mb g l q) (hsh : ∀ q ∈ sh, WkC w₀ pv nd wt sb mb g l q) (hno : ∀ q ∈ no, WkC w₀ pv nd wt sb mb g l q) (hs : SrS w₀ pv nd wt sb mb W)
    (qm : QrysAt w₀ vm m) (qs : QrysAt w₀ vs sh) (qn : QrysAt w₀ vn no) (hl : m.length ≤ 100 ∧ sh.length ≤ 100 ∧ no.length ≤ 100) (hnn : l.length ≤ 500)
    (hf : ∀ i s, bothF (mustF l.length (walksF l wt m) (walksF l wt sh)) (walksF l wt sh) (walksF l wt no) i = some s → i < l.length ∧ s ≤ topB) :
    Calls Tryz.prog 76 #[.pointer (some ⟨sb, 0, none⟩), .pointer (some ⟨g, 0, none⟩), .agg #[.int .i64 k, strV s, vm, vs, vn], .iface 142 (.agg #[.int .i64 (l.length : Nat)])] W fun e W' => ∃ u, e = .returned u ∧
      IsWk ⟨w₀.heap.size, W.heap.size, W'.heap.size⟩ l.length topB W' u (bothF (mustF l.length (walksF l wt m) (walksF l wt sh)) (walksF l wt sh) (walksF l wt no)) ∧ Cs w₀.heap.size W W' ∧ SrS w₀ pv nd wt sb mb W' := by
  have cm := fun W hs => Walkers_any w₀ pv nd wt sb mb g l m vm W hm hs qm (by omega)
  have cs := fun W hs => Walkers_any w₀ pv nd wt sb mb g l sh vs W hsh hs qs (by omega)
  have cn := fun W hs => Walkers_any w₀ pv nd wt sb mb g l no vn W hno hs qn (by omega)
  have hlen : ∀ qs, (walksF l wt qs).length = qs.length := fun qs => by rw [walksF_map, List.length_map]
  have l1 : (walksF l wt m).length ≤ 100 := by rw [hlen]; exact hl.1
  have l2 : (walksF l wt sh).length ≤ 100 := by rw [hlen]; exact hl.2.1
  have l3 : (walksF l wt no).length ≤ 100 := by rw [hlen]; exact hl.2.2
  obtain ⟨n, hn⟩ : ∃ n, n = l.length := ⟨_, rfl⟩
  rw [← hn] at cm cs cn hnn hf ⊢
  generalize walksF l wt m = M at *
  generalize walksF l wt sh = S at *
  generalize walksF l wt no = N at *
  have hsz : w₀.heap.size ≤ W.heap.size := hs.q.size
  obtain ⟨wb, hwb⟩ : ∃ wb, wb = W.alloc (.cells #[.int .i64 k, strV s, vm, vs, vn] 32) := ⟨_, rfl⟩
  have hbk : Blk wb W.heap.size 32 #[.int .i64 k, strV s, vm, vs, vn] := by rw [hwb]; exact Blk.new _ _ _
  have hqb : Q W wb := by rw [hwb]; exact Q.alloc _ _
  have hsb := hs.stays hqb
  obtain ⟨_, _, k2, k3, k4⟩ := hbk.c5
  have CM := Lib.hid cm; have CS := Lib.hid cs; have CN := Lib.hid cn; have HF := Lib.hid hf; have HQB := Lib.hid hqb
  have HSB := Lib.hid hsb
  clear cm cs cn hf hm hsh hno hs qm qs qn hlen hbk hsb hn
  go_enter Tryz.func76, Tryz.ntmps76
  go_wp2_with fail
  rw [← hwb]
  have hcl : W.heap.size ≤ wb.heap.size := HQB.out.size
  refine both_row w₀ pv nd wt sb mb n W.heap.size W.heap.size _ _ _ wb M S N vm vs vn HSB.out CM.out CS.out CN.out k2 k3 k4 hcl (Nat.le_trans hsz hcl) _ _ _ _ _ _ _ _ _ _ _ _ _ _ _ _ _ _ _ _ _ _ _ _ _ _ _ _ _ _ _ _ _ _ _ _ _ _ _ _ _ _ _ _ _ _ ?_
  clear k2 k3 k4 HSB CM CS CN hwb
  rintro Wf bb a1 a2 a3 p1 p2 p3 z10 z11 z12 z13 z14 z15 z16 z17 z18 z19 z20 z21 z22 z23 z24 z25 hst
  obtain ⟨b0, b1, b2, f0, f1, f2⟩ := hst.blk.c3
  have HST := Lib.hid hst
  clear hst
  by_cases hm0 : M.length = 0
  · have hM : M = [] := List.eq_nil_of_length_eq_zero hm0
    subst hM
    have hone := fun u => OneSt.lay u (Nat.le_trans hsz hcl) hcl HST.out.cs HST.out.srs HST.out.blk HST.out.new HST.out.s HST.out.n'
    have hblk1 := HST.out.blk.alloc (.cells #[.iface 205 (.agg #[.iface 142 (.agg #[.int .i64 (n : Nat)])])] 95)
    obtain ⟨e0, e1, e2, ef0, ef1, ef2⟩ := hblk1.c3
    have h1 := hone (.iface 205 (.agg #[.iface 142 (.agg #[.int .i64 (n : Nat)])]))
    obtain ⟨g0, g1, g2, gf0, gf1, gf2⟩ := h1.blk.c3
    have HONE := Lib.hid h1
    clear hone hblk1 h1 HST
    by_cases hs0 : S.length = 0
    · have hS : S = [] := List.eq_nil_of_length_eq_zero hs0
      subst hS
      have hmu := must_all n (M := []) (S := []) rfl rfl
      have hf := HF.out
      rw [hmu] at hf
      have h1 := HONE.out
      have hwk := both_full (B := topB) (WksAt.one h1.row (IsWk.free (IsWk.every ⟨w₀.heap.size, W.heap.size, _⟩ n bigB _ (by omega) (by decide)))) h1.s.full h1.n'.full ⟨by simp, by simp, l3⟩ (by simp) hnn hf
      rw [← hmu] at hwk
      have HWK := Lib.hid hwk; have HC := Lib.hid ((Cs.of_q HQB.out).trans h1.cs); have HSS := Lib.hid h1.srs
      clear hmu hf h1 hwk HONE HF
      go_wp2_with fail
      go_ret
      exact ⟨_, rfl, HWK.out, HC.out, HSS.out⟩
    · have hsp : (0 : Int) < (S.length : Int) := by omega
      have hSne : S ≠ [] := fun h => hs0 (by rw [h]; rfl)
      have h1 := HONE.out
      have hbl1 := h1.blk
      have h2 := OneSt.lay (.iface 205 (.agg #[.iface 187 (.agg #[.slice a2 S.length p2])])) (Nat.le_trans hsz hcl) hcl h1.cs h1.srs h1.blk h1.new h1.s h1.n'
      have hs5 : ((Wf.alloc (.cells #[.iface 205 (.agg #[.iface 142 (.agg #[.int .i64 (n : Nat)])])] 95)).setCell ⟨bb, 0, none⟩ (.slice (some ⟨Wf.heap.size, 0, none⟩) 1 1)).heap.size = Wf.heap.size + 1 := by simp
      rw [hs5] at h2
      have hblk2 := h1.blk.alloc (.cells #[.iface 205 (.agg #[.iface 187 (.agg #[.slice a2 S.length p2])])] 95)
      obtain ⟨q0, q1, q2, qf0, qf1, qf2⟩ := hblk2.c3
      obtain ⟨r0, r1, r2, rf0, rf1, rf2⟩ := h2.blk.c3
      have hmu := must_may n (M := []) (S := S) rfl hSne
      have hf := HF.out
      rw [hmu] at hf
      have hsm := (IsWk.someOf h2.s.full (by omega) (by decide)).more (B' := bigB) (Nat.le_refl _) (by
        have : S.length * topB ≤ 100 * topB := Nat.mul_le_mul_right _ l2
        exact Nat.le_trans this (by decide))
      have hwk := both_full (B := topB) (WksAt.one h2.row (IsWk.free hsm)) h2.s.full h2.n'.full ⟨by simp, l2, l3⟩ (by simp) hnn hf
      rw [← hmu] at hwk
      have HWK := Lib.hid hwk; have HC := Lib.hid ((Cs.of_q HQB.out).trans h2.cs); have HSS := Lib.hid h2.srs
      clear hmu hf h1 h2 hwk HONE HF hsm hblk2 hbl1 hSne
      go_wp2_with fail
      go_ret
      exact ⟨_, rfl, HWK.out, HC.out, HSS.out⟩
  · have hz : ((M.length : Int) == 0) = false := beq_eq_false_iff_ne.2 (by omega)
    have hMne : M ≠ [] := fun h => hm0 (by rw [h]; rfl)
    have hst := HST.out
    have hf := HF.out
    rw [must_some n hMne] at hf
    have hwk := both_full (B := topB) (hst.m.full.more (B' := bigB) (Nat.le_refl _) (by decide)) hst.s.full hst.n'.full ⟨l1, l2, l3⟩ (by omega) hnn hf
    have hmu := must_some n (M := M) (S := S) hMne
    rw [show bothF M S N = bothF (mustF n M S) S N by rw [hmu]] at hwk
    have HWK := Lib.hid hwk; have HC := Lib.hid ((Cs.of_q HQB.out).trans hst.cs); have HSS := Lib.hid hst.srs
    clear hmu hf hst hwk HST HF hMne
    go_wp2_with fail
    go_ret
    exact ⟨_, rfl, HWK.out, HC.out, HSS.out⟩
end Go.Proofs.YtcflpcpkmhljkaaGreatDoor
end

/- (Qry5) Plain laws of chapter 18: what is found, document by document; hits that are put where they belong. No program in sight. -/
section
namespace Go.Proofs.YtcflpcpkmhljkaaGreatDoor
set_option linter.unusedVariables false

theorem mem_hits (ds : List DocL) (q : QL) (h : HitL) : h ∈ searchL ds q ↔ ∃ d ∈ ds, hitOf (wtL ds) q d = some h := by
  rw [(search_perm ds q).mem_iff]; unfold hitsL; rw [List.mem_filterMap]
theorem hitOf_id {wt : Bytes → Nat} {q : QL} {d : DocL} {h : HitL} (e : hitOf wt q d = some h) : h.1 = d.1 ∧ matchT q (tokensL d.2) = true ∧ h.2 = scoreT wt q (tokensL d.2) := by
  unfold hitOf hasT at e
  cases hm : matchT q (tokensL d.2) with
  | false => rw [hm] at e; cases e
  | true => rw [hm] at e; cases e; exact ⟨rfl, rfl, rfl⟩
theorem hitOf_some (wt : Bytes → Nat) {q : QL} {d : DocL} (hm : matchT q (tokensL d.2) = true) : hitOf wt q d = some (d.1, scoreT wt q (tokensL d.2)) := by
  unfold hitOf hasT; rw [hm]; rfl
theorem hitOf_none (wt : Bytes → Nat) {q : QL} {d : DocL} (hm : matchT q (tokensL d.2) = false) : hitOf wt q d = none := by
  unfold hitOf hasT; rw [hm]; rfl
theorem hits_ids (ds : List DocL) (q : QL) : ((hitsL ds q).map (·.1)).Sublist (ds.map (·.1)) := by
  unfold hitsL
  generalize wtL ds = wt
  induction ds with
  | nil => exact List.Sublist.slnil
  | cons d ds ih =>
    cases h : hitOf wt q d with
    | none => rw [List.filterMap_cons_none h]; exact ih.cons _
    | some x =>
      rw [List.filterMap_cons_some h, List.map_cons, List.map_cons, (hitOf_id h).1]
      exact ih.cons_cons _
theorem search_ids (ds : List DocL) (q : QL) (hn : (ds.map (·.1)).Nodup) : ((searchL ds q).map (·.1)).Nodup :=
  ((search_perm ds q).map (·.1)).nodup_iff.2 (hn.sublist (hits_ids ds q))
/-- a document's hit, as one looks for it by its ID -/
def findH (l : List HitL) (id : Bytes) : Option Nat := (l.find? fun h => h.1 == id).map (·.2)
theorem findH_of {l : List HitL} (hn : (l.map (·.1)).Nodup) {h : HitL} (hm : h ∈ l) : findH l h.1 = some h.2 := by
  unfold findH
  induction l with
  | nil => simp at hm
  | cons x l ih =>
    rw [List.map_cons, List.nodup_cons] at hn
    rw [List.find?_cons]
    rcases List.mem_cons.1 hm with rfl | hm
    · simp
    · have : (x.1 == h.1) = false := by
        rw [beq_eq_false_iff_ne]
        intro e
        exact hn.1 (by rw [e]; exact List.mem_map.2 ⟨h, hm, rfl⟩)
      rw [this]
      exact ih hn.2 hm
theorem findH_none {l : List HitL} {id : Bytes} (h : id ∉ l.map (·.1)) : findH l id = none := by
  unfold findH
  rw [List.find?_eq_none.2 (fun x hx e => h (by rw [← eq_of_beq e]; exact List.mem_map.2 ⟨x, hx, rfl⟩))]
  rfl
theorem search_find (ds : List DocL) (q : QL) (hn : (ds.map (·.1)).Nodup) (d : DocL) (hd : d ∈ ds) : findH (searchL ds q) d.1 = hasT (wtL ds) (tokensL d.2) q := by
  cases hm : matchT q (tokensL d.2) with
  | true =>
    have h1 := hitOf_some (wtL ds) hm
    have h2 := findH_of (search_ids ds q hn) ((mem_hits ds q _).2 ⟨d, hd, h1⟩)
    unfold hasT
    rw [hm]
    exact h2
  | false =>
    unfold hasT
    rw [hm]
    refine findH_none ?_
    intro h
    obtain ⟨x, hx, he⟩ := List.mem_map.1 h
    obtain ⟨e, h1, h2⟩ := (mem_hits ds q x).1 hx
    obtain ⟨h3, h4, _⟩ := hitOf_id h2
    have : e = d := by
      obtain ⟨i, hi⟩ := List.getElem?_of_mem h1
      obtain ⟨j, hj⟩ := List.getElem?_of_mem hd
      have := at_one hn hi hj (by rw [← h3, he])
      subst this
      rw [hi] at hj; cases hj; rfl
    subst this
    rw [hm] at h4; cases h4
theorem hits_count (ds : List DocL) (q : QL) : (searchL ds q).length = (ds.filter fun d => matchT q (tokensL d.2)).length := by
  rw [(search_perm ds q).length_eq]
  unfold hitsL
  generalize wtL ds = wt
  induction ds with
  | nil => rfl
  | cons d ds ih =>
    cases hm : matchT q (tokensL d.2) with
    | true => rw [List.filterMap_cons_some (hitOf_some wt hm), List.filter_cons_of_pos (p := fun d : DocL => matchT q (tokensL d.2)) hm, List.length_cons, List.length_cons, ih]
    | false => rw [List.filterMap_cons_none (hitOf_none wt hm), List.filter_cons_of_neg (p := fun d : DocL => matchT q (tokensL d.2)) (by simp [hm]), ih]
theorem count_id (l : List HitL) (hn : (l.map (·.1)).Nodup) (id : Bytes) : (l.filter fun h => h.1 == id).length = if (findH l id).isSome then 1 else 0 := by
  induction l with
  | nil => rfl
  | cons x l ih =>
    rw [List.map_cons, List.nodup_cons] at hn
    by_cases e : x.1 = id
    · have e' : (x.1 == id) = true := beq_iff_eq.2 e
      have h0 := ih hn.2
      rw [findH_none (by rw [← e]; exact hn.1)] at h0
      unfold findH
      rw [List.filter_cons, List.find?_cons, e']
      simp only [if_true, List.length_cons, h0]
      simp
    · have e' : (x.1 == id) = false := beq_eq_false_iff_ne.2 e
      unfold findH at ih ⊢
      rw [List.filter_cons, List.find?_cons, e']
      simpa using ih hn.2
theorem search_many (ds : List DocL) (q : QL) (hn : (ds.map (·.1)).Nodup) (d : DocL) (hd : d ∈ ds) : ((searchL ds q).filter fun h => h.1 == d.1).length = if matchT q (tokensL d.2) then 1 else 0 := by
  rw [count_id _ (search_ids ds q hn), search_find ds q hn d hd]
  unfold hasT
  cases matchT q (tokensL d.2) <;> rfl
theorem filter_step (ds : List DocL) (k : Nat) (h : k < ds.length) (p : DocL → Bool) : ((ds.take (k + 1)).filter p).length = ((ds.take k).filter p).length + if p ds[k] then 1 else 0 := by
  rw [List.take_succ_eq_append_getElem h, List.filter_append, List.length_append]
  cases hp : p ds[k] <;> simp [hp]
/-- a hit put where it belongs -/
def hitLt (a b : HitL) : Bool := decide (b.2 < a.2) || (a.2 == b.2 && decide (a.1 < b.1))
def placeH (h : HitL) : List HitL → Nat
  | [] => 0
  | x :: l => if hitLt x h then placeH h l + 1 else 0
def insH (h : HitL) (l : List HitL) : List HitL := l.take (placeH h l) ++ h :: l.drop (placeH h l)
theorem placeH_le (h : HitL) (l : List HitL) : placeH h l ≤ l.length := by
  induction l with
  | nil => exact Nat.le_refl _
  | cons x l ih => rw [placeH]; split <;> simp <;> omega
theorem insH_cons (h x : HitL) (l : List HitL) : insH h (x :: l) = if hitLt x h then x :: insH h l else h :: x :: l := by
  unfold insH
  rw [placeH]
  cases hitLt x h <;> simp
theorem insH_perm (h : HitL) (l : List HitL) : (insH h l).Perm (h :: l) := by
  induction l with
  | nil => exact List.Perm.refl _
  | cons x l ih =>
    rw [insH_cons]
    cases hitLt x h with
    | true => exact (List.Perm.cons x ih).trans (List.Perm.swap h x l)
    | false => exact List.Perm.refl _
theorem hitLt_le {a b : HitL} (h : hitLt a b = true) : hitLe a b = true := by
  unfold hitLt at h; unfold hitLe
  simp only [Bool.or_eq_true, decide_eq_true_eq, Bool.and_eq_true, beq_iff_eq] at h ⊢
  rcases h with h | ⟨h, g⟩
  · left; exact h
  · right; exact ⟨h, List.le_of_lt g⟩
theorem hitLt_not {a b : HitL} (h : hitLt a b = false) : hitLe b a = true := by
  unfold hitLt at h; unfold hitLe
  simp only [Bool.or_eq_false_iff, decide_eq_false_iff_not, Bool.and_eq_false_iff, beq_eq_false_iff_ne] at h
  simp only [Bool.or_eq_true, decide_eq_true_eq, Bool.and_eq_true, beq_iff_eq]
  obtain ⟨h1, h2⟩ := h
  by_cases e : b.2 = a.2
  · right
    refine ⟨e, ?_⟩
    rcases h2 with h2 | h2
    · exact absurd e.symm h2
    · exact List.not_lt.1 h2
  · left; omega
theorem insH_sorted (h : HitL) (l : List HitL) (hl : l.Pairwise (fun x y => hitLe x y = true)) : (insH h l).Pairwise (fun x y => hitLe x y = true) := by
  induction l with
  | nil => simp [insH, placeH]
  | cons x l ih =>
    rw [insH_cons]
    obtain ⟨h1, h2⟩ := List.pairwise_cons.1 hl
    cases hx : hitLt x h with
    | true =>
      simp only [if_true]
      refine List.pairwise_cons.2 ⟨fun y hy => ?_, ih h2⟩
      rcases List.mem_cons.1 ((insH_perm h l).mem_iff.1 hy) with rfl | hy
      · exact hitLt_le hx
      · exact h1 y hy
    | false =>
      have hhx := hitLt_not hx
      rw [if_neg (by simp)]
      refine List.pairwise_cons.2 ⟨fun y hy => ?_, hl⟩
      rcases List.mem_cons.1 hy with rfl | hy
      · exact hhx
      · exact hitLe_trans _ _ _ hhx (h1 y hy)
/-- hits put one behind the other -/
def putH (wt : Bytes → Nat) (q : QL) (ds : List DocL) : List HitL := ds.foldl (fun out d => match hitOf wt q d with | some h => insH h out | none => out) []
theorem putH_snoc (wt : Bytes → Nat) (q : QL) (ds : List DocL) (d : DocL) : putH wt q (ds ++ [d]) = match hitOf wt q d with | some h => insH h (putH wt q ds) | none => putH wt q ds := by
  unfold putH; rw [List.foldl_append]; rfl
theorem putH_ok (wt : Bytes → Nat) (q : QL) (ds : List DocL) : (putH wt q ds).Perm (ds.filterMap (hitOf wt q)) ∧ (putH wt q ds).Pairwise (fun x y => hitLe x y = true) := by
  have key : ∀ (ds : List DocL) (out : List HitL), out.Pairwise (fun x y => hitLe x y = true) →
      (ds.foldl (fun out d => match hitOf wt q d with | some h => insH h out | none => out) out).Perm (out ++ ds.filterMap (hitOf wt q)) ∧ (ds.foldl (fun out d => match hitOf wt q d with | some h => insH h out | none => out) out).Pairwise (fun x y => hitLe x y = true) := by
    intro ds
    induction ds with
    | nil => intro out ho; exact ⟨by simp, ho⟩
    | cons d ds ih =>
      intro out ho
      cases h : hitOf wt q d with
      | none => rw [List.filterMap_cons_none h, List.foldl_cons, h]; exact ih out ho
      | some x =>
        rw [List.filterMap_cons_some h, List.foldl_cons, h]
        obtain ⟨h1, h2⟩ := ih (insH x out) (insH_sorted x out ho)
        refine ⟨h1.trans ?_, h2⟩
        exact ((insH_perm x out).append_right _).trans (List.perm_middle.symm)
  have := key ds [] List.Pairwise.nil
  simpa [putH] using this
theorem putH_search (q : QL) (ds : List DocL) : putH (wtL ds) q ds = searchL ds q :=
  sorted_hits _ _ ((putH_ok (wtL ds) q ds).1.trans (search_perm ds q).symm) (putH_ok (wtL ds) q ds).2 (search_sorted ds q)
theorem putH_len (wt : Bytes → Nat) (q : QL) (ds : List DocL) : (putH wt q ds).length ≤ ds.length := by
  rw [(putH_ok wt q ds).1.length_eq]; exact List.length_filterMap_le _ _
end Go.Proofs.YtcflpcpkmhljkaaGreatDoor
end

/- (QryS) Plain laws of chapter 18: the order of hits is one that a sort may use; a sorted row of hits. No program in sight. -/
section
namespace Go.Proofs.YtcflpcpkmhljkaaGreatDoor
open Go.Sort
set_option linter.unusedVariables false

theorem hitLt_eq (a b : HitL) : hitLt a b = !hitLe b a := by
  cases h : hitLt a b with
  | false => rw [hitLt_not h]; rfl
  | true =>
    symm
    rw [Bool.not_eq_true']
    unfold hitLt at h
    unfold hitLe
    simp only [Bool.or_eq_true, decide_eq_true_eq, Bool.and_eq_true, beq_iff_eq] at h
    rw [Bool.or_eq_false_iff, decide_eq_false_iff_not, Bool.and_eq_false_iff, beq_eq_false_iff_ne]
    rcases h with h | ⟨h, g⟩
    · exact ⟨by omega, .inl (by omega)⟩
    · refine ⟨by omega, .inr ?_⟩
      unfold leB
      rw [decide_eq_false_iff_not]
      exact fun hle => absurd g (List.not_lt.2 hle)
theorem hitLe_refl (a : HitL) : hitLe a a = true := by have := hitLe_total a a; simpa using this
theorem hit_swo : SWO hitLt where
  irrefl x := by rw [hitLt_eq, hitLe_refl]; rfl
  trans x y z h1 h2 := by
    rw [hitLt_eq, Bool.not_eq_true'] at h1 h2 ⊢
    rw [Bool.eq_false_iff] at h1 h2 ⊢
    intro h
    have hxy : hitLe x y = true := by have := hitLe_total x y; rw [Bool.or_eq_true] at this; exact this.elim id (fun h => absurd h h1)
    exact h2 (hitLe_trans _ _ _ h hxy)
  ntrans x y z h1 h2 := by
    rw [hitLt_eq, Bool.not_eq_false'] at h1 h2 ⊢
    exact hitLe_trans _ _ _ h2 h1
/-- how two texts compare -/
def cmpB (a b : Bytes) : Int := if a < b then -1 else if b < a then 1 else 0
def ordH (x y : HitL) : Int := if Lib.compareInt (y.2 : Int) (x.2 : Int) = 0 then cmpB x.1 y.1 else Lib.compareInt (y.2 : Int) (x.2 : Int)
theorem ordH_lt (x y : HitL) : decide (ordH x y < 0) = hitLt x y := by
  unfold ordH hitLt Lib.compareInt cmpB
  by_cases h1 : y.2 < x.2
  · simp [h1]
  · by_cases h2 : x.2 < y.2
    · have h3 : ¬ x.2 = y.2 := by omega
      simp [h1, h2, h3]
    · have h3 : x.2 = y.2 := by omega
      by_cases g1 : x.1 < y.1
      · simp [h3, g1]
      · by_cases g2 : y.1 < x.1 <;> simp [h3, g1, g2]
theorem sorted_of {d d' : Array HitL} (hp : PermIn 0 d.size d d') (hs : SortedIn hitLt 0 d.size d') : d'.size = d.size ∧ d'.toList.Perm d.toList ∧ d'.toList.Pairwise (fun x y => hitLe x y = true) := by
  obtain ⟨h1, _, h2⟩ := hp
  have e1 : d.extract 0 d.size = d := Array.extract_size
  have e2 : d'.extract 0 d.size = d' := by rw [← h1]; exact Array.extract_size
  rw [e1, e2] at h2
  refine ⟨h1, h2, ?_⟩
  rw [List.pairwise_iff_getElem]
  intro i j hi hj hij
  have hj' : j < d'.size := by simpa using hj
  have hi' : i < d'.size := by simpa using hi
  have h := hs i j (Nat.zero_le _) hij (by omega)
  rw [hitLt_eq, Bool.not_eq_false'] at h
  rw [getElem!_pos d' i hi', getElem!_pos d' j hj'] at h
  simpa using h
/-- hits that a sort has put in order are what is searched -/
theorem sorted_search {ds : List DocL} {q : QL} {d d' : Array HitL} (hd : d.toList = hitsL ds q) (hp : PermIn 0 d.size d d') (hs : SortedIn hitLt 0 d.size d') : d'.toList = searchL ds q := by
  obtain ⟨_, h1, h2⟩ := sorted_of hp hs
  rw [hd] at h1
  exact sorted_hits _ _ (h1.trans (search_perm ds q).symm) h2 (search_sorted ds q)
/-- what holds of a query if it holds of all that it holds -/
theorem QL.ind {P : QL → Prop} (h : ∀ k s m sh n, (∀ q ∈ m, P q) → (∀ q ∈ sh, P q) → (∀ q ∈ n, P q) → P (.mk k s m sh n)) (q : QL) : P q :=
  QL.rec (motive_1 := P) (motive_2 := fun l => ∀ q ∈ l, P q) (fun k s m sh n h1 h2 h3 => h k s m sh n h1 h2 h3) (fun _ hx => absurd hx List.not_mem_nil) (fun q qs h1 h2 x hx => by
    rcases List.mem_cons.1 hx with rfl | hx
    · exact h1
    · exact h2 x hx) q
end Go.Proofs.YtcflpcpkmhljkaaGreatDoor
end

/- (WWk4) score: searcher.walker: walked. -/
section
namespace Go.Proofs.YtcflpcpkmhljkaaGreatDoor
open Go.RowKit
set_option linter.unusedVariables false

theorem phrase_small (s : Bytes) (hs : s.length ≤ 2000) : ∀ t ∈ phraseL s, t.2 ≤ 1000000 := fun t ht => by
  unfold phraseL shiftL at ht
  obtain ⟨x, hx, rfl⟩ := List.mem_map.1 ht
  have := ((tokensL_facts s hs).2 x hx).2
  simp only; omega
theorem SlW.take1 {z : Zone} {w : World} {g n cap : Nat} {p : TokL} (h : SlW z w (.slice (some ⟨g, 0, none⟩) n cap) n 2 (tokVs p)) (hn : 0 < n) (hp : n = p.length) : SlW z w (.slice (some ⟨g, 0, none⟩) 1 cap) 1 2 (tokVs (p.take 1)) := by
  have e : tokVs (p.take 1) = (tokVs p).take 2 := by cases p with | nil => simp at hp; omega | cons a b => rfl
  rw [e]
  obtain ⟨⟨h1, a, c, h2, h3⟩, h4⟩ := h
  refine ⟨⟨by rw [List.length_take, h1]; omega, _, _, rfl, fun _ => ?_⟩, fun _ => ?_⟩
  · obtain ⟨b, off, h5, h6⟩ := h3 hn
    cases h2
    cases h5
    refine ⟨_, _, rfl, fun j u hj => h6 j u ?_⟩
    rw [List.getElem?_take] at hj
    split at hj
    · exact hj
    · cases hj
  · obtain ⟨b, off, c', h5, h6⟩ := h4 hn
    cases h5
    exact ⟨_, _, _, rfl, h6⟩
theorem owns_capW {w : World} {base : Nat} {e : TypeId} {size n : Nat} {v : Value} {xs : List Value} (h : w.ownsRow base e size v n xs) : ∀ a m cap, v = .slice a m cap → m ≤ cap := by
  intro a m cap hv
  rcases h.2 with ⟨rfl, h0⟩ | ⟨g, c, cur, rfl, _, _, hnc, _⟩
  · cases hv; exact Nat.le_refl _
  · cases hv; exact hnc
set_option maxRecDepth 100000 in
set_option maxHeartbeats 16000000 in
theorem Walker_all (w₀ : World) (pv : Value) (ps : List PartL) (wt : Bytes → Nat) (sb mb g : Nat) (l : List DocL) (H : SrH w₀ pv ps wt) (hg : SegAt w₀ g l (idxS l)) (hn : l.length ≤ 500) (hok : docsOk l) (q : QL) :
    nodesQ q = true → sizeQ q ≤ 100 → WkC w₀ pv (liveL ps).length wt sb mb g l q := by
  refine QL.ind (P := fun q => nodesQ q = true → sizeQ q ≤ 100 → WkC w₀ pv (liveL ps).length wt sb mb g l q) ?_ q
  intro k s m sh no ihm ihs ihn hnd hsz W v hs hq
  obtain ⟨vm, vs, vn, rfl, qm, qs, qn⟩ := hq.open
  obtain ⟨⟨k1, k2, hs2⟩, nm, ns, nn⟩ := nodesQ_mk hnd
  have hf : ∀ i s', walkF l wt (.mk k s m sh no) i = some s' → i < l.length ∧ s' ≤ topB := fun i s' h => walkF_le l wt H.wt_le (docs_small hok) _ hnd (by omega) i s' h
  rw [sizeQ] at hsz
  have hm : ∀ q ∈ m, WkC w₀ pv (liveL ps).length wt sb mb g l q := fun q hq => ihm q hq (nodesQs_mem nm hq) (by have := sizeQs_mem hq; omega)
  have hsh : ∀ q ∈ sh, WkC w₀ pv (liveL ps).length wt sb mb g l q := fun q hq => ihs q hq (nodesQs_mem ns hq) (by have := sizeQs_mem hq; omega)
  have hno : ∀ q ∈ no, WkC w₀ pv (liveL ps).length wt sb mb g l q := fun q hq => ihn q hq (nodesQs_mem nn hq) (by have := sizeQs_mem hq; omega)
  have hlm := sizeQs_len m; have hls := sizeQs_len sh; have hln := sizeQs_len no
  have cwt := fun t W hs => SWeight_any w₀ pv ps wt sb mb t W hs H.parts H.ok H.len (H.wt t)
  have hwt := H.wt_le
  have cd := fun W' (hq : Q W W') => SegDocs_any g l _ W' (hg.stays (hs.q.trans hq)) (by omega)
  have cp := fun W' (hq : Q W W') => QPhrase_any s W' (by omega) (H.tabs.stays (hs.q.trans hq)) (H.spans.stays (hs.q.trans hq))
  have cf := fun W' (hq : Q W W') => Folded_any s W' (by omega) (H.tabs.stays (hs.q.trans hq))
  have cx := fun f W' (hf : f.length ≤ 1000000000) (hq : Q W W') => Prefix_any w₀ (.pointer (some ⟨sb, 0, none⟩)) g l f W' (hs.q.trans hq) hg hn hok hf
  have cb := fun W' hs' hf => SBoth_any w₀ pv (liveL ps).length wt sb mb g l 5 s m sh no vm vs vn W' hm hsh hno hs' qm qs qn ⟨by omega, by omega, by omega⟩ hn hf
  have cph := fun (p : TokL) (wg : Nat) (w : World) (c : Cs w₀.heap.size W w) (tv : Value) (ht : SlW ⟨w₀.heap.size, W.heap.size, w.heap.size⟩ w tv p.length 2 (tokVs p)) hne hp6 hps hw hff => IsWk.phrase (wt := wg) (z := ⟨w₀.heap.size, W.heap.size, w.heap.size⟩) (w := w) (n := l.length) (B := topB) hg (Below.trans hs.q (Cs.low c hs.q.size)) rfl hn hok ht hne hp6 hps hw hff
  obtain ⟨nd, hnd2⟩ : ∃ nd, nd = (liveL ps).length := ⟨_, rfl⟩
  rw [← hnd2] at cwt cb hs ⊢
  have hfl : (foldedL s).length ≤ 1000000000 := by have := foldedL_len s; omega
  have CWT := Lib.hid cwt; have HWT := Lib.hid hwt; have CD := Lib.hid cd; have CP := Lib.hid cp; have CF := Lib.hid cf; have CX := Lib.hid cx; have CB := Lib.hid cb; have CPH := Lib.hid cph; have HF := Lib.hid hf; have HS := Lib.hid hs
  have hpsm := phrase_small s (by omega)
  have hpln := phraseL_len s (by omega)
  have HPS := Lib.hid hpsm
  clear cwt hwt cd cp cf cx cb cph hf hs hm hsh hno ihm ihs ihn H hg hok qm qs qn hq nm ns nn hnd hnd2 hpsm
  have hk0 := Blk.new W 32 #[.int .i64 k, strV s, vm, vs, vn]
  have HK0 := Lib.hid hk0
  clear hk0
  go_enter Tryz.func41, Tryz.ntmps41
  go_wp2_with fail
  refine (CD.out _ (Q.alloc _ _)).mono ?_
  rintro e w2 ⟨dv, rfl, hdo, q2⟩
  obtain ⟨da, dcap, rfl, _⟩ := owns_value hdo
  have hq2 : Q W w2 := (Q.alloc _ _).trans q2
  have hq2a : Q W (w2.alloc (.cells #[.int .i64 (l.length : Nat)] 142)) := hq2.trans (Q.alloc _ _)
  have hbk := ((HK0.out.stays q2).alloc (.cells #[.int .i64 (l.length : Nat)] 142))
  obtain ⟨g0, g1, g2, g3, g4⟩ := hbk.c5
  have hev := Blk.new w2 142 #[.int .i64 (l.length : Nat)]
  have HBK := Lib.hid hbk; have HEV := Lib.hid hev; have HQ2 := Lib.hid hq2a
  clear hdo q2 hq2 hq2a hbk hev CD HK0
  go_wp2_with fail
  refine (CP.out _ HQ2.out).mono ?_
  rintro e w3 ⟨tv, rfl, ho, q3⟩
  have hq3 := HQ2.out.trans q3
  have hbk3 := HBK.out.stays q3
  have hev3 := HEV.out.stays q3
  have HS3 := Lib.hid (HS.out.stays hq3); have HQ3 := Lib.hid hq3; have HBK3 := Lib.hid hbk3; have HEV3 := Lib.hid hev3
  have hrow0 : SlW ⟨w₀.heap.size, W.heap.size, w3.heap.size⟩ w3 tv (phraseL s).length 2 (tokVs (phraseL s)) := SlW.of_owns ho (HQ2.out.size) (Nat.le_refl _)
  obtain ⟨ta, tcap, rfl, htg⟩ := owns_value ho
  have hcapn := owns_capW ho _ _ _ rfl
  clear g0 g1 g2 g3 g4 HBK HEV CP q3 hq3 hbk3 hev3 ho HS HQ2
  obtain ⟨g0, g1, g2, g3, g4⟩ := HBK3.out.c5
  have ge : w3.cell? ⟨w2.heap.size, 0, none⟩ = some (.int .i64 (l.length : Nat)) := HEV3.out.cell 0 _ rfl
  have hk : k = 1 ∨ k = 4 ∨ k = 5 ∨ k = 2 ∨ k = 3 := by omega
  rcases hk with rfl | rfl | rfl | rfl | rfl
  · have hwf : walkF l wt (.mk 1 s m sh no) = everyF l.length := by rw [walkF, if_pos rfl]
    have hwk := (IsWk.every ⟨w₀.heap.size, W.heap.size, w3.heap.size⟩ l.length topB w3 (by omega) (by decide)).refit hwf.symm HF.out
    have HWK := Lib.hid hwk
    clear hwf hwk hrow0 htg
    go_wp2_with fail
    go_ret
    exact ⟨_, rfl, HWK.out, Cs.of_q HQ3.out, HS3.out⟩
  · have hwf : walkF l wt (.mk 4 s m sh no) = prefixF (termsL l) l (foldedL s) := by rw [walkF, if_neg (by decide), if_pos rfl]
    have HWF := Lib.hid hwf
    clear hwf hrow0 htg
    go_wp2_with fail
    refine (CF.out _ HQ3.out).mono ?_
    rintro e w4 ⟨rfl, q4⟩
    have HQ4 := Lib.hid (HQ3.out.trans q4); have HS4 := Lib.hid (HS3.out.stays q4)
    clear q4 g0 g1 g2 g3 g4 ge
    go_wp2_with fail
    refine (CX.out _ _ hfl HQ4.out).mono ?_
    rintro e w5 ⟨u, rfl, hu, q5⟩
    have hwk := (hu.wide (z' := ⟨w₀.heap.size, W.heap.size, w5.heap.size⟩) (Nat.le_refl _) HQ4.out.size (Nat.le_refl _)).refit HWF.out.symm HF.out
    have HWK := Lib.hid hwk; have HQ5 := Lib.hid (HQ4.out.trans q5); have HS5 := Lib.hid (HS4.out.stays q5)
    clear hu q5 hwk
    go_wp2_with fail
    go_ret
    exact ⟨_, rfl, HWK.out, Cs.of_q HQ5.out, HS5.out⟩
  · have hwf : walkF l wt (.mk 5 s m sh no) = bothF (mustF l.length (walksF l wt m) (walksF l wt sh)) (walksF l wt sh) (walksF l wt no) := by rw [walkF, if_neg (by decide), if_neg (by decide), if_pos rfl]
    have hf := HF.out
    rw [hwf] at hf
    have cb := CB.out w3 HS3.out hf
    have C := Lib.hid cb; have HWF := Lib.hid hwf
    clear cb hwf hrow0 htg hf
    go_wp2_with fail
    refine C.out.mono ?_
    rintro e w5 ⟨u, rfl, hu, c5, s5⟩
    have hwk := (hu.wide (z' := ⟨w₀.heap.size, W.heap.size, w5.heap.size⟩) (Nat.le_refl _) HQ3.out.size (Nat.le_refl _)).refit HWF.out.symm (fun i s h => HF.out i s h)
    have HWK := Lib.hid hwk; have HC5 := Lib.hid ((Cs.of_q HQ3.out).trans c5); have HS5 := Lib.hid s5
    clear hu c5 s5 hwk C g0 g1 g2 g3 g4 ge
    go_wp2_with fail
    go_ret
    exact ⟨_, rfl, HWK.out, HC5.out, HS5.out⟩
  · by_cases hp : phraseL s = []
    · have hwf : walkF l wt (.mk 2 s m sh no) = noneF := by rw [walkF, if_neg (by decide), if_neg (by decide), if_neg (by decide), if_pos hp]
      have hwk := (IsWk.nothing ⟨w₀.heap.size, W.heap.size, w3.heap.size⟩ l.length topB w3).refit hwf.symm HF.out
      have hie : (!(phraseL s).isEmpty) = false := by rw [hp]; rfl
      rw [hie]
      have HWK := Lib.hid hwk
      clear hwf hwk hrow0 htg hp hie
      go_wp2_with fail
      go_ret
      exact ⟨_, rfl, HWK.out, Cs.of_q HQ3.out, HS3.out⟩
    · have hpl : 0 < (phraseL s).length := List.length_pos_iff.2 hp
      obtain ⟨tg, rfl⟩ := htg hpl
      have hwf : walkF l wt (.mk 2 s m sh no) = phraseF l ((phraseL s).take 1) (sumW wt ((phraseL s).take 1)) := by rw [walkF, if_neg (by decide), if_neg (by decide), if_neg (by decide), if_neg hp, if_pos rfl]
      have hie : (!(phraseL s).isEmpty) = true := by cases hpe : phraseL s with | nil => exact absurd hpe hp | cons a b => rfl
      rw [hie]
      obtain ⟨n3, hn3⟩ : ∃ n3, n3 = (phraseL s).length := ⟨_, rfl⟩
      rw [← hn3] at hrow0 hpl hpln hcapn ⊢
      have hlen : 0 < ((phraseL s).take 1).length := by rw [List.length_take]; omega
      have hmax : ((phraseL s).take 1).length ≤ 2001 := by rw [List.length_take]; omega
      have hrow : SlW ⟨w₀.heap.size, W.heap.size, w3.heap.size⟩ w3 (.slice (some ⟨tg, 0, none⟩) ((phraseL s).take 1).length tcap) ((phraseL s).take 1).length 2 (tokVs ((phraseL s).take 1)) := by rw [show ((phraseL s).take 1).length = 1 by rw [List.length_take]; omega]; exact hrow0.take1 hpl hn3
      have hsmall : ∀ t ∈ (phraseL s).take 1, t.2 ≤ 1000000 := fun t ht => HPS.out t (List.mem_of_mem_take ht)
      have hsumb : sumW wt ((phraseL s).take 1) ≤ 1000000000 := Nat.le_trans (sumW_le wt HWT.out _) (by omega)
      have hff := HF.out
      rw [hwf] at hff
      have hlast : ∀ np, np = ((phraseL s).take 1).length → ∀ w, Cs w₀.heap.size w3 w → IsWk ⟨w₀.heap.size, W.heap.size, w.heap.size⟩ l.length topB w (.iface 149 (.agg #[.pointer (some ⟨g, 0, none⟩), .slice (some ⟨tg, 0, none⟩) np tcap, .int .i64 (sumW wt ((phraseL s).take 1) : Nat)])) (walkF l wt (.mk 2 s m sh no)) := fun np hnp w c => by
        rw [hwf, hnp]
        exact CPH.out ((phraseL s).take 1) (sumW wt ((phraseL s).take 1)) w ((Cs.of_q HQ3.out).trans c) _ (((Ws.of_cs c (Nat.le_refl _)).sl hrow).wide (Nat.le_refl _) c.size) hlen (by omega) hsmall hsumb hff
      clear hie hwf hff hsmall hsumb hp CB CF CX hrow0 HF
      have hn30 : (0 : Int) < (n3 : Int) := by omega
      have hn31 : (1 : Int) ≤ (n3 : Int) := by omega
      have hcap : n3 ≤ tcap := hcapn
      have hnp : 1 = ((phraseL s).take 1).length := by rw [List.length_take]; omega
      have hsl : SlW ⟨w₀.heap.size, W.heap.size, w3.heap.size⟩ w3 (.slice (some ⟨tg, 0, none⟩) 1 tcap) 1 2 (tokVs ((phraseL s).take 1)) := by have e1 := hrow; rw [← hnp] at e1; exact e1
      have hne : 0 < 1 := by decide
      have hnl : 1 ≤ 2001 := by decide
      have hcells : ∀ j (hj : j < ((phraseL s).take 1).length), w3.cell? ⟨tg, j * 2, none⟩ = some (strV ((phraseL s).take 1)[j].1) ∧ w3.cell? ⟨tg, j * 2 + 1, none⟩ = some (.int .i64 (((phraseL s).take 1)[j].2 : Nat)) := fun j hj => by
        obtain ⟨_, a9, c9, h9, h8⟩ := hsl.1
        obtain ⟨b9, o9, h7, h6⟩ := h8 (by omega)
        cases h9
        cases h7
        obtain ⟨t0, t1⟩ := tokVs_at14 ((phraseL s).take 1) j hj
        have y0 := h6 _ _ t0
        have y1 := h6 _ _ t1
        rw [Nat.zero_add] at y0 y1
        exact ⟨y0, y1⟩
      have hres := hlast 1 hnp
      have HNP := Lib.hid hnp; have HSL := Lib.hid hsl; have HCE := Lib.hid hcells; have HRES := Lib.hid hres
      clear hnp hsl hcells hres hrow hlen hmax hlast
      go_wp2_with fail
      go_loopw [10, 64] (fun x i wr => ∃ j : Nat, j ≤ 1 ∧ i = .int .i64 (j : Nat) ∧ x = .int .i64 (sumW wt (((phraseL s).take 1).take j) : Nat) ∧ Hid (Cs w₀.heap.size w3 wr) ∧ Hid (SrS w₀ pv nd wt sb mb wr)) (fun _ i _ => 1 - (intOf i).toNat)
      case atStart => exact ⟨0, by omega, rfl, rfl, Cs.refl _ _, HS3.out⟩
      case round =>
        obtain ⟨j, hj, rfl, rfl, HC4, HS4⟩ := hrel
        obtain ⟨wo, rfl⟩ : ∃ wo : World, wo = wr := ⟨_, rfl⟩
        by_cases hjl : j < 1
        · have hjl' : j < ((phraseL s).take 1).length := by have := HNP.out; omega
          obtain ⟨t0, t1⟩ := HCE.out j hjl'
          have u0 := HC4.out.cell t0
          have u1 := HC4.out.cell t1
          have hsw : sumW wt (((phraseL s).take 1).take (j + 1)) = sumW wt (((phraseL s).take 1).take j) + wt ((phraseL s).take 1)[j].1 := by
            unfold sumW; rw [List.take_succ_eq_append_getElem hjl', List.map_append, List.sum_append]; simp
          have hsb : sumW wt (((phraseL s).take 1).take j) ≤ 1000000 := by
            have h1 := sumW_le wt HWT.out (((phraseL s).take 1).take j)
            have h2 : (((phraseL s).take 1).take j).length ≤ 2001 := by rw [List.length_take]; omega
            omega
          have cw := CWT.out ((phraseL s).take 1)[j].1
          have hwb := HWT.out ((phraseL s).take 1)[j].1
          generalize ((phraseL s).take 1)[j] = tk at *
          obtain ⟨tt, tp⟩ := tk
          simp only at t0 t1 u0 u1 hsw cw hwb
          generalize sumW wt (((phraseL s).take 1).take j) = sj at *
          have hq5 := Q.alloc wo (.cells #[strV tt, .int .i64 (tp : Nat)] 58)
          have c := cw _ (HS4.out.stays hq5)
          obtain ⟨y0, y1, _⟩ := (Blk.new wo 58 #[strV tt, .int .i64 (tp : Nat)]).c2
          have hi1 : (j : Int) < (1 : Int) := by omega
          have hi2 : (0 : Int) ≤ (j : Int) := by omega
          have hadd : IntKind.i64.wrap ((sj : Int) + (wt tt : Int)) = ((sj + wt tt : Nat) : Int) := by rw [IntWalk.i64_in _ (by omega)]; omega
          have C := Lib.hid c; have HSW := Lib.hid hsw; have HC5 := Lib.hid (HC4.out.trans (Cs.of_q hq5))
          clear c cw hsw t0 t1 hq5 HC4 HS4
          generalize wt tt = wtt at *
          go_wp2_with fail
          refine C.out.mono ?_
          rintro e w5 ⟨rfl, c5, s5⟩
          have HC6 := Lib.hid (HC5.out.trans c5); have HS6 := Lib.hid s5
          clear c5 s5 C HC5 u0 u1 y0 y1
          go_wp2_with fail
          go_roundw
          case rel => exact ⟨j + 1, by omega, by go_num, by rw [HSW.out]; go_num, HC6, HS6⟩
          case measure => simp [intOf]; omega
        · have hje : j = 1 := by omega
          subst hje
          have htk : ((phraseL s).take 1).take 1 = (phraseL s).take 1 := by rw [List.take_take]; rfl
          rw [htk]
          have HR9 := Lib.hid (HRES.out wo HC4.out)
          have HCQ := Lib.hid ((Cs.of_q HQ3.out).trans HC4.out)
          clear htk HRES HC4 HCE
          go_wp2_with fail
          go_ret
          exact ⟨_, rfl, HR9.out, HCQ.out, HS4.out⟩
  · by_cases hp : phraseL s = []
    · have hwf : walkF l wt (.mk 3 s m sh no) = noneF := by rw [walkF, if_neg (by decide), if_neg (by decide), if_neg (by decide), if_pos hp]
      have hwk := (IsWk.nothing ⟨w₀.heap.size, W.heap.size, w3.heap.size⟩ l.length topB w3).refit hwf.symm HF.out
      have hie : (!(phraseL s).isEmpty) = false := by rw [hp]; rfl
      rw [hie]
      have HWK := Lib.hid hwk
      clear hwf hwk hrow0 htg hp hie
      go_wp2_with fail
      go_ret
      exact ⟨_, rfl, HWK.out, Cs.of_q HQ3.out, HS3.out⟩
    · have hpl : 0 < (phraseL s).length := List.length_pos_iff.2 hp
      obtain ⟨tg, rfl⟩ := htg hpl
      have hwf : walkF l wt (.mk 3 s m sh no) = phraseF l (phraseL s) (sumW wt (phraseL s)) := by rw [walkF, if_neg (by decide), if_neg (by decide), if_neg (by decide), if_neg hp, if_neg (by decide)]
      have hie : (!(phraseL s).isEmpty) = true := by cases hpe : phraseL s with | nil => exact absurd hpe hp | cons a b => rfl
      rw [hie]
      obtain ⟨n3, hn3⟩ : ∃ n3, n3 = (phraseL s).length := ⟨_, rfl⟩
      rw [← hn3] at hrow0 hpl hpln hcapn ⊢
      have hlen : 0 < (phraseL s).length := by omega
      have hmax : (phraseL s).length ≤ 2001 := by omega
      have hrow : SlW ⟨w₀.heap.size, W.heap.size, w3.heap.size⟩ w3 (.slice (some ⟨tg, 0, none⟩) (phraseL s).length tcap) (phraseL s).length 2 (tokVs (phraseL s)) := by rw [← hn3]; exact hrow0
      have hsmall : ∀ t ∈ phraseL s, t.2 ≤ 1000000 := fun t ht => HPS.out t (ht)
      have hsumb : sumW wt (phraseL s) ≤ 1000000000 := Nat.le_trans (sumW_le wt HWT.out _) (by omega)
      have hff := HF.out
      rw [hwf] at hff
      have hlast : ∀ np, np = (phraseL s).length → ∀ w, Cs w₀.heap.size w3 w → IsWk ⟨w₀.heap.size, W.heap.size, w.heap.size⟩ l.length topB w (.iface 149 (.agg #[.pointer (some ⟨g, 0, none⟩), .slice (some ⟨tg, 0, none⟩) np tcap, .int .i64 (sumW wt (phraseL s) : Nat)])) (walkF l wt (.mk 3 s m sh no)) := fun np hnp w c => by
        rw [hwf, hnp]
        exact CPH.out (phraseL s) (sumW wt (phraseL s)) w ((Cs.of_q HQ3.out).trans c) _ (((Ws.of_cs c (Nat.le_refl _)).sl hrow).wide (Nat.le_refl _) c.size) hlen (by omega) hsmall hsumb hff
      clear hie hwf hff hsmall hsumb hp CB CF CX hrow0 HF
      have hn30 : (0 : Int) < (n3 : Int) := by omega
      have hn31 : (1 : Int) ≤ (n3 : Int) := by omega
      have hcap : n3 ≤ tcap := hcapn
      have hnp : n3 = (phraseL s).length := hn3
      clear hn3
      have hsl : SlW ⟨w₀.heap.size, W.heap.size, w3.heap.size⟩ w3 (.slice (some ⟨tg, 0, none⟩) n3 tcap) n3 2 (tokVs (phraseL s)) := by have e1 := hrow; rw [← hnp] at e1; exact e1
      have hne : 0 < n3 := by rw [hnp]; exact hlen
      have hnl : n3 ≤ 2001 := by rw [hnp]; exact hmax
      have hcells : ∀ j (hj : j < (phraseL s).length), w3.cell? ⟨tg, j * 2, none⟩ = some (strV (phraseL s)[j].1) ∧ w3.cell? ⟨tg, j * 2 + 1, none⟩ = some (.int .i64 ((phraseL s)[j].2 : Nat)) := fun j hj => by
        obtain ⟨_, a9, c9, h9, h8⟩ := hsl.1
        obtain ⟨b9, o9, h7, h6⟩ := h8 (by omega)
        cases h9
        cases h7
        obtain ⟨t0, t1⟩ := tokVs_at14 (phraseL s) j hj
        have y0 := h6 _ _ t0
        have y1 := h6 _ _ t1
        rw [Nat.zero_add] at y0 y1
        exact ⟨y0, y1⟩
      have hres := hlast n3 hnp
      have HNP := Lib.hid hnp; have HSL := Lib.hid hsl; have HCE := Lib.hid hcells; have HRES := Lib.hid hres
      clear hnp hsl hcells hres hrow hlen hmax hlast
      go_wp2_with fail
      go_loopw [10, 64] (fun x i wr => ∃ j : Nat, j ≤ n3 ∧ i = .int .i64 (j : Nat) ∧ x = .int .i64 (sumW wt ((phraseL s).take j) : Nat) ∧ Hid (Cs w₀.heap.size w3 wr) ∧ Hid (SrS w₀ pv nd wt sb mb wr)) (fun _ i _ => n3 - (intOf i).toNat)
      case atStart => exact ⟨0, by omega, rfl, rfl, Cs.refl _ _, HS3.out⟩
      case round =>
        obtain ⟨j, hj, rfl, rfl, HC4, HS4⟩ := hrel
        obtain ⟨wo, rfl⟩ : ∃ wo : World, wo = wr := ⟨_, rfl⟩
        by_cases hjl : j < n3
        · have hjl' : j < (phraseL s).length := by have := HNP.out; omega
          obtain ⟨t0, t1⟩ := HCE.out j hjl'
          have u0 := HC4.out.cell t0
          have u1 := HC4.out.cell t1
          have hsw : sumW wt ((phraseL s).take (j + 1)) = sumW wt ((phraseL s).take j) + wt (phraseL s)[j].1 := by
            unfold sumW; rw [List.take_succ_eq_append_getElem hjl', List.map_append, List.sum_append]; simp
          have hsb : sumW wt ((phraseL s).take j) ≤ 1000000 := by
            have h1 := sumW_le wt HWT.out ((phraseL s).take j)
            have h2 : ((phraseL s).take j).length ≤ 2001 := by rw [List.length_take]; omega
            omega
          have cw := CWT.out (phraseL s)[j].1
          have hwb := HWT.out (phraseL s)[j].1
          generalize (phraseL s)[j] = tk at *
          obtain ⟨tt, tp⟩ := tk
          simp only at t0 t1 u0 u1 hsw cw hwb
          generalize sumW wt ((phraseL s).take j) = sj at *
          have hq5 := Q.alloc wo (.cells #[strV tt, .int .i64 (tp : Nat)] 58)
          have c := cw _ (HS4.out.stays hq5)
          obtain ⟨y0, y1, _⟩ := (Blk.new wo 58 #[strV tt, .int .i64 (tp : Nat)]).c2
          have hi1 : (j : Int) < (n3 : Int) := by omega
          have hi2 : (0 : Int) ≤ (j : Int) := by omega
          have hadd : IntKind.i64.wrap ((sj : Int) + (wt tt : Int)) = ((sj + wt tt : Nat) : Int) := by rw [IntWalk.i64_in _ (by omega)]; omega
          have C := Lib.hid c; have HSW := Lib.hid hsw; have HC5 := Lib.hid (HC4.out.trans (Cs.of_q hq5))
          clear c cw hsw t0 t1 hq5 HC4 HS4
          generalize wt tt = wtt at *
          go_wp2_with fail
          refine C.out.mono ?_
          rintro e w5 ⟨rfl, c5, s5⟩
          have HC6 := Lib.hid (HC5.out.trans c5); have HS6 := Lib.hid s5
          clear c5 s5 C HC5 u0 u1 y0 y1
          go_wp2_with fail
          go_roundw
          case rel => exact ⟨j + 1, by omega, by go_num, by rw [HSW.out]; go_num, HC6, HS6⟩
          case measure => simp [intOf]; omega
        · have hje : j = n3 := by omega
          subst hje
          have htk : (phraseL s).take j = phraseL s := by rw [HNP.out, List.take_length]
          rw [htk]
          have HR9 := Lib.hid (HRES.out wo HC4.out)
          have HCQ := Lib.hid ((Cs.of_q HQ3.out).trans HC4.out)
          clear htk HRES HC4 HCE
          go_wp2_with fail
          go_ret
          exact ⟨_, rfl, HR9.out, HCQ.out, HS4.out⟩
end Go.Proofs.YtcflpcpkmhljkaaGreatDoor
end
