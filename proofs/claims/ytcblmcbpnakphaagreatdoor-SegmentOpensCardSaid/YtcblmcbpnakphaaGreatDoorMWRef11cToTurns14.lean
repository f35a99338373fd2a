/- Joined texts of one proof: WRef11c, WStands, Places14, Turns14. -/
import Derived.Test.YtcblmcbpnakphaaGreatDoorMWRef10eToWRef11b
import Derived.Test.YtcblmcbpnakphaaGreatDoorMWTokensToWIdxR
import Derived.Test.YtcblmcbpnakphaaGreatDoorMIx2ToSegRd
set_option linter.unusedSimpArgs false
set_option linter.unusedVariables false
set_option linter.unnecessarySimpa false
/- (WRef11c) codexref11: Tokens: walked. -/
section
namespace Go.Proofs.YtcblmcbpnakphaaGreatDoor
open Go.RowKit
set_option linter.unusedVariables false

set_option maxRecDepth 100000 in
set_option maxHeartbeats 4000000 in
theorem RTokens_any (s : Bytes) (w : World) (hs : s.length ≤ 100000000) :
    Calls Tryz.prog 40 #[strV s] w fun e w' => ∃ v, e = .returned v ∧ w'.ownsRow w.heap.size 142 2 v (tokensL s).length (tokVs (tokensL s)) ∧ Q w w' := by
  obtain ⟨i0, hi, hz0, hz1, hz2⟩ := info_parts tinfo142
  have cw := RWords_any s w (by omega)
  have CW := Lib.hid cw
  clear cw
  go_enter Tryz.func40, Tryz.ntmps40
  go_wp2_with fail
  refine CW.out.mono ?_
  rintro e w1 ⟨v1, rfl, ho1, q1⟩
  obtain ⟨a1, c1, rfl, hg1⟩ := owns_value ho1
  have HS1 := Lib.hid (show Strs w1 (.slice a1 (wordsL s).length c1) (wordsL s) from by have := Sl.of_owns ho1; exact this)
  have HQ1 := Lib.hid q1
  have hwl := wordsL_len s
  clear ho1 q1 CW
  go_wp2_with fail
  go_loopw [3, 5] (fun ov i wr => ∃ k : Nat, k ≤ (wordsL s).length ∧ i = .int .i64 (k : Nat) ∧ Hid (wr.ownsRow w1.heap.size 142 2 ov (tokTo s k).length (tokVs (tokTo s k))) ∧ Hid (Q w1 wr)) (fun _ i _ => (wordsL s).length - (intOf i).toNat)
  case atStart => exact ⟨0, by omega, rfl, World.ownsRow_nil _ _ _ _, Q.refl _⟩
  case round =>
    obtain ⟨k, hk, rfl, HO, HQ⟩ := hrel
    obtain ⟨wo, rfl⟩ : ∃ wo : World, wo = wr := ⟨_, rfl⟩
    by_cases hlt : k < (wordsL s).length
    · obtain ⟨aa, cc, hvv, hcc⟩ := HS1.out.value
      cases hvv
      obtain ⟨b, o, rfl, hc⟩ := hcc (by omega)
      have t0 := cell_stays HQ.out (hc k hlt)
      have hki : (k : Int) < ((wordsL s).length : Int) := by omega
      have hk0 : (0 : Int) ≤ (k : Int) := by omega
      have hsc := tokTo_succ s k hlt
      have htl := tokTo_len s k
      have hx := hwl.2 _ (List.getElem_mem hlt)
      have hwl1 := hwl.1
      clear hc hcc
      generalize (wordsL s)[k] = x at *
      have hfl := foldedL_len x
      have cf := fun W => RFolded_any x W (by omega)
      have hto : tokOf x k = if (foldedL x).length ≤ 40 ∧ stopL (foldedL x) = false then [(foldedL x, k)] else [] := rfl
      have cs := fun W => RStop_any (foldedL x) W
      generalize foldedL x = f at *
      have HSC := Lib.hid hsc
      clear hsc hwl
      generalize htk : tokTo s k = tk at *
      have HTK := Lib.hid htk
      clear htk
      have hsz : w1.heap.size ≤ wo.heap.size := HQ.out.size
      cases hst : stopL f with
      | true =>
        rw [hst] at cs hto
        rw [if_neg (by simp)] at hto
        have HTO := Lib.hid hto
        clear hto hst
        go_wp2_with fail
        refine (cf _).mono ?_
        rintro e w2 ⟨rfl, q2⟩
        have HQ2 := Lib.hid (HQ.out.trans q2)
        have HO2 := Lib.hid (ownsRow_below HO.out q2)
        clear q2 HQ HO cf
        go_wp2_with fail
        refine (cs _).mono ?_
        rintro e w3 ⟨rfl, q3⟩
        have HQ3 := Lib.hid (HQ2.out.trans q3)
        have HO3 := Lib.hid (ownsRow_below HO2.out q3)
        clear q3 HQ2 HO2 cs
        go_wp2_with fail
        go_roundw
        case rel => exact ⟨k + 1, by omega, by go_num, by show World.ownsRow _ _ _ _ _ _ _; rw [HSC.out, HTO.out, List.append_nil]; exact HO3.out, HQ3⟩
        case measure => simp [intOf]; omega
      | false =>
        rw [hst] at cs hto
        clear hst
        by_cases h40 : f.length ≤ 40
        · rw [if_pos ⟨h40, rfl⟩] at hto
          have h40i : (f.length : Int) ≤ 40 := by omega
          have HTO := Lib.hid hto
          clear hto
          go_wp2_with fail
          refine (cf _).mono ?_
          rintro e w2 ⟨rfl, q2⟩
          have HQ2 := Lib.hid (HQ.out.trans q2)
          have HO2 := Lib.hid (ownsRow_below HO.out q2)
          clear q2 HQ HO cf
          go_wp2_with fail
          refine (cs _).mono ?_
          rintro e w3 ⟨rfl, q3⟩
          have HQ3 := Lib.hid (HQ2.out.trans q3)
          have ho3 := ownsRow_below HO2.out q3
          have hsz3 : w1.heap.size ≤ w3.heap.size := HQ3.out.size
          clear q3 HQ2 HO2 cs
          go_wp2_with (at_builtin; go_must (refine wpList_app w3 (by rfl) _ _ 83 (by rfl) w1.heap.size 142 _ i0 (.agg #[strV [], .int .i64 0]) 2 24 Tryz.underlying83 hi hz0 hz1 hz2 rfl (by decide) (by decide) _ _ _ (by rfl) ho3 #[strV f, .int .i64 (k : Nat)] (by simp [Act.eval]) rfl ?c1 ?c2 hsz3 ?_))
          case c1 => simp [Value.oneCell']
          case c2 => omega
          intro g6 cap6 w6 hown6 hg6 hat6 hlt6 hsz6
          have q6 : Q w1 w6 := grown_below HQ3.out ho3 hg6 (Nat.le_refl _) (by omega)
          rw [show tokVs tk ++ (#[strV f, .int .i64 (k : Nat)] : Array Value).toList = tokVs (tk ++ [(f, k)]) from (tokVs_append tk (f, k)).symm] at hown6
          have hln : (tk ++ [(f, k)]).length = tk.length + 1 := by simp
          have HO6 := Lib.hid hown6; have HQ6 := Lib.hid q6; have HLN := Lib.hid hln
          clear hown6 q6 hg6 hat6 ho3 hln
          go_wp2_with fail
          go_roundw
          case rel => exact ⟨k + 1, by omega, by go_num, by show World.ownsRow _ _ _ _ _ _ _; rw [HSC.out, HTO.out, HLN.out]; exact HO6.out, HQ6⟩
          case measure => simp [intOf]; omega
        · rw [if_neg (fun h => h40 h.1)] at hto
          have h40i : ¬ ((f.length : Int) ≤ 40) := by omega
          have HTO := Lib.hid hto
          clear hto
          go_wp2_with fail
          refine (cf _).mono ?_
          rintro e w2 ⟨rfl, q2⟩
          have HQ2 := Lib.hid (HQ.out.trans q2)
          have HO2 := Lib.hid (ownsRow_below HO.out q2)
          clear q2 HQ HO cf
          go_wp2_with fail
          refine (cs _).mono ?_
          rintro e w3 ⟨rfl, q3⟩
          have HQ3 := Lib.hid (HQ2.out.trans q3)
          have HO3 := Lib.hid (ownsRow_below HO2.out q3)
          clear q3 HQ2 HO2 cs
          go_wp2_with fail
          go_roundw
          case rel => exact ⟨k + 1, by omega, by go_num, by show World.ownsRow _ _ _ _ _ _ _; rw [HSC.out, HTO.out, List.append_nil]; exact HO3.out, HQ3⟩
          case measure => simp [intOf]; omega
    · have hke : k = (wordsL s).length := by omega
      subst hke
      have hall : tokTo s (wordsL s).length = tokensL s := by unfold tokTo tokensL; rw [List.take_length]
      have ho := HO.out
      rw [hall] at ho
      have HOF := Lib.hid ho
      clear ho hall HO
      go_wp2_with fail
      go_ret
      exact ⟨_, rfl, owns_low HOF.out HQ1.out.size, HQ1.out.trans HQ.out⟩
end Go.Proofs.YtcblmcbpnakphaaGreatDoor
end

/- (WStands) codexlaw14.stands: walked. -/
section
namespace Go.Proofs.YtcblmcbpnakphaaGreatDoor
open Go.RowKit
set_option linter.unusedVariables false

/-- tokens in memory -/
def Toks (w : World) (v : Value) (l : List (Bytes × Nat)) : Prop := Sl w v l.length 2 (tokVs l)
theorem tokVs_at14 (l : List (Bytes × Nat)) (k : Nat) (h : k < l.length) : (tokVs l)[k * 2]? = some (strV l[k].1) ∧ (tokVs l)[k * 2 + 1]? = some (.int .i64 (l[k].2 : Nat)) := by
  induction l generalizing k with
  | nil => simp at h
  | cons d l ih =>
    have e : tokVs (d :: l) = strV d.1 :: .int .i64 (d.2 : Nat) :: tokVs l := by simp [tokVs]
    cases k with
    | zero => rw [e]; exact ⟨rfl, rfl⟩
    | succ k =>
      have := ih k (by simpa using h)
      rw [e, show (k + 1) * 2 = k * 2 + 1 + 1 by omega]
      exact this
theorem Toks.value {w : World} {v : Value} {l : List (Bytes × Nat)} (h : Toks w v l) : ∃ a cap, v = .slice a l.length cap ∧ (0 < l.length → ∃ b off, a = some ⟨b, off, none⟩ ∧ ∀ j (hj : j < l.length), w.cell? ⟨b, off + j * 2, none⟩ = some (strV l[j].1) ∧ w.cell? ⟨b, off + j * 2 + 1, none⟩ = some (.int .i64 (l[j].2 : Nat))) := by
  obtain ⟨_, a, cap, h2, h3⟩ := h
  refine ⟨a, cap, h2, fun hn => ?_⟩
  obtain ⟨b, off, h4, h5⟩ := h3 hn
  exact ⟨b, off, h4, fun j hj => ⟨h5 _ _ (tokVs_at14 l j hj).1, by rw [Nat.add_assoc]; exact h5 _ _ (tokVs_at14 l j hj).2⟩⟩
/-- does a term stand at a place? -/
def standsL : List (Bytes × Nat) → Bytes → Int → Bool
  | [], _, _ => false
  | x :: l, t, p => if (x.2 : Int) = p then decide (x.1 = t) else standsL l t p
theorem tokensR_rise (ws : List Bytes) (k : Nat) : (tokensF ws k).Pairwise (fun a b => a.2 < b.2) ∧ ∀ x ∈ tokensF ws k, k ≤ x.2 := by
  induction ws generalizing k with
  | nil => simp [tokensF]
  | cons w ws ih =>
    obtain ⟨h1, h2⟩ := ih (k + 1)
    rw [tokensF]
    split
    · refine ⟨List.pairwise_cons.2 ⟨fun x hx => by have := h2 x hx; simp only; omega, h1⟩, fun x hx => ?_⟩
      rcases List.mem_cons.1 hx with rfl | hx
      · exact Nat.le_refl _
      · have := h2 x hx; omega
    · exact ⟨h1, fun x hx => by have := h2 x hx; omega⟩
theorem standsL_of (toks : List (Bytes × Nat)) (h : toks.Pairwise (fun a b => a.2 < b.2)) (x : Bytes × Nat) (hx : x ∈ toks) : standsL toks x.1 (x.2 : Int) = true := by
  induction toks with
  | nil => simp at hx
  | cons y toks ih =>
    obtain ⟨h1, h2⟩ := List.pairwise_cons.1 h
    rw [standsL]
    rcases List.mem_cons.1 hx with rfl | hx
    · rw [if_pos rfl]; simp
    · have := h1 x hx
      rw [if_neg (by omega)]
      exact ih h2 hx
theorem standsL_places (s t : Bytes) (p : Int) (hp : p ∈ placesIn s t) : standsL (tokensL s) t p = true := by
  unfold placesIn at hp
  obtain ⟨x, hx, he⟩ := List.mem_filterMap.1 hp
  split at he
  · rename_i ht
    cases he
    subst ht
    exact standsL_of _ (tokensR_rise _ _).1 x hx
  · cases he
set_option maxRecDepth 100000 in
set_option maxHeartbeats 4000000 in
theorem stands_any (v : Value) (l : List (Bytes × Nat)) (t : Bytes) (p : Int) (w : World) (hv : Toks w v l) (hn : l.length ≤ 1000000000) :
    Calls Tryz.prog 41 #[v, strV t, .int .i64 p] w fun e w' => e = .returned (.bool (standsL l t p)) ∧ Q w w' := by
  obtain ⟨a, cap, rfl, hc⟩ := hv.value
  have HC := Lib.hid hc
  clear hv hc
  go_enter Tryz.func41, Tryz.ntmps41
  go_wp2_with fail
  go_loopw [7] (fun i wr => ∃ k : Nat, k ≤ l.length ∧ i = .int .i64 (k : Nat) ∧ Hid (standsL l t p = standsL (l.drop k) t p) ∧ Hid (Q w wr)) (fun i _ => l.length - (intOf i).toNat)
  case atStart => exact ⟨0, by omega, rfl, rfl, Q.refl _⟩
  case round =>
    obtain ⟨k, hk, rfl, HST, HQ⟩ := hrel
    obtain ⟨wo, rfl⟩ : ∃ wo : World, wo = wr := ⟨_, rfl⟩
    by_cases hlt : k < l.length
    · obtain ⟨b, o, rfl, hc⟩ := HC.out (by omega)
      obtain ⟨z0, z1⟩ := hc k hlt
      have c0 := cell_stays HQ.out z0
      have c1 := cell_stays HQ.out z1
      have hki : (k : Int) < (l.length : Int) := by omega
      have hk0 : (0 : Int) ≤ (k : Int) := by omega
      have hdr := List.drop_eq_getElem_cons hlt
      clear z0 z1 hc
      generalize l[k] = x at *
      obtain ⟨u, q⟩ := x
      simp only at c0 c1
      have hs : standsL l t p = if (q : Int) = p then decide (u = t) else standsL (l.drop (k + 1)) t p := by rw [HST.out, hdr, standsL]
      have HS := Lib.hid hs
      clear hdr hs
      by_cases hp : (q : Int) = p
      · have hs := HS.out
        rw [if_pos hp] at hs
        by_cases hu : u = t
        · rw [decide_eq_true hu] at hs
          have HS2 := Lib.hid hs
          subst hu
          subst hp
          clear hs
          go_wp2_with fail
          go_ret
          exact ⟨ret_boolR (by rw [HS2.out]), HQ.out⟩
        · rw [decide_eq_false hu] at hs
          have HS2 := Lib.hid hs
          have heb1 : (u == t) = false := by simpa using hu
          have heb2 : @BEq.beq (List UInt8) instBEqOfDecidableEq u t = false := by simpa using hu
          have heb3 : @BEq.beq (List UInt8) List.instBEq u t = false := by simpa using hu
          have HU := Lib.hid hu
          subst hp
          clear hs hu
          go_wp2_with fail
          go_ret
          exact ⟨ret_boolR (by rw [HS2.out]), HQ.out⟩
      · have hs := HS.out
        rw [if_neg hp] at hs
        have HS2 := Lib.hid hs
        clear hs
        go_wp2_with fail
        go_roundw
        case rel => exact ⟨k + 1, by omega, by go_num, HS2, HQ⟩
        case measure => simp [intOf]; omega
    · have hke : k = l.length := by omega
      subst hke
      go_wp2_with fail
      go_ret
      exact ⟨ret_boolR (by rw [HST.out, List.drop_length]; rfl), HQ.out⟩
end Go.Proofs.YtcblmcbpnakphaaGreatDoor
end

/- (Places14) Plain: all terms' postings together are the documents' words (SegmentPlaces). No program in sight. -/
section
namespace Go.Proofs.YtcblmcbpnakphaaGreatDoor
set_option linter.unusedVariables false

def sumL : List Nat → Nat
  | [] => 0
  | x :: xs => x + sumL xs
theorem sumL_append (a b : List Nat) : sumL (a ++ b) = sumL a + sumL b := by
  induction a with
  | nil => simp [sumL]
  | cons x a ih => rw [List.cons_append, sumL, sumL, ih]; omega
theorem sumL_add {α : Type} (l : List α) (f g : α → Nat) : sumL (l.map fun x => f x + g x) = sumL (l.map f) + sumL (l.map g) := by
  induction l with
  | nil => rfl
  | cons x l ih => simp only [List.map_cons, sumL, ih]; omega
theorem sumL_zero {α : Type} (l : List α) : sumL (l.map fun _ => 0) = 0 := by
  induction l with
  | nil => rfl
  | cons x l ih => simp only [List.map_cons, sumL, ih]
theorem sumL_congr {α : Type} (l : List α) (f g : α → Nat) (h : ∀ x ∈ l, f x = g x) : sumL (l.map f) = sumL (l.map g) := by
  rw [List.map_congr_left h]
/-- the places of all postings of a term -/
def placesP (ps : List PostL) : Nat := sumL (ps.map fun p => p.2.length)
theorem placesP_posts (t : Bytes) (l : List DocL) (i : Nat) : placesP (postsF t l i) = sumL (l.map fun d => (placesIn d.2 t).length) := by
  induction l generalizing i with
  | nil => rfl
  | cons d l ih =>
    rw [postsF, List.map_cons, sumL, ← ih (i + 1)]
    split
    · rename_i h; rw [h]; simp
    · rfl
theorem one_term (ts : List Bytes) (t : Bytes) (hn : ts.Nodup) (hm : t ∈ ts) : sumL (ts.map fun u => if t = u then 1 else 0) = 1 := by
  induction ts with
  | nil => simp at hm
  | cons u ts ih =>
    obtain ⟨h1, h2⟩ := List.nodup_cons.1 hn
    rw [List.map_cons, sumL]
    by_cases h : t = u
    · subst h
      rw [if_pos rfl, sumL_congr ts _ (fun _ => 0) (fun x hx => if_neg (by intro e; subst e; exact h1 hx)), sumL_zero]
    · rw [if_neg h, ih h2 (by simpa [h] using hm)]
theorem tokens_places (toks : List (Bytes × Nat)) (ts : List Bytes) (hn : ts.Nodup) (hm : ∀ x ∈ toks, x.1 ∈ ts) : sumL (ts.map fun t => (toks.filterMap fun x => if x.1 = t then some (x.2 : Int) else none).length) = toks.length := by
  induction toks with
  | nil => simp only [List.filterMap_nil, List.length_nil]; exact sumL_zero ts
  | cons x toks ih =>
    have e : (fun t : Bytes => ((x :: toks).filterMap fun x => if x.1 = t then some (x.2 : Int) else none).length) = fun t => (if x.1 = t then 1 else 0) + (toks.filterMap fun x => if x.1 = t then some (x.2 : Int) else none).length := by
      funext t
      rw [List.filterMap_cons]
      by_cases h : x.1 = t
      · simp [h]; omega
      · simp [h]
    rw [e, sumL_add, ih (fun y hy => hm y (by simp [hy])), one_term ts x.1 hn (hm x (by simp)), List.length_cons]
    omega
theorem sumL_swap {α β : Type} (a : List α) (b : List β) (f : α → β → Nat) : sumL (a.map fun x => sumL (b.map fun y => f x y)) = sumL (b.map fun y => sumL (a.map fun x => f x y)) := by
  induction a with
  | nil => simp only [List.map_nil, sumL]; exact (sumL_zero b).symm
  | cons x a ih =>
    rw [List.map_cons, sumL, ih, ← sumL_add]
    rfl
/-- the law -/
theorem places_all (l : List DocL) : sumL ((termsL l).map fun t => placesP (postsF t l 0)) = sumL (l.map fun d => (tokensL d.2).length) := by
  have hn : (termsL l).Nodup := (termsL_rise l).imp (fun h e => by subst e; exact absurd h (List.lt_irrefl _))
  rw [sumL_congr _ _ (fun t => sumL (l.map fun d => (placesIn d.2 t).length)) (fun t _ => placesP_posts t l 0), sumL_swap]
  refine sumL_congr l _ _ (fun d hd => ?_)
  exact tokens_places (tokensL d.2) (termsL l) hn (fun x hx => (mem_termsL l x.1).2 (List.mem_flatMap.2 ⟨d, hd, List.mem_map.2 ⟨x, hx, rfl⟩⟩))
end Go.Proofs.YtcblmcbpnakphaaGreatDoor
end

/- (Turns14) Plain: documents in the other order (SegmentTurns). No program in sight. -/
section
namespace Go.Proofs.YtcblmcbpnakphaaGreatDoor
set_option linter.unusedVariables false

/-- the same posting in the other order of n documents -/
def turnP (n : Nat) (p : PostL) : PostL := ((n : Int) - 1 - p.1, p.2)
theorem postsF_shift (t : Bytes) (l : List DocL) (i : Nat) : postsF t l (i + 1) = (postsF t l i).map fun p => (p.1 + 1, p.2) := by
  induction l generalizing i with
  | nil => rfl
  | cons d l ih =>
    rw [postsF, postsF, ih (i + 1)]
    split
    · rfl
    · rw [List.map_cons]
      congr 1
theorem postsF_turn (t : Bytes) (l : List DocL) : postsF t l.reverse 0 = ((postsF t l 0).map (turnP l.length)).reverse := by
  induction l with
  | nil => rfl
  | cons d l ih =>
    rw [List.reverse_cons, postsF_snoc, ih, postsF, postsF_shift t l 0, List.length_reverse, Nat.zero_add]
    have e : ((postsF t l 0).map fun p => ((p.1 + 1, p.2) : PostL)).map (turnP (d :: l).length) = (postsF t l 0).map (turnP l.length) := by
      rw [List.map_map]
      refine List.map_congr_left fun p _ => ?_
      simp only [Function.comp, turnP, List.length_cons]
      congr 1
      omega
    by_cases h : placesIn d.2 t = []
    · rw [if_pos h, if_pos h, List.append_nil, e]
    · rw [if_neg h, if_neg h, List.map_cons, List.reverse_cons, e]
      congr 2
      simp only [turnP, List.length_cons]
      congr 1
      omega
theorem termsL_turn (l : List DocL) : termsL l.reverse = termsL l := by
  refine rise_ext _ _ (termsL_rise _) (termsL_rise _) (fun x => ?_)
  rw [mem_termsL, mem_termsL]
  simp only [List.mem_flatMap, List.mem_reverse]
theorem docsOk_turn (l : List DocL) : docsOk l.reverse ↔ docsOk l := by
  unfold docsOk
  rw [List.map_reverse, (List.reverse_perm _).nodup_iff]
  simp only [List.mem_reverse]
theorem fromP_zero (t : Bytes) (l : List DocL) : fromP (postsF t l 0) 0 = postsF t l 0 := by
  unfold fromP
  rw [List.filter_eq_self]
  intro p hp
  have := (postsF_docs t l 0 p hp).1
  simp at this ⊢
  omega
theorem postsF_turn_at (t : Bytes) (l : List DocL) (k : Nat) (hk : k < (postsF t l 0).length) : (postsF t l.reverse 0).length = (postsF t l 0).length ∧ (postsF t l.reverse 0)[(postsF t l 0).length - 1 - k]? = some (turnP l.length (postsF t l 0)[k]) := by
  rw [postsF_turn]
  refine ⟨by simp, ?_⟩
  rw [List.getElem?_reverse (by simp; omega), List.length_map, List.getElem?_map, show (postsF t l 0).length - 1 - ((postsF t l 0).length - 1 - k) = k by omega, List.getElem?_eq_getElem hk]
  rfl
theorem turnP_turn (n : Nat) (p : PostL) : turnP n (turnP n p) = p := by
  obtain ⟨d, ps⟩ := p
  simp only [turnP]
  congr 1
  omega
end Go.Proofs.YtcblmcbpnakphaaGreatDoor
end
