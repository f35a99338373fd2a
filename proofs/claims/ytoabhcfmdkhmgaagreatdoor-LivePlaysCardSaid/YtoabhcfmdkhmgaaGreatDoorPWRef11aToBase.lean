/- Joined texts of one proof: WRef11a, WRef11b, Base. -/
import Derived.Test.YtoabhcfmdkhmgaaGreatDoorPWBldToWRef10f
import Derived.Test.YtoabhcfmdkhmgaaGreatDoorPKitToSegSpec
import Derived.WalkKit
import Derived.Lib.Hide
import Derived.Deep.QuietTactic
import Derived.BigQuiet
set_option linter.unusedSimpArgs false
set_option linter.unusedVariables false
set_option linter.unnecessarySimpa false
/- (WRef11a) codexref11: words: walked. -/
section
namespace Go.Proofs.YtoabhcfmdkhmgaaGreatDoor
open Go.RowKit
set_option linter.unusedVariables false

theorem kindR_bounds (r : Int) : 0 ≤ kindL r ∧ kindL r ≤ 3 := by
  rw [← kindR_eq]
  unfold kindR
  repeat' split
  all_goals omega
/-- what is to come, while words are gathered -/
def wstate (b : Bool) (out : List Bytes) (t : Bytes) : List Bytes :=
  if b = true then out.dropLast ++ wordsF (chunks t) (some (out.getLastD [])) else out ++ wordsF (chunks t) none
theorem wst_end (b : Bool) (out : List Bytes) (h : b = true → out ≠ []) : wstate b out [] = out := by
  unfold wstate
  split
  · rename_i hb
    rw [chunks_nil, wordsF]
    have := h hb
    rw [List.getLastD_eq_getLast?, List.getLast?_eq_some_getLast this]
    exact List.dropLast_concat_getLast this
  · rw [chunks_nil, wordsF, List.append_nil]
theorem wst_other (b : Bool) (out : List Bytes) (t : Bytes) (ht : t ≠ []) (h : b = true → out ≠ []) (hw : wordRune (rune1 t).1 = false) : wstate b out t = wstate false out (t.drop (rune1 t).2) := by
  unfold wstate
  rw [chunks_cons t ht]
  split
  · rename_i hb
    have := h hb
    rw [wordsF, if_neg (by rw [hw]; simp), if_neg (by simp), List.getLastD_eq_getLast?, List.getLast?_eq_some_getLast this]
    rw [← List.singleton_append, ← List.append_assoc]
    simp only [Option.getD_some]
    rw [List.dropLast_concat_getLast this]
  · rw [wordsF, if_neg (by rw [hw]; simp), if_neg (by simp)]
theorem wst_new (out : List Bytes) (t : Bytes) (ht : t ≠ []) (hw : wordRune (rune1 t).1 = true) : wstate false out t = wstate true (out ++ [t.take (rune1 t).2]) (t.drop (rune1 t).2) := by
  unfold wstate
  rw [chunks_cons t ht, if_neg (by simp), if_pos rfl, wordsF, if_pos hw]
  simp
theorem wst_more (out : List Bytes) (t : Bytes) (ht : t ≠ []) (ho : out ≠ []) (hw : wordRune (rune1 t).1 = true) : wstate true out t = wstate true (out.dropLast ++ [out.getLastD [] ++ t.take (rune1 t).2]) (t.drop (rune1 t).2) := by
  unfold wstate
  rw [chunks_cons t ht, if_pos rfl, if_pos rfl, wordsF, if_pos hw]
  simp
theorem map_set_last (out : List Bytes) (x : Bytes) (ho : out ≠ []) : (out.map strV).set (out.length - 1) (strV x) = (out.dropLast ++ [x]).map strV := by
  obtain ⟨o, c, rfl⟩ : ∃ o c, out = o ++ [c] := ⟨out.dropLast, out.getLast ho, (List.dropLast_concat_getLast ho).symm⟩
  rw [← List.map_set, List.length_append, List.length_singleton, Nat.add_sub_cancel, List.set_append_right _ _ (Nat.le_refl _)]
  simp
set_option maxRecDepth 100000 in
set_option maxHeartbeats 4000000 in
theorem RWords_any (s : Bytes) (w : World) (hs : s.length ≤ 1000000000) :
    Calls Tryz.prog 128 #[strV s] w fun e w' => ∃ v, e = .returned v ∧ w'.ownsRow w.heap.size 9 1 v (wordsL s).length ((wordsL s).map strV) ∧ Q w w' := by
  obtain ⟨i0, hi, hz0, hz1, hz2⟩ := info_parts (show (Tryz.prog.info? 9).map (fun i => (i.zero, i.size, i.bytes)) = some (some (strV []), 1, 16) by kernel_rfl)
  go_enter Tryz.func128, Tryz.ntmps128
  go_wp2_with fail
  go_loopw [3, 4, 0] (fun v3 v4 v0 wr => ∃ (t : Bytes) (b : Bool) (out : List Bytes), v0 = strV t ∧ v4 = .bool b ∧ t.length ≤ s.length ∧ out.length + t.length ≤ s.length ∧ (b = true → out ≠ []) ∧ Hid (∀ x ∈ out, x.length + t.length ≤ s.length) ∧ Hid (wordsL s = wstate b out t) ∧ Hid (wr.ownsRow w.heap.size 9 1 v3 out.length (out.map strV)) ∧ Hid (Q w wr)) (fun _ _ v _ => (match v with | .string b => b.size | _ => 0))
  case atStart => exact ⟨s, false, [], rfl, rfl, Nat.le_refl _, by simp, (fun h => by cases h), (fun x hx => by cases hx), rfl, World.ownsRow_nil _ _ _ _, Q.refl _⟩
  case round =>
    obtain ⟨t, b, out, rfl, rfl, htl, hol, hb, HLX, HWS, HO, HQ⟩ := hrel
    obtain ⟨wo, rfl⟩ : ∃ wo : World, wo = wr := ⟨_, rfl⟩
    by_cases hne : t = []
    · subst hne
      have hend := wst_end b out hb
      go_wp2_with fail
      go_ret
      have hws := HWS.out
      rw [hend] at hws
      rw [hws]
      exact ⟨_, rfl, HO.out, HQ.out⟩
    · have hl : 0 < t.length := List.length_pos_iff.2 hne
      have hli : (0 : Int) < (t.length : Int) := by omega
      obtain ⟨hn1, hn2⟩ := rune1_size t hne
      have hrb := rune1_neg t hne
      have cr := fun W => RRune_any t W (by omega)
      have ck := fun W => RKind_any (rune1 t).1 W
      have hdr : ({ data := t.toArray } : ByteArray).extract (rune1 t).2 t.length = ⟨(t.drop (rune1 t).2).toArray⟩ := bytes_drop t _
      have htk : ({ data := t.toArray } : ByteArray).extract 0 (rune1 t).2 = ⟨(t.take (rune1 t).2).toArray⟩ := bytes_take t _
      have hdl : (t.drop (rune1 t).2).length = t.length - (rune1 t).2 := List.length_drop
      have htkl : (t.take (rune1 t).2).length ≤ t.length := by rw [List.length_take]; omega
      have HNE := Lib.hid hne; have HB := Lib.hid hb
      have hwr : wordRune (rune1 t).1 = (decide (0 ≤ (rune1 t).1) && (kindL (rune1 t).1 == 1 || kindL (rune1 t).1 == 2)) := rfl
      obtain ⟨r, hr⟩ : ∃ r, r = (rune1 t).1 := ⟨_, rfl⟩
      obtain ⟨n, hn⟩ : ∃ n, n = (rune1 t).2 := ⟨_, rfl⟩
      obtain ⟨td, htd⟩ : ∃ td, td = t.drop (rune1 t).2 := ⟨_, rfl⟩
      obtain ⟨tk, htkk⟩ : ∃ tk, tk = t.take (rune1 t).2 := ⟨_, rfl⟩
      rw [← htd] at hdr hdl
      rw [← htkk] at htk htkl
      rw [← hr] at cr ck hrb hwr
      rw [← hn] at cr hdr htk hdl hn1 hn2
      have HTD := Lib.hid htd; have HTK := Lib.hid htkk; have HR := Lib.hid hr
      have hni : (n : Int) ≤ (t.length : Int) := by omega
      have hn0 : (0 : Int) ≤ (n : Int) := by omega
      have htd2 : td.length < t.length := by omega
      have htk2 : tk.length + td.length = t.length := by rw [htkk, htd, ← List.length_append, List.take_append_drop]
      have HT2 := Lib.hid htk2
      clear htk2
      have hsl : td.length ≤ s.length := by omega
      have hwrr : wordRune (rune1 t).1 = wordRune r := by rw [hr]
      clear hr hn htd htkk hne hb hdl
      have hkb := kindR_bounds r
      generalize hk : kindL r = k at *
      clear hk
      by_cases h0 : r < 0
      · have hwx : wordRune (rune1 t).1 = false := by rw [hwrr, hwr, decide_eq_false (by omega)]; rfl
        have HWR := Lib.hid hwx
        clear hwx hwr hwrr
        cases b with
        | false =>
          have hst := wst_other false out t HNE.out HB.out HWR.out
          have HST := Lib.hid hst
          clear hst
          go_wp2_with fail
          refine (cr _).mono ?_
          rintro e w1 ⟨rfl, q1⟩
          have HQ1 := Lib.hid (HQ.out.trans q1)
          have HO1 := Lib.hid (ownsRow_below HO.out q1)
          have hsz : w.heap.size ≤ w1.heap.size := HQ1.out.size
          clear q1 HO HQ cr
          go_wp2_with fail
          refine (ck _).mono ?_
          rintro e w2 ⟨rfl, rfl⟩
          clear ck
          go_wp2_with fail
          go_roundw
          case rel => exact ⟨td, false, out, rfl, rfl, by omega, by omega, (fun h => by cases h), (fun x hx => by have := HLX.out x hx; omega), by show _ = _; rw [HWS.out, HST.out, HTD.out], HO1, HQ1⟩
          case measure => show td.length < t.length; omega
        | true =>
          have hst := wst_other true out t HNE.out HB.out HWR.out
          have HST := Lib.hid hst
          clear hst
          go_wp2_with fail
          refine (cr _).mono ?_
          rintro e w1 ⟨rfl, q1⟩
          have HQ1 := Lib.hid (HQ.out.trans q1)
          have HO1 := Lib.hid (ownsRow_below HO.out q1)
          have hsz : w.heap.size ≤ w1.heap.size := HQ1.out.size
          clear q1 HO HQ cr
          go_wp2_with fail
          refine (ck _).mono ?_
          rintro e w2 ⟨rfl, rfl⟩
          clear ck
          go_wp2_with fail
          go_roundw
          case rel => exact ⟨td, false, out, rfl, rfl, by omega, by omega, (fun h => by cases h), (fun x hx => by have := HLX.out x hx; omega), by show _ = _; rw [HWS.out, HST.out, HTD.out], HO1, HQ1⟩
          case measure => show td.length < t.length; omega
      · by_cases k1 : k = 1
        · have hwx : wordRune (rune1 t).1 = true := by rw [hwrr, hwr, decide_eq_true (by omega), k1]; rfl
          have HWR := Lib.hid hwx
          clear hwx hwr hwrr
          subst k1
          cases b with
          | false =>
            have hst := wst_new out t HNE.out HWR.out
            have HST := Lib.hid hst
            clear hst
            go_wp2_with fail
            refine (cr _).mono ?_
            rintro e w1 ⟨rfl, q1⟩
            have HQ1 := Lib.hid (HQ.out.trans q1)
            have HO1 := Lib.hid (ownsRow_below HO.out q1)
            have hsz : w.heap.size ≤ w1.heap.size := HQ1.out.size
            clear q1 HO HQ cr
            go_wp2_with fail
            refine (ck _).mono ?_
            rintro e w2 ⟨rfl, rfl⟩
            clear ck
            have ho1 := HO1.out
            go_wp2_with (at_builtin; go_must (refine wpList_app w2 (by rfl) _ _ 90 (by rfl) w.heap.size 9 _ i0 (strV []) 1 16 Tryz.underlying90 hi hz0 hz1 hz2 rfl (by decide) (by decide) _ _ _ (by rfl) ho1 #[strV []] (by simp [Act.eval]) rfl ?c1 ?c2 hsz ?_))
            case c1 => simp [Value.oneCell']
            case c2 => omega
            intro g6 cap6 w6 hown6 hg6 hat6 hlt6 hsz6
            have q6 : Q w w6 := grown_below HQ1.out ho1 hg6 (Nat.le_refl _) (by omega)
            rw [show out.map strV ++ (#[strV []] : Array Value).toList = (out ++ [[]]).map strV by simp] at hown6
            have hc0 : w6.cell? ⟨g6, out.length, none⟩ = some (strV []) := by
              rw [hown6.cellAt _ (by omega)]; simp
            have hf0 : w6.frozen? ⟨g6, out.length, none⟩ = false := hown6.frozenAt _
            have hs6 := (hown6.stored out.length (strV tk)).1
            have hset : List.set (List.map strV (out ++ [([] : Bytes)])) out.length (strV tk) = List.map strV (out ++ [tk]) := by
              rw [← List.map_set, List.set_append_right _ _ (Nat.le_refl _)]; simp
            rw [hset] at hs6
            clear hset
            have hgg : w.heap.size ≤ g6 := by
              rcases hown6.2 with ⟨h, _⟩ | ⟨g, c, cur, h, hb, _⟩
              · cases h
              · cases h; exact hb
            have hq7 := q6.setCell (a := ⟨g6, out.length, none⟩) hgg (strV tk)
            rw [show out.length + 1 = (out ++ [tk]).length by simp] at hs6
            have hln : (out ++ [tk]).length = out.length + 1 := by simp
            rw [hln] at hs6
            have HS6 := Lib.hid hs6; have HQ7 := Lib.hid hq7; have HLN := Lib.hid hln
            clear hs6 hq7 hown6 hg6 hat6 ho1 q6 hln
            have hcat : ({ data := ([] : Bytes).toArray } : ByteArray) ++ { data := tk.toArray } = ⟨tk.toArray⟩ := by rw [bytes_append, List.nil_append]
            have hol : (out.length : Int) + 1 - 1 = (out.length : Int) := by omega
            have ho0 : (0 : Int) ≤ (out.length : Int) := by omega
            have ho2 : (out.length : Int) < (out.length : Int) + 1 := by omega
            have hsum : ∀ W : World, (Op.stringOp .add ⟨([] : Bytes).toArray⟩ ⟨tk.toArray⟩).run Tryz.prog W = .ok (.string ⟨tk.toArray⟩) W := fun W => by
              rw [run_string_add_sum W _ _ (by show 0 + tk.length ≤ _; omega)]; rw [hcat]
            go_wp2_with fail
            go_region
            go_wp2_with fail
            go_roundw
            case rel => exact ⟨td, true, out ++ [tk], rfl, rfl, by omega, by rw [HLN.out]; omega, (fun _ => by simp), (fun x hx => by
              rcases List.mem_append.1 hx with hx | hx
              · have := HLX.out x hx; omega
              · rw [List.mem_singleton] at hx; subst hx; have := HT2.out; omega), by show _ = _; rw [HWS.out, HST.out, HTD.out, HTK.out], by rw [HLN.out]; exact ownsRow_below HS6.out (Q.drew _), HQ7.out.trans (Q.drew _)⟩
            case measure => show td.length < t.length; omega
          | true =>
            have hon := HB.out rfl
            have hst := wst_more out t HNE.out hon HWR.out
            have hcl : (out.map strV)[out.length - 1]? = some (strV (out.getLastD [])) := by
              rw [List.getElem?_map, List.getLastD_eq_getLast?, List.getLast?_eq_getElem?]
              rw [List.getElem?_eq_getElem (by have := List.length_pos_iff.2 hon; omega)]; rfl
            have hsetl := map_set_last out (out.getLastD [] ++ tk) hon
            have hnx : (out.dropLast ++ [out.getLastD [] ++ tk]).length = out.length := by
              have := List.length_pos_iff.2 hon
              rw [List.length_append, List.length_dropLast, List.length_singleton]; omega
            have hcur : (out.getLastD []).length + t.length ≤ s.length := HLX.out _ (by rw [List.getLastD_eq_getLast?, List.getLast?_eq_some_getLast hon]; exact List.getLast_mem hon)
            have hxs : ∀ x ∈ out.dropLast ++ [out.getLastD [] ++ tk], x.length + td.length ≤ s.length := fun x hx => by
              have := HT2.out
              rcases List.mem_append.1 hx with hx | hx
              · have := HLX.out x (List.dropLast_subset out hx); omega
              · rw [List.mem_singleton] at hx; subst hx; rw [List.length_append]; omega
            rw [← HTK.out, ← HTD.out] at hst
            obtain ⟨m1, hm1⟩ : ∃ m1, out.length = m1 + 1 := ⟨out.length - 1, by have := List.length_pos_iff.2 hon; omega⟩
            rw [hm1, Nat.add_sub_cancel] at hcl hsetl
            rw [hm1] at hnx hol
            have ho := HO.out
            rw [hm1] at ho
            generalize hol2 : out.dropLast ++ [out.getLastD [] ++ tk] = out2 at *
            generalize out.getLastD [] = cur at *
            obtain ⟨ga, gcap, rfl, hgg⟩ := owns_value ho
            obtain ⟨g6, rfl⟩ := hgg (by omega)
            have HO := Lib.hid ho
            have HST := Lib.hid hst; have HNX := Lib.hid hnx; have HXS := Lib.hid hxs; have HCL := Lib.hid hcl; have HSL := Lib.hid hsetl
            clear hst hcl hsetl hnx hxs hm1 hol2 ho hgg hon
            go_wp2_with fail
            refine (cr _).mono ?_
            rintro e w1 ⟨rfl, q1⟩
            have HQ1 := Lib.hid (HQ.out.trans q1)
            have HO1 := Lib.hid (ownsRow_below HO.out q1)
            have hsz : w.heap.size ≤ w1.heap.size := HQ1.out.size
            clear q1 HO HQ cr
            go_wp2_with fail
            refine (ck _).mono ?_
            rintro e w2 ⟨rfl, rfl⟩
            clear ck
            have hc0 : w2.cell? ⟨g6, m1, none⟩ = some (strV cur) := by rw [HO1.out.cellAt _ (by omega)]; exact HCL.out
            have hf0 : w2.frozen? ⟨g6, m1, none⟩ = false := HO1.out.frozenAt _
            have hs6 := (HO1.out.stored m1 (strV (cur ++ tk))).1
            rw [HSL.out] at hs6
            have hgb : w.heap.size ≤ g6 := by
              rcases HO1.out.2 with ⟨h, _⟩ | ⟨g, c, cu, h, hb, _⟩
              · cases h
              · cases h; exact hb
            have hq7 := HQ1.out.setCell (a := ⟨g6, m1, none⟩) hgb (strV (cur ++ tk))
            have HS6 := Lib.hid hs6; have HQ7 := Lib.hid hq7
            clear hs6 hq7 HO1 HQ1
            have hcat : ({ data := cur.toArray } : ByteArray) ++ { data := tk.toArray } = ⟨(cur ++ tk).toArray⟩ := bytes_append _ _
            have hsum : ∀ W : World, (Op.stringOp .add ⟨cur.toArray⟩ ⟨tk.toArray⟩).run Tryz.prog W = .ok (.string ⟨(cur ++ tk).toArray⟩) W := fun W => by
              rw [run_string_add_sum W _ _ (by show cur.length + tk.length ≤ _; have := HT2.out; omega)]; rw [hcat]
            generalize cur ++ tk = ct at *
            have hol : (m1 : Int) + 1 - 1 = (m1 : Int) := by omega
            have ho0 : (0 : Int) ≤ (m1 : Int) := by omega
            have ho2 : (m1 : Int) < (m1 : Int) + 1 := by omega
            clear hcat
            go_wp2_with fail
            go_region
            go_wp2_with fail
            go_roundw
            case rel => exact ⟨td, true, out2, rfl, rfl, by omega, by rw [HNX.out]; omega, (fun _ => by intro e; have := HNX.out; rw [e] at this; simp at this), HXS, by show _ = _; rw [HWS.out, HST.out], by rw [HNX.out]; exact ownsRow_below HS6.out (Q.drew _), HQ7.out.trans (Q.drew _)⟩
            case measure => show td.length < t.length; omega
        · by_cases k2 : k = 2
          · have hwx : wordRune (rune1 t).1 = true := by rw [hwrr, hwr, decide_eq_true (by omega), k2]; rfl
            have HWR := Lib.hid hwx
            clear hwx hwr hwrr
            subst k2
            cases b with
            | false =>
              have hst := wst_new out t HNE.out HWR.out
              have HST := Lib.hid hst
              clear hst
              go_wp2_with fail
              refine (cr _).mono ?_
              rintro e w1 ⟨rfl, q1⟩
              have HQ1 := Lib.hid (HQ.out.trans q1)
              have HO1 := Lib.hid (ownsRow_below HO.out q1)
              have hsz : w.heap.size ≤ w1.heap.size := HQ1.out.size
              clear q1 HO HQ cr
              go_wp2_with fail
              refine (ck _).mono ?_
              rintro e w2 ⟨rfl, rfl⟩
              clear ck
              have ho1 := HO1.out
              go_wp2_with (at_builtin; go_must (refine wpList_app w2 (by rfl) _ _ 90 (by rfl) w.heap.size 9 _ i0 (strV []) 1 16 Tryz.underlying90 hi hz0 hz1 hz2 rfl (by decide) (by decide) _ _ _ (by rfl) ho1 #[strV []] (by simp [Act.eval]) rfl ?c1 ?c2 hsz ?_))
              case c1 => simp [Value.oneCell']
              case c2 => omega
              intro g6 cap6 w6 hown6 hg6 hat6 hlt6 hsz6
              have q6 : Q w w6 := grown_below HQ1.out ho1 hg6 (Nat.le_refl _) (by omega)
              rw [show out.map strV ++ (#[strV []] : Array Value).toList = (out ++ [[]]).map strV by simp] at hown6
              have hc0 : w6.cell? ⟨g6, out.length, none⟩ = some (strV []) := by
                rw [hown6.cellAt _ (by omega)]; simp
              have hf0 : w6.frozen? ⟨g6, out.length, none⟩ = false := hown6.frozenAt _
              have hs6 := (hown6.stored out.length (strV tk)).1
              have hset : List.set (List.map strV (out ++ [([] : Bytes)])) out.length (strV tk) = List.map strV (out ++ [tk]) := by
                rw [← List.map_set, List.set_append_right _ _ (Nat.le_refl _)]; simp
              rw [hset] at hs6
              clear hset
              have hgg : w.heap.size ≤ g6 := by
                rcases hown6.2 with ⟨h, _⟩ | ⟨g, c, cur, h, hb, _⟩
                · cases h
                · cases h; exact hb
              have hq7 := q6.setCell (a := ⟨g6, out.length, none⟩) hgg (strV tk)
              rw [show out.length + 1 = (out ++ [tk]).length by simp] at hs6
              have hln : (out ++ [tk]).length = out.length + 1 := by simp
              rw [hln] at hs6
              have HS6 := Lib.hid hs6; have HQ7 := Lib.hid hq7; have HLN := Lib.hid hln
              clear hs6 hq7 hown6 hg6 hat6 ho1 q6 hln
              have hcat : ({ data := ([] : Bytes).toArray } : ByteArray) ++ { data := tk.toArray } = ⟨tk.toArray⟩ := by rw [bytes_append, List.nil_append]
              have hol : (out.length : Int) + 1 - 1 = (out.length : Int) := by omega
              have ho0 : (0 : Int) ≤ (out.length : Int) := by omega
              have ho2 : (out.length : Int) < (out.length : Int) + 1 := by omega
              have hsum : ∀ W : World, (Op.stringOp .add ⟨([] : Bytes).toArray⟩ ⟨tk.toArray⟩).run Tryz.prog W = .ok (.string ⟨tk.toArray⟩) W := fun W => by
                rw [run_string_add_sum W _ _ (by show 0 + tk.length ≤ _; omega)]; rw [hcat]
              go_wp2_with fail
              go_region
              go_wp2_with fail
              go_roundw
              case rel => exact ⟨td, true, out ++ [tk], rfl, rfl, by omega, by rw [HLN.out]; omega, (fun _ => by simp), (fun x hx => by
                rcases List.mem_append.1 hx with hx | hx
                · have := HLX.out x hx; omega
                · rw [List.mem_singleton] at hx; subst hx; have := HT2.out; omega), by show _ = _; rw [HWS.out, HST.out, HTD.out, HTK.out], by rw [HLN.out]; exact ownsRow_below HS6.out (Q.drew _), HQ7.out.trans (Q.drew _)⟩
              case measure => show td.length < t.length; omega
            | true =>
              have hon := HB.out rfl
              have hst := wst_more out t HNE.out hon HWR.out
              have hcl : (out.map strV)[out.length - 1]? = some (strV (out.getLastD [])) := by
                rw [List.getElem?_map, List.getLastD_eq_getLast?, List.getLast?_eq_getElem?]
                rw [List.getElem?_eq_getElem (by have := List.length_pos_iff.2 hon; omega)]; rfl
              have hsetl := map_set_last out (out.getLastD [] ++ tk) hon
              have hnx : (out.dropLast ++ [out.getLastD [] ++ tk]).length = out.length := by
                have := List.length_pos_iff.2 hon
                rw [List.length_append, List.length_dropLast, List.length_singleton]; omega
              have hcur : (out.getLastD []).length + t.length ≤ s.length := HLX.out _ (by rw [List.getLastD_eq_getLast?, List.getLast?_eq_some_getLast hon]; exact List.getLast_mem hon)
              have hxs : ∀ x ∈ out.dropLast ++ [out.getLastD [] ++ tk], x.length + td.length ≤ s.length := fun x hx => by
                have := HT2.out
                rcases List.mem_append.1 hx with hx | hx
                · have := HLX.out x (List.dropLast_subset out hx); omega
                · rw [List.mem_singleton] at hx; subst hx; rw [List.length_append]; omega
              rw [← HTK.out, ← HTD.out] at hst
              obtain ⟨m1, hm1⟩ : ∃ m1, out.length = m1 + 1 := ⟨out.length - 1, by have := List.length_pos_iff.2 hon; omega⟩
              rw [hm1, Nat.add_sub_cancel] at hcl hsetl
              rw [hm1] at hnx hol
              have ho := HO.out
              rw [hm1] at ho
              generalize hol2 : out.dropLast ++ [out.getLastD [] ++ tk] = out2 at *
              generalize out.getLastD [] = cur at *
              obtain ⟨ga, gcap, rfl, hgg⟩ := owns_value ho
              obtain ⟨g6, rfl⟩ := hgg (by omega)
              have HO := Lib.hid ho
              have HST := Lib.hid hst; have HNX := Lib.hid hnx; have HXS := Lib.hid hxs; have HCL := Lib.hid hcl; have HSL := Lib.hid hsetl
              clear hst hcl hsetl hnx hxs hm1 hol2 ho hgg hon
              go_wp2_with fail
              refine (cr _).mono ?_
              rintro e w1 ⟨rfl, q1⟩
              have HQ1 := Lib.hid (HQ.out.trans q1)
              have HO1 := Lib.hid (ownsRow_below HO.out q1)
              have hsz : w.heap.size ≤ w1.heap.size := HQ1.out.size
              clear q1 HO HQ cr
              go_wp2_with fail
              refine (ck _).mono ?_
              rintro e w2 ⟨rfl, rfl⟩
              clear ck
              have hc0 : w2.cell? ⟨g6, m1, none⟩ = some (strV cur) := by rw [HO1.out.cellAt _ (by omega)]; exact HCL.out
              have hf0 : w2.frozen? ⟨g6, m1, none⟩ = false := HO1.out.frozenAt _
              have hs6 := (HO1.out.stored m1 (strV (cur ++ tk))).1
              rw [HSL.out] at hs6
              have hgb : w.heap.size ≤ g6 := by
                rcases HO1.out.2 with ⟨h, _⟩ | ⟨g, c, cu, h, hb, _⟩
                · cases h
                · cases h; exact hb
              have hq7 := HQ1.out.setCell (a := ⟨g6, m1, none⟩) hgb (strV (cur ++ tk))
              have HS6 := Lib.hid hs6; have HQ7 := Lib.hid hq7
              clear hs6 hq7 HO1 HQ1
              have hcat : ({ data := cur.toArray } : ByteArray) ++ { data := tk.toArray } = ⟨(cur ++ tk).toArray⟩ := bytes_append _ _
              have hsum : ∀ W : World, (Op.stringOp .add ⟨cur.toArray⟩ ⟨tk.toArray⟩).run Tryz.prog W = .ok (.string ⟨(cur ++ tk).toArray⟩) W := fun W => by
                rw [run_string_add_sum W _ _ (by show cur.length + tk.length ≤ _; have := HT2.out; omega)]; rw [hcat]
              generalize cur ++ tk = ct at *
              have hol : (m1 : Int) + 1 - 1 = (m1 : Int) := by omega
              have ho0 : (0 : Int) ≤ (m1 : Int) := by omega
              have ho2 : (m1 : Int) < (m1 : Int) + 1 := by omega
              clear hcat
              go_wp2_with fail
              go_region
              go_wp2_with fail
              go_roundw
              case rel => exact ⟨td, true, out2, rfl, rfl, by omega, by rw [HNX.out]; omega, (fun _ => by intro e; have := HNX.out; rw [e] at this; simp at this), HXS, by show _ = _; rw [HWS.out, HST.out], by rw [HNX.out]; exact ownsRow_below HS6.out (Q.drew _), HQ7.out.trans (Q.drew _)⟩
              case measure => show td.length < t.length; omega
          · have hwx : wordRune (rune1 t).1 = false := by
              rw [hwrr, hwr, show (k == 1) = false by simpa using k1, show (k == 2) = false by simpa using k2]; simp
            have HWR := Lib.hid hwx
            clear hwx hwr hwrr
            have h03 : k = 0 ∨ k = 3 := by omega
            clear k1 k2 hkb
            rcases h03 with rfl | rfl
            · cases b with
              | false =>
                have hst := wst_other false out t HNE.out HB.out HWR.out
                have HST := Lib.hid hst
                clear hst
                go_wp2_with fail
                refine (cr _).mono ?_
                rintro e w1 ⟨rfl, q1⟩
                have HQ1 := Lib.hid (HQ.out.trans q1)
                have HO1 := Lib.hid (ownsRow_below HO.out q1)
                have hsz : w.heap.size ≤ w1.heap.size := HQ1.out.size
                clear q1 HO HQ cr
                go_wp2_with fail
                refine (ck _).mono ?_
                rintro e w2 ⟨rfl, rfl⟩
                clear ck
                go_wp2_with fail
                go_roundw
                case rel => exact ⟨td, false, out, rfl, rfl, by omega, by omega, (fun h => by cases h), (fun x hx => by have := HLX.out x hx; omega), by show _ = _; rw [HWS.out, HST.out, HTD.out], HO1, HQ1⟩
                case measure => show td.length < t.length; omega
              | true =>
                have hst := wst_other true out t HNE.out HB.out HWR.out
                have HST := Lib.hid hst
                clear hst
                go_wp2_with fail
                refine (cr _).mono ?_
                rintro e w1 ⟨rfl, q1⟩
                have HQ1 := Lib.hid (HQ.out.trans q1)
                have HO1 := Lib.hid (ownsRow_below HO.out q1)
                have hsz : w.heap.size ≤ w1.heap.size := HQ1.out.size
                clear q1 HO HQ cr
                go_wp2_with fail
                refine (ck _).mono ?_
                rintro e w2 ⟨rfl, rfl⟩
                clear ck
                go_wp2_with fail
                go_roundw
                case rel => exact ⟨td, false, out, rfl, rfl, by omega, by omega, (fun h => by cases h), (fun x hx => by have := HLX.out x hx; omega), by show _ = _; rw [HWS.out, HST.out, HTD.out], HO1, HQ1⟩
                case measure => show td.length < t.length; omega
            · cases b with
              | false =>
                have hst := wst_other false out t HNE.out HB.out HWR.out
                have HST := Lib.hid hst
                clear hst
                go_wp2_with fail
                refine (cr _).mono ?_
                rintro e w1 ⟨rfl, q1⟩
                have HQ1 := Lib.hid (HQ.out.trans q1)
                have HO1 := Lib.hid (ownsRow_below HO.out q1)
                have hsz : w.heap.size ≤ w1.heap.size := HQ1.out.size
                clear q1 HO HQ cr
                go_wp2_with fail
                refine (ck _).mono ?_
                rintro e w2 ⟨rfl, rfl⟩
                clear ck
                go_wp2_with fail
                go_roundw
                case rel => exact ⟨td, false, out, rfl, rfl, by omega, by omega, (fun h => by cases h), (fun x hx => by have := HLX.out x hx; omega), by show _ = _; rw [HWS.out, HST.out, HTD.out], HO1, HQ1⟩
                case measure => show td.length < t.length; omega
              | true =>
                have hst := wst_other true out t HNE.out HB.out HWR.out
                have HST := Lib.hid hst
                clear hst
                go_wp2_with fail
                refine (cr _).mono ?_
                rintro e w1 ⟨rfl, q1⟩
                have HQ1 := Lib.hid (HQ.out.trans q1)
                have HO1 := Lib.hid (ownsRow_below HO.out q1)
                have hsz : w.heap.size ≤ w1.heap.size := HQ1.out.size
                clear q1 HO HQ cr
                go_wp2_with fail
                refine (ck _).mono ?_
                rintro e w2 ⟨rfl, rfl⟩
                clear ck
                go_wp2_with fail
                go_roundw
                case rel => exact ⟨td, false, out, rfl, rfl, by omega, by omega, (fun h => by cases h), (fun x hx => by have := HLX.out x hx; omega), by show _ = _; rw [HWS.out, HST.out, HTD.out], HO1, HQ1⟩
                case measure => show td.length < t.length; omega
end Go.Proofs.YtoabhcfmdkhmgaaGreatDoor
end

/- (WRef11b) codexref11: Stop: walked. -/
section
namespace Go.Proofs.YtoabhcfmdkhmgaaGreatDoor
open Go.RowKit
set_option linter.unusedVariables false

theorem stopsR_eq : stopsL = [[97], [97, 110], [97, 110, 100], [97, 114, 101], [97, 115], [97, 116], [98, 101], [98, 121], [102, 111, 114], [105, 110], [105, 115], [105, 116], [111, 102], [111, 110], [111, 114], [116, 104, 101], [116, 111], [119, 105, 116, 104]] := by decide
set_option maxRecDepth 100000 in
set_option maxHeartbeats 4000000 in
theorem RStop_any (t : Bytes) (w : World) :
    Calls Tryz.prog 130 #[strV t] w fun e w' => e = .returned (.bool (stopL t)) ∧ Q w w' := by
  have hq := Q.alloc w (.cells (stopsL.map strV).toArray 9)
  have hlit : (stopsL.map strV).toArray = #[strV [97], strV [97, 110], strV [97, 110, 100], strV [97, 114, 101], strV [97, 115], strV [97, 116], strV [98, 101], strV [98, 121], strV [102, 111, 114], strV [105, 110], strV [105, 115], strV [105, 116], strV [111, 102], strV [111, 110], strV [111, 114], strV [116, 104, 101], strV [116, 111], strV [119, 105, 116, 104]] := by rw [stopsR_eq]; rfl
  have hcell : ∀ j (hj : j < stopsL.length), (w.alloc (.cells (stopsL.map strV).toArray 9)).cell? ⟨w.heap.size, j, none⟩ = some (strV stopsL[j]) := fun j hj => by
    simp only [World.cell?, heap_alloc_new, List.getElem?_toArray, List.getElem?_map, List.getElem?_eq_getElem hj, Option.map_some]
    simp
  have hslen : stopsL.length = 18 := by rw [stopsR_eq]; rfl
  rw [hlit] at hcell hq
  have HC := Lib.hid hcell; have HQ0 := Lib.hid hq; have HSL := Lib.hid hslen
  clear hq hlit hcell hslen
  go_enter Tryz.func130, Tryz.ntmps130
  go_wp2_with fail
  generalize hwa : w.alloc _ = wa at *
  clear hwa
  go_loopw [4] (fun i wr => ∃ k : Nat, k ≤ 18 ∧ i = .int .i64 (k : Nat) ∧ Hid (∀ j (hj : j < stopsL.length), j < k → stopsL[j] ≠ t) ∧ Hid (Q wa wr)) (fun i _ => 18 - (intOf i).toNat)
  case atStart => exact ⟨0, by omega, rfl, fun j hj h => by omega, Q.refl _⟩
  case round =>
    obtain ⟨k, hk, rfl, HNO, HQ⟩ := hrel
    obtain ⟨wo, rfl⟩ : ∃ wo : World, wo = wr := ⟨_, rfl⟩
    by_cases hlt : k < 18
    · have hlt2 : k < stopsL.length := by rw [HSL.out]; exact hlt
      have hc := cell_stays HQ.out (HC.out k hlt2)
      have hki : (k : Int) < 18 := by omega
      have hk0 : (0 : Int) ≤ (k : Int) := by omega
      have hx : stopsL[k] ∈ stopsL := List.getElem_mem hlt2
      have hno : stopsL[k] ≠ t → ∀ j (hj : j < stopsL.length), j < k + 1 → stopsL[j] ≠ t := fun h j hj hjk => by
        by_cases he : j = k
        · subst he; exact h
        · exact HNO.out j hj (by omega)
      have HX := Lib.hid hx; have HN := Lib.hid hno
      clear hx hno
      generalize stopsL[k] = x at *
      by_cases he : x = t
      · have HE := Lib.hid he
        subst he
        go_wp2_with fail
        go_ret
        exact ⟨ret_boolR (by unfold stopL; symm; simpa using HX.out), HQ0.out.trans HQ.out⟩
      · have heb1 : (x == t) = false := by simpa using he
        have heb2 : @BEq.beq (List UInt8) instBEqOfDecidableEq x t = false := by simpa using he
        have heb3 : @BEq.beq (List UInt8) List.instBEq x t = false := by simpa using he
        have HE := Lib.hid he
        clear he
        go_wp2_with fail
        go_roundw
        case rel => exact ⟨k + 1, by omega, by go_num, HN.out HE.out, HQ⟩
        case measure => simp [intOf]; omega
    · have hke : k = 18 := by omega
      subst hke
      go_wp2_with fail
      go_ret
      refine ⟨ret_boolR ?_, HQ0.out.trans HQ.out⟩
      have : t ∉ stopsL := fun h => by
        obtain ⟨j, hj, hje⟩ := List.mem_iff_getElem.1 h
        exact HNO.out j hj (by have := HSL.out; omega) hje
      unfold stopL
      symm
      simpa using this
end Go.Proofs.YtoabhcfmdkhmgaaGreatDoor
end

/- (Base) Plain facts on lists of bytes and on bits, used by all walks of this seat. No program in sight. -/
section
namespace Go.Proofs.YtoabhcfmdkhmgaaGreatDoor
open Go.RowKit

/-- bit i of a bitmap; off behind the end -/
def bit (l : List UInt8) (i : Nat) : Bool := (l.getD (i / 8) 0).toNat.testBit (i % 8)
def bitI (l : List UInt8) (i : Int) : Bool := decide (0 ≤ i) && bit l i.toNat

theorem bit_of_ge (l : List UInt8) (i : Nat) (h : 8 * l.length ≤ i) : bit l i = false := by
  unfold bit
  rw [List.getD_eq_getElem?_getD, List.getElem?_eq_none (by omega)]
  simp

theorem bitI_neg (l : List UInt8) (i : Int) (h : i < 0) : bitI l i = false := by
  simp [bitI]; omega
theorem bitI_ge (l : List UInt8) (i : Int) (h : 8 * l.length ≤ i) : bitI l i = false := by
  unfold bitI; rw [bit_of_ge _ _ (by omega)]; simp
theorem bitI_nat (l : List UInt8) (i : Nat) : bitI l i = bit l i := by simp [bitI]

/-- the walk's spelling of bit k of the byte x -/
theorem walk_bit (x k : Nat) (hx : x < 256) : (bits BinOp.and IntKind.u8 ((x : Int) / 2 ^ k) 1 == 1) = x.testBit k := by
  have h1 : ((x : Int) / 2 ^ k) = ((x / 2 ^ k : Nat) : Int) := by simp
  have h2 : x / 2 ^ k < 256 := Nat.lt_of_le_of_lt (Nat.div_le_self _ _) hx
  rw [h1]
  have := u8_and_nat (x / 2 ^ k) 1 h2 (by omega)
  rw [show ((1 : Nat) : Int) = 1 from rfl] at this
  rw [this, Nat.and_one_is_mod, Nat.testBit_eq_decide_div_mod_eq]
  by_cases h : x / 2 ^ k % 2 = 1
  · simp [h]
  · have : x / 2 ^ k % 2 = 0 := by omega
    rw [this]; simp

theorem bitI_in (l : List UInt8) (i : Int) (hi : 0 ≤ i) (h : (i / 8).toNat < l.length) :
    bitI l i = (l[(i / 8).toNat]).toNat.testBit (i % 8).toNat := by
  unfold bitI bit
  have e1 : i.toNat / 8 = (i / 8).toNat := by omega
  have e2 : i.toNat % 8 = (i % 8).toNat := by omega
  rw [e1, e2, List.getD_eq_getElem?_getD, List.getElem?_eq_getElem h]
  simp [hi]

theorem and_one (x : Nat) : (x &&& 1 == 1) = decide (x % 2 = 1) := by
  rw [Nat.and_one_is_mod]; rfl



theorem div_two_pow (x k : Nat) : ((x / 2 ^ k : Nat) : Int) / 2 = ((x / 2 ^ (k + 1) : Nat) : Int) := by
  rw [Nat.pow_succ, ← Nat.div_div_eq_div_mul]; rfl
theorem mod_two_one (x k : Nat) : (((x / 2 ^ k : Nat) : Int) % 2 == 1) = x.testBit k := by
  rw [Nat.testBit_eq_decide_div_mod_eq, Bool.eq_iff_iff]
  generalize x / 2 ^ k = y
  rw [beq_iff_eq, decide_eq_true_iff]
  omega

/-- block B holds (at least) the bytes l, and these may be written -/
def ByteRow (w : World) (B : Nat) (l : List UInt8) : Prop :=
  ∃ cur e lo hi, w.heap[B]? = some (.cells cur e (lo, hi)) ∧ (hi ≤ lo ∨ l.length ≤ lo) ∧ ∀ j (_ : j < l.length), cur[j]? = some (.int .u8 l[j].toNat)
theorem ByteRow.cell {w : World} {B : Nat} {l : List UInt8} (h : ByteRow w B l) (j : Nat) (hj : j < l.length) : w.cell? ⟨B, j, none⟩ = some (.int .u8 l[j].toNat) := by
  obtain ⟨cur, e, lo, hi, h1, h2, h3⟩ := h
  simp [World.cell?, h1, h3 j hj]
theorem ByteRow.frozen {w : World} {B : Nat} {l : List UInt8} (h : ByteRow w B l) (j : Nat) (hj : j < l.length) : w.frozen? ⟨B, j, none⟩ = false := by
  obtain ⟨cur, e, lo, hi, h1, h2, h3⟩ := h
  simp [World.frozen?, h1]; omega
theorem ByteRow.at {w : World} {B : Nat} {l : List UInt8} (h : ByteRow w B l) (j : Nat) (hj : j < l.length) : ∃ x : Nat, x < 256 ∧ Hid ((l.getD j 0).toNat = x) ∧ w.cell? ⟨B, j, none⟩ = some (.int .u8 x) ∧ w.frozen? ⟨B, j, none⟩ = false :=
  ⟨l[j].toNat, UInt8.toNat_lt _, by unfold Hid; rw [List.getD_eq_getElem?_getD, List.getElem?_eq_getElem hj]; rfl, h.cell j hj, h.frozen j hj⟩
theorem ByteRow.drew {w : World} {B : Nat} {l : List UInt8} (h : ByteRow w B l) : ByteRow w.drew B l := h
theorem ByteRow.drewN {w : World} {B : Nat} {l : List UInt8} (h : ByteRow w B l) (n : Nat) : ByteRow (w.drewN n) B l := h
theorem ByteRow.below {w w' : World} {B N : Nat} {l : List UInt8} (h : ByteRow w B l) (hb : Below N w w') (hB : B < N) : ByteRow w' B l := by
  obtain ⟨cur, e, lo, hi, h1, h2⟩ := h
  exact ⟨cur, e, lo, hi, by rw [hb.block B hB]; exact h1, h2⟩
theorem ByteRow.alloc {w : World} {B : Nat} {l : List UInt8} (h : ByteRow w B l) (o : Obj) : ByteRow (w.alloc o) B l := by
  obtain ⟨cur, e, lo, hi, h1, h2⟩ := h
  refine ⟨cur, e, lo, hi, ?_, h2⟩
  rw [Below.heap_alloc _ _ _ (Array.getElem?_eq_some_iff.1 h1).1]; exact h1
theorem ByteRow.set {w : World} {B : Nat} {l : List UInt8} (h : ByteRow w B l) (j : Nat) (v : Int) (x : UInt8) (hv : v = x.toNat) : ByteRow (w.setCell ⟨B, j, none⟩ (.int .u8 v)) B (l.set j x) := by
  obtain ⟨cur, e, lo, hi, h1, h2, h3⟩ := h
  subst hv
  refine ⟨cur.setIfInBounds j (.int .u8 x.toNat), e, lo, hi, ?_, by simpa using h2, ?_⟩
  · simp [World.setCell, Array.getElem?_modify, h1]
  · intro k hk
    have hk' : k < l.length := by simpa using hk
    rw [Array.getElem?_setIfInBounds]
    have := h3 k hk'
    have hs : k < cur.size := (Array.getElem?_eq_some_iff.1 this).1
    by_cases e : j = k
    · subst e; simp [hs]
    · simp [e, this]
theorem ByteRow.made (w : World) (l : List UInt8) (cap : Nat) (e : TypeId) : ByteRow (w.alloc (.cells (bytesRow ⟨l.toArray⟩ cap) e ((bytesRow ⟨l.toArray⟩ cap).size, (bytesRow ⟨l.toArray⟩ cap).size + 1))) w.heap.size l := by
  refine ⟨_, _, _, _, heap_alloc_new w _, Or.inr (by simp [bytesRow]), ?_⟩
  intro j hj
  have := bytesRow_at ⟨l.toArray⟩ cap j (by simpa using hj)
  simpa using this
/-- 'string(b)' of a row -/
theorem ByteRow.back {P : Program} {w : World} {B : Nat} {l : List UInt8} (h : ByteRow w B l) (src dst e : TypeId) (cap : Nat) (hs : P.underlying src = some (.slice e)) (he : P.underlying e = some (.int .u8)) (hd : P.underlying dst = some .string) :
    (convert src dst (.slice (some ⟨B, 0, none⟩) l.length cap)).run P w = .ok (.string ⟨l.toArray⟩) w :=
  run_convert_bytes_back w src dst e _ cap l hs he hd (fun j hj => by
    have : (⟨B, 0, none⟩ : Addr).add j = ⟨B, j, none⟩ := by unfold Addr.add; split <;> simp_all
    rw [this]; exact h.cell j hj)

/-- a byte with its bit k on or off -/
def byteSet (x k : Nat) (on : Bool) : Nat := if on then x ||| 2 ^ k else x &&& (255 - 2 ^ k)
def setBit (l : List UInt8) (i : Nat) (on : Bool) : List UInt8 := l.set (i / 8) (UInt8.ofNat (byteSet (l.getD (i / 8) 0).toNat (i % 8) on))
def setTo (l : List UInt8) (start : Nat) (on : Bool) : Nat → List UInt8
  | 0 => l
  | k + 1 => setBit (setTo l start on k) (start + k) on
theorem length_setBit (l : List UInt8) (i : Nat) (on : Bool) : (setBit l i on).length = l.length := by simp [setBit]
theorem length_setTo (l : List UInt8) (s : Nat) (on : Bool) (k : Nat) : (setTo l s on k).length = l.length := by
  induction k with
  | zero => rfl
  | succ k ih => rw [setTo, length_setBit, ih]

theorem two_pow_mod (k : Nat) (hk : k < 8) : ((2 : Int) ^ k % 256) = ((2 ^ k : Nat) : Int) := by
  have h : ∀ k : Fin 8, ((2 : Int) ^ k.val % 256) = ((2 ^ k.val : Nat) : Int) := by decide
  exact h ⟨k, hk⟩
theorem two_pow_lt (k : Nat) (hk : k < 8) : 2 ^ k < 256 := by
  have h : ∀ k : Fin 8, 2 ^ k.val < 256 := by decide
  exact h ⟨k, hk⟩
theorem byteSet_lt (x k : Nat) (on : Bool) (hx : x < 256) (hk : k < 8) : byteSet x k on < 256 := by
  unfold byteSet
  split
  · exact Nat.or_lt_two_pow (n := 8) hx (two_pow_lt k hk)
  · exact Nat.lt_of_le_of_lt Nat.and_le_left hx
theorem clear_or (x k : Nat) (hx : x < 256) (hk : k < 8) : (x &&& (255 - 2 ^ k)) ||| 2 ^ k = x ||| 2 ^ k := by
  have h : ∀ (x : Fin 256) (k : Fin 8), (x.val &&& (255 - 2 ^ k.val)) ||| 2 ^ k.val = x.val ||| 2 ^ k.val := by decide +kernel
  exact h ⟨x, hx⟩ ⟨k, hk⟩
theorem walk_clear (x k : Nat) (hx : x < 256) (hk : k < 8) : bits BinOp.andNot IntKind.u8 (x : Int) (2 ^ k % 256) = ((byteSet x k false : Nat) : Int) := by
  rw [two_pow_mod k hk, u8_andNot_nat _ _ hx (two_pow_lt k hk)]; rfl
theorem walk_turn (x k : Nat) (hx : x < 256) (hk : k < 8) : bits BinOp.or IntKind.u8 (bits BinOp.andNot IntKind.u8 (x : Int) (2 ^ k % 256)) (2 ^ k % 256) = ((byteSet x k true : Nat) : Int) := by
  rw [walk_clear x k hx hk, two_pow_mod k hk, u8_or_nat _ _ (byteSet_lt x k false hx hk) (two_pow_lt k hk)]
  unfold byteSet
  simp [clear_or x k hx hk]
theorem set_set (l : List UInt8) (i : Nat) (a b : UInt8) : (l.set i a).set i b = l.set i b := by simp
theorem ofNat_toNat (n : Nat) (h : n < 256) : ((UInt8.ofNat n).toNat : Int) = n := by
  rw [UInt8.toNat_ofNat']; omega

/-- so many bits are the first n -/
def firstN (l : List UInt8) (n : Int) : Nat := (max 0 (min n (8 * l.length))).toNat
theorem firstN_le (l : List UInt8) (n : Int) : firstN l n ≤ 8 * l.length := by unfold firstN; omega
theorem firstN_int (l : List UInt8) (n : Int) : ((firstN l n : Nat) : Int) = max 0 (min n (8 * l.length)) := by unfold firstN; omega
/-- how many of the first k bits are off -/
def cnt (l : List UInt8) : Nat → Nat
  | 0 => 0
  | k + 1 => cnt l k + if bit l k then 0 else 1
theorem cnt_le (l : List UInt8) (k : Nat) : cnt l k ≤ k := by
  induction k with
  | zero => exact Nat.le_refl _
  | succ k ih => rw [cnt]; split <;> omega
def makeL (n : Int) : List UInt8 := if 1 ≤ n ∧ n ≤ 32768 then List.replicate ((n + 7) / 8).toNat 0 else []

theorem ByteRow.zeros (w : World) (n : Nat) (e : TypeId) : ByteRow (w.alloc (.cells (madeCells #[.int .u8 0] n) e)) w.heap.size (List.replicate n 0) := by
  refine ⟨_, _, _, _, heap_alloc_new w _, Or.inl (Nat.le_refl _), ?_⟩
  intro j hj
  have hj' : j < n := by simpa using hj
  simp [madeCells, hj', Nat.mod_one]

theorem xor_set (x k : Nat) (on : Bool) (hx : x < 256) (hk : k < 8) (h : (x.testBit k == on) = false) : x ^^^ 2 ^ k = byteSet x k on := by
  have h' : ∀ (x : Fin 256) (k : Fin 8) (on : Bool), (x.val.testBit k.val == on) = false → x.val ^^^ 2 ^ k.val = byteSet x.val k.val on := by decide +kernel
  exact h' ⟨x, hx⟩ ⟨k, hk⟩ on h
theorem same_set (x k : Nat) (on : Bool) (hx : x < 256) (hk : k < 8) (h : (x.testBit k == on) = true) : x = byteSet x k on := by
  have h' : ∀ (x : Fin 256) (k : Fin 8) (on : Bool), (x.val.testBit k.val == on) = true → x.val = byteSet x.val k.val on := by decide +kernel
  exact h' ⟨x, hx⟩ ⟨k, hk⟩ on h

/-- the runs of free bits among the first k, as pairs: where, how many -/
def bump : List (Nat × Nat) → List (Nat × Nat)
  | [] => []
  | [r] => [(r.1, r.2 + 1)]
  | r :: rs => r :: bump rs
def runsTo (l : List UInt8) : Nat → List (Nat × Nat)
  | 0 => []
  | k + 1 => if bit l k then runsTo l k else if 0 < k ∧ bit l (k - 1) = false then bump (runsTo l k) else runsTo l k ++ [(k, 1)]
def ext (rs : List (Nat × Nat)) : List Value := rs.flatMap fun r => [.int .i64 r.1, .int .i64 r.2]
theorem length_ext (rs : List (Nat × Nat)) : (ext rs).length = rs.length * 2 := by
  induction rs with
  | nil => rfl
  | cons r rs ih => simp only [ext, List.flatMap_cons, List.length_append] at ih ⊢; simp at ih ⊢; omega
theorem ext_append (a b : List (Nat × Nat)) : ext (a ++ b) = ext a ++ ext b := by simp [ext]
theorem ext_at (rs : List (Nat × Nat)) (j : Nat) (h : j < rs.length) : (ext rs)[2 * j]? = some (.int .i64 rs[j].1) ∧ (ext rs)[2 * j + 1]? = some (.int .i64 rs[j].2) := by
  induction rs generalizing j with
  | nil => simp at h
  | cons r rs ih =>
    cases j with
    | zero => simp [ext]
    | succ j =>
      have := ih j (by simpa using h)
      have e : ext (r :: rs) = .int .i64 r.1 :: .int .i64 r.2 :: ext rs := by simp [ext]
      rw [e]
      have e2 : 2 * (j + 1) = 2 * j + 1 + 1 := by omega
      rw [e2]
      simpa using this
theorem length_bump (rs : List (Nat × Nat)) : (bump rs).length = rs.length := by
  induction rs with
  | nil => rfl
  | cons r rs ih => cases rs with
    | nil => rfl
    | cons q qs => simp only [bump, List.length_cons] at ih ⊢; omega
theorem runsTo_length (l : List UInt8) (k : Nat) : (runsTo l k).length ≤ k := by
  induction k with
  | zero => exact Nat.le_refl _
  | succ k ih =>
    rw [runsTo]
    split
    · omega
    · split
      · rw [length_bump]; omega
      · simp; omega
theorem bump_snoc (rs : List (Nat × Nat)) (r : Nat × Nat) : bump (rs ++ [r]) = rs ++ [(r.1, r.2 + 1)] := by
  induction rs with
  | nil => rfl
  | cons q qs ih =>
    rw [List.cons_append]
    cases h : qs ++ [r] with
    | nil => simp at h
    | cons a az =>
      rw [h] at ih
      simp only [bump, ih, List.cons_append]
/-- behind a free bit there is a run, and it ends there -/
theorem runsTo_last (l : List UInt8) (k : Nat) (h : bit l k = false) : ∃ rs r, runsTo l (k + 1) = rs ++ [r] ∧ r.1 + r.2 = k + 1 ∧ 1 ≤ r.2 := by
  induction k with
  | zero => exact ⟨[], (0, 1), by simp [runsTo, h], by omega, by omega⟩
  | succ k ih =>
    rw [runsTo, h]
    by_cases hk : bit l k = false
    · obtain ⟨rs, r, e, h1, h2⟩ := ih hk
      rw [e]
      refine ⟨rs, (r.1, r.2 + 1), ?_, by simp; omega, by simp⟩
      simp [hk, bump_snoc]
    · exact ⟨runsTo l (k + 1), (k + 1, 1), by simp [hk], by omega, by omega⟩

theorem ext_set (rs : List (Nat × Nat)) (r1 r2 : Nat) : (ext rs ++ ext [(r1, r2)]).set (rs.length * 2 + 1) (.int .i64 ((r2 : Int) + 1)) = ext (rs ++ [(r1, r2 + 1)]) := by
  rw [ext_append, List.set_append_right _ _ (by rw [length_ext]; omega), length_ext]
  have : rs.length * 2 + 1 - rs.length * 2 = 1 := by omega
  rw [this]
  simp [ext]

theorem pairs_differ (ra rb : List (Nat × Nat)) (k : Nat) (h1 : k < ra.length) (h2 : k < rb.length) (h : (!((ra[k].1 : Int) == (rb[k].1 : Int))) = true ∨ (!((ra[k].2 : Int) == (rb[k].2 : Int))) = true) : decide (ra = rb) = false := by
  rw [decide_eq_false_iff_not]
  intro e
  subst e
  simp at h
theorem pairs_same (ra rb : List (Nat × Nat)) (k : Nat) (h1 : k < ra.length) (h2 : k < rb.length) (h : (!((ra[k].1 : Int) == (rb[k].1 : Int))) = false ∧ (!((ra[k].2 : Int) == (rb[k].2 : Int))) = false) (hj : ∀ j, j < k → ra[j]? = rb[j]?) : ∀ j, j < k + 1 → ra[j]? = rb[j]? := by
  intro j hjk
  by_cases e : j = k
  · subst e
    simp at h
    rw [List.getElem?_eq_getElem h1, List.getElem?_eq_getElem h2]
    congr 1
    exact Prod.ext (by omega) (by omega)
  · exact hj j (by omega)

end Go.Proofs.YtoabhcfmdkhmgaaGreatDoor
end
