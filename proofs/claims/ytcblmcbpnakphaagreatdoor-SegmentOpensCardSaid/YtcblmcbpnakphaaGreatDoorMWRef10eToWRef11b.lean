/- Joined texts of one proof: WRef10e, WRef10f, WRef11a, WRef11b. -/
import Derived.Test.YtcblmcbpnakphaaGreatDoorMWRef10aToWRef10d
import Derived.Test.YtcblmcbpnakphaaGreatDoorMOwnToWDictI
import Derived.Deep.AppendLies
import Derived.Test.YtcblmcbpnakphaaGreatDoorMWUtfToWRune
import Derived.Lib.AppendStr
set_option linter.unusedSimpArgs false
set_option linter.unusedVariables false
set_option linter.unnecessarySimpa false
/- (WRef10e) codexref10: Valid, Folded: walked. -/
section
namespace Go.Proofs.YtcblmcbpnakphaaGreatDoor
open Go.RowKit
set_option linter.unusedVariables false

theorem rune1_neg (s : Bytes) (h : s ≠ []) : -1 ≤ (rune1 s).1 ∧ (rune1 s).1 ≤ 1114111 := by
  cases s with
  | nil => exact absurd rfl h
  | cons b s =>
    have := decodeN_bounds (b :: s).length ((b :: s).getD 0 0).toNat ((b :: s).getD 1 0).toNat ((b :: s).getD 2 0).toNat ((b :: s).getD 3 0).toNat
    unfold rune1
    simp only []
    split <;> simp only <;> omega
theorem validL_step (s : Bytes) (h : s ≠ []) : validL s = (decide (0 ≤ (rune1 s).1) && validL (s.drop (rune1 s).2)) := by
  unfold validL
  rw [chunks_cons s h]; rfl
set_option maxRecDepth 100000 in
set_option maxHeartbeats 4000000 in
theorem RValid_any (s : Bytes) (w : World) (hs : s.length ≤ 9223372036854775807) :
    Calls Tryz.prog 66 #[strV s] w fun e w' => e = .returned (.bool (validL s)) ∧ Q w w' := by
  go_enter Tryz.func66, Tryz.ntmps66
  go_wp2_with fail
  go_loopw [0] (fun v wr => ∃ t : Bytes, v = strV t ∧ t.length ≤ s.length ∧ Hid (validL s = validL t) ∧ Hid (Q w wr)) (fun v _ => (match v with | .string b => b.size | _ => 0))
  case atStart => exact ⟨s, rfl, Nat.le_refl _, rfl, Q.refl _⟩
  case round =>
    obtain ⟨t, rfl, htl, HVL, HQ⟩ := hrel
    obtain ⟨wo, rfl⟩ : ∃ wo : World, wo = wr := ⟨_, rfl⟩
    by_cases hne : t = []
    · subst hne
      go_wp2_with fail
      go_ret
      exact ⟨by rw [HVL.out]; rfl, HQ.out⟩
    · have hl : 0 < t.length := List.length_pos_iff.2 hne
      have hli : (0 : Int) < (t.length : Int) := by omega
      obtain ⟨hn1, hn2⟩ := rune1_size t hne
      have hrb := rune1_neg t hne
      have hst := validL_step t hne
      have cr := fun W => RRune_any t W (by omega)
      have hdr : ({ data := t.toArray } : ByteArray).extract (rune1 t).2 t.length = ⟨(t.drop (rune1 t).2).toArray⟩ := bytes_drop t _
      have hdl : (t.drop (rune1 t).2).length = t.length - (rune1 t).2 := List.length_drop
      generalize hr : rune1 t = rn at *
      obtain ⟨r, n⟩ := rn
      simp only at hn1 hn2 hrb hst cr hdr hdl
      generalize t.drop n = td at *
      have hni : (n : Int) ≤ (t.length : Int) := by omega
      have hn0 : (0 : Int) ≤ (n : Int) := by omega
      have HST := Lib.hid hst; have HDL := Lib.hid hdl
      clear hst hr hne hdl
      by_cases h0 : r < 0
      · go_wp2_with fail
        refine (cr _).mono ?_
        rintro e w1 ⟨rfl, q1⟩
        have HQ1 := Lib.hid (HQ.out.trans q1)
        clear q1
        go_wp2_with fail
        go_ret
        exact ⟨by rw [HVL.out, HST.out, decide_eq_false (by omega)]; rfl, HQ1.out⟩
      · go_wp2_with fail
        refine (cr _).mono ?_
        rintro e w1 ⟨rfl, q1⟩
        have HQ1 := Lib.hid (HQ.out.trans q1)
        clear q1
        go_wp2_with fail
        go_roundw
        case rel => exact ⟨td, rfl, by have := HDL.out; omega, by show _ = _; rw [HVL.out, HST.out, decide_eq_true (by omega)]; rfl, HQ1⟩
        case measure => show td.length < t.length; have := HDL.out; omega
end Go.Proofs.YtcblmcbpnakphaaGreatDoor
end

/- (WRef10f) codexref10: Folded: walked; a row of bytes as a text. -/
section
namespace Go.Proofs.YtcblmcbpnakphaaGreatDoor
open Go.RowKit
set_option linter.unusedVariables false

theorem wpList_app_str {P : Program} (W : World) {ops : Array Oper} {rest : List Oper} {o : Oper} {a : Act} {Q : Exit → Act → World → Prop} (hgd : o.guard = none) (sl x : Operand) (t u : TypeId)
    (ho : o.op = .call { callee := .builtin .append, args := #[sl, x], argTypes := #[t, u] })
    (base : Nat) (e : TypeId) (i : TypeInfo) (ht : P.underlying t = some (.slice e)) (hu : P.underlying u = some .string) (hi : P.info? e = some i) (hz : i.zero = some (.int .u8 0)) (hsize : i.size = 1) (hby : i.bytes = 1)
    (v : Value) (n : Nat) (xs : List Value) (hs : a.eval sl = v) (hown : W.ownsRow base e 1 v n xs) (s : ByteArray) (hx : a.eval x = .string s) (hbytes : n + s.size ≤ 140737488355328) (hbase : base ≤ W.heap.size)
    (h : ∀ v' w', w'.ownsRow base e 1 v' (n + s.size) (xs ++ Lib.strCells s) → W.grownBy w' v.ownBlock → wpList P ops Q rest (a.put o.dst v') w') : wpList P ops Q (o :: rest) a W := by
  obtain ⟨v', w', hr, h2, h3, _⟩ := Lib.run_append_own_string (P := P) W base t u o.type e i ht hu hi hz hsize hby v n xs hown s (by unfold maxLen; omega) hbytes hbase
  refine wpList_plain hgd fun _ hK => ?_
  unfold Oper.wp execOp
  simp only [ho, resolve, invoke, builtin, Sem.run_bind, Sem.run_pure, Result.andThen_ok, List.map_toArray, List.map_cons, List.map_nil, hs, hx, hr]
  exact hK _ _ (h v' w' h2 h3)
/-- 'string(b)' of a row of bytes -/
theorem row_string {w : World} {base : Nat} {v : Value} {l : Bytes} (h : w.ownsRow base 5 1 v l.length (byteVs l)) :
    (convert 54 9 v).run Tryz.prog w = .ok (strV l) w := by
  obtain ⟨a, cap, rfl, hg⟩ := owns_value h
  by_cases hl : l = []
  · subst hl
    rcases h.2 with ⟨hv, _⟩ | ⟨g, c, cur, hv, _⟩
    · cases hv
      show (convert 54 9 (.slice none 0 0)).run Tryz.prog w = _
      rw [run_convert_bytes_string w 54 9 5 none 0 0 Tryz.underlying54 Tryz.underlying5 Tryz.underlying9]
      rfl
    · cases hv
      exact run_convert_bytes_back (P := Tryz.prog) w 54 9 5 ⟨g, 0, none⟩ cap [] Tryz.underlying54 Tryz.underlying5 Tryz.underlying9 (fun j hj => by simp at hj)
  · obtain ⟨g, rfl⟩ := hg (List.length_pos_iff.2 hl)
    refine run_convert_bytes_back (P := Tryz.prog) w 54 9 5 ⟨g, 0, none⟩ cap l Tryz.underlying54 Tryz.underlying5 Tryz.underlying9 (fun j hj => ?_)
    rw [add_off, Nat.zero_add, h.cellAt j (by omega)]
    simp [byteVs, Lib.byteCells, hj]
theorem decodeN_valid (n b0 b1 b2 b3 : Nat) : (Lib.decodeN n b0 b1 b2 b3).1 < 55296 ∨ (57344 ≤ (Lib.decodeN n b0 b1 b2 b3).1 ∧ (Lib.decodeN n b0 b1 b2 b3).1 ≤ 1114111) := by
  unfold Lib.decodeN
  repeat' split
  all_goals (simp only []; omega)
theorem rune1_valid (s : Bytes) (h : s ≠ []) (h0 : 0 ≤ (rune1 s).1) : Lib.validRune (rune1 s).1 = true := by
  cases s with
  | nil => exact absurd rfl h
  | cons b s =>
    have hv := decodeN_valid (b :: s).length ((b :: s).getD 0 0).toNat ((b :: s).getD 1 0).toNat ((b :: s).getD 2 0).toNat ((b :: s).getD 3 0).toNat
    rw [validRune_iff]
    unfold rune1 at h0 ⊢
    simp only [] at h0 ⊢
    split at h0
    · simp only at h0; omega
    · rename_i hh; rw [if_neg hh]; simp only at h0 ⊢; omega
theorem foldL_valid (r : Int) (h : Lib.validRune r = true) : Lib.validRune (foldL r) = true := by
  rw [validRune_iff] at h ⊢
  unfold foldL
  simp only [inL, Bool.and_eq_true, Bool.or_eq_true, decide_eq_true_eq]
  repeat' split
  all_goals omega
theorem runeOfL_valid (r : Int) (h : Lib.validRune r = true) : runeOfL r = r := by
  have h2 := h
  rw [validRune_iff] at h
  unfold runeOfL
  rw [if_neg (by simp only [h2]; simp; omega)]
theorem foldedL_step (s : Bytes) (h : s ≠ []) : foldedL s = foldC ((rune1 s).1, s.take (rune1 s).2) ++ foldedL (s.drop (rune1 s).2) := by
  unfold foldedL
  rw [chunks_cons s h]; rfl
theorem foldC_neg (s : Bytes) (h : s ≠ []) (h0 : (rune1 s).1 < 0) : foldC ((rune1 s).1, s.take (rune1 s).2) = [s.getD 0 0] := by
  have := rune1_size s h
  unfold foldC
  rw [if_pos h0]
  obtain ⟨b, t, rfl⟩ := List.exists_cons_of_ne_nil h
  obtain ⟨k, hk⟩ : ∃ k, (rune1 (b :: t)).2 = k + 1 := ⟨(rune1 (b :: t)).2 - 1, by omega⟩
  simp only [hk]
  simp
theorem foldC_pos (s : Bytes) (h : s ≠ []) (h0 : 0 ≤ (rune1 s).1) : foldC ((rune1 s).1, s.take (rune1 s).2) = Lib.encodeRune (foldL (rune1 s).1) := by
  unfold foldC
  rw [if_neg (by simp only; omega), runeOfL_valid _ (foldL_valid _ (rune1_valid s h h0))]
set_option maxRecDepth 100000 in
set_option maxHeartbeats 4000000 in
theorem RFolded_any (s : Bytes) (w : World) (hs : s.length ≤ 1000000000) :
    Calls Tryz.prog 76 #[strV s] w fun e w' => e = .returned (strV (foldedL s)) ∧ Q w w' := by
  obtain ⟨i0, hi, hz0, hz1, hz2⟩ := info_parts (show (Tryz.prog.info? 5).map (fun i => (i.zero, i.size, i.bytes)) = some (some (.int .u8 0), 1, 1) by kernel_rfl)
  go_enter Tryz.func76, Tryz.ntmps76
  go_wp2_with fail
  go_loopw [3, 0] (fun bv v wr => ∃ t l : Bytes, v = strV t ∧ l.length + 4 * t.length ≤ 4 * s.length ∧ Hid (foldedL s = l ++ foldedL t) ∧ Hid (wr.ownsRow w.heap.size 5 1 bv l.length (byteVs l)) ∧ Hid (Q w wr)) (fun _ v _ => (match v with | .string b => b.size | _ => 0))
  case atStart => exact ⟨s, [], rfl, by simp, rfl, World.ownsRow_nil _ _ _ _, Q.refl _⟩
  case round =>
    obtain ⟨t, l, rfl, htl, HFL, HO, HQ⟩ := hrel
    obtain ⟨wo, rfl⟩ : ∃ wo : World, wo = wr := ⟨_, rfl⟩
    by_cases hne : t = []
    · subst hne
      have hc := row_string HO.out
      go_wp2_with fail
      go_ret
      exact ⟨by rw [HFL.out, show foldedL [] = [] from rfl, List.append_nil]; rfl, HQ.out⟩
    · have hl : 0 < t.length := List.length_pos_iff.2 hne
      have hli : (0 : Int) < (t.length : Int) := by omega
      obtain ⟨hn1, hn2⟩ := rune1_size t hne
      have hrb := rune1_neg t hne
      have hst := foldedL_step t hne
      have cr := fun W => RRune_any t W (by omega)
      have hdr : ({ data := t.toArray } : ByteArray).extract (rune1 t).2 t.length = ⟨(t.drop (rune1 t).2).toArray⟩ := bytes_drop t _
      have hdl : (t.drop (rune1 t).2).length = t.length - (rune1 t).2 := List.length_drop
      have hfn := foldC_neg t hne
      have hfp := foldC_pos t hne
      have hva := rune1_valid t hne
      have hb0 : ((({ data := t.toArray } : ByteArray)[0]'hl).toNat : Int) = (byteN t 0 : Nat) := byteAt t 0 hl
      have hgd : t.getD 0 0 = UInt8.ofNat (byteN t 0) := by unfold byteN; simp
      have hbl := byteN_lt t 0
      generalize hcc : foldC ((rune1 t).1, t.take (rune1 t).2) = fc at *
      generalize hr : rune1 t = rn at *
      obtain ⟨r, n⟩ := rn
      simp only at hn1 hn2 hrb hst cr hdr hdl hfn hfp hva
      generalize t.drop n = td at *
      have hni : (n : Int) ≤ (t.length : Int) := by omega
      have hn0 : (0 : Int) ≤ (n : Int) := by omega
      have HST := Lib.hid hst; have HDL := Lib.hid hdl; have HFN := Lib.hid hfn; have HFP := Lib.hid hfp; have HVA := Lib.hid hva; have HGD := Lib.hid hgd
      clear hst hr hne hdl hcc hfn hfp hva hgd
      by_cases h0 : r < 0
      · have hfc := HFN.out h0
        generalize byteN t 0 = b0 at *
        have HFC := Lib.hid hfc
        clear hfc
        go_wp2_with fail
        refine (cr _).mono ?_
        rintro e w1 ⟨rfl, q1⟩
        have HQ1 := Lib.hid (HQ.out.trans q1)
        have ho1 := ownsRow_below HO.out q1
        have hsz : w.heap.size ≤ w1.heap.size := HQ1.out.size
        clear q1 HO HQ
        go_wp2_with (at_builtin; go_must (refine wpList_app w1 (by rfl) _ _ 54 (by rfl) w.heap.size 5 _ i0 (.int .u8 0) 1 1 Tryz.underlying54 hi hz0 hz1 hz2 rfl (by decide) (by decide) _ _ _ (by rfl) ho1 #[.int .u8 (b0 : Nat)] (by simp [Act.eval]) rfl ?c1 ?c2 hsz ?_))
        case c1 => simp [Value.oneCell']
        case c2 => omega
        intro g6 cap6 w6 hown6 hg6 hat6 hlt6 hsz6
        have q6 : Q w w6 := grown_below HQ1.out ho1 hg6 (Nat.le_refl _) (by omega)
        rw [show byteVs l ++ (#[Value.int .u8 (b0 : Nat)] : Array Value).toList = byteVs (l ++ fc) by
          rw [HFC.out, HGD.out, byteVs_append]
          simp [byteVs, Lib.byteCells]
          omega, show l.length + 1 = (l ++ fc).length by rw [HFC.out]; simp] at hown6
        have hlen : (l ++ fc).length = l.length + 1 := by rw [HFC.out]; simp
        have HO6 := Lib.hid hown6; have HQ6 := Lib.hid q6; have HLN := Lib.hid hlen
        rw [← hlen]
        clear hown6 q6 hg6 hat6 ho1 hlen
        generalize hlf : l ++ fc = lf at *
        have HLF := Lib.hid hlf
        clear hlf
        go_wp2_with fail
        go_roundw
        case rel => exact ⟨td, lf, rfl, by have := HDL.out; have := HLN.out; omega, by show _ = _; rw [HFL.out, HST.out, ← HLF.out, List.append_assoc], HO6, HQ6⟩
        case measure => show td.length < t.length; have := HDL.out; omega
      · have hfc := HFP.out (by omega)
        have hvr := HVA.out (by omega)
        have cfo := fun W => RFold_any r W (by omega) (by omega)
        have cby := fun W => RBytes_any (foldL r) W (foldL_valid r hvr)
        have hel : (Lib.encodeRune (foldL r)).length ≤ 4 := by unfold Lib.encodeRune; rw [List.length_map]; exact (Lib.encodeRuneZ_length (foldL r)).2
        rw [← hfc] at hel cby
        have CBY := Lib.hid cby
        generalize foldL r = fr at *
        clear hfc hvr cby
        go_wp2_with fail
        refine (cr _).mono ?_
        rintro e w1 ⟨rfl, q1⟩
        have HQ1 := Lib.hid (HQ.out.trans q1)
        have HO1 := Lib.hid (ownsRow_below HO.out q1)
        clear q1 HO HQ
        go_wp2_with fail
        refine (cfo _).mono ?_
        rintro e w2 ⟨rfl, rfl⟩
        go_wp2_with fail
        refine (CBY.out _).mono ?_
        rintro e w3 ⟨rfl, q3⟩
        have HQ3 := Lib.hid (HQ1.out.trans q3)
        have ho3 := ownsRow_below HO1.out q3
        have hsz : w.heap.size ≤ w3.heap.size := HQ3.out.size
        have hbytes : l.length + ({ data := fc.toArray } : ByteArray).size ≤ 140737488355328 := by show l.length + fc.length ≤ _; omega
        clear q3 HO1 HQ1 CBY
        go_wp2_with (at_builtin; go_must (refine wpList_app_str w3 (by rfl) _ _ 54 9 (by rfl) w.heap.size 5 i0 Tryz.underlying54 Tryz.underlying9 hi hz0 hz1 hz2 _ _ _ (by rfl) ho3 { data := fc.toArray } (by rfl) hbytes hsz ?_))
        intro v6 w6 hown6 hg6
        have q6 : Q w w6 := grown_below HQ3.out ho3 hg6 (Nat.le_refl _) (by omega)
        have hown6 : w6.ownsRow w.heap.size 5 1 v6 (l ++ fc).length (byteVs (l ++ fc)) := by
          rw [List.length_append, byteVs_append, ← strCells_bytes]; exact hown6
        have hlen : (l ++ fc).length = l.length + fc.length := List.length_append
        have HO6 := Lib.hid hown6; have HQ6 := Lib.hid q6; have HLN := Lib.hid hlen
        clear hown6 q6 hg6 ho3 hlen
        generalize hlf : l ++ fc = lf at *
        have HLF := Lib.hid hlf
        clear hlf
        go_wp2_with fail
        go_roundw
        case rel => exact ⟨td, lf, rfl, by have := HDL.out; have := HLN.out; omega, by show _ = _; rw [HFL.out, HST.out, ← HLF.out, List.append_assoc], HO6, HQ6⟩
        case measure => show td.length < t.length; have := HDL.out; omega
end Go.Proofs.YtcblmcbpnakphaaGreatDoor
end

/- (WRef11a) codexref11: words: walked. -/
section
namespace Go.Proofs.YtcblmcbpnakphaaGreatDoor
open Go.RowKit
set_option linter.unusedVariables false

theorem kindR_bounds (r : Int) : 0 ≤ kindL r ∧ kindL r ≤ 3 := by
  rw [← kindR_eq]
  unfold kindR
  repeat' split
  all_goals omega
/-- what is to come, while words are gathered -/
def wstate (b : Bool) (out : List Bytes) (t : Bytes) : List Bytes :=
  if b = true then out.dropLast ++ wordsF (chunks t) (some (out.getLastD [])) else out ++ wordsF (chunks t) none
theorem wst_end (b : Bool) (out : List Bytes) (h : b = true → out ≠ []) : wstate b out [] = out := by
  unfold wstate
  split
  · rename_i hb
    rw [chunks_nil, wordsF]
    have := h hb
    rw [List.getLastD_eq_getLast?, List.getLast?_eq_some_getLast this]
    exact List.dropLast_concat_getLast this
  · rw [chunks_nil, wordsF, List.append_nil]
theorem wst_other (b : Bool) (out : List Bytes) (t : Bytes) (ht : t ≠ []) (h : b = true → out ≠ []) (hw : wordRune (rune1 t).1 = false) : wstate b out t = wstate false out (t.drop (rune1 t).2) := by
  unfold wstate
  rw [chunks_cons t ht]
  split
  · rename_i hb
    have := h hb
    rw [wordsF, if_neg (by rw [hw]; simp), if_neg (by simp), List.getLastD_eq_getLast?, List.getLast?_eq_some_getLast this]
    rw [← List.singleton_append, ← List.append_assoc]
    simp only [Option.getD_some]
    rw [List.dropLast_concat_getLast this]
  · rw [wordsF, if_neg (by rw [hw]; simp), if_neg (by simp)]
theorem wst_new (out : List Bytes) (t : Bytes) (ht : t ≠ []) (hw : wordRune (rune1 t).1 = true) : wstate false out t = wstate true (out ++ [t.take (rune1 t).2]) (t.drop (rune1 t).2) := by
  unfold wstate
  rw [chunks_cons t ht, if_neg (by simp), if_pos rfl, wordsF, if_pos hw]
  simp
theorem wst_more (out : List Bytes) (t : Bytes) (ht : t ≠ []) (ho : out ≠ []) (hw : wordRune (rune1 t).1 = true) : wstate true out t = wstate true (out.dropLast ++ [out.getLastD [] ++ t.take (rune1 t).2]) (t.drop (rune1 t).2) := by
  unfold wstate
  rw [chunks_cons t ht, if_pos rfl, if_pos rfl, wordsF, if_pos hw]
  simp
theorem map_set_last (out : List Bytes) (x : Bytes) (ho : out ≠ []) : (out.map strV).set (out.length - 1) (strV x) = (out.dropLast ++ [x]).map strV := by
  obtain ⟨o, c, rfl⟩ : ∃ o c, out = o ++ [c] := ⟨out.dropLast, out.getLast ho, (List.dropLast_concat_getLast ho).symm⟩
  rw [← List.map_set, List.length_append, List.length_singleton, Nat.add_sub_cancel, List.set_append_right _ _ (Nat.le_refl _)]
  simp
set_option maxRecDepth 100000 in
set_option maxHeartbeats 4000000 in
theorem RWords_any (s : Bytes) (w : World) (hs : s.length ≤ 1000000000) :
    Calls Tryz.prog 75 #[strV s] w fun e w' => ∃ v, e = .returned v ∧ w'.ownsRow w.heap.size 9 1 v (wordsL s).length ((wordsL s).map strV) ∧ Q w w' := by
  obtain ⟨i0, hi, hz0, hz1, hz2⟩ := info_parts (show (Tryz.prog.info? 9).map (fun i => (i.zero, i.size, i.bytes)) = some (some (strV []), 1, 16) by kernel_rfl)
  go_enter Tryz.func75, Tryz.ntmps75
  go_wp2_with fail
  go_loopw [3, 4, 0] (fun v3 v4 v0 wr => ∃ (t : Bytes) (b : Bool) (out : List Bytes), v0 = strV t ∧ v4 = .bool b ∧ t.length ≤ s.length ∧ out.length + t.length ≤ s.length ∧ (b = true → out ≠ []) ∧ Hid (∀ x ∈ out, x.length + t.length ≤ s.length) ∧ Hid (wordsL s = wstate b out t) ∧ Hid (wr.ownsRow w.heap.size 9 1 v3 out.length (out.map strV)) ∧ Hid (Q w wr)) (fun _ _ v _ => (match v with | .string b => b.size | _ => 0))
  case atStart => exact ⟨s, false, [], rfl, rfl, Nat.le_refl _, by simp, (fun h => by cases h), (fun x hx => by cases hx), rfl, World.ownsRow_nil _ _ _ _, Q.refl _⟩
  case round =>
    obtain ⟨t, b, out, rfl, rfl, htl, hol, hb, HLX, HWS, HO, HQ⟩ := hrel
    obtain ⟨wo, rfl⟩ : ∃ wo : World, wo = wr := ⟨_, rfl⟩
    by_cases hne : t = []
    · subst hne
      have hend := wst_end b out hb
      go_wp2_with fail
      go_ret
      have hws := HWS.out
      rw [hend] at hws
      rw [hws]
      exact ⟨_, rfl, HO.out, HQ.out⟩
    · have hl : 0 < t.length := List.length_pos_iff.2 hne
      have hli : (0 : Int) < (t.length : Int) := by omega
      obtain ⟨hn1, hn2⟩ := rune1_size t hne
      have hrb := rune1_neg t hne
      have cr := fun W => RRune_any t W (by omega)
      have ck := fun W => RKind_any (rune1 t).1 W
      have hdr : ({ data := t.toArray } : ByteArray).extract (rune1 t).2 t.length = ⟨(t.drop (rune1 t).2).toArray⟩ := bytes_drop t _
      have htk : ({ data := t.toArray } : ByteArray).extract 0 (rune1 t).2 = ⟨(t.take (rune1 t).2).toArray⟩ := bytes_take t _
      have hdl : (t.drop (rune1 t).2).length = t.length - (rune1 t).2 := List.length_drop
      have htkl : (t.take (rune1 t).2).length ≤ t.length := by rw [List.length_take]; omega
      have HNE := Lib.hid hne; have HB := Lib.hid hb
      have hwr : wordRune (rune1 t).1 = (decide (0 ≤ (rune1 t).1) && (kindL (rune1 t).1 == 1 || kindL (rune1 t).1 == 2)) := rfl
      obtain ⟨r, hr⟩ : ∃ r, r = (rune1 t).1 := ⟨_, rfl⟩
      obtain ⟨n, hn⟩ : ∃ n, n = (rune1 t).2 := ⟨_, rfl⟩
      obtain ⟨td, htd⟩ : ∃ td, td = t.drop (rune1 t).2 := ⟨_, rfl⟩
      obtain ⟨tk, htkk⟩ : ∃ tk, tk = t.take (rune1 t).2 := ⟨_, rfl⟩
      rw [← htd] at hdr hdl
      rw [← htkk] at htk htkl
      rw [← hr] at cr ck hrb hwr
      rw [← hn] at cr hdr htk hdl hn1 hn2
      have HTD := Lib.hid htd; have HTK := Lib.hid htkk; have HR := Lib.hid hr
      have hni : (n : Int) ≤ (t.length : Int) := by omega
      have hn0 : (0 : Int) ≤ (n : Int) := by omega
      have htd2 : td.length < t.length := by omega
      have htk2 : tk.length + td.length = t.length := by rw [htkk, htd, ← List.length_append, List.take_append_drop]
      have HT2 := Lib.hid htk2
      clear htk2
      have hsl : td.length ≤ s.length := by omega
      have hwrr : wordRune (rune1 t).1 = wordRune r := by rw [hr]
      clear hr hn htd htkk hne hb hdl
      have hkb := kindR_bounds r
      generalize hk : kindL r = k at *
      clear hk
      by_cases h0 : r < 0
      · have hwx : wordRune (rune1 t).1 = false := by rw [hwrr, hwr, decide_eq_false (by omega)]; rfl
        have HWR := Lib.hid hwx
        clear hwx hwr hwrr
        cases b with
        | false =>
          have hst := wst_other false out t HNE.out HB.out HWR.out
          have HST := Lib.hid hst
          clear hst
          go_wp2_with fail
          refine (cr _).mono ?_
          rintro e w1 ⟨rfl, q1⟩
          have HQ1 := Lib.hid (HQ.out.trans q1)
          have HO1 := Lib.hid (ownsRow_below HO.out q1)
          have hsz : w.heap.size ≤ w1.heap.size := HQ1.out.size
          clear q1 HO HQ cr
          go_wp2_with fail
          refine (ck _).mono ?_
          rintro e w2 ⟨rfl, rfl⟩
          clear ck
          go_wp2_with fail
          go_roundw
          case rel => exact ⟨td, false, out, rfl, rfl, by omega, by omega, (fun h => by cases h), (fun x hx => by have := HLX.out x hx; omega), by show _ = _; rw [HWS.out, HST.out, HTD.out], HO1, HQ1⟩
          case measure => show td.length < t.length; omega
        | true =>
          have hst := wst_other true out t HNE.out HB.out HWR.out
          have HST := Lib.hid hst
          clear hst
          go_wp2_with fail
          refine (cr _).mono ?_
          rintro e w1 ⟨rfl, q1⟩
          have HQ1 := Lib.hid (HQ.out.trans q1)
          have HO1 := Lib.hid (ownsRow_below HO.out q1)
          have hsz : w.heap.size ≤ w1.heap.size := HQ1.out.size
          clear q1 HO HQ cr
          go_wp2_with fail
          refine (ck _).mono ?_
          rintro e w2 ⟨rfl, rfl⟩
          clear ck
          go_wp2_with fail
          go_roundw
          case rel => exact ⟨td, false, out, rfl, rfl, by omega, by omega, (fun h => by cases h), (fun x hx => by have := HLX.out x hx; omega), by show _ = _; rw [HWS.out, HST.out, HTD.out], HO1, HQ1⟩
          case measure => show td.length < t.length; omega
      · by_cases k1 : k = 1
        · have hwx : wordRune (rune1 t).1 = true := by rw [hwrr, hwr, decide_eq_true (by omega), k1]; rfl
          have HWR := Lib.hid hwx
          clear hwx hwr hwrr
          subst k1
          cases b with
          | false =>
            have hst := wst_new out t HNE.out HWR.out
            have HST := Lib.hid hst
            clear hst
            go_wp2_with fail
            refine (cr _).mono ?_
            rintro e w1 ⟨rfl, q1⟩
            have HQ1 := Lib.hid (HQ.out.trans q1)
            have HO1 := Lib.hid (ownsRow_below HO.out q1)
            have hsz : w.heap.size ≤ w1.heap.size := HQ1.out.size
            clear q1 HO HQ cr
            go_wp2_with fail
            refine (ck _).mono ?_
            rintro e w2 ⟨rfl, rfl⟩
            clear ck
            have ho1 := HO1.out
            go_wp2_with (at_builtin; go_must (refine wpList_app w2 (by rfl) _ _ 68 (by rfl) w.heap.size 9 _ i0 (strV []) 1 16 Tryz.underlying68 hi hz0 hz1 hz2 rfl (by decide) (by decide) _ _ _ (by rfl) ho1 #[strV []] (by simp [Act.eval]) rfl ?c1 ?c2 hsz ?_))
            case c1 => simp [Value.oneCell']
            case c2 => omega
            intro g6 cap6 w6 hown6 hg6 hat6 hlt6 hsz6
            have q6 : Q w w6 := grown_below HQ1.out ho1 hg6 (Nat.le_refl _) (by omega)
            rw [show out.map strV ++ (#[strV []] : Array Value).toList = (out ++ [[]]).map strV by simp] at hown6
            have hc0 : w6.cell? ⟨g6, out.length, none⟩ = some (strV []) := by
              rw [hown6.cellAt _ (by omega)]; simp
            have hf0 : w6.frozen? ⟨g6, out.length, none⟩ = false := hown6.frozenAt _
            have hs6 := (hown6.stored out.length (strV tk)).1
            have hset : List.set (List.map strV (out ++ [([] : Bytes)])) out.length (strV tk) = List.map strV (out ++ [tk]) := by
              rw [← List.map_set, List.set_append_right _ _ (Nat.le_refl _)]; simp
            rw [hset] at hs6
            clear hset
            have hgg : w.heap.size ≤ g6 := by
              rcases hown6.2 with ⟨h, _⟩ | ⟨g, c, cur, h, hb, _⟩
              · cases h
              · cases h; exact hb
            have hq7 := q6.setCell (a := ⟨g6, out.length, none⟩) hgg (strV tk)
            rw [show out.length + 1 = (out ++ [tk]).length by simp] at hs6
            have hln : (out ++ [tk]).length = out.length + 1 := by simp
            rw [hln] at hs6
            have HS6 := Lib.hid hs6; have HQ7 := Lib.hid hq7; have HLN := Lib.hid hln
            clear hs6 hq7 hown6 hg6 hat6 ho1 q6 hln
            have hcat : ({ data := ([] : Bytes).toArray } : ByteArray) ++ { data := tk.toArray } = ⟨tk.toArray⟩ := by rw [bytes_append, List.nil_append]
            have hol : (out.length : Int) + 1 - 1 = (out.length : Int) := by omega
            have ho0 : (0 : Int) ≤ (out.length : Int) := by omega
            have ho2 : (out.length : Int) < (out.length : Int) + 1 := by omega
            have hsum : ∀ W : World, (Op.stringOp .add ⟨([] : Bytes).toArray⟩ ⟨tk.toArray⟩).run Tryz.prog W = .ok (.string ⟨tk.toArray⟩) W := fun W => by
              rw [run_string_add_sum W _ _ (by show 0 + tk.length ≤ _; omega)]; rw [hcat]
            go_wp2_with fail
            go_region
            go_wp2_with fail
            go_roundw
            case rel => exact ⟨td, true, out ++ [tk], rfl, rfl, by omega, by rw [HLN.out]; omega, (fun _ => by simp), (fun x hx => by
              rcases List.mem_append.1 hx with hx | hx
              · have := HLX.out x hx; omega
              · rw [List.mem_singleton] at hx; subst hx; have := HT2.out; omega), by show _ = _; rw [HWS.out, HST.out, HTD.out, HTK.out], by rw [HLN.out]; exact ownsRow_below HS6.out (Q.drew _), HQ7.out.trans (Q.drew _)⟩
            case measure => show td.length < t.length; omega
          | true =>
            have hon := HB.out rfl
            have hst := wst_more out t HNE.out hon HWR.out
            have hcl : (out.map strV)[out.length - 1]? = some (strV (out.getLastD [])) := by
              rw [List.getElem?_map, List.getLastD_eq_getLast?, List.getLast?_eq_getElem?]
              rw [List.getElem?_eq_getElem (by have := List.length_pos_iff.2 hon; omega)]; rfl
            have hsetl := map_set_last out (out.getLastD [] ++ tk) hon
            have hnx : (out.dropLast ++ [out.getLastD [] ++ tk]).length = out.length := by
              have := List.length_pos_iff.2 hon
              rw [List.length_append, List.length_dropLast, List.length_singleton]; omega
            have hcur : (out.getLastD []).length + t.length ≤ s.length := HLX.out _ (by rw [List.getLastD_eq_getLast?, List.getLast?_eq_some_getLast hon]; exact List.getLast_mem hon)
            have hxs : ∀ x ∈ out.dropLast ++ [out.getLastD [] ++ tk], x.length + td.length ≤ s.length := fun x hx => by
              have := HT2.out
              rcases List.mem_append.1 hx with hx | hx
              · have := HLX.out x (List.dropLast_subset out hx); omega
              · rw [List.mem_singleton] at hx; subst hx; rw [List.length_append]; omega
            rw [← HTK.out, ← HTD.out] at hst
            obtain ⟨m1, hm1⟩ : ∃ m1, out.length = m1 + 1 := ⟨out.length - 1, by have := List.length_pos_iff.2 hon; omega⟩
            rw [hm1, Nat.add_sub_cancel] at hcl hsetl
            rw [hm1] at hnx hol
            have ho := HO.out
            rw [hm1] at ho
            generalize hol2 : out.dropLast ++ [out.getLastD [] ++ tk] = out2 at *
            generalize out.getLastD [] = cur at *
            obtain ⟨ga, gcap, rfl, hgg⟩ := owns_value ho
            obtain ⟨g6, rfl⟩ := hgg (by omega)
            have HO := Lib.hid ho
            have HST := Lib.hid hst; have HNX := Lib.hid hnx; have HXS := Lib.hid hxs; have HCL := Lib.hid hcl; have HSL := Lib.hid hsetl
            clear hst hcl hsetl hnx hxs hm1 hol2 ho hgg hon
            go_wp2_with fail
            refine (cr _).mono ?_
            rintro e w1 ⟨rfl, q1⟩
            have HQ1 := Lib.hid (HQ.out.trans q1)
            have HO1 := Lib.hid (ownsRow_below HO.out q1)
            have hsz : w.heap.size ≤ w1.heap.size := HQ1.out.size
            clear q1 HO HQ cr
            go_wp2_with fail
            refine (ck _).mono ?_
            rintro e w2 ⟨rfl, rfl⟩
            clear ck
            have hc0 : w2.cell? ⟨g6, m1, none⟩ = some (strV cur) := by rw [HO1.out.cellAt _ (by omega)]; exact HCL.out
            have hf0 : w2.frozen? ⟨g6, m1, none⟩ = false := HO1.out.frozenAt _
            have hs6 := (HO1.out.stored m1 (strV (cur ++ tk))).1
            rw [HSL.out] at hs6
            have hgb : w.heap.size ≤ g6 := by
              rcases HO1.out.2 with ⟨h, _⟩ | ⟨g, c, cu, h, hb, _⟩
              · cases h
              · cases h; exact hb
            have hq7 := HQ1.out.setCell (a := ⟨g6, m1, none⟩) hgb (strV (cur ++ tk))
            have HS6 := Lib.hid hs6; have HQ7 := Lib.hid hq7
            clear hs6 hq7 HO1 HQ1
            have hcat : ({ data := cur.toArray } : ByteArray) ++ { data := tk.toArray } = ⟨(cur ++ tk).toArray⟩ := bytes_append _ _
            have hsum : ∀ W : World, (Op.stringOp .add ⟨cur.toArray⟩ ⟨tk.toArray⟩).run Tryz.prog W = .ok (.string ⟨(cur ++ tk).toArray⟩) W := fun W => by
              rw [run_string_add_sum W _ _ (by show cur.length + tk.length ≤ _; have := HT2.out; omega)]; rw [hcat]
            generalize cur ++ tk = ct at *
            have hol : (m1 : Int) + 1 - 1 = (m1 : Int) := by omega
            have ho0 : (0 : Int) ≤ (m1 : Int) := by omega
            have ho2 : (m1 : Int) < (m1 : Int) + 1 := by omega
            clear hcat
            go_wp2_with fail
            go_region
            go_wp2_with fail
            go_roundw
            case rel => exact ⟨td, true, out2, rfl, rfl, by omega, by rw [HNX.out]; omega, (fun _ => by intro e; have := HNX.out; rw [e] at this; simp at this), HXS, by show _ = _; rw [HWS.out, HST.out], by rw [HNX.out]; exact ownsRow_below HS6.out (Q.drew _), HQ7.out.trans (Q.drew _)⟩
            case measure => show td.length < t.length; omega
        · by_cases k2 : k = 2
          · have hwx : wordRune (rune1 t).1 = true := by rw [hwrr, hwr, decide_eq_true (by omega), k2]; rfl
            have HWR := Lib.hid hwx
            clear hwx hwr hwrr
            subst k2
            cases b with
            | false =>
              have hst := wst_new out t HNE.out HWR.out
              have HST := Lib.hid hst
              clear hst
              go_wp2_with fail
              refine (cr _).mono ?_
              rintro e w1 ⟨rfl, q1⟩
              have HQ1 := Lib.hid (HQ.out.trans q1)
              have HO1 := Lib.hid (ownsRow_below HO.out q1)
              have hsz : w.heap.size ≤ w1.heap.size := HQ1.out.size
              clear q1 HO HQ cr
              go_wp2_with fail
              refine (ck _).mono ?_
              rintro e w2 ⟨rfl, rfl⟩
              clear ck
              have ho1 := HO1.out
              go_wp2_with (at_builtin; go_must (refine wpList_app w2 (by rfl) _ _ 68 (by rfl) w.heap.size 9 _ i0 (strV []) 1 16 Tryz.underlying68 hi hz0 hz1 hz2 rfl (by decide) (by decide) _ _ _ (by rfl) ho1 #[strV []] (by simp [Act.eval]) rfl ?c1 ?c2 hsz ?_))
              case c1 => simp [Value.oneCell']
              case c2 => omega
              intro g6 cap6 w6 hown6 hg6 hat6 hlt6 hsz6
              have q6 : Q w w6 := grown_below HQ1.out ho1 hg6 (Nat.le_refl _) (by omega)
              rw [show out.map strV ++ (#[strV []] : Array Value).toList = (out ++ [[]]).map strV by simp] at hown6
              have hc0 : w6.cell? ⟨g6, out.length, none⟩ = some (strV []) := by
                rw [hown6.cellAt _ (by omega)]; simp
              have hf0 : w6.frozen? ⟨g6, out.length, none⟩ = false := hown6.frozenAt _
              have hs6 := (hown6.stored out.length (strV tk)).1
              have hset : List.set (List.map strV (out ++ [([] : Bytes)])) out.length (strV tk) = List.map strV (out ++ [tk]) := by
                rw [← List.map_set, List.set_append_right _ _ (Nat.le_refl _)]; simp
              rw [hset] at hs6
              clear hset
              have hgg : w.heap.size ≤ g6 := by
                rcases hown6.2 with ⟨h, _⟩ | ⟨g, c, cur, h, hb, _⟩
                · cases h
                · cases h; exact hb
              have hq7 := q6.setCell (a := ⟨g6, out.length, none⟩) hgg (strV tk)
              rw [show out.length + 1 = (out ++ [tk]).length by simp] at hs6
              have hln : (out ++ [tk]).length = out.length + 1 := by simp
              rw [hln] at hs6
              have HS6 := Lib.hid hs6; have HQ7 := Lib.hid hq7; have HLN := Lib.hid hln
              clear hs6 hq7 hown6 hg6 hat6 ho1 q6 hln
              have hcat : ({ data := ([] : Bytes).toArray } : ByteArray) ++ { data := tk.toArray } = ⟨tk.toArray⟩ := by rw [bytes_append, List.nil_append]
              have hol : (out.length : Int) + 1 - 1 = (out.length : Int) := by omega
              have ho0 : (0 : Int) ≤ (out.length : Int) := by omega
              have ho2 : (out.length : Int) < (out.length : Int) + 1 := by omega
              have hsum : ∀ W : World, (Op.stringOp .add ⟨([] : Bytes).toArray⟩ ⟨tk.toArray⟩).run Tryz.prog W = .ok (.string ⟨tk.toArray⟩) W := fun W => by
                rw [run_string_add_sum W _ _ (by show 0 + tk.length ≤ _; omega)]; rw [hcat]
              go_wp2_with fail
              go_region
              go_wp2_with fail
              go_roundw
              case rel => exact ⟨td, true, out ++ [tk], rfl, rfl, by omega, by rw [HLN.out]; omega, (fun _ => by simp), (fun x hx => by
                rcases List.mem_append.1 hx with hx | hx
                · have := HLX.out x hx; omega
                · rw [List.mem_singleton] at hx; subst hx; have := HT2.out; omega), by show _ = _; rw [HWS.out, HST.out, HTD.out, HTK.out], by rw [HLN.out]; exact ownsRow_below HS6.out (Q.drew _), HQ7.out.trans (Q.drew _)⟩
              case measure => show td.length < t.length; omega
            | true =>
              have hon := HB.out rfl
              have hst := wst_more out t HNE.out hon HWR.out
              have hcl : (out.map strV)[out.length - 1]? = some (strV (out.getLastD [])) := by
                rw [List.getElem?_map, List.getLastD_eq_getLast?, List.getLast?_eq_getElem?]
                rw [List.getElem?_eq_getElem (by have := List.length_pos_iff.2 hon; omega)]; rfl
              have hsetl := map_set_last out (out.getLastD [] ++ tk) hon
              have hnx : (out.dropLast ++ [out.getLastD [] ++ tk]).length = out.length := by
                have := List.length_pos_iff.2 hon
                rw [List.length_append, List.length_dropLast, List.length_singleton]; omega
              have hcur : (out.getLastD []).length + t.length ≤ s.length := HLX.out _ (by rw [List.getLastD_eq_getLast?, List.getLast?_eq_some_getLast hon]; exact List.getLast_mem hon)
              have hxs : ∀ x ∈ out.dropLast ++ [out.getLastD [] ++ tk], x.length + td.length ≤ s.length := fun x hx => by
                have := HT2.out
                rcases List.mem_append.1 hx with hx | hx
                · have := HLX.out x (List.dropLast_subset out hx); omega
                · rw [List.mem_singleton] at hx; subst hx; rw [List.length_append]; omega
              rw [← HTK.out, ← HTD.out] at hst
              obtain ⟨m1, hm1⟩ : ∃ m1, out.length = m1 + 1 := ⟨out.length - 1, by have := List.length_pos_iff.2 hon; omega⟩
              rw [hm1, Nat.add_sub_cancel] at hcl hsetl
              rw [hm1] at hnx hol
              have ho := HO.out
              rw [hm1] at ho
              generalize hol2 : out.dropLast ++ [out.getLastD [] ++ tk] = out2 at *
              generalize out.getLastD [] = cur at *
              obtain ⟨ga, gcap, rfl, hgg⟩ := owns_value ho
              obtain ⟨g6, rfl⟩ := hgg (by omega)
              have HO := Lib.hid ho
              have HST := Lib.hid hst; have HNX := Lib.hid hnx; have HXS := Lib.hid hxs; have HCL := Lib.hid hcl; have HSL := Lib.hid hsetl
              clear hst hcl hsetl hnx hxs hm1 hol2 ho hgg hon
              go_wp2_with fail
              refine (cr _).mono ?_
              rintro e w1 ⟨rfl, q1⟩
              have HQ1 := Lib.hid (HQ.out.trans q1)
              have HO1 := Lib.hid (ownsRow_below HO.out q1)
              have hsz : w.heap.size ≤ w1.heap.size := HQ1.out.size
              clear q1 HO HQ cr
              go_wp2_with fail
              refine (ck _).mono ?_
              rintro e w2 ⟨rfl, rfl⟩
              clear ck
              have hc0 : w2.cell? ⟨g6, m1, none⟩ = some (strV cur) := by rw [HO1.out.cellAt _ (by omega)]; exact HCL.out
              have hf0 : w2.frozen? ⟨g6, m1, none⟩ = false := HO1.out.frozenAt _
              have hs6 := (HO1.out.stored m1 (strV (cur ++ tk))).1
              rw [HSL.out] at hs6
              have hgb : w.heap.size ≤ g6 := by
                rcases HO1.out.2 with ⟨h, _⟩ | ⟨g, c, cu, h, hb, _⟩
                · cases h
                · cases h; exact hb
              have hq7 := HQ1.out.setCell (a := ⟨g6, m1, none⟩) hgb (strV (cur ++ tk))
              have HS6 := Lib.hid hs6; have HQ7 := Lib.hid hq7
              clear hs6 hq7 HO1 HQ1
              have hcat : ({ data := cur.toArray } : ByteArray) ++ { data := tk.toArray } = ⟨(cur ++ tk).toArray⟩ := bytes_append _ _
              have hsum : ∀ W : World, (Op.stringOp .add ⟨cur.toArray⟩ ⟨tk.toArray⟩).run Tryz.prog W = .ok (.string ⟨(cur ++ tk).toArray⟩) W := fun W => by
                rw [run_string_add_sum W _ _ (by show cur.length + tk.length ≤ _; have := HT2.out; omega)]; rw [hcat]
              generalize cur ++ tk = ct at *
              have hol : (m1 : Int) + 1 - 1 = (m1 : Int) := by omega
              have ho0 : (0 : Int) ≤ (m1 : Int) := by omega
              have ho2 : (m1 : Int) < (m1 : Int) + 1 := by omega
              clear hcat
              go_wp2_with fail
              go_region
              go_wp2_with fail
              go_roundw
              case rel => exact ⟨td, true, out2, rfl, rfl, by omega, by rw [HNX.out]; omega, (fun _ => by intro e; have := HNX.out; rw [e] at this; simp at this), HXS, by show _ = _; rw [HWS.out, HST.out], by rw [HNX.out]; exact ownsRow_below HS6.out (Q.drew _), HQ7.out.trans (Q.drew _)⟩
              case measure => show td.length < t.length; omega
          · have hwx : wordRune (rune1 t).1 = false := by
              rw [hwrr, hwr, show (k == 1) = false by simpa using k1, show (k == 2) = false by simpa using k2]; simp
            have HWR := Lib.hid hwx
            clear hwx hwr hwrr
            have h03 : k = 0 ∨ k = 3 := by omega
            clear k1 k2 hkb
            rcases h03 with rfl | rfl
            · cases b with
              | false =>
                have hst := wst_other false out t HNE.out HB.out HWR.out
                have HST := Lib.hid hst
                clear hst
                go_wp2_with fail
                refine (cr _).mono ?_
                rintro e w1 ⟨rfl, q1⟩
                have HQ1 := Lib.hid (HQ.out.trans q1)
                have HO1 := Lib.hid (ownsRow_below HO.out q1)
                have hsz : w.heap.size ≤ w1.heap.size := HQ1.out.size
                clear q1 HO HQ cr
                go_wp2_with fail
                refine (ck _).mono ?_
                rintro e w2 ⟨rfl, rfl⟩
                clear ck
                go_wp2_with fail
                go_roundw
                case rel => exact ⟨td, false, out, rfl, rfl, by omega, by omega, (fun h => by cases h), (fun x hx => by have := HLX.out x hx; omega), by show _ = _; rw [HWS.out, HST.out, HTD.out], HO1, HQ1⟩
                case measure => show td.length < t.length; omega
              | true =>
                have hst := wst_other true out t HNE.out HB.out HWR.out
                have HST := Lib.hid hst
                clear hst
                go_wp2_with fail
                refine (cr _).mono ?_
                rintro e w1 ⟨rfl, q1⟩
                have HQ1 := Lib.hid (HQ.out.trans q1)
                have HO1 := Lib.hid (ownsRow_below HO.out q1)
                have hsz : w.heap.size ≤ w1.heap.size := HQ1.out.size
                clear q1 HO HQ cr
                go_wp2_with fail
                refine (ck _).mono ?_
                rintro e w2 ⟨rfl, rfl⟩
                clear ck
                go_wp2_with fail
                go_roundw
                case rel => exact ⟨td, false, out, rfl, rfl, by omega, by omega, (fun h => by cases h), (fun x hx => by have := HLX.out x hx; omega), by show _ = _; rw [HWS.out, HST.out, HTD.out], HO1, HQ1⟩
                case measure => show td.length < t.length; omega
            · cases b with
              | false =>
                have hst := wst_other false out t HNE.out HB.out HWR.out
                have HST := Lib.hid hst
                clear hst
                go_wp2_with fail
                refine (cr _).mono ?_
                rintro e w1 ⟨rfl, q1⟩
                have HQ1 := Lib.hid (HQ.out.trans q1)
                have HO1 := Lib.hid (ownsRow_below HO.out q1)
                have hsz : w.heap.size ≤ w1.heap.size := HQ1.out.size
                clear q1 HO HQ cr
                go_wp2_with fail
                refine (ck _).mono ?_
                rintro e w2 ⟨rfl, rfl⟩
                clear ck
                go_wp2_with fail
                go_roundw
                case rel => exact ⟨td, false, out, rfl, rfl, by omega, by omega, (fun h => by cases h), (fun x hx => by have := HLX.out x hx; omega), by show _ = _; rw [HWS.out, HST.out, HTD.out], HO1, HQ1⟩
                case measure => show td.length < t.length; omega
              | true =>
                have hst := wst_other true out t HNE.out HB.out HWR.out
                have HST := Lib.hid hst
                clear hst
                go_wp2_with fail
                refine (cr _).mono ?_
                rintro e w1 ⟨rfl, q1⟩
                have HQ1 := Lib.hid (HQ.out.trans q1)
                have HO1 := Lib.hid (ownsRow_below HO.out q1)
                have hsz : w.heap.size ≤ w1.heap.size := HQ1.out.size
                clear q1 HO HQ cr
                go_wp2_with fail
                refine (ck _).mono ?_
                rintro e w2 ⟨rfl, rfl⟩
                clear ck
                go_wp2_with fail
                go_roundw
                case rel => exact ⟨td, false, out, rfl, rfl, by omega, by omega, (fun h => by cases h), (fun x hx => by have := HLX.out x hx; omega), by show _ = _; rw [HWS.out, HST.out, HTD.out], HO1, HQ1⟩
                case measure => show td.length < t.length; omega
end Go.Proofs.YtcblmcbpnakphaaGreatDoor
end

/- (WRef11b) codexref11: Stop: walked. -/
section
namespace Go.Proofs.YtcblmcbpnakphaaGreatDoor
open Go.RowKit
set_option linter.unusedVariables false

theorem stopsR_eq : stopsL = [[97], [97, 110], [97, 110, 100], [97, 114, 101], [97, 115], [97, 116], [98, 101], [98, 121], [102, 111, 114], [105, 110], [105, 115], [105, 116], [111, 102], [111, 110], [111, 114], [116, 104, 101], [116, 111], [119, 105, 116, 104]] := by decide
set_option maxRecDepth 100000 in
set_option maxHeartbeats 4000000 in
theorem RStop_any (t : Bytes) (w : World) :
    Calls Tryz.prog 77 #[strV t] w fun e w' => e = .returned (.bool (stopL t)) ∧ Q w w' := by
  have hq := Q.alloc w (.cells (stopsL.map strV).toArray 9)
  have hlit : (stopsL.map strV).toArray = #[strV [97], strV [97, 110], strV [97, 110, 100], strV [97, 114, 101], strV [97, 115], strV [97, 116], strV [98, 101], strV [98, 121], strV [102, 111, 114], strV [105, 110], strV [105, 115], strV [105, 116], strV [111, 102], strV [111, 110], strV [111, 114], strV [116, 104, 101], strV [116, 111], strV [119, 105, 116, 104]] := by rw [stopsR_eq]; rfl
  have hcell : ∀ j (hj : j < stopsL.length), (w.alloc (.cells (stopsL.map strV).toArray 9)).cell? ⟨w.heap.size, j, none⟩ = some (strV stopsL[j]) := fun j hj => by
    simp only [World.cell?, heap_alloc_new, List.getElem?_toArray, List.getElem?_map, List.getElem?_eq_getElem hj, Option.map_some]
    simp
  have hslen : stopsL.length = 18 := by rw [stopsR_eq]; rfl
  rw [hlit] at hcell hq
  have HC := Lib.hid hcell; have HQ0 := Lib.hid hq; have HSL := Lib.hid hslen
  clear hq hlit hcell hslen
  go_enter Tryz.func77, Tryz.ntmps77
  go_wp2_with fail
  generalize hwa : w.alloc _ = wa at *
  clear hwa
  go_loopw [4] (fun i wr => ∃ k : Nat, k ≤ 18 ∧ i = .int .i64 (k : Nat) ∧ Hid (∀ j (hj : j < stopsL.length), j < k → stopsL[j] ≠ t) ∧ Hid (Q wa wr)) (fun i _ => 18 - (intOf i).toNat)
  case atStart => exact ⟨0, by omega, rfl, fun j hj h => by omega, Q.refl _⟩
  case round =>
    obtain ⟨k, hk, rfl, HNO, HQ⟩ := hrel
    obtain ⟨wo, rfl⟩ : ∃ wo : World, wo = wr := ⟨_, rfl⟩
    by_cases hlt : k < 18
    · have hlt2 : k < stopsL.length := by rw [HSL.out]; exact hlt
      have hc := cell_stays HQ.out (HC.out k hlt2)
      have hki : (k : Int) < 18 := by omega
      have hk0 : (0 : Int) ≤ (k : Int) := by omega
      have hx : stopsL[k] ∈ stopsL := List.getElem_mem hlt2
      have hno : stopsL[k] ≠ t → ∀ j (hj : j < stopsL.length), j < k + 1 → stopsL[j] ≠ t := fun h j hj hjk => by
        by_cases he : j = k
        · subst he; exact h
        · exact HNO.out j hj (by omega)
      have HX := Lib.hid hx; have HN := Lib.hid hno
      clear hx hno
      generalize stopsL[k] = x at *
      by_cases he : x = t
      · have HE := Lib.hid he
        subst he
        go_wp2_with fail
        go_ret
        exact ⟨ret_boolR (by unfold stopL; symm; simpa using HX.out), HQ0.out.trans HQ.out⟩
      · have heb1 : (x == t) = false := by simpa using he
        have heb2 : @BEq.beq (List UInt8) instBEqOfDecidableEq x t = false := by simpa using he
        have heb3 : @BEq.beq (List UInt8) List.instBEq x t = false := by simpa using he
        have HE := Lib.hid he
        clear he
        go_wp2_with fail
        go_roundw
        case rel => exact ⟨k + 1, by omega, by go_num, HN.out HE.out, HQ⟩
        case measure => simp [intOf]; omega
    · have hke : k = 18 := by omega
      subst hke
      go_wp2_with fail
      go_ret
      refine ⟨ret_boolR ?_, HQ0.out.trans HQ.out⟩
      have : t ∉ stopsL := fun h => by
        obtain ⟨j, hj, hje⟩ := List.mem_iff_getElem.1 h
        exact HNO.out j hj (by have := HSL.out; omega) hje
      unfold stopL
      symm
      simpa using this
end Go.Proofs.YtcblmcbpnakphaaGreatDoor
end
