/- codexref14: Right, Places, Postings: walked. -/
import Derived.Test.YtcblmcbpnakphaaGreatDoorHValidEq
import Derived.Test.YtcblmcbpnakphaaGreatDoorMWRef12bToWRef12d
import Derived.Test.YtcblmcbpnakphaaGreatDoorMWRef11cToTurns14
import Derived.Test.YtcblmcbpnakphaaGreatDoorMMapsToLive
import Derived.Test.YtcblmcbpnakphaaGreatDoorMWSegPToWOpenS
set_option linter.unusedSimpArgs false
set_option linter.unusedVariables false
set_option linter.unnecessarySimpa false
namespace Go.Proofs.YtcblmcbpnakphaaGreatDoor
open Go.RowKit
set_option linter.unusedVariables false

set_option maxRecDepth 100000 in
set_option maxHeartbeats 4000000 in
theorem RRight14_any (id tx : Bytes) (w : World) (h1 : id.length ≤ 9223372036854775807) (h2 : tx.length ≤ 9223372036854775807) :
    Calls Tryz.prog 24 #[.agg #[strV id, strV tx]] w fun e w' => e = .returned (.bool (rightB id tx)) ∧ Q w w' := by
  have cv1 := fun W => RValid_any id W h1
  have cv2 := fun W => RValid_any tx W h2
  have hrb : rightB id tx = (validL id && validL tx && decide (1 ≤ id.length) && decide (id.length ≤ 40) && decide (tx.length ≤ 2000)) := by
    unfold rightB
    rw [← validL_D _ id (Nat.le_refl _), ← validL_D _ tx (Nat.le_refl _)]
    have : (!id.isEmpty) = decide (1 ≤ id.length) := by cases id <;> simp
    rw [this]
    cases validL id <;> cases validL tx <;> simp
  have hx := heap_alloc_new w (.cells #[strV id, strV tx] 52)
  obtain ⟨x0, x1⟩ := cells2 hx
  have hq0 := Q.alloc w (.cells #[strV id, strV tx] 52)
  generalize validL id = b1 at *
  generalize validL tx = b2 at *
  have CV1 := Lib.hid cv1; have CV2 := Lib.hid cv2; have HRB := Lib.hid hrb; have HX0 := Lib.hid x0; have HX1 := Lib.hid x1; have HQ0 := Lib.hid hq0
  clear cv1 cv2 hrb x0 x1 hx hq0
  go_enter Tryz.func24, Tryz.ntmps24
  go_wp2_with fail
  generalize w.alloc (.cells #[strV id, strV tx] 52) = wb at *
  generalize w.heap.size = B at *
  refine (CV1.out _).mono ?_
  rintro e w1 ⟨rfl, q1⟩
  have HQ1 := Lib.hid q1
  have d0 := cell_stays q1 HX0.out
  have d1 := cell_stays q1 HX1.out
  clear q1
  go_wp2_with fail
  refine (CV2.out _).mono ?_
  rintro e w2 ⟨rfl, q2⟩
  have HQ2 := Lib.hid (HQ1.out.trans q2)
  have e0 := cell_stays q2 d0
  have e1 := cell_stays q2 d1
  clear q2 HQ1 d0 d1
  cases b1 <;> cases b2
  all_goals
    by_cases g1 : 1 ≤ id.length
    all_goals by_cases g2 : id.length ≤ 40
    all_goals by_cases g3 : tx.length ≤ 2000
    all_goals
      first
        | (exfalso; omega)
        | (go_wp2_with fail
           go_ret
           exact ⟨ret_boolR (by rw [HRB.out]; first | (simp [*]; done) | (simp [*]; omega)), HQ0.out.trans HQ2.out⟩)
/-- the tokens of a term among the first k -/
def plTo14 (l : List (Bytes × Nat)) (t : Bytes) (k : Nat) : List Int := (l.take k).filterMap fun x => if x.1 = t then some (x.2 : Int) else none
theorem plTo14_succ (l : List (Bytes × Nat)) (t : Bytes) (k : Nat) (h : k < l.length) : plTo14 l t (k + 1) = plTo14 l t k ++ if l[k].1 = t then [(l[k].2 : Int)] else [] := by
  unfold plTo14
  rw [List.take_succ_eq_append_getElem h, List.filterMap_append]
  by_cases he : l[k].1 = t
  · simp [he]
  · simp [he]
theorem plTo14_len (l : List (Bytes × Nat)) (t : Bytes) (k : Nat) : (plTo14 l t k).length ≤ k := by
  unfold plTo14
  have := List.length_filterMap_le (fun x : Bytes × Nat => if x.1 = t then some (x.2 : Int) else none) (l.take k)
  rw [List.length_take] at this
  omega
set_option maxRecDepth 100000 in
set_option maxHeartbeats 4000000 in
theorem RPlaces_any (s t : Bytes) (w : World) (hs : s.length ≤ 100000000) :
    Calls Tryz.prog 72 #[strV s, strV t] w fun e w' => ∃ v, e = .returned v ∧ w'.ownsRow w.heap.size 3 1 v (placesIn s t).length (intVs (placesIn s t)) ∧ Q w w' := by
  obtain ⟨i0, hi, hz0, hz1, hz2⟩ := info_parts tinfoInt
  have ct := RTokens_any s w hs
  have htl : (tokensL s).length ≤ s.length + 1 := by
    have := tokensF_len (wordsL s) 0
    have := (wordsL_len s).1
    unfold tokensL; omega
  have hpl : placesIn s t = plTo14 (tokensL s) t (tokensL s).length := by unfold plTo14 placesIn; rw [List.take_length]
  rw [hpl]
  clear hpl
  generalize tokensL s = l at *
  have CT := Lib.hid ct
  clear ct
  go_enter Tryz.func72, Tryz.ntmps72
  go_wp2_with fail
  refine CT.out.mono ?_
  rintro e w1 ⟨v1, rfl, ho1, q1⟩
  have htoks : Toks w1 v1 l := Sl.of_owns ho1
  obtain ⟨a, cap, rfl, hc⟩ := htoks.value
  have HC := Lib.hid hc; have HQ1 := Lib.hid q1
  have hsz1 : w.heap.size ≤ w1.heap.size := q1.size
  clear ho1 htoks hc q1 CT
  go_wp2_with fail
  go_loopw [5, 7] (fun ov i wr => ∃ (k : Nat) (o : List Int), k ≤ l.length ∧ i = .int .i64 (k : Nat) ∧ o.length ≤ k ∧ Hid (o = plTo14 l t k) ∧ Hid (wr.ownsRow w1.heap.size 3 1 ov o.length (intVs o)) ∧ Hid (Q w1 wr)) (fun _ i _ => l.length - (intOf i).toNat)
  case atStart => exact ⟨0, [], by omega, rfl, by simp, rfl, World.ownsRow_nil _ _ _ _, Q.refl _⟩
  case round =>
    obtain ⟨k, o, hk, rfl, hol, HOE, HO, HQ⟩ := hrel
    obtain ⟨wo, rfl⟩ : ∃ wo : World, wo = wr := ⟨_, rfl⟩
    by_cases hlt : k < l.length
    · obtain ⟨b, of, rfl, hcc⟩ := HC.out (by omega)
      obtain ⟨z0, z1⟩ := hcc k hlt
      have c0 := cell_stays HQ.out z0
      have c1 := cell_stays HQ.out z1
      have hki : (k : Int) < (l.length : Int) := by omega
      have hk0 : (0 : Int) ≤ (k : Int) := by omega
      have hsu := plTo14_succ l t k hlt
      rw [← HOE.out] at hsu
      have hsz : w1.heap.size ≤ wo.heap.size := HQ.out.size
      clear z0 z1 hcc
      generalize l[k] = x at *
      obtain ⟨u, p⟩ := x
      simp only at c0 c1 hsu
      by_cases he : u = t
      · rw [if_pos he] at hsu
        have HSU := Lib.hid hsu
        clear hsu
        subst he
        have ho := HO.out
        go_wp2_with (at_builtin; go_must (refine wpList_app wo (by rfl) _ _ 72 (by rfl) w1.heap.size 3 _ i0 (.int .i64 0) 1 8 Tryz.underlying72 hi hz0 hz1 hz2 rfl (by decide) (by decide) _ _ _ (by rfl) ho #[.int .i64 (p : Nat)] (by simp [Act.eval]) rfl ?c1 ?c2 hsz ?_))
        case c1 => simp [Value.oneCell']
        case c2 => omega
        intro g6 cap6 w6 hown6 hg6 hat6 hlt6 hsz6
        have q6 : Q w1 w6 := grown_below HQ.out ho hg6 (Nat.le_refl _) (by omega)
        have hown6 : w6.ownsRow w1.heap.size 3 1 (.slice (some ⟨g6, 0, none⟩) (o.length + 1) cap6) (o.length + 1) (intVs (o ++ [(p : Int)])) := by simpa [intVs] using hown6
        have HO6 := Lib.hid hown6; have HQ6 := Lib.hid q6
        clear hown6 q6 hg6 hat6 ho
        go_wp2_with fail
        go_roundw
        case rel => exact ⟨k + 1, o ++ [(p : Int)], by omega, by go_num, by simp; omega, HSU.out.symm, by show World.ownsRow _ _ _ _ _ _ _; simpa using HO6.out, HQ6⟩
        case measure => simp [intOf]; omega
      · rw [if_neg he, List.append_nil] at hsu
        have heb1 : (u == t) = false := by simpa using he
        have heb2 : @BEq.beq (List UInt8) instBEqOfDecidableEq u t = false := by simpa using he
        have heb3 : @BEq.beq (List UInt8) List.instBEq u t = false := by simpa using he
        have HSU := Lib.hid hsu
        clear he hsu
        go_wp2_with fail
        go_roundw
        case rel => exact ⟨k + 1, o, by omega, by go_num, by omega, HSU.out.symm, HO, HQ⟩
        case measure => simp [intOf]; omega
    · have hke : k = l.length := by omega
      subst hke
      have hoe := HOE.out
      go_wp2_with fail
      go_ret
      exact ⟨_, rfl, by rw [← HOE.out]; exact owns_low HO.out hsz1, HQ1.out.trans HQ.out⟩
end Go.Proofs.YtcblmcbpnakphaaGreatDoor
