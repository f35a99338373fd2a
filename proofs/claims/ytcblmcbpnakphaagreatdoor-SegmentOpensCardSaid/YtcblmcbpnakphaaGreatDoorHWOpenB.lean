/- segment.Open at bytes that no documents have: walked. -/
import Derived.Test.YtcblmcbpnakphaaGreatDoorMWSegPToWOpenS
import Derived.Test.YtcblmcbpnakphaaGreatDoorHWRef14e
import Derived.Deep.RegionHeld3
set_option linter.unusedSimpArgs false
set_option linter.unusedVariables false
set_option linter.unnecessarySimpa false
namespace Go.Proofs.YtcblmcbpnakphaaGreatDoor
open Go.RowKit
set_option linter.unusedVariables false

theorem read_docs_len {s d : Bytes} {l : List DocL} (h : IsRead s l d) : ∀ x ∈ l, x.1.length ≤ s.length ∧ x.2.length ≤ s.length := fun x hx => by
  obtain ⟨_, _, _, e⟩ := h
  have h1 := docsE_part l x hx
  rw [e, List.length_append, List.length_append]
  omega
theorem hasPrefix_take (s : Bytes) : Lib.hasPrefix s [67, 68, 88, 71] = true ↔ s.take 4 = magicL := by
  unfold Lib.hasPrefix magicL
  rw [List.isPrefixOf_iff_prefix, List.prefix_iff_eq_take]
  exact ⟨fun h => h.symm, fun h => h.symm⟩
set_option maxRecDepth 100000 in
set_option maxHeartbeats 4000000 in
theorem Open_bad (s : Bytes) (w : World) (hs : s.length ≤ 8000000000000000000) (hno : ∀ l, buildS l ≠ (s, 0)) (hT : Tabs w) (hSp : Spans w) :
    Calls Tryz.prog 29 #[.string ⟨s.toArray⟩] w fun e w' => e = .returned (.tuple #[.pointer none, .int .i64 (codeO s)]) ∧ Q w w' := by
  by_cases h8 : s.length < 8
  · have hco : codeO s = 7 := by unfold codeO; rw [if_pos (.inl h8)]
    rw [hco]
    exact Open_short s w h8
  · have c1 := Tryz.strings_CutPrefix ⟨s.toArray⟩ ⟨#[67, 68, 88, 71]⟩ w
    by_cases hp : Lib.hasPrefix s [67, 68, 88, 71] = true
    · have hm4 := (hasPrefix_take s).1 hp
      have htr : Lib.trimPrefix s [67, 68, 88, 71] = s.drop 4 := by unfold Lib.trimPrefix; rw [if_pos hp]; rfl
      rw [show Lib.hasPrefix (⟨s.toArray⟩ : ByteArray).data.toList (⟨#[67, 68, 88, 71]⟩ : ByteArray).data.toList = true from hp, show Lib.trimPrefix (⟨s.toArray⟩ : ByteArray).data.toList (⟨#[67, 68, 88, 71]⟩ : ByteArray).data.toList = s.drop 4 from htr] at c1
      have hrl : (s.drop 4).length = s.length - 4 := List.length_drop
      obtain ⟨n, hn⟩ : ∃ n, n = s.length - 4 := ⟨_, rfl⟩
      have hcode : codeO s = if s.drop n ≠ fixedL (crcL (s.take n)) then 8 else 7 := by unfold codeO; rw [if_neg (by rintro (h | h); exact h8 h; exact h hm4), hn]
      have htl : (s.take n).length = n := by rw [List.length_take]; omega
      have hxd := bytes_drop s n
      have hxt := bytes_take s n
      have hx4 := bytes_drop (s.take n) 4
      rw [htl] at hx4
      have hcl := crcL_lt (s.take n)
      have hone : [s.take n].length ≤ 9223372036854775807 := by simp
      have hbp : ∀ p ∈ [s.take n], p.length ≤ 9223372036854775807 := by intro p hp; rw [List.mem_singleton] at hp; subst hp; omega
      have hflat : [s.take n].flatten = s.take n := by simp
      have ccr := fun W V (hv : Strs W V [s.take n]) => Crc_any V [s.take n] W hv hone hbp
      rw [hflat] at ccr
      have cfix := fun W => Fixed_any (crcL (s.take n)) W hcl
      have cr := fun W => read_any ((s.take n).drop 4) W (by rw [List.length_drop]; omega)
      have hb4 : ((s.take n).drop 4).length ≤ n := by rw [List.length_drop]; omega
      have CR := Lib.hid cr; have CCR := Lib.hid ccr; have CFX := Lib.hid cfix; have HCO := Lib.hid hcode; have HT := Lib.hid hT; have HSP := Lib.hid hSp; have HNO := Lib.hid hno; have C1 := Lib.hid c1
      clear cr ccr cfix hcode hT hSp hno c1 hone hbp hflat htr hm4 hp hcl
      generalize (s.take n).drop 4 = b4 at *
      generalize crcL (s.take n) = cs at *
      generalize s.take n = bd at *
      generalize s.drop n = sd at *
      generalize hfx : fixedL cs = fx at *
      have hnl : (n : Int) ≤ (s.length : Int) := by omega
      have hn0 : (0 : Int) ≤ (n : Int) := by omega
      have hn4 : (4 : Int) ≤ (n : Int) := by omega
      have hni : (s.length : Int) - 4 = (n : Int) := by omega
      have hnw : IntKind.i64.wrap (n : Int) = (n : Int) := IntWalk.i64_in _ (by omega)
      go_enter Tryz.func29, Tryz.ntmps29
      go_wp2_with fail
      refine C1.out.mono ?_
      rintro e w1 ⟨rfl, rfl⟩
      have hmx : Tryz.prog.follows .mixedOrders = true := by kernel_rfl
      clear C1 hfx hn
      by_cases hsum : sd = fx
      · have hco : codeO s = 7 := by rw [HCO.out, if_neg (by simpa using hsum)]
        have HC7 := Lib.hid hco
        subst hsum
        clear hco HCO
        go_wp2_with fail
        go_region_held3 (fun w' => True) (exact trivial)
          (first
            | (go_at_call 60; refine (CCR.out _ _ (by repeat (first | (with_reducible exact Strs.lit1 _ _ _) | with_reducible apply Strs.al | with_reducible apply Strs.dr))).mono ?_; rintro e w' ⟨rfl, rfl⟩)
            | (go_at_call 59; refine (CFX.out _).mono ?_; rintro e w' ⟨rfl, q⟩))
        have hq : Q w1 w' := ((Q.alloc w1 (.cells #[.string ⟨bd.toArray⟩] 9)).trans (Q.drew _)).trans q
        have HQ := Lib.hid hq
        clear hq q
        go_wp2_with fail
        refine (CR.out _).mono ?_
        rintro e w2 ⟨q2, hr⟩
        have HQ2 := Lib.hid (HQ.out.trans q2)
        rcases hr with ⟨v, l, d, h1, h2, rfl⟩ | ⟨h1, u, v, rfl⟩
        · have hdl := read_docs_len h1
          have hdocs : Docs w2 v l := Sl.of_owns h2
          have cb := Build_any v l w2 hdocs (by have := h1.1; omega) (fun x hx => by have := hdl x hx; omega) (HT.out.stays HQ2.out) (HSP.out.stays HQ2.out)
          obtain ⟨sa, scap, rfl, _⟩ := hdocs.value
          have hnl2 := HNO.out l
          generalize hbs : buildS l = bs at *
          obtain ⟨t, er⟩ := bs
          simp only at cb
          have CB := Lib.hid cb; have HN2 := Lib.hid hnl2
          clear cb hnl2 hbs hdocs hdl h1 h2 q2
          go_wp2_with fail
          refine CB.out.mono ?_
          rintro e w3 ⟨rfl, q3⟩
          have HQ3 := Lib.hid (HQ2.out.trans q3)
          clear q3 CB
          by_cases her : er = 0
          · subst her
            have hts : ¬ t = s := fun h => HN2.out (by rw [h])
            have heb1 : (t == s) = false := by simpa using hts
            have heb2 : @BEq.beq (List UInt8) instBEqOfDecidableEq t s = false := by simpa using hts
            have heb3 : @BEq.beq (List UInt8) List.instBEq t s = false := by simpa using hts
            clear hts
            go_wp2_with fail
            go_ret2
            exact ⟨by rw [HC7.out]; rfl, HQ3.out⟩
          · have hei : (er == 0) = false := by simpa using her
            go_wp2_with fail
            go_ret2
            exact ⟨by rw [HC7.out]; rfl, HQ3.out⟩
        · clear h1 q2
          go_wp2_with fail
          go_ret2
          exact ⟨by rw [HC7.out]; rfl, HQ2.out⟩
      · have hco : codeO s = 8 := by rw [HCO.out, if_pos hsum]
        have HC7 := Lib.hid hco
        have heb1 : (sd == fx) = false := by simpa using hsum
        have heb2 : @BEq.beq (List UInt8) instBEqOfDecidableEq sd fx = false := by simpa using hsum
        have heb3 : @BEq.beq (List UInt8) List.instBEq sd fx = false := by simpa using hsum
        have hec1 : (fx == sd) = false := by simpa using (fun h => hsum h.symm)
        have hec2 : @BEq.beq (List UInt8) instBEqOfDecidableEq fx sd = false := by simpa using (fun h => hsum h.symm)
        have hec3 : @BEq.beq (List UInt8) List.instBEq fx sd = false := by simpa using (fun h => hsum h.symm)
        clear hco HCO hsum
        go_wp2_with fail
        go_region_held3 (fun w' => True) (exact trivial)
          (first
            | (go_at_call 60; refine (CCR.out _ _ (by repeat (first | (with_reducible exact Strs.lit1 _ _ _) | with_reducible apply Strs.al | with_reducible apply Strs.dr))).mono ?_; rintro e w' ⟨rfl, rfl⟩)
            | (go_at_call 59; refine (CFX.out _).mono ?_; rintro e w' ⟨rfl, q⟩))
        have hq : Q w1 w' := ((Q.alloc w1 (.cells #[.string ⟨bd.toArray⟩] 9)).trans (Q.drew _)).trans q
        have HQ := Lib.hid hq
        clear hq q
        go_wp2_with fail
        go_ret2
        exact ⟨by rw [HC7.out]; rfl, HQ.out⟩
    · have hm4 : s.take 4 ≠ magicL := fun h => hp ((hasPrefix_take s).2 h)
      have hp2 : Lib.hasPrefix s [67, 68, 88, 71] = false := by simpa using hp
      have hco : codeO s = 7 := by unfold codeO; rw [if_pos (.inr hm4)]
      rw [hco]
      rw [show Lib.hasPrefix (⟨s.toArray⟩ : ByteArray).data.toList (⟨#[67, 68, 88, 71]⟩ : ByteArray).data.toList = false from hp2] at c1
      have C1 := Lib.hid c1
      clear c1 hp hp2 hm4 hco hno
      go_enter Tryz.func29, Tryz.ntmps29
      go_wp2_with fail
      refine C1.out.mono ?_
      rintro e w1 ⟨rfl, rfl⟩
      go_wp2_with fail
      go_ret2
      exact ⟨rfl, Q.refl _⟩
end Go.Proofs.YtcblmcbpnakphaaGreatDoor
