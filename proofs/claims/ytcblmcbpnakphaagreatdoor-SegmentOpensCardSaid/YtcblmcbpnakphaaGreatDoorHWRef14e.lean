/- codexref14: Open: walked. -/
import Derived.Test.YtcblmcbpnakphaaGreatDoorHWRef2c
import Derived.Test.YtcblmcbpnakphaaGreatDoorMWCrcToWSegDocs
set_option linter.unusedSimpArgs false
set_option linter.unusedVariables false
set_option linter.unnecessarySimpa false
namespace Go.Proofs.YtcblmcbpnakphaaGreatDoor
open Go.RowKit
set_option linter.unusedVariables false

theorem built_facts (l : List DocL) (s : Bytes) (h : buildS l = (s, 0)) : ¬ (l.length < 1 ∨ 500 < l.length) ∧ docsOk l ∧ s = segE l (idxS l) := by
  unfold buildS at h
  split at h
  · injection h with _ h2; cases h2
  · rename_i h1
    split at h
    · rename_i h2
      injection h with h3 _
      exact ⟨h1, h2, h3.symm⟩
    · injection h with _ h2; cases h2
theorem built_parts (l : List DocL) (s : Bytes) (h : buildS l = (s, 0)) : 8 ≤ s.length ∧ s.take 4 = magicL ∧ s.drop (s.length - 4) = fixedL (crcL (s.take (s.length - 4))) ∧ IsRead ((s.take (s.length - 4)).drop 4) l (idxS l) := by
  obtain ⟨h1, h2, h3⟩ := built_facts l s h
  have htx : ∀ d ∈ l, d.2.length ≤ 2000 := fun d hd => (rightB_len (h2.1 d hd)).2
  have hidx := idx_dict l (by omega) htx
  have hent := entsL_right l (by omega) htx
  have htl := termsL_len l (by omega) htx
  have hel : (entsL l).length = (termsL l).length := by unfold entsL; rw [List.length_map]
  have hdl : (idxS l).length ≤ 4500000000000 := by
    rw [hidx]
    have := dictL_len (entsL l)
    unfold dictL at this
    rw [hent, decide_eq_true (by omega)] at this
    simpa using this
  have hrb := read_body l (idxS l) (by omega) (fun d hd => rightB_len (h2.1 d hd)) (by omega)
  have hlen : s.length = (segBody l (idxS l)).length + 4 := by rw [h3]; unfold segE; rw [List.length_append, length_fixedL]
  have hbl : 4 ≤ (segBody l (idxS l)).length := by unfold segBody magicL; simp
  have hn : s.length - 4 = (segBody l (idxS l)).length := by omega
  have htake : s.take (s.length - 4) = segBody l (idxS l) := by rw [hn, h3]; unfold segE; exact List.take_left' rfl
  refine ⟨by omega, ?_, ?_, by rw [htake]; exact hrb⟩
  · rw [h3]; unfold segE segBody magicL; rfl
  · rw [htake, hn, h3]; unfold segE; exact List.drop_left' rfl
theorem mid_same {b : Bytes} {v : Nat} {dl l0 : List DocL} {r d : Bytes} (hm : Mid b v dl r) (hl : dl.length = v) (hr : IsRead b l0 d) : l0 = dl := by
  obtain ⟨h1, h2⟩ := hm.begins hr
  obtain ⟨a, b', c, e⟩ := hm
  obtain ⟨a', b2, c', e'⟩ := hr
  rw [e, h1] at e'
  have e2 := List.append_cancel_left e'
  exact (docsE_inj dl l0 (by omega) b' b2 _ _ e2).1.symm
/-- what is answered where no documents have these bytes -/
def codeO (s : Bytes) : Int := if s.length < 8 ∨ s.take 4 ≠ magicL then 7 else if s.drop (s.length - 4) ≠ fixedL (crcL (s.take (s.length - 4))) then 8 else 7
theorem bytes_cut (s : Bytes) (a b : Nat) : ({ data := s.toArray } : ByteArray).extract a b = ⟨((s.take b).drop a).toArray⟩ := by
  apply ByteArray.ext
  simp [ByteArray.data_extract, List.drop_take]
theorem docVs_app (l : List DocL) (d : DocL) : docVs (l ++ [d]) = docVs l ++ [strV d.1, strV d.2] := docVs_append l d
theorem docsE_part (dl : List DocL) (d : DocL) (hd : d ∈ dl) : d.1.length + d.2.length ≤ (docsE dl).length := by
  induction dl with
  | nil => simp at hd
  | cons x dl ih =>
    simp only [docsE, textE, List.length_append]
    rcases List.mem_cons.1 hd with rfl | hd
    · omega
    · have := ih hd; omega
theorem mid_docs {b : Bytes} {v : Nat} {dl : List DocL} {r : Bytes} (hm : Mid b v dl r) : ∀ d ∈ dl, d.1.length ≤ b.length ∧ d.2.length ≤ b.length := fun d hd => by
  obtain ⟨_, _, _, e⟩ := hm
  have h1 := docsE_part dl d hd
  rw [e, List.length_append, List.length_append]
  omega
set_option maxRecDepth 100000 in
set_option maxHeartbeats 8000000 in
theorem ROpen_any (s : Bytes) (w : World) (hs : s.length ≤ 8000000000000000000) :
    Calls Tryz.prog 67 #[strV s] w fun e w' => ((∃ v l, buildS l = (s, 0) ∧ w'.ownsRow w.heap.size 52 2 v l.length (docVs l) ∧ e = .returned (.tuple #[v, .int .i64 0])) ∨ ((∀ l, buildS l ≠ (s, 0)) ∧ e = .returned (.tuple #[.slice none 0 0, .int .i64 (codeO s)]))) ∧ Q w w' := by
  have hmx : Tryz.prog.follows .mixedOrders = true := by kernel_rfl
  have hparts := fun l => built_parts l s
  have HP := Lib.hid hparts
  clear hparts
  by_cases h8 : s.length < 8
  · have hno : ∀ l, buildS l ≠ (s, 0) := fun l hb => by have := (HP.out l hb).1; omega
    have hco : codeO s = 7 := by unfold codeO; rw [if_pos (.inl h8)]
    rw [hco]
    have HNO := Lib.hid hno
    clear hno hco
    go_enter Tryz.func67, Tryz.ntmps67
    go_wp2_with fail
    go_ret2
    exact ⟨.inr ⟨HNO.out, rfl⟩, Q.refl _⟩
  · have hx4 := bytes_take s 4
    by_cases hm4 : s.take 4 = magicL
    · have hml : (⟨(s.take 4).toArray⟩ : ByteArray) = { data := #[67, 68, 88, 71] } := by rw [hm4]; rfl
      rw [hml] at hx4
      obtain ⟨n, hn⟩ : ∃ n, n = s.length - 4 := ⟨_, rfl⟩
      have hni : (s.length : Int) - 4 = (n : Int) := by omega
      have hnw : IntKind.i64.wrap (n : Int) = (n : Int) := IntWalk.i64_in _ (by omega)
      have hn0 : (0 : Int) ≤ (n : Int) := by omega
      have hnl : (n : Int) ≤ (s.length : Int) := by omega
      have hn4 : (4 : Int) ≤ (n : Int) := by omega
      have hxd := bytes_drop s n
      have hxt := bytes_take s n
      have hxb := bytes_cut s 4 n
      have hcode : codeO s = if s.drop n ≠ fixedL (crcL (s.take n)) then 8 else 7 := by unfold codeO; rw [if_neg (by rintro (h | h); exact h8 h; exact h hm4), hn]
      have hpart : ∀ l, buildS l = (s, 0) → s.drop n = fixedL (crcL (s.take n)) ∧ IsRead ((s.take n).drop 4) l (idxS l) := fun l hb => by rw [hn]; exact (HP.out l hb).2.2
      have htl : (s.take n).length = n := by rw [List.length_take]; omega
      have hbl : ((s.take n).drop 4).length = n - 4 := by rw [List.length_drop, htl]
      have ccr := fun W => RCrc_any (s.take n) W (by omega)
      have cfx := fun W => RFixed_any (crcL (s.take n)) W (crcL_lt _)
      generalize (s.take n).drop 4 = b4 at *
      generalize crcL (s.take n) = cs at *
      generalize s.take n = bd at *
      generalize hfx : fixedL cs = fx at *
      have CCR := Lib.hid ccr; have CFX := Lib.hid cfx; have HPA := Lib.hid hpart; have HCO := Lib.hid hcode; have HN := Lib.hid hn
      clear ccr cfx hpart hcode HP hm4 hml hn hfx
      by_cases hsum : s.drop n = fx
      · have hco : codeO s = 7 := by rw [HCO.out, if_neg (by simpa using hsum)]
        rw [hco]
        have hpa2 : ∀ l, buildS l = (s, 0) → IsRead b4 l (idxS l) := fun l hb => (HPA.out l hb).2
        have HPB := Lib.hid hpa2
        have hnl2 : n ≤ s.length := by omega
        clear hpa2 hco HPA HCO
        generalize s.drop n = sd at *
        subst hsum
        have cvr := fun W => RToVar_any b4 W (by omega)
        have CVR := Lib.hid cvr
        clear cvr
        have KK := Lib.hid (Q.refl w)
        go_enter Tryz.func67, Tryz.ntmps67
        go_wp2_with fail
        go_region_held3 (fun w' => True) (exact trivial)
          (first
            | (go_at_call 28; ((with_reducible refine (CCR.out _).mono ?_); rintro e w' ⟨rfl, rfl⟩))
            | (go_at_call 27; ((with_reducible refine (CFX.out _).mono ?_); rintro e w' ⟨rfl, q⟩); have s' : Q w w' := Q.trans (by first | exact KK.out | exact KK.out.trans (Q.drew _)) q; clear KK; have KK := Lib.hid s'; clear s' q))
        all_goals
          go_wp2_with fail
          refine (CVR.out _).mono ?_
          rintro e w1 ⟨⟨v, r, hv, rfl⟩ | ⟨hnov, rfl⟩, q1⟩
          · have HQ1 := Lib.hid (KK.out.trans q1)
            have hv64 := hv.1
            have hvi := fun l (hr : IsRead b4 l (idxS l)) => (IsVar.one hv (⟨by have := hr.1; omega, hr.2.2.2⟩ : IsVar b4 l.length (docsE l ++ textE (idxS l)))).1
            have HVI := Lib.hid hvi
            by_cases hv5 : v ≤ 500
            · have hmid : Mid b4 v [] r := ⟨hv5, by simp, by simp, hv.2⟩
              have hrl : r.length ≤ b4.length := by have := congrArg List.length hv.2; rw [List.length_append] at this; omega
              have hvi5 : ¬ (500 : Int) < (v : Int) := by omega
              have hvw : IntKind.i64.wrap (v : Int) = (v : Int) := IntWalk.i64_in _ (by omega)
              have HMID := Lib.hid hmid
              clear hv hmid hvi q1 KK
              obtain ⟨id, hidi, hdz0, hdz1, hdz2⟩ := info_parts tinfo52
              go_wp2_with fail
              go_loopw [6, 7, 8, 9, 10, 11] (fun rv _ lv i _ _ wr => ∃ (dl : List DocL) (r : Bytes), dl.length ≤ v ∧ i = .int .i64 (dl.length : Nat) ∧ rv = strV r ∧ r.length ≤ b4.length ∧ Hid (Mid b4 v dl r) ∧ Hid (wr.ownsRow w1.heap.size 52 2 lv dl.length (docVs dl)) ∧ Hid (Q w1 wr)) (fun _ _ _ i _ _ _ => v - (intOf i).toNat)
              case atStart => exact ⟨[], r, by simp, rfl, rfl, hrl, HMID, World.ownsRow_nil _ _ _ _, Q.refl _⟩
              case round =>
                obtain ⟨dl, r', hdl, rfl, rfl, hrl', HM, HO, HQ⟩ := hrel
                obtain ⟨wo, rfl⟩ : ∃ wo : World, wo = wr := ⟨_, rfl⟩
                by_cases hlt : dl.length < v
                · have ct := fun W => RToText_any r' W (by omega)
                  have CT := Lib.hid ct
                  have hvii : (dl.length : Int) < (v : Int) := by omega
                  clear ct
                  go_wp2_with fail
                  refine (CT.out _).mono ?_
                  rintro e w2 ⟨⟨t1, r1, ht1, rfl⟩ | ⟨hnot, rfl⟩, q2⟩
                  · have HQ2 := Lib.hid (HQ.out.trans q2)
                    have HO2 := Lib.hid (ownsRow_below HO.out q2)
                    have hr1 : r1.length ≤ b4.length := by have := congrArg List.length ht1.2; rw [List.length_append] at this; omega
                    have ct2 := fun W => RToText_any r1 W (by omega)
                    have CT2 := Lib.hid ct2; have HT1 := Lib.hid ht1
                    clear ct2 ht1 q2 CT
                    go_wp2_with fail
                    refine (CT2.out _).mono ?_
                    rintro e w3 ⟨⟨t2, r2, ht2, rfl⟩ | ⟨hnot, rfl⟩, q3⟩
                    · have HQ3 := Lib.hid (HQ2.out.trans q3)
                      have ho3 := ownsRow_below HO2.out q3
                      have hr2 : r2.length ≤ b4.length := by have := congrArg List.length ht2.2; rw [List.length_append] at this; omega
                      have hmn := HM.out.step hlt HT1.out ht2
                      have HMN := Lib.hid hmn
                      have hsz : w1.heap.size ≤ w3.heap.size := HQ3.out.size
                      clear ht2 q3 CT2 hmn
                      go_wp2_with (at_builtin; go_must (refine wpList_app w3 (by rfl) _ _ 37 (by rfl) w1.heap.size 52 _ id (.agg #[strV [], strV []]) 2 32 Tryz.underlying37 hidi hdz0 hdz1 hdz2 rfl (by decide) (by decide) _ _ _ (by rfl) ho3 #[strV t1, strV t2] (by simp [Act.eval]) rfl ?c1 ?c2 hsz ?_))
                      case c1 => simp [Value.oneCell']
                      case c2 => omega
                      intro g6 cap6 w6 hown6 hg6 hat6 hlt6 hsz6
                      have q6 : Q w1 w6 := grown_below HQ3.out ho3 hg6 (Nat.le_refl _) (by omega)
                      have hown6 : w6.ownsRow w1.heap.size 52 2 (.slice (some ⟨g6, 0, none⟩) (dl.length + 1) cap6) (dl.length + 1) (docVs (dl ++ [(t1, t2)])) := by
                        rw [docVs_append]; simpa using hown6
                      have HO6 := Lib.hid hown6; have HQ6 := Lib.hid q6
                      clear hown6 q6 hg6 hat6 ho3
                      go_wp2_with fail
                      go_roundw
                      case rel => exact ⟨dl ++ [(t1, t2)], r2, by simp; omega, by simp, rfl, hr2, HMN, by show World.ownsRow _ _ _ _ _ _ _; rw [List.length_append]; exact HO6.out, HQ6⟩
                      case measure => simp [intOf]; omega
                    · have hno : ∀ l, buildS l ≠ (s, 0) := fun l hb => by
                        obtain ⟨i, t, ra, rb, h1, h2⟩ := HM.out.next (HPB.out l hb) hlt
                        obtain ⟨_, h4⟩ := IsText.one HT1.out h1
                        rw [← h4] at h2
                        exact hnot _ _ h2
                      have HNO := Lib.hid hno
                      have HQ3 := Lib.hid (HQ1.out.trans (HQ2.out.trans q3))
                      clear hno hnot q3
                      go_wp2_with fail
                      go_ret2
                      exact ⟨.inr ⟨HNO.out, rfl⟩, HQ3.out⟩
                  · have hno : ∀ l, buildS l ≠ (s, 0) := fun l hb => by
                      obtain ⟨i, t, ra, rb, h1, h2⟩ := HM.out.next (HPB.out l hb) hlt
                      exact hnot _ _ h1
                    have HNO := Lib.hid hno
                    have HQ2 := Lib.hid (HQ1.out.trans (HQ.out.trans q2))
                    clear hno hnot q2
                    go_wp2_with fail
                    go_ret2
                    exact ⟨.inr ⟨HNO.out, rfl⟩, HQ2.out⟩
                · have hle : dl.length = v := by omega
                  have hvii : ¬ (dl.length : Int) < (v : Int) := by omega
                  have hsame : ∀ l, buildS l = (s, 0) → l = dl := fun l hb => mid_same HM.out hle (HPB.out l hb)
                  have hdocs : Docs wo _ dl := Sl.of_owns HO.out
                  have hmd := mid_docs HM.out
                  have cb := RBuild_any _ dl wo hdocs (by omega) (fun d hd => by have := hmd d hd; omega)
                  obtain ⟨da, dcap, rfl, _⟩ := owns_value HO.out
                  generalize hbs : buildS dl = bs at *
                  obtain ⟨t, er⟩ := bs
                  simp only at cb
                  have CB := Lib.hid cb; have HSAME := Lib.hid hsame; have HBS := Lib.hid hbs
                  clear cb hsame hbs hdocs hmd hle hlt hvw
                  go_wp2_with fail
                  refine CB.out.mono ?_
                  rintro e w2 ⟨rfl, q2⟩
                  have HQ2 := Lib.hid (HQ.out.trans q2)
                  have HO2 := Lib.hid (ownsRow_below HO.out q2)
                  clear q2 CB
                  by_cases her : er = 0
                  · subst her
                    by_cases hts : t = s
                    · have hb0 : buildS dl = (s, 0) := by rw [HBS.out, hts]
                      have HB0 := Lib.hid hb0
                      clear hb0
                      subst hts
                      go_wp2_with fail
                      go_ret2
                      exact ⟨.inl ⟨_, dl, HB0.out, owns_low HO2.out HQ1.out.size, rfl⟩, HQ1.out.trans HQ2.out⟩
                    · have hno : ∀ l, buildS l ≠ (s, 0) := fun l hb => by
                        have h1 := HSAME.out l hb
                        rw [h1, HBS.out] at hb
                        injection hb with h2 _
                        exact hts h2
                      have heb1 : (t == s) = false := by simpa using hts
                      have heb2 : @BEq.beq (List UInt8) instBEqOfDecidableEq t s = false := by simpa using hts
                      have heb3 : @BEq.beq (List UInt8) List.instBEq t s = false := by simpa using hts
                      have HNO := Lib.hid hno
                      clear hno hts
                      go_wp2_with fail
                      go_ret2
                      exact ⟨.inr ⟨HNO.out, rfl⟩, HQ1.out.trans HQ2.out⟩
                  · have hno : ∀ l, buildS l ≠ (s, 0) := fun l hb => by
                      have h1 := HSAME.out l hb
                      rw [h1, HBS.out] at hb
                      injection hb with _ h2
                      exact her h2
                    have hei : (er == 0) = false := by simpa using her
                    have HNO := Lib.hid hno
                    clear hno
                    go_wp2_with fail
                    go_ret2
                    exact ⟨.inr ⟨HNO.out, rfl⟩, HQ1.out.trans HQ2.out⟩
            · have hno : ∀ l, buildS l ≠ (s, 0) := fun l hb => by
                have h1 := HPB.out l hb
                have h2 := HVI.out l h1
                have h3 := h1.1
                omega
              have HNO := Lib.hid hno
              have hvi5 : (500 : Int) < (v : Int) := by omega
              clear hno hv hvi q1
              go_wp2_with fail
              go_ret2
              exact ⟨.inr ⟨HNO.out, rfl⟩, HQ1.out⟩
          · have hno : ∀ l, buildS l ≠ (s, 0) := fun l hb => by
              have h1 := HPB.out l hb
              exact hnov _ _ (⟨by have := h1.1; omega, h1.2.2.2⟩ : IsVar b4 l.length (docsE l ++ textE (idxS l)))
            have HNO := Lib.hid hno
            have HQ1 := Lib.hid (KK.out.trans q1)
            clear hno hnov q1
            go_wp2_with fail
            go_ret2
            exact ⟨.inr ⟨HNO.out, rfl⟩, HQ1.out⟩
      · have hno : ∀ l, buildS l ≠ (s, 0) := fun l hb => hsum (HPA.out l hb).1
        have hco : codeO s = 8 := by rw [HCO.out, if_pos hsum]
        rw [hco]
        generalize s.drop n = sd at *
        have heb1 : (sd == fx) = false := by simpa using hsum
        have heb2 : @BEq.beq (List UInt8) instBEqOfDecidableEq sd fx = false := by simpa using hsum
        have heb3 : @BEq.beq (List UInt8) List.instBEq sd fx = false := by simpa using hsum
        have HNO := Lib.hid hno
        clear hno hco hsum
        have KK := Lib.hid (Q.refl w)
        go_enter Tryz.func67, Tryz.ntmps67
        go_wp2_with fail
        go_region_held3 (fun w' => True) (exact trivial)
          (first
            | (go_at_call 28; ((with_reducible refine (CCR.out _).mono ?_); rintro e w' ⟨rfl, rfl⟩))
            | (go_at_call 27; ((with_reducible refine (CFX.out _).mono ?_); rintro e w' ⟨rfl, q⟩); have s' : Q w w' := Q.trans (by first | exact KK.out | exact KK.out.trans (Q.drew _)) q; clear KK; have KK := Lib.hid s'; clear s' q))
        all_goals
          go_wp2_with fail
          go_ret2
          exact ⟨.inr ⟨HNO.out, rfl⟩, KK.out⟩
    · have hno : ∀ l, buildS l ≠ (s, 0) := fun l hb => hm4 (HP.out l hb).2.1
      have hco : codeO s = 7 := by unfold codeO; rw [if_pos (.inr hm4)]
      rw [hco]
      have hm5 : s.take 4 ≠ [67, 68, 88, 71] := hm4
      generalize s.take 4 = s4 at *
      have heb1 : (s4 == [67, 68, 88, 71]) = false := by simpa using hm5
      have heb2 : @BEq.beq (List UInt8) instBEqOfDecidableEq s4 [67, 68, 88, 71] = false := by simpa using hm5
      have heb3 : @BEq.beq (List UInt8) List.instBEq s4 [67, 68, 88, 71] = false := by simpa using hm5
      have HNO := Lib.hid hno
      clear hno hco hm4 hm5
      go_enter Tryz.func67, Tryz.ntmps67
      go_wp2_with fail
      go_ret2
      exact ⟨.inr ⟨HNO.out, rfl⟩, Q.refl _⟩
end Go.Proofs.YtcblmcbpnakphaaGreatDoor
