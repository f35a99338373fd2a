/- Joined texts of one proof: what is needed of Stt7, WBeg7, WBeg7b, SAt7, WShn7, Law7, Old7. -/
import Derived.Test.YtnmijegmbomfdaaGreatDoorJWStoM
import Derived.Test.YtnmijegmbomfdaaGreatDoorJNums
import Derived.Test.YtnmijegmbomfdaaGreatDoorJWDoes7
import Derived.Test.YtnmijegmbomfdaaGreatDoorJWRef4g
import Derived.Test.YtnmijegmbomfdaaGreatDoorJWRDevD
set_option linter.unusedSimpArgs false
set_option linter.unusedVariables false
set_option linter.unnecessarySimpa false
set_option maxRecDepth 100000
set_option maxHeartbeats 16000000
namespace Go.Proofs.YtnmijegmbomfdaaGreatDoor
section
open Go.RowKit
theorem usedK_eq (n : Nat) (b : Bytes) (h : firstD n ≤ n) : usedK n b = (List.range' (firstD n) (n - firstD n)).filter fun i => bit b i := by
  unfold usedK
  have e : List.range n = List.range (firstD n) ++ List.range' (firstD n) (n - firstD n) := by
    rw [List.range_eq_range', List.range_eq_range', show List.range' (firstD n) (n - firstD n) = List.range' (0 + firstD n) (n - firstD n) by rw [Nat.zero_add], List.range'_append_1]
    congr 1; omega
  rw [e, List.filter_append]
  have h1 : (List.range (firstD n)).filter (fun k => decide (firstD n ≤ k) && bit b k) = [] := by
    refine List.filter_eq_nil_iff.2 (fun k hk => ?_)
    have := List.mem_range.1 hk
    simp; omega
  rw [h1, List.nil_append]
  refine List.filter_congr (fun k hk => ?_)
  have := (List.mem_range'_1.1 hk).1
  simp [this]
def tellR (f : Nat → Bytes) (rs : List (Nat × Nat)) : Bytes := rs.flatMap fun r => (List.range' r.1 r.2).flatMap (chunk f)
theorem tellR_eq (n : Nat) (b : Bytes) (f : Nat → Bytes) (h : firstD n ≤ n) (hlow : ∀ i, i < firstD n → bit b i = true) : tellR f (usedR b (firstD n) n) = tellL n b f := by
  rw [usedR_eq b (firstD n) n hlow h, tell_chunks, usedK_eq n b h, ← used_flat, tellR, List.flatMap_assoc]
theorem tellR_snoc (f : Nat → Bytes) (rs : List (Nat × Nat)) (r : Nat × Nat) : tellR f (rs ++ [r]) = tellR f rs ++ (List.range' r.1 r.2).flatMap (chunk f) := by simp [tellR]
theorem used_count (b : Bytes) (lo k : Nat) : (usedL b lo k).length ≤ k := by
  induction k with
  | zero => simp [usedL]
  | succ k ih =>
    rw [usedL]
    split
    · split
      · split
        · simp; omega
        · simp; omega
      · simp
    · omega
theorem StAt.beside {w w' : World} {F G : Nat → Prop} {sb b : Nat} {σ : StL} {K : Nat} (h : StAt w F sb b σ K) (t : Turn G w w') (hd : ∀ k, F k → ¬ G k) : StAt w' F sb b σ K := by
  obtain ⟨FJ, FC, p, cb, tb, most, clock, ms, mb, m, ti, hg, hF, hlt, hcl⟩ := h
  refine ⟨FJ, FC, p, cb, tb, most, clock, ms, mb, m, ti, ⟨t.blk hg.box (hd _ (hF _ (.inr (.inr (.inl rfl))))), hg.tm.same (t.block _ hg.tm.lt (hd _ (hF _ (.inr (.inr (.inr rfl)))))), hg.jr.beside t (fun k hk => hd k (hF k (.inl hk))), hg.ca.beside t (fun k hk => hd k (hF k (.inr (.inl hk)))), hg.apart, hg.sF, hg.tF, hg.ok, hg.keys, hg.ints⟩, hF, fun k hk => Nat.lt_of_lt_of_le (hlt k hk) t.size, hcl⟩
structure SttAt (w wr : World) (F FZ : Nat → Prop) (sb b : Nat) (σ : StL) (K : Nat) (uv : Value) (rs : List (Nat × Nat)) (bv : Value) (acc : Bytes) : Prop where
  st : StAt wr FZ sb b σ K
  sub : ∀ k, FZ k → grow F w wr k
  turn : Turn F w wr
  u : wr.ownsRow w.heap.size 49 2 uv rs.length (ext rs)
  ub : ∀ g, uv.ownBlock = some g → ¬ FZ g
  bo : wr.ownsRow w.heap.size 5 1 bv acc.length (byteVs acc)
  bb : ∀ g, bv.ownBlock = some g → ¬ FZ g
section
variable {w wr : World} {F FZ : Nat → Prop} {sb b : Nat} {σ : StL} {K : Nat} {uv : Value} {rs : List (Nat × Nat)} {bv : Value} {acc : Bytes}
theorem SttAt.read (h : SttAt w wr F FZ sb b σ K uv rs bv acc) (i : Int) (hn : StNum σ) (hK : K ≤ 1000000000000000000) :
    Calls Tryz.prog 25 #[ptrV sb, .int .i64 i] wr fun e w' => e = .returned (.tuple #[strV (σ.read i).1, .int .i64 (σ.read i).2]) ∧ SttAt w w' F (grow FZ wr w') sb b σ (K + 1) uv rs bv acc := by
  refine (SRead_any wr FZ sb b σ K i h.st hn hK).mono ?_
  rintro e w' ⟨rfl, h1, t⟩
  have hw := h.turn.size
  refine ⟨rfl, h1, fun k hk => ?_, ?_, t.owns h.u h.ub, fun g hg hf => ?_, t.owns h.bo h.bb, fun g hg hf => ?_⟩
  · rcases hk with hk | hk
    · rcases h.sub k hk with hk | hk
      · exact .inl hk
      · exact .inr ⟨hk.1, by have := t.size; omega⟩
    · exact .inr ⟨by omega, hk.2⟩
  · exact h.turn.step (t.mono h.sub)
  · rcases hf with hf | hf
    · exact h.ub g hg hf
    · have := (h.u.lt g hg).2; omega
  · rcases hf with hf | hf
    · exact h.bb g hg hf
    · have := (h.bo.lt g hg).2; omega
theorem SttAt.app {w' : World} {bv' : Value} {acc' : Bytes} (h : SttAt w wr F FZ sb b σ K uv rs bv acc) (ho : w'.ownsRow w.heap.size 5 1 bv' acc'.length (byteVs acc')) (hg : wr.grownBy w' bv.ownBlock) (hf : bv'.ownBlock = bv.ownBlock ∨ ∃ g, bv'.ownBlock = some g ∧ wr.heap.size ≤ g) : SttAt w w' F FZ sb b σ K uv rs bv' acc' := by
  have t : Turn (fun k => bv.ownBlock = some k) wr w' := ⟨hg.os, hg.tape, hg.output, hg.size, fun k h1 h2 => hg.block k h1 (fun e => h2 e.symm)⟩
  refine ⟨h.st.beside t (fun k hk e => h.bb k e hk), fun k hk => (h.sub k hk).elim .inl (fun hk => .inr ⟨hk.1, by have := t.size; omega⟩), h.turn.grown h.bo hg (Nat.le_refl _), row_beside h.u h.bo hg (by decide), h.ub, ho, fun g e hk => ?_⟩
  rcases hf with hf | ⟨g2, e2, hf⟩
  · exact h.bb g (hf ▸ e) hk
  · rw [e2] at e
    simp only [Option.some.injEq] at e
    subst e
    have := h.st.lt _ hk; omega
theorem SttAt.keep {w' : World} (h : SttAt w wr F FZ sb b σ K uv rs bv acc) (q : Q wr w') : SttAt w w' F FZ sb b σ K uv rs bv acc :=
  ⟨h.st.keep q, fun k hk => (h.sub k hk).elim .inl (fun hk => .inr ⟨hk.1, by have := q.size; omega⟩), h.turn.q q, ownsRow_below h.u q, h.ub, ownsRow_below h.bo q, h.bb⟩
theorem SttAt.done (h : SttAt w wr F FZ sb b σ K uv rs bv acc) (hF : ∀ k, F k → k < w.heap.size) {K' : Nat} (hK : K ≤ K') : StAt wr (grow F w wr) sb b σ K' ∧ Turn F w wr :=
  ⟨h.st.mono h.sub (fun k hk => hk.elim (fun hk => Nat.lt_of_lt_of_le (hF k hk) h.turn.size) (fun hk => hk.2)) hK, h.turn⟩
theorem SttAt.cells (h : SttAt w wr F FZ sb b σ K uv rs bv acc) : ∃ a cap, uv = .slice a rs.length cap ∧ ∀ k (hk : k < rs.length), ∃ g off, a = some ⟨g, off, none⟩ ∧ wr.cell? ⟨g, off + k * 2, none⟩ = some (.int .i64 (rs[k].1 : Nat)) ∧ wr.cell? ⟨g, off + k * 2 + 1, none⟩ = some (.int .i64 (rs[k].2 : Nat)) := by
  obtain ⟨_, a, cap, e, hc⟩ := Sl.of_owns h.u
  refine ⟨a, cap, e, fun k hk => ?_⟩
  obtain ⟨g, off, e, hc⟩ := hc (by omega)
  have h1 := ext_at rs k hk
  exact ⟨g, off, e, by have := hc _ _ h1.1; rwa [Nat.mul_comm] at this, by have := hc _ _ h1.2; rwa [Nat.mul_comm, ← Nat.add_assoc] at this⟩
end
theorem own_none (w : World) (e : TypeId) (hs : (0 : Nat) < 1) : (w.alloc (.cells #[] e)).ownsRow w.heap.size e 1 (.slice (some ⟨w.heap.size, 0, none⟩) 0 0) 0 [] :=
  ⟨by simp, .inr ⟨w.heap.size, 0, #[], rfl, Nat.le_refl _, heap_alloc_new _ _, by simp, by unfold maxLen; omega, by simp, by simp⟩⟩
theorem tinfoU8s : (Tryz.prog.info? 5).map (fun i => (i.zero, i.size, i.bytes)) = some (some (.int .u8 0), 1, 1) := by kernel_rfl
theorem State7_any (w : World) (F : Nat → Prop) (sb b : Nat) (σ : StL) (K : Nat) (h : StAt w F sb b σ K) (hn : StNum σ) (hd : σ.dead = false) (hlow : ∀ i, i < firstD σ.n → bit σ.map1 i = true) (hK : K + 17000000 ≤ 1000000000000000000) :
    Calls Tryz.prog 14 #[ptrV sb] w fun e w' => e = .returned (strV σ.tell) ∧ StAt w' (grow F w w') sb b σ (K + 17000000) ∧ Turn F w w' := by
  have hbig := hn.big; have hmx := hn.max
  have hfd := firstD_lt σ.n hbig hmx
  have htr := tellR_eq σ.n σ.map1 σ.get (by omega) hlow
  have hte : σ.tell = tellR σ.get (usedR σ.map1 (firstD σ.n) σ.n) := htr.symm
  rw [hte]
  have hrs : ∀ r ∈ usedR σ.map1 (firstD σ.n) σ.n, firstD σ.n ≤ r.1 ∧ r.1 + r.2 ≤ σ.n := fun r hr => by
    rw [usedR_eq _ _ _ hlow (by omega)] at hr
    obtain ⟨_, h2, h3, _⟩ := used_last _ _ _ r hr
    exact ⟨h3, by omega⟩
  have hrl : (usedR σ.map1 (firstD σ.n) σ.n).length ≤ 4096 := by
    rw [usedR_eq _ _ _ hlow (by omega)]
    have := used_count σ.map1 (firstD σ.n) (σ.n - firstD σ.n); omega
  have hget : ∀ k, firstD σ.n ≤ k → k < σ.n → (σ.get k).length = 256 ∧ σ.read k = (σ.get k, 0) := fun k h1 h2 => by
    obtain ⟨_, _, _, x4, _, _, x7⟩ := hn.num hd
    constructor
    · unfold StL.get
      by_cases hx : ∃ w ∈ σ.tx, w.1 = k
      · obtain ⟨w, hw, _, e⟩ := lastP_mem σ.tx k (σ.j.d.get k) hx
        rw [e]; exact (x4 w hw).2.2
      · rw [lastP_none _ _ _ (fun w hw e => hx ⟨w, hw, e⟩)]; exact x7 k h2
    · unfold StL.read
      have hi : σ.isData k = true := by unfold StL.isData; simp; omega
      rw [hd, if_neg (by decide), if_pos hi, Int.toNat_natCast]
  have hus := fun (W : World) (q : Q w W) => SUsed_any W F sb b σ K (h.keep q) hn
  have hF := h.lt
  have hrd := fun (W : World) (FZ : Nat → Prop) (c : Nat) (uv : Value) (bv : Value) (acc : Bytes) (k : Nat) (hc : c ≤ 17000000) (hs : SttAt w W F FZ sb b σ (K + c) uv (usedR σ.map1 (firstD σ.n) σ.n) bv acc) => hs.read (k : Int) hn (by omega)
  have hst := fun (W : World) (q : Q w W) => h.keep q
  obtain ⟨i1, hi1, hy0, hy1, hy2⟩ := info_parts tinfoU8s
  have HUS := Lib.hid hus; have HF := Lib.hid hF; have HRD := Lib.hid hrd; have HST := Lib.hid hst; have HRS := Lib.hid hrs; have HG := Lib.hid hget
  clear hus hF hrd hst hrs hget hte htr hlow h hn hd hfd
  generalize usedR σ.map1 (firstD σ.n) σ.n = rs at *
  go_enter Tryz.func14, Tryz.ntmps14
  go_wp2_with fail
  refine (HUS.out _ (Q.alloc _ _)).mono ?_
  rintro e w2 ⟨uv, rfl, ho2, q2⟩
  have hz0 : SttAt w w2 F F sb b σ (K + 0) uv rs (.slice (some ⟨w.heap.size, 0, none⟩) 0 0) [] := by
    have q := (Q.alloc w (.cells #[] 5)).trans q2
    have hs := HST.out w2 q
    refine ⟨hs, fun k hk => .inl hk, Turn.of_q q, owns_low ho2 (by simp), fun g hg hf => ?_, ownsRow_below (own_none w 5 (by decide)) q2, fun g hg hf => ?_⟩
    · have h1 := (ho2.lt g hg).1
      have h2 := HF.out g hf
      simp at h1; omega
    · simp only [Value.ownBlock, Option.some.injEq] at hg
      have h2 := HF.out g hf
      omega
  have HZ := Lib.hid hz0
  obtain ⟨ua, ucap, rfl, _⟩ := hz0.cells
  clear hz0 ho2 q2
  go_wp2_with fail
  go_loopw [3, 5] (fun bv i wr => ∃ (k c : Nat) (acc : Bytes) (FZ : Nat → Prop), i = .int .i64 (k : Nat) ∧ k ≤ rs.length ∧ c ≤ k * 4097 ∧ acc.length = 258 * c ∧ Hid (acc = tellR σ.get (rs.take k)) ∧ Hid (SttAt w wr F FZ sb b σ (K + c) (.slice ua rs.length ucap) rs bv acc)) (fun _ i _ => rs.length - (intOf i).toNat)
  case atStart => exact ⟨0, 0, [], F, rfl, Nat.zero_le _, by omega, rfl, Lib.hid rfl, HZ⟩
  case round =>
    obtain ⟨k, c, acc, FZ, rfl, hk, hc, hal, HA, HS⟩ := hrel
    by_cases hlt : k < rs.length
    · have hki : (k : Int) < (rs.length : Int) := by omega
      have hk0 : (0 : Int) ≤ (k : Int) := by omega
      have hcs : ∀ W FS2 c2 bv2 acc2, SttAt w W F FS2 sb b σ (K + c2) (.slice ua rs.length ucap) rs bv2 acc2 → ∃ g off, ua = some ⟨g, off, none⟩ ∧ W.cell? ⟨g, off + k * 2, none⟩ = some (.int .i64 (rs[k].1 : Nat)) ∧ W.cell? ⟨g, off + k * 2 + 1, none⟩ = some (.int .i64 (rs[k].2 : Nat)) := fun W FS2 c2 bv2 acc2 h => by
        obtain ⟨a, cap, e, hc⟩ := h.cells
        simp only [Value.slice.injEq] at e
        obtain ⟨rfl, _, _⟩ := e
        exact hc k hlt
      obtain ⟨g, off, rfl, x1, x2⟩ := hcs _ _ _ _ _ HS.out
      have hrk := HRS.out rs[k] (List.getElem_mem hlt)
      have htk : tellR σ.get (rs.take (k + 1)) = acc ++ (List.range' rs[k].1 rs[k].2).flatMap (chunk σ.get) := by rw [List.take_succ_eq_append_getElem hlt, tellR_snoc, HA.out]
      have HCS := Lib.hid hcs; have HTK := Lib.hid htk
      clear hcs htk HA
      generalize rs[k] = r at *
      obtain ⟨r1, r2⟩ := r
      simp only at x1 x2 hrk HTK HCS
      obtain ⟨hr1, hr2⟩ := hrk
      have hk4 : k ≤ 4096 := by omega
      have hs0 : Hid (SttAt w wr F FZ sb b σ (K + (c + 0)) (.slice (some ⟨g, off, none⟩) rs.length ucap) rs u3 (acc ++ (List.range' r1 0).flatMap (chunk σ.get))) := by
        rw [List.range'_zero, List.flatMap_nil, List.append_nil]; exact HS
      have HS0 := hs0
      clear hs0 HS
      go_wp2_with fail
      go_loopw [3, 6] (fun bv i wr => ∃ (m : Nat) (FZ : Nat → Prop), i = .int .i64 ((r1 + m : Nat) : Int) ∧ m ≤ r2 ∧ Hid (SttAt w wr F FZ sb b σ (K + (c + m)) (.slice (some ⟨g, off, none⟩) rs.length ucap) rs bv (acc ++ (List.range' r1 m).flatMap (chunk σ.get)))) (fun _ i _ => r1 + r2 - (intOf i).toNat)
      case atStart => exact ⟨0, FZ, rfl, Nat.zero_le _, HS0⟩
      case round =>
        obtain ⟨m, FS2, rfl, hm, HS2⟩ := hrel
        obtain ⟨g', off', e', y1, y2⟩ := HCS.out _ _ _ _ _ HS2.out
        simp only [Option.some.injEq, Addr.mk.injEq] at e'
        obtain ⟨rfl, rfl, _⟩ := e'
        have hw1 : IntKind.i64.wrap ((r1 : Int) + (r2 : Int)) = (r1 : Int) + (r2 : Int) := IntWalk.i64_in _ (by omega)
        by_cases hmt : m < r2
        · have e1 : ((r1 + m : Nat) : Int) < (r1 : Int) + (r2 : Int) := by omega
          have hacc : (acc ++ (List.range' r1 m).flatMap (chunk σ.get)).length = 258 * (c + m) := by
            rw [List.length_append, hal, chunks_len _ _ (fun x hx => (HG.out x (by have := (List.mem_range'_1.1 hx).1; omega) (by have := (List.mem_range'_1.1 hx).2; omega)).1), List.length_range']; omega
          have hnext : acc ++ (List.range' r1 (m + 1)).flatMap (chunk σ.get) = ((acc ++ (List.range' r1 m).flatMap (chunk σ.get)) ++ [UInt8.ofNat ((r1 + m) % 256), UInt8.ofNat ((r1 + m) / 256 % 256)]) ++ σ.get (r1 + m) := by
            rw [List.range'_1_concat, List.flatMap_append]; simp [chunk]
          have hrd := fun (W : World) (q : Q wr W) => HRD.out W FS2 (c + m) _ _ _ (r1 + m) (by omega) (HS2.out.keep q)
          obtain ⟨hgl, hgr⟩ := HG.out (r1 + m) (by omega) (by omega)
          simp only [hgr] at hrd
          have HNX := Lib.hid hnext; have HRDD := Lib.hid hrd
          clear hnext hrd hgr HS2 HS0
          generalize acc ++ (List.range' r1 m).flatMap (chunk σ.get) = ac at *
          generalize σ.get (r1 + m) = gk at *
          generalize hrm : r1 + m = rm at *
          have hw2 : IntKind.i64.wrap ((rm : Int) / 256) = (rm : Int) / 256 := IntWalk.i64_in _ (by omega)
          have hw3 : IntKind.i64.wrap ((rm : Int) + 1) = (rm : Int) + 1 := IntWalk.i64_in _ (by omega)
          have HMT := Lib.hid (And.intro hmt (And.intro hr1 (And.intro hr2 (And.intro hacc (And.intro hgl hrm)))))
          clear hm hmt hr1 hr2 x1 x2 hacc hgl hrm
          go_wp2_with fail
          go_quiet (fail)
          go_wp2_with fail
          refine (HRDD.out _ (Q.drewN _ _)).mono ?_
          rintro e w4 ⟨rfl, hs4⟩
          generalize grow FS2 (wr.drewN nq) w4 = FS4 at *
          have HS4 := Lib.hid hs4
          have hk5 := hs4.keep (Q.alloc w4 (.cells #[.int .u8 ((rm : Int) % 256), .int .u8 ((rm : Int) / 256 % 256)] 5))
          have hsz := hs4.turn.size
          have hsl := Sl.lit w4 #[.int .u8 ((rm : Int) % 256), .int .u8 ((rm : Int) / 256 % 256)] 5 2 1 rfl
          have h1 : ∀ u ∈ (#[Value.int .u8 ((rm : Int) % 256), .int .u8 ((rm : Int) / 256 % 256)] : Array Value).toList, u.oneCell' = true := by intro u hu; simp at hu; rcases hu with rfl | rfl <;> rfl
          have hl2 : ac.length + 2 ≤ maxLen := by have := HMT.out.2.2.2.1; have := HMT.out.1; have := HMT.out.2.2.1; unfold maxLen; omega
          have hl3 : (ac.length + 2) * 1 ≤ 140737488355328 := by have := HMT.out.2.2.2.1; have := HMT.out.1; have := HMT.out.2.2.1; omega
          have hb5 : w.heap.size ≤ (w4.alloc (.cells #[.int .u8 ((rm : Int) % 256), .int .u8 ((rm : Int) / 256 % 256)] 5)).heap.size := by simp; omega
          have HK5 := Lib.hid hk5; have HSL := Lib.hid hsl; have H1 := Lib.hid h1; have HL2 := Lib.hid hl2; have HL3 := Lib.hid hl3; have HB5 := Lib.hid hb5
          clear hs4 hk5 hsz hsl h1 hl2 hl3 hb5 y1 y2
          go_wp2_with (at_builtin; refine wpList_append_sl (w4.alloc (.cells #[.int .u8 ((rm : Int) % 256), .int .u8 ((rm : Int) / 256 % 256)] 5)) (by rfl) _ _ 86 (by rfl) w.heap.size 5 i1 (.int .u8 0) 1 1 Tryz.underlying86 hi1 hy0 hy1 hy2 rfl (by decide) _ _ _ (by rfl) HK5.out.bo _ 2 _ (by rfl) HSL.out H1.out HL2.out HL3.out HB5.out ?_)
          intro v6 w6 h6 g6 f6
          have hby : (byteVs ac ++ (#[Value.int .u8 ((rm : Int) % 256), .int .u8 ((rm : Int) / 256 % 256)] : Array Value).toList) = byteVs (ac ++ [UInt8.ofNat (rm % 256), UInt8.ofNat (rm / 256 % 256)]) := by
            rw [byteVs_append]
            have a1 : (((UInt8.ofNat (rm % 256)).toNat : Nat) : Int) = (rm : Int) % 256 := by rw [UInt8.toNat_ofNat', Nat.mod_eq_of_lt (by omega)]; omega
            have a2 : (((UInt8.ofNat (rm / 256 % 256)).toNat : Nat) : Int) = (rm : Int) / 256 % 256 := by rw [UInt8.toNat_ofNat', Nat.mod_eq_of_lt (by omega)]; omega
            simp only [byteVs, Lib.byteCells, List.map_cons, List.map_nil, a1, a2]
          rw [hby, show ac.length + 2 = (ac ++ [UInt8.ofNat (rm % 256), UInt8.ofNat (rm / 256 % 256)]).length by simp] at h6
          have hs6 := HK5.out.app h6 g6 (f6.elim .inl (fun h => .inr ⟨_, h, by simp⟩))
          obtain ⟨a6, c6, rfl, _⟩ := owns_value h6
          have hl6 : (ac ++ [UInt8.ofNat (rm % 256), UInt8.ofNat (rm / 256 % 256)]).length + (⟨gk.toArray⟩ : ByteArray).size ≤ 140737488355328 := by
            obtain ⟨x1, _, x3, x4, x5, _⟩ := HMT.out
            rw [List.length_append, x4]; simp [ByteArray.size]; omega
          have hsz6 : w.heap.size ≤ w6.heap.size := hs6.turn.size
          have HS6 := Lib.hid hs6; have HL6 := Lib.hid hl6; have HSZ6 := Lib.hid hsz6
          clear h6 g6 f6 hby hs6 hl6 hsz6 HK5 HSL H1 HL2 HL3 HB5 HS4
          generalize hac2 : ac ++ [UInt8.ofNat (rm % 256), UInt8.ofNat (rm / 256 % 256)] = ac2 at *
          have HAC2 := Lib.hid hac2
          clear hac2
          go_wp2_with (at_builtin; refine wpList_app_strN w6 (by rfl) _ _ 86 9 (by rfl) w.heap.size 5 i1 Tryz.underlying86 Tryz.underlying9 hi1 hy0 hy1 hy2 _ _ _ (by rfl) HS6.out.bo ⟨gk.toArray⟩ (by rfl) HL6.out HSZ6.out ?_)
          intro v7 w7 h7 g7 f7
          rw [strCells_bytes, ← byteVs_append, ← List.length_append] at h7
          have hs7 := HS6.out.app h7 g7 f7
          obtain ⟨a7, c7, rfl, _⟩ := owns_value h7
          have HS7 := Lib.hid hs7
          clear h7 g7 f7 hs7 HS6
          go_wp2_with fail
          go_roundw
          case rel =>
            refine ⟨m + 1, FS4, ?_, ?_, ?_⟩
            · have := HMT.out.2.2.2.2.2; go_num
            · have := HMT.out.1; omega
            · have h := HS7.out
              rw [HNX.out, show K + (c + (m + 1)) = K + (c + m) + 1 by omega]
              exact Lib.hid h
          case measure => have := HMT.out.2.2.2.2.2; have := HMT.out.1; simp [intOf]; omega
        · have hmr : m = r2 := by omega
          subst hmr
          have e1 : ¬ ((r1 + m : Nat) : Int) < (r1 : Int) + (m : Int) := by omega
          have hacc : (acc ++ (List.range' r1 m).flatMap (chunk σ.get)).length = 258 * (c + m) := by
            rw [List.length_append, hal, chunks_len _ _ (fun x hx => (HG.out x (by have := (List.mem_range'_1.1 hx).1; omega) (by have := (List.mem_range'_1.1 hx).2; omega)).1), List.length_range']; omega
          have HS9 := Lib.hid (fun (W : World) (q : Q wr W) => HS2.out.keep q)
          have HAC := Lib.hid hacc
          rw [← HTK.out] at HS9 HAC
          have hmm : m ≤ 4097 := by omega
          clear hacc HS2 HS0 hal hmt hm
          generalize hrm : r1 + m = rm at *
          go_wp2_with fail
          go_quiet (fail)
          go_wp2_with fail
          go_roundw
          case rel => exact ⟨k + 1, c + m, _, FS2, by go_num, by omega, by omega, HAC.out, Lib.hid rfl, Lib.hid (HS9.out _ (Q.drewN _ _))⟩
          case measure => simp [intOf]; omega
    · obtain rfl : k = rs.length := by omega
      have hki : ¬ ((rs.length : Nat) : Int) < ((rs.length : Nat) : Int) := by omega
      have hfin := HA.out
      rw [List.take_length] at hfin
      have hst := row_string HS.out.bo
      have hdn := HS.out.done HF.out (K' := K + 17000000) (by omega)
      have HFIN := Lib.hid hfin; have HDN := Lib.hid hdn
      clear hfin hdn hal HA HS
      go_wp2_with fail
      go_ret
      exact ⟨by rw [← HFIN.out]; rfl, HDN.out.1, HDN.out.2⟩
end
section
open Go.RowKit
abbrev startS (n : Nat) : StL := openedS (formatS (DevL.new n)).1
theorem start_all (n : Nat) (h : 128 ≤ n) (hm : n ≤ 4096) : (openJ (formatS (DevL.new n)).1).2 = 0 ∧ OpenOk (formatS (DevL.new n)).1 ∧ StInv 5 (startS n) [] (updC (fun _ => noughtsL) (formatT n)) ∧ (startS n).n = n ∧ (startS n).j.d.Free ∧ (startS n).map1 = bits0 n := by
  obtain ⟨_, hf, hl, hok, ⟨s, k, fr, hp⟩, hg, hmp, _⟩ := format_run2 n h hm
  have hz : (openJ (formatS (DevL.new n)).1).2 = 0 := by
    rcases open_code hp (by decide) with e | ⟨_, _, _, _, e⟩
    · exact e
    · exact absurd hf.1 e
  obtain ⟨o1, o2, o3⟩ := open_good hp (by rw [hl]; exact hg) (by rw [hl]; exact h) (by decide) hz
  have hfr : (startS n).j.d.Free := by
    rcases open_run hp (by decide) with ⟨_, x, _, y⟩ | ⟨e, _⟩
    · exact ⟨y hf.1, x.live⟩
    · rw [e] at hz; exact absurd hz (by decide)
  refine ⟨hz, o1, o2, by rw [o3, hl], hfr, ?_⟩
  have := o2.now
  rw [o3, hl] at this
  rw [this]; exact hmp
theorem Formatted_any (w : World) (n most : Nat) (h1 : 128 ≤ n) (h2 : n ≤ 4096) (hm : 64 ≤ most ∧ most ≤ 1024) :
    Calls Tryz.prog 38 #[.int .i64 (n : Nat), .int .i64 (most : Nat)] w fun e w' => ∃ sb b, e = .returned (.tuple #[ptrV b, ptrV sb, .bool true]) ∧ StAt w' (fun k => w.heap.size ≤ k ∧ k < w'.heap.size) sb b (startS n) 0 ∧ Q w w' := by
  obtain ⟨hz, hoo, _, _, _, _⟩ := start_all n h1 h2
  obtain ⟨_, hf, hl, hok, _, _, _, hpl⟩ := format_run2 n h1 h2
  have hnw := New_any w n (by omega) h2
  have hfm := fun (W : World) (F : Nat → Prop) (b : Nat) (h : DevAt W F b (DevL.new n)) (hF : ∀ k, F k → k < W.heap.size) => SFormat_new W F b n h hF h1 h2
  have hop := fun (W : World) (F : Nat → Prop) (b : Nat) (h : DevAt W F b (formatS (DevL.new n)).1) (hF : ∀ k, F k → k < W.heap.size) => SOpen_ok W F b (formatS (DevL.new n)).1 most h hF hok (fun _ => by omega) hm hoo
  have HNW := Lib.hid hnw; have HFM := Lib.hid hfm; have HOP := Lib.hid hop
  clear hnw hfm hop hz hoo hf hl hok hpl
  go_enter Tryz.func38, Tryz.ntmps38
  go_wp2_with fail
  refine HNW.out.mono ?_
  rintro e w1 ⟨rfl, hd1, q1⟩
  have hf := HFM.out w1 _ _ hd1 (fun k hk => hk.2)
  have HF := Lib.hid hf; have Q1 := Lib.hid q1
  clear hf hd1 q1
  go_wp2_with fail
  refine HF.out.mono ?_
  rintro e w2 ⟨rfl, hd2, t2⟩
  have ho := HOP.out w2 _ _ hd2 (fun k hk => hk.elim (fun hk => Nat.lt_of_lt_of_le hk.2 t2.size) (fun hk => hk.2))
  have HO := Lib.hid ho; have T2 := Lib.hid t2
  clear ho hd2 t2
  go_wp2_with fail
  refine HO.out.mono ?_
  rintro e w3 ⟨sb, rfl, h3, t3⟩
  have H3 := Lib.hid h3; have T3 := Lib.hid t3
  clear h3 t3
  go_wp2_with fail
  go_ret3
  have hs1 := Q1.out.size; have hs2 := T2.out.size; have hs3 := T3.out.size
  refine ⟨_, _, rfl, H3.out.mono (fun k hk => ?_) (fun k hk => hk.2) (Nat.le_refl _), ?_⟩
  · rcases hk with (hk | hk) | hk
    · exact ⟨hk.1, by omega⟩
    · exact ⟨by omega, by omega⟩
    · exact ⟨by omega, hk.2⟩
  · refine T3.out.low (fun k hk => ?_) (T2.out.low (fun k hk => hk.1) Q1.out)
    rcases hk with hk | hk
    · exact hk.1
    · omega
def BothAt (w0 w : World) (wb sb b : Nat) (σ : StL) (K : Nat) (mb rs rb : Nat) (τ : StL) : Prop :=
  ∃ F G : Nat → Prop, (∀ k, F k → w0.heap.size ≤ k) ∧ (∀ k, G k → w0.heap.size ≤ k) ∧ (∀ k, F k → ¬ G k) ∧ ¬ F wb ∧ ¬ G wb ∧ ¬ F mb ∧ ¬ G mb ∧ StAt w F sb b σ K ∧ RStAt w G rs rb τ ∧
    Blk w wb 35 #[ptrV b, ptrV sb] ∧ Blk w mb 68 #[ptrV rb, ptrV rs] ∧ Q w0 w
theorem BothAt.w {w0 w : World} {wb sb b : Nat} {σ : StL} {K : Nat} {mb rs rb : Nat} {τ : StL} (h : BothAt w0 w wb sb b σ K mb rs rb τ) : WAt w0 w wb sb b σ K := by
  obtain ⟨F, G, f, g, d, n1, n2, n3, n4, h1, h2, b1, b2, q⟩ := h
  exact ⟨F, f, n1, h1, b1, q⟩
theorem RStAt.mono {w : World} {F G : Nat → Prop} {sb b : Nat} {σ : StL} (h : RStAt w F sb b σ) (k : ∀ i, F i → G i) (hl : ∀ i, G i → i < w.heap.size) : RStAt w G sb b σ := by
  obtain ⟨FJ, p, tv, h1, h2, h3, h4⟩ := h
  exact ⟨FJ, p, tv, h1, fun i hi => k i (h2 i hi), fun g off n cap e hn => k g (h3 g off n cap e hn), hl⟩
theorem Begin7_any (w : World) (most : Nat) (hm : 64 ≤ most ∧ most ≤ 1024) :
    Calls Tryz.prog 11 #[.int .i64 (most : Nat)] w fun e w' => ∃ wb sb b mb rs rb, e = .returned (.tuple #[ptrV wb, ptrV mb, .bool true]) ∧ BothAt w w' wb sb b (startS 132) 0 mb rs rb (startS 132) := by
  obtain ⟨hz, hoo, _, _, _, _⟩ := start_all 132 (by decide) (by decide)
  obtain ⟨_, hf, hl, hok, ⟨s, k, fr, hpre⟩, hgc, _, hpl⟩ := format_run2 132 (by decide) (by decide)
  have hfo := Formatted_any w 132 most (by decide) (by decide) hm
  have hnw := fun (W : World) => RNew_any W 132 (by decide) (by decide)
  have hfm := fun (W : World) (F : Nat → Prop) (b : Nat) (h : RDevAt W F b (DevL.new 132)) (hF : ∀ k, F k → k < W.heap.size) => RFormat7_new W F b 132 h hF (by decide) (by decide)
  have hop := fun (W : World) (F : Nat → Prop) (b : Nat) (h : RDevAt W F b (formatS (DevL.new 132)).1) (hF : ∀ k, F k → k < W.heap.size) => ROpen7_ok W F b (formatS (DevL.new 132)).1 h hF hpre (by rw [hl]; exact hgc) (by omega) (by decide) (by omega) hz
  have HFO := Lib.hid hfo; have HNW := Lib.hid hnw; have HFM := Lib.hid hfm; have HOP := Lib.hid hop
  clear hfo hnw hfm hop hz hoo hf hl hok hpre hgc hpl
  have e132 : ((132 : Nat) : Int) = 132 := rfl
  rw [e132] at HFO HNW
  go_enter Tryz.func11, Tryz.ntmps11
  go_wp2_with fail
  refine HFO.out.mono ?_
  rintro e w1 ⟨sb, b, rfl, h1, q1⟩
  have H1 := Lib.hid h1; have Q1 := Lib.hid q1
  clear h1 q1
  go_wp2_with fail
  refine (HNW.out _).mono ?_
  rintro e w2 ⟨rfl, hd2, q2⟩
  have hf := HFM.out w2 _ _ hd2 (fun k hk => hk.2)
  have HF := Lib.hid hf; have Q2 := Lib.hid q2
  clear hf hd2 q2
  go_wp2_with fail
  refine HF.out.mono ?_
  rintro e w3 ⟨rfl, hd3, t3⟩
  have ho := HOP.out w3 _ _ hd3 (fun k hk => hk.elim (fun hk => Nat.lt_of_lt_of_le hk.2 t3.size) (fun hk => hk.2))
  have HO := Lib.hid ho; have T3 := Lib.hid t3
  clear ho hd3 t3
  go_wp2_with fail
  refine HO.out.mono ?_
  rintro e w4 ⟨rs, rfl, h4, t4⟩
  have H4 := Lib.hid h4; have T4 := Lib.hid t4
  clear h4 t4
  go_wp2_with fail
  go_ret3
  have hs1 := Q1.out.size; have hs2 := Q2.out.size; have hs3 := T3.out.size; have hs4 := T4.out.size
  have hlow3 : Q w1 w3 := T3.out.low (fun k hk => hk.1) Q2.out
  have hlow4 : Q w1 w4 := T4.out.low (fun k hk => hk.elim (fun hk => hk.1) (fun hk => by omega)) hlow3
  have hq5 := Q.alloc w4 (.cells #[ptrV b, ptrV sb] 35)
  have hb5 := Blk.new w4 35 #[ptrV b, ptrV sb]
  generalize hw5 : w4.alloc (.cells #[ptrV b, ptrV sb] 35) = w5 at *
  have hz5 : w5.heap.size = w4.heap.size + 1 := by rw [← hw5]; simp
  have hq6 := Q.alloc w5 (.cells #[ptrV w1.heap.size, ptrV rs] 68)
  have hb6 := Blk.new w5 68 #[ptrV w1.heap.size, ptrV rs]
  refine ⟨w4.heap.size, sb, b, w5.heap.size, rs, w1.heap.size, by rw [hz5]; rfl, fun k => w.heap.size ≤ k ∧ k < w1.heap.size, fun k => w1.heap.size ≤ k ∧ k < w4.heap.size, fun k hk => hk.1, fun k hk => by have := hk.1; omega, fun k hk hk2 => by have := hk.2; have := hk2.1; omega, fun hk => by have := hk.2; omega, fun hk => by have := hk.2; omega, fun hk => by have := hk.2; omega, fun hk => by have := hk.2; omega, ?_, ?_, hb5.stays hq6, hb6, Q1.out.trans ((hlow4.trans hq5).trans hq6)⟩
  · exact H1.out.keep ((hlow4.trans hq5).trans hq6)
  · exact (H4.out.mono (fun k hk => by
      rcases hk with (hk | hk) | hk
      · exact ⟨hk.1, by omega⟩
      · exact ⟨by omega, by omega⟩
      · exact ⟨by omega, hk.2⟩) (fun k hk => hk.2)).keep (hq5.trans hq6)
end
section
open Go.RowKit
def SAt (w0 w : World) (sb b : Nat) (σ : StL) (K : Nat) : Prop := ∃ F : Nat → Prop, (∀ k, F k → w0.heap.size ≤ k) ∧ StAt w F sb b σ K ∧ Q w0 w
section
variable {w0 w : World} {sb b : Nat} {σ : StL} {K : Nat}
theorem SAt.turn (h : SAt w0 w sb b σ K) : ∃ F : Nat → Prop, StAt w F sb b σ K ∧ ∀ w' σ' K', (StAt w' (grow F w w') sb b σ' K' ∧ Turn F w w') → SAt w0 w' sb b σ' K' := by
  obtain ⟨F, hF, hs, q⟩ := h
  exact ⟨F, hs, fun w' σ' K' ⟨h1, t⟩ => ⟨grow F w w', grow_low hF q.size, h1, t.low hF q⟩⟩
theorem SAt.keep {w' : World} (h : SAt w0 w sb b σ K) (q : Q w w') : SAt w0 w' sb b σ K := by
  obtain ⟨F, hF, hs, q0⟩ := h
  exact ⟨F, hF, hs.keep q, q0.trans q⟩
theorem SAt.q (h : SAt w0 w sb b σ K) : Q w0 w := by
  obtain ⟨F, hF, hs, q0⟩ := h
  exact q0
theorem SAt.write (h : SAt w0 w sb b σ K) (i : Int) (s : Bytes) (hn : StNum σ) (hK : K + 1 ≤ 1000000000000000000) (hs : s.length ≤ 1000000000000) :
    Calls Tryz.prog 26 #[ptrV sb, .int .i64 i, strV s] w fun e w' => e = .returned (.int .i64 (σ.write i s).2) ∧ SAt w0 w' sb b (σ.write i s).1 (K + 1) := by
  obtain ⟨F, hs', ht⟩ := h.turn
  exact (SWrite_any w F sb b σ K i s hs' hn hK hs).mono fun e w' ⟨h1, h2⟩ => ⟨h1, ht _ _ _ h2⟩
theorem SAt.alloc (h : SAt w0 w sb b σ K) (c : Int) (hn : StNum σ) (hK : K + 2 ≤ 1000000000000000000) :
    Calls Tryz.prog 23 #[ptrV sb, .int .i64 c] w fun e w' => e = .returned (.tuple #[.int .i64 (σ.alloc c).2.1, .int .i64 (σ.alloc c).2.2]) ∧ SAt w0 w' sb b (σ.alloc c).1 (K + 2) := by
  obtain ⟨F, hs', ht⟩ := h.turn
  exact (SAlloc_any w F sb b σ K c hs' hn hK).mono fun e w' ⟨h1, h2⟩ => ⟨h1, ht _ _ _ h2⟩
theorem SAt.release (h : SAt w0 w sb b σ K) (a c : Int) (hn : StNum σ) (hK : K + 2 ≤ 1000000000000000000) :
    Calls Tryz.prog 24 #[ptrV sb, .int .i64 a, .int .i64 c] w fun e w' => e = .returned (.int .i64 (σ.release a c).2) ∧ SAt w0 w' sb b (σ.release a c).1 (K + 2) := by
  obtain ⟨F, hs', ht⟩ := h.turn
  exact (SRelease_any w F sb b σ K a c hs' hn hK).mono fun e w' ⟨h1, h2⟩ => ⟨h1, ht _ _ _ h2⟩
theorem SAt.begin_ (h : SAt w0 w sb b σ K) :
    Calls Tryz.prog 22 #[ptrV sb] w fun e w' => e = .returned (.int .i64 σ.begin.2) ∧ SAt w0 w' sb b σ.begin.1 K := by
  obtain ⟨F, hs', ht⟩ := h.turn
  exact (SBegin_any w F sb b σ K hs').mono fun e w' ⟨h1, h2⟩ => ⟨h1, ht _ _ _ h2⟩
theorem SAt.abort (h : SAt w0 w sb b σ K) :
    Calls Tryz.prog 18 #[ptrV sb] w fun e w' => e = .returned (.tuple #[]) ∧ SAt w0 w' sb b σ.abort K := by
  obtain ⟨F, hs', ht⟩ := h.turn
  exact (SAbort_any w F sb b σ K hs').mono fun e w' ⟨h1, h2, h3⟩ => ⟨h1, ht _ _ _ ⟨h2.mono (fun k hk => .inl hk) (fun k hk => hk.elim (h2.lt k) (fun hk => hk.2)) (Nat.le_refl _), h3⟩⟩
theorem SAt.commit (h : SAt w0 w sb b σ K) (hn : StNum σ) (hp : σ.state true = 0 → σ.tx ≠ [] → ComPre σ) :
    Calls Tryz.prog 28 #[ptrV sb] w fun e w' => e = .returned (.int .i64 σ.commit.2) ∧ SAt w0 w' sb b σ.commit.1 K := by
  obtain ⟨F, hs', ht⟩ := h.turn
  exact (SCommit_any w F sb b σ K hs' hn hp).mono fun e w' ⟨h1, h2⟩ => ⟨h1, ht _ _ _ h2⟩
theorem SAt.read (h : SAt w0 w sb b σ K) (i : Int) (hn : StNum σ) (hK : K ≤ 1000000000000000000) :
    Calls Tryz.prog 25 #[ptrV sb, .int .i64 i] w fun e w' => e = .returned (.tuple #[strV (σ.read i).1, .int .i64 (σ.read i).2]) ∧ SAt w0 w' sb b σ (K + 1) := by
  obtain ⟨F, hs', ht⟩ := h.turn
  exact (SRead_any w F sb b σ K i hs' hn hK).mono fun e w' ⟨h1, h2⟩ => ⟨h1, ht _ _ _ h2⟩
theorem SAt.free (h : SAt w0 w sb b σ K) (hn : StNum σ) :
    Calls Tryz.prog 20 #[ptrV sb] w fun e w' => e = .returned (.int .i64 (σ.free : Nat)) ∧ Q w w' := by
  obtain ⟨F, _, ⟨FJ, FC, p, cb, tb, most, clock, ms, mb, m, ti, hg, _⟩, _⟩ := h
  exact SFree_any hg hn
theorem SAt.first (h : SAt w0 w sb b σ K) (hn : StNum σ) :
    Calls Tryz.prog 21 #[ptrV sb] w fun e w' => e = .returned (.int .i64 (firstD σ.n : Nat)) ∧ w = w' := by
  obtain ⟨F, _, ⟨FJ, FC, p, cb, tb, most, clock, ms, mb, m, ti, hg, _⟩, _⟩ := h
  exact SFirst_any hg hn.max
theorem SAt.used (h : SAt w0 w sb b σ K) (hn : StNum σ) :
    Calls Tryz.prog 19 #[ptrV sb] w fun e w' => ∃ v, e = .returned v ∧ w'.ownsRow w.heap.size 49 2 v (usedR σ.map1 (firstD σ.n) σ.n).length (ext (usedR σ.map1 (firstD σ.n) σ.n)) ∧ Q w w' := by
  obtain ⟨F, _, hs, _⟩ := h
  exact SUsed_any w F sb b σ K hs hn
theorem SAt.state (h : SAt w0 w sb b σ K) (hn : StNum σ) (hd : σ.dead = false) (hlow : ∀ i, i < firstD σ.n → bit σ.map1 i = true) (hK : K + 17000000 ≤ 1000000000000000000) :
    Calls Tryz.prog 14 #[ptrV sb] w fun e w' => e = .returned (strV σ.tell) ∧ SAt w0 w' sb b σ (K + 17000000) := by
  obtain ⟨F, hs', ht⟩ := h.turn
  exact (State7_any w F sb b σ K hs' hn hd hlow hK).mono fun e w' ⟨h1, h2⟩ => ⟨h1, ht _ _ _ h2⟩
end
theorem WAt.state {w0 w : World} {wb sb b : Nat} {σ : StL} {K : Nat} (h : WAt w0 w wb sb b σ K) (hn : StNum σ) (hd : σ.dead = false) (hlow : ∀ i, i < firstD σ.n → bit σ.map1 i = true) (hK : K + 17000000 ≤ 1000000000000000000) :
    Calls Tryz.prog 14 #[ptrV sb] w fun e w' => e = .returned (strV σ.tell) ∧ WAt w0 w' wb sb b σ (K + 17000000) := by
  obtain ⟨F, _, hs', ht⟩ := h.turn
  exact (State7_any w F sb b σ K hs' hn hd hlow hK).mono fun e w' ⟨h1, h2⟩ => ⟨h1, ht _ _ _ h2⟩
end
section
open Go.RowKit
theorem Shown7_any (w : World) : Calls Tryz.prog 9 #[] w fun e w' => e = .returned (.bool true) ∧ Q w w' := by
  have hfo := Formatted_any w 128 64 (by decide) (by decide) (by decide)
  obtain ⟨_, _, i0, n0, f0, m0⟩ := start_all 128 (by decide) (by decide)
  have hfree0 : (startS 128).free = 64 := by unfold StL.free; rw [m0, n0]; decide +kernel
  have o0 : (startS 128).open_ = false := rfl
  have hus : ∀ W sb b K, SAt w W sb b (startS 128) K → SAt w W sb b (startS 128) K := fun _ _ _ _ h => h
  have hst : ∀ w' sb b, StAt w' (fun k => w.heap.size ≤ k ∧ k < w'.heap.size) sb b (startS 128) 0 → Q w w' → SAt w w' sb b (startS 128) 0 := fun w' sb b h q => ⟨_, fun k hk => hk.1, h, q⟩
  generalize startS 128 = s0 at *
  obtain ⟨s1, s2, s3, s4, fr4, C4, a1, a2, a3, a4, a5, a6, i1, i2, i3, i4, n4, m4, o4, f4, c4⟩ := shown_first i0 n0 m0 o0 f0 (by decide)
  obtain ⟨s5, s6, s7, b1, b2, b3, b4, i5, i6, i7, b5, b6, b7⟩ := shown_second i4 n4 m4 o4 c4
  have u0 := i0.num (by decide); have u1 := i1.num (by decide); have u2 := i2.num (by decide); have u3 := i3.num (by decide); have u4 := i4.num (by decide); have u5 := i5.num (by decide); have u6 := i6.num (by decide); have u7 := i7.num (by decide)
  have hfu := fun (W : World) => Full_any 97 W
  have k1 := fun (W : World) sb b K (h : SAt w W sb b s0 K) (hK : K ≤ 1000) => h.alloc 2 u0 (by omega)
  have k2 := fun (W : World) sb b K (h : SAt w W sb b s0 K) => h.begin_
  have k3 := fun (W : World) sb b K (h : SAt w W sb b s1 K) (hK : K ≤ 1000) => h.alloc 2 u1 (by omega)
  have k4 := fun (W : World) sb b K (h : SAt w W sb b s2 K) (hK : K ≤ 1000) => h.write 64 (fullL 97) u2 (by omega) (by rw [fullL_len]; decide)
  have k5 := fun (W : World) sb b K (h : SAt w W sb b s3 K) (hK : K ≤ 1000) => h.write 66 (fullL 97) u3 (by omega) (by rw [fullL_len]; decide)
  have k6 := fun (W : World) sb b K (h : SAt w W sb b s3 K) => h.commit u3 (commit_pre i3 (by decide))
  have k7 := fun (W : World) sb b K (h : SAt w W sb b s4 K) => h.used u4
  have k8 := fun (W : World) sb b K (h : SAt w W sb b s4 K) => h.begin_
  have k9 := fun (W : World) sb b K (h : SAt w W sb b s5 K) (hK : K ≤ 1000) => h.release 64 1 u5 (by omega)
  have k10 := fun (W : World) sb b K (h : SAt w W sb b s6 K) (hK : K ≤ 1000) => h.alloc 64 u6 (by omega)
  have k11 := fun (W : World) sb b K (h : SAt w W sb b s6 K) => h.abort
  have k12 := fun (W : World) sb b K (h : SAt w W sb b s7 K) (hK : K ≤ 1000) => h.read 64 u7 (by omega)
  have k13 := fun (W : World) sb b K (h : SAt w W sb b s7 K) => h.free u7
  have k14 := fun (W : World) sb b K (h : SAt w W sb b s0 K) => h.first u0
  have k15 := fun (W : World) sb b K (h : SAt w W sb b s0 K) => h.free u0
  simp only [a1] at k1; simp only [a2] at k2; simp only [a3] at k3; simp only [a4] at k4; simp only [a5] at k5; simp only [a6] at k6; simp only [b7] at k7; simp only [b1] at k8; simp only [b2] at k9; simp only [b3] at k10; simp only [b4] at k11; simp only [b6] at k12; simp only [b5] at k13; simp only [n0] at k14; simp only [hfree0] at k15
  have hfl := fullL_len 97
  have H1 := Lib.hid k1; have H2 := Lib.hid k2; have H3 := Lib.hid k3; have H4 := Lib.hid k4; have H5 := Lib.hid k5; have H6 := Lib.hid k6; have H7 := Lib.hid k7; have H8 := Lib.hid k8; have H9 := Lib.hid k9; have H10 := Lib.hid k10; have H11 := Lib.hid k11; have H12 := Lib.hid k12; have H13 := Lib.hid k13; have H14 := Lib.hid k14; have H15 := Lib.hid k15
  have HFO := Lib.hid hfo; have HFU := Lib.hid hfu; have HST := Lib.hid hst
  clear k1 k2 k3 k4 k5 k6 k7 k8 k9 k10 k11 k12 k13 k14 k15 hfo hfu hst hus a1 a2 a3 a4 a5 a6 b1 b2 b3 b4 b5 b6 b7 i0 i1 i2 i3 i4 i5 i6 i7 u0 u1 u2 u3 u4 u5 u6 u7 n0 m0 o0 f0 n4 m4 o4 f4 c4 hfree0
  have e97 : ((97 : UInt8).toNat : Int) = 97 := rfl
  generalize fullL 97 = fu at *
  go_enter Tryz.func9, Tryz.ntmps9
  go_wp2_with fail
  refine HFO.out.mono ?_
  rintro e w1 ⟨sb, b, rfl, h1, q1⟩
  have S0 := Lib.hid (HST.out _ _ _ h1 q1)
  clear h1 q1
  go_wp2_with fail
  refine (H14.out _ _ _ _ S0.out).mono ?_
  rintro e w2 ⟨rfl, rfl⟩
  go_wp2_with fail
  refine (H15.out _ _ _ _ S0.out).mono ?_
  rintro e w2 ⟨rfl, q2⟩
  have S1 := Lib.hid (S0.out.keep q2)
  clear q2 S0
  go_wp2_with fail
  refine (H1.out _ _ _ _ S1.out (by decide)).mono ?_
  rintro e w3 ⟨rfl, h3⟩
  have S2 := Lib.hid h3
  clear h3 S1
  go_wp2_with fail
  refine (H2.out _ _ _ _ S2.out).mono ?_
  rintro e w4 ⟨rfl, h4⟩
  have S3 := Lib.hid h4
  clear h4 S2
  go_wp2_with fail
  refine (H3.out _ _ _ _ S3.out (by decide)).mono ?_
  rintro e w5 ⟨rfl, h5⟩
  have S4 := Lib.hid h5
  clear h5 S3
  go_wp2_with fail
  refine (HFU.out _).mono ?_
  rintro e w6 ⟨rfl, q6⟩
  have S5 := Lib.hid (S4.out.keep q6)
  clear q6 S4
  go_wp2_with fail
  refine (H4.out _ _ _ _ S5.out (by decide)).mono ?_
  rintro e w7 ⟨rfl, h7⟩
  have S6 := Lib.hid h7
  clear h7 S5
  go_wp2_with fail
  refine (HFU.out _).mono ?_
  rintro e w8 ⟨rfl, q8⟩
  have S7 := Lib.hid (S6.out.keep q8)
  clear q8 S6
  go_wp2_with fail
  refine (H5.out _ _ _ _ S7.out (by decide)).mono ?_
  rintro e w9 ⟨rfl, h9⟩
  have S8 := Lib.hid h9
  clear h9 S7
  go_wp2_with fail
  refine (H6.out _ _ _ _ S8.out).mono ?_
  rintro e w10 ⟨rfl, h10⟩
  have S9 := Lib.hid h10
  clear h10 S8
  go_wp2_with fail
  refine (H7.out _ _ _ _ S9.out).mono ?_
  rintro e w11 ⟨v, rfl, ho, q11⟩
  have S10 := Lib.hid (S9.out.keep q11)
  obtain ⟨va, vc, rfl, hva⟩ := owns_value ho
  obtain ⟨g, rfl⟩ := hva (by decide)
  have y0 := owns_cells (Sl.of_owns ho) (by decide) 0 (.int .i64 64) rfl
  have y1 := owns_cells (Sl.of_owns ho) (by decide) 1 (.int .i64 2) rfl
  clear ho q11 S9 hva
  simp only [List.length_singleton]
  go_wp2_with fail
  refine (H8.out _ _ _ _ S10.out).mono ?_
  rintro e w12 ⟨rfl, h12⟩
  have S11 := Lib.hid h12
  clear h12 S10 y0 y1
  go_wp2_with fail
  refine (H9.out _ _ _ _ S11.out (by decide)).mono ?_
  rintro e w13 ⟨rfl, h13⟩
  have S12 := Lib.hid h13
  clear h13 S11
  go_wp2_with fail
  refine (H10.out _ _ _ _ S12.out (by decide)).mono ?_
  rintro e w14 ⟨rfl, h14⟩
  have S13 := Lib.hid h14
  clear h14 S12
  go_wp2_with fail
  refine (H11.out _ _ _ _ S13.out).mono ?_
  rintro e w15 ⟨rfl, h15⟩
  have S14 := Lib.hid h15
  clear h15 S13
  go_wp2_with fail
  refine (H12.out _ _ _ _ S14.out (by decide)).mono ?_
  rintro e w16 ⟨rfl, h16⟩
  have S15 := Lib.hid h16
  clear h16 S14
  go_wp2_with fail
  refine (H13.out _ _ _ _ S15.out).mono ?_
  rintro e w17 ⟨rfl, q17⟩
  have S16 := Lib.hid (S15.out.keep q17)
  clear q17 S15
  go_wp2_with fail
  refine (HFU.out _).mono ?_
  rintro e w18 ⟨rfl, q18⟩
  have S17 := Lib.hid (S16.out.keep q18)
  clear q18 S16
  go_wp2_with fail
  go_ret
  exact ⟨rfl, S17.out.q⟩
end
section
open Go.RowKit
structure Good7 (k : Nat) (σ : StL) : Prop where
  ex : ∃ fr C, StInv (5 + 2 * k) σ fr C
  free : σ.j.d.Free
  n : σ.n = 132
theorem Good7.more {k : Nat} {σ : StL} (h : Good7 k σ) : Good7 (k + 1) σ := by
  obtain ⟨⟨fr, C, hi⟩, hf, hn⟩ := h
  exact ⟨⟨fr, C, stinv_mono hi (by omega)⟩, hf, hn⟩
theorem Good7.num {k : Nat} {σ : StL} (h : Good7 k σ) (hk : k ≤ 1000000) : StNum σ := by
  obtain ⟨⟨fr, C, hi⟩, hf, hn⟩ := h
  exact hi.num (by omega)
theorem Good7.pre {k : Nat} {σ : StL} (h : Good7 k σ) (hk : k ≤ 1000000) : σ.state true = 0 → σ.tx ≠ [] → ComPre σ := by
  obtain ⟨⟨fr, C, hi⟩, hf, hn⟩ := h
  exact commit_pre hi (by omega)
theorem Good7.does {k : Nat} {σ : StL} (h : Good7 k σ) (a : Act7) (hk : a.k < 9) (hk2 : k ≤ 1000000) : Good7 (k + 1) (doesS a σ) := by
  obtain ⟨⟨fr, C, hi⟩, hf, hn⟩ := h
  rcases does_run hi a hk (by omega) with ⟨_, b, c, fr', d⟩ | ⟨_, _, x, _⟩
  · exact ⟨⟨fr', _, by rw [show 5 + 2 * (k + 1) = 5 + 2 * k + 2 by omega]; exact d⟩, c hf, by rw [b]; exact hn⟩
  · exact absurd hf x
theorem Good7.abort {k : Nat} {σ : StL} (h : Good7 k σ) : Good7 k σ.abort := by
  obtain ⟨⟨fr, C, hi⟩, hf, hn⟩ := h
  exact ⟨⟨fr, C, abort_inv hi⟩, by rw [abort_j]; exact hf, by rw [abort_n]; exact hn⟩
theorem good7_start : Good7 0 (startS 132) := by
  obtain ⟨_, _, i0, n0, f0, _⟩ := start_all 132 (by decide) (by decide)
  exact ⟨⟨_, _, i0⟩, f0, n0⟩
theorem Act7_step {w0 w : World} {wb sb b : Nat} {σ : StL} {k : Nat} (h : WAt w0 w wb sb b σ (2 * k)) (hg : Good7 k σ) (hk2 : k ≤ 1000000) (ka : Option Addr) (kn kc : Nat) (a : Act7) (ha : a.Wf) (most : Int) (hk : a.k < 9) :
    Calls Tryz.prog 15 #[ptrV wb, .agg #[.int .i64 a.op, .int .i64 a.at_, .int .i64 a.n, .slice ka kn kc, .int .u8 (a.byte.toNat : Nat)], .int .i64 most] w fun e w' => e = .returned (.tuple #[.int .i64 (doesN a σ), strV (doesT a σ), .int .i64 (doesE a σ)]) ∧ WAt w0 w' wb sb b (doesS a σ) (2 * (k + 1)) ∧ Good7 (k + 1) (doesS a σ) :=
  (Does7_any w0 w wb sb b σ (2 * k) h (hg.num hk2) (hg.pre hk2) (by omega) ka kn kc a ha most hk).mono fun e w' h1 => ⟨h1.1, h1.2, hg.does a hk hk2⟩
def Keeps (w0 : World) (wb : Nat) (w w' : World) : Prop := ∀ a v, (a.block = wb ∨ a.block < w0.heap.size) → w.cell? a = some v → w'.cell? a = some v
section
variable {w0 w : World} {wb sb b : Nat} {σ : StL} {K : Nat}
theorem WAt.callK (h : WAt w0 w wb sb b σ K) : ∃ F : Nat → Prop, StAt w F sb b σ K ∧ ∀ W w' σ' K', Q w W → StAt w' (grow F W w') sb b σ' K' → Turn F W w' → WAt w0 w' wb sb b σ' K' ∧ Keeps w0 wb w w' := by
  obtain ⟨F, hF, hwb, hs, hb, q0⟩ := h
  refine ⟨F, hs, fun W w' σ' K' q h1 t => ?_⟩
  obtain ⟨h2, t2⟩ := StAt.then' q hs.lt h1 t
  refine ⟨⟨grow F w w', grow_low hF q0.size, fun hg => hg.elim hwb (fun hg => by have := hb.lt; omega), h2, t2.blk hb hwb, t2.low hF q0⟩, fun a v hn hc => t2.cell hc (fun hf => ?_)⟩
  rcases hn with hn | hn
  · rw [hn] at hf; exact hwb hf
  · have := hF _ hf; omega
theorem Keeps.of_q {w' : World} (q : Q w w') : Keeps w0 wb w w' := fun a v _ hc => cell_stays q hc
theorem WAt.writeK (h : WAt w0 w wb sb b σ K) (i : Int) (s : Bytes) (hn : StNum σ) (hK : K + 1 ≤ 1000000000000000000) (hs : s.length ≤ 1000000000000) : ∀ W, Q w W →
    Calls Tryz.prog 26 #[ptrV sb, .int .i64 i, strV s] W fun e w' => e = .returned (.int .i64 (σ.write i s).2) ∧ WAt w0 w' wb sb b (σ.write i s).1 (K + 1) ∧ Keeps w0 wb w w' := by
  obtain ⟨F, hs', ht⟩ := h.callK
  exact fun W q => (SWrite_any W F sb b σ K i s (hs'.keep q) hn hK hs).mono fun e w' h1 => ⟨h1.1, ht W w' _ _ q h1.2.1 h1.2.2⟩
theorem WAt.allocK (h : WAt w0 w wb sb b σ K) (c : Int) (hn : StNum σ) (hK : K + 2 ≤ 1000000000000000000) : ∀ W, Q w W →
    Calls Tryz.prog 23 #[ptrV sb, .int .i64 c] W fun e w' => e = .returned (.tuple #[.int .i64 (σ.alloc c).2.1, .int .i64 (σ.alloc c).2.2]) ∧ WAt w0 w' wb sb b (σ.alloc c).1 (K + 2) ∧ Keeps w0 wb w w' := by
  obtain ⟨F, hs', ht⟩ := h.callK
  exact fun W q => (SAlloc_any W F sb b σ K c (hs'.keep q) hn hK).mono fun e w' h1 => ⟨h1.1, ht W w' _ _ q h1.2.1 h1.2.2⟩
theorem WAt.releaseK (h : WAt w0 w wb sb b σ K) (a c : Int) (hn : StNum σ) (hK : K + 2 ≤ 1000000000000000000) : ∀ W, Q w W →
    Calls Tryz.prog 24 #[ptrV sb, .int .i64 a, .int .i64 c] W fun e w' => e = .returned (.int .i64 (σ.release a c).2) ∧ WAt w0 w' wb sb b (σ.release a c).1 (K + 2) ∧ Keeps w0 wb w w' := by
  obtain ⟨F, hs', ht⟩ := h.callK
  exact fun W q => (SRelease_any W F sb b σ K a c (hs'.keep q) hn hK).mono fun e w' h1 => ⟨h1.1, ht W w' _ _ q h1.2.1 h1.2.2⟩
theorem WAt.beginK (h : WAt w0 w wb sb b σ K) : ∀ W, Q w W →
    Calls Tryz.prog 22 #[ptrV sb] W fun e w' => e = .returned (.int .i64 σ.begin.2) ∧ WAt w0 w' wb sb b σ.begin.1 K ∧ Keeps w0 wb w w' := by
  obtain ⟨F, hs', ht⟩ := h.callK
  exact fun W q => (SBegin_any W F sb b σ K (hs'.keep q)).mono fun e w' h1 => ⟨h1.1, ht W w' _ _ q h1.2.1 h1.2.2⟩
theorem WAt.abortK (h : WAt w0 w wb sb b σ K) : ∀ W, Q w W →
    Calls Tryz.prog 18 #[ptrV sb] W fun e w' => e = .returned (.tuple #[]) ∧ WAt w0 w' wb sb b σ.abort K ∧ Keeps w0 wb w w' := by
  obtain ⟨F, hs', ht⟩ := h.callK
  exact fun W q => (SAbort_any W F sb b σ K (hs'.keep q)).mono fun e w' h1 => ⟨h1.1, ht W w' _ _ q (h1.2.1.mono (fun k hk => .inl hk) (fun k hk => hk.elim (h1.2.1.lt k) (fun hk => hk.2)) (Nat.le_refl _)) h1.2.2⟩
theorem WAt.commitK (h : WAt w0 w wb sb b σ K) (hn : StNum σ) (hp : σ.state true = 0 → σ.tx ≠ [] → ComPre σ) : ∀ W, Q w W →
    Calls Tryz.prog 28 #[ptrV sb] W fun e w' => e = .returned (.int .i64 σ.commit.2) ∧ WAt w0 w' wb sb b σ.commit.1 K ∧ Keeps w0 wb w w' := by
  obtain ⟨F, hs', ht⟩ := h.callK
  exact fun W q => (SCommit_any W F sb b σ K (hs'.keep q) hn hp).mono fun e w' h1 => ⟨h1.1, ht W w' _ _ q h1.2.1 h1.2.2⟩
theorem WAt.readK (h : WAt w0 w wb sb b σ K) (i : Int) (hn : StNum σ) (hK : K ≤ 1000000000000000000) : ∀ W, Q w W →
    Calls Tryz.prog 25 #[ptrV sb, .int .i64 i] W fun e w' => e = .returned (.tuple #[strV (σ.read i).1, .int .i64 (σ.read i).2]) ∧ WAt w0 w' wb sb b σ (K + 1) ∧ Keeps w0 wb w w' := by
  obtain ⟨F, hs', ht⟩ := h.callK
  exact fun W q => (SRead_any W F sb b σ K i (hs'.keep q) hn hK).mono fun e w' h1 => ⟨h1.1, ht W w' _ _ q h1.2.1 h1.2.2⟩
theorem WAt.stateK (h : WAt w0 w wb sb b σ K) (hn : StNum σ) (hd : σ.dead = false) (hlow : ∀ i, i < firstD σ.n → bit σ.map1 i = true) (hK : K + 17000000 ≤ 1000000000000000000) : ∀ W, Q w W →
    Calls Tryz.prog 14 #[ptrV sb] W fun e w' => e = .returned (strV σ.tell) ∧ WAt w0 w' wb sb b σ (K + 17000000) ∧ Keeps w0 wb w w' := by
  obtain ⟨F, hs', ht⟩ := h.callK
  exact fun W q => (State7_any W F sb b σ K (hs'.keep q) hn hd hlow hK).mono fun e w' h1 => ⟨h1.1, ht W w' _ _ q h1.2.1 h1.2.2⟩
theorem WAt.freeK (h : WAt w0 w wb sb b σ K) (hn : StNum σ) : ∀ W, Q w W →
    Calls Tryz.prog 20 #[ptrV sb] W fun e w' => e = .returned (.int .i64 (σ.free : Nat)) ∧ Q W w' := by
  obtain ⟨F, _, _, ⟨FJ, FC, p, cb, tb, most, clock, ms, mb, m, ti, hg, _⟩, _⟩ := h
  exact fun W q => SFree_any (hg.keep q) hn
theorem WAt.firstK (h : WAt w0 w wb sb b σ K) (hn : StNum σ) : ∀ W, Q w W →
    Calls Tryz.prog 21 #[ptrV sb] W fun e w' => e = .returned (.int .i64 (firstD σ.n : Nat)) ∧ W = w' := by
  obtain ⟨F, _, _, ⟨FJ, FC, p, cb, tb, most, clock, ms, mb, m, ti, hg, _⟩, _⟩ := h
  exact fun W q => SFirst_any (hg.keep q) hn.max
theorem WAt.usedK (h : WAt w0 w wb sb b σ K) (hn : StNum σ) : ∀ W, Q w W →
    Calls Tryz.prog 19 #[ptrV sb] W fun e w' => ∃ v, e = .returned v ∧ w'.ownsRow W.heap.size 49 2 v (usedR σ.map1 (firstD σ.n) σ.n).length (ext (usedR σ.map1 (firstD σ.n) σ.n)) ∧ Q W w' := by
  obtain ⟨F, _, _, hs, _⟩ := h
  exact fun W q => SUsed_any W F sb b σ K (hs.keep q) hn
end
def SixAt (wb sb ab : Nat) (v0 v1 v2 v3 v4 : Value) (w : World) : Prop := w.cell? ⟨wb, 1, none⟩ = some (ptrV sb) ∧ w.cell? ⟨ab, 0, none⟩ = some v0 ∧ w.cell? ⟨ab, 1, none⟩ = some v1 ∧ w.cell? ⟨ab, 2, none⟩ = some v2 ∧ w.cell? ⟨ab, 3, none⟩ = some v3 ∧ w.cell? ⟨ab, 4, none⟩ = some v4
theorem SixAt.keeps {w0 w w' : World} {wb sb ab : Nat} {v0 v1 v2 v3 v4 : Value} (h : SixAt wb sb ab v0 v1 v2 v3 v4 w) (k : Keeps w0 wb w w') (hl : ab < w0.heap.size) : SixAt wb sb ab v0 v1 v2 v3 v4 w' := by
  obtain ⟨c, z0, z1, z2, z3, z4⟩ := h
  exact ⟨k _ _ (.inl rfl) c, k _ _ (.inr hl) z0, k _ _ (.inr hl) z1, k _ _ (.inr hl) z2, k _ _ (.inr hl) z3, k _ _ (.inr hl) z4⟩
theorem SixAt.q {w w' : World} {wb sb ab : Nat} {v0 v1 v2 v3 v4 : Value} (h : SixAt wb sb ab v0 v1 v2 v3 v4 w) (k : Q w w') : SixAt wb sb ab v0 v1 v2 v3 v4 w' := by
  obtain ⟨c, z0, z1, z2, z3, z4⟩ := h
  exact seven k c z0 z1 z2 z3 z4
end
section
open Go.RowKit
theorem Keeps.wb {w0 w w' : World} {wb i : Nat} {v : Value} (h : Keeps w0 wb w w') (hc : w.cell? ⟨wb, i, none⟩ = some v) : w'.cell? ⟨wb, i, none⟩ = some v := h _ _ (.inl rfl) hc
def ReAt (w0 w : World) (wb sb p b sb2 : Nat) (cs js : Array Value) (σ : StL) (K : Nat) : Prop :=
  ∃ G : Nat → Prop, (∀ k, G k → w0.heap.size ≤ k) ∧ ¬ G wb ∧ ¬ G sb ∧ ¬ G p ∧ StAt w G sb2 b σ K ∧ Blk w wb 35 #[ptrV b, ptrV sb] ∧ Blk w sb 97 cs ∧ Blk w p 103 js ∧ cs[0]? = some (ptrV p) ∧ js[0]? = some (ptrV b) ∧ Q w0 w
section
variable {w0 w : World} {wb sb p b sb2 : Nat} {cs js : Array Value} {σ : StL} {K : Nat}
theorem ReAt.turn (h : ReAt w0 w wb sb p b sb2 cs js σ K) : ∃ G : Nat → Prop, StAt w G sb2 b σ K ∧ ∀ w' σ' K', StAt w' (grow G w w') sb2 b σ' K' ∧ Turn G w w' → ReAt w0 w' wb sb p b sb2 cs js σ' K' := by
  obtain ⟨G, g1, n1, n2, n3, hs, b1, b2, b3, e1, e2, q⟩ := h
  refine ⟨G, hs, fun w' σ' K' ⟨h1, t⟩ => ⟨grow G w w', grow_low g1 q.size, fun hc => hc.elim n1 (fun hc => by have := b1.lt; omega), fun hc => hc.elim n2 (fun hc => by have := b2.lt; omega), fun hc => hc.elim n3 (fun hc => by have := b3.lt; omega), h1, t.blk b1 n1, t.blk b2 n2, t.blk b3 n3, e1, e2, t.low g1 q⟩⟩
theorem ReAt.keep {w' : World} (h : ReAt w0 w wb sb p b sb2 cs js σ K) (q' : Q w w') : ReAt w0 w' wb sb p b sb2 cs js σ K := by
  obtain ⟨G, g1, n1, n2, n3, hs, b1, b2, b3, e1, e2, q⟩ := h
  exact ⟨G, g1, n1, n2, n3, hs.keep q', b1.stays q', b2.stays q', b3.stays q', e1, e2, q.trans q'⟩
theorem ReAt.q (h : ReAt w0 w wb sb p b sb2 cs js σ K) : Q w0 w := by
  obtain ⟨G, g1, n1, n2, n3, hs, b1, b2, b3, e1, e2, q⟩ := h
  exact q
theorem ReAt.cell (h : ReAt w0 w wb sb p b sb2 cs js σ K) : w.cell? ⟨wb, 1, none⟩ = some (ptrV sb) := by
  obtain ⟨G, g1, n1, n2, n3, hs, b1, b2, b3, e1, e2, q⟩ := h
  exact b1.cell 1 _ rfl
theorem ReAt.state (h : ReAt w0 w wb sb p b sb2 cs js σ K) (hn : StNum σ) (hd : σ.dead = false) (hlow : ∀ i, i < firstD σ.n → bit σ.map1 i = true) (hK : K + 17000000 ≤ 1000000000000000000) :
    Calls Tryz.prog 14 #[ptrV sb2] w fun e w' => e = .returned (strV σ.tell) ∧ ReAt w0 w' wb sb p b sb2 cs js σ (K + 17000000) := by
  obtain ⟨G, hs, ht⟩ := h.turn
  exact (State7_any w G sb2 b σ K hs hn hd hlow hK).mono fun e w' h1 => ⟨h1.1, ht _ _ _ h1.2⟩
theorem ReAt.free (h : ReAt w0 w wb sb p b sb2 cs js σ K) (hn : StNum σ) :
    Calls Tryz.prog 20 #[ptrV sb2] w fun e w' => e = .returned (.int .i64 (σ.free : Nat)) ∧ Q w w' := by
  obtain ⟨G, _, _, _, _, ⟨FJ, FC, p, cb, tb, most, clock, ms, mb, m, ti, hg, _⟩, _⟩ := h
  exact SFree_any hg hn
theorem ReAt.first (h : ReAt w0 w wb sb p b sb2 cs js σ K) (hn : StNum σ) :
    Calls Tryz.prog 21 #[ptrV sb2] w fun e w' => e = .returned (.int .i64 (firstD σ.n : Nat)) ∧ w = w' := by
  obtain ⟨G, _, _, _, _, ⟨FJ, FC, p, cb, tb, most, clock, ms, mb, m, ti, hg, _⟩, _⟩ := h
  exact SFirst_any hg hn.max
theorem ReAt.firstOld (h : ReAt w0 w wb sb p b sb2 cs js σ K) (hn : StNum σ) :
    Calls Tryz.prog 21 #[ptrV sb] w fun e w' => e = .returned (.int .i64 (firstD σ.n : Nat)) ∧ w = w' := by
  obtain ⟨G, g1, n1, n2, n3, hs, b1, b2, b3, e1, e2, q⟩ := h
  obtain ⟨G2, hdv, _⟩ := hs.dev
  have c0 := b2.cell 0 _ e1
  have d0 := b3.cell 0 _ e2
  have hblk : Calls Tryz.prog 54 #[ptrV sb] w fun e w' => e = .returned (.int .i64 (σ.n : Nat)) ∧ w = w' := by
    have hb := Blocks_any w G2 b σ.j.d hdv
    have HB := Lib.hid hb
    clear hb hs hdv b1 b2 b3 n1 n2 n3
    show Calls _ _ _ _ fun e w' => e = .returned (.int .i64 (σ.j.d.l.length : Nat)) ∧ w = w'
    go_enter Tryz.func54, Tryz.ntmps54
    go_wp2_with fail
    refine HB.out.mono ?_
    rintro e w1 ⟨rfl, rfl⟩
    go_wp2_with fail
    go_ret
    exact ⟨rfl, rfl⟩
  have hmx := hn.max
  have hf := First_n σ.n w (by omega)
  have HB := Lib.hid hblk; have HF := Lib.hid hf
  clear hblk hf hs hdv b1 b2 b3 n1 n2 n3 c0 d0
  go_enter Tryz.func21, Tryz.ntmps21
  go_wp2_with fail
  refine HB.out.mono ?_
  rintro e w1 ⟨rfl, rfl⟩
  go_wp2_with fail
  refine HF.out.mono ?_
  rintro e w1 ⟨rfl, rfl⟩
  go_wp2_with fail
  go_ret
  exact ⟨rfl, rfl⟩
end
theorem WAt.reopen {w0 w : World} {wb sb b : Nat} {σ : StL} {K : Nat} (h : WAt w0 w wb sb b σ K) (hok : σ.j.d.Ok) (hpl : σ.j.d.p.length ≤ 800000) (hop : OpenOk σ.j.d) (most : Nat) (hm : 64 ≤ most ∧ most ≤ 1024) : ∀ W, Q w W →
    Calls Tryz.prog 17 #[ptrV b, .int .i64 (most : Nat)] W fun e w' => ∃ sb2 p cs js, e = .returned (.tuple #[ptrV sb2, .int .i64 0]) ∧ ReAt w0 w' wb sb p b sb2 cs js (openedS σ.j.d) 0 ∧ Keeps w0 wb w w' := by
  intro W qW
  obtain ⟨F, hF, hwb, ⟨FJ, FC, p, cb, tb, mst, clock, ms, mb, m, ti, hg, hsub, hlt, hcl⟩, hb, q0⟩ := h
  have hlW : ∀ k, FJ k → k < w.heap.size := fun k hk => hlt k (hsub k (.inl hk))
  have hdv := (hg.jr.dev.minus hg.jr.box).keep qW
  refine (SOpen_ok W (fun k => FJ k ∧ k ≠ p) b σ.j.d most hdv (fun k hk => Nat.lt_of_lt_of_le (hlW k hk.1) qW.size) hok (fun _ => hpl) hm hop).mono ?_
  rintro e w' ⟨sb2, rfl, h1, t⟩
  have hsz := qW.size
  have hlow : ∀ k, grow (fun k => FJ k ∧ k ≠ p) W w' k → w0.heap.size ≤ k := fun k hk => hk.elim (fun hk => hF k (hsub k (.inl hk.1))) (fun hk => by have := q0.size; omega)
  have hns : ¬ FJ sb := hg.sF.1
  have hplt : p < w.heap.size := hg.jr.box.lt
  have hslt : sb < w.heap.size := hg.box.lt
  have hwlt : wb < w.heap.size := hb.lt
  refine ⟨sb2, p, _, _, rfl, ⟨grow (fun k => FJ k ∧ k ≠ p) W w', hlow, fun hc => hc.elim (fun hc => hwb (hsub _ (.inl hc.1))) (fun hc => by omega), fun hc => hc.elim (fun hc => hns hc.1) (fun hc => by omega), fun hc => hc.elim (fun hc => hc.2 rfl) (fun hc => by omega), h1, t.blk (hb.stays qW) (fun hc => hwb (hsub _ (.inl hc.1))), t.blk (hg.box.stays qW) (fun hc => hns hc.1), t.blk (hg.jr.box.stays qW) (fun hc => hc.2 rfl), rfl, rfl, t.low (fun k hk => hF k (hsub k (.inl hk.1))) (q0.trans qW)⟩, fun a v hn hc => t.cell (cell_stays qW hc) (fun hf => ?_)⟩
  rcases hn with hn | hn
  · rw [hn] at hf; exact hwb (hsub _ (.inl hf.1))
  · have := hF _ (hsub _ (.inl hf.1)); omega
end
end Go.Proofs.YtnmijegmbomfdaaGreatDoor
