/- Joined texts of one proof: TermsJ, WRef2b, WRef2a, WRef12a. -/
import Derived.Test.YtcblmcbpnakphaaGreatDoorMWDictNToWDictE
import Derived.Test.YtcblmcbpnakphaaGreatDoorMWRef10eToWRef11b
import Derived.Test.YtcblmcbpnakphaaGreatDoorMWCrcToWSegDocs
import Derived.Test.YtcblmcbpnakphaaGreatDoorMWVarsToBld2
import Derived.Test.YtcblmcbpnakphaaGreatDoorMWTokensToWIdxR
import Derived.BigQuiet
set_option linter.unusedSimpArgs false
set_option linter.unusedVariables false
set_option linter.unnecessarySimpa false
/- (TermsJ) Plain: the terms of all documents' texts together, a blank behind each, are the documents' terms. No program in sight. -/
section
namespace Go.Proofs.YtcblmcbpnakphaaGreatDoor
set_option linter.unusedVariables false

theorem decodeN_cut (n m b0 b1 b2 b3 c1 c2 c3 : Nat) (hn : 0 < n) (hm : n < m)
    (h1 : 1 < n → c1 = b1) (h2 : 2 < n → c2 = b2) (h3 : 3 < n → c3 = b3)
    (k1 : n = 1 → c1 = 32) (k2 : n = 2 → c2 = 32) (k3 : n = 3 → c3 = 32) : Lib.decodeN m b0 c1 c2 c3 = Lib.decodeN n b0 b1 b2 b3 := by
  rcases Nat.lt_or_ge 3 n with h | h
  · have e1 := h1 (by omega); have e2 := h2 (by omega); have e3 := h3 (by omega)
    subst e1; subst e2; subst e3
    have a1 : (1 < m) = (1 < n) := propext ⟨fun _ => by omega, fun _ => by omega⟩
    have a2 : (2 < m) = (2 < n) := propext ⟨fun _ => by omega, fun _ => by omega⟩
    have a3 : (3 < m) = (3 < n) := propext ⟨fun _ => by omega, fun _ => by omega⟩
    simp only [Lib.decodeN, a1, a2, a3]
  · rcases Nat.lt_or_ge 2 n with h' | h'
    · have hn3 : n = 3 := by omega
      subst hn3
      have e1 := h1 (by omega); have e2 := h2 (by omega); have e3 := k3 rfl
      subst e1; subst e2; subst e3
      have a1 : (1 < m) = True := by simp; omega
      have a2 : (2 < m) = True := by simp; omega
      simp [Lib.decodeN, a1, a2]
    · rcases Nat.lt_or_ge 1 n with h'' | h''
      · have hn2 : n = 2 := by omega
        subst hn2
        have e1 := h1 (by omega); have e2 := k2 rfl
        subst e1; subst e2
        have a1 : (1 < m) = True := by simp; omega
        simp [Lib.decodeN, a1]
      · have hn1 : n = 1 := by omega
        subst hn1
        have e1 := k1 rfl
        subst e1
        simp [Lib.decodeN]
theorem rune1_cut (a b : Bytes) (h : a ≠ []) : rune1 (a ++ 32 :: b) = rune1 a := by
  have hl : 0 < a.length := List.length_pos_iff.2 h
  have hd : ∀ i, i < a.length → (a ++ 32 :: b).getD i 0 = a.getD i 0 := by
    intro i hi
    simp [List.getD, List.getElem?_append_left hi]
  have hk : (a ++ 32 :: b).getD a.length 0 = 32 := by
    simp [List.getD, List.getElem?_append_right (Nat.le_refl _)]
  have hm : (a ++ 32 :: b).length = a.length + (b.length + 1) := by simp
  have key : Lib.decodeN (a ++ 32 :: b).length ((a ++ 32 :: b).getD 0 0).toNat ((a ++ 32 :: b).getD 1 0).toNat ((a ++ 32 :: b).getD 2 0).toNat ((a ++ 32 :: b).getD 3 0).toNat
      = Lib.decodeN a.length (a.getD 0 0).toNat (a.getD 1 0).toNat (a.getD 2 0).toNat (a.getD 3 0).toNat := by
    rw [hd 0 hl]
    refine decodeN_cut _ _ _ _ _ _ _ _ _ hl (by omega) (fun h1 => by rw [hd 1 h1]) (fun h1 => by rw [hd 2 h1]) (fun h1 => by rw [hd 3 h1]) (fun h1 => ?_) (fun h1 => ?_) (fun h1 => ?_)
    all_goals (rw [h1] at hk; rw [hk]; rfl)
  cases a with
  | nil => exact absurd rfl h
  | cons x a =>
    simp only [rune1, List.cons_append]
    rw [List.cons_append] at key
    rw [key]
theorem chunks_cut (n : Nat) (a b : Bytes) (hn : a.length ≤ n) : chunks (a ++ 32 :: b) = chunks a ++ (32, [32]) :: chunks b := by
  induction n generalizing a with
  | zero =>
    have : a = [] := List.eq_nil_of_length_eq_zero (by omega)
    subst this
    rw [List.nil_append, chunks_cons _ (by simp), chunks_nil, List.nil_append]
    have hr : rune1 (32 :: b) = (32, 1) := by
      simp [rune1, Lib.decodeN, List.getD]
    rw [hr]; rfl
  | succ n ih =>
    by_cases h : a = []
    · subst h; exact ih [] (by simp)
    · have h1 := rune1_size a h
      rw [chunks_cons _ (by simp), chunks_cons a h, rune1_cut a b h, List.take_append_of_le_length h1.2, List.drop_append_of_le_length h1.2, ih _ (by rw [List.length_drop]; omega)]
      rfl
theorem wordsF_cut (x y : List (Int × Bytes)) (c : Int × Bytes) (st : Option Bytes) (hc : wordRune c.1 = false) : wordsF (x ++ c :: y) st = wordsF x st ++ wordsF y none := by
  induction x generalizing st with
  | nil => cases st <;> simp [wordsF, hc]
  | cons z x ih =>
    cases st with
    | none =>
      rw [List.cons_append, wordsF, wordsF]
      split <;> exact ih _
    | some w =>
      rw [List.cons_append, wordsF, wordsF]
      split
      · exact ih _
      · rw [ih]; rfl
theorem wordsL_cut (a b : Bytes) : wordsL (a ++ 32 :: b) = wordsL a ++ wordsL b := by
  unfold wordsL
  rw [chunks_cut a.length a b (Nat.le_refl _), wordsF_cut _ _ _ _ (by decide)]
theorem tokensF_fst (ws : List Bytes) (k m : Nat) : (tokensF ws k).map (·.1) = (tokensF ws m).map (·.1) := by
  induction ws generalizing k m with
  | nil => rfl
  | cons w ws ih =>
    rw [tokensF, tokensF]
    split
    · rw [List.map_cons, List.map_cons, ih (k + 1) (m + 1)]
    · exact ih _ _
theorem tokensF_app (a b : List Bytes) (k : Nat) : (tokensF (a ++ b) k).map (·.1) = (tokensF a k).map (·.1) ++ (tokensF b 0).map (·.1) := by
  induction a generalizing k with
  | nil => rw [List.nil_append]; exact tokensF_fst b k 0
  | cons w a ih =>
    rw [List.cons_append, tokensF, tokensF]
    split
    · rw [List.map_cons, List.map_cons, ih, List.cons_append]
    · exact ih _
/-- the terms of a text, as they stand there -/
def termsIn (s : Bytes) : List Bytes := (tokensL s).map (·.1)
theorem termsIn_cut (a b : Bytes) : termsIn (a ++ 32 :: b) = termsIn a ++ termsIn b := by
  unfold termsIn tokensL
  rw [wordsL_cut, tokensF_app]
theorem termsIn_nil : termsIn [] = [] := rfl
/-- all texts, a blank behind each -/
def allL (l : List DocL) : Bytes := l.flatMap fun d => d.2 ++ [32]
theorem allL_nil : allL [] = [] := rfl
theorem allL_snoc (l : List DocL) (d : DocL) : allL (l ++ [d]) = allL l ++ (d.2 ++ [32]) := by unfold allL; simp
theorem allL_take (l : List DocL) (k : Nat) (h : k < l.length) : allL (l.take (k + 1)) = allL (l.take k) ++ (l[k].2 ++ [32]) := by
  rw [List.take_succ_eq_append_getElem h, allL_snoc]
theorem allL_len (l : List DocL) (h : ∀ d ∈ l, d.2.length ≤ 2100) : (allL l).length ≤ 2101 * l.length := by
  induction l with
  | nil => simp [allL]
  | cons d l ih =>
    have h1 := h d (by simp)
    have h2 := ih (fun x hx => h x (by simp [hx]))
    have e : allL (d :: l) = d.2 ++ [32] ++ allL l := by unfold allL; rw [List.flatMap_cons]
    rw [e, List.length_append, List.length_append, List.length_cons, List.length_nil, List.length_cons]
    omega
theorem termsIn_all (l : List DocL) : termsIn (allL l) = l.flatMap fun d => termsIn d.2 := by
  induction l with
  | nil => rfl
  | cons d l ih =>
    have e : allL (d :: l) = d.2 ++ 32 :: allL l := by unfold allL; rw [List.flatMap_cons]; simp
    rw [e, termsIn_cut, ih, List.flatMap_cons]
/-- the terms of a text, rising, each once -/
def termsT (s : Bytes) : List Bytes := (termsIn s).foldl (fun a t => putL t a) []
theorem termsT_all (l : List DocL) : termsT (allL l) = termsL l := by
  unfold termsT
  rw [termsIn_all]
  rfl
/-- a term put in: behind those below it -/
theorem putL_cut (t : Bytes) (l : List Bytes) (k : Nat) (hk : k ≤ l.length) (h1 : ∀ x ∈ l.take k, lessL x t = true) (h2 : ∀ x, l[k]? = some x → lessL x t = false)
    (hr : l.Pairwise (· < ·)) : putL t l = if l[k]? = some t then l else l.take k ++ t :: l.drop k := by
  induction l generalizing k with
  | nil => simp [putL]
  | cons x l ih =>
    rw [putL]
    obtain ⟨hr1, hr2⟩ := List.pairwise_cons.1 hr
    cases k with
    | zero =>
      have h3 : lessL x t = false := h2 x rfl
      simp only [List.take_zero, List.nil_append, List.drop_zero, List.getElem?_cons_zero, Option.some.injEq]
      by_cases hx : x = t
      · rw [if_pos hx, if_pos hx]
      · rw [if_neg hx, if_neg hx]
        have h4 : lessL t x = true := by
          rw [lessL_iff]
          have h5 : ¬ (x < t) := by rw [← lessL_iff]; simp [h3]
          rcases List.le_iff_lt_or_eq.1 (List.not_lt.1 h5) with h | h
          · exact h
          · exact absurd h.symm hx
        rw [if_pos h4]
    | succ k =>
      have h3 : lessL x t = true := h1 x (by simp)
      have h4 : ¬ x = t := by
        intro e; subst e
        rw [lessL_iff] at h3
        exact absurd h3 (List.lt_irrefl _)
      have h5 : ¬ lessL t x = true := by
        rw [lessL_iff]; rw [lessL_iff] at h3
        intro h6
        exact absurd (List.lt_trans h3 h6) (List.lt_irrefl _)
      rw [if_neg h4, if_neg h5, ih k (by simpa using hk) (fun y hy => h1 y (by simp [hy])) (fun y hy => h2 y (by simpa using hy)) hr2]
      simp only [List.getElem?_cons_succ, List.take_succ_cons, List.drop_succ_cons, List.cons_append]
      split <;> rfl
end Go.Proofs.YtcblmcbpnakphaaGreatDoor
end

/- (WRef2b) codexref2: Fixed, Crc: walked. -/
section
namespace Go.Proofs.YtcblmcbpnakphaaGreatDoor
open Go.RowKit
set_option linter.unusedVariables false

set_option maxRecDepth 20000 in
set_option maxHeartbeats 400000 in
theorem RFixed_any (v : Nat) (w : World) (hv : v < 4294967296) :
    Calls Tryz.prog 27 #[.int .u32 v] w fun e w' => e = .returned (strV (fixedL v)) ∧ Q w w' := by
  have k4 := four_back w (v % 256) (v / 256 % 256) (v / 65536 % 256) (v / 16777216) (by omega) (by omega) (by omega) (by omega) (fixedL v) (by unfold fixedL; rw [show v / 16777216 % 256 = v / 16777216 by omega])
  simp only [Int.natCast_emod, Int.natCast_ediv, Int.cast_ofNat_Int] at k4
  generalize fixedL v = r at *
  go_enter Tryz.func27, Tryz.ntmps27
  go_wp2_with fail
  go_ret
  exact ⟨rfl, Q.alloc _ _⟩
theorem crc_take1 (s : Bytes) (j : Nat) (h : j < s.length) : crcRaw (s.take (j + 1)) = crcTurns 8 (crcRaw (s.take j) ^^^ s[j].toNat) := crc_take [] s j h
set_option maxRecDepth 20000 in
set_option maxHeartbeats 1000000 in
theorem RCrc_any (s : Bytes) (w : World) (hs : s.length ≤ 9223372036854775807) :
    Calls Tryz.prog 28 #[strV s] w fun e w' => e = .returned (.int .u32 (crcL s : Nat)) ∧ w = w' := by
  go_enter Tryz.func28, Tryz.ntmps28
  go_wp2_with fail
  go_loop [3, 4, 5] (fun c i _ => ∃ k : Nat, k ≤ s.length ∧ i = .int .i64 k ∧ c = .int .u32 (crcRaw (s.take k) : Nat)) (fun _ i _ => s.length - (intOf i).toNat)
  case atStart => exact ⟨0, by omega, rfl, rfl⟩
  case round =>
    obtain ⟨k, hk, rfl, rfl⟩ := hrel
    have hlt1 := crcRaw_lt (s.take k)
    by_cases hlt : k < s.length
    · have hst := crc_take1 s k hlt
      have hx : (s[k]).toNat < 256 := UInt8.toNat_lt _
      generalize hy : crcRaw (s.take k) = c at *
      have HY := Lib.hid hy; have HST := Lib.hid hst; clear hy hst
      go_wp2_with fail
      have hxl : c ^^^ (s[k]).toNat < 4294967296 := Nat.xor_lt_two_pow (n := 32) hlt1 (by omega)
      go_loop [5, 3] (fun i d => ∃ m : Nat, m ≤ 8 ∧ i = .int .i64 m ∧ d = .int .u32 (crcTurns m (c ^^^ (s[k]).toNat) : Nat)) (fun i _ => 8 - (intOf i).toNat)
      case atStart => exact ⟨0, by omega, rfl, int_eq (by
        rw [show ((({ data := List.toArray s } : ByteArray)[k]).toNat : Int) % 4294967296 = ((s[k]).toNat : Int) from Int.emod_eq_of_lt (by omega) (by show ((s[k]).toNat : Int) < _; omega)]
        exact u32_xor_nat c (s[k]).toNat hlt1 (by omega))⟩
      case round =>
        obtain ⟨m, hm, rfl, rfl⟩ := hrel
        have htl := crcTurns_lt m _ hxl
        by_cases hml : m < 8
        · have hsc : crcTurns (m + 1) (c ^^^ (s[k]).toNat) = crcTurn (crcTurns m (c ^^^ (s[k]).toNat)) := rfl
          generalize crcTurns m (c ^^^ (s[k]).toNat) = d at *
          have HSC := Lib.hid hsc; clear hsc
          by_cases hodd : d % 2 = 1
          · have ht : crcTurn d = (d / 2) ^^^ 3988292384 := by unfold crcTurn; rw [if_pos hodd]
            have hx2 : bits .xor .u32 (((d / 2 : Nat) : Int)) ((3988292384 : Nat) : Int) = ((d / 2 ^^^ 3988292384 : Nat) : Int) := u32_xor_nat (d / 2) 3988292384 (by omega) (by decide)
            have hoi : ((d : Int) % 2 == 1) = true := by simp; omega
            have HT := Lib.hid ht; have HX2 := Lib.hid hx2
            clear ht hx2 hodd
            go_wp2_with fail
            go_round
            case rel => exact ⟨m + 1, by omega, by go_num, int_eq (by rw [HSC.out, HT.out]; exact HX2.out)⟩
            case measure => simp [intOf]; omega
          · have ht : crcTurn d = d / 2 := by unfold crcTurn; rw [if_neg hodd]
            have hoi : ((d : Int) % 2 == 1) = false := by simp; omega
            have HT := Lib.hid ht
            clear ht hodd
            go_wp2_with fail
            go_round
            case rel => exact ⟨m + 1, by omega, by go_num, int_eq (by rw [HSC.out, HT.out]; rfl)⟩
            case measure => simp [intOf]; omega
        · have hm8 : m = 8 := by omega
          subst hm8
          go_wp2_with fail
          go_round
          case rel => exact ⟨k + 1, by omega, by go_num, by rw [HST.out]⟩
          case measure => simp [intOf]; omega
    · have hkk : k = s.length := by omega
      have hx := crcRaw_lt s
      subst hkk
      rw [List.take_length]
      generalize hc : crcRaw s = c at *
      have HCR := Lib.hid hc; clear hc
      go_wp2_with fail
      go_ret
      refine ⟨ret_int ?_, rfl⟩
      show bits BinOp.xor IntKind.u32 (c : Int) ((4294967295 : Nat) : Int) = _
      rw [u32_xor_nat _ _ hx (by decide)]
      unfold crcL
      rw [HCR.out]
end Go.Proofs.YtcblmcbpnakphaaGreatDoor
end

/- (WRef2a) codexref2: Var, Text: walked. -/
section
namespace Go.Proofs.YtcblmcbpnakphaaGreatDoor
open Go.RowKit
set_option linter.unusedVariables false

theorem tinfoR5 : (Tryz.prog.info? 5).map (fun i => (i.zero, i.size, i.bytes)) = some (some (.int .u8 0), 1, 1) := by kernel_rfl
theorem byteVs_snoc (l : Bytes) (x : Nat) (hx : x < 256) : byteVs l ++ (#[Value.int .u8 (x : Int)] : Array Value).toList = byteVs (l ++ [UInt8.ofNat x]) := by
  rw [byteVs_append]
  simp [byteVs, Lib.byteCells]
  omega
set_option maxRecDepth 100000 in
set_option maxHeartbeats 4000000 in
theorem RVar_any (v : Nat) (w : World) (hv : v < 18446744073709551616) :
    Calls Tryz.prog 61 #[.int .u64 v] w fun e w' => e = .returned (strV (varE v)) ∧ Q w w' := by
  obtain ⟨i0, hi, hz0, hz1, hz2⟩ := info_parts tinfoR5
  go_enter Tryz.func61, Tryz.ntmps61
  go_wp2_with fail
  go_loopw [3, 0] (fun bv x wr => ∃ (y m : Nat) (l : Bytes), x = .int .u64 y ∧ y < 18446744073709551616 ∧ m ≤ 10 ∧ l.length + m ≤ 10 ∧ Hid (0 < m ∧ y < 128 ^ m) ∧ Hid (l ++ varF m y = varE v) ∧ Hid (wr.ownsRow w.heap.size 5 1 bv l.length (byteVs l)) ∧ Hid (Q w wr)) (fun _ x _ => (intOf x).toNat)
  case atStart => exact ⟨v, 10, [], rfl, hv, by omega, by simp, ⟨by omega, lt64 v hv⟩, rfl, World.ownsRow_nil _ _ _ _, Q.refl _⟩
  case round =>
    obtain ⟨y, m, l, rfl, hy, hm, hlm, HM, HL, HO, HQ⟩ := hrel
    obtain ⟨wo, rfl⟩ : ∃ wo : World, wo = wr := ⟨_, rfl⟩
    obtain ⟨hm0, hym⟩ := HM.out
    have hsz : w.heap.size ≤ wo.heap.size := HQ.out.size
    have ho := HO.out
    by_cases hbig : 128 ≤ y
    · obtain ⟨hm1, hvb, hyl⟩ := varF_big m y hbig hym
      have hst : l ++ varF m y = (l ++ [UInt8.ofNat (y % 128 + 128)]) ++ varF (m - 1) (y / 128) := by rw [hvb]; simp
      have HST := Lib.hid hst; have HYL := Lib.hid hyl
      clear hst hvb hyl hym HO
      go_wp2_with (at_builtin; go_must (refine wpList_app wo (by rfl) _ _ 54 (by rfl) w.heap.size 5 _ i0 (.int .u8 0) 1 1 Tryz.underlying54 hi hz0 hz1 hz2 rfl (by decide) (by decide) _ _ _ (by rfl) ho #[.int .u8 (128 + (y : Int) % 128)] (by simp [Act.eval]) rfl ?c1 ?c2 hsz ?_))
      case c1 => simp [Value.oneCell']
      case c2 => omega
      intro g6 cap6 w6 hown6 hg6 hat6 hlt6 hsz6
      have q6 : Q w w6 := grown_below HQ.out ho hg6 (Nat.le_refl _) (by omega)
      rw [show (128 + (y : Int) % 128) = ((y % 128 + 128 : Nat) : Int) by omega, byteVs_snoc _ _ (by omega), show l.length + 1 = (l ++ [UInt8.ofNat (y % 128 + 128)]).length by simp] at hown6
      have HO6 := Lib.hid hown6; have HQ6 := Lib.hid q6
      clear hown6 q6 hg6 hat6 ho
      rw [show l.length + 1 = (l ++ [UInt8.ofNat (y % 128 + 128)]).length by simp]
      generalize hl2 : l ++ [UInt8.ofNat (y % 128 + 128)] = l2 at *
      have hl2l : l2.length = l.length + 1 := by rw [← hl2]; simp
      clear hl2
      go_wp2_with fail
      go_roundw
      case rel => exact ⟨y / 128, m - 1, l2, by go_num, by omega, by omega, by omega, ⟨by omega, HYL.out⟩, by show _ = _; rw [← HST.out]; exact HL.out, HO6, HQ6⟩
      case measure => simp [intOf]; omega
    · have hvs := varF_small m y hm0 (by omega)
      have hend : l ++ [UInt8.ofNat y] = varE v := by rw [← HL.out, hvs]
      have HE := Lib.hid hend
      clear hend hvs hym HO
      go_wp2_with (at_builtin; go_must (refine wpList_app wo (by rfl) _ _ 54 (by rfl) w.heap.size 5 _ i0 (.int .u8 0) 1 1 Tryz.underlying54 hi hz0 hz1 hz2 rfl (by decide) (by decide) _ _ _ (by rfl) ho #[.int .u8 (y : Int)] (by simp [Act.eval]) rfl ?c1 ?c2 hsz ?_))
      case c1 => simp [Value.oneCell']
      case c2 => omega
      intro g6 cap6 w6 hown6 hg6 hat6 hlt6 hsz6
      have q6 : Q w w6 := grown_below HQ.out ho hg6 (Nat.le_refl _) (by omega)
      rw [byteVs_snoc _ _ (by omega), HE.out, show l.length + 1 = (varE v).length by rw [← HE.out]; simp] at hown6
      have hc := row_string hown6
      have HQ6 := Lib.hid q6
      rw [show l.length + 1 = (varE v).length by rw [← HE.out]; simp]
      clear hown6 q6 hg6 hat6 ho
      go_wp2_with fail
      go_ret
      exact ⟨rfl, HQ6.out⟩
theorem RText_any (s : Bytes) (w : World) (hs : s.length ≤ 1000000000000) :
    Calls Tryz.prog 62 #[strV s] w fun e w' => e = .returned (strV (textE s)) ∧ Q w w' := by
  have c := fun W => RVar_any s.length W (by omega)
  have C := Lib.hid c
  have hl := varE_len s.length
  clear c
  go_enter Tryz.func62, Tryz.ntmps62
  go_wp2_with fail
  refine (C.out _).mono ?_
  rintro e w1 ⟨rfl, q1⟩
  have HQ1 := Lib.hid q1
  clear q1 C
  go_wp2_with fail
  go_ret
  exact ⟨congrArg (fun b => Ending.returned (.string b)) (bytes_append _ _), HQ1.out⟩
end Go.Proofs.YtcblmcbpnakphaaGreatDoor
end

/- (WRef12a) codexref12: number, rising, Right: walked (where they are right). -/
section
namespace Go.Proofs.YtcblmcbpnakphaaGreatDoor
open Go.RowKit
set_option linter.unusedVariables false

theorem risingAt (a : Int) (l : List Int) (b : Int) (h : risingI a l b = true) (k : Nat) (hk : k < l.length) : (if k = 0 then a else l.getD (k - 1) 0) < l[k] ∧ l[k] < b ∧ a ≤ (if k = 0 then a else l.getD (k - 1) 0) := by
  induction l generalizing a k with
  | nil => simp at hk
  | cons x l ih =>
    simp only [risingI, Bool.and_eq_true, decide_eq_true_eq] at h
    cases k with
    | zero => exact ⟨by simpa using h.1.1, h.1.2, by simp⟩
    | succ k =>
      have := ih x h.2 k (by simpa using hk)
      have hx := h.1.1
      cases k with
      | zero => simp at this ⊢; exact ⟨this.1, this.2, by omega⟩
      | succ k => simp at this ⊢; exact ⟨this.1, this.2.1, by omega⟩
theorem RPNumber_any (n : Nat) (w : World) (hn : n < 9223372036854775808) :
    Calls Tryz.prog 137 #[.int .i64 (n : Nat)] w fun e w' => e = .returned (strV (varE n)) ∧ Q w w' := by
  have c := fun W => RVar_any n W (by omega)
  have C := Lib.hid c
  have hw : IntKind.u64.wrap (n : Int) = n := IntWalk.u64_in _ (by omega)
  clear c
  go_enter Tryz.func137, Tryz.ntmps137
  go_wp2_with fail
  refine (C.out _).mono ?_
  rintro e w1 ⟨rfl, q1⟩
  have HQ1 := Lib.hid q1
  clear q1 C
  go_wp2_with fail
  go_ret
  exact ⟨rfl, HQ1.out⟩
set_option maxRecDepth 100000 in
set_option maxHeartbeats 4000000 in
theorem RPRising_ok (v : Value) (l : List Int) (b : Int) (w : World) (hv : Ints w v l) (hn : l.length ≤ 1000000000000) (hr : risingI (-1) l b = true) :
    Calls Tryz.prog 136 #[v, .int .i64 b] w fun e w' => e = .returned (.bool true) ∧ Q w w' := by
  obtain ⟨a, cap, rfl, hcell⟩ := hv.value
  have HC := Lib.hid hcell; have HR := Lib.hid hr
  clear hcell hv hr
  go_enter Tryz.func136, Tryz.ntmps136
  go_wp2_with fail
  go_loopw [5] (fun i wr => ∃ k : Nat, k ≤ l.length ∧ i = .int .i64 (k : Nat) ∧ Hid (Q w wr)) (fun i _ => l.length - (intOf i).toNat)
  case atStart => exact ⟨0, by omega, rfl, Q.refl _⟩
  case round =>
    obtain ⟨k, hk, rfl, HQ⟩ := hrel
    obtain ⟨wo, rfl⟩ : ∃ wo : World, wo = wr := ⟨_, rfl⟩
    by_cases hlt : k < l.length
    · obtain ⟨bb, o, rfl, hc⟩ := HC.out (by omega)
      have c0 := cell_stays HQ.out (hc k hlt)
      obtain ⟨r1, r2, r3⟩ := risingAt _ _ _ HR.out k hlt
      have hki : (k : Int) < (l.length : Int) := by omega
      have hk0 : (0 : Int) ≤ (k : Int) := by omega
      by_cases hz : k = 0
      · subst hz
        simp only [if_true] at r1 r3
        simp only [Nat.add_zero] at c0
        clear hc
        generalize l[0] = x at *
        have h1 : decide (x < 0) = false := by simp; omega
        have h2 : decide (b ≤ x) = false := by simp; omega
        go_wp2_with fail
        go_quiet (fail)
        go_wp2_with fail
        go_roundw
        case rel => exact ⟨0 + 1, by omega, by go_num, HQ.out.trans (Q.drewN _ _)⟩
        case measure => simp [intOf]; omega
      · have c1 := cell_stays HQ.out (hc (k - 1) (by omega))
        rw [if_neg hz] at r1 r3
        have e1 : l.getD (k - 1) 0 = l[k - 1] := by rw [List.getD_eq_getElem?_getD, List.getElem?_eq_getElem (by omega)]; rfl
        rw [e1] at r1 r3
        clear hc e1
        generalize l[k - 1] = x' at *
        generalize l[k] = x at *
        have hk1 : (0 : Int) < (k : Int) := by omega
        have hk2 : 0 < k := by omega
        have hk3 : decide (0 < k) = true := by simp; omega
        have h1 : decide (x < 0) = false := by simp; omega
        have h2 : decide (b ≤ x) = false := by simp; omega
        have h3 : decide (x ≤ x') = false := by simp; omega
        have hkk : (k : Int) - 1 = ((k - 1 : Nat) : Int) := by omega
        have hkl : ((k - 1 : Nat) : Int) < (l.length : Int) := by omega
        generalize k - 1 = k1 at *
        go_wp2_with fail
        go_quiet (fail)
        go_wp2_with fail
        go_roundw
        case rel => exact ⟨k + 1, by omega, by go_num, HQ.out.trans (Q.drewN _ _)⟩
        case measure => simp [intOf]; omega
    · have hke : k = l.length := by omega
      subst hke
      go_wp2_with fail
      go_ret
      exact ⟨rfl, HQ.out⟩
end Go.Proofs.YtcblmcbpnakphaaGreatDoor
end
