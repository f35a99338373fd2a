/- Joined texts of one proof: what is needed of Wire, SegSpec, Dev, Wire2, Jrn, Jrn2. -/
set_option linter.unusedSimpArgs false
set_option linter.unusedVariables false
set_option linter.unnecessarySimpa false
set_option maxRecDepth 100000
set_option maxHeartbeats 16000000
namespace Go.Proofs.YtnmijegmbomfdaaGreatDoor
section
abbrev Bytes := List UInt8
def varF : Nat → Nat → Bytes
  | 0, _ => []
  | n + 1, v => if v < 128 then [UInt8.ofNat v] else UInt8.ofNat (v % 128 + 128) :: varF n (v / 128)
def varE (v : Nat) : Bytes := varF 10 v
theorem toNat_ofNat (n : Nat) (h : n < 256) : (UInt8.ofNat n).toNat = n := by
  rw [UInt8.toNat_ofNat']; omega
theorem varF_inj (n u v : Nat) (hu : u < 128 ^ n) (hv : v < 128 ^ n) (r s : Bytes) (h : varF n u ++ r = varF n v ++ s) : u = v ∧ r = s := by
  induction n generalizing u v with
  | zero => simp at hu hv; subst hu; subst hv; simpa [varF] using h
  | succ n ih =>
    rw [varF, varF] at h
    rw [Nat.pow_succ] at hu hv
    by_cases h1 : u < 128 <;> by_cases h2 : v < 128
    · rw [if_pos h1, if_pos h2] at h
      simp only [List.cons_append, List.nil_append, List.cons.injEq] at h
      have := congrArg UInt8.toNat h.1
      rw [toNat_ofNat _ (by omega), toNat_ofNat _ (by omega)] at this
      exact ⟨this, h.2⟩
    · rw [if_pos h1, if_neg h2] at h
      simp only [List.cons_append, List.nil_append, List.cons.injEq] at h
      have := congrArg UInt8.toNat h.1
      rw [toNat_ofNat _ (by omega), toNat_ofNat _ (by omega)] at this
      omega
    · rw [if_neg h1, if_pos h2] at h
      simp only [List.cons_append, List.nil_append, List.cons.injEq] at h
      have := congrArg UInt8.toNat h.1
      rw [toNat_ofNat _ (by omega), toNat_ofNat _ (by omega)] at this
      omega
    · rw [if_neg h1, if_neg h2] at h
      simp only [List.cons_append, List.nil_append, List.cons.injEq] at h
      have := congrArg UInt8.toNat h.1
      rw [toNat_ofNat _ (by omega), toNat_ofNat _ (by omega)] at this
      obtain ⟨e, e2⟩ := ih (u / 128) (v / 128) (by rw [Nat.div_lt_iff_lt_mul (by omega)]; omega) (by rw [Nat.div_lt_iff_lt_mul (by omega)]; omega) h.2
      exact ⟨by omega, e2⟩
theorem lt64 (v : Nat) (h : v < 18446744073709551616) : v < 128 ^ 10 := by
  have : (18446744073709551616 : Nat) ≤ 128 ^ 10 := by decide
  omega
theorem varE_inj (u v : Nat) (hu : u < 18446744073709551616) (hv : v < 18446744073709551616) (r s : Bytes) (h : varE u ++ r = varE v ++ s) : u = v ∧ r = s :=
  varF_inj 10 u v (lt64 u hu) (lt64 v hv) r s h
def IsVar (s : Bytes) (v : Nat) (rest : Bytes) : Prop := v < 18446744073709551616 ∧ s = varE v ++ rest
theorem IsVar.one {s : Bytes} {u v : Nat} {r t : Bytes} (h : IsVar s u r) (k : IsVar s v t) : u = v ∧ r = t :=
  varE_inj u v h.1 k.1 r t (h.2.symm.trans k.2)
def textE (s : Bytes) : Bytes := varE s.length ++ s
def IsText (s t rest : Bytes) : Prop := t.length < 18446744073709551616 ∧ s = textE t ++ rest
theorem IsText.one {s t u r v : Bytes} (h : IsText s t r) (k : IsText s u v) : t = u ∧ r = v := by
  have e := h.2.symm.trans k.2
  unfold textE at e
  rw [List.append_assoc, List.append_assoc] at e
  obtain ⟨e1, e2⟩ := varE_inj _ _ h.1 k.1 _ _ e
  exact List.append_inj e2 e1
def crcTurn (c : Nat) : Nat := if c % 2 = 1 then (c / 2) ^^^ 3988292384 else c / 2
def crcTurns : Nat → Nat → Nat
  | 0, c => c
  | k + 1, c => crcTurn (crcTurns k c)
def crcByte (c : Nat) (b : UInt8) : Nat := crcTurns 8 (c ^^^ b.toNat)
def crcRaw (s : Bytes) : Nat := s.foldl crcByte 4294967295
def crcL (s : Bytes) : Nat := crcRaw s ^^^ 4294967295
def fixedL (v : Nat) : Bytes := [UInt8.ofNat (v % 256), UInt8.ofNat (v / 256 % 256), UInt8.ofNat (v / 65536 % 256), UInt8.ofNat (v / 16777216 % 256)]
theorem crcTurn_lt (c : Nat) (h : c < 4294967296) : crcTurn c < 4294967296 := by
  unfold crcTurn
  split
  · exact Nat.xor_lt_two_pow (n := 32) (by omega) (by decide)
  · omega
theorem crcTurns_lt (k c : Nat) (h : c < 4294967296) : crcTurns k c < 4294967296 := by
  induction k with
  | zero => exact h
  | succ k ih => exact crcTurn_lt _ ih
theorem crcByte_lt (c : Nat) (b : UInt8) (h : c < 4294967296) : crcByte c b < 4294967296 :=
  crcTurns_lt 8 _ (Nat.xor_lt_two_pow (n := 32) h (Nat.lt_trans (UInt8.toNat_lt b) (by decide)))
theorem crcFold_lt (s : Bytes) (c : Nat) (h : c < 4294967296) : s.foldl crcByte c < 4294967296 := by
  induction s generalizing c with
  | nil => exact h
  | cons b s ih => exact ih _ (crcByte_lt c b h)
theorem crcRaw_lt (s : Bytes) : crcRaw s < 4294967296 := crcFold_lt s _ (by decide)
theorem crcL_lt (s : Bytes) : crcL s < 4294967296 := Nat.xor_lt_two_pow (n := 32) (crcRaw_lt s) (by decide)
theorem crcRaw_snoc (s : Bytes) (b : UInt8) : crcRaw (s ++ [b]) = crcByte (crcRaw s) b := by simp [crcRaw]
theorem length_fixedL (v : Nat) : (fixedL v).length = 4 := rfl
theorem crc_take (a p : Bytes) (j : Nat) (h : j < p.length) : crcRaw (a ++ p.take (j + 1)) = crcTurns 8 (crcRaw (a ++ p.take j) ^^^ p[j].toNat) := by
  rw [List.take_succ_eq_append_getElem h, ← List.append_assoc, crcRaw_snoc]; rfl
theorem flat_take (ps : List Bytes) (k : Nat) (h : k < ps.length) : (ps.take (k + 1)).flatten = (ps.take k).flatten ++ ps[k] := by
  rw [List.take_succ_eq_append_getElem h, List.flatten_append]; simp
abbrev WrL := Nat × Bytes
structure DevL where
  l : List Bytes
  p : List WrL
  fuse : Int
  dead : Bool
def lastP : List WrL → Nat → Bytes → Bytes
  | [], _, s => s
  | w :: p, i, s => lastP p i (if w.1 = i then w.2 else s)
def layP (l : List Bytes) (p : List WrL) : List Bytes := p.foldl (fun l w => l.set w.1 w.2) l
def noughtsL : Bytes := List.replicate 256 0
theorem lastP_append (p q : List WrL) (i : Nat) (s : Bytes) : lastP (p ++ q) i s = lastP q i (lastP p i s) := by
  induction p generalizing s with
  | nil => rfl
  | cons w p ih => simp only [List.cons_append, lastP]; exact ih _
theorem lastP_snoc (p : List WrL) (w : WrL) (i : Nat) (s : Bytes) : lastP (p ++ [w]) i s = if w.1 = i then w.2 else lastP p i s := by
  rw [lastP_append]; rfl
theorem lastP_none (p : List WrL) (i : Nat) (s : Bytes) (h : ∀ w ∈ p, w.1 ≠ i) : lastP p i s = s := by
  induction p generalizing s with
  | nil => rfl
  | cons w p ih =>
    rw [lastP, if_neg (h w (List.mem_cons_self ..))]
    exact ih s (fun x hx => h x (List.mem_cons_of_mem _ hx))
theorem lastP_some (p : List WrL) (i : Nat) (s t : Bytes) (h : ∃ w ∈ p, w.1 = i) : lastP p i s = lastP p i t := by
  induction p generalizing s t with
  | nil => obtain ⟨w, hw, _⟩ := h; simp at hw
  | cons w p ih =>
    simp only [lastP]
    by_cases hw : w.1 = i
    · rw [if_pos hw, if_pos hw]
    · rw [if_neg hw, if_neg hw]
      obtain ⟨x, hx, hxi⟩ := h
      rcases List.mem_cons.1 hx with rfl | hx
      · exact absurd hxi hw
      · exact ih s t ⟨x, hx, hxi⟩
theorem lastP_mem (p : List WrL) (i : Nat) (s : Bytes) (h : ∃ w ∈ p, w.1 = i) : ∃ w ∈ p, w.1 = i ∧ lastP p i s = w.2 := by
  induction p generalizing s with
  | nil => obtain ⟨w, hw, _⟩ := h; simp at hw
  | cons w p ih =>
    simp only [lastP]
    by_cases hp : ∃ x ∈ p, x.1 = i
    · obtain ⟨x, hx, h1, h2⟩ := ih (if w.1 = i then w.2 else s) hp
      exact ⟨x, List.mem_cons_of_mem _ hx, h1, h2⟩
    · have hn : ∀ x ∈ p, x.1 ≠ i := fun x hx e => hp ⟨x, hx, e⟩
      rw [lastP_none p i _ hn]
      obtain ⟨x, hx, hxi⟩ := h
      rcases List.mem_cons.1 hx with rfl | hx
      · exact ⟨x, List.mem_cons_self .., hxi, by rw [if_pos hxi]⟩
      · exact absurd hxi (hn x hx)
theorem layP_length (l : List Bytes) (p : List WrL) : (layP l p).length = l.length := by
  unfold layP
  induction p generalizing l with
  | nil => rfl
  | cons w p ih => rw [List.foldl_cons, ih, List.length_set]
theorem layP_get (l : List Bytes) (p : List WrL) (i : Nat) (h : i < l.length) : (layP l p).getD i [] = lastP p i (l.getD i []) := by
  unfold layP
  induction p generalizing l with
  | nil => rfl
  | cons w p ih =>
    rw [List.foldl_cons, ih (l.set w.1 w.2) (by rw [List.length_set]; exact h), lastP]
    congr 1
    by_cases hw : w.1 = i
    · rw [if_pos hw, hw]; simp [h]
    · rw [if_neg hw]; simp [List.getElem?_set_ne hw]
theorem layP_append (l : List Bytes) (p q : List WrL) : layP l (p ++ q) = layP (layP l p) q := by simp [layP]
theorem layP_all (l : List Bytes) (p : List WrL) (hl : ∀ s ∈ l, s.length = 256) (hp : ∀ w ∈ p, w.2.length = 256) : ∀ s ∈ layP l p, s.length = 256 := by
  unfold layP
  induction p generalizing l with
  | nil => exact hl
  | cons w p ih =>
    rw [List.foldl_cons]
    refine ih _ (fun s hs => ?_) (fun x hx => hp x (List.mem_cons_of_mem _ hx))
    rcases List.mem_or_eq_of_mem_set hs with hs | rfl
    · exact hl s hs
    · exact hp w (List.mem_cons_self ..)
namespace DevL
structure Ok (d : DevL) : Prop where
  pos : 0 < d.l.length
  max : d.l.length ≤ 4096
  l : ∀ s ∈ d.l, s.length = 256
  p : ∀ w ∈ d.p, w.1 < d.l.length ∧ w.2.length = 256
  fuse : -1 ≤ d.fuse
  fuse2 : d.fuse ≤ 9223372036854775807
def chk (d : DevL) (i : Int) : Int := if d.dead then 4 else if 0 ≤ i ∧ i < d.l.length then 0 else 2
def get (d : DevL) (i : Nat) : Bytes := lastP d.p i (d.l.getD i [])
def read (d : DevL) (i : Int) : Bytes × Int := if d.chk i = 0 then (d.get i.toNat, 0) else ([], d.chk i)
def turn (d : DevL) : DevL := if d.fuse = 0 then { d with dead := true } else { d with fuse := max (d.fuse - 1) (-1) }
def write (d : DevL) (i : Int) (s : Bytes) : DevL × Int :=
  if d.chk i ≠ 0 then (d, d.chk i) else if s.length ≠ 256 then (d, 3) else if d.fuse = 0 then (d.turn, 4) else ({ d.turn with p := d.p ++ [(i.toNat, s)] }, 0)
def flush (d : DevL) : DevL × Int :=
  if d.dead then (d, 4) else if d.fuse = 0 then (d.turn, 4) else ({ d.turn with l := layP d.l d.p, p := [] }, 0)
def setFuse (d : DevL) (n : Int) : DevL := { d with fuse := max n (-1) }
def crash1 (keep : List Bool) (torn : Int) (cut : Nat) (k : Nat) (l : List Bytes) (w : WrL) : List Bytes :=
  if keep.getD k false then l.set w.1 w.2 else if (k : Int) = torn then l.set w.1 (w.2.take cut ++ (l.getD w.1 []).drop cut) else l
def crashL (keep : List Bool) (torn : Int) (cut : Nat) : Nat → List Bytes → List WrL → List Bytes
  | _, l, [] => l
  | k, l, w :: p => crashL keep torn cut (k + 1) (crash1 keep torn cut k l w) p
def cutN (cut : Int) : Nat := (min (max cut 0) 256).toNat
def crash (d : DevL) (keep : List Bool) (torn cut : Int) : DevL := ⟨crashL keep torn (cutN cut) 0 d.l d.p, [], -1, false⟩
def writes (d : DevL) : List WrL → DevL × Int
  | [] => (d, 0)
  | w :: l => if (d.write w.1 w.2).2 = 0 then (d.write w.1 w.2).1.writes l else d.write w.1 w.2
def new (n : Nat) : DevL := ⟨List.replicate n noughtsL, [], -1, false⟩
theorem new_ok (n : Nat) (h0 : 0 < n) (h1 : n ≤ 4096) : (new n).Ok :=
  ⟨by simpa [new] using h0, by simpa [new] using h1, fun s hs => by rw [List.eq_of_mem_replicate hs]; exact List.length_replicate, fun w hw => by simp [new] at hw, by simp [new], by simp [new]⟩
theorem turn_l (d : DevL) : d.turn.l = d.l ∧ d.turn.p = d.p := by unfold turn; split <;> exact ⟨rfl, rfl⟩
theorem turn_ok {d : DevL} (h : d.Ok) : d.turn.Ok := by
  have hf := h.fuse; have hf2 := h.fuse2
  refine ⟨by rw [(turn_l d).1]; exact h.pos, by rw [(turn_l d).1]; exact h.max, by rw [(turn_l d).1]; exact h.l, by rw [(turn_l d).1, (turn_l d).2]; exact h.p, ?_, ?_⟩ <;> unfold turn <;> split
  · exact hf
  · simp only; omega
  · exact hf2
  · simp only; omega
theorem write_ok {d : DevL} (h : d.Ok) (i : Int) (s : Bytes) : (d.write i s).1.Ok := by
  unfold write
  split
  · exact h
  · rename_i hc
    split
    · exact h
    · rename_i hs
      split
      · exact turn_ok h
      · have ht := turn_ok h
        have hi : 0 ≤ i ∧ i < d.l.length := by
          unfold chk at hc
          cases hd : d.dead <;> simp [hd] at hc
          exact hc
        refine ⟨ht.pos, ht.max, ht.l, fun w hw => ?_, ht.fuse, ht.fuse2⟩
        rcases List.mem_append.1 hw with hw | hw
        · have := ht.p w (by rw [(turn_l d).2]; exact hw)
          exact this
        · rw [List.mem_singleton] at hw
          subst hw
          refine ⟨?_, by simpa using hs⟩
          show i.toNat < d.turn.l.length
          rw [(turn_l d).1]; omega
theorem flush_ok {d : DevL} (h : d.Ok) : d.flush.1.Ok := by
  unfold flush
  split
  · exact h
  · split
    · exact turn_ok h
    · refine ⟨?_, ?_, ?_, fun w hw => by simp at hw, (turn_ok h).fuse, (turn_ok h).fuse2⟩
      · show 0 < (layP d.l d.p).length
        rw [layP_length]; exact h.pos
      · show (layP d.l d.p).length ≤ 4096
        rw [layP_length]; exact h.max
      · exact layP_all _ _ h.l (fun w hw => (h.p w hw).2)
theorem crash1_length (keep : List Bool) (torn : Int) (cut k : Nat) (l : List Bytes) (w : WrL) : (crash1 keep torn cut k l w).length = l.length := by
  unfold crash1; split
  · simp
  · split <;> simp
theorem crashL_length (keep : List Bool) (torn : Int) (cut : Nat) (p : List WrL) : ∀ (k : Nat) (l : List Bytes), (crashL keep torn cut k l p).length = l.length := by
  induction p with
  | nil => intro k l; rfl
  | cons w p ih => intro k l; rw [crashL, ih, crash1_length]
theorem getD_mem_length {l : List Bytes} {i n : Nat} (h : ∀ s ∈ l, s.length = n) (hi : i < l.length) : (l.getD i []).length = n := by
  rw [List.getD_eq_getElem?_getD, List.getElem?_eq_getElem hi]; exact h _ (List.getElem_mem hi)
theorem crash1_all (keep : List Bool) (torn : Int) (cut k : Nat) (l : List Bytes) (w : WrL) (hc : cut ≤ 256) (hl : ∀ s ∈ l, s.length = 256) (hw : w.1 < l.length) (hs : w.2.length = 256) : ∀ s ∈ crash1 keep torn cut k l w, s.length = 256 := by
  intro s h
  unfold crash1 at h
  split at h
  · rcases List.mem_or_eq_of_mem_set h with h | rfl
    · exact hl s h
    · exact hs
  · split at h
    · rcases List.mem_or_eq_of_mem_set h with h | rfl
      · exact hl s h
      · have := getD_mem_length hl hw
        simp only [List.length_append, List.length_take, List.length_drop, hs, this]; omega
    · exact hl s h
theorem crashL_all (keep : List Bool) (torn : Int) (cut : Nat) (hc : cut ≤ 256) (p : List WrL) : ∀ (k : Nat) (l : List Bytes), (∀ s ∈ l, s.length = 256) → (∀ w ∈ p, w.1 < l.length ∧ w.2.length = 256) → ∀ s ∈ crashL keep torn cut k l p, s.length = 256 := by
  induction p with
  | nil => intro k l hl _; exact hl
  | cons w p ih =>
    intro k l hl hp
    rw [crashL]
    exact ih _ _ (crash1_all keep torn cut k l w hc hl (hp w (List.mem_cons_self ..)).1 (hp w (List.mem_cons_self ..)).2) (fun x hx => by rw [crash1_length]; exact hp x (List.mem_cons_of_mem _ hx))
theorem cutN_le (cut : Int) : cutN cut ≤ 256 := by unfold cutN; omega
theorem crash_ok {d : DevL} (h : d.Ok) (keep : List Bool) (torn cut : Int) : (d.crash keep torn cut).Ok := by
  refine ⟨?_, ?_, ?_, fun w hw => by simp [crash] at hw, by simp [crash], by simp [crash]⟩
  · simp only [crash, crashL_length]; exact h.pos
  · simp only [crash, crashL_length]; exact h.max
  · exact crashL_all keep torn _ (cutN_le cut) d.p 0 d.l h.l h.p
theorem writes_ok {d : DevL} (h : d.Ok) (l : List WrL) : (d.writes l).1.Ok := by
  induction l generalizing d with
  | nil => exact h
  | cons w l ih =>
    rw [writes]
    split
    · exact ih (write_ok h _ _)
    · exact write_ok h _ _
theorem write_len (d : DevL) (i : Int) (s : Bytes) : (d.write i s).1.l.length = d.l.length := by
  unfold write
  split
  · rfl
  · split
    · rfl
    · split
      · rw [(turn_l d).1]
      · show d.turn.l.length = _
        rw [(turn_l d).1]
theorem flush_len (d : DevL) : d.flush.1.l.length = d.l.length := by
  unfold flush
  split
  · rfl
  · split
    · rw [(turn_l d).1]
    · exact layP_length _ _
theorem writes_len (d : DevL) (l : List WrL) : (d.writes l).1.l.length = d.l.length := by
  induction l generalizing d with
  | nil => rfl
  | cons w l ih =>
    rw [writes]
    split
    · rw [ih, write_len]
    · exact write_len _ _ _
theorem get_len {d : DevL} (h : d.Ok) (i : Nat) (hi : i < d.l.length) : (d.get i).length = 256 := by
  unfold get
  by_cases hp : ∃ w ∈ d.p, w.1 = i
  · obtain ⟨w, hw, _, e⟩ := lastP_mem d.p i (d.l.getD i []) hp
    rw [e]; exact (h.p w hw).2
  · rw [lastP_none _ _ _ (fun w hw e => hp ⟨w, hw, e⟩)]
    exact getD_mem_length h.l hi
end DevL
def byteN (s : Bytes) (k : Nat) : Nat := (s.getD k 0).toNat
theorem byteN_lt (s : Bytes) (k : Nat) : byteN s k < 256 := UInt8.toNat_lt _
def unfix (s : Bytes) : Nat := byteN s 0 + 256 * byteN s 1 + 65536 * byteN s 2 + 16777216 * byteN s 3
theorem unfix_lt (s : Bytes) : unfix s < 4294967296 := by
  have := byteN_lt s 0; have := byteN_lt s 1; have := byteN_lt s 2; have := byteN_lt s 3
  unfold unfix; omega
theorem unfix_fixed (v : Nat) (r : Bytes) : unfix (fixedL v ++ r) = v % 4294967296 := by
  have h : ∀ n, n < 256 → (UInt8.ofNat n).toNat = n := toNat_ofNat
  unfold unfix
  simp only [byteN, fixedL, List.cons_append, List.nil_append, List.getD_cons_zero, List.getD_cons_succ]
  rw [h _ (by omega), h _ (by omega), h _ (by omega), h _ (by omega)]
  omega
theorem fixedL_mod (v : Nat) : fixedL (v % 4294967296) = fixedL v := by
  unfold fixedL
  rw [show v % 4294967296 % 256 = v % 256 by omega, show v % 4294967296 / 256 % 256 = v / 256 % 256 by omega, show v % 4294967296 / 65536 % 256 = v / 65536 % 256 by omega, show v % 4294967296 / 16777216 % 256 = v / 16777216 % 256 by omega]
def zerosL (n : Nat) : Bytes := List.replicate n 0
theorem zerosL_length (n : Nat) : (zerosL n).length = n := List.length_replicate
def fixedsL (l : List Nat) : Bytes := l.flatMap fixedL
theorem fixedsL_length (l : List Nat) : (fixedsL l).length = 4 * l.length := by
  induction l with
  | nil => rfl
  | cons x l ih => simp only [fixedsL, List.flatMap_cons, List.length_append, List.length_cons] at ih ⊢; rw [ih, length_fixedL]; omega
def magicT : Bytes := [67, 68, 88, 84]
def endT : Bytes := [67, 68, 88, 69]
def bodyL (seq : Nat) (ws : List WrL) : Bytes :=
  magicT ++ (fixedL seq ++ (fixedL (seq / 4294967296) ++ (fixedL ws.length ++ (fixedsL (ws.map (·.1)) ++ zerosL (232 - 4 * ws.length)))))
def dataL (ws : List WrL) : Bytes := (ws.map (·.2)).flatten
def headL (seq : Nat) (ws : List WrL) : Bytes := bodyL seq ws ++ (fixedL (crcL (bodyL seq ws ++ dataL ws)) ++ endT)
def packL (seq : Nat) (ws : List WrL) : List Bytes := headL seq ws :: ws.map (·.2)
def WrOk (ws : List WrL) : Prop := 1 ≤ ws.length ∧ ws.length ≤ 48 ∧ ∀ w ∈ ws, w.1 < 4096 ∧ w.2.length = 256
theorem bodyL_length (seq : Nat) (ws : List WrL) (h : ws.length ≤ 48) : (bodyL seq ws).length = 248 := by
  simp only [bodyL, List.length_append, length_fixedL, fixedsL_length, zerosL_length, List.length_map]
  have : magicT.length = 4 := rfl
  omega
theorem headL_length (seq : Nat) (ws : List WrL) (h : ws.length ≤ 48) : (headL seq ws).length = 256 := by
  simp only [headL, List.length_append, length_fixedL, bodyL_length seq ws h]
  rfl
def numsL : Nat → Bytes → Option (List Nat × Bytes)
  | 0, s => some ([], s)
  | n + 1, s => if unfix s < 4096 then (numsL n (s.drop 4)).map fun r => (unfix s :: r.1, r.2) else none
def toHeadL (b : Bytes) : Option (Nat × List Nat) :=
  if b.length = 256 ∧ b.take 4 = magicT ∧ b.drop 252 = endT then
    let n := unfix (b.drop 12)
    if 1 ≤ n ∧ n ≤ 48 then
      match numsL n ((b.drop 16).take 232) with
      | some (l, r) => if r.all (· == 0) then some (unfix (b.drop 8) * 4294967296 + unfix (b.drop 4), l) else none
      | none => none
    else none
  else none
def unpackL (l : List Bytes) : Option (Nat × List WrL) :=
  match l with
  | [] => none
  | b :: rest =>
    match toHeadL b with
    | none => none
    | some (seq, at_) =>
      if rest.length < at_.length ∨ ∃ s ∈ rest.take at_.length, s.length ≠ 256 then none
      else if fixedL (crcL (b.take 248 ++ (rest.take at_.length).flatten)) = (b.drop 248).take 4 then some (seq, at_.zip rest) else none
theorem numsL_fixeds (l : List Nat) (r : Bytes) (h : ∀ x ∈ l, x < 4096) : numsL l.length (fixedsL l ++ r) = some (l, r) := by
  induction l with
  | nil => rfl
  | cons x l ih =>
    have hx := h x (List.mem_cons_self ..)
    have e : fixedsL (x :: l) ++ r = fixedL x ++ (fixedsL l ++ r) := by simp [fixedsL, List.append_assoc]
    have hd : (fixedL x ++ (fixedsL l ++ r)).drop 4 = fixedsL l ++ r := List.drop_left' (length_fixedL x)
    rw [List.length_cons, numsL, e, unfix_fixed, if_pos (by omega), hd, ih (fun y hy => h y (List.mem_cons_of_mem _ hy))]
    simp only [Option.map_some]
    rw [Nat.mod_eq_of_lt (by omega)]
theorem drop_app (a b : Bytes) (n : Nat) (h : a.length = n) : (a ++ b).drop n = b := List.drop_left' h
theorem take_app (a b : Bytes) (n : Nat) (h : a.length = n) : (a ++ b).take n = a := List.take_left' h
theorem drop_more (a b : Bytes) (n k : Nat) (h : a.length = n) : (a ++ b).drop (n + k) = b.drop k := by rw [← List.drop_drop, drop_app a b n h]
theorem toHead_head (seq : Nat) (hs : seq < 18446744073709551616) (ws : List WrL) (h : WrOk ws) : toHeadL (headL seq ws) = some (seq, ws.map (·.1)) := by
  obtain ⟨h1, h2, h3⟩ := h
  have hb := bodyL_length seq ws h2
  have hl := headL_length seq ws h2
  have m4 : magicT.length = 4 := rfl
  have e4 : (headL seq ws).drop 4 = fixedL seq ++ (fixedL (seq / 4294967296) ++ (fixedL ws.length ++ (fixedsL (ws.map (·.1)) ++ zerosL (232 - 4 * ws.length)))) ++ (fixedL (crcL (bodyL seq ws ++ dataL ws)) ++ endT) := by
    rw [headL, bodyL, List.append_assoc magicT, drop_app _ _ _ m4]
  have e8 : (headL seq ws).drop 8 = fixedL (seq / 4294967296) ++ (fixedL ws.length ++ (fixedsL (ws.map (·.1)) ++ zerosL (232 - 4 * ws.length))) ++ (fixedL (crcL (bodyL seq ws ++ dataL ws)) ++ endT) := by
    rw [show (8 : Nat) = 4 + 4 from rfl, ← List.drop_drop, e4, List.append_assoc (fixedL seq), drop_app _ _ _ (length_fixedL _)]
  have e12 : (headL seq ws).drop 12 = fixedL ws.length ++ (fixedsL (ws.map (·.1)) ++ zerosL (232 - 4 * ws.length)) ++ (fixedL (crcL (bodyL seq ws ++ dataL ws)) ++ endT) := by
    rw [show (12 : Nat) = 8 + 4 from rfl, ← List.drop_drop, e8, List.append_assoc (fixedL (seq / _)), drop_app _ _ _ (length_fixedL _)]
  have e16 : (headL seq ws).drop 16 = (fixedsL (ws.map (·.1)) ++ zerosL (232 - 4 * ws.length)) ++ (fixedL (crcL (bodyL seq ws ++ dataL ws)) ++ endT) := by
    rw [show (16 : Nat) = 12 + 4 from rfl, ← List.drop_drop, e12, List.append_assoc (fixedL ws.length), drop_app _ _ _ (length_fixedL _)]
  have hz : (fixedsL (ws.map (·.1)) ++ zerosL (232 - 4 * ws.length)).length = 232 := by
    simp only [List.length_append, fixedsL_length, zerosL_length, List.length_map]; omega
  have et : (headL seq ws).take 4 = magicT := by rw [headL, bodyL, List.append_assoc magicT, take_app _ _ _ m4]
  have ee : (headL seq ws).drop 252 = endT := by
    rw [headL, show (252 : Nat) = 248 + 4 from rfl, drop_more _ _ _ _ hb, drop_app _ _ _ (length_fixedL _)]
  unfold toHeadL
  rw [if_pos ⟨hl, et, ee⟩]
  simp only []
  rw [e12, List.append_assoc (fixedL ws.length), unfix_fixed, Nat.mod_eq_of_lt (by omega), if_pos ⟨h1, h2⟩, e16, take_app _ _ _ hz]
  have hn := numsL_fixeds (ws.map (·.1)) (zerosL (232 - 4 * ws.length)) (fun x hx => by
    obtain ⟨w, hw, rfl⟩ := List.mem_map.1 hx
    exact (h3 w hw).1)
  rw [List.length_map] at hn
  rw [hn]
  simp only []
  rw [if_pos (by simp [zerosL]), e8, List.append_assoc (fixedL (seq / _)), unfix_fixed, e4, List.append_assoc (fixedL seq), unfix_fixed]
  congr 2
  omega
theorem zip_maps (ws : List WrL) (r : List Bytes) : (ws.map (·.1)).zip (ws.map (·.2) ++ r) = ws := by
  induction ws with
  | nil => rfl
  | cons w ws ih => simp [ih]
theorem unpack_pack (seq : Nat) (hs : seq < 18446744073709551616) (ws : List WrL) (h : WrOk ws) (r : List Bytes) : unpackL (packL seq ws ++ r) = some (seq, ws) := by
  obtain ⟨h1, h2, h3⟩ := h
  have ht : (ws.map (·.2) ++ r).take (ws.map (·.1)).length = ws.map (·.2) := by rw [List.length_map]; exact List.take_left' (by simp)
  unfold unpackL packL
  simp only [List.cons_append]
  rw [toHead_head seq hs ws ⟨h1, h2, h3⟩]
  simp only []
  rw [if_neg, if_pos, zip_maps]
  · rw [ht, headL, take_app _ _ _ (bodyL_length seq ws h2), drop_app _ _ _ (bodyL_length seq ws h2), take_app _ _ _ (length_fixedL _), dataL]
  · rintro (hc | ⟨s, hs, hne⟩)
    · simp at hc
      omega
    · rw [ht] at hs
      obtain ⟨w, hw, rfl⟩ := List.mem_map.1 hs
      exact hne (h3 w hw).2
theorem unpack_none (b : Bytes) (r : List Bytes) (h : b.drop 252 ≠ endT) : unpackL (b :: r) = none := by
  have e : toHeadL b = none := by
    unfold toHeadL
    rw [if_neg (fun h' => h h'.2.2)]
  unfold unpackL
  simp only [e]
structure SlotL where
  e : Nat
  s : Nat
  log : Nat
  place : Nat
deriving DecidableEq
def magicS : Bytes := [67, 68, 88, 83]
def slotH (s : SlotL) : Bytes := magicS ++ (fixedL s.e ++ (fixedL (s.e / 4294967296) ++ (fixedL s.s ++ (fixedL (s.s / 4294967296) ++ (fixedL s.log ++ (fixedL s.place ++ zerosL 100))))))
def slotT (s : SlotL) : Bytes := slotH s ++ slotH s
theorem slotH_length (s : SlotL) : (slotH s).length = 128 := by
  simp only [slotH, List.length_append, length_fixedL, zerosL_length]; rfl
theorem slotT_length (s : SlotL) : (slotT s).length = 256 := by simp only [slotT, List.length_append, slotH_length]
def slotOf (t : Bytes) : SlotL :=
  ⟨unfix (t.drop 8) * 4294967296 + unfix (t.drop 4), unfix (t.drop 16) * 4294967296 + unfix (t.drop 12), unfix (t.drop 20), unfix (t.drop 24)⟩
def toSlotL (t : Bytes) (n : Nat) : Option SlotL :=
  if 50 ≤ (slotOf t).log ∧ (slotOf t).log + 3 ≤ n ∧ (slotOf t).place < (slotOf t).log ∧ slotT (slotOf t) = t then some (slotOf t) else none
structure SlotL.Ok (s : SlotL) : Prop where
  he : s.e < 18446744073709551616
  hs : s.s < 18446744073709551616
  hlog : s.log < 4294967296
  hplace : s.place < 4294967296
theorem slotOf_h (s : SlotL) (h : s.Ok) (r : Bytes) : slotOf (slotH s ++ r) = s := by
  have m4 : magicS.length = 4 := rfl
  have e4 : (slotH s ++ r).drop 4 = fixedL s.e ++ ((fixedL (s.e / 4294967296) ++ (fixedL s.s ++ (fixedL (s.s / 4294967296) ++ (fixedL s.log ++ (fixedL s.place ++ zerosL 100))))) ++ r) := by
    rw [slotH, List.append_assoc magicS, drop_app _ _ _ m4, List.append_assoc]
  have e8 : (slotH s ++ r).drop 8 = fixedL (s.e / 4294967296) ++ ((fixedL s.s ++ (fixedL (s.s / 4294967296) ++ (fixedL s.log ++ (fixedL s.place ++ zerosL 100)))) ++ r) := by
    rw [show (8 : Nat) = 4 + 4 from rfl, ← List.drop_drop, e4, drop_app _ _ _ (length_fixedL _), List.append_assoc]
  have e12 : (slotH s ++ r).drop 12 = fixedL s.s ++ ((fixedL (s.s / 4294967296) ++ (fixedL s.log ++ (fixedL s.place ++ zerosL 100))) ++ r) := by
    rw [show (12 : Nat) = 8 + 4 from rfl, ← List.drop_drop, e8, drop_app _ _ _ (length_fixedL _), List.append_assoc]
  have e16 : (slotH s ++ r).drop 16 = fixedL (s.s / 4294967296) ++ ((fixedL s.log ++ (fixedL s.place ++ zerosL 100)) ++ r) := by
    rw [show (16 : Nat) = 12 + 4 from rfl, ← List.drop_drop, e12, drop_app _ _ _ (length_fixedL _), List.append_assoc]
  have e20 : (slotH s ++ r).drop 20 = fixedL s.log ++ ((fixedL s.place ++ zerosL 100) ++ r) := by
    rw [show (20 : Nat) = 16 + 4 from rfl, ← List.drop_drop, e16, drop_app _ _ _ (length_fixedL _), List.append_assoc]
  have e24 : (slotH s ++ r).drop 24 = fixedL s.place ++ (zerosL 100 ++ r) := by
    rw [show (24 : Nat) = 20 + 4 from rfl, ← List.drop_drop, e20, drop_app _ _ _ (length_fixedL _), List.append_assoc]
  obtain ⟨h1, h2, h3, h4⟩ := h
  unfold slotOf
  rw [e4, e8, e12, e16, e20, e24, unfix_fixed, unfix_fixed, unfix_fixed, unfix_fixed, unfix_fixed, unfix_fixed]
  cases s
  simp only at *
  congr 1 <;> omega
theorem toSlot_text (s : SlotL) (h : s.Ok) (n : Nat) (h1 : 50 ≤ s.log) (h2 : s.log + 3 ≤ n) (h3 : s.place < s.log) : toSlotL (slotT s) n = some s := by
  have e : slotOf (slotT s) = s := slotOf_h s h _
  unfold toSlotL
  rw [e, if_pos ⟨h1, h2, h3, rfl⟩]
theorem toSlot_some {t : Bytes} {n : Nat} {s : SlotL} (h : toSlotL t n = some s) : slotT s = t ∧ 50 ≤ s.log ∧ s.log + 3 ≤ n ∧ s.place < s.log := by
  unfold toSlotL at h
  split at h
  · rename_i hc
    injection h with h
    subst h
    exact ⟨hc.2.2.2, hc.1, hc.2.1, hc.2.2.1⟩
  · exact absurd h (by simp)
theorem slotOf_ok (t : Bytes) : (slotOf t).Ok := by
  have h1 := unfix_lt (t.drop 4); have h2 := unfix_lt (t.drop 8); have h3 := unfix_lt (t.drop 12); have h4 := unfix_lt (t.drop 16)
  refine ⟨?_, ?_, unfix_lt _, unfix_lt _⟩ <;> simp only [slotOf] <;> omega
theorem toSlot_ok {t : Bytes} {n : Nat} {s : SlotL} (h : toSlotL t n = some s) : s.Ok := by
  unfold toSlotL at h
  split at h
  · injection h with h
    subst h
    exact slotOf_ok t
  · exact absurd h (by simp)
theorem toSlot_torn (s : SlotL) (h : s.Ok) (t : Bytes) (ht : t.length = 256) (c : Nat) (n : Nat) (r : SlotL) (hr : toSlotL ((slotT s).take c ++ t.drop c) n = some r) :
    (r = s ∧ (slotT s).take c ++ t.drop c = slotT s) ∨ (slotH r = t.drop 128) := by
  obtain ⟨he, _⟩ := toSlot_some hr
  have hro := toSlot_ok hr
  by_cases hc : 128 ≤ c
  · left
    have hh : slotH r = slotH s := by
      have h1 := congrArg (List.take 128) he
      rw [slotT, take_app _ _ _ (slotH_length r)] at h1
      rw [h1, List.take_append_of_le_length (by rw [List.length_take, slotT_length]; omega), List.take_take, Nat.min_eq_left hc, slotT, take_app _ _ _ (slotH_length s)]
    have e : r = s := by
      have h1 := slotOf_h r hro []
      rw [hh, slotOf_h s h []] at h1
      exact h1.symm
    subst e
    exact ⟨rfl, he.symm⟩
  · right
    have h1 := congrArg (List.drop 128) he
    rw [slotT, drop_app _ _ _ (slotH_length r)] at h1
    rw [h1, List.drop_append, List.length_take, slotT_length, List.drop_drop]
    rw [List.drop_of_length_le (by rw [List.length_take, slotT_length]; omega), List.nil_append]
    congr 1; omega
abbrev at' (l : List Bytes) (i : Nat) : Bytes := l.getD i []
def tornW (l : List Bytes) (w : WrL) (c : Nat) : List Bytes := l.set w.1 (w.2.take c ++ (at' l w.1).drop c)
inductive Img : List Bytes → List WrL → List Bytes → Prop
  | nil (l : List Bytes) : Img l [] l
  | cons {l l' : List Bytes} {w : WrL} {p : List WrL} (c : Nat) : Img (tornW l w c) p l' → Img l (w :: p) l'
theorem tornW_length (l : List Bytes) (w : WrL) (c : Nat) : (tornW l w c).length = l.length := by simp [tornW]
theorem tornW_get (l : List Bytes) (w : WrL) (c i : Nat) (hw : w.1 < l.length) : at' (tornW l w c) i = if w.1 = i then w.2.take c ++ (at' l i).drop c else at' l i := by
  unfold tornW at'
  by_cases h : w.1 = i
  · subst h; rw [if_pos rfl, List.getD_eq_getElem?_getD, List.getElem?_set_self hw]; rfl
  · rw [if_neg h, List.getD_eq_getElem?_getD, List.getElem?_set_ne h, List.getD_eq_getElem?_getD]
theorem tornW_all (l : List Bytes) (w : WrL) (c : Nat) (hl : ∀ s ∈ l, s.length = 256) (hw : w.1 < l.length) (hs : w.2.length = 256) : ∀ s ∈ tornW l w c, s.length = 256 := by
  intro s h
  rcases List.mem_or_eq_of_mem_set h with h | rfl
  · exact hl s h
  · have := DevL.getD_mem_length hl hw
    simp only [List.length_append, List.length_take, List.length_drop, hs, this]; omega
theorem Img.len {l l' : List Bytes} {p : List WrL} (h : Img l p l') : l'.length = l.length := by
  induction h with
  | nil l => rfl
  | cons c _ ih => rw [ih, tornW_length]
theorem Img.all {l l' : List Bytes} {p : List WrL} (h : Img l p l') (hl : ∀ s ∈ l, s.length = 256) (hp : ∀ w ∈ p, w.1 < l.length ∧ w.2.length = 256) : ∀ s ∈ l', s.length = 256 := by
  induction h with
  | nil l => exact hl
  | cons c _ ih =>
    refine ih (tornW_all _ _ _ hl (hp _ (List.mem_cons_self ..)).1 (hp _ (List.mem_cons_self ..)).2) (fun x hx => ?_)
    rw [tornW_length]; exact hp x (List.mem_cons_of_mem _ hx)
theorem Img.pres {l l' : List Bytes} {p : List WrL} (h : Img l p l') (i : Nat) (Pd : Bytes → Prop) (hl : ∀ s ∈ l, s.length = 256) (hi : i < l.length) (hp : ∀ w ∈ p, w.1 < l.length ∧ w.2.length = 256)
    (hk : ∀ w ∈ p, w.1 = i → ∀ b c, Pd b → b.length = 256 → Pd (w.2.take c ++ b.drop c)) (h0 : Pd (at' l i)) : Pd (at' l' i) := by
  induction h with
  | nil l => exact h0
  | @cons l l' w p c _ ih =>
    have hw := hp w (List.mem_cons_self ..)
    refine ih (tornW_all _ _ _ hl hw.1 hw.2) (by rw [tornW_length]; exact hi) (fun x hx => by rw [tornW_length]; exact hp x (List.mem_cons_of_mem _ hx)) (fun x hx => hk x (List.mem_cons_of_mem _ hx)) ?_
    rw [tornW_get _ _ _ _ hw.1]
    by_cases h : w.1 = i
    · rw [if_pos h]; exact hk w (List.mem_cons_self ..) h _ _ h0 (DevL.getD_mem_length hl hi)
    · rw [if_neg h]; exact h0
theorem Img.same {l l' : List Bytes} {p : List WrL} (h : Img l p l') (i : Nat) (hp : ∀ w ∈ p, w.1 < l.length) (hn : ∀ w ∈ p, w.1 ≠ i) : at' l' i = at' l i := by
  induction h with
  | nil l => rfl
  | @cons l l' w p c _ ih =>
    rw [ih (fun x hx => by rw [tornW_length]; exact hp x (List.mem_cons_of_mem _ hx)) (fun x hx => hn x (List.mem_cons_of_mem _ hx)), tornW_get _ _ _ _ (hp w (List.mem_cons_self ..)), if_neg (hn w (List.mem_cons_self ..))]
theorem Img.split {l l' : List Bytes} {p q : List WrL} (h : Img l (p ++ q) l') : ∃ l1, Img l p l1 ∧ Img l1 q l' := by
  induction p generalizing l with
  | nil => exact ⟨l, .nil l, h⟩
  | cons w p ih =>
    cases h with
    | cons c h =>
      obtain ⟨l1, h1, h2⟩ := ih h
      exact ⟨l1, .cons c h1, h2⟩
theorem Img.one {l l' : List Bytes} {w : WrL} (h : Img l [w] l') : ∃ c, l' = tornW l w c := by
  cases h with
  | cons c h => cases h; exact ⟨c, rfl⟩
theorem set_at (l : List Bytes) (i : Nat) (h : i < l.length) : l.set i (at' l i) = l := by
  unfold at'; rw [List.getD_eq_getElem?_getD, List.getElem?_eq_getElem h, Option.getD_some, List.set_getElem_self]
theorem crash1_torn (keep : List Bool) (torn : Int) (cut k : Nat) (l : List Bytes) (w : WrL) (hl : ∀ s ∈ l, s.length = 256) (hw : w.1 < l.length) (hs : w.2.length = 256) : ∃ c, DevL.crash1 keep torn cut k l w = tornW l w c := by
  unfold DevL.crash1
  split
  · refine ⟨256, ?_⟩
    unfold tornW
    rw [List.take_of_length_le (by omega), List.drop_of_length_le (by rw [DevL.getD_mem_length hl hw]; exact Nat.le_refl _), List.append_nil]
  · split
    · exact ⟨cut, rfl⟩
    · refine ⟨0, ?_⟩
      unfold tornW
      rw [List.take_zero, List.nil_append, List.drop_zero, set_at l _ hw]
theorem crashL_img (keep : List Bool) (torn : Int) (cut : Nat) (p : List WrL) : ∀ (k : Nat) (l : List Bytes), (∀ s ∈ l, s.length = 256) → (∀ w ∈ p, w.1 < l.length ∧ w.2.length = 256) → Img l p (DevL.crashL keep torn cut k l p) := by
  induction p with
  | nil => intro k l _ _; exact .nil l
  | cons w p ih =>
    intro k l hl hp
    have hw := hp w (List.mem_cons_self ..)
    obtain ⟨c, hc⟩ := crash1_torn keep torn cut k l w hl hw.1 hw.2
    rw [DevL.crashL, hc]
    exact .cons c (ih _ _ (tornW_all _ _ _ hl hw.1 hw.2) (fun x hx => by rw [tornW_length]; exact hp x (List.mem_cons_of_mem _ hx)))
theorem crash_img {d : DevL} (h : d.Ok) (keep : List Bool) (torn cut : Int) : Img d.l d.p (d.crash keep torn cut).l := crashL_img keep torn _ d.p 0 d.l h.l h.p
def logAt (s : SlotL) (k : Nat) : Nat := 2 + (s.place + k) % s.log
theorem logAt_lt (s : SlotL) (k : Nat) (h : 0 < s.log) : 2 ≤ logAt s k ∧ logAt s k < 2 + s.log := by
  have := Nat.mod_lt (s.place + k) h; unfold logAt; omega
theorem logAt_inj (s : SlotL) (hp : s.place < s.log) (i j : Nat) (hi : i < s.log) (hj : j < s.log) (h : logAt s i = logAt s j) : i = j := by
  unfold logAt at h
  have h' : (s.place + i) % s.log = (s.place + j) % s.log := by omega
  have e : ∀ k, k < s.log → (s.place + k) % s.log = if s.place + k < s.log then s.place + k else s.place + k - s.log := fun k hk => by
    split
    · exact Nat.mod_eq_of_lt (by assumption)
    · rw [Nat.mod_eq_sub_mod (by omega), Nat.mod_eq_of_lt (by omega)]
  rw [e i hi, e j hj] at h'
  split at h' <;> split at h' <;> omega
def usedF (u : Nat) (fr : List (List WrL)) : Nat := fr.foldl (fun u ws => u + ws.length + 1) u
theorem usedF_cons (u : Nat) (ws : List WrL) (fr : List (List WrL)) : usedF u (ws :: fr) = usedF (u + ws.length + 1) fr := rfl
theorem usedF_snoc (u : Nat) (fr : List (List WrL)) (ws : List WrL) : usedF u (fr ++ [ws]) = usedF u fr + ws.length + 1 := by simp [usedF]
theorem usedF_le (u : Nat) (fr : List (List WrL)) : u ≤ usedF u fr := by
  induction fr generalizing u with
  | nil => exact Nat.le_refl _
  | cons ws fr ih => rw [usedF_cons]; have := ih (u + ws.length + 1); omega
def Chain (l : List Bytes) (s : SlotL) : Nat → Nat → List (List WrL) → Prop
  | u, q, [] => u < s.log ∧ (at' l (logAt s u)).drop 252 ≠ endT
  | u, q, ws :: fr => WrOk ws ∧ (∀ w ∈ ws, 2 + s.log ≤ w.1 ∧ w.1 < l.length) ∧ u + ws.length + 1 < s.log ∧
    (∀ i, i ≤ ws.length → at' l (logAt s (u + i)) = (packL q ws).getD i []) ∧ Chain l s (u + ws.length + 1) (q + 1) fr
theorem Chain.used {l : List Bytes} {s : SlotL} : ∀ {fr : List (List WrL)} {u q : Nat}, Chain l s u q fr → usedF u fr < s.log
  | [], u, q, h => h.1
  | ws :: fr, u, q, h => by rw [usedF_cons]; exact h.2.2.2.2.used
theorem Chain.end {l : List Bytes} {s : SlotL} : ∀ {fr : List (List WrL)} {u q : Nat}, Chain l s u q fr → (at' l (logAt s (usedF u fr))).drop 252 ≠ endT
  | [], u, q, h => h.2
  | ws :: fr, u, q, h => by rw [usedF_cons]; exact h.2.2.2.2.end
theorem Chain.ok {l : List Bytes} {s : SlotL} : ∀ {fr : List (List WrL)} {u q : Nat}, Chain l s u q fr → ∀ ws ∈ fr, WrOk ws ∧ ∀ w ∈ ws, 2 + s.log ≤ w.1 ∧ w.1 < l.length
  | [], u, q, h => fun ws hws => by simp at hws
  | x :: fr, u, q, h => fun ws hws => by
    rcases List.mem_cons.1 hws with rfl | hws
    · exact ⟨h.1, h.2.1⟩
    · exact h.2.2.2.2.ok ws hws
theorem Chain.ext {l l' : List Bytes} {s : SlotL} (hlen : l'.length = l.length) : ∀ {fr : List (List WrL)} {u q : Nat}, Chain l s u q fr → (∀ k, k < usedF u fr → at' l' (logAt s k) = at' l (logAt s k)) → (at' l' (logAt s (usedF u fr))).drop 252 ≠ endT → Chain l' s u q fr
  | [], u, q, h, _, he => ⟨h.1, he⟩
  | ws :: fr, u, q, h, hk, he => by
    have hu := usedF_le (u + ws.length + 1) fr
    refine ⟨h.1, by rw [hlen]; exact h.2.1, h.2.2.1, fun i hi => ?_, h.2.2.2.2.ext hlen hk he⟩
    rw [hk (u + i) (by rw [usedF_cons]; omega)]
    exact h.2.2.2.1 i hi
theorem Chain.snoc {l l' : List Bytes} {s : SlotL} (hlen : l'.length = l.length) (ws : List WrL) (hw : WrOk ws) (hh : ∀ w ∈ ws, 2 + s.log ≤ w.1 ∧ w.1 < l.length) : ∀ {fr : List (List WrL)} {u q : Nat}, Chain l s u q fr → (∀ k, k < usedF u fr → at' l' (logAt s k) = at' l (logAt s k)) →
    usedF u fr + ws.length + 1 < s.log → (∀ i, i ≤ ws.length → at' l' (logAt s (usedF u fr + i)) = (packL (q + fr.length) ws).getD i []) → (at' l' (logAt s (usedF u fr + ws.length + 1))).drop 252 ≠ endT → Chain l' s u q (fr ++ [ws])
  | [], u, q, h, hk, h1, h2, he => ⟨hw, by rw [hlen]; exact hh, h1, h2, h1, he⟩
  | x :: fr, u, q, h, hk, h1, h2, he => by
    have hu := usedF_le (u + x.length + 1) fr
    refine ⟨h.1, by rw [hlen]; exact h.2.1, h.2.2.1, fun i hi => ?_, Chain.snoc hlen ws hw hh h.2.2.2.2 hk h1 (fun i hi => ?_) he⟩
    · rw [hk (u + i) (by rw [usedF_cons]; omega)]
      exact h.2.2.2.1 i hi
    · have := h2 i hi
      rw [List.length_cons, usedF_cons] at this
      rw [this]
      congr 2; omega
def nextS (s : SlotL) (fr : List (List WrL)) : SlotL := ⟨s.e + 1, s.s + fr.length, s.log, (s.place + usedF 0 fr) % s.log⟩
def OldX (X : Bytes) (s : SlotL) : Prop := X = noughtsL ∨ ∃ r : SlotL, r.Ok ∧ X = slotT r ∧ r.e < s.e
def OtherOk (X : Bytes) (s s' : SlotL) : Prop := ∃ c X0, OldX X0 s ∧ X = (slotT s').take c ++ X0.drop c ∧ X ≠ slotT s'
theorem OldX.len {X : Bytes} {s : SlotL} (h : OldX X s) : X.length = 256 := by
  rcases h with rfl | ⟨r, _, rfl, _⟩
  · exact List.length_replicate
  · exact slotT_length r
theorem slotT_inj {s r : SlotL} (hs : s.Ok) (hr : r.Ok) (h : slotT s = slotT r) : s = r := by
  have h1 := slotOf_h s hs (slotH s)
  have h2 := slotOf_h r hr (slotH r)
  rw [show slotH s ++ slotH s = slotT s from rfl, h, show slotT r = slotH r ++ slotH r from rfl, h2] at h1
  exact h1.symm
theorem slotH_inj {s r : SlotL} (hs : s.Ok) (hr : r.Ok) (h : slotH s = slotH r) : s = r := slotT_inj hs hr (by rw [slotT, slotT, h])
theorem OtherOk.less {X : Bytes} {s s' : SlotL} (h : OtherOk X s s') (ho : s'.Ok) (n : Nat) (r : SlotL) (hr : toSlotL X n = some r) : r.e < s.e := by
  obtain ⟨c, X0, h0, rfl, hne⟩ := h
  rcases toSlot_torn s' ho X0 h0.len c n r hr with ⟨_, hw⟩ | hh
  · exact absurd hw hne
  · rcases h0 with rfl | ⟨q, hq, rfl, hl⟩
    · have := congrArg (fun t : Bytes => t[0]?) hh
      simp only [noughtsL, slotH, magicS, List.drop_replicate, List.getElem?_replicate, List.cons_append, List.getElem?_cons_zero] at this
      exact absurd this (by decide)
    · rw [slotT, drop_app _ _ _ (slotH_length q)] at hh
      rw [slotH_inj (toSlot_ok hr) hq hh]; exact hl
theorem torn_torn (a b : Bytes) (ha : a.length = 256) (hb : b.length = 256) (c d : Nat) : a.take d ++ (a.take c ++ b.drop c).drop d = a.take (max c d) ++ b.drop (max c d) := by
  have hlen : (a.take c).length = min c 256 := by rw [List.length_take, ha]
  rw [List.drop_append, hlen, List.drop_drop]
  by_cases h : d ≤ c
  · rw [Nat.max_eq_left h, ← List.append_assoc]
    congr 1
    · rw [List.drop_take, show List.take c a = List.take (d + (c - d)) a by rw [Nat.add_sub_cancel' h], List.take_add]
    · by_cases hc : c ≤ 256
      · congr 1; omega
      · rw [List.drop_of_length_le (by rw [hb]; omega), List.drop_of_length_le (by rw [hb]; omega)]
  · rw [Nat.max_eq_right (by omega), List.drop_of_length_le (by rw [hlen]; omega), List.nil_append]
    by_cases hc : c ≤ 256
    · congr 2; omega
    · rw [List.drop_of_length_le (by rw [hb]; omega), List.drop_of_length_le (by rw [hb]; omega)]
structure RecS (l : List Bytes) (s : SlotL) (k : Nat) (fr : List (List WrL)) (C : Nat → Bytes) : Prop where
  hmax : l.length ≤ 4096
  hall : ∀ b ∈ l, b.length = 256
  hleast : 50 ≤ s.log
  hlog : s.log + 3 ≤ l.length
  hplace : s.place < s.log
  he : s.e + 1 < 18446744073709551616
  hs : s.s + fr.length < 18446744073709551616
  hk : k ≤ 1
  hslot : at' l k = slotT s
  hother : OtherOk (at' l (1 - k)) s (nextS s fr)
  hchain : Chain l s 0 s.s fr
  hhome : ∀ i, 2 + s.log ≤ i → i < l.length → lastP fr.flatten i (at' l i) = C i
theorem RecS.ok {l : List Bytes} {s : SlotL} {k : Nat} {fr : List (List WrL)} {C : Nat → Bytes} (h : RecS l s k fr C) : s.Ok ∧ (nextS s fr).Ok := by
  have h1 := h.hmax; have h2 := h.hlog; have h3 := h.hplace; have h4 := h.he; have h5 := h.hs
  have := Nat.mod_lt (s.place + usedF 0 fr) (show 0 < s.log by omega)
  refine ⟨⟨by omega, by omega, by omega, by omega⟩, ⟨?_, ?_, ?_, ?_⟩⟩ <;> simp only [nextS] <;> omega
def pickS (l0 l1 : Option SlotL) : Option (SlotL × Nat) :=
  match l0, l1 with
  | some a, some b => if a.e < b.e then some (b, 1) else some (a, 0)
  | some a, none => some (a, 0)
  | none, some b => some (b, 1)
  | none, none => none
theorem RecS.pick {l : List Bytes} {s : SlotL} {k : Nat} {fr : List (List WrL)} {C : Nat → Bytes} (h : RecS l s k fr C) : pickS (toSlotL (at' l 0) l.length) (toSlotL (at' l 1) l.length) = some (s, k) := by
  have hs := toSlot_text s h.ok.1 l.length h.hleast h.hlog h.hplace
  have ho := fun r hr => h.hother.less h.ok.2 l.length r hr
  have hsl := h.hslot
  have hk : k = 0 ∨ k = 1 := by have := h.hk; omega
  rcases hk with rfl | rfl
  · rw [hsl, hs]
    cases hr : toSlotL (at' l 1) l.length with
    | none => rfl
    | some r =>
      have := ho r hr
      simp only [pickS]
      rw [if_neg (by omega)]
  · rw [hsl, hs]
    cases hr : toSlotL (at' l 0) l.length with
    | none => rfl
    | some r =>
      have := ho r hr
      simp only [pickS]
      rw [if_pos this]
def Allowed (s : SlotL) (fr : List (List WrL)) (w : WrL) : Prop :=
  (2 + s.log ≤ w.1 ∧ ∃ x ∈ fr.flatten, x.1 = w.1) ∨ ∃ k, usedF 0 fr ≤ k ∧ k < s.log ∧ w.1 = logAt s k ∧ (k = usedF 0 fr → w.2 = noughtsL)
theorem endT_torn (b : Bytes) (hb : b.length = 256) (h : b.drop 252 ≠ endT) (c : Nat) : (noughtsL.take c ++ b.drop c).drop 252 ≠ endT := by
  have hn : noughtsL.length = 256 := List.length_replicate
  by_cases hc : c ≤ 252
  · rw [List.drop_append, List.length_take, hn, List.drop_drop, List.drop_of_length_le (by rw [List.length_take, hn]; omega), List.nil_append, show c + (252 - min c 256) = 252 by omega]
    exact h
  · intro he
    have h0 := congrArg (fun t : Bytes => t[0]?) he
    simp only [List.getElem?_drop] at h0
    rw [List.getElem?_append_left (by rw [List.length_take, hn]; omega), List.getElem?_take, if_pos (by omega)] at h0
    exact absurd h0 (by unfold noughtsL endT; rw [List.getElem?_replicate]; simp)
theorem RecS.img {l l' : List Bytes} {s : SlotL} {k : Nat} {fr : List (List WrL)} {C : Nat → Bytes} (h : RecS l s k fr C) {p : List WrL} (hp : ∀ w ∈ p, w.1 < l.length ∧ w.2.length = 256) (ha : ∀ w ∈ p, Allowed s fr w) (hi : Img l p l') : RecS l' s k fr C := by
  have hlog := h.hlog; have hleast := h.hleast; have hk := h.hk
  have h2 : ∀ w ∈ p, 2 ≤ w.1 := fun w hw => by
    rcases ha w hw with ⟨h1, _⟩ | ⟨k, _, _, h1, _⟩
    · omega
    · have := (logAt_lt s k (by omega)).1; omega
  have hlt := fun w hw => (hp w hw).1
  have hu := h.hchain.used
  have hlow : ∀ j, j < 2 → at' l' j = at' l j := fun j hj => hi.same j hlt (fun w hw => by have := h2 w hw; omega)
  refine ⟨by rw [hi.len]; exact h.hmax, hi.all h.hall hp, hleast, by rw [hi.len]; exact hlog, h.hplace, h.he, h.hs, hk, by rw [hlow k (by omega)]; exact h.hslot, by rw [hlow (1 - k) (by omega)]; exact h.hother, ?_, ?_⟩
  · refine h.hchain.ext hi.len (fun j hj => hi.same _ hlt (fun w hw he => ?_)) ?_
    · have hl := logAt_lt s j (by omega)
      rcases ha w hw with ⟨h1, _⟩ | ⟨m, hm1, hm2, hm3, _⟩
      · omega
      · have := logAt_inj s h.hplace j m (by omega) hm2 (by rw [← he, hm3])
        omega
    · have hl := logAt_lt s (usedF 0 fr) (by omega)
      refine hi.pres _ (fun b => b.drop 252 ≠ endT) h.hall (by omega) hp (fun w hw he b c hb hbl => ?_) h.hchain.end
      rcases ha w hw with ⟨h1, _⟩ | ⟨m, hm1, hm2, hm3, hm4⟩
      · omega
      · rw [hm4 (logAt_inj s h.hplace m _ hm2 hu (by rw [← hm3, he]))]
        exact endT_torn b hbl hb c
  · intro i h1 hn
    rw [hi.len] at hn
    by_cases hx : ∃ x ∈ fr.flatten, x.1 = i
    · rw [lastP_some _ _ _ (at' l i) hx]; exact h.hhome i h1 hn
    · rw [hi.same i hlt (fun w hw he => ?_)]
      · exact h.hhome i h1 hn
      · rcases ha w hw with ⟨_, x, hx', hxe⟩ | ⟨m, _, hm2, hm3, _⟩
        · exact hx ⟨x, hx', hxe.trans he⟩
        · have := (logAt_lt s m (by omega)).2; omega
theorem RecS.slotW {l : List Bytes} {s : SlotL} {k : Nat} {fr : List (List WrL)} {C : Nat → Bytes} (h : RecS l s k fr C) (hC : ∀ i, 2 + s.log ≤ i → i < l.length → at' l i = C i) (he : s.e + 2 < 18446744073709551616) (c : Nat) :
    RecS (tornW l (1 - k, slotT (nextS s fr)) c) s k fr C ∨ (RecS (tornW l (1 - k, slotT (nextS s fr)) c) (nextS s fr) (1 - k) [] C ∧ tornW l (1 - k, slotT (nextS s fr)) c = l.set (1 - k) (slotT (nextS s fr))) := by
  have hlog := h.hlog; have hleast := h.hleast; have hk := h.hk
  obtain ⟨hso, hno⟩ := h.ok
  have hlt : 1 - k < l.length := by omega
  have hg := fun j => tornW_get l (1 - k, slotT (nextS s fr)) c j hlt
  have hu := h.hchain.used
  have hend := h.hchain.end
  have hpl := Nat.mod_lt (s.place + usedF 0 fr) (show 0 < s.log by omega)
  have hle : (nextS s fr).e = s.e + 1 := rfl
  have hll : (nextS s fr).log = s.log := rfl
  obtain ⟨c0, X0, ho, hx, hne⟩ := h.hother
  have hform : at' (tornW l (1 - k, slotT (nextS s fr)) c) (1 - k) = (slotT (nextS s fr)).take (max c0 c) ++ X0.drop (max c0 c) := by
    rw [hg, if_pos rfl, hx]
    exact torn_torn _ _ (slotT_length _) ho.len c0 c
  have hbase : (tornW l (1 - k, slotT (nextS s fr)) c).length ≤ 4096 := by rw [tornW_length]; exact h.hmax
  have hall := tornW_all l (1 - k, slotT (nextS s fr)) c h.hall hlt (slotT_length _)
  have hself : at' (tornW l (1 - k, slotT (nextS s fr)) c) k = slotT s := by rw [hg, if_neg (by simp only; omega)]; exact h.hslot
  have hothers : ∀ j, 2 ≤ j → at' (tornW l (1 - k, slotT (nextS s fr)) c) j = at' l j := fun j hj => by rw [hg, if_neg (by simp only; omega)]
  by_cases hw : at' (tornW l (1 - k, slotT (nextS s fr)) c) (1 - k) = slotT (nextS s fr)
  · right
    constructor
    · refine ⟨hbase, hall, hleast, by rw [tornW_length]; exact hlog, hpl, by rw [hle]; omega, ?_, by omega, hw, ?_, ?_, ?_⟩
      · have := h.hs; simp only [nextS, List.length_nil]; omega
      · rw [show 1 - (1 - k) = k by omega, hself]
        refine ⟨0, slotT s, .inr ⟨s, hso, rfl, by rw [hle]; omega⟩, by simp, fun e => ?_⟩
        have ho2 : (nextS (nextS s fr) []).Ok := by
          refine ⟨?_, ?_, ?_, ?_⟩
          · show s.e + 1 + 1 < _; omega
          · have := h.hs; show s.s + fr.length + 0 < _; omega
          · have := h.hmax; show s.log < _; omega
          · have := Nat.mod_lt ((s.place + usedF 0 fr) % s.log + 0) (show 0 < s.log by omega); have := h.hmax
            show ((s.place + usedF 0 fr) % s.log + usedF 0 []) % s.log < _
            simp only [usedF, List.foldl_nil] at *; omega
        have := congrArg SlotL.e (slotT_inj hso ho2 e)
        simp only [nextS] at this; omega
      · refine ⟨by rw [hll]; omega, ?_⟩
        have e : logAt (nextS s fr) 0 = logAt s (usedF 0 fr) := by
          show 2 + ((s.place + usedF 0 fr) % s.log + 0) % s.log = 2 + (s.place + usedF 0 fr) % s.log
          rw [Nat.add_zero, Nat.mod_mod]
        have hl := logAt_lt s (usedF 0 fr) (by omega)
        rw [e, hothers _ hl.1]; exact hend
      · intro i h1 h2
        rw [tornW_length] at h2
        rw [hll] at h1
        rw [hothers i (by omega)]
        exact hC i h1 h2
    · refine List.ext_getElem (by rw [tornW_length, List.length_set]) (fun j h1 h2 => ?_)
      rw [tornW_length] at h1
      by_cases hj : j = 1 - k
      · subst hj
        rw [List.getElem_set_self]
        have hz := hw
        unfold at' at hz
        rw [List.getD_eq_getElem?_getD, List.getElem?_eq_getElem (by rw [tornW_length]; exact h1)] at hz
        exact hz
      · simp only [tornW]
        rw [List.getElem_set_ne (Ne.symm hj), List.getElem_set_ne (Ne.symm hj)]
  · left
    refine ⟨hbase, hall, hleast, by rw [tornW_length]; exact hlog, h.hplace, h.he, h.hs, hk, hself, ⟨max c0 c, X0, ho, hform, hw⟩, ?_, ?_⟩
    · refine h.hchain.ext (tornW_length _ _ _) (fun j hj => hothers _ (logAt_lt s j (by omega)).1) ?_
      rw [hothers _ (logAt_lt s _ (by omega)).1]; exact hend
    · intro i h1 h2
      rw [tornW_length] at h2
      rw [hothers i (by omega)]
      exact h.hhome i h1 h2
end
end Go.Proofs.YtnmijegmbomfdaaGreatDoor
