/- Joined texts of one proof: WRef15c, WRef15d. -/
import Derived.Test.YtoabhcfmdkhmgaaGreatDoorPWRef15b
import Derived.Test.YtoabhcfmdkhmgaaGreatDoorPMem3ToBld
import Derived.Laws.OwnMore
set_option linter.unusedSimpArgs false
set_option linter.unusedVariables false
set_option linter.unnecessarySimpa false
/- (WRef15c) codexref15: Docs, Get: walked. -/
section
namespace Go.Proofs.YtoabhcfmdkhmgaaGreatDoor
open Go.RowKit
set_option linter.unusedVariables false

abbrev boolVs (l : List Bool) : List Value := l.map fun b => .bool b
def Bools (w : World) (v : Value) (l : List Bool) : Prop := Sl w v l.length 1 (boolVs l)
theorem Bools.stays {w w' : World} {v : Value} {l : List Bool} (h : Bools w v l) (q : Q w w') : Bools w' v l := Sl.stays h q
theorem Bools.value {w : World} {v : Value} {l : List Bool} (h : Bools w v l) : ∃ a cap, v = .slice a l.length cap ∧ (0 < l.length → ∃ b off, a = some ⟨b, off, none⟩ ∧ ∀ j (hj : j < l.length), w.cell? ⟨b, off + j, none⟩ = some (.bool l[j])) := by
  obtain ⟨_, a, cap, h2, h3⟩ := h
  refine ⟨a, cap, h2, fun hn => ?_⟩
  obtain ⟨b, off, h4, h5⟩ := h3 hn
  exact ⟨b, off, h4, fun j hj => h5 j _ (by simp [hj])⟩
/-- a part in memory: the value of its documents, that of its flags, and these -/
abbrev PartM := Value × Value × RPart
abbrev rOf (p : PartM) : RPart := p.2.2
abbrev partMVs (l : List PartM) : List Value := l.flatMap fun p => [p.1, p.2.1]
def PartsM (w : World) (v : Value) (l : List PartM) : Prop := Sl w v l.length 2 (partMVs l) ∧ (∀ p ∈ l, Docs w p.1 p.2.2.1 ∧ Bools w p.2.1 p.2.2.2) ∧ ∀ a n cap, v = .slice a n cap → n ≤ cap
theorem PartsM.stays {w w' : World} {v : Value} {l : List PartM} (h : PartsM w v l) (q : Q w w') : PartsM w' v l := ⟨Sl.stays h.1 q, fun p hp => ⟨Sl.stays (h.2.1 p hp).1 q, (h.2.1 p hp).2.stays q⟩, h.2.2⟩
theorem partMVs_at (l : List PartM) (k : Nat) (h : k < l.length) : (partMVs l)[k * 2]? = some l[k].1 ∧ (partMVs l)[k * 2 + 1]? = some l[k].2.1 := by
  induction l generalizing k with
  | nil => simp at h
  | cons d l ih =>
    have e : partMVs (d :: l) = d.1 :: d.2.1 :: partMVs l := by simp [partMVs]
    cases k with
    | zero => rw [e]; exact ⟨rfl, rfl⟩
    | succ k =>
      have := ih k (by simpa using h)
      rw [e, show (k + 1) * 2 = k * 2 + 1 + 1 by omega]
      exact this
theorem PartsM.value {w : World} {v : Value} {l : List PartM} (h : PartsM w v l) : ∃ a cap, v = .slice a l.length cap ∧ (0 < l.length → ∃ b off, a = some ⟨b, off, none⟩ ∧ ∀ j (hj : j < l.length), w.cell? ⟨b, off + j * 2, none⟩ = some l[j].1 ∧ w.cell? ⟨b, off + j * 2 + 1, none⟩ = some l[j].2.1) := by
  obtain ⟨⟨_, a, cap, h2, h3⟩, _⟩ := h
  refine ⟨a, cap, h2, fun hn => ?_⟩
  obtain ⟨b, off, h4, h5⟩ := h3 hn
  exact ⟨b, off, h4, fun j hj => ⟨h5 _ _ (partMVs_at l j hj).1, by rw [Nat.add_assoc]; exact h5 _ _ (partMVs_at l j hj).2⟩⟩
theorem withR_len (d : DocL) (l : List DocL) : (withR d l).length ≤ l.length + 1 := by
  induction l with
  | nil => simp [withR]
  | cons x l ih =>
    rw [withR]
    split
    · simp only [List.length_cons]; omega
    · split <;> simp
def liveRTo (r : RPart) (j : Nat) : List DocL := (((r.1.zip r.2).take j).filter fun x => !x.2).map (·.1)
theorem liveRTo_succ (r : RPart) (j : Nat) (h1 : j < r.1.length) (h2 : j < r.2.length) : liveRTo r (j + 1) = liveRTo r j ++ if r.2[j] = true then [] else [r.1[j]] := by
  unfold liveRTo
  have hz : j < (r.1.zip r.2).length := by simp; omega
  rw [List.take_succ_eq_append_getElem hz, List.filter_append, List.map_append, List.getElem_zip]
  cases r.2[j] <;> simp
theorem liveRTo_all (r : RPart) (h : r.2.length = r.1.length) : liveRTo r r.1.length = liveR r := by
  unfold liveRTo liveR
  rw [List.take_of_length_le (by simp; omega)]
def dcsTo (l : List PartM) (k : Nat) : List DocL := (((l.take k).map rOf).flatMap liveR).foldl (fun a d => withR d a) []
theorem dcsTo_succ (l : List PartM) (k : Nat) (h : k < l.length) : dcsTo l (k + 1) = (liveR (rOf l[k])).foldl (fun a d => withR d a) (dcsTo l k) := by
  unfold dcsTo
  rw [List.take_succ_eq_append_getElem h, List.map_append, List.flatMap_append, List.foldl_append]; simp
set_option maxRecDepth 100000 in
set_option maxHeartbeats 4000000 in
theorem RDocs15_any (v : Value) (l : List PartM) (w : World) (hv : PartsM w v l) (hn : l.length ≤ 1000) (hl : ∀ p ∈ l, p.2.2.2.length = p.2.2.1.length ∧ p.2.2.1.length ≤ 500) :
    Calls Tryz.prog 8 #[v] w fun e w' => ∃ v', e = .returned v' ∧ w'.ownsRow w.heap.size 49 2 v' (docsR (l.map rOf)).length (docVs (docsR (l.map rOf))) ∧ Q w w' := by
  obtain ⟨a, cap, rfl, hcell⟩ := hv.value
  have hin := hv.2.1
  have hfin : docsR (l.map rOf) = dcsTo l l.length := by unfold dcsTo docsR; rw [List.take_length]
  rw [hfin]
  have HC := Lib.hid hcell; have HIN := Lib.hid hin; have HL := Lib.hid hl
  clear hcell hv hin hl hfin
  go_enter Tryz.func8, Tryz.ntmps8
  go_wp2_with fail
  go_loopw [3, 4, 5] (fun ov i _ wr => ∃ (k : Nat) (o : List DocL), k ≤ l.length ∧ i = .int .i64 (k : Nat) ∧ o.length ≤ 500 * k ∧ Hid (o = dcsTo l k) ∧ Hid (wr.ownsRow w.heap.size 49 2 ov o.length (docVs o)) ∧ Hid (Q w wr)) (fun _ i _ _ => l.length - (intOf i).toNat)
  case atStart => exact ⟨0, [], by omega, rfl, by simp, rfl, World.ownsRow_nil _ _ _ _, Q.refl _⟩
  case round =>
    obtain ⟨k, o, hk, rfl, hol, HOE, HO, HQ⟩ := hrel
    obtain ⟨wo, rfl⟩ : ∃ wo : World, wo = wr := ⟨_, rfl⟩
    by_cases hlt : k < l.length
    · obtain ⟨pb, po, rfl, hcc⟩ := HC.out (by omega)
      have z0 := (hcc k hlt).1
      have z1 := (hcc k hlt).2
      obtain ⟨hd, hg⟩ := HIN.out _ (List.getElem_mem hlt)
      obtain ⟨hle, h5⟩ := HL.out _ (List.getElem_mem hlt)
      have hst := dcsTo_succ l k hlt
      rw [← HOE.out] at hst
      have hki : (k : Int) < (l.length : Int) := by omega
      have hk0 : (0 : Int) ≤ (k : Int) := by omega
      clear hcc
      generalize l[k] = p at *
      obtain ⟨dv, gv, r⟩ := p
      simp only [rOf] at z0 z1 hd hg hle h5 hst
      obtain ⟨da, dc, rfl, hdc⟩ := hd.value
      obtain ⟨ga, gc, rfl, hgc⟩ := hg.value
      have Z0 := Lib.hid z0; have Z1 := Lib.hid z1; have HD := Lib.hid hdc; have HG := Lib.hid hgc; have HST := Lib.hid hst
      clear z0 z1 hd hg hdc hgc hst
      go_wp2_with fail
      go_loopw [3, 5] (fun ov j wr => ∃ (m : Nat) (o2 : List DocL), m ≤ r.1.length ∧ j = .int .i64 (m : Nat) ∧ o2.length ≤ 500 * k + m ∧ Hid (o2 = (liveRTo r m).foldl (fun a d => withR d a) o) ∧ Hid (wr.ownsRow w.heap.size 49 2 ov o2.length (docVs o2)) ∧ Hid (Q w wr)) (fun _ j _ => r.1.length - (intOf j).toNat)
      case atStart => exact ⟨0, o, by omega, rfl, by omega, by show _ = _; simp [liveRTo], HO, HQ⟩
      case round =>
        obtain ⟨m, o2, hm, rfl, ho2l, HOE2, HO2, HQ2⟩ := hrel
        obtain ⟨wm, rfl⟩ : ∃ wm : World, wm = wr := ⟨_, rfl⟩
        have y0 := cell_stays HQ2.out Z0.out
        have y1 := cell_stays HQ2.out Z1.out
        by_cases hlm : m < r.1.length
        · obtain ⟨db, dof, rfl, hdcc⟩ := HD.out (by omega)
          obtain ⟨gb, gof, rfl, hgcc⟩ := HG.out (by omega)
          have c0 := cell_stays HQ2.out (hdcc m hlm).1
          have c1 := cell_stays HQ2.out (hdcc m hlm).2
          have c2 := cell_stays HQ2.out (hgcc m (by omega))
          have hmi : (m : Int) < (r.1.length : Int) := by omega
          have hmi2 : (m : Int) < (r.2.length : Int) := by omega
          have hmi0 : (0 : Int) ≤ (m : Int) := by omega
          have hsu := liveRTo_succ r m hlm (by omega)
          have cw := fun W (q : Q wm W) vv (ho : W.ownsRow w.heap.size 49 2 vv o2.length (docVs o2)) => RWith_any vv o2 r.1[m] W w.heap.size ho (by omega)
          have hwl := withR_len r.1[m] o2
          clear hdcc hgcc
          generalize r.1[m] = d at *
          generalize r.2[m]'(by omega) = g at *
          obtain ⟨id, tx⟩ := d
          simp only at c0 c1 cw hwl hsu
          cases g with
          | true =>
            rw [if_pos rfl, List.append_nil] at hsu
            have HSU := Lib.hid hsu
            clear hsu
            go_wp2_with fail
            go_roundw
            case rel => exact ⟨m + 1, o2, by omega, by go_num, by omega, by show _ = _; rw [HOE2.out, HSU.out], HO2, HQ2⟩
            case measure => simp [intOf]; omega
          | false =>
            rw [if_neg (by simp)] at hsu
            have hnx : withR (id, tx) o2 = (liveRTo r (m + 1)).foldl (fun a d => withR d a) o := by rw [hsu, List.foldl_append, ← HOE2.out]; rfl
            have HNX := Lib.hid hnx
            have CW := Lib.hid (cw wm (Q.refl _) _ HO2.out)
            clear hsu hnx cw
            go_wp2_with fail
            refine CW.out.mono ?_
            rintro e w5 ⟨v5, rfl, ho5, q5⟩
            have HO5 := Lib.hid (owns_low ho5 HQ2.out.size); have HQ5 := Lib.hid (HQ2.out.trans q5)
            clear ho5 q5 CW y0 y1 c0 c1 c2
            go_wp2_with fail
            go_roundw
            case rel => exact ⟨m + 1, withR (id, tx) o2, by omega, by go_num, by omega, HNX, HO5, HQ5⟩
            case measure => simp [intOf]; omega
        · have hme : m = r.1.length := by omega
          subst hme
          have hall := liveRTo_all r hle
          have HALL := Lib.hid hall
          clear hall
          go_wp2_with fail
          go_roundw
          case rel => exact ⟨k + 1, o2, by omega, by go_num, by omega, by show _ = _; rw [HOE2.out, HALL.out, HST.out], HO2, HQ2⟩
          case measure => simp [intOf]; omega
    · have hke : k = l.length := by omega
      subst hke
      go_wp2_with fail
      go_ret
      exact ⟨_, rfl, by rw [← HOE.out]; exact HO.out, HQ.out⟩
theorem getR_cons (d : DocL) (l : List DocL) (id : Bytes) : getR (d :: l) id = if d.1 = id then some d.2 else getR l id := by
  unfold getR
  rw [List.find?_cons]
  by_cases h : d.1 = id
  · rw [if_pos h, show (d.1 == id) = true by simpa using h]; rfl
  · rw [if_neg h, show (d.1 == id) = false by simpa using h]
set_option maxRecDepth 100000 in
set_option maxHeartbeats 4000000 in
theorem RGet15_any (v : Value) (l : List DocL) (id : Bytes) (w : World) (hv : Docs w v l) (hn : l.length ≤ 1000000000) :
    Calls Tryz.prog 10 #[v, strV id] w fun e w' => e = .returned (.tuple #[strV ((getR l id).getD []), .bool (getR l id).isSome]) ∧ Q w w' := by
  obtain ⟨a, cap, rfl, hcell⟩ := hv.value
  have HC := Lib.hid hcell
  clear hcell hv
  go_enter Tryz.func10, Tryz.ntmps10
  go_wp2_with fail
  go_loopw [6] (fun i wr => ∃ k : Nat, k ≤ l.length ∧ i = .int .i64 (k : Nat) ∧ Hid (getR l id = getR (l.drop k) id) ∧ Hid (Q w wr)) (fun i _ => l.length - (intOf i).toNat)
  case atStart => exact ⟨0, by omega, rfl, rfl, Q.refl _⟩
  case round =>
    obtain ⟨k, hk, rfl, HG, HQ⟩ := hrel
    obtain ⟨wo, rfl⟩ : ∃ wo : World, wo = wr := ⟨_, rfl⟩
    by_cases hlt : k < l.length
    · obtain ⟨b, of, rfl, hcc⟩ := HC.out (by omega)
      have c0 := cell_stays HQ.out (hcc k hlt).1
      have c1 := cell_stays HQ.out (hcc k hlt).2
      have hki : (k : Int) < (l.length : Int) := by omega
      have hk0 : (0 : Int) ≤ (k : Int) := by omega
      have hst : getR l id = if l[k].1 = id then some l[k].2 else getR (l.drop (k + 1)) id := by rw [HG.out, List.drop_eq_getElem_cons hlt, getR_cons]
      clear hcc
      generalize l[k] = x at *
      obtain ⟨u, tx⟩ := x
      simp only at c0 c1 hst
      by_cases he : u = id
      · rw [if_pos he] at hst
        have HST := Lib.hid hst
        clear hst
        subst he
        go_wp2_with fail
        go_ret2
        exact ⟨by rw [HST.out]; rfl, HQ.out⟩
      · rw [if_neg he] at hst
        have HST := Lib.hid hst
        have heb1 : (u == id) = false := by simpa using he
        have heb2 : @BEq.beq (List UInt8) instBEqOfDecidableEq u id = false := by simpa using he
        have heb3 : @BEq.beq (List UInt8) List.instBEq u id = false := by simpa using he
        clear he hst
        go_wp2_with fail
        go_roundw
        case rel => exact ⟨k + 1, by omega, by go_num, HST, HQ⟩
        case measure => simp [intOf]; omega
    · have hke : k = l.length := by omega
      subst hke
      have hnone : getR l id = none := by rw [HG.out, List.drop_length]; rfl
      have HN := Lib.hid hnone
      clear hnone
      go_wp2_with fail
      go_ret2
      exact ⟨by rw [HN.out]; rfl, HQ.out⟩
end Go.Proofs.YtoabhcfmdkhmgaaGreatDoor
end

/- (WRef15d) codexref15: Apply: walked. -/
section
namespace Go.Proofs.YtoabhcfmdkhmgaaGreatDoor
open Go.RowKit
set_option linter.unusedVariables false

theorem tinfoP67 : (Tryz.prog.info? 67).map (fun i => (i.zero, i.size, i.bytes)) = some (some (.agg #[.slice none 0 0, .slice none 0 0]), 2, 48) := by kernel_rfl
theorem tinfoB4 : (Tryz.prog.info? 4).map (fun i => (i.zero, i.size, i.bytes)) = some (some (.bool false), 1, 1) := by kernel_rfl
theorem boolVs_append (l : List Bool) (b : Bool) : boolVs (l ++ [b]) = boolVs l ++ [.bool b] := by simp [boolVs]
theorem partMVs_append (l : List PartM) (p : PartM) : partMVs (l ++ [p]) = partMVs l ++ [p.1, p.2.1] := by simp [partMVs]
theorem cont_snoc (l : List Bytes) (x u : Bytes) : (l ++ [x]).contains u = (l.contains u || (u == x)) := by rw [Bool.eq_iff_iff]; simp
/-- the flags of a part as far as they are told -/
def goneTo (ids : List Bytes) (r : RPart) (m : Nat) : List Bool := ((r.1.zip r.2).take m).map fun x => x.2 || ids.contains x.1.1
theorem goneTo_len (ids : List Bytes) (r : RPart) (m : Nat) (h : r.2.length = r.1.length) (hm : m ≤ r.1.length) : (goneTo ids r m).length = m := by
  unfold goneTo; rw [List.length_map, List.length_take, List.length_zip]; omega
theorem goneTo_succ (ids : List Bytes) (r : RPart) (m : Nat) (h1 : m < r.1.length) (h2 : m < r.2.length) : goneTo ids r (m + 1) = goneTo ids r m ++ [r.2[m] || ids.contains r.1[m].1] := by
  unfold goneTo
  rw [List.take_succ_eq_append_getElem (by rw [List.length_zip]; omega), List.map_append, List.getElem_zip]; rfl
theorem goneTo_all (ids : List Bytes) (r : RPart) (h : r.2.length = r.1.length) : (r.1, goneTo ids r r.1.length) = goneR ids r := by
  unfold goneTo goneR
  rw [List.take_of_length_le (by rw [List.length_zip]; omega)]
theorem made_bools (n : Nat) : (madeCells (Value.bool false).cells (n * 1)).toList = boolVs (List.replicate n false) := by
  apply List.ext_getElem
  · simp [madeCells, boolVs]
  · intro i h1 h2
    simp [madeCells, boolVs, Value.cells, Nat.mod_one]
/-- what the document's answer answers: parts, bytes, error -/
def RPost (w : World) (R : List RPart × Bytes × Int) (e : Ending) (w' : World) : Prop := (∃ (v' : Value) (l' : List PartM), e = .returned (.tuple #[v', strV R.2.1, .int .i64 R.2.2]) ∧ PartsM w' v' l' ∧ l'.map rOf = R.1) ∧ Q w w'
theorem Q.trans' {a b c : World} (h1 : Q a b) (h2 : Below (a.heap.size + 1) b c) (hs : a.heap.size + 1 ≤ b.heap.size) : Q a c := Below.trans h1 (Below.mono h2 (by omega))
set_option maxRecDepth 100000 in
set_option maxHeartbeats 4000000 in
theorem RApply_good (v : Value) (l : List PartM) (ov : Value) (ops : List OpL) (w : World) (hv : PartsM w v l) (hn : l.length ≤ 1000) (hl : ∀ p ∈ l, p.2.2.2.length = p.2.2.1.length ∧ p.2.2.1.length ≤ 500)
    (ho : Ops w ov ops) (hol : ∀ o ∈ ops, o.2.1.length ≤ 9223372036854775807 ∧ o.2.2.length ≤ 9223372036854775807) (h1 : ¬ (ops.length < 1 ∨ 50 < ops.length)) (h2 : ops.all opRight = true) :
    Calls Tryz.prog 21 #[v, ov] w fun e w' => RPost w (applyR (l.map rOf) ops) e w' := by
  have hR : applyR (l.map rOf) ops = ((l.map rOf).map (goneR (idsL ops)) ++ freshR (moreL ops), (if moreL ops = [] then [] else segE (moreL ops) (idxL (moreL ops))), 0) := by unfold applyR; rw [if_neg h1, if_pos h2]
  have hck : checkL ops = 0 := by unfold checkL; rw [if_neg h1, if_pos h2]
  have cc := RCheck_any ov ops w ho (by omega) hol
  rw [hck] at cc
  have cl := fun W (q : Q w W) => RLast_any ov ops W (ho.stays q) (by omega)
  have hlen50 : (lastL ops).length ≤ 50 := by have := (lastL_sub ops).length_le; omega
  have hfa : moreL ops = ((lastL ops).filter (fun o => !o.1)).map (·.2) := rfl
  have hids : idsL ops = (lastL ops).map (fun o => o.2.1) := rfl
  have hmok := more_ok ops h2
  obtain ⟨oa, oc, rfl, _⟩ := ho.value
  obtain ⟨a, cap, rfl, hcell⟩ := hv.value
  have hin := hv.2.1
  have CC := Lib.hid cc; have CL := Lib.hid cl; have HC := Lib.hid hcell; have HIN := Lib.hid hin; have HL := Lib.hid hl; have HMOK := Lib.hid hmok; have HFA := Lib.hid hfa; have HIDS := Lib.hid hids
  clear cc cl hcell hin hl hmok ho hol h1 h2 hck hv hfa hids
  obtain ⟨ip, hip, hpz0, hpz1, hpz2⟩ := info_parts tinfoP67
  obtain ⟨ib, hib, hbz0, hbz1, hbz2⟩ := info_parts tinfoB4
  obtain ⟨idd, hid', hiz0, hiz1, hiz2⟩ := info_parts tinfo49
  generalize applyR (l.map rOf) ops = R at *
  have HR := Lib.hid hR
  clear hR
  generalize hls : lastL ops = ls at *
  generalize moreL ops = ml at *
  generalize idsL ops = ids at *
  clear hls
  go_enter Tryz.func21, Tryz.ntmps21
  go_wp2_with fail
  refine CC.out.mono ?_
  rintro e w1 ⟨rfl, q1⟩
  have HQ1 := Lib.hid q1
  clear q1
  go_wp2_with fail
  refine (CL.out _ HQ1.out).mono ?_
  rintro e w2 ⟨lv, rfl, hown2, q2⟩
  have hls2 : Ops w2 lv ls := Sl.of_owns hown2
  obtain ⟨la, lc, rfl, hlc⟩ := hls2.value
  have HLC := Lib.hid hlc; have HLS := Lib.hid hls2; have HQ2 := Lib.hid (HQ1.out.trans q2)
  clear hlc hls2 hown2 q2
  have hin2 : Hid (∀ (W : World), Q w2 W → ∀ p ∈ l, Docs W p.1 p.2.2.1 ∧ Bools W p.2.1 p.2.2.2) := fun W q p hp => ⟨Sl.stays (HIN.out p hp).1 (HQ2.out.trans q), Sl.stays (HIN.out p hp).2 (HQ2.out.trans q)⟩
  go_wp2_with fail
  go_loopw [9, 10, 11, 12, 13, 14] (fun ov i _ _ _ _ wr => ∃ (k : Nat) (o : List PartM), k ≤ l.length ∧ i = .int .i64 (k : Nat) ∧ o.length = k ∧ Hid (o.map rOf = ((l.take k).map rOf).map (goneR ids)) ∧ Hid (wr.ownsRow w2.heap.size 67 2 ov o.length (partMVs o)) ∧ Hid (∀ p ∈ o, Docs w2 p.1 p.2.2.1 ∧ wr.ownsRow w2.heap.size 4 1 p.2.1 p.2.2.2.length (boolVs p.2.2.2)) ∧ Hid (Q w2 wr)) (fun _ i _ _ _ _ _ => l.length - (intOf i).toNat)
  case atStart => exact ⟨0, [], by omega, rfl, rfl, rfl, World.ownsRow_nil _ _ _ _, (fun p hp => by simp at hp), Q.refl _⟩
  case round =>
    obtain ⟨k, o, hk, rfl, hol, HOE, HO, HOP, HQ⟩ := hrel
    have hol2 : o.length ≤ 1000 := by omega
    have HOL := Lib.hid hol
    clear hol
    obtain ⟨wo, rfl⟩ : ∃ wo : World, wo = wr := ⟨_, rfl⟩
    by_cases hlt : k < l.length
    · obtain ⟨pb, po, rfl, hcc⟩ := HC.out (by omega)
      have z0 := cell_stays (HQ2.out.trans HQ.out) (hcc k hlt).1
      have z1 := cell_stays (HQ2.out.trans HQ.out) (hcc k hlt).2
      obtain ⟨hd, hg⟩ := hin2 _ HQ.out _ (List.getElem_mem hlt)
      obtain ⟨hle, h5⟩ := HL.out _ (List.getElem_mem hlt)
      have htk : l.take (k + 1) = l.take k ++ [l[k]] := List.take_succ_eq_append_getElem hlt
      have hmem : l[k] ∈ l := List.getElem_mem hlt
      have hki : (k : Int) < (l.length : Int) := by omega
      have hk0 : (0 : Int) ≤ (k : Int) := by omega
      clear hcc
      generalize l[k] = p at *
      obtain ⟨dv, gv, r⟩ := p
      simp only at z0 z1 hd hg hle h5 htk
      obtain ⟨da, dc, rfl, hdc⟩ := hd.value
      obtain ⟨ga, gc, rfl, hgc⟩ := hg.value
      have hbx := Blk.new wo 67 #[.slice da r.1.length dc, .slice none 0 0]
      have hqb := Q.alloc wo (.cells #[.slice da r.1.length dc, .slice none 0 0] 67)
      have Z0 := Lib.hid z0; have Z1 := Lib.hid z1; have HD := Lib.hid hdc; have HG := Lib.hid hgc; have HMEM := Lib.hid hmem; have HTK := Lib.hid htk; have HDD := Lib.hid hd; have HBX := Lib.hid hbx; have HQB := Lib.hid hqb
      clear z1 hd hg hdc hgc htk hbx hqb hmem
      go_wp2_with fail
      generalize hwa : wo.alloc (.cells #[.slice da r.1.length dc, .slice none 0 0] 67) = wa at *
      have hsza : wa.heap.size = wo.heap.size + 1 := by subst hwa; simp
      clear hwa z0
      go_loopw [12, 13, 14] (fun mv _ _ wr => ∃ (m : Nat) (gv : Value), m ≤ r.1.length ∧ mv = .int .i64 (m : Nat) ∧ Hid (Blk wr wo.heap.size 67 #[.slice da r.1.length dc, gv]) ∧ Hid (wr.ownsRow (wo.heap.size + 1) 4 1 gv m (boolVs (goneTo ids r m))) ∧ Hid (Q wo wr)) (fun mv _ _ _ => r.1.length - (intOf mv).toNat)
      case atStart => exact ⟨0, .slice none 0 0, by omega, rfl, HBX.out, World.ownsRow_nil _ _ _ _, HQB.out⟩
      case round =>
        obtain ⟨m, fv, hm, rfl, HB, HF, HQm⟩ := hrel
        obtain ⟨wm, rfl⟩ : ∃ wm : World, wm = wr := ⟨_, rfl⟩
        have y0 := cell_stays HQm.out Z0.out
        have y1 := cell_stays HQm.out Z1.out
        by_cases hlm : m < r.1.length
        · obtain ⟨db, dof, rfl, hdcc⟩ := HD.out (by omega)
          obtain ⟨gb, gof, rfl, hgcc⟩ := HG.out (by omega)
          have hqm := HQ.out.trans HQm.out
          have c0 := cell_stays HQm.out (hdcc m hlm).1
          have c2 := cell_stays HQm.out (hgcc m (by omega))
          have hmi : (m : Int) < (r.1.length : Int) := by omega
          have hmi2 : (m : Int) < (r.2.length : Int) := by omega
          have hmi0 : (0 : Int) ≤ (m : Int) := by omega
          have hsu := goneTo_succ ids r m hlm (by omega)
          have hgl := goneTo_len ids r m hle hm
          clear hdcc hgcc
          generalize r.1[m].1 = u at *
          generalize r.2[m]'(by omega) = g at *
          have HSU := Lib.hid hsu; have C0 := Lib.hid c0; have Y0 := Lib.hid y0; have HGL := Lib.hid hgl
          clear hsu c0 hgl hqm
          go_wp2_with fail
          clear c2 y0 y1
          go_loopw [13, 14] (fun bv jv wr => ∃ (j : Nat) (bb : Bool), j ≤ ls.length ∧ jv = .int .i64 (j : Nat) ∧ bv = .bool bb ∧ Hid (bb = (g || ((ls.take j).map (fun o => o.2.1)).contains u)) ∧ Hid (Q wm wr)) (fun _ jv _ => ls.length - (intOf jv).toNat)
          case atStart => exact ⟨0, g, by omega, rfl, rfl, by show _ = _; simp, Q.refl _⟩
          case round =>
            obtain ⟨j, bb, hj, rfl, rfl, HBB, HQj⟩ := hrel
            obtain ⟨wj, rfl⟩ : ∃ wj : World, wj = wr := ⟨_, rfl⟩
            by_cases hlj : j < ls.length
            · obtain ⟨lb, lof, rfl, hlcc⟩ := HLC.out (by omega)
              have d0 := cell_stays (HQ.out.trans (HQm.out.trans HQj.out)) (hlcc j hlj).2.1
              have d1 := cell_stays HQj.out C0.out
              have d2 := cell_stays HQj.out Y0.out
              have hji : (j : Int) < (ls.length : Int) := by omega
              have hji0 : (0 : Int) ≤ (j : Int) := by omega
              have hcs : ((ls.take (j + 1)).map (fun o => o.2.1)).contains u = (((ls.take j).map (fun o => o.2.1)).contains u || (u == ls[j].2.1)) := by
                rw [List.take_succ_eq_append_getElem hlj, List.map_append]; exact cont_snoc _ _ _
              clear hlcc
              generalize ls[j].2.1 = x at *
              have HCS := Lib.hid hcs
              clear hcs
              cases bb with
              | true =>
                go_wp2_with fail
                go_quiet (fail)
                go_wp2_with fail
                go_roundw
                case rel => exact ⟨j + 1, true, by omega, by go_num, rfl, by show _ = _; rw [HCS.out, ← Bool.or_assoc, ← HBB.out]; rfl, HQj.out.trans (Q.drewN _ _)⟩
                case measure => simp [intOf]; omega
              | false =>
                by_cases he : x = u
                · subst he
                  go_wp2_with fail
                  go_quiet (fail)
                  go_wp2_with fail
                  go_roundw
                  case rel => exact ⟨j + 1, true, by omega, by go_num, rfl, by show _ = _; rw [HCS.out, ← Bool.or_assoc, ← HBB.out]; simp, HQj.out.trans (Q.drewN _ _)⟩
                  case measure => simp [intOf]; omega
                · have heb1 : (x == u) = false := by simpa using he
                  have heb2 : @BEq.beq (List UInt8) instBEqOfDecidableEq x u = false := by simpa using he
                  have heb3 : @BEq.beq (List UInt8) List.instBEq x u = false := by simpa using he
                  have heb4 : (u == x) = false := by simpa using fun e => he e.symm
                  have HE := Lib.hid heb4
                  clear he heb4
                  go_wp2_with fail
                  go_quiet (fail)
                  go_wp2_with fail
                  go_roundw
                  case rel => exact ⟨j + 1, false, by omega, by go_num, rfl, by show _ = _; rw [HCS.out, ← Bool.or_assoc, ← HBB.out, HE.out]; rfl, HQj.out.trans (Q.drewN _ _)⟩
                  case measure => simp [intOf]; omega
            · have hje : j = ls.length := by omega
              subst hje
              have hbb : bb = (g || ids.contains u) := by rw [HBB.out, List.take_length, ← HIDS.out]
              have hbx := HB.out.stays HQj.out
              obtain ⟨k0, k1, f0, f1⟩ := Blk.c2 hbx
              have ho := ownsRow_below HF.out HQj.out
              have hsz : wo.heap.size + 1 ≤ wj.heap.size := by have := hbx.lt; omega
              have hqj := HQm.out.trans HQj.out
              have HBJ := Lib.hid hbx; have HQJ := Lib.hid hqj; have HBN := Lib.hid hbb
              clear hbx hqj hbb
              go_wp2_with (at_builtin; go_must (refine wpList_app wj (by rfl) _ _ 65 (by rfl) (wo.heap.size + 1) 4 _ ib (.bool false) 1 1 Tryz.underlying65 hib hbz0 hbz1 hbz2 rfl (by decide) (by decide) _ _ _ (by rfl) ho #[.bool bb] (by simp [Act.eval]) rfl ?c1 ?c2 hsz ?_))
              case c1 => simp [Value.oneCell']
              case c2 => omega
              intro g6 cap6 w6 hown6 hg6 hat6 hlt6 hsz6
              have qq : Below (wo.heap.size + 1) wj w6 := grown_below (Below.refl _ _) ho hg6 (Nat.le_refl _) (by omega)
              have hb6 := HBJ.out.stays' qq (by omega)
              obtain ⟨k0, k1, f0, f1⟩ := Blk.c2 hb6
              have hs6 : ∀ x, (w6.setCell ⟨wo.heap.size, 1, none⟩ x).cell? ⟨wo.heap.size, 1, none⟩ = some x := fun x => (hb6.set 1 x).cell 1 x rfl
              have hrow : w6.ownsRow (wo.heap.size + 1) 4 1 (.slice (some ⟨g6, 0, none⟩) (m + 1) cap6) (m + 1) (boolVs (goneTo ids r (m + 1))) := by
                rw [HSU.out, boolVs_append, ← HBN.out]; simpa using hown6
              have hrow7 := ownsRow_setCell_below hrow (a := ⟨wo.heap.size, 1, none⟩) (by simp) (.slice (some ⟨g6, 0, none⟩) (m + 1) cap6)
              have hb7 := hb6.set 1 (.slice (some ⟨g6, 0, none⟩) (m + 1) cap6)
              have hq7 : Q wo (w6.setCell ⟨wo.heap.size, 1, none⟩ (.slice (some ⟨g6, 0, none⟩) (m + 1) cap6)) := (HQJ.out.trans' qq hsz).setCell (by simp) _
              have HROW7 := Lib.hid hrow7; have HB7 := Lib.hid hb7; have HQ7 := Lib.hid hq7
              clear hrow7 hb7 hq7 hrow hs6 qq hown6 hg6 hat6 hb6 ho
              go_wp2_with fail
              go_roundw
              case rel => exact ⟨m + 1, _, by omega, by go_num, HB7.out, HROW7.out, HQ7.out⟩
              case measure => simp [intOf]; omega
        · have hme : m = r.1.length := by omega
          subst hme
          obtain ⟨k0, k1, f0, f1⟩ := Blk.c2 HB.out
          have ho := ownsRow_below HO.out HQm.out
          have hsz : w2.heap.size ≤ wm.heap.size := (HQ.out.trans HQm.out).size
          have hdoc : Docs w2 (.slice da r.1.length dc) r.1 := (hin2 w2 (Q.refl _) (.slice da r.1.length dc, .slice ga r.2.length gc, r) HMEM.out).1
          have HDOC := Lib.hid hdoc
          clear hdoc
          obtain ⟨fa, fc, hfv, _⟩ := owns_value HF.out
          subst hfv
          go_wp2_with (at_builtin; go_must (refine wpList_app wm (by rfl) _ _ 28 (by rfl) w2.heap.size 67 _ ip (.agg #[.slice none 0 0, .slice none 0 0]) 2 48 Tryz.underlying28 hip hpz0 hpz1 hpz2 rfl (by decide) (by decide) _ _ _ (by rfl) ho #[.slice da r.1.length dc, .slice fa r.1.length fc] (by simp [Act.eval]) rfl ?c1 ?c2 hsz ?_))
          case c1 => simp [Value.oneCell']
          case c2 => omega
          intro g6 cap6 w6 hown6 hg6 hat6 hlt6 hsz6
          have q6 : Q w2 w6 := grown_below (HQ.out.trans HQm.out) ho hg6 (Nat.le_refl _) (by omega)
          have hop6 : ∀ p ∈ o ++ [((Value.slice da r.1.length dc, Value.slice fa r.1.length fc, goneR ids r) : PartM)], Docs w2 p.1 p.2.2.1 ∧ w6.ownsRow w2.heap.size 4 1 p.2.1 p.2.2.2.length (boolVs p.2.2.2) := by
            intro p hp
            rcases List.mem_append.1 hp with hp | hp
            · exact ⟨(HOP.out p hp).1, row_beside (ownsRow_below (HOP.out p hp).2 HQm.out) ho hg6 (by decide)⟩
            · rw [List.mem_singleton] at hp
              subst hp
              refine ⟨HDOC.out, ?_⟩
              have e := goneTo_all ids r hle
              have e2 := goneR_len ids r hle
              show w6.ownsRow _ _ _ (.slice fa r.1.length fc) (goneR ids r).2.length (boolVs (goneR ids r).2)
              rw [e2, ← e]
              exact owns_low (row_beside HF.out ho hg6 (by decide)) (by have := HQ.out.size; omega)
          have hoe6 : (o ++ [((Value.slice da r.1.length dc, Value.slice fa r.1.length fc, goneR ids r) : PartM)]).map rOf = ((l.take (k + 1)).map rOf).map (goneR ids) := by
            rw [HTK.out, List.map_append, HOE.out]; simp [rOf]
          have hown6 : w6.ownsRow w2.heap.size 67 2 (.slice (some ⟨g6, 0, none⟩) (o.length + 1) cap6) (o ++ [((Value.slice da r.1.length dc, Value.slice fa r.1.length fc, goneR ids r) : PartM)]).length (partMVs (o ++ [((Value.slice da r.1.length dc, Value.slice fa r.1.length fc, goneR ids r) : PartM)])) := by
            rw [partMVs_append, List.length_append]; simpa using hown6
          have HO6 := Lib.hid hown6; have HQ6 := Lib.hid q6; have HOP6 := Lib.hid hop6; have HOE6 := Lib.hid hoe6
          clear hown6 q6 hop6 hoe6 hg6 hat6 ho k0 k1 f0 f1
          go_wp2_with fail
          go_roundw
          case rel => exact ⟨k + 1, o ++ [((Value.slice da r.1.length dc, Value.slice fa r.1.length fc, goneR ids r) : PartM)], by omega, by go_num, by rw [List.length_append, HOL.out]; rfl, HOE6, HO6, HOP6, HQ6⟩
          case measure => simp [intOf]; omega
    · have hke : k = l.length := by omega
      have hoe : o.map rOf = (l.map rOf).map (goneR ids) := by rw [HOE.out, hke, List.take_length]
      have HOE2 := Lib.hid hoe
      clear hoe HOE
      subst hke
      go_wp2_with fail
      go_loopw [15, 16] (fun dv mv wr => ∃ (m : Nat) (ds : List DocL), m ≤ ls.length ∧ mv = .int .i64 (m : Nat) ∧ ds.length ≤ m ∧ Hid (ds = ((ls.take m).filter (fun o => !o.1)).map (·.2)) ∧ Hid (wr.ownsRow wo.heap.size 49 2 dv ds.length (docVs ds)) ∧ Hid (Q wo wr)) (fun _ mv _ => ls.length - (intOf mv).toNat)
      case atStart => exact ⟨0, [], by omega, rfl, by simp, rfl, World.ownsRow_nil _ _ _ _, Q.refl _⟩
      case round =>
        obtain ⟨m, ds, hm, rfl, hdl, HDE, HDO, HQm⟩ := hrel
        obtain ⟨wm, rfl⟩ : ∃ wm : World, wm = wr := ⟨_, rfl⟩
        by_cases hlm : m < ls.length
        · obtain ⟨lb, lof, rfl, hlcc⟩ := HLC.out (by omega)
          obtain ⟨z0, z1, z2⟩ := hlcc m hlm
          have c0 := cell_stays (HQ.out.trans HQm.out) z0
          have c1 := cell_stays (HQ.out.trans HQm.out) z1
          have c2 := cell_stays (HQ.out.trans HQm.out) z2
          have hmi : (m : Int) < (ls.length : Int) := by omega
          have hmi0 : (0 : Int) ≤ (m : Int) := by omega
          have htk : ls.take (m + 1) = ls.take m ++ [ls[m]] := List.take_succ_eq_append_getElem hlm
          clear hlcc z0 z1 z2
          generalize ls[m] = x at *
          obtain ⟨del, id, tx⟩ := x
          simp only at c0 c1 c2
          cases del with
          | true =>
            have hst : ds = ((ls.take (m + 1)).filter (fun o => !o.1)).map (·.2) := by rw [htk, List.filter_append, List.map_append, ← HDE.out]; simp
            have HST := Lib.hid hst
            clear hst htk
            go_wp2_with fail
            go_roundw
            case rel => exact ⟨m + 1, ds, by omega, by go_num, by omega, HST, HDO, HQm⟩
            case measure => simp [intOf]; omega
          | false =>
            have hst : ds ++ [(id, tx)] = ((ls.take (m + 1)).filter (fun o => !o.1)).map (·.2) := by rw [htk, List.filter_append, List.map_append, ← HDE.out]; simp
            have HST := Lib.hid hst
            have ho := HDO.out
            have hsz : wo.heap.size ≤ wm.heap.size := HQm.out.size
            clear hst htk
            go_wp2_with (at_builtin; go_must (refine wpList_app wm (by rfl) _ _ 37 (by rfl) wo.heap.size 49 _ idd (.agg #[strV [], strV []]) 2 32 Tryz.underlying37 hid' hiz0 hiz1 hiz2 rfl (by decide) (by decide) _ _ _ (by rfl) ho #[strV id, strV tx] (by simp [Act.eval]) rfl ?c1 ?c2 hsz ?_))
            case c1 => simp [Value.oneCell']
            case c2 => omega
            intro g6 cap6 w6 hown6 hg6 hat6 hlt6 hsz6
            have q6 : Q wo w6 := grown_below HQm.out ho hg6 (Nat.le_refl _) (by omega)
            have hown6 : w6.ownsRow wo.heap.size 49 2 (.slice (some ⟨g6, 0, none⟩) (ds.length + 1) cap6) (ds ++ [(id, tx)]).length (docVs (ds ++ [(id, tx)])) := by
              rw [docVs_append, List.length_append]; simpa using hown6
            have HO6 := Lib.hid hown6; have HQ6 := Lib.hid q6
            clear hown6 q6 hg6 hat6 ho c0 c1 c2
            go_wp2_with fail
            go_roundw
            case rel => exact ⟨m + 1, ds ++ [(id, tx)], by omega, by go_num, by simp; omega, HST, HO6, HQ6⟩
            case measure => simp [intOf]; omega
        · have hme : m = ls.length := by omega
          have hds : ds = ml := by rw [HDE.out, HFA.out, hme, List.take_length]
          clear HDE HFA
          subst hds
          subst hme
          have hqf := HQ2.out.trans (HQ.out.trans HQm.out)
          have hpart : ∀ p ∈ o, Docs wm p.1 p.2.2.1 ∧ wm.ownsRow w2.heap.size 4 1 p.2.1 p.2.2.2.length (boolVs p.2.2.2) := fun p hp => ⟨Sl.stays (HOP.out p hp).1 (HQ.out.trans HQm.out), ownsRow_below (HOP.out p hp).2 HQm.out⟩
          have hom := ownsRow_below HO.out HQm.out
          have HQF := Lib.hid hqf; have HPART := Lib.hid hpart; have HOM := Lib.hid hom
          clear hqf hpart hom
          obtain ⟨a5, c5, hv5, _⟩ := owns_value HDO.out
          subst hv5
          obtain ⟨a6, c6, hv6, _⟩ := owns_value HOM.out
          subst hv6
          by_cases hz : ds.length = 0
          · have hnil : ds = [] := List.eq_nil_of_length_eq_zero hz
            clear HMOK
            subst hnil
            go_wp2_with fail
            go_ret3
            refine ⟨⟨_, o, by rw [HR.out]; rfl, ⟨Sl.of_owns HOM.out, fun p hp => ⟨(HPART.out p hp).1, Sl.of_owns (HPART.out p hp).2⟩, fun _ _ _ e => by cases e; exact (owns_cap2 HOM.out).1⟩, ?_⟩, HQF.out⟩
            rw [HOE2.out, HR.out]; simp [freshR]
          · have hne : ds ≠ [] := fun e => hz (by rw [e]; rfl)
            have hds := Sl.of_owns HDO.out
            have hle5 : ds.length ≤ 500 := by omega
            have hbig : ∀ d ∈ ds, d.1.length ≤ 9223372036854775807 ∧ d.2.length ≤ 9223372036854775807 := fun d hd => by
              have := rightB_len (HMOK.out.1 d hd); omega
            have hb : (buildS ds).1 = segE ds (idxL ds) := by unfold buildS; rw [if_neg (by omega), if_pos HMOK.out, idx_eq]
            have cb := RBuild_any _ ds wm hds (by omega) hbig
            rw [hb] at cb
            have CB := Lib.hid cb; have HNE := Lib.hid hne
            clear cb hb hds hbig hne HMOK
            generalize segE ds (idxL ds) = sg at *
            go_wp2_with fail
            refine CB.out.mono ?_
            rintro e w5 ⟨rfl, q5⟩
            obtain ⟨w6, hmk, hrow, hgm⟩ := run_make_full (P := Tryz.prog) w5 w2.heap.size 65 4 ib (.bool false) 1 Tryz.underlying65 hib hbz0 hbz1 .i64 .i64 ds.length (by rw [hbz2]; omega) (by unfold maxLen; omega) (by have := (HQ.out.trans (HQm.out.trans q5)).size; omega)
            rw [made_bools] at hrow
            have q6 : Q w5 w6 := by
              refine Below.grown (Below.refl _ _) hgm (Nat.le_refl _) (fun k hk => by simp at hk)
            have hdoc6 := Sl.stays (Sl.of_owns HDO.out) (q5.trans q6)
            have hom6 := ownsRow_below HOM.out (q5.trans q6)
            have hpart6 : ∀ p ∈ o, Docs w6 p.1 p.2.2.1 ∧ w6.ownsRow w2.heap.size 4 1 p.2.1 p.2.2.2.length (boolVs p.2.2.2) := fun p hp => ⟨Sl.stays (HPART.out p hp).1 (q5.trans q6), ownsRow_below (HPART.out p hp).2 (q5.trans q6)⟩
            have hdo6 := ownsRow_below HDO.out (q5.trans q6)
            have HROW := Lib.hid hrow; have HQ26 := Lib.hid (HQ.out.trans (HQm.out.trans (q5.trans q6))); have HQ6 := Lib.hid (HQF.out.trans (q5.trans q6)); have HPART6 := Lib.hid hpart6; have HDO6 := Lib.hid hdo6
            have hsz : w2.heap.size ≤ w6.heap.size := (HQ.out.trans (HQm.out.trans (q5.trans q6))).size
            clear hrow hpart6 hdoc6 hdo6 q5 q6 hgm
            go_wp2_with (at_builtin; go_must (refine wpList_app w6 (by rfl) _ _ 28 (by rfl) w2.heap.size 67 _ ip (.agg #[.slice none 0 0, .slice none 0 0]) 2 48 Tryz.underlying28 hip hpz0 hpz1 hpz2 rfl (by decide) (by decide) _ _ _ (by rfl) hom6 #[.slice a5 ds.length c5, .slice (some ⟨w5.heap.size, 0, none⟩) ds.length ds.length] (by simp [Act.eval]) rfl ?c1 ?c2 hsz ?_))
            case c1 => simp [Value.oneCell']
            case c2 => omega
            intro g7 cap7 w7 hown7 hg7 hat7 hlt7 hsz7
            have q7 : Q w w7 := (grown_below HQ6.out hom6 hg7 (by have := HQ2.out.size; omega) HQ6.out.size : Below w.heap.size w w7)
            have hall : ∀ p ∈ o ++ [((Value.slice a5 ds.length c5, Value.slice (some ⟨w5.heap.size, 0, none⟩) ds.length ds.length, ds, List.replicate ds.length false) : PartM)], Docs w7 p.1 p.2.2.1 ∧ Bools w7 p.2.1 p.2.2.2 := by
              intro p hp
              rcases List.mem_append.1 hp with hp | hp
              · refine ⟨?_, Sl.of_owns (row_beside (HPART6.out p hp).2 hom6 hg7 (by decide))⟩
                exact Sl.stays (HOP.out p hp).1 (grown_below HQ26.out hom6 hg7 (Nat.le_refl _) HQ26.out.size : Below w2.heap.size w2 w7)
              · rw [List.mem_singleton] at hp
                subst hp
                refine ⟨Sl.of_owns (row_beside HDO6.out hom6 hg7 (by decide)), ?_⟩
                have := Sl.of_owns (row_beside HROW.out hom6 hg7 (by decide))
                show Sl w7 _ (List.replicate ds.length false).length 1 _
                rw [List.length_replicate]; exact this
            have hrow7 : w7.ownsRow w2.heap.size 67 2 (.slice (some ⟨g7, 0, none⟩) (o.length + 1) cap7) (o ++ [((Value.slice a5 ds.length c5, Value.slice (some ⟨w5.heap.size, 0, none⟩) ds.length ds.length, ds, List.replicate ds.length false) : PartM)]).length (partMVs (o ++ [((Value.slice a5 ds.length c5, Value.slice (some ⟨w5.heap.size, 0, none⟩) ds.length ds.length, ds, List.replicate ds.length false) : PartM)])) := by
              rw [partMVs_append, List.length_append]; simpa using hown7
            have HALL := Lib.hid hall; have HROW7 := Lib.hid hrow7; have HQ7 := Lib.hid q7
            clear hall hrow7 q7 hown7 hg7 hat7 hom6
            go_wp2_with fail
            go_ret3
            refine ⟨⟨_, _, by rw [HR.out]; simp only [if_neg HNE.out]; rfl, ⟨Sl.of_owns HROW7.out, HALL.out, fun _ _ _ e => by cases e; exact (owns_cap2 (by rw [List.length_append] at HROW7; exact HROW7.out)).1⟩, ?_⟩, HQ7.out⟩
            rw [List.map_append, HOE2.out, HR.out]
            simp [freshR, HNE.out, rOf]
set_option maxRecDepth 100000 in
set_option maxHeartbeats 4000000 in
theorem RApply15_any (v : Value) (l : List PartM) (ov : Value) (ops : List OpL) (w : World) (hv : PartsM w v l) (hn : l.length ≤ 1000) (hl : ∀ p ∈ l, p.2.2.2.length = p.2.2.1.length ∧ p.2.2.1.length ≤ 500)
    (ho : Ops w ov ops) (hon : ops.length ≤ 9223372036854775807) (hol : ∀ o ∈ ops, o.2.1.length ≤ 9223372036854775807 ∧ o.2.2.length ≤ 9223372036854775807) :
    Calls Tryz.prog 21 #[v, ov] w fun e w' => RPost w (applyR (l.map rOf) ops) e w' := by
  by_cases h1 : ops.length < 1 ∨ 50 < ops.length
  · have hR : applyR (l.map rOf) ops = (l.map rOf, [], 6) := by unfold applyR; rw [if_pos h1]
    have hck : checkL ops = 6 := by unfold checkL; rw [if_pos h1]
    have cc := RCheck_any ov ops w ho hon hol
    rw [hck] at cc
    rw [hR]
    obtain ⟨oa, oc, rfl, _⟩ := ho.value
    obtain ⟨a, cap, rfl, _⟩ := hv.value
    have CC := Lib.hid cc; have HV := Lib.hid hv
    clear cc hck hR hv ho hol hl h1
    go_enter Tryz.func21, Tryz.ntmps21
    go_wp2_with fail
    refine CC.out.mono ?_
    rintro e w1 ⟨rfl, q1⟩
    have hv1 := HV.out.stays q1
    have HV1 := Lib.hid hv1; have HQ1 := Lib.hid q1
    clear q1 hv1
    go_wp2_with fail
    go_ret3
    exact ⟨⟨_, l, rfl, HV1.out, rfl⟩, HQ1.out⟩
  · by_cases h2 : ops.all opRight = true
    · exact RApply_good v l ov ops w hv hn hl ho hol h1 h2
    · have hR : applyR (l.map rOf) ops = (l.map rOf, [], 1) := by unfold applyR; rw [if_neg h1, if_neg h2]
      have hck : checkL ops = 1 := by unfold checkL; rw [if_neg h1, if_neg h2]
      have cc := RCheck_any ov ops w ho hon hol
      rw [hck] at cc
      rw [hR]
      obtain ⟨oa, oc, rfl, _⟩ := ho.value
      obtain ⟨a, cap, rfl, _⟩ := hv.value
      have CC := Lib.hid cc; have HV := Lib.hid hv
      clear cc hck hR hv ho hol hl h1 h2
      go_enter Tryz.func21, Tryz.ntmps21
      go_wp2_with fail
      refine CC.out.mono ?_
      rintro e w1 ⟨rfl, q1⟩
      have hv1 := HV.out.stays q1
      have HV1 := Lib.hid hv1; have HQ1 := Lib.hid q1
      clear q1 hv1
      go_wp2_with fail
      go_ret3
      exact ⟨⟨_, l, rfl, HV1.out, rfl⟩, HQ1.out⟩
end Go.Proofs.YtoabhcfmdkhmgaaGreatDoor
end
