/- Joined texts of one proof: what is needed of WCacF, WCacG, WCacH. -/
import Derived.Test.YtnmijegmbomfdaaGreatDoorJWCacE
import Derived.Shelf.SlSortCmp.Whole1
import Derived.Shelf.Lay
import Derived.Ground.SlsfProg
set_option linter.unusedSimpArgs false
set_option linter.unusedVariables false
set_option linter.unnecessarySimpa false
set_option maxRecDepth 100000
set_option maxHeartbeats 16000000
namespace Go.Proofs.YtnmijegmbomfdaaGreatDoor
section
open Go.Shelf Go.RowKit Go.Lib Go.Sort
open Go.RowKit
def Tryz.sortInt_ren : Go.Shelf.Ren := ⟨fun | 6 => 186 | 15 => 179 | 14 => 206 | 28 => 196 | 29 => 197 | 20 => 217 | 21 => 218 | 22 => 219 | 23 => 220 | 24 => 221 | 25 => 222 | 26 => 223 | 27 => 224 | 46 => 229 | 47 => 208 | 48 => 209 | 49 => 230 | 50 => 231 | 57 => 236 | n => n, fun | 22 => 155 | 24 => 3 | 25 => 37 | 3 => 3 | 39 => 174 | 0 => 0 | 53 => 148 | 55 => 99 | 4 => 4 | 46 => 220 | 45 => 219 | 50 => 108 | 5 => 5 | 9 => 9 | 66 => 235 | 70 => 239 | 76 => 250 | 77 => 251 | n => n, fun | n => n⟩
theorem Tryz.sortInt : Go.Proofs.SlLaysF.n6 Tryz.prog Tryz.sortInt_ren := {
  mixed := by kernel_rfl
  f6 := ⟨Tryz.f186.name, by decide, Tryz.func186.trans (congrArg some (by kernel_rfl))⟩
  f14 := ⟨Tryz.f206.name, by decide, Tryz.func206.trans (congrArg some (by kernel_rfl))⟩
  f15 := Tryz.func179.trans (congrArg some (by kernel_rfl))
  f20 := ⟨Tryz.f217.name, by decide, Tryz.func217.trans (congrArg some (by kernel_rfl))⟩
  f21 := ⟨Tryz.f218.name, by decide, Tryz.func218.trans (congrArg some (by kernel_rfl))⟩
  f22 := ⟨Tryz.f219.name, by decide, Tryz.func219.trans (congrArg some (by kernel_rfl))⟩
  f23 := ⟨Tryz.f220.name, by decide, Tryz.func220.trans (congrArg some (by kernel_rfl))⟩
  f24 := ⟨Tryz.f221.name, by decide, Tryz.func221.trans (congrArg some (by kernel_rfl))⟩
  f25 := ⟨Tryz.f222.name, by decide, Tryz.func222.trans (congrArg some (by kernel_rfl))⟩
  f26 := ⟨Tryz.f223.name, by decide, Tryz.func223.trans (congrArg some (by kernel_rfl))⟩
  f27 := ⟨Tryz.f224.name, by decide, Tryz.func224.trans (congrArg some (by kernel_rfl))⟩
  f28 := Tryz.func196.trans (congrArg some (by kernel_rfl))
  f29 := Tryz.func197.trans (congrArg some (by kernel_rfl))
  f46 := ⟨Tryz.f229.name, by decide, Tryz.func229.trans (congrArg some (by kernel_rfl))⟩
  f47 := Tryz.func208.trans (congrArg some (by kernel_rfl))
  f48 := Tryz.func209.trans (congrArg some (by kernel_rfl))
  f49 := ⟨Tryz.f230.name, by decide, Tryz.func230.trans (congrArg some (by kernel_rfl))⟩
  f50 := ⟨Tryz.f231.name, by decide, Tryz.func231.trans (congrArg some (by kernel_rfl))⟩
  f57 := ⟨Tryz.f236.name, by decide, Tryz.func236.trans (congrArg some (by kernel_rfl))⟩
  t0 := Tryz.underlying0
  a0 := Tryz.isAgg0
  z0 := Tryz.sizeOf0
  v0 := Tryz.zeroValue0
  t3 := Tryz.underlying3
  a3 := Tryz.isAgg3
  z3 := Tryz.sizeOf3
  v3 := Tryz.zeroValue3
  t4 := Tryz.underlying4
  a4 := Tryz.isAgg4
  z4 := Tryz.sizeOf4
  v4 := Tryz.zeroValue4
  t5 := Tryz.underlying5
  a5 := Tryz.isAgg5
  z5 := Tryz.sizeOf5
  v5 := Tryz.zeroValue5
  t9 := Tryz.underlying9
  a9 := Tryz.isAgg9
  z9 := Tryz.sizeOf9
  v9 := Tryz.zeroValue9
  t22 := Tryz.underlying155
  a22 := Tryz.isAgg155
  z22 := Tryz.sizeOf155
  v22 := Tryz.zeroValue155
  a24 := Tryz.isAgg3
  z24 := Tryz.sizeOf3
  t25 := Tryz.underlying37
  a25 := Tryz.isAgg37
  z25 := Tryz.sizeOf37
  v25 := Tryz.zeroValue37
  t39 := Tryz.underlying174
  a39 := Tryz.isAgg174
  z39 := Tryz.sizeOf174
  v39 := Tryz.zeroValue174
  t45 := Tryz.underlying219
  a45 := Tryz.isAgg219
  z45 := Tryz.sizeOf219
  v45 := Tryz.zeroValue219
  t46 := Tryz.underlying220
  a46 := Tryz.isAgg220
  z46 := Tryz.sizeOf220
  v46 := Tryz.zeroValue220
  t50 := Tryz.underlying108
  a50 := Tryz.isAgg108
  z50 := Tryz.sizeOf108
  v50 := Tryz.zeroValue108
  t53 := Tryz.underlying148
  a53 := Tryz.isAgg148
  z53 := Tryz.sizeOf148
  v53 := Tryz.zeroValue148
  t55 := Tryz.underlying99
  a55 := Tryz.isAgg99
  z55 := Tryz.sizeOf99
  v55 := Tryz.zeroValue99
  t66 := Tryz.underlying235
  a66 := Tryz.isAgg235
  z66 := Tryz.sizeOf235
  v66 := Tryz.zeroValue235
  t70 := Tryz.underlying239
  a70 := Tryz.isAgg239
  z70 := Tryz.sizeOf239
  v70 := Tryz.zeroValue239
  t76 := Tryz.underlying250
  a76 := Tryz.isAgg250
  z76 := Tryz.sizeOf250
  v76 := Tryz.zeroValue250
  t77 := Tryz.underlying251
  a77 := Tryz.isAgg251
  z77 := Tryz.sizeOf251
  v77 := Tryz.zeroValue251 }
theorem Collect_any (B mb : Nat) (m : List (Nat × Value)) (w : World) (hb : Boxed w B 141 (.map (some mb))) (hm : MapI w mb m) (hlen : m.length ≤ 1000000) :
    Calls Tryz.prog 154 #[.func (.func 156) #[] #[.pointer (some ⟨B, 0, none⟩)]] w fun e w' =>
      ∃ (v : Value) (ks : List Nat), e = .returned v ∧ ks.Perm (m.map (·.1)) ∧ w'.ownsRow w.heap.size 3 1 v ks.length (ks.map keyI) ∧ Q w w' := by
  have ha := AppendSeq_any B mb m w hb hm hlen
  have HA := Lib.hid ha
  clear ha hb hm
  go_enter Tryz.func154, Tryz.ntmps154
  go_wp2_with fail
  refine HA.out.mono ?_
  rintro e w1 ⟨v, ks, rfl, hp, ho, q⟩
  have HP := Lib.hid hp; have HO := Lib.hid ho; have HQ := Lib.hid q
  clear hp ho q
  go_wp2_with fail
  go_ret
  exact ⟨_, ks, rfl, HP.out, HO.out, HQ.out⟩
theorem sort_grown1 {α : Type} [Inhabited α] (enc : α → Value) (w : World) (blk off n : Nat) (d : Array α) (os : Array Obj) : w.grownBy (sortWorld enc w blk off n d os) (some blk) := by
  have hs : (Go.Sort.putRow enc (Go.Sort.ahead w n) blk off d).heap.size = w.heap.size := by rw [Go.Sort.size_putRow]; rfl
  refine ⟨rfl, rfl, rfl, ?_, fun k hk hne => ?_⟩
  · unfold sortWorld
    rw [Go.Sort.size_grow]
    omega
  · have hb : blk ≠ k := fun e => hne (by rw [e])
    show ((Go.Sort.putRow enc (Go.Sort.ahead w n) blk off d).heap ++ os)[k]? = w.heap[k]?
    rw [Array.getElem?_append_left (by omega)]
    show (w.heap.modify blk _)[k]? = w.heap[k]?
    rw [Array.getElem?_modify, if_neg hb]
theorem BlocksCmp_any (w : World) (F : Nat → Prop) (bc cb p most clock : Nat) (ms : Int) (mb : Nat) (m : KeptLs) (h : CacG w F cb p most clock ms mb m) (hk : (m.map (·.1)).Nodup) (hb : w.cell? ⟨bc, 0, none⟩ = some (ptrV cb)) (x y : Nat × KeptL) (hx : x ∈ m) (hy : y ∈ m)
    (hu : ∀ z ∈ m, z.2.used ≤ 2000000000000000000) :
    Calls Tryz.prog 175 #[keyI x.1, keyI y.1, .pointer (some ⟨bc, 0, none⟩)] w fun e w' => e = .returned (.int .i64 ((y.2.used : Int) - (x.2.used : Int))) ∧ ∃ q, w' = w.drewN q := by
  have c4 := h.box.cell 4 (.map (some mb)) rfl
  have gx := getI_of_mem hk (k := x.1) (v := x.2) hx
  have gy := getI_of_mem hk (k := y.1) (v := y.2) hy
  have ux := hu x hx; have uy := hu y hy
  have dx := (h.kept x hx).1.cell 3 (.int .i64 (x.2.used : Nat)) rfl
  have dy := (h.kept y hy).1.cell 3 (.int .i64 (y.2.used : Nat)) rfl
  have lx := run_lookup_int (P := Tryz.prog) (w := w.drew) (h.keep (Q.drew w)).map 141 3 150 Tryz.underlying141 Tryz.underlying3 (.pointer none) (run_mapElem _) x.1 false
  have ly := run_lookup_int (P := Tryz.prog) (w := w.drew) (h.keep (Q.drew w)).map 141 3 150 Tryz.underlying141 Tryz.underlying3 (.pointer none) (run_mapElem _) y.1 false
  simp only [Bool.false_eq_true, if_false] at lx ly
  rw [h.lookHit gx] at lx
  rw [h.lookHit gy] at ly
  clear h gx gy hu hk hx hy
  obtain ⟨x1, xp, xd, xb, xu⟩ := x
  obtain ⟨y1, yp, yd, yb, yu⟩ := y
  simp only at *
  go_enter Tryz.func175, Tryz.ntmps175
  go_wp2_with fail
  go_region
  all_goals
    go_wp2_with fail
    go_ret
    exact ⟨rfl, 1, rfl⟩
abbrev KEnt (m : KeptLs) := { x : Nat × KeptL // x ∈ m }
def kentK {m : KeptLs} (x : KEnt m) : Value := keyI x.1.1
def kentC {m : KeptLs} (x y : KEnt m) : Int := (y.1.2.used : Int) - (x.1.2.used : Int)
theorem kent_swo (m : KeptLs) : Go.Sort.SWO (ltOf (kentC (m := m))) := by
  refine ⟨fun x => by simp [ltOf, kentC], fun x y z h1 h2 => ?_, fun x y z h1 h2 => ?_⟩
  · unfold ltOf kentC at *
    have h1 := of_decide_eq_true h1
    have h2 := of_decide_eq_true h2
    exact decide_eq_true (by omega)
  · unfold ltOf kentC at *
    have h1 := of_decide_eq_false h1
    have h2 := of_decide_eq_false h2
    exact decide_eq_false (by omega)
theorem row_cell {w : World} {g n cap size : Nat} {xs : List Value} (h : Sl w (.slice (some ⟨g, 0, none⟩) n cap) n size xs) (hn : 0 < n) (j : Nat) (u : Value) (hj : xs[j]? = some u) : w.cell? ⟨g, j, none⟩ = some u := by
  obtain ⟨_, a, c, hv, hc1⟩ := h
  obtain ⟨b2, off, rfl, hc2⟩ := hc1 hn
  have h2 := hc2 j u hj
  simp only [Value.slice.injEq, Option.some.injEq, Addr.mk.injEq] at hv
  obtain ⟨⟨rfl, rfl, _⟩, _⟩ := hv
  rwa [Nat.zero_add] at h2
def kents (m : KeptLs) : (ks : List Nat) → (∀ k ∈ ks, k ∈ m.map (·.1)) → List (KEnt m)
  | [], _ => []
  | k :: ks, h => ⟨(k, (getI k m).get (by
      cases hg : getI k m with
      | some v => rfl
      | none =>
        obtain ⟨x, hx, e⟩ := List.mem_map.1 (h k (List.mem_cons_self ..))
        exact absurd e (getI_none.1 hg x hx))), getI_mem (Option.some_get _).symm⟩ :: kents m ks (fun j hj => h j (List.mem_cons_of_mem _ hj))
theorem kents_keys (m : KeptLs) : ∀ (ks : List Nat) (h : ∀ k ∈ ks, k ∈ m.map (·.1)), (kents m ks h).map (fun x => x.1.1) = ks
  | [], _ => rfl
  | k :: ks, h => by rw [kents, List.map_cons, kents_keys m ks]
theorem SortKeys_any (w : World) (F : Nat → Prop) (bc cb p most clock : Nat) (ms : Int) (mb : Nat) (m : KeptLs) (base : Nat) (v : Value) (ks : List Nat) (h : CacG w F cb p most clock ms mb m) (hk : (m.map (·.1)).Nodup) (hb : Boxed w bc 92 (ptrV cb)) (hu : ∀ z ∈ m, z.2.used ≤ 2000000000000000000)
    (ho : w.ownsRow base 3 1 v ks.length (ks.map keyI)) (hks : ∀ k ∈ ks, k ∈ m.map (·.1)) (hn : 0 < ks.length) (hlen : ks.length ≤ 1000000) (hF : ∀ k, F k → k < base) (hbc : bc < base) :
    Calls Tryz.prog 186 #[v, .func (.func 175) #[] #[.pointer (some ⟨bc, 0, none⟩)]] w fun e w' => e = .returned (.tuple #[]) ∧ ∃ (g cap : Nat) (ks' : List Nat), v = .slice (some ⟨g, 0, none⟩) ks.length cap ∧ base ≤ g ∧ ks'.Perm ks ∧ (∀ i (hi : i < ks'.length), w'.cell? ⟨g, i, none⟩ = some (keyI ks'[i])) ∧ w.grownBy w' (some g) ∧ g < w'.heap.size := by
  have hne : Nonempty (KEnt m) := by
    obtain ⟨x, hx, _⟩ := List.mem_map.1 (hks ks[0] (List.getElem_mem hn))
    exact ⟨⟨x, hx⟩⟩
  haveI : Inhabited (KEnt m) := ⟨Classical.choice hne⟩
  rcases ho.2 with ⟨_, hz⟩ | ⟨g, cap, cur, rfl, hbg, hg, hcap, _⟩
  · omega
  · have hsl := Sl.of_owns ho
    obtain ⟨d, hd⟩ : ∃ d : Array (KEnt m), d = (kents m ks hks).toArray := ⟨_, rfl⟩
    have hds : d.size = ks.length := by
      have := congrArg List.length (kents_keys m ks hks)
      rw [List.length_map] at this
      rw [hd]; simpa using this
    have hdk : ∀ j (hj : j < d.size), (d[j]!).1.1 = ks[j]'(by rw [← hds]; exact hj) := fun j hj => by
      have e := kents_keys m ks hks
      have hj' : j < (kents m ks hks).length := by rw [hd] at hj; simpa using hj
      rw [getElem!_pos d j hj]
      subst hd
      have := List.getElem_of_eq e (by simpa using hj' : j < ((kents m ks hks).map (fun x => x.1.1)).length)
      simpa using this
    have hH : Go.Sort.Holds kentK w g 0 d := fun j hj => by
      have hj' : j < ks.length := by rw [← hds]; exact hj
      have hc := row_cell hsl hn j (keyI ks[j]) (by simp [hj'])
      rw [Nat.zero_add]
      refine ⟨by rw [hc]; unfold kentK; rw [hdk j hj], ?_⟩
      have : Blk w g 3 cur := hg
      exact this.frozen j
    have hcmp : CmpLays1 Tryz.prog 175 #[.pointer (some ⟨bc, 0, none⟩)] (kentK (m := m)) (kentC (m := m)) g 0 d.size w := CmpReads.lays (fun mm os dk hdk x y => by
      have hgr := sort_grown1 (kentK (m := m)) w g 0 mm dk os
      have ht : Turn (fun k => k = g) w (sortWorld (kentK (m := m)) w g 0 mm dk os) := CacG.turn_of_map hgr
      have h2 := h.beside ht (fun k hk e => by have := hF k hk; omega)
      have hne2 : ¬ bc = g := by omega
      have hb2 : (sortWorld (kentK (m := m)) w g 0 mm dk os).cell? ⟨bc, 0, none⟩ = some (ptrV cb) := ht.cell hb.cell hne2
      exact BlocksCmp_any _ F bc cb p most clock ms mb m h2 hk hb2 x.1 y.1 x.2 y.2 hu)
    have hs := Any.slices_SortFunc Tryz.sortInt (kentK (m := m)) (fun _ => rfl) (kentC (m := m)) (kent_swo m) 175 #[.pointer (some ⟨bc, 0, none⟩)] g 0 cap d w (enters_of Tryz.func175 (by kernel_rfl) rfl) hcmp hH (lt_of_get hg) (by omega)
    rw [hds] at hs
    change Calls Tryz.prog 186 _ _ _ at hs
    refine hs.mono ?_
    rintro e w' ⟨rfl, d', n, os, hp, _, rfl⟩
    have hd's : d'.size = d.size := hp.1
    refine ⟨rfl, g, cap, d'.toList.map (fun x => x.1.1), rfl, hbg, ?_, fun i hi => ?_, sort_grown1 (kentK (m := m)) w g 0 n d' os, ?_⟩
    · have h3 := hp.2.2
      have e1 : (d'.extract 0 ks.length).toList = d'.toList := by rw [← hds, ← hd's]; simp
      have e2 : (d.extract 0 ks.length).toList = d.toList := by rw [← hds]; simp
      rw [e1, e2] at h3
      have h4 := h3.map (fun x => x.1.1)
      have h5 : d.toList.map (fun x => x.1.1) = ks := by rw [hd]; exact kents_keys m ks hks
      rw [h5] at h4; exact h4
    · have hi' : i < d'.size := by simpa using hi
      have hh := (holds_sortWorld kentK w g 0 n d d' os (lt_of_get hg) hH hd's i hi').1
      rw [Nat.zero_add] at hh
      rw [hh, getElem!_pos d' i hi']
      simp [kentK]
    · have := (sort_grown1 (kentK (m := m)) w g 0 n d' os).size
      exact Nat.lt_of_lt_of_le (lt_of_get hg) this
theorem SortedFunc_any (w : World) (F : Nat → Prop) (bc B cb p most clock : Nat) (ms : Int) (mb : Nat) (m : KeptLs) (h : CacG w F cb p most clock ms mb m) (hk : (m.map (·.1)).Nodup) (hb : Boxed w bc 92 (ptrV cb)) (hB : Boxed w B 141 (.map (some mb))) (hu : ∀ z ∈ m, z.2.used ≤ 2000000000000000000) (hn : 0 < m.length) (hlen : m.length ≤ 1000000) :
    Calls Tryz.prog 174 #[.func (.func 156) #[] #[.pointer (some ⟨B, 0, none⟩)], .func (.func 175) #[] #[.pointer (some ⟨bc, 0, none⟩)]] w fun e w' =>
      ∃ (g cap : Nat) (ks : List Nat), e = .returned (.slice (some ⟨g, 0, none⟩) ks.length cap) ∧ w.heap.size ≤ g ∧ ks.Perm (m.map (·.1)) ∧ (∀ i (hi : i < ks.length), w'.cell? ⟨g, i, none⟩ = some (keyI ks[i])) ∧ Q w w' ∧ g < w'.heap.size := by
  have hc := Collect_any B mb (mapOf m) w hB h.map (by rw [h.len]; exact hlen)
  have hmk : (mapOf m).map (·.1) = m.map (·.1) := by simp [mapOf]
  rw [hmk] at hc
  have HC := Lib.hid hc; have HH := Lib.hid h; have HB := Lib.hid hb; have HK := Lib.hid hk; have HU := Lib.hid hu
  have hblt := lt_of_get hb
  clear hc hmk h hb hB hk hu
  go_enter Tryz.func174, Tryz.ntmps174
  go_wp2_with fail
  refine HC.out.mono ?_
  rintro e w1 ⟨v, ks, rfl, hp, ho, q⟩
  have hkl : ks.length = m.length := by rw [hp.length_eq, List.length_map]
  have cs := SortKeys_any w1 F bc cb p most clock ms mb m w.heap.size v ks (HH.out.keep q) HK.out ((q.block _ hblt).trans HB.out) HU.out ho (fun k hk => hp.mem_iff.1 hk) (by omega) (by omega) (fun k hk => HH.out.lt k hk) hblt
  have HP := Lib.hid hp; have HQ := Lib.hid q; have CS := Lib.hid cs
  clear hp ho q cs hkl
  go_wp2_with fail
  refine CS.out.mono ?_
  rintro e w2 ⟨rfl, g, cap, ks', rfl, hbg, hp2, hce, hgr, hlt⟩
  have hl2 : ks'.length = ks.length := hp2.length_eq
  have hq2 : Q w w2 := Below.trans HQ.out (show Below w.heap.size w1 w2 from ⟨hgr.os, hgr.tape, hgr.output, hgr.size, fun i hi => hgr.block i (Nat.lt_of_lt_of_le hi HQ.out.size) (fun e => by injection e with e; omega)⟩)
  have HP2 := Lib.hid hp2; have HCE := Lib.hid hce; have HQ2 := Lib.hid hq2; have HL2 := Lib.hid hl2
  clear hp2 hce hgr hq2 hl2
  go_wp2_with fail
  go_ret
  exact ⟨g, cap, ks', by rw [HL2.out]; rfl, hbg, HP2.out.trans HP.out, HCE.out, HQ2.out, hlt⟩
theorem Blocks_c (w : World) (F : Nat → Prop) (cb p most clock : Nat) (ms : Int) (mb : Nat) (m : KeptLs) (h : CacG w F cb p most clock ms mb m) (hk : (m.map (·.1)).Nodup) (hu : ∀ z ∈ m, z.2.used ≤ 2000000000000000000) (hn : 0 < m.length) (hlen : m.length ≤ 1000000) :
    Calls Tryz.prog 151 #[ptrV cb] w fun e w' =>
      ∃ (g cap : Nat) (ks : List Nat), e = .returned (.slice (some ⟨g, 0, none⟩) ks.length cap) ∧ w.heap.size ≤ g ∧ ks.Perm (m.map (·.1)) ∧ (∀ i (hi : i < ks.length), w'.cell? ⟨g, i, none⟩ = some (keyI ks[i])) ∧ Q w w' ∧ g < w'.heap.size := by
  have hq1 : Q w (w.alloc (.cells #[ptrV cb] 92)) := Q.alloc _ _
  have hb1 : Boxed (w.alloc (.cells #[ptrV cb] 92)) w.heap.size 92 (ptrV cb) := Boxed.new w _ _
  have c4 := (h.keep hq1).box.cell 4 (.map (some mb)) rfl
  have c0 := hb1.cell
  have H1 := Lib.hid (h.keep hq1); have HB1 := Lib.hid hb1; have HK := Lib.hid hk; have HU := Lib.hid hu
  have HQ1 := Lib.hid hq1
  clear h hb1 hk hu
  go_enter Tryz.func151, Tryz.ntmps151
  go_wp2_with fail
  generalize hwa : w.alloc (.cells #[ptrV cb] 92) = wa at *
  clear hwa
  refine (Keys_any mb wa).mono ?_
  rintro e w2 ⟨rfl, hw2⟩
  have hq2 : Q wa w2 := by rw [← hw2]; exact Q.alloc _ _
  have hB2 : Boxed w2 wa.heap.size 141 (.map (some mb)) := by rw [← hw2]; exact Boxed.new wa _ _
  have hsf := SortedFunc_any w2 F w.heap.size wa.heap.size cb p most clock ms mb m (H1.out.keep hq2) HK.out ((hq2.block _ (lt_of_get HB1.out)).trans HB1.out) hB2 HU.out hn hlen
  have HSF := Lib.hid hsf; have HQ2 := Lib.hid hq2
  clear hsf c4 c0 hw2 hq2 hB2
  go_wp2_with fail
  refine HSF.out.mono ?_
  rintro e w3 ⟨g, cap, ks, rfl, hbg, hp, hce, q, hlt⟩
  have HP := Lib.hid hp; have HCE := Lib.hid hce; have hq3 : Q w w3 := HQ1.out.trans (HQ2.out.trans q)
  have HQ3 := Lib.hid hq3; have hg2 : w.heap.size ≤ g := Nat.le_trans (Nat.le_trans HQ1.out.size HQ2.out.size) hbg
  clear hp hce q hq3
  go_wp2_with fail
  go_ret
  exact ⟨g, cap, ks, rfl, hg2, HP.out, HCE.out, HQ3.out, hlt⟩
end
section
open Go.RowKit
attribute [local go_sem] Oper.semAt_some
theorem Backward_any (g n cap : Nat) (w : World) :
    Calls Tryz.prog 152 #[.slice (some ⟨g, 0, none⟩) n cap] w fun e w' => e = .returned (.func (.func 176) #[] #[.pointer (some ⟨w.heap.size, 0, none⟩)]) ∧ w.alloc (.cells #[.slice (some ⟨g, 0, none⟩) n cap] 155) = w' := by
  go_enter Tryz.func152, Tryz.ntmps152
  go_wp2_with fail
  go_ret
  exact ⟨rfl, rfl⟩
abbrev encBw (x : Nat × Nat) : Array Value := #[.int .i64 (x.1 : Nat), keyI x.2]
def backL (ks : List Nat) : List (Nat × Nat) := (List.range ks.length).reverse.map fun i => (i, ks.getD i 0)
theorem backL_len (ks : List Nat) : (backL ks).length = ks.length := by simp [backL]
theorem backL_at (ks : List Nat) (k : Nat) (h : k < ks.length) : (backL ks)[k]'(by rw [backL_len]; exact h) = (ks.length - 1 - k, ks.getD (ks.length - 1 - k) 0) := by
  simp [backL]
def backStep (ks : List Nat) (k : Nat) (_ : World) (args : Array Value) (k2 : Nat) : Prop := ∃ x, (backL ks)[k]? = some x ∧ args = encBw x ∧ k2 = k + 1
theorem Backward_seq (B n₀ g cap : Nat) (ks : List Nat) (W : World) (hb : Boxed W B 155 (.slice (some ⟨g, 0, none⟩) ks.length cap)) (hc : ∀ i (hi : i < ks.length), W.cell? ⟨g, i, none⟩ = some (keyI ks[i])) (hgl : g < W.heap.size) (hn : n₀ ≤ W.heap.size) (hlen : ks.length ≤ 1000000) :
    SeqG Tryz.prog 176 #[.pointer (some ⟨B, 0, none⟩)] (backStep ks) (fun k => k = ks.length) (fun _ => False) (fun k => k = B ∨ k = g) n₀ 0 W := by
  intro n l J Jx hJ hJx hY h0
  refine callsIn_of_wp Tryz.func176 rfl trivial ?_ rfl
  simp only [Tryz.ntmps176, List.size_toArray, List.length_cons, List.length_nil, Nat.reduceAdd, Nat.reduceSub, Array.replicate_succ, Array.replicate_zero, List.push_toArray, List.append_toArray, List.nil_append, List.cons_append]
  have c0 := hb.cell
  have hw1 : IntKind.i64.wrap ((ks.length : Int) - 1) = (ks.length : Int) - 1 := IntWalk.i64_in _ (by omega)
  have H0 := Lib.hid h0; have HBX := Lib.hid hb; have HYH := Lib.hid hY; have HC := Lib.hid hc
  have hBlt := lt_of_get hb
  clear h0 hb hY hc
  gi_wp2
  gi_loopw [3] (fun v wr => ∃ (r : Nat) (x : Int), v = .int .i64 x ∧ x = (r : Int) - 1 ∧ r ≤ ks.length ∧ Hid (Boxed wr B 155 (.slice (some ⟨g, 0, none⟩) ks.length cap)) ∧ Hid (wr.heap[g]? = W.heap[g]?) ∧ Hid (J (ks.length - r) wr) ∧ Hid (W.heap.size ≤ wr.heap.size)) (fun v _ => (intOf v + 1).toNat)
  case atStart => exact ⟨ks.length, _, rfl, rfl, Nat.le_refl _, HBX, Lib.hid rfl, by rw [Nat.sub_self]; exact H0, Lib.hid (Nat.le_refl _)⟩
  case round =>
    obtain ⟨r, x, rfl, hx, hr, HB, HG, HJ, HZ⟩ := hrel
    have d0 := HB.out.cell
    cases r with
    | zero =>
      obtain rfl : x = -1 := by omega
      clear hx
      gi_wp2
      go_end0
      exact ⟨⟨_, rfl⟩, .inl ⟨_, rfl, HJ.out⟩⟩
    | succ j =>
      obtain rfl : x = (j : Nat) := by omega
      clear hx
      have hjl : j < ks.length := by omega
      have hj0 : (0 : Int) ≤ (j : Int) := by omega
      have x1 : wr.cell? ⟨g, j, none⟩ = some (keyI ks[j]) := by rw [← HC.out j hjl]; exact World.cell?_of_block HG.out
      have hkk : ks.length - (j + 1) < (backL ks).length := by rw [backL_len]; omega
      have hat : (backL ks)[ks.length - (j + 1)] = (j, ks[j]) := by
        rw [backL_at ks _ (by omega), show ks.length - 1 - (ks.length - (j + 1)) = j by omega, List.getD_eq_getElem?_getD, List.getElem?_eq_getElem hjl]; rfl
      have hglt : g < wr.heap.size := Nat.lt_of_lt_of_le hgl HZ.out
      generalize hkj : ks[j] = kj at *
      clear hkj
      obtain ⟨fn, tmps, assign, body, hy, hR⟩ := HYH.out (ks.length - (j + 1)) (ks.length - (j + 1) + 1) wr (encBw (j, kj)) HJ.out ⟨_, by rw [List.getElem?_eq_getElem hkk, hat], rfl, rfl⟩ (fun b h => by rcases h with rfl | rfl; exact lt_of_get HB.out; exact hglt)
      dsimp only [encBw] at hy
      have HYY := Lib.hid hR; clear hR hat
      have hnx : ks.length - (j + 1) + 1 = ks.length - j := by omega
      rw [hnx] at HYY
      have HNX := Lib.hid hnx
      clear hnx hkk
      gi_wp2
      refine ⟨fun h => (by cases h), (HYY.out _).mono ?_⟩
      rintro e W3 (⟨rfl, hJ3, hk3⟩ | ⟨rfl, hJx3⟩)
      · have hb3 : Boxed W3 B 155 (.slice (some ⟨g, 0, none⟩) ks.length cap) := (hk3.own B (.inl rfl) (lt_of_get HB.out)).trans HB.out
        have hg3 : W3.heap[g]? = W.heap[g]? := (hk3.own g (.inr rfl) hglt).trans HG.out
        have HB3 := Lib.hid hb3; have HG3 := Lib.hid hg3; have HJ3 := Lib.hid hJ3; have HZ3 : Hid (W.heap.size ≤ W3.heap.size) := Lib.hid (Nat.le_trans HZ.out hk3.below.size)
        clear hb3 hg3 hJ3 hk3
        gi_wp2
        go_roundw
        case rel => exact ⟨j, _, rfl, rfl, by omega, HB3, HG3, HJ3, HZ3⟩
        case measure => simp [intOf]
      · have HJX := Lib.hid hJx3; clear hJx3
        gi_wp2
        refine bodyPost_ret (results_none rfl _ _ _) rfl ?_
        exact ⟨⟨_, rfl⟩, .inr ⟨_, HJX.out⟩⟩
theorem wpIn_act2 {F : Fence} {n : Nat} {P : Program} {c : Code} {Qx : Exit → Act → World → Prop} {a : Act} {w : World} (h : ∀ A0, A0 = a → c.wpIn F n P Qx A0 w) : c.wpIn F n P Qx a w := h a rfl
theorem CacG.itk {A B : World} {F : Nat → Prop} {cb p most clock : Nat} {ms : Int} {mb lo : Nat} {m : KeptLs} (h : CacG A F cb p most clock ms mb m) (hi : Itk (fun _ => False) lo A B) (hl : ∀ k, F k → k < lo) : CacG B F cb p most clock ms mb m :=
  h.beside (G := fun k => lo ≤ k) ⟨hi.os, hi.tape, hi.output, hi.size, fun k h1 h2 => hi.low k (by omega) h1 (fun h => h)⟩ (fun k hk => by have := hl k hk; omega)
theorem backL_mem {ks : List Nat} {k : Nat} (h : k ∈ ks) : ∃ i x, (backL ks)[i]? = some x ∧ x.2 = k ∧ i < ks.length := by
  obtain ⟨j, hj, rfl⟩ := List.getElem_of_mem h
  refine ⟨ks.length - 1 - j, _, List.getElem?_eq_getElem (by rw [backL_len]; omega), ?_, by omega⟩
  rw [backL_at ks _ (by omega), show ks.length - 1 - (ks.length - 1 - j) = j by omega, List.getD_eq_getElem?_getD, List.getElem?_eq_getElem hj]; rfl
theorem backL_key {ks : List Nat} {i : Nat} {x : Nat × Nat} (h : (backL ks)[i]? = some x) : x.2 ∈ ks ∧ x.1 < ks.length := by
  obtain ⟨hi, he⟩ := List.getElem?_eq_some_iff.1 h
  rw [backL_len] at hi
  rw [backL_at ks i hi] at he
  subst he
  refine ⟨?_, by simp only; omega⟩
  simp only [List.getD_eq_getElem?_getD]
  rw [List.getElem?_eq_getElem (by omega)]
  exact List.getElem_mem _
theorem results_cell1 {P : Program} {fn : Func} {p : Tmp} {ty : TypeId} (h : fn.results = #[.cell p ty]) (tmps : Array Value) (w : World) (a : Addr) (v : Value) (hp : tmps.getD p undef = .pointer (some a)) (hl : (loadVar ty a).run P w = .ok v w) :
    (results fn tmps).run P w = .ok v w := by
  have hp' : tmps[p]?.getD undef = .pointer (some a) := by simpa using hp
  simp [results, h, hp', asAddr, hl]
theorem load_errno (w : World) (b : Nat) (x : Int) (h : w.cell? ⟨b, 0, none⟩ = some (.int .i64 x)) : (loadVar 39 ⟨b, 0, none⟩).run Tryz.prog w = .ok (.int .i64 x) w := by
  have hi : ∀ W, (isAgg 39).run Tryz.prog W = .ok false W := fun W => by kernel_rfl
  simp [loadVar, hi, h, Result.andThen, go_sem]
theorem Room_any (w : World) (F : Nat → Prop) (cb p n most clock : Nat) (ms : Int) (mb : Nat) (m : KeptLs) (tx : List WrL) (g : Nat → Bytes) (h : CacG w F cb p most clock ms mb m) (ho : CacOk n most clock tx g m) (hc : clock ≤ 1000000000000000000) :
    RoomC w F n most clock tx g cb p ms mb m := by
  unfold RoomC
  obtain ⟨wa, hwa⟩ : ∃ wa, wa = (w.alloc (.cells #[ptrV cb] 92)).alloc (.cells #[.int .i64 0] 39) := ⟨_, rfl⟩
  have hq : Q w wa := by rw [hwa]; exact (Q.alloc _ _).trans (Q.alloc _ _)
  have hsz : wa.heap.size = w.heap.size + 2 := by rw [hwa]; simp
  have hb0 : Boxed wa w.heap.size 92 (ptrV cb) := by rw [hwa]; exact (Boxed.new w _ _).alloc _
  have hb1 : Boxed wa (w.heap.size + 1) 39 (.int .i64 0) := by
    rw [hwa]
    have := Boxed.new (w.alloc (.cells #[ptrV cb] 92)) 39 (.int .i64 0)
    rwa [World.size_alloc] at this
  have hh := h.keep hq
  have d0 := hb0.cell
  have d1 := hb1.cell; have e1 := hb1.frozen
  have c1 := hh.box.cell 1 (.int .i64 (most : Nat)) rfl
  have c4 := hh.box.cell 4 (.map (some mb)) rfl
  have hln := run_len_int (P := Tryz.prog) (hh.keep (Q.drew _)).map 141 3 150 3 Tryz.underlying141
  rw [h.len] at hln
  have hml := ho.len; have hcap := ho.cap
  have HH := Lib.hid hh; have HO := Lib.hid ho; have HQ := Lib.hid hq; have HB0 := Lib.hid hb0; have HB1 := Lib.hid hb1; have HSZ := Lib.hid hsz; have H := Lib.hid h
  clear hh ho hq hb0 hb1 hsz h
  refine (callsIn_wide (n := 0)).1 ?_
  refine callsIn_of_wp_marks Tryz.func105 rfl trivial ?_ rfl
  simp only [Tryz.ntmps105, List.size_toArray, List.length_cons, List.length_nil, Nat.reduceAdd, Nat.reduceSub, Array.replicate_succ, Array.replicate_zero, List.push_toArray, List.append_toArray, List.nil_append, List.cons_append]
  refine wpIn_wide.2 ?_
  by_cases hl : m.length < most
  · have hli : (m.length : Int) < (most : Int) := by omega
    go_wp2_with fail
    rw [← hwa]
    clear hwa
    go_region
    all_goals
      go_wp2_with fail
      have hb2 := HB1.out.set (.int .i64 0)
      have hqe : Q w ((wa.setCell ⟨w.heap.size + 1, 0, none⟩ (.int .i64 0)).drew) := Qs.dr (Qs.st HQ.out _ _ (by simp))
      refine ⟨.int .i64 0, results_cell1 rfl _ _ ⟨w.heap.size + 1, 0, none⟩ _ rfl (load_errno _ _ 0 hb2.cell), rfl, Turn.of_q hqe, m, H.out.keep hqe, HO.out, hl, fun _ h => h⟩
  · have hli : ¬ (m.length : Int) < (most : Int) := by omega
    have hmm : 0 < m.length := by omega
    have cbl := fun (W : World) (hq : Q wa W) => Blocks_c W F cb p most clock ms mb m (HH.out.keep hq) HO.out.keys (fun z hz => by have := HO.out.used z hz; omega) hmm (by omega)
    have CBL := Lib.hid cbl
    clear cbl
    go_wp2_with fail
    rw [← hwa]
    clear hwa
    go_region
    all_goals
      go_wp2_with fail
      refine (CBL.out _ (Q.drew _)).mono ?_
      rintro e w1 ⟨gb, cap, ks, rfl, hgb, hp, hce, q1, hglt⟩
      have HP := Lib.hid hp; have HCE := Lib.hid hce; have HQ1 := Lib.hid ((Q.drew _).trans q1)
      clear hp hce q1
      go_wp2_with fail
      refine (Backward_any gb ks.length cap w1).mono ?_
      rintro e w2 ⟨rfl, hw2⟩
      have hq2 : Q w1 w2 := by rw [← hw2]; exact Q.alloc _ _
      have hB2 : Boxed w2 w1.heap.size 155 (.slice (some ⟨gb, 0, none⟩) ks.length cap) := by rw [← hw2]; exact Boxed.new w1 _ _
      have hs2 : w2.heap.size = w1.heap.size + 1 := by rw [← hw2]; simp
      have HQ2 := Lib.hid hq2; have HB2 := Lib.hid hB2; have HS2 := Lib.hid hs2
      clear hw2 hq2 hB2 hs2
      go_wp2_with fail
      refine (wpIn_wide (n := 0)).1 ?_
      refine wpIn_act2 (fun A0 hA0 => ?_)
      have hgb2 : w.heap.size + 2 ≤ gb := by have := HSZ.out; have h2 : wa.drew.heap.size = wa.heap.size := rfl; omega
      have hg1s : wa.heap.size ≤ w1.heap.size := HQ1.out.size
      have hw1s : w.heap.size + 2 ≤ w1.heap.size := by have := HSZ.out; omega
      have hqa2 : Q wa w2 := HQ1.out.trans HQ2.out
      have hkl : ks.length = m.length := by rw [HP.out.length_eq, List.length_map]
      have HQA2 := Lib.hid hqa2; have HKL := Lib.hid hkl
      clear hqa2 hkl hln d0 d1 e1 c1 c4
      refine wp_rangeG (gf := 176) (lb := #[.pointer (some ⟨w1.heap.size, 0, none⟩)]) (by rw [hA0]; rfl) (enters_of Tryz.func176 (by kernel_rfl) rfl) (step := backStep ks) (fin' := fun k => k = ks.length) (s0 := 0) (own := fun _ => False) (keep := fun k => k = w1.heap.size ∨ k = gb) (n₀ := 0)
        (fun W1 hq hz => Backward_seq w1.heap.size 0 gb cap ks W1 ((hq.block _ (lt_of_get HB2.out)).trans HB2.out) (fun i hi => cellQ (HQ2.out.trans hq) (HCE.out i hi)) (by have := HQ2.out.size; have := hq.size; omega) (Nat.zero_le _) (by have := HKL.out; omega))
        (fun _ h => h.elim) (fun k h => by have := HS2.out; omega) (Nat.zero_le _) (fun k W args k2 h => by obtain ⟨x, _, rfl, _⟩ := h; rfl)
        (fun k W => Itk (fun _ => False) w2.heap.size w2 W ∧ ∀ i x, i < k → (backL ks)[i]? = some x → ∀ kk, getI x.2 m = some kk → kk.dirty = true)
        (fun c _ W => c = .ret ∧ Boxed W (w.heap.size + 1) 39 (.int .i64 0) ∧ Turn F w W ∧ ∃ i kk, getI i m = some kk ∧ kk.dirty = false ∧ CacG W F cb p most clock ms mb (delI i m))
        (fun k k2 a' _ => ∃ x : Nat × Nat, (backL ks)[k]? = some x ∧ k2 = k + 1 ∧ a' = { tmps := ((A0.tmps.setIfInBounds 21 (.int .i64 (x.1 : Nat))).setIfInBounds 22 (keyI x.2)).setIfInBounds 5 (keyI x.2), defers := [] })
        ?hI ?hIx (fun _ _ _ _ _ h _ => h) ?h0 ?assign ?body ?done ?stop
      case hI =>
        rintro k A B ⟨h1, h2⟩ hi
        exact ⟨h1.trans hi, h2⟩
      case hIx =>
        rintro c k A B ⟨rfl, h1, h2, i, kk, h3, h4, h5⟩ hi
        have hsA := h2.size
        refine ⟨rfl, hi.boxed h1 (fun h => h), ⟨hi.os.trans h2.os, hi.tape.trans h2.tape, hi.output.trans h2.output, Nat.le_trans h2.size hi.size, fun j h6 h7 => (hi.low j (by have := HS2.out; omega) (by omega) (fun h => h)).trans (h2.block j h6 h7)⟩, i, kk, h3, h4, h5.itk hi (fun j hj => by have := H.out.lt j hj; have := HS2.out; omega)⟩
      case h0 => exact ⟨Itk.refl _ _ _, fun i x hi => by omega⟩
      case assign =>
        rintro l' j j2 W' args K hi ⟨x, hx, rfl, rfl⟩ hz hK
        have HK := Lib.hid hK; have HI := Lib.hid hi
        clear hK hi
        subst hA0
        gi_wp2
        exact HK.out _ _ (Q.refl _) HI.out ⟨x, hx, by first | rfl | trivial, by first | rfl | trivial⟩
      case body =>
        rintro l' j j2 a' W' ⟨⟨rc, hrc⟩, hdf⟩ hl' ⟨h1, h2⟩ ⟨x, hx, rfl, rfl⟩ hkb hz
        have hxk := backL_key hx
        obtain ⟨kk, hkk⟩ : ∃ kk, getI x.2 m = some kk := by
          cases hg : getI x.2 m with
          | some kk => exact ⟨kk, rfl⟩
          | none =>
            obtain ⟨y, hy, e⟩ := List.mem_map.1 (HP.out.mem_iff.1 hxk.1)
            exact absurd e (getI_none.1 hg y hy)
        have hcg := (HH.out.keep HQA2.out).itk h1 (fun k hk => by have := H.out.lt k hk; have := HS2.out; omega)
        have c4 := hcg.box.cell 4 (.map (some mb)) rfl
        have hb0' : Boxed W' w.heap.size 92 (ptrV cb) := h1.boxed ((HQA2.out.block _ (lt_of_get HB0.out)).trans HB0.out) (fun h => h)
        have hb1' : Boxed W' (w.heap.size + 1) 39 (.int .i64 0) := h1.boxed ((HQA2.out.block _ (lt_of_get HB1.out)).trans HB1.out) (fun h => h)
        have d0 := hb0'.cell; have d1 := hb1'.cell; have f1 := hb1'.frozen
        have hlk := hcg.lookHit hkk
        have k1 := (hcg.kept _ (getI_mem hkk)).1.cell 1 (.bool kk.dirty) rfl
        have k2 := (hcg.kept _ (getI_mem hkk)).1.cell 2 (.int .i64 0) rfl
        have hlu := run_lookup_int (P := Tryz.prog) hcg.map 141 3 150 Tryz.underlying141 Tryz.underlying3 (.pointer none) (run_mapElem _) x.2 false
        simp only [Bool.false_eq_true, if_false] at hlu
        rw [hlk] at hlu
        simp only [] at k1 k2
        obtain ⟨x1, x2⟩ := x
        simp only at *
        have hW2 : w2.heap.size ≤ W'.heap.size := h1.size
        have hww : w.heap.size + 3 ≤ w2.heap.size := by have := HS2.out; omega
        subst hA0
        simp only [List.setIfInBounds_toArray, List.set_cons_succ, List.set_cons_zero]
        cases hdr : kk.dirty with
        | true =>
          rw [hdr] at k1
          have h2' : ∀ i x, i < j + 1 → (backL ks)[i]? = some x → ∀ kk, getI x.2 m = some kk → kk.dirty = true := fun i y hi hy kk' hg => by
            by_cases hik : i < j
            · exact h2 i y hik hy kk' hg
            · obtain rfl : i = j := by omega
              rw [hx] at hy
              injection hy with hy
              subst hy
              rw [hkk] at hg
              injection hg with hg
              subst hg
              exact hdr
          have HI1 := Lib.hid h1; have HI2 := Lib.hid h2'
          clear h1 h2 h2' hcg hb0' hb1' hlk hx hxk hkk hrc hdf hkb
          gi_wp2_with fail
          exact ⟨Bk.refl _ _ _, HI1.out, HI2.out⟩
        | false =>
          rw [hdr] at k1
          obtain ⟨w4, hdel, hm4, hg4, hz4⟩ := run_delete_int (P := Tryz.prog) hcg.map 141 3 150 Tryz.underlying141 Tryz.underlying3 x2
          have t4 := CacG.turn_of_map hg4
          have h4 := hcg.gone HO.out.keys hm4 t4
          have hmb : F mb := H.out.fm
          have hmlt : mb < w.heap.size := H.out.lt mb hmb
          have hb14 : Boxed w4 (w.heap.size + 1) 39 (.int .i64 0) := (t4.block _ (lt_of_get hb1') (by omega)).trans hb1'
          have d14 := hb14.cell; have f14 := hb14.frozen
          have t5 : Turn (fun j => j = w.heap.size + 1) w4 (w4.setCell ⟨w.heap.size + 1, 0, none⟩ (.int .i64 0)) := Turn.setCell (a := ⟨w.heap.size + 1, 0, none⟩) (Turn.refl (fun j => j = w.heap.size + 1) w4) (.inl rfl) _
          have h5 := h4.beside t5 (fun k hk e => by have := H.out.lt k hk; omega)
          have hb15 := hb14.set (.int .i64 0)
          have htW : Turn F w W' := (⟨h1.os.trans (HQ.out.trans HQA2.out).os, h1.tape.trans (HQ.out.trans HQA2.out).tape, h1.output.trans (HQ.out.trans HQA2.out).output, Nat.le_trans (HQ.out.trans HQA2.out).size h1.size, fun j h6 h7 => (h1.low j (by omega) (by omega) (fun h => h)).trans ((HQ.out.trans HQA2.out).block j h6)⟩)
          have ht5 : Turn F w (w4.setCell ⟨w.heap.size + 1, 0, none⟩ (.int .i64 0)) := (htW.trans (t4.mono (fun j hj => by subst hj; exact hmb))).setCell (a := ⟨w.heap.size + 1, 0, none⟩) (.inr (by simp)) _
          have hbk : BkS (fun b => b = w2.heap.size ∨ b = w2.heap.size + 1) W' (w4.setCell ⟨w.heap.size + 1, 0, none⟩ (.int .i64 0)) :=
            ⟨Nat.le_trans t4.size t5.size, fun b hb hbl => (t5.block b (Nat.lt_of_lt_of_le hbl t4.size) (by omega)).trans (t4.block b hbl (by omega))⟩
          have HE := Lib.hid (And.intro hbk (And.intro hb15 (And.intro ht5 h5))); have HKK := Lib.hid hkk; have HDR := Lib.hid hdr
          clear h1 h2 hcg hb0' hb1' hlk hx hxk hkk hrc hdf hkb hm4 hg4 hz4 t4 h4 hb14 t5 h5 hb15 htW ht5 hbk hdr
          gi_wp2_with fail
          exact ⟨HE.out.1, rfl, HE.out.2.1, HE.out.2.2.1, x2, kk, HKK.out, HDR.out, HE.out.2.2.2⟩
      case done =>
        rintro D kz W' hD _ rfl ⟨h1, h2⟩ hK
        exfalso
        obtain ⟨y, hy, hyd⟩ := HO.out.clean_one (by omega)
        have hg := getI_of_mem HO.out.keys (k := y.1) (v := y.2) hy
        obtain ⟨i, x, hx, hxk, hil⟩ := backL_mem (HP.out.mem_iff.2 (List.mem_map.2 ⟨y, hy, rfl⟩))
        have := h2 i x hil hx y.2 (by rw [hxk]; exact hg)
        rw [hyd] at this
        exact absurd this (by decide)
      case stop =>
        rintro D c k W' hD ⟨rfl, hb1', ht, i, kk, hg, hd, hcg⟩ hK
        obtain ⟨ho2, hl2⟩ := HO.out.drop hg hd
        have hDw : w.heap.size + 3 ≤ D := by have := HS2.out; omega
        have tp : Turn (fun j => j = D) W' (W'.putObj D (.deferred none)) := ⟨rfl, rfl, rfl, by simp, fun k h1 h2 => World.putObj_heap_other h2⟩
        have h6 := hcg.beside tp (fun k hk e => by have := H.out.lt k hk; omega)
        have hb6 : Boxed (W'.putObj D (.deferred none)) (w.heap.size + 1) 39 (.int .i64 0) := (tp.block _ (lt_of_get hb1') (by omega)).trans hb1'
        have ht6 : Turn F w (W'.putObj D (.deferred none)) := ⟨ht.os, ht.tape, ht.output, Nat.le_trans ht.size tp.size, fun j h7 h8 => (tp.block j (Nat.lt_of_lt_of_le h7 ht.size) (by omega)).trans (ht.block j h7 h8)⟩
        have HE := Lib.hid (And.intro h6 (And.intro ht6 ho2)); have HB6 := Lib.hid hb6; have HK := Lib.hid hK
        have hno : ∀ j, getI j m = none → getI j (delI i m) = none := fun j hj => by
          rw [delI_eq i m HO.out.keys]
          exact getI_none.2 (fun x hx => getI_none.1 hj x (List.mem_filter.1 hx).1)
        have HNO := Lib.hid hno
        clear hb1' ht hg hd hcg ho2 tp h6 hb6 ht6 hK hno
        subst hA0
        gi_wp2_with fail
        refine ⟨by simp, .inl ⟨_, _, rfl, run_takeDeferred HK.out, ?_⟩⟩
        exact ⟨.int .i64 0, results_cell1 rfl _ _ ⟨w.heap.size + 1, 0, none⟩ _ rfl (load_errno _ _ 0 HB6.out.cell), rfl, HE.out.2.1, delI i m, HE.out.1, HE.out.2.2, by omega, HNO.out⟩
end
section
open Go.RowKit
def KeyRow (w : World) (n : Nat) (v : Value) (ks : List Nat) : Prop := ∃ a cap, v = .slice a ks.length cap ∧ (0 < ks.length → ∃ g, a = some ⟨g, 0, none⟩ ∧ n ≤ g ∧ g < w.heap.size ∧ ∀ i (hi : i < ks.length), w.cell? ⟨g, i, none⟩ = some (keyI ks[i]))
theorem KeyRow.stays {w w' : World} {n : Nat} {v : Value} {ks : List Nat} (h : KeyRow w n v ks) (q : Q w w') : KeyRow w' n v ks := by
  obtain ⟨a, cap, rfl, hc⟩ := h
  refine ⟨a, cap, rfl, fun hn => ?_⟩
  obtain ⟨g, rfl, h1, h2, h3⟩ := hc hn
  exact ⟨g, rfl, h1, Nat.lt_of_lt_of_le h2 q.size, fun i hi => cellQ q (h3 i hi)⟩
theorem SortInt_any (w : World) (base : Nat) (v : Value) (ks : List Nat) (ho : w.ownsRow base 3 1 v ks.length (ks.map keyI)) (hlen : ks.length ≤ 1000000) :
    Calls Tryz.prog 155 #[v] w fun e w' => e = .returned (.tuple #[]) ∧ ∃ ks' : List Nat, ks'.Perm ks ∧ ks'.Pairwise (· ≤ ·) ∧ KeyRow w' base v ks' ∧ ∀ n₀, n₀ ≤ base → n₀ ≤ w.heap.size → Below n₀ w w' := by
  rcases ho.2 with ⟨rfl, hz⟩ | ⟨g, cap, cur, rfl, hbg, hg, hcap, _⟩
  · rw [hz] at ho
    have hk : ks = [] := List.eq_nil_of_length_eq_zero hz
    subst hk
    refine (Tryz.slices_Sort_int_none none 0 w).mono ?_
    rintro e w' ⟨rfl, rfl⟩
    exact ⟨rfl, [], List.Perm.refl _, List.Pairwise.nil, ⟨none, 0, rfl, fun h => by simp at h⟩, fun n₀ _ _ => Below.refl _ _⟩
  · rcases Nat.eq_zero_or_pos ks.length with hz | hn
    · have hk : ks = [] := List.eq_nil_of_length_eq_zero hz
      subst hk
      refine (Tryz.slices_Sort_int_none (some ⟨g, 0, none⟩) cap w).mono ?_
      rintro e w' ⟨rfl, rfl⟩
      exact ⟨rfl, [], List.Perm.refl _, List.Pairwise.nil, ⟨_, cap, rfl, fun h => by simp at h⟩, fun n₀ _ _ => Below.refl _ _⟩
    · have hsl := Sl.of_owns ho
      obtain ⟨zs, hzs⟩ : ∃ zs : List Int, zs = ks.map (fun k : Nat => (k : Int)) := ⟨_, rfl⟩
      have hzl : zs.length = ks.length := by rw [hzs, List.length_map]
      have hH : Go.Sort.Holds (Value.int .i64) w g 0 zs.toArray := fun j hj => by
        have hj' : j < ks.length := by have : j < zs.length := by simpa using hj
                                       omega
        have hc := row_cell hsl hn j (keyI ks[j]) (by simp [hj'])
        rw [Nat.zero_add]
        refine ⟨?_, ?_⟩
        · rw [hc, getElem!_pos zs.toArray j hj]
          subst hzs
          simp
        · have : Blk w g 3 cur := hg
          exact this.frozen j
      have hs := Tryz.slices_Sort_int g 0 cap zs w hH (lt_of_get hg) (by omega)
      rw [hzl] at hs
      refine hs.mono ?_
      rintro e w' ⟨rfl, n, os, hw'⟩
      obtain ⟨zs', hzs'⟩ : ∃ zs', zs' = zs.mergeSort fun x y => decide (x ≤ y) := ⟨_, rfl⟩
      rw [← hzs'] at hw'
      have hp : zs'.Perm zs := by rw [hzs']; exact List.mergeSort_perm _ _
      have hso : zs'.Pairwise (fun x y => decide (x ≤ y) = true) := by
        rw [hzs']; exact List.pairwise_mergeSort (fun a b c h1 h2 => by simp at *; omega) (fun a b => by simp; omega) _
      have hnn : ∀ x ∈ zs', 0 ≤ x := fun x hx => by
        have := hp.mem_iff.1 hx
        rw [hzs] at this
        obtain ⟨k, _, rfl⟩ := List.mem_map.1 this
        omega
      have hwd : w' = sortWorld (Value.int .i64) w g 0 n zs'.toArray os := hw'
      have hgr : w.grownBy w' (some g) := by rw [hwd]; exact sort_grown1 (Value.int .i64) w g 0 n zs'.toArray os
      have hhh : Go.Sort.Holds (Value.int .i64) w' g 0 zs'.toArray := by rw [hwd]; exact holds_sortWorld (Value.int .i64) w g 0 n zs.toArray zs'.toArray os (lt_of_get hg) hH (by simp [hp.length_eq])
      have hl' : zs'.length = ks.length := by rw [hp.length_eq, hzl]
      refine ⟨rfl, zs'.map Int.toNat, ?_, ?_, ⟨_, cap, by rw [List.length_map, hl'], fun _ => ⟨g, rfl, hbg, Nat.lt_of_lt_of_le (lt_of_get hg) hgr.size, fun i hi => ?_⟩⟩, fun n₀ h1 h2 => (Below.refl _ _).grown hgr h2 (fun k hk => by cases hk; omega)⟩
      · have := hp.map Int.toNat
        have e : zs.map Int.toNat = ks := by rw [hzs, List.map_map]; simp [Function.comp_def]
        rwa [e] at this
      · refine List.pairwise_map.2 (hso.imp (fun h => ?_))
        simp at h; omega
      · have hi' : i < zs'.length := by simpa using hi
        have hh := (hhh i (by simpa using hi')).1
        rw [Nat.zero_add, getElem!_pos zs'.toArray i (by simpa using hi')] at hh
        rw [hh, List.getElem_map]
        have := hnn zs'[i] (List.getElem_mem hi')
        simp only [List.getElem_toArray, keyI, Int.toNat_of_nonneg this]
theorem SortedKeys_any (B mb : Nat) (m : List (Nat × Value)) (w : World) (hb : Boxed w B 141 (.map (some mb))) (hm : MapI w mb m) (hlen : m.length ≤ 1000000) :
    Calls Tryz.prog 109 #[.func (.func 156) #[] #[.pointer (some ⟨B, 0, none⟩)]] w fun e w' =>
      ∃ (v : Value) (ks : List Nat), e = .returned v ∧ ks.Perm (m.map (·.1)) ∧ ks.Pairwise (· ≤ ·) ∧ KeyRow w' w.heap.size v ks ∧ Q w w' := by
  have hc := Collect_any B mb m w hb hm hlen
  have HC := Lib.hid hc
  clear hc hb hm
  go_enter Tryz.func109, Tryz.ntmps109
  go_wp2_with fail
  refine HC.out.mono ?_
  rintro e w1 ⟨v, ks, rfl, hp, ho, q⟩
  have hkl : ks.length = m.length := by rw [hp.length_eq, List.length_map]
  have cs := SortInt_any w1 w.heap.size v ks ho (by omega)
  have HP := Lib.hid hp; have HQ := Lib.hid q; have CS := Lib.hid cs
  clear hp ho q cs hkl
  go_wp2_with fail
  refine CS.out.mono ?_
  rintro e w2 ⟨rfl, ks', hp2, hso, hkr, hbl⟩
  have hq2 : Q w w2 := Below.trans HQ.out (hbl w.heap.size (Nat.le_refl _) HQ.out.size)
  have HP2 := Lib.hid hp2; have HSO := Lib.hid hso; have HKR := Lib.hid hkr; have HQ2 := Lib.hid hq2
  clear hp2 hso hkr hbl hq2
  go_wp2_with fail
  go_ret
  exact ⟨_, ks', rfl, HP2.out.trans HP.out, HSO.out, HKR.out, HQ2.out⟩
def dirtyAt (m : KeptLs) (i : Nat) : Option WrL := (getI i m).bind fun k => if k.dirty then some (i, k.data) else none
theorem filterMap_take_succ {α β : Type} (f : α → Option β) (l : List α) (k : Nat) (h : k < l.length) : (l.take (k + 1)).filterMap f = (l.take k).filterMap f ++ (match f l[k] with | some x => [x] | none => []) := by
  rw [List.take_succ_eq_append_getElem h, List.filterMap_append]
  congr 1
  cases hf : f l[k] <;> simp [hf]
theorem Dirty_any (w : World) (F : Nat → Prop) (cb p n most clock : Nat) (ms : Int) (mb : Nat) (m : KeptLs) (tx : List WrL) (g : Nat → Bytes) (h : CacG w F cb p most clock ms mb m) (ho : CacOk n most clock tx g m) :
    Calls Tryz.prog 63 #[ptrV cb] w fun e w' => ∃ v, e = .returned v ∧ w'.ownsRow w.heap.size 88 2 v tx.length (wrVs tx) ∧ Q w w' := by
  obtain ⟨i1, hi1, hy0, hy1, hy2⟩ := info_parts tinfoWr
  have hml : m.length ≤ 1024 := by have := ho.len; have := ho.cap; omega
  have c4 := h.box.cell 4 (.map (some mb)) rfl
  have hdt := ho.dirties
  have hgs : ∀ k ∈ m.map (·.1), ∃ kk, getI k m = some kk := fun k hk => by
    cases hg : getI k m with
    | some kk => exact ⟨kk, rfl⟩
    | none =>
      obtain ⟨y, hy, e⟩ := List.mem_map.1 hk
      exact absurd e (getI_none.1 hg y hy)
  have hsl := fun (W : World) (B : Nat) (q : Q w W) (hb : Boxed W B 141 (.map (some mb))) => SortedKeys_any B mb (mapOf m) W hb (h.keep q).map (by rw [h.len]; omega)
  have hmk : (mapOf m).map (·.1) = m.map (·.1) := by simp [mapOf]
  rw [hmk] at hsl
  have HSL := Lib.hid hsl; have HH := Lib.hid h; have HDT := Lib.hid hdt; have HGS := Lib.hid hgs
  clear hsl hmk h hdt hgs ho
  go_enter Tryz.func63, Tryz.ntmps63
  go_wp2_with fail
  refine (Keys_any mb w).mono ?_
  rintro e w1 ⟨rfl, hw1⟩
  have hq1 : Q w w1 := by rw [← hw1]; exact Q.alloc _ _
  have hb1 : Boxed w1 w.heap.size 141 (.map (some mb)) := by rw [← hw1]; exact Boxed.new w _ _
  have hs1 := HSL.out w1 w.heap.size hq1 hb1
  have HQ1 := Lib.hid hq1; have HS1 := Lib.hid hs1
  clear hw1 hq1 hb1 hs1
  go_wp2_with fail
  refine HS1.out.mono ?_
  rintro e w2 ⟨v, ks, rfl, hp, hso, hkr, q2⟩
  have hq2 : Q w w2 := HQ1.out.trans q2
  have hkl : ks.length = m.length := by rw [hp.length_eq, List.length_map]
  obtain ⟨a, cap, rfl, hcell⟩ := hkr
  have hfin : ks.filterMap (dirtyAt m) = tx := HDT.out ks hp hso
  have HP := Lib.hid hp; have HQ2 := Lib.hid hq2; have HCE := Lib.hid hcell; have HF := Lib.hid hfin; have HKL := Lib.hid hkl
  have hkm : ks.length ≤ 1024 := by omega
  clear hp hso hq2 q2 hcell hfin hkl c4
  go_wp2_with fail
  go_loopw [3, 14] (fun v i wr => ∃ k : Nat, i = .int .i64 (k : Nat) ∧ k ≤ ks.length ∧ Hid (wr.ownsRow w2.heap.size 88 2 v ((ks.take k).filterMap (dirtyAt m)).length (wrVs ((ks.take k).filterMap (dirtyAt m)))) ∧ Hid (Q w2 wr)) (fun _ i _ => ks.length - (intOf i).toNat)
  case atStart => exact ⟨0, rfl, Nat.zero_le _, Lib.hid (World.ownsRow_nil _ _ _ _), Lib.hid (Q.refl _)⟩
  case round =>
    obtain ⟨k, rfl, hk, HOW, HQ⟩ := hrel
    by_cases hlt : k < ks.length
    · have hki : (k : Int) < (ks.length : Int) := by omega
      have hki0 : (0 : Int) ≤ (k : Int) := by omega
      obtain ⟨gk, rfl, _, _, hcl⟩ := HCE.out (by omega)
      have x1 := cellQ HQ.out (hcl k hlt)
      obtain ⟨kk, hkk⟩ := HGS.out ks[k] (HP.out.mem_iff.1 (List.getElem_mem hlt))
      have hcg := HH.out.keep (HQ2.out.trans HQ.out)
      have c4 := hcg.box.cell 4 (.map (some mb)) rfl
      have hmp := hcg.map
      have hlk := hcg.lookHit hkk
      have k0 := (hcg.kept _ (getI_mem hkk)).1.cell 0 (strV kk.data) rfl
      have k1 := (hcg.kept _ (getI_mem hkk)).1.cell 1 (.bool kk.dirty) rfl
      simp only [] at k0 k1
      have hst := filterMap_take_succ (dirtyAt m) ks k hlt
      have hda : dirtyAt m ks[k] = if kk.dirty then some (ks[k], kk.data) else none := by unfold dirtyAt; rw [hkk]; rfl
      have hfl : ((ks.take k).filterMap (dirtyAt m)).length ≤ 1024 := Nat.le_trans (List.length_filterMap_le _ _) (by rw [List.length_take]; omega)
      rw [hda] at hst
      generalize hkk2 : ks[k] = key at *
      generalize hacc : (ks.take k).filterMap (dirtyAt m) = acc at *
      have HMP := Lib.hid hmp; have HLK := Lib.hid hlk; have HST := Lib.hid hst
      clear hmp hlk hst hcg hda hkk hkk2 hacc hcl
      cases hdr : kk.dirty with
      | true =>
        rw [hdr] at k1
        have hst := HST.out
        rw [hdr] at hst
        simp only [if_true] at hst
        have HST2 := Lib.hid hst
        clear hst hdr HST
        generalize kk.data = kd at *
        have hc1 : ∀ u ∈ #[Value.int .i64 (key : Nat), strV kd].toList, u.oneCell' = true := by intro u hu; simp at hu; rcases hu with rfl | rfl <;> rfl
        have hc2 : (acc.length + 1) * 24 ≤ 140737488355328 := by omega
        have HC3 := Lib.hid hc1; have HC4 := Lib.hid hc2
        have hb0 : w2.heap.size ≤ wr.heap.size := HQ.out.size
        clear hc1 hc2
        go_wp2_with (first | (at_lookup; refine wpList_lookup_int _ (by rfl) _ _ 141 false (by rfl) 3 150 Tryz.underlying141 Tryz.underlying3 (.pointer none) (run_mapElem _) mb _ HMP.out key (by rfl) (by rfl) ?_; rw [HLK.out]) | (at_builtin; refine wpList_app wr (by rfl) _ _ 72 (by rfl) w2.heap.size 88 _ i1 (.agg #[.int .i64 0, strV []]) 2 24 Tryz.underlying72 hi1 hy0 hy1 hy2 rfl (by decide) (by decide) _ _ _ (by rfl) HOW.out #[.int .i64 (key : Nat), strV kd] (by rfl) rfl HC3.out HC4.out hb0 ?_))
        intro g11 cap11 w11 hr11 hg11 ho11 hlt11 hlt11b
        have hq21 : Q w2 w11 := grown_below HQ.out HOW.out hg11 (Nat.le_refl _) hb0
        have hr11' : w11.ownsRow w2.heap.size 88 2 (.slice (some ⟨g11, 0, none⟩) (acc.length + 1) cap11) ((ks.take (k + 1)).filterMap (dirtyAt m)).length (wrVs ((ks.take (k + 1)).filterMap (dirtyAt m))) := by
          rw [HST2.out, List.length_append, wrVs_append, show wrVs [(key, kd)] = encW (key, kd) by simp [wrVs]]; exact hr11
        have HQ11 := Lib.hid hq21; have HR11 := Lib.hid hr11'
        clear hr11 hg11 ho11 hlt11 hlt11b hr11' hq21
        go_wp2_with fail
        go_roundw
        case rel => exact ⟨k + 1, by go_num, by omega, HR11, HQ11⟩
        case measure => simp [intOf]; omega
      | false =>
        rw [hdr] at k1
        have hst := HST.out
        rw [hdr] at hst
        simp only [Bool.false_eq_true, if_false, List.append_nil] at hst
        have HST2 := Lib.hid hst
        clear hst hdr HST
        go_wp2_with (at_lookup; refine wpList_lookup_int _ (by rfl) _ _ 141 false (by rfl) 3 150 Tryz.underlying141 Tryz.underlying3 (.pointer none) (run_mapElem _) mb _ HMP.out key (by rfl) (by rfl) ?_; rw [HLK.out])
        go_roundw
        case rel => exact ⟨k + 1, by go_num, by omega, Lib.hid (by rw [HST2.out]; exact HOW.out), HQ⟩
        case measure => simp [intOf]; omega
    · have hki : ¬ (k : Int) < (ks.length : Int) := by omega
      obtain rfl : k = ks.length := by omega
      have hrow := HOW.out
      rw [List.take_length, HF.out] at hrow
      have HR := Lib.hid hrow
      clear hrow
      go_wp2_with fail
      go_ret
      exact ⟨_, rfl, owns_low HR.out HQ2.out.size, HQ2.out.trans HQ.out⟩
end
end Go.Proofs.YtnmijegmbomfdaaGreatDoor
