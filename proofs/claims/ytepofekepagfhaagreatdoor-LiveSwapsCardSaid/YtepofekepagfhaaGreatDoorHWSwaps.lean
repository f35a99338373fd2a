/- codexlaw15.LiveSwaps: walked. -/
import Derived.Test.YtepofekepagfhaaGreatDoorMWShown15ToTabs
import Derived.Test.YtepofekepagfhaaGreatDoorMWLaw15aToWShownT
import Derived.Test.YtepofekepagfhaaGreatDoorMLive2ToWMerge
import Derived.Deep.AppendLies
import Derived.Deep.RegionLaw
set_option linter.unusedSimpArgs false
set_option linter.unusedVariables false
set_option linter.unnecessarySimpa false
namespace Go.Proofs.YtepofekepagfhaaGreatDoor
open Go.RowKit
set_option linter.unusedVariables false

theorem acts_lit2 (w : World) (va vb : Value) (a b : List OpL) (t : TypeId) (ha : Ops w va a) (hb : Ops w vb b) : Acts (w.alloc (.cells #[va, .bool false, .int .i64 0, .int .i64 0, vb, .bool false, .int .i64 0, .int .i64 0] t)) (.slice (some ⟨w.heap.size, 0, none⟩) 2 2) [(a, false, 0, 0), (b, false, 0, 0)] := by
  refine ⟨[va, vb], rfl, Sl.lit w _ _ 2 4 rfl, fun i x y hx hy => ?_⟩
  cases i with
  | zero => simp at hx hy; subst hx; subst hy; exact ha.stays (Q.alloc _ _)
  | succ i =>
    cases i with
    | zero => simp at hx hy; subst hx; subst hy; exact hb.stays (Q.alloc _ _)
    | succ i => simp at hx
structure SwSt (w W : World) (X Y Z : Nat) (v x y : Value) (ps qs rs : List PartL) : Prop where
  p1 : PartsAt W v ps
  p2 : PartsAt W x qs
  p3 : PartsAt W y rs
  b1 : Boxed W X 30 v
  b2 : Boxed W Y 30 x
  b3 : Boxed W Z 30 y
  q : Q w W
  hx : w.heap.size ≤ X
  xy : X < Y
  yz : Y < Z
theorem SwSt.stays {w W W' : World} {X Y Z : Nat} {v x y : Value} {ps qs rs : List PartL} (h : SwSt w W X Y Z v x y ps qs rs) (q : Q W W') : SwSt w W' X Y Z v x y ps qs rs :=
  ⟨h.p1.stays q, h.p2.stays q, h.p3.stays q, block_stays' q h.b1, block_stays' q h.b2, block_stays' q h.b3, h.q.trans q, h.hx, h.xy, h.yz⟩
theorem SwSt.dr {w W : World} {X Y Z : Nat} {v x y : Value} {ps qs rs : List PartL} (h : SwSt w W X Y Z v x y ps qs rs) : SwSt w W.drew X Y Z v x y ps qs rs := h.stays (Q.drew _)
theorem SwSt.turnY {w W : World} {X Y Z : Nat} {v y : Value} {a : Option Addr} {n c : Nat} {ps qs rs qs' : List PartL} (h : SwSt w W X Y Z v (.slice a n c) y ps qs rs) {u : Value} (hu : PartsAt W u qs') : SwSt w (W.setCell ⟨Y, 0, none⟩ u) X Y Z v u y ps qs' rs :=
  ⟨PartsAt.setBox h.b2 u h.p1 (by decide), PartsAt.setBox h.b2 u hu (by decide), PartsAt.setBox h.b2 u h.p3 (by decide), (set_far W u (by have := h.xy; omega)).trans h.b1, h.b2.set u, (set_far W u (by have := h.yz; omega)).trans h.b3, h.q.setCell (by have := h.hx; have := h.xy; simp; omega) _, h.hx, h.xy, h.yz⟩
theorem SwSt.turnZ {w W : World} {X Y Z : Nat} {v x : Value} {a : Option Addr} {n c : Nat} {ps qs rs rs' : List PartL} (h : SwSt w W X Y Z v x (.slice a n c) ps qs rs) {u : Value} (hu : PartsAt W u rs') : SwSt w (W.setCell ⟨Z, 0, none⟩ u) X Y Z v x u ps qs rs' :=
  ⟨PartsAt.setBox h.b3 u h.p1 (by decide), PartsAt.setBox h.b3 u h.p2 (by decide), PartsAt.setBox h.b3 u hu (by decide), (set_far W u (by have := h.xy; have := h.yz; omega)).trans h.b1, (set_far W u (by have := h.yz; omega)).trans h.b2, h.b3.set u, h.q.setCell (by have := h.hx; have := h.xy; have := h.yz; simp; omega) _, h.hx, h.xy, h.yz⟩
theorem Q.al {w W : World} {o : Obj} (h : Q w W) : Q w (W.alloc o) := h.trans (Q.alloc _ _)
theorem Q.dr {w W : World} (h : Q w W) : Q w W.drew := h.trans (Q.drew _)
theorem opVs_app (a b : List OpL) : opVs (a ++ b) = opVs a ++ opVs b := by unfold opVs; rw [List.flatMap_append]
theorem opVs_one (l : List OpL) : ∀ u ∈ opVs l, u.oneCell' = true := by
  intro u hu
  unfold opVs at hu
  obtain ⟨d, _, hd⟩ := List.mem_flatMap.1 hu
  simp only [List.mem_cons, List.not_mem_nil, or_false] at hd
  rcases hd with rfl | rfl | rfl <;> rfl
theorem ops_lit0 {base : Nat} (w : World) (g : Nat) (hg : g = w.heap.size) (hb : base ≤ w.heap.size) : (w.alloc (.cells #[] 42)).ownsRow base 42 3 (.slice (some ⟨g, 0, none⟩) 0 0) 0 [] :=
  hg ▸ ⟨rfl, .inr ⟨w.heap.size, 0, #[], rfl, hb, heap_alloc_new _ _, by simp, by unfold maxLen; omega, rfl, rfl⟩⟩
theorem sw_app (W0 : World) {w : World} {ops : Array Oper} {o : Oper} {a : Act} {K : Act → World → Prop} {Qx : Exit → Act → World → Prop} {E : Prop} (hgd : o.guard = none) (s x : Operand)
    (ho : o.op = .call { callee := .builtin .append, args := #[s, x], argTypes := #[23, 23] })
    (v : Value) (n : Nat) (l0 : List OpL) (hs : a.eval s = v) (hown : w.ownsRow W0.heap.size 42 3 v n (opVs l0)) (hq : Q W0 w)
    (b off m c : Nat) (l : List OpL) (hx : a.eval x = .slice (some ⟨b, off, none⟩) m c) (hl : Ops W0 (.slice (some ⟨b, off, none⟩) m c) l) (hml : m = l.length) (hm : 0 < m) (hnm : n + m ≤ 1000)
    (h : ∀ g cap w', w'.ownsRow W0.heap.size 42 3 (.slice (some ⟨g, 0, none⟩) (n + m) cap) (n + m) (opVs (l0 ++ l)) → Q W0 w' → (∀ Y, Boxed w Y 30 (.slice none 0 0) → Boxed w' Y 30 (.slice none 0 0)) → K (a.put o.dst (.slice (some ⟨g, 0, none⟩) (n + m) cap)) w') :
    if Region.wanted o (yielded ops a.tmps) = true then Oper.wp Tryz.prog o a w K Qx else E := by
  obtain ⟨i0, hi, hz0, hz1, hz2⟩ := info_parts tinfo42
  subst hml
  have hl' := hl.stays hq
  obtain ⟨hll, aa, cc, e, hc⟩ := hl'
  cases e
  obtain ⟨b', off', e, hcc⟩ := hc hm
  cases e
  refine step_append_lies _ hgd s x 23 ho W0.heap.size 42 i0 _ 3 _ Tryz.underlying23 hi hz0 hz1 hz2 rfl (by decide) v n (opVs l0) hs hown ⟨b, off, none⟩ l.length c (opVs l) hx hll (fun j u hu => by rw [add_off]; exact hcc j u hu) (opVs_one l) hm (by unfold maxLen; omega) (by omega) hq.size _ rfl ?_
  intro g cap w' ho' hg' hv hlt
  refine h g cap w' (by rw [opVs_app]; exact ho') (grown_below hq hown hg' (Nat.le_refl _) hq.size) (fun Y hY => ?_)
  refine (hg'.block Y hY.lt (fun e => ?_)).trans hY
  obtain ⟨h1, h2⟩ := hown.lt Y e.symm
  rcases hown.2 with ⟨rfl, _⟩ | ⟨g0, cap0, cur, hv0, _, hcur, _⟩
  · cases e
  · rw [hv0] at e
    cases e
    have := hcur.symm.trans hY
    simp at this
theorem sw_app0 (W0 : World) {w : World} {ops : Array Oper} {o : Oper} {a : Act} {K : Act → World → Prop} {Qx : Exit → Act → World → Prop} {E : Prop} (hgd : o.guard = none) (s x : Operand)
    (ho : o.op = .call { callee := .builtin .append, args := #[s, x], argTypes := #[23, 23] })
    (v : Value) (hs : a.eval s = v) (hown : w.ownsRow W0.heap.size 42 3 v 0 []) (hq : Q W0 w)
    (b off m c : Nat) (l : List OpL) (hx : a.eval x = .slice (some ⟨b, off, none⟩) m c) (hl : Ops W0 (.slice (some ⟨b, off, none⟩) m c) l) (hml : m = l.length) (hm : 0 < m) (hnm : m ≤ 1000)
    (h : ∀ g cap w', w'.ownsRow W0.heap.size 42 3 (.slice (some ⟨g, 0, none⟩) m cap) m (opVs l) → Q W0 w' → (∀ Y, Boxed w Y 30 (.slice none 0 0) → Boxed w' Y 30 (.slice none 0 0)) → K (a.put o.dst (.slice (some ⟨g, 0, none⟩) m cap)) w') :
    if Region.wanted o (yielded ops a.tmps) = true then Oper.wp Tryz.prog o a w K Qx else E := by
  refine sw_app W0 hgd s x ho v 0 [] hs hown hq b off m c l hx hl hml hm (by omega) ?_
  intro g cap w' h1 h2 h3
  rw [Nat.zero_add] at h1 ⊢
  exact h g cap w' h1 h2 h3
noncomputable def swaps23 : Code := ((Tryz.f4.body.bind (findRegion 23)).getD .skip)
set_option maxRecDepth 100000 in
set_option maxHeartbeats 4000000 in
theorem swaps23_wp (W0 : World) (X ba oa na ca bb ob nb cb np pc : Nat) (pa : Option Addr) (ps p3 : List PartL) (a b : List OpL) (S : Bytes) (E : Int) (hb : Boxed W0 X 30 (.slice pa np pc)) (hp : PartsAt W0 (.slice pa np pc) ps)
    (ha : Ops W0 (.slice (some ⟨ba, oa, none⟩) na ca) a) (hbo : Ops W0 (.slice (some ⟨bb, ob, none⟩) nb cb) b) (hna : na = a.length) (hnb : nb = b.length) (hna0 : 0 < na) (hnb0 : 0 < nb) (hna1 : na ≤ 100) (hnb1 : nb ≤ 100)
    (hl : ∀ o ∈ a ++ b, o.2.1.length ≤ 9223372036854775807 ∧ o.2.2.length ≤ 9223372036854775807) (hps : ps.length ≤ 1000000) (hpo : PartsOk ps) (he : applyL ps (a ++ b) = (p3, S, E)) (hT : Tabs W0) (hSp : Spans W0) (Qx : Exit → Act → World → Prop) (x0 x3 x4 x5 x6 x7 x8 x9 x10 x11 x13 x14 x15 x16 x17 x18 x19 x20 x21 x22 x23 x24 x25 x26 x27 x28 x29 x30 x31 x32 x33 x34 x35 x36 x37 x38 x39 x40 x41 x42 x43 x44 x45 x46 x47 x48 x49 x50 x51 x52 x53 x54 x55 x56 x57 x58 x59 x60 x61 x62 x63 x64 x65 x66 x67 x68 x69 x70 x71 x72 x73 x74 x75 x76 x77 x78 x79 x80 x81 x82 x83 x84 x85 x86 x87 x88 x89 x90 x91 x92 x93 x94 x95 x96 x97 x98 x99 x100 x101 x102 x103 x104 x105 x106 x107 x108 x109 x110 x111 x112 x113 x114 x115 x116 x117 x118 x119 x120 x121 x122 x123 x124 x125 x126 x127 x128 x129 x130 x131 x132 x133 x134 x135 x136 x137 x138 x139 x140 : Value)
    (hQ : ∀ W Y a2 c2 z109 z110 z111 z112 z113 z114 z115 z116 z117 z118 z119, Q W0 W → W0.heap.size ≤ Y → Boxed W Y 30 (.slice a2 p3.length c2) → PartsAt W (.slice a2 p3.length c2) p3 → Qx .normal ⟨#[x0, .slice (some ⟨ba, oa, none⟩) na ca, .slice (some ⟨bb, ob, none⟩) nb cb, x3, x4, x5, x6, x7, x8, x9, x10, x11, .pointer (some ⟨X, 0, none⟩), x13, x14, x15, x16, x17, x18, .pointer (some ⟨Y, 0, none⟩), strV S, .int .i64 E, x22, x23, x24, x25, x26, x27, x28, x29, x30, x31, x32, x33, x34, x35, x36, x37, x38, x39, x40, x41, x42, x43, x44, x45, x46, x47, x48, x49, x50, x51, x52, x53, x54, x55, x56, x57, x58, x59, x60, x61, x62, x63, x64, x65, x66, x67, x68, x69, x70, x71, x72, x73, x74, x75, x76, x77, x78, x79, x80, x81, x82, x83, x84, x85, x86, x87, x88, x89, x90, x91, x92, x93, x94, x95, x96, x97, x98, x99, x100, x101, x102, x103, x104, x105, x106, x107, x108, z109, z110, z111, z112, z113, z114, z115, z116, z117, z118, z119, x120, x121, x122, x123, x124, x125, x126, x127, x128, x129, x130, x131, x132, x133, x134, x135, x136, x137, x138, x139, x140], []⟩ W) :
    swaps23.wp Tryz.prog Qx ⟨#[x0, .slice (some ⟨ba, oa, none⟩) na ca, .slice (some ⟨bb, ob, none⟩) nb cb, x3, x4, x5, x6, x7, x8, x9, x10, x11, .pointer (some ⟨X, 0, none⟩), x13, x14, x15, x16, x17, x18, x19, x20, x21, x22, x23, x24, x25, x26, x27, x28, x29, x30, x31, x32, x33, x34, x35, x36, x37, x38, x39, x40, x41, x42, x43, x44, x45, x46, x47, x48, x49, x50, x51, x52, x53, x54, x55, x56, x57, x58, x59, x60, x61, x62, x63, x64, x65, x66, x67, x68, x69, x70, x71, x72, x73, x74, x75, x76, x77, x78, x79, x80, x81, x82, x83, x84, x85, x86, x87, x88, x89, x90, x91, x92, x93, x94, x95, x96, x97, x98, x99, x100, x101, x102, x103, x104, x105, x106, x107, x108, x109, x110, x111, x112, x113, x114, x115, x116, x117, x118, x119, x120, x121, x122, x123, x124, x125, x126, x127, x128, x129, x130, x131, x132, x133, x134, x135, x136, x137, x138, x139, x140], []⟩ W0 := by
  have k1 := hb.cell
  have hlt0 := hb.lt
  have KK := Lib.hid (Q.refl W0); have HA := Lib.hid ha; have HBO := Lib.hid hbo; have HT := Lib.hid hT; have HSP := Lib.hid hSp; have HQX := Lib.hid hQ; have HP := Lib.hid hp
  have cap2 : ∀ W ov, Q W0 W → Ops W ov (a ++ b) → Calls Tryz.prog 19 #[liveV (.slice pa np pc), ov] W fun e w' => (∃ a2 c2, e = .returned (.tuple #[liveV (.slice a2 p3.length c2), strV S, .int .i64 E]) ∧ PartsAt w' (.slice a2 p3.length c2) p3) ∧ Q W w' := by
    intro W ov q o
    refine (Apply_any _ ps ov _ W (HP.out.stays q) o (by rw [List.length_append]; omega) hl hps hpo.1 (HT.out.stays q) (HSP.out.stays q)).mono ?_
    rw [he]
    rintro e w' ⟨⟨v', rfl, hp⟩, q⟩
    obtain ⟨a, c, rfl, _⟩ := hp.value
    exact ⟨⟨a, c, rfl, hp⟩, q⟩
  have CAP2 := Lib.hid cap2
  have hsum : na + nb = (a ++ b).length := by rw [List.length_append, hna, hnb]
  have HNA := Lib.hid hna; have HNB := Lib.hid hnb; have HSUM := Lib.hid hsum
  clear cap2 hp ha hbo hT hSp hQ hl hb hna hnb hsum
  conv => arg 2; whnf
  have hmx : Tryz.prog.follows .mixedOrders = true := by kernel_rfl
  refine wp_region_noPanic ?_
  go_region_held3 (fun w' => w'.cell? ⟨X, 0, none⟩ = some (.slice pa np pc)) (first | exact k1 | exact (World.cell?_setCell_other _ _ _ _ (by simp <;> omega)).trans (cell_stays KK.out k1) | exact cell_stays (by (repeat (first | exact KK.out | refine Q.dr ?_ | refine Q.al ?_)); done) k1)
    (first
      | (go_at_call 19; refine (CAP2.out _ _ (by (repeat (first | exact KK.out | refine Q.dr ?_ | refine Q.al ?_)); done) (by rw [Ops, ← HSUM.out]; exact (by first | exact Sl.of_owns HR.out | exact Sl.of_owns (rowAl _ HR.out)))).mono ?_; rintro e w' ⟨⟨a2, c2, rfl, hp2⟩, q⟩; (try (have hbx : Boxed w' _ 30 (.slice none 0 0) := (by first | exact block_stays' q HBX.out | exact block_stays' q (Boxed.alloc HBX.out _) | exact block_stays' q (World.alloc_heap_new _ _) | exact block_stays' q (Boxed.alloc (World.alloc_heap_new _ _) _)); have cb0 := hbx.cell; have fb := hbx.frozen; (try simp only [World.size_alloc, drewSize] at cb0 fb hbx); have HBX := Lib.hid hbx; clear hbx)); have q' : Q W0 w' := Q.trans (by (repeat (first | exact KK.out | refine Q.dr ?_ | refine Q.al ?_)); done) q; clear KK; have KK := Lib.hid q'; have hlt := cell_lt (cell_stays q' k1); have hsz := q'.size; have HP2 := Lib.hid hp2; clear q' q hp2)
      | (refine sw_app0 W0 (by rfl) _ _ (by rfl) _ (by rfl) (by first | exact ops_lit0 _ _ (by first | (simp only [World.size_alloc, drewSize]; done) | (simp only [World.size_alloc, drewSize]; omega) | omega) (by first | (simp only [World.size_alloc, drewSize]; done) | (simp only [World.size_alloc, drewSize]; omega) | omega) | exact rowAl _ (ops_lit0 _ _ (by first | (simp only [World.size_alloc, drewSize]; done) | (simp only [World.size_alloc, drewSize]; omega) | omega) (by first | (simp only [World.size_alloc, drewSize]; done) | (simp only [World.size_alloc, drewSize]; omega) | omega))) (by (repeat (first | exact KK.out | refine Q.dr ?_ | refine Q.al ?_)); done) ba oa na ca a (by rfl) HA.out HNA.out hna0 (by omega) ?_; intro g1 cap1 w' ho q' hbk; (try (have hbx : Boxed w' _ 30 (.slice none 0 0) := (by first | exact hbk _ HBX.out | exact hbk _ (Boxed.alloc HBX.out _) | exact hbk _ (World.alloc_heap_new _ _) | exact hbk _ (Boxed.alloc (World.alloc_heap_new _ _) _)); have cb0 := hbx.cell; have fb := hbx.frozen; (try simp only [World.size_alloc, drewSize] at cb0 fb hbx); have HBX := Lib.hid hbx; clear hbx)); clear KK; have KK := Lib.hid q'; have HR := Lib.hid ho; have hsz := q'.size; clear q' ho hbk)
      | (refine sw_app W0 (by rfl) _ _ (by rfl) _ na a (by rfl) (by first | exact HR.out | exact rowAl _ HR.out) (by (repeat (first | exact KK.out | refine Q.dr ?_ | refine Q.al ?_)); done) bb ob nb cb b (by rfl) HBO.out HNB.out hnb0 (by omega) ?_; intro g2 cap2 w' ho q' hbk; (try (have hbx : Boxed w' _ 30 (.slice none 0 0) := (by first | exact hbk _ HBX.out | exact hbk _ (Boxed.alloc HBX.out _) | exact hbk _ (World.alloc_heap_new _ _) | exact hbk _ (Boxed.alloc (World.alloc_heap_new _ _) _)); have cb0 := hbx.cell; have fb := hbx.frozen; (try simp only [World.size_alloc, drewSize] at cb0 fb hbx); have HBX := Lib.hid hbx; clear hbx)); clear KK HR; have KK := Lib.hid q'; have HR := Lib.hid ho; have hsz := q'.size; clear q' ho hbk))
  all_goals first
    | exact HQX.out _ _ a2 c2 _ _ _ _ _ _ _ _ _ _ _ (Q.al KK.out) (by have := KK.out.size; omega) (Boxed.new _ _ _) (HP2.out.stays (Q.alloc _ _))
    | exact HQX.out _ _ a2 c2 _ _ _ _ _ _ _ _ _ _ _ (KK.out.setCell (by simp <;> omega) _) (by omega) (Boxed.set _ HBX.out) (PartsAt.setBox HBX.out _ HP2.out (by decide))
structure SwSt3 (w W : World) (X Y Z V : Nat) (v x y z : Value) (ps qs rs ts : List PartL) : Prop where
  s : SwSt w W X Y Z v x y ps qs rs
  p4 : PartsAt W z ts
  b4 : Boxed W V 30 z
theorem SwSt3.stays {w W W' : World} {X Y Z V : Nat} {v x y z : Value} {ps qs rs ts : List PartL} (h : SwSt3 w W X Y Z V v x y z ps qs rs ts) (q : Q W W') : SwSt3 w W' X Y Z V v x y z ps qs rs ts := ⟨h.s.stays q, h.p4.stays q, block_stays' q h.b4⟩
theorem SwSt3.dr {w W : World} {X Y Z V : Nat} {v x y z : Value} {ps qs rs ts : List PartL} (h : SwSt3 w W X Y Z V v x y z ps qs rs ts) : SwSt3 w W.drew X Y Z V v x y z ps qs rs ts := h.stays (Q.drew _)
set_option maxRecDepth 100000 in
set_option maxHeartbeats 8000000 in
theorem Swaps_walk (v : Value) (l : List ActL) (va : Value) (a : List OpL) (vb : Value) (b : List OpL) (w : World) (hv : Acts w v l) (ha : Ops w va a) (hb : Ops w vb b) (hlw : ActsWf l) (haw : OpsWf a) (hbw : OpsWf b) (hT : Tabs w) (hSp : Spans w) :
    Calls Tryz.prog 4 #[v, va, vb] w fun e w' => e = .returned (.bool true) ∧ Q w w' := by
  have csh := Shown15 w hT hSp
  have csm := fun W (q : Q w W) => Small_any v l W (hv.stays q) hlw.1 hlw.2
  have cs1 := fun W (q : Q w W) => Small_any _ [(a, false, 0, 0), (b, false, 0, 0)] _ (acts_lit2 W va vb a b 27 (ha.stays q) (hb.stays q)) (by simp) (fun x hx => by simp only [List.mem_cons, List.not_mem_nil, or_false] at hx; rcases hx with rfl | rfl; exact haw; exact hbw)
  obtain ⟨a1, c1, hva, _⟩ := hv.value
  obtain ⟨aa, ca, hoa, hacell⟩ := ha.value
  obtain ⟨ab, cb, hob, hbcell⟩ := hb.value
  subst hva hoa hob
  have HV := Lib.hid hv; have HA := Lib.hid ha; have HB := Lib.hid hb; have HT := Lib.hid hT; have HSP := Lib.hid hSp; have CSH := Lib.hid csh; have HAC := Lib.hid hacell; have HBC := Lib.hid hbcell
  clear hv ha hb hT hSp csh hlw haw hbw hacell hbcell
  cases hs1 : smallB l with
  | false =>
    rw [hs1] at csm
    have HS1 := Lib.hid hs1; have CSM := Lib.hid csm; have CS1 := Lib.hid cs1
    clear hs1 csm cs1
    cases hs2 : smallB [(a, false, 0, 0), (b, false, 0, 0)]
    all_goals
      have C1 := CS1.out
      rw [hs2] at C1
      have CSS := Lib.hid C1
      have HS2 := Lib.hid hs2
      clear C1 hs2 CS1
      go_enter Tryz.func4, Tryz.ntmps4
      go_wp2_with fail
      refine CSH.out.mono ?_
      rintro e w1 ⟨rfl, q1⟩
      have HQ1 := Lib.hid q1; clear q1
      go_wp2_with fail
      refine (CSM.out w1 HQ1.out).mono ?_
      rintro e w2 ⟨rfl, rfl⟩
      go_wp2_with fail
      refine (CSS.out w1 HQ1.out).mono ?_
      rintro e w2 ⟨rfl, rfl⟩
      go_wp2_with fail
      go_ret
      exact ⟨rfl, HQ1.out.trans (Q.alloc _ _)⟩
  | true =>
    rw [hs1] at csm
    obtain ⟨hf1, hf2⟩ := smallB_facts hs1
    have HS1 := Lib.hid hs1; have CSM := Lib.hid csm; have CS1 := Lib.hid cs1
    clear hs1 csm cs1
    cases hs2 : smallB [(a, false, 0, 0), (b, false, 0, 0)] with
    | false =>
      have C1 := CS1.out
      rw [hs2] at C1
      have CSS := Lib.hid C1
      have HS2 := Lib.hid hs2
      clear C1 hs2 CS1
      go_enter Tryz.func4, Tryz.ntmps4
      go_wp2_with fail
      refine CSH.out.mono ?_
      rintro e w1 ⟨rfl, q1⟩
      have HQ1 := Lib.hid q1; clear q1
      go_wp2_with fail
      refine (CSM.out w1 HQ1.out).mono ?_
      rintro e w2 ⟨rfl, rfl⟩
      go_wp2_with fail
      refine (CSS.out w1 HQ1.out).mono ?_
      rintro e w2 ⟨rfl, rfl⟩
      go_wp2_with fail
      go_ret
      exact ⟨rfl, HQ1.out.trans (Q.alloc _ _)⟩
    | true =>
      have C1 := CS1.out
      rw [hs2] at C1
      obtain ⟨_, hg⟩ := smallB_facts hs2
      obtain ⟨hga1, hga2⟩ := hg (a, false, 0, 0) (by simp)
      obtain ⟨hgb1, hgb2⟩ := hg (b, false, 0, 0) (by simp)
      simp only at hga1 hga2 hgb1 hgb2
      have CSS := Lib.hid C1
      have HS2 := Lib.hid hs2
      have HF2 := Lib.hid hf2; have HGA := Lib.hid hga2; have HGB := Lib.hid hgb2
      clear C1 hs2 CS1 hf2 hga2 hgb2 hg
      go_enter Tryz.func4, Tryz.ntmps4
      go_wp2_with fail
      refine CSH.out.mono ?_
      rintro e w1 ⟨rfl, q1⟩
      have HQ1 := Lib.hid q1; clear q1
      go_wp2_with fail
      refine (CSM.out w1 HQ1.out).mono ?_
      rintro e w2 ⟨rfl, rfl⟩
      go_wp2_with fail
      refine (CSS.out w1 HQ1.out).mono ?_
      rintro e w2 ⟨rfl, rfl⟩
      have hq2 := HQ1.out.trans (Q.alloc w1 (.cells #[.slice aa a.length ca, .bool false, .int .i64 0, .int .i64 0, .slice ab b.length cb, .bool false, .int .i64 0, .int .i64 0] 27))
      have HQ2 := Lib.hid hq2
      clear hq2 HQ1 CSM CSS CSH
      go_wp2_with fail
      go_loopw [10] (fun x wr => ∃ i : Nat, x = .int .i64 (i : Nat) ∧ i ≤ a.length ∧ Hid (∀ (p : Nat) (hp : p < a.length), p < i → ∀ (q : Nat) (hq : q < b.length), a[p].2.1 ≠ b[q].2.1) ∧ Hid (Q w wr)) (fun x _ => a.length - (intOf x).toNat)
      case atStart => exact ⟨0, rfl, by omega, fun p hp h => by omega, HQ2⟩
      case round =>
        obtain ⟨i, rfl, hi, HD, HQ⟩ := hrel
        obtain ⟨wo, rfl⟩ : ∃ wo : World, wo = wr := ⟨_, rfl⟩
        clear HQ2
        by_cases hlt : i < a.length
        · have hi0 : (0 : Int) ≤ (i : Int) := by omega
          have hi1 : (i : Int) < (a.length : Int) := by omega
          go_wp2_with fail
          go_loopw [11] (fun x wr => ∃ k : Nat, x = .int .i64 (k : Nat) ∧ k ≤ b.length ∧ Hid (∀ (q : Nat) (hq : q < b.length), q < k → a[i].2.1 ≠ b[q].2.1) ∧ Hid (Q w wr)) (fun x _ => b.length - (intOf x).toNat)
          case atStart => exact ⟨0, rfl, by omega, fun q hq h => by omega, HQ⟩
          case round =>
            obtain ⟨k, rfl, hk, HE, HQK⟩ := hrel
            obtain ⟨wi, rfl⟩ : ∃ wi : World, wi = wr := ⟨_, rfl⟩
            by_cases hlk : k < b.length
            · obtain ⟨ba, oa, rfl, hca⟩ := HAC.out (by omega)
              obtain ⟨bb, ob, rfl, hcb⟩ := HBC.out (by omega)
              have ka := cell_stays HQK.out (hca i hlt).2.1
              have kb := cell_stays HQK.out (hcb k hlk).2.1
              have hk0 : (0 : Int) ≤ (k : Int) := by omega
              have hk1 : (k : Int) < (b.length : Int) := by omega
              have hmx : Tryz.prog.follows .mixedOrders = true := by kernel_rfl
              clear hca hcb
              by_cases hid : a[i].2.1 = b[k].2.1
              · rw [hid] at ka
                generalize b[k].2.1 = kid at *
                clear hid
                go_wp2_with fail
                go_quiet (fail)
                go_wp2_with fail
                go_ret
                exact ⟨rfl, HQK.out.trans (Q.drewN _ _)⟩
              · have hne : (a[i].2.1 == b[k].2.1) = false := by simpa using hid
                have hee : ∀ (q : Nat) (hq : q < b.length), q < k + 1 → a[i].2.1 ≠ b[q].2.1 := by
                  intro q hq hqk
                  rcases Nat.lt_or_eq_of_le (Nat.le_of_lt_succ hqk) with h | h
                  · exact HE.out q hq h
                  · subst h; exact hid
                have HEE := Lib.hid hee
                clear hid hee
                generalize b[k].2.1 = kid at *
                generalize hai : a[i].2.1 = aid at *
                have HAI := Lib.hid hai
                clear hai
                go_wp2_with fail
                go_quiet (fail)
                go_wp2_with fail
                go_roundw
                case rel => exact ⟨k + 1, by go_num, by omega, HEE, HQK.out.trans (Q.drewN _ _)⟩
                case measure => simp [intOf]; omega
            · have hke : k = b.length := by omega
              subst hke
              have hdd : ∀ (p : Nat) (hp : p < a.length), p < i + 1 → ∀ (q : Nat) (hq : q < b.length), a[p].2.1 ≠ b[q].2.1 := by
                intro p hp hpi q hq
                rcases Nat.lt_or_eq_of_le (Nat.le_of_lt_succ hpi) with h | h
                · exact HD.out p hp h q hq
                · subst h; exact HE.out q hq hq
              have HDD := Lib.hid hdd
              clear hdd
              go_wp2_with fail
              go_roundw
              case rel => exact ⟨i + 1, by go_num, by omega, HDD, HQK⟩
              case measure => simp [intOf]; omega
        · have hie : i = a.length := by omega
          subst hie
          have hdis : ∀ x ∈ a, ∀ y ∈ b, x.2.1 ≠ y.2.1 := by
            intro x hx y hy
            obtain ⟨p, hp, rfl⟩ := List.mem_iff_getElem.1 hx
            obtain ⟨q, hq, rfl⟩ := List.mem_iff_getElem.1 hy
            exact HD.out p hp hp q hq
          have cmd := Made_any _ l _ (HV.out.stays HQ.out) (by omega) (fun a ha => by have := HF2.out a ha; exact ⟨by omega, fun o ho => by have := this.2 o ho; omega⟩) (HT.out.stays HQ.out) (HSP.out.stays HQ.out)
          have CMD := Lib.hid cmd; have HDIS := Lib.hid hdis
          clear cmd hdis HD
          go_wp2_with fail
          refine CMD.out.mono ?_
          rintro e w3 ⟨⟨v3, rfl, hp3⟩, q3⟩
          obtain ⟨hmo, hml⟩ := madeL_ok l l.length (Nat.le_refl _)
          generalize madeL l l.length = ps at *
          obtain ⟨a3, c3, rfl, _⟩ := hp3.value
          obtain ⟨qa, Sa, Ea, hA⟩ : ∃ x y z, applyL ps a = (x, y, z) := ⟨_, _, _, rfl⟩
          obtain ⟨qb, Sb, Eb, hB⟩ : ∃ x y z, applyL ps b = (x, y, z) := ⟨_, _, _, rfl⟩
          have hqa := apply_ok ps a hmo
          have hqb := apply_ok ps b hmo
          have hla := apply_length ps a
          have hlb := apply_length ps b
          have hsw := fun e1 e2 => swaps_docs ps a b hmo e1 e2 HDIS.out
          have hane : Ea = 0 → 0 < a.length := fun h => by have := ((apply_ok_of ps a).1 (by rw [hA]; exact h)).1; omega
          have hbne : Eb = 0 → 0 < b.length := fun h => by have := ((apply_ok_of ps b).1 (by rw [hB]; exact h)).1; omega
          have HANE := Lib.hid hane; have HBNE := Lib.hid hbne
          clear hane hbne
          rw [hA] at hqa hla hsw
          rw [hB] at hqb hlb hsw
          simp only at hqa hla hqb hlb hsw
          have hx3 := Q.alloc w3 (.cells #[.slice a3 ps.length c3] 30)
          have hq4 := (HQ.out.trans q3).trans hx3
          have hX : w.heap.size ≤ w3.heap.size := (HQ.out.trans q3).size
          have ca1 := Apply_any _ ps _ a _ (hp3.stays hx3) (HA.out.stays hq4) (by omega) (fun o ho => by have := HGA.out o ho; omega) (by omega) hmo.1 (HT.out.stays hq4) (HSP.out.stays hq4)
          rw [hA] at ca1
          have b4 : Boxed (w3.alloc (.cells #[.slice a3 ps.length c3] 30)) w3.heap.size 30 (.slice a3 ps.length c3) := Boxed.new _ _ _
          have k4 := b4.cell
          have HMO := Lib.hid hmo; have HQ4 := Lib.hid hq4; have CA1 := Lib.hid ca1; have B4 := Lib.hid b4; have HP4 := Lib.hid (hp3.stays hx3); have HQA := Lib.hid hqa; have HQB := Lib.hid hqb; have HSW := Lib.hid hsw; have HHB := Lib.hid hB
          clear hp3 q3 hx3 hq4 hmo CMD HQ b4 ca1 hqa hqb hsw hA hB
          go_wp2_with fail
          refine CA1.out.mono ?_
          rintro e w5 ⟨⟨v5, rfl, hp5⟩, q5⟩
          obtain ⟨a5, c5, rfl, _⟩ := hp5.value
          have hx5 := Q.alloc w5 (.cells #[.slice a5 qa.length c5] 30)
          have q45 := q5.trans hx5
          have hq6 := HQ4.out.trans q45
          have hXY : w3.heap.size < w5.heap.size := Nat.lt_of_lt_of_le (by simp) q5.size
          have ca2 := Apply_any _ ps _ b _ (HP4.out.stays q45) (HB.out.stays hq6) (by omega) (fun o ho => by have := HGB.out o ho; omega) (by omega) HMO.out.1 (HT.out.stays hq6) (HSP.out.stays hq6)
          rw [HHB.out] at ca2
          have k4' := cell_stays q45 k4
          have b6 : Boxed (w5.alloc (.cells #[.slice a5 qa.length c5] 30)) w5.heap.size 30 (.slice a5 qa.length c5) := Boxed.new _ _ _
          have HP5 := Lib.hid (hp5.stays hx5); have Q45 := Lib.hid q45; have CA2 := Lib.hid ca2; have B6 := Lib.hid b6
          clear hp5 q5 hx5 q45 hq6 ca2 b6 k4 CA1
          go_wp2_with fail
          refine CA2.out.mono ?_
          rintro e w7 ⟨⟨v7, rfl, hp7⟩, q7⟩
          obtain ⟨a7, c7, rfl, _⟩ := hp7.value
          have hx7 := Q.alloc w7 (.cells #[.slice a7 qb.length c7] 30)
          have q67 := q7.trans hx7
          have hYZ : w5.heap.size < w7.heap.size := Nat.lt_of_lt_of_le (by simp) q7.size
          have hst : SwSt w (w7.alloc (.cells #[.slice a7 qb.length c7] 30)) w3.heap.size w5.heap.size w7.heap.size (.slice a3 ps.length c3) (.slice a5 qa.length c5) (.slice a7 qb.length c7) ps qa qb :=
            ⟨HP4.out.stays (Q45.out.trans q67), HP5.out.stays q67, hp7.stays hx7, block_stays' (Q45.out.trans q67) B4.out, block_stays' q67 B6.out, Boxed.new _ _ _, (HQ4.out.trans Q45.out).trans q67, hX, hXY, hYZ⟩
          have KK := Lib.hid hst
          clear hp7 q7 hx7 q67 hst k4' HP4 HP5 Q45 B4 B6 HQ4 CA2
          by_cases hEa : Ea = 0
          · by_cases hEb : Eb = 0
            · subst hEa hEb
              obtain ⟨hdd, hbig, hsml⟩ := HSW.out rfl rfl
              have hab := apply_ok qa b HQA.out
              have hba := apply_ok qb a HQB.out
              have hlab := apply_length qa b
              have hlba := apply_length qb a
              obtain ⟨p3, S3, E3, hC⟩ : ∃ x y z, applyL ps (a ++ b) = (x, y, z) := ⟨_, _, _, rfl⟩
              rw [hC] at hbig hsml
              simp only at hbig hsml
              have hab3 := apply_ok ps (a ++ b) HMO.out
              have hlab3 := apply_length ps (a ++ b)
              rw [hC] at hab3 hlab3
              simp only at hab3 hlab3
              have st := KK.out
              have k2 := st.b2.cell
              have f2 := st.b2.frozen
              have cab := Apply_any _ qa _ b _ st.p2 (HB.out.stays st.q) (by omega) (fun o ho => by have := HGB.out o ho; omega) (by omega) HQA.out.1 (HT.out.stays st.q) (HSP.out.stays st.q)
              generalize (applyL qa b).2.1 = Sab at *
              generalize (applyL qa b).2.2 = Eab at *
              generalize (applyL qa b).1 = qab at *
              have CAB := Lib.hid cab; have HAB := Lib.hid hab; have HBA := Lib.hid hba; have HCC := Lib.hid hC; have HDD := Lib.hid hdd; have HBIG := Lib.hid hbig; have HSML := Lib.hid hsml; have HAB3 := Lib.hid hab3
              clear cab hab hba hC hdd hbig hsml hab3 st HSW
              go_wp2_with fail
              refine CAB.out.mono ?_
              rintro e w9 ⟨⟨v9, rfl, hp9⟩, q9⟩
              obtain ⟨a9, c9, rfl, _⟩ := hp9.value
              have st9 := (KK.out.stays q9).turnY hp9
              have k2n := (KK.out.stays q9).b2.cell
              have f2n := (KK.out.stays q9).b2.frozen
              have k3 := st9.b3.cell
              have f3 := st9.b3.frozen
              have cba := Apply_any _ qb _ a _ st9.p3 (HA.out.stays st9.q) (by omega) (fun o ho => by have := HGA.out o ho; omega) (by omega) HQB.out.1 (HT.out.stays st9.q) (HSP.out.stays st9.q)
              generalize (applyL qb a).2.1 = Sba at *
              generalize (applyL qb a).2.2 = Eba at *
              generalize (applyL qb a).1 = qba at *
              clear KK k2 f2 q9 hp9 CAB
              have KK := Lib.hid st9; have CBA := Lib.hid cba
              clear st9 cba
              go_wp2_with fail
              refine CBA.out.mono ?_
              rintro e w10 ⟨⟨v10, rfl, hp10⟩, q10⟩
              obtain ⟨a8, c8, rfl, _⟩ := hp10.value
              have k3n := (KK.out.stays q10).b3.cell
              have f3n := (KK.out.stays q10).b3.frozen
              have st10 := (KK.out.stays q10).turnZ hp10
              have k2 := st10.b2.cell
              have k4 := st10.b3.cell
              have hdl : (docsL qab).length ≤ 1000000000 := by
                rw [← many_eq qab HAB.out.2, ← plAll_length]
                have := plTo_length qab HAB.out.1 qab.length (Nat.le_refl _)
                unfold plAll; omega
              have cd1 : ∀ W, SwSt w W w3.heap.size w5.heap.size w7.heap.size (.slice a3 ps.length c3) (.slice a9 qab.length c9) (.slice a8 qba.length c8) ps qab qba → Calls Tryz.prog 21 #[liveV (.slice a9 qab.length c9)] W fun e w' => ∃ v', e = .returned v' ∧ Docs w' v' (docsL qab) ∧ Q W w' :=
                fun W s => (LiveDocs_any _ qab W s.p2 (by omega) HAB.out.1).mono fun e w' ⟨v', h1, h2, h3⟩ => ⟨v', h1, Sl.of_owns h2, h3⟩
              have cd2 : ∀ W, SwSt w W w3.heap.size w5.heap.size w7.heap.size (.slice a3 ps.length c3) (.slice a9 qab.length c9) (.slice a8 qba.length c8) ps qab qba → Calls Tryz.prog 21 #[liveV (.slice a8 qba.length c8)] W fun e w' => ∃ v', e = .returned v' ∧ Docs w' v' (docsL qab) ∧ Q W w' :=
                fun W s => (LiveDocs_any _ qba W s.p3 (by omega) HBA.out.1).mono fun e w' ⟨v', h1, h2, h3⟩ => ⟨v', h1, by rw [HDD.out]; exact Sl.of_owns h2, h3⟩
              have hmx : Tryz.prog.follows .mixedOrders = true := by kernel_rfl
              clear KK q10 hp10 CBA k2n f2n k3 f3
              have KK := Lib.hid st10; have CD1 := Lib.hid cd1; have CD2 := Lib.hid cd2
              clear st10 cd1 cd2
              go_wp2_with fail
              clear k3n f3n
              go_region_held3 (fun w' => w'.cell? ⟨w5.heap.size, 0, none⟩ = some (.slice a9 qab.length c9) ∧ w'.cell? ⟨w7.heap.size, 0, none⟩ = some (.slice a8 qba.length c8)) (first | exact ⟨k2, k4⟩ | exact ⟨KK.out.b2.cell, KK.out.b3.cell⟩)
                (first
                  | (go_at_call 21; ((with_reducible refine (CD1.out _ (by first | exact KK.out | exact KK.out.dr)).mono ?_); rintro e w' ⟨vd1, rfl, hd1, q⟩); have s' := SwSt.stays (show SwSt w _ w3.heap.size w5.heap.size w7.heap.size (.slice a3 ps.length c3) (.slice a9 qab.length c9) (.slice a8 qba.length c8) ps qab qba by first | exact KK.out | exact KK.out.dr) q; clear KK; have KK := Lib.hid s'; have HD1 := Lib.hid hd1; clear s' q hd1)
                  | (go_at_call 21; ((with_reducible refine (CD2.out _ (by first | exact KK.out | exact KK.out.dr)).mono ?_); rintro e w' ⟨vd2, rfl, hd2, q⟩); have s' := SwSt.stays (show SwSt w _ w3.heap.size w5.heap.size w7.heap.size (.slice a3 ps.length c3) (.slice a9 qab.length c9) (.slice a8 qba.length c8) ps qab qba by first | exact KK.out | exact KK.out.dr) q; clear KK; have KK := Lib.hid s'; have hd1 := Sl.stays HD1.out q; clear HD1; have HD1 := Lib.hid hd1; have HD2 := Lib.hid hd2; clear s' q hd1 hd2)
                  | (go_at_call 20; refine (sameDocs_any _ _ (docsL qab) (docsL qab) _ (by first | exact HD1.out | exact Sl.stays HD1.out (Q.drew _)) (by first | exact HD2.out | exact Sl.stays HD2.out (Q.drew _)) hdl hdl).mono ?_; rw [decide_eq_true rfl]; rintro e w' ⟨rfl, q⟩; have s' := SwSt.stays (show SwSt w _ w3.heap.size w5.heap.size w7.heap.size (.slice a3 ps.length c3) (.slice a9 qab.length c9) (.slice a8 qba.length c8) ps qab qba by first | exact KK.out | exact KK.out.dr) q; clear KK; have KK := Lib.hid s'; clear s' q))
              all_goals
                clear k2 k4 HD1 HD2
                have hna0 := HANE.out (by trivial)
                have hnb0 := HBNE.out (by trivial)
                obtain ⟨ba, oa, ea, _⟩ := HAC.out hna0
                obtain ⟨bb, ob, eb, _⟩ := HBC.out hnb0
                subst ea eb
                have k1 := KK.out.b1.cell
                clear HAC HBC CD1 CD2
                go_wp2_with fail
                refine swaps23_wp _ w3.heap.size ba oa a.length ca bb ob b.length cb ps.length c3 a3 ps p3 a b S3 E3 KK.out.b1 KK.out.p1 (HA.out.stays KK.out.q) (HB.out.stays KK.out.q) rfl rfl hna0 hnb0 (by omega) (by omega) (fun o ho => by rcases List.mem_append.1 ho with h | h; (have := HGA.out o h; omega); (have := HGB.out o h; omega)) (by omega) HMO.out HCC.out (HT.out.stays KK.out.q) (HSP.out.stays KK.out.q) _ _ _ _ _ _ _ _ _ _ _ _ _ _ _ _ _ _ _ _ _ _ _ _ _ _ _ _ _ _ _ _ _ _ _ _ _ _ _ _ _ _ _ _ _ _ _ _ _ _ _ _ _ _ _ _ _ _ _ _ _ _ _ _ _ _ _ _ _ _ _ _ _ _ _ _ _ _ _ _ _ _ _ _ _ _ _ _ _ _ _ _ _ _ _ _ _ _ _ _ _ _ _ _ _ _ _ _ _ _ _ _ _ _ _ _ _ _ _ _ _ _ _ _ _ _ _ _ _ _ _ _ _ _ _ _ _ _ _ ?_
                intro W Y a10 c10 z109 z110 z111 z112 z113 z114 z115 z116 z117 z118 z119 q23 hYb hb10 hp10
                have st3 : SwSt3 w W w3.heap.size w5.heap.size w7.heap.size Y (.slice a3 ps.length c3) (.slice a9 qab.length c9) (.slice a8 qba.length c8) (.slice a10 p3.length c10) ps qab qba p3 := ⟨KK.out.stays q23, hp10, hb10⟩
                clear k1 KK q23 hp10 hb10
                have k2 := st3.s.b2.cell
                have k9 := st3.b4.cell
                have KK := Lib.hid st3
                clear st3
                by_cases h50 : 50 < a.length + b.length
                · have hE := HBIG.out h50
                  have h50i : (50 : Int) < (a.length : Int) + (b.length : Int) := by omega
                  have hwr : IntKind.i64.wrap ((a.length : Int) + (b.length : Int)) = (a.length : Int) + (b.length : Int) := IntWalk.i64_in _ (by omega)
                  clear h50
                  subst hE
                  go_wp2_with fail
                  go_quiet (fail)
                  go_wp2_with fail
                  go_ret
                  exact ⟨rfl, KK.out.s.q.trans (Q.drewN _ _)⟩
                · obtain ⟨hE, hdc⟩ := HSML.out h50
                  have ce1 : ∀ W, SwSt3 w W w3.heap.size w5.heap.size w7.heap.size Y (.slice a3 ps.length c3) (.slice a9 qab.length c9) (.slice a8 qba.length c8) (.slice a10 p3.length c10) ps qab qba p3 → Calls Tryz.prog 21 #[liveV (.slice a9 qab.length c9)] W fun e w' => ∃ v', e = .returned v' ∧ Docs w' v' (docsL qab) ∧ Q W w' :=
                    fun W s => (LiveDocs_any _ qab W s.s.p2 (by omega) HAB.out.1).mono fun e w' ⟨v', h1, h2, h3⟩ => ⟨v', h1, Sl.of_owns h2, h3⟩
                  have ce3 : ∀ W, SwSt3 w W w3.heap.size w5.heap.size w7.heap.size Y (.slice a3 ps.length c3) (.slice a9 qab.length c9) (.slice a8 qba.length c8) (.slice a10 p3.length c10) ps qab qba p3 → Calls Tryz.prog 21 #[liveV (.slice a10 p3.length c10)] W fun e w' => ∃ v', e = .returned v' ∧ Docs w' v' (docsL qab) ∧ Q W w' :=
                    fun W s => (LiveDocs_any _ p3 W s.p4 (by omega) HAB3.out.1).mono fun e w' ⟨v', h1, h2, h3⟩ => ⟨v', h1, by rw [← hdc]; exact Sl.of_owns h2, h3⟩
                  have CE1 := Lib.hid ce1; have CE3 := Lib.hid ce3
                  clear ce1 ce3 h50 hdc
                  subst hE
                  go_wp2_with fail
                  first
                    | (go_region_law
                        (first
                          | (go_simp; go_at_call 21; ((with_reducible refine (CE3.out _ (by first | exact KK.out | exact KK.out.dr)).mono ?_); rintro e w' ⟨ve1, rfl, hd1, q⟩); have s' := SwSt3.stays (show SwSt3 w _ w3.heap.size w5.heap.size w7.heap.size Y (.slice a3 ps.length c3) (.slice a9 qab.length c9) (.slice a8 qba.length c8) (.slice a10 p3.length c10) ps qab qba p3 by first | exact KK.out | exact KK.out.dr) q; clear KK; have k2 := s'.s.b2.cell; have k9 := s'.b4.cell; have KK := Lib.hid s'; have HD1 := Lib.hid hd1; clear s' q hd1)
                          | (go_simp; go_at_call 21; ((with_reducible refine (CE1.out _ (by first | exact KK.out | exact KK.out.dr)).mono ?_); rintro e w' ⟨ve2, rfl, hd2, q⟩); have s' := SwSt3.stays (show SwSt3 w _ w3.heap.size w5.heap.size w7.heap.size Y (.slice a3 ps.length c3) (.slice a9 qab.length c9) (.slice a8 qba.length c8) (.slice a10 p3.length c10) ps qab qba p3 by first | exact KK.out | exact KK.out.dr) q; clear KK; have k2 := s'.s.b2.cell; have k9 := s'.b4.cell; have KK := Lib.hid s'; have hd1 := Sl.stays HD1.out q; clear HD1; have HD1 := Lib.hid hd1; have HD2 := Lib.hid hd2; clear s' q hd1 hd2)
                          | (go_simp; go_at_call 20; refine (sameDocs_any _ _ (docsL qab) (docsL qab) _ (by first | exact HD1.out | exact Sl.stays HD1.out (Q.drew _)) (by first | exact HD2.out | exact Sl.stays HD2.out (Q.drew _)) hdl hdl).mono ?_; rw [decide_eq_true rfl]; rintro e w' ⟨rfl, q⟩; have s' := SwSt3.stays (show SwSt3 w _ w3.heap.size w5.heap.size w7.heap.size Y (.slice a3 ps.length c3) (.slice a9 qab.length c9) (.slice a8 qba.length c8) (.slice a10 p3.length c10) ps qab qba p3 by first | exact KK.out | exact KK.out.dr) q; clear KK; have k2 := s'.s.b2.cell; have k9 := s'.b4.cell; have KK := Lib.hid s'; clear s' q)))
                    | fail
                  all_goals
                    go_wp2_with fail
                    go_ret
                    exact ⟨rfl, KK.out.s.q⟩
            · have hEai : (Ea != 0) = false := by simp [hEa]
              have hEbi : (Eb != 0) = true := by simpa using hEb
              clear hEa hEb
              go_wp2_with fail
              go_ret
              exact ⟨rfl, KK.out.q⟩
          · have hEai : (Ea != 0) = true := by simpa using hEa
            clear hEa
            go_wp2_with fail
            go_ret
            exact ⟨rfl, KK.out.q⟩
end Go.Proofs.YtepofekepagfhaaGreatDoor
