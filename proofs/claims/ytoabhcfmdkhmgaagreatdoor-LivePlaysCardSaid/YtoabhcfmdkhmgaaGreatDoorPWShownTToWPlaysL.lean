/- Joined texts of one proof: WShownT, WShown15, WPlaysB, WPlaysL. -/
import Derived.Test.YtoabhcfmdkhmgaaGreatDoorPWMergeToWLaw15b
import Derived.Test.YtoabhcfmdkhmgaaGreatDoorPBitEToShown15
import Derived.Test.YtoabhcfmdkhmgaaGreatDoorPWLiveQToBitC
import Derived.Deep.RegionHeld3
set_option linter.unusedSimpArgs false
set_option linter.unusedVariables false
set_option linter.unnecessarySimpa false
/- (WShownT) codexlaw15.shown: walked: true. -/
section
namespace Go.Proofs.YtoabhcfmdkhmgaaGreatDoor
open Go.RowKit
set_option linter.unusedVariables false

theorem short_ops (l : List OpL) (h : (l.all fun o => decide (o.2.1.length ≤ 1000) && decide (o.2.2.length ≤ 1000)) = true) : ∀ o ∈ l, o.2.1.length ≤ 9223372036854775807 ∧ o.2.2.length ≤ 9223372036854775807 := by
  intro o ho
  have := List.all_eq_true.1 h o ho
  simp only [Bool.and_eq_true, decide_eq_true_eq] at this
  omega
structure ShSt (w W : World) (X b off c p : Nat) : Prop where
  parts : PartsAt W (.slice (some ⟨b, off, none⟩) 1 c) exP1
  box : Boxed W X 27 (.slice (some ⟨b, off, none⟩) 1 c)
  ptr : W.cell? ⟨b, off, none⟩ = some (.pointer (some ⟨p, 0, none⟩))
  seg : SegAt W p exD1 (idxS exD1)
  q : Q w W
theorem ShSt.stays {w W W' : World} {X b off c p : Nat} (h : ShSt w W X b off c p) (q : Q W W') : ShSt w W' X b off c p :=
  ⟨h.parts.stays q, block_stays' q h.box, cell_stays q h.ptr, h.seg.stays q, h.q.trans q⟩
theorem ShSt.al {w W : World} {X b off c p : Nat} {o : Obj} (h : ShSt w W X b off c p) : ShSt w (W.alloc o) X b off c p := h.stays (Q.alloc _ _)
theorem ShSt.dr {w W : World} {X b off c p : Nat} (h : ShSt w W X b off c p) : ShSt w W.drew X b off c p := h.stays (Q.drew _)
theorem Ops.al {W : World} {v : Value} {l : List OpL} {o : Obj} (h : Ops W v l) : Ops (W.alloc o) v l := h.stays (Q.alloc _ _)
theorem Ops.dr {W : World} {v : Value} {l : List OpL} (h : Ops W v l) : Ops W.drew v l := h.stays (Q.drew _)
theorem ops_lit2 (w : World) (a : Bool) (b c : Bytes) (d : Bool) (e f : Bytes) (t : TypeId) : Ops (w.alloc (.cells #[.bool a, strV b, strV c, .bool d, strV e, strV f] t)) (.slice (some ⟨w.heap.size, 0, none⟩) 2 2) [(a, (b, c)), (d, (e, f))] := Sl.lit w _ _ 2 3 rfl
theorem ops_lit1 (w : World) (a : Bool) (b c : Bytes) (t : TypeId) : Ops (w.alloc (.cells #[.bool a, strV b, strV c] t)) (.slice (some ⟨w.heap.size, 0, none⟩) 1 1) [(a, (b, c))] := Sl.lit w _ _ 1 3 rfl
theorem ops_lit2' (w : World) (a : Bool) (b c : Bytes) (d : Bool) (e f : Bytes) (t : TypeId) (g : Nat) (hg : g = w.heap.size) : Ops (w.alloc (.cells #[.bool a, strV b, strV c, .bool d, strV e, strV f] t)) (.slice (some ⟨g, 0, none⟩) 2 2) [(a, (b, c)), (d, (e, f))] := hg ▸ ops_lit2 w a b c d e f t
theorem ops_lit1' (w : World) (a : Bool) (b c : Bytes) (t : TypeId) (g : Nat) (hg : g = w.heap.size) : Ops (w.alloc (.cells #[.bool a, strV b, strV c] t)) (.slice (some ⟨g, 0, none⟩) 1 1) [(a, (b, c))] := hg ▸ ops_lit1 w a b c t
theorem docs_lit2 (w : World) (a b c d : Bytes) (e : TypeId) : Docs (w.alloc (.cells #[strV a, strV b, strV c, strV d] e)) (.slice (some ⟨w.heap.size, 0, none⟩) 2 2) [(a, b), (c, d)] := Sl.lit w _ _ 2 2 rfl
theorem ShSt.setBox {w W : World} {X b off c p : Nat} (h : ShSt w W X b off c p) {Y : Nat} (hb : Boxed W Y 27 (.slice none 0 0)) (u : Value) (hY : X ≠ Y) (hw : w.heap.size ≤ Y) : ShSt w (W.setCell ⟨Y, 0, none⟩ u) X b off c p := by
  have hne := box_ne hb h.ptr (by simp)
  refine ⟨PartsAt.setBox hb u h.parts (by decide), (set_far W u hY).trans h.box, ?_, h.seg.setBox hb u (by decide), h.q.setCell hw _⟩
  rw [← h.ptr]
  simp only [World.cell?, set_far W u hne]
noncomputable def shown5 : Code := ((Tryz.f4.body.bind (findRegion 5)).getD .skip)
set_option maxRecDepth 100000 in
set_option maxHeartbeats 4000000 in
theorem shown5_wp (w W0 : World) (X b off c p : Nat) (hS : ShSt w W0 X b off c p) (hT : Tabs w) (hSp : Spans w) (Qx : Exit → Act → World → Prop) (x0 x2 x3 x4 x5 x6 x7 x8 x9 x10 x11 x12 x13 x14 x15 x16 x17 x18 x19 x20 x21 x22 x23 x24 x25 x26 x27 x28 x29 x30 x31 x32 x33 x34 x35 x36 x37 x38 x39 x40 x41 x42 x43 x44 x45 x46 x47 x48 x49 x50 x51 x52 x53 x54 x55 x56 x57 x58 x59 x60 x61 x62 x63 x64 x65 x66 x67 x68 x69 x70 x71 x72 x73 x74 x75 x76 x77 x78 x79 x80 x81 x82 x83 x84 x85 x86 x87 x88 x89 x90 x91 x92 x93 x94 x95 x96 x97 x98 x99 x100 x101 x102 x103 x104 x105 x106 x107 x108 x109 x110 x111 x112 x113 x114 x115 x116 x117 x118 x119 x120 x121 x122 x123 x124 x125 x126 x127 x128 x129 x130 x131 x132 x133 x134 x135 x136 x137 x138 x139 x140 : Value)
    (hQ : ∀ W Y a2 c2 z74 z75 z76 z77 z78 z79 z80 z81 z82, ShSt w W X b off c p → Boxed W Y 27 (.slice a2 2 c2) → PartsAt W (.slice a2 2 c2) exP2 → Qx .normal ⟨#[x0, .pointer (some ⟨X, 0, none⟩), x2, x3, x4, .pointer (some ⟨Y, 0, none⟩), strV (exS exD2), .int .i64 0, x8, x9, x10, x11, x12, x13, x14, x15, x16, x17, x18, x19, x20, x21, x22, x23, x24, x25, x26, x27, x28, x29, x30, x31, x32, x33, x34, x35, x36, x37, x38, x39, x40, x41, x42, x43, x44, x45, x46, x47, x48, x49, x50, x51, x52, x53, x54, x55, x56, x57, x58, x59, x60, x61, x62, x63, x64, x65, x66, x67, x68, x69, x70, x71, x72, x73, z74, z75, z76, z77, z78, z79, z80, z81, z82, x83, x84, x85, x86, x87, x88, x89, x90, x91, x92, x93, x94, x95, x96, x97, x98, x99, x100, x101, x102, x103, x104, x105, x106, x107, x108, x109, x110, x111, x112, x113, x114, x115, x116, x117, x118, x119, x120, x121, x122, x123, x124, x125, x126, x127, x128, x129, x130, x131, x132, x133, x134, x135, x136, x137, x138, x139, x140], []⟩ W) :
    shown5.wp Tryz.prog Qx ⟨#[x0, .pointer (some ⟨X, 0, none⟩), x2, x3, x4, x5, x6, x7, x8, x9, x10, x11, x12, x13, x14, x15, x16, x17, x18, x19, x20, x21, x22, x23, x24, x25, x26, x27, x28, x29, x30, x31, x32, x33, x34, x35, x36, x37, x38, x39, x40, x41, x42, x43, x44, x45, x46, x47, x48, x49, x50, x51, x52, x53, x54, x55, x56, x57, x58, x59, x60, x61, x62, x63, x64, x65, x66, x67, x68, x69, x70, x71, x72, x73, x74, x75, x76, x77, x78, x79, x80, x81, x82, x83, x84, x85, x86, x87, x88, x89, x90, x91, x92, x93, x94, x95, x96, x97, x98, x99, x100, x101, x102, x103, x104, x105, x106, x107, x108, x109, x110, x111, x112, x113, x114, x115, x116, x117, x118, x119, x120, x121, x122, x123, x124, x125, x126, x127, x128, x129, x130, x131, x132, x133, x134, x135, x136, x137, x138, x139, x140], []⟩ W0 := by
  have k1 := hS.box.cell
  have hlt0 := hS.box.lt
  have hsz0 := hS.q.size
  have KK := Lib.hid hS; have HT := Lib.hid hT; have HSP := Lib.hid hSp; have HQX := Lib.hid hQ
  have capp : ∀ W ov ops, ShSt w W X b off c p → Ops W ov ops → ops.length ≤ 1000000 → (∀ o ∈ ops, o.2.1.length ≤ 9223372036854775807 ∧ o.2.2.length ≤ 9223372036854775807) → Calls Tryz.prog 15 #[liveV (.slice (some ⟨b, off, none⟩) 1 c), ov] W fun e w' => (∃ a c, e = .returned (.tuple #[liveV (.slice a (applyL exP1 ops).1.length c), strV (applyL exP1 ops).2.1, .int .i64 (applyL exP1 ops).2.2]) ∧ PartsAt w' (.slice a (applyL exP1 ops).1.length c) (applyL exP1 ops).1) ∧ Q W w' := by
    intro W ov ops s o hl1 hl2
    refine (Apply_any _ exP1 ov ops W s.parts o hl1 hl2 (by decide) ex_ok1.1 (HT.out.stays s.q) (HSP.out.stays s.q)).mono ?_
    rintro e w' ⟨⟨v', rfl, hp⟩, q⟩
    obtain ⟨a, c, rfl, _⟩ := hp.value
    exact ⟨⟨a, c, rfl, hp⟩, q⟩
  have cap2 := fun W ov s o => capp W ov exO2 s o (by decide) (short_ops _ (by decide))
  rw [ex_apply2] at cap2
  have CAP2 := Lib.hid cap2
  clear cap2 capp hS hT hSp hQ
  conv => arg 2; whnf
  have hmx : Tryz.prog.follows .mixedOrders = true := by kernel_rfl
  refine wp_region_noPanic ?_
  go_region_held3 (fun w' => w'.cell? ⟨X, 0, none⟩ = some (.slice (some ⟨b, off, none⟩) 1 c)) (first | exact k1 | exact (ShSt.box (by repeat (first | with_reducible exact KK.out | with_reducible apply ShSt.al | with_reducible apply ShSt.dr))).cell | exact (World.cell?_setCell_other _ _ _ _ (by simp <;> omega)).trans KK.out.box.cell)
    (first
      | (go_at_call 18; refine (gone_any [120] _).mono ?_; rintro e w' ⟨rfl, q⟩; (try (have hbx : Boxed _ _ 27 (.slice none 0 0) := (by first | exact block_stays' q HBX.out | exact block_stays' q (Boxed.alloc HBX.out _) | exact block_stays' q (World.alloc_heap_new _ _) | exact block_stays' q (Boxed.alloc (World.alloc_heap_new _ _) _)); have cb := hbx.cell; have fb := hbx.frozen; (try simp only [World.size_alloc, drewSize] at cb fb hbx); have HBX := Lib.hid hbx; clear hbx)); have s' : ShSt w w' X b off c p := ShSt.stays (by repeat (first | with_reducible exact KK.out | with_reducible apply ShSt.al | with_reducible apply ShSt.dr)) q; clear KK; have KK := Lib.hid s'; have hlt := s'.box.lt; have hsz := s'.q.size; clear s' q)
      | (go_at_call 16; refine (doc_any [122] [52] _).mono ?_; rintro e w' ⟨rfl, q⟩; (try (have hbx : Boxed _ _ 27 (.slice none 0 0) := (by first | exact block_stays' q HBX.out | exact block_stays' q (Boxed.alloc HBX.out _) | exact block_stays' q (World.alloc_heap_new _ _) | exact block_stays' q (Boxed.alloc (World.alloc_heap_new _ _) _)); have cb := hbx.cell; have fb := hbx.frozen; (try simp only [World.size_alloc, drewSize] at cb fb hbx); have HBX := Lib.hid hbx; clear hbx)); have s' : ShSt w w' X b off c p := ShSt.stays (by repeat (first | with_reducible exact KK.out | with_reducible apply ShSt.al | with_reducible apply ShSt.dr)) q; clear KK; have KK := Lib.hid s'; have hlt := s'.box.lt; have hsz := s'.q.size; clear s' q)
      | (go_at_call 15; refine (CAP2.out _ _ (by repeat (first | with_reducible exact KK.out | with_reducible apply ShSt.al | with_reducible apply ShSt.dr)) (by repeat (first | (refine ops_lit2' _ _ _ _ _ _ _ _ _ ?_; simp only [World.size_alloc, drewSize]; done) | with_reducible apply Ops.al | with_reducible apply Ops.dr))).mono ?_; rintro e w' ⟨⟨a2, c2, rfl, hp2⟩, q⟩; (try (have hbx : Boxed _ _ 27 (.slice none 0 0) := (by first | exact block_stays' q HBX.out | exact block_stays' q (Boxed.alloc HBX.out _) | exact block_stays' q (World.alloc_heap_new _ _) | exact block_stays' q (Boxed.alloc (World.alloc_heap_new _ _) _)); have cb := hbx.cell; have fb := hbx.frozen; (try simp only [World.size_alloc, drewSize] at cb fb hbx); have HBX := Lib.hid hbx; clear hbx)); have s' : ShSt w w' X b off c p := ShSt.stays (by repeat (first | with_reducible exact KK.out | with_reducible apply ShSt.al | with_reducible apply ShSt.dr)) q; clear KK; have KK := Lib.hid s'; have HP2 := Lib.hid hp2; clear s' q hp2))
  all_goals first
    | exact HQX.out _ _ a2 c2 _ _ _ _ _ _ _ _ _ (by repeat (first | with_reducible exact KK.out | with_reducible apply ShSt.al | with_reducible apply ShSt.dr)) (Boxed.new _ _ _) (HP2.out.stays (Q.alloc _ _))
    | exact HQX.out _ _ a2 c2 _ _ _ _ _ _ _ _ _ (KK.out.setBox HBX.out _ (by omega) (by omega)) (Boxed.set _ HBX.out) (PartsAt.setBox HBX.out _ HP2.out (by decide))
noncomputable def shown9 : Code := ((Tryz.f4.body.bind (findRegion 9)).getD .skip)
set_option maxRecDepth 100000 in
set_option maxHeartbeats 4000000 in
theorem shown9_wp (w W0 : World) (X b off c p : Nat) (hS : ShSt w W0 X b off c p) (hT : Tabs w) (hSp : Spans w) (Qx : Exit → Act → World → Prop) (x0 x2 x3 x4 x5 x6 x7 x8 x9 x10 x11 x12 x13 x14 x15 x16 x17 x18 x19 x20 x21 x22 x23 x24 x25 x26 x27 x28 x29 x30 x31 x32 x33 x34 x35 x36 x37 x38 x39 x40 x41 x42 x43 x44 x45 x46 x47 x48 x49 x50 x51 x52 x53 x54 x55 x56 x57 x58 x59 x60 x61 x62 x63 x64 x65 x66 x67 x68 x69 x70 x71 x72 x73 x74 x75 x76 x77 x78 x79 x80 x81 x82 x83 x84 x85 x86 x87 x88 x89 x90 x91 x92 x93 x94 x95 x96 x97 x98 x99 x100 x101 x102 x103 x104 x105 x106 x107 x108 x109 x110 x111 x112 x113 x114 x115 x116 x117 x118 x119 x120 x121 x122 x123 x124 x125 x126 x127 x128 x129 x130 x131 x132 x133 x134 x135 x136 x137 x138 x139 x140 : Value)
    (hQ : ∀ W Y a2 c2 z101 z102 z103 z104 z105 z106 z107 z108, ShSt w W X b off c p → Boxed W Y 27 (.slice a2 1 c2) → PartsAt W (.slice a2 1 c2) exP1 → Qx .normal ⟨#[x0, .pointer (some ⟨X, 0, none⟩), x2, x3, x4, x5, x6, x7, x8, x9, x10, x11, x12, x13, x14, .pointer (some ⟨Y, 0, none⟩), strV [], .int .i64 1, x18, x19, x20, x21, x22, x23, x24, x25, x26, x27, x28, x29, x30, x31, x32, x33, x34, x35, x36, x37, x38, x39, x40, x41, x42, x43, x44, x45, x46, x47, x48, x49, x50, x51, x52, x53, x54, x55, x56, x57, x58, x59, x60, x61, x62, x63, x64, x65, x66, x67, x68, x69, x70, x71, x72, x73, x74, x75, x76, x77, x78, x79, x80, x81, x82, x83, x84, x85, x86, x87, x88, x89, x90, x91, x92, x93, x94, x95, x96, x97, x98, x99, x100, z101, z102, z103, z104, z105, z106, z107, z108, x109, x110, x111, x112, x113, x114, x115, x116, x117, x118, x119, x120, x121, x122, x123, x124, x125, x126, x127, x128, x129, x130, x131, x132, x133, x134, x135, x136, x137, x138, x139, x140], []⟩ W) :
    shown9.wp Tryz.prog Qx ⟨#[x0, .pointer (some ⟨X, 0, none⟩), x2, x3, x4, x5, x6, x7, x8, x9, x10, x11, x12, x13, x14, x15, x16, x17, x18, x19, x20, x21, x22, x23, x24, x25, x26, x27, x28, x29, x30, x31, x32, x33, x34, x35, x36, x37, x38, x39, x40, x41, x42, x43, x44, x45, x46, x47, x48, x49, x50, x51, x52, x53, x54, x55, x56, x57, x58, x59, x60, x61, x62, x63, x64, x65, x66, x67, x68, x69, x70, x71, x72, x73, x74, x75, x76, x77, x78, x79, x80, x81, x82, x83, x84, x85, x86, x87, x88, x89, x90, x91, x92, x93, x94, x95, x96, x97, x98, x99, x100, x101, x102, x103, x104, x105, x106, x107, x108, x109, x110, x111, x112, x113, x114, x115, x116, x117, x118, x119, x120, x121, x122, x123, x124, x125, x126, x127, x128, x129, x130, x131, x132, x133, x134, x135, x136, x137, x138, x139, x140], []⟩ W0 := by
  have k1 := hS.box.cell
  have hlt0 := hS.box.lt
  have hsz0 := hS.q.size
  have KK := Lib.hid hS; have HT := Lib.hid hT; have HSP := Lib.hid hSp; have HQX := Lib.hid hQ
  have capp : ∀ W ov ops, ShSt w W X b off c p → Ops W ov ops → ops.length ≤ 1000000 → (∀ o ∈ ops, o.2.1.length ≤ 9223372036854775807 ∧ o.2.2.length ≤ 9223372036854775807) → Calls Tryz.prog 15 #[liveV (.slice (some ⟨b, off, none⟩) 1 c), ov] W fun e w' => (∃ a c, e = .returned (.tuple #[liveV (.slice a (applyL exP1 ops).1.length c), strV (applyL exP1 ops).2.1, .int .i64 (applyL exP1 ops).2.2]) ∧ PartsAt w' (.slice a (applyL exP1 ops).1.length c) (applyL exP1 ops).1) ∧ Q W w' := by
    intro W ov ops s o hl1 hl2
    refine (Apply_any _ exP1 ov ops W s.parts o hl1 hl2 (by decide) ex_ok1.1 (HT.out.stays s.q) (HSP.out.stays s.q)).mono ?_
    rintro e w' ⟨⟨v', rfl, hp⟩, q⟩
    obtain ⟨a, c, rfl, _⟩ := hp.value
    exact ⟨⟨a, c, rfl, hp⟩, q⟩
  have cap2 := fun W ov s o => capp W ov [(true, ([], []))] s o (by decide) (short_ops _ (by decide))
  rw [ex_arg] at cap2
  have CAP2 := Lib.hid cap2
  clear cap2 capp hS hT hSp hQ
  conv => arg 2; whnf
  have hmx : Tryz.prog.follows .mixedOrders = true := by kernel_rfl
  refine wp_region_noPanic ?_
  go_region_held3 (fun w' => w'.cell? ⟨X, 0, none⟩ = some (.slice (some ⟨b, off, none⟩) 1 c)) (first | exact k1 | exact (ShSt.box (by repeat (first | with_reducible exact KK.out | with_reducible apply ShSt.al | with_reducible apply ShSt.dr))).cell | exact (World.cell?_setCell_other _ _ _ _ (by simp <;> omega)).trans KK.out.box.cell)
    (first
      | (go_at_call 18; refine (gone_any [] _).mono ?_; rintro e w' ⟨rfl, q⟩; (try (have hbx : Boxed _ _ 27 (.slice none 0 0) := (by first | exact block_stays' q HBX.out | exact block_stays' q (Boxed.alloc HBX.out _) | exact block_stays' q (World.alloc_heap_new _ _) | exact block_stays' q (Boxed.alloc (World.alloc_heap_new _ _) _)); have cb := hbx.cell; have fb := hbx.frozen; (try simp only [World.size_alloc, drewSize] at cb fb hbx); have HBX := Lib.hid hbx; clear hbx)); have s' : ShSt w w' X b off c p := ShSt.stays (by repeat (first | with_reducible exact KK.out | with_reducible apply ShSt.al | with_reducible apply ShSt.dr)) q; clear KK; have KK := Lib.hid s'; have hlt := s'.box.lt; have hsz := s'.q.size; clear s' q)
      | (go_at_call 15; refine (CAP2.out _ _ (by repeat (first | with_reducible exact KK.out | with_reducible apply ShSt.al | with_reducible apply ShSt.dr)) (by repeat (first | (refine ops_lit1' _ _ _ _ _ _ ?_; simp only [World.size_alloc, drewSize]; done) | with_reducible apply Ops.al | with_reducible apply Ops.dr))).mono ?_; rintro e w' ⟨⟨a2, c2, rfl, hp2⟩, q⟩; (try (have hbx : Boxed _ _ 27 (.slice none 0 0) := (by first | exact block_stays' q HBX.out | exact block_stays' q (Boxed.alloc HBX.out _) | exact block_stays' q (World.alloc_heap_new _ _) | exact block_stays' q (Boxed.alloc (World.alloc_heap_new _ _) _)); have cb := hbx.cell; have fb := hbx.frozen; (try simp only [World.size_alloc, drewSize] at cb fb hbx); have HBX := Lib.hid hbx; clear hbx)); have s' : ShSt w w' X b off c p := ShSt.stays (by repeat (first | with_reducible exact KK.out | with_reducible apply ShSt.al | with_reducible apply ShSt.dr)) q; clear KK; have KK := Lib.hid s'; have HP2 := Lib.hid hp2; clear s' q hp2))
  all_goals first
    | exact HQX.out _ _ a2 c2 _ _ _ _ _ _ _ _ (by repeat (first | with_reducible exact KK.out | with_reducible apply ShSt.al | with_reducible apply ShSt.dr)) (Boxed.new _ _ _) (HP2.out.stays (Q.alloc _ _))
    | exact HQX.out _ _ a2 c2 _ _ _ _ _ _ _ _ (KK.out.setBox HBX.out _ (by omega) (by omega)) (Boxed.set _ HBX.out) (PartsAt.setBox HBX.out _ HP2.out (by decide))
end Go.Proofs.YtoabhcfmdkhmgaaGreatDoor
end

/- (WShown15) codexlaw15.shown: walked: true. -/
section
namespace Go.Proofs.YtoabhcfmdkhmgaaGreatDoor
open Go.RowKit
set_option linter.unusedVariables false

set_option maxRecDepth 100000 in
set_option maxHeartbeats 8000000 in
theorem Shown15 (w : World) (hT : Tabs w) (hSp : Spans w) : Calls Tryz.prog 4 #[] w fun e w' => e = .returned (.bool true) ∧ Q w w' := by
  have HT := Lib.hid hT; have HSP := Lib.hid hSp
  clear hT hSp
  go_enter Tryz.func4, Tryz.ntmps4
  go_wp2_with fail
  refine (doc_any [120] [49] _).mono ?_
  rintro e w1 ⟨rfl, q1⟩
  have HQ1 := Lib.hid q1; clear q1
  go_wp2_with fail
  refine (doc_any [121] [50] _).mono ?_
  rintro e w2 ⟨rfl, q2⟩
  have HQ2 := Lib.hid (HQ1.out.trans q2); clear q2
  go_wp2_with fail
  refine (doc_any [120] [51] _).mono ?_
  rintro e w3 ⟨rfl, q3⟩
  have hq3 := HQ2.out.trans q3
  have hlit : Ops (w3.alloc (.cells #[.bool false, strV [120], strV [49], .bool false, strV [121], strV [50], .bool false, strV [120], strV [51]] 51)) (.slice (some ⟨w3.heap.size, 0, none⟩) 3 3) exO1 := Sl.lit w3 _ _ 3 3 rfl
  have hq4 := hq3.trans (Q.alloc w3 (.cells #[.bool false, strV [120], strV [49], .bool false, strV [121], strV [50], .bool false, strV [120], strV [51]] 51))
  have c := Apply_any _ [] _ exO1 _ (PartsAt.nil _) hlit (by decide) (short_ops _ (by decide)) (by decide) (by simp) (HT.out.stays hq4) (HSP.out.stays hq4)
  rw [ex_apply1] at c
  have C := Lib.hid c; have HQ4 := Lib.hid hq4
  clear c hlit hq3 hq4 q3 HQ1 HQ2
  go_wp2_with fail
  refine C.out.mono ?_
  rintro e w5 ⟨⟨v1, rfl, hp1⟩, q5⟩
  have hq5 := HQ4.out.trans q5
  obtain ⟨a1, c1, rfl, hpc⟩ := hp1.value
  obtain ⟨b1, off1, rfl, hpd⟩ := hpc (by decide)
  obtain ⟨p1, hc0, hc1, hsg⟩ := hpd 0 (by decide)
  simp only [List.length_cons, List.length_nil, Nat.zero_add, Nat.zero_mul, Nat.add_zero, List.getElem_cons_zero] at hp1 hc0 hc1 hsg ⊢
  have hse := exS_ne exD1
  generalize exS exD1 = S1 at *
  have HSE := Lib.hid hse
  clear hse
  have hx1 := Q.alloc w5 (.cells #[.slice (some ⟨b1, off1, none⟩) 1 c1] 27)
  have hb1 : Boxed (w5.alloc (.cells #[.slice (some ⟨b1, off1, none⟩) 1 c1] 27)) w5.heap.size 27 (.slice (some ⟨b1, off1, none⟩) 1 c1) := Boxed.new _ _ _
  have hst : ShSt w (w5.alloc (.cells #[.slice (some ⟨b1, off1, none⟩) 1 c1] 27)) w5.heap.size b1 off1 c1 p1 := ⟨hp1.stays hx1, hb1, cell_stays hx1 hc0, hsg.stays hx1, hq5.trans hx1⟩
  have HS := Lib.hid hst
  clear hq5 q5 hp1 hpc hpd hc0 hc1 hsg hx1 hb1 C HQ4 hst
  have hse := HSE.out
  have k1 := HS.out.box.cell
  go_wp2_with fail
  have cm := Many_any _ exP1 _ HS.out.parts (by decide) ex_ok1.1
  rw [ex_many1] at cm
  refine cm.mono ?_
  rintro e w6 ⟨rfl, q6⟩
  have HS6 := Lib.hid (HS.out.stays q6)
  clear cm q6 HS k1
  have k1 := HS6.out.box.cell
  go_wp2_with fail
  have cd := LiveDocs_any _ exP1 _ HS6.out.parts (by decide) ex_ok1.1
  rw [ex_docs1] at cd
  refine cd.mono ?_
  rintro e w7 ⟨v7, rfl, ho7, q7⟩
  have HS7 := Lib.hid (HS6.out.stays q7)
  have hd7 : Docs w7 v7 [([120], [51]), ([121], [50])] := Sl.of_owns ho7
  clear cd q7 HS6 k1 ho7
  have k1 := HS7.out.box.cell
  have HD7 := Lib.hid hd7; clear hd7
  go_wp2_with fail
  have cs := sameDocs_any _ _ _ _ _ (HD7.out.stays (Q.alloc _ _)) (docs_lit2 w7 [120] [51] [121] [50] 49) (by decide) (by decide)
  rw [decide_eq_true rfl] at cs
  refine cs.mono ?_
  rintro e w8 ⟨rfl, q8⟩
  have HS8 := Lib.hid (HS7.out.stays ((Q.alloc _ _).trans q8))
  clear cs q8 HS7 k1 HD7
  have k1 := HS8.out.box.cell
  have k2 := HS8.out.ptr
  go_wp2_with fail
  refine (SegDocs_any p1 exD1 (idxS exD1) _ HS8.out.seg (by decide)).mono ?_
  rintro e w9 ⟨v9, rfl, ho9, q9⟩
  have HS9 := Lib.hid (HS8.out.stays q9)
  have HD9 := Lib.hid (show Docs w9 v9 exD1 from Sl.of_owns ho9)
  clear q9 HS8 k1 k2 ho9
  go_wp2_with fail
  have cs := sameDocs_any _ _ _ _ _ (HD9.out.stays (Q.alloc _ _)) (docs_lit2 w9 [121] [50] [120] [51] 49) (by decide) (by decide)
  rw [decide_eq_true rfl] at cs
  refine cs.mono ?_
  rintro e w10 ⟨rfl, q10⟩
  have HS10 := Lib.hid (HS9.out.stays ((Q.alloc _ _).trans q10))
  clear cs q10 HS9 HD9
  have k1 := HS10.out.box.cell
  clear k1
  go_wp2_with fail
  refine shown5_wp w _ w5.heap.size b1 off1 c1 p1 HS10.out HT.out HSP.out _ _ _ _ _ _ _ _ _ _ _ _ _ _ _ _ _ _ _ _ _ _ _ _ _ _ _ _ _ _ _ _ _ _ _ _ _ _ _ _ _ _ _ _ _ _ _ _ _ _ _ _ _ _ _ _ _ _ _ _ _ _ _ _ _ _ _ _ _ _ _ _ _ _ _ _ _ _ _ _ _ _ _ _ _ _ _ _ _ _ _ _ _ _ _ _ _ _ _ _ _ _ _ _ _ _ _ _ _ _ _ _ _ _ _ _ _ _ _ _ _ _ _ _ _ _ _ _ _ _ _ _ _ _ _ _ _ _ _ _ _ ?_
  intro W Y a2 c2 z74 z75 z76 z77 z78 z79 z80 z81 z82 hs11 hb11 hp11
  have HS11 := Lib.hid hs11; have HB11 := Lib.hid hb11; have HP11 := Lib.hid hp11
  clear hs11 hb11 hp11 HS10
  have k1 := HB11.out.cell
  go_wp2_with fail
  have cd := LiveDocs_any _ exP2 _ HP11.out (by decide) ex_ok2.1
  rw [ex_docs2] at cd
  refine cd.mono ?_
  rintro e w12 ⟨v12, rfl, ho12, q12⟩
  have HS12 := Lib.hid (HS11.out.stays q12); have HB12 := Lib.hid (block_stays' q12 HB11.out); have HP12 := Lib.hid (HP11.out.stays q12)
  have HD12 := Lib.hid (show Docs w12 v12 [([121], [50]), ([122], [52])] from Sl.of_owns ho12)
  clear cd q12 HS11 HB11 HP11 k1 ho12
  go_wp2_with fail
  have cs := sameDocs_any _ _ _ _ _ (HD12.out.stays (Q.alloc _ _)) (docs_lit2 w12 [121] [50] [122] [52] 49) (by decide) (by decide)
  rw [decide_eq_true rfl] at cs
  refine cs.mono ?_
  rintro e w13 ⟨rfl, q13⟩
  have q13' := (Q.alloc w12 (.cells #[strV [121], strV [50], strV [122], strV [52]] 49)).trans q13
  have HS13 := Lib.hid (HS12.out.stays q13'); have HB13 := Lib.hid (block_stays' q13' HB12.out); have HP13 := Lib.hid (HP12.out.stays q13')
  clear cs q13 q13' HS12 HB12 HP12 HD12
  have k1 : w13.cell? ⟨Y, 0, none⟩ = some (.slice a2 2 c2) := Boxed.cell HB13.out
  go_wp2_with fail
  have cm := Merge_any _ exP2 0 1 _ HP13.out (by decide) ex_ok2 (HT.out.stays HS13.out.q) (HSP.out.stays HS13.out.q)
  obtain ⟨me, ml⟩ := ex_merge
  rw [me] at cm
  refine cm.mono ?_
  rintro e w14 ⟨⟨v14, rfl, hp14⟩, q14⟩
  obtain ⟨a3, c3, hv3, _⟩ := hp14.value
  rw [ml] at hv3
  subst hv3
  generalize (mergeL exP2 0 1).2.1 = S3 at *
  have hx14 := Q.alloc w14 (.cells #[.slice a3 1 c3] 27)
  have HS14 := Lib.hid (HS13.out.stays (q14.trans hx14)); have HB14 := Lib.hid (block_stays' (q14.trans hx14) HB13.out)
  have HB9 := Lib.hid (Boxed.new w14 27 (.slice a3 1 c3))
  clear cm me ml hp14 q14 hx14 HS13 HB13 HP13 k1
  have k1 := HS14.out.box.cell
  go_wp2_with fail
  have ca := Apply_any _ exP1 (.slice none 0 0) [] _ HS14.out.parts (Sl.nil _ _) (by decide) (by simp) (by decide) ex_ok1.1 (HT.out.stays HS14.out.q) (HSP.out.stays HS14.out.q)
  rw [ex_many] at ca
  refine ca.mono ?_
  rintro e w15 ⟨⟨v15, rfl, hp15⟩, q15⟩
  obtain ⟨a4, c4, rfl, _⟩ := hp15.value
  have hx15 := Q.alloc w15 (.cells #[.slice a4 1 c4] 27)
  have HS15 := Lib.hid (HS14.out.stays (q15.trans hx15)); have HB15 := Lib.hid (block_stays' (q15.trans hx15) HB14.out); have HB95 := Lib.hid (block_stays' (q15.trans hx15) HB9.out)
  clear ca hp15 q15 hx15 HS14 HB14 HB9 k1
  go_wp2_with fail
  have hs15 := HS15.out
  refine shown9_wp _ _ w5.heap.size b1 off1 c1 p1 ⟨hs15.parts, hs15.box, hs15.ptr, hs15.seg, Q.refl _⟩ (HT.out.stays hs15.q) (HSP.out.stays hs15.q) _ _ _ _ _ _ _ _ _ _ _ _ _ _ _ _ _ _ _ _ _ _ _ _ _ _ _ _ _ _ _ _ _ _ _ _ _ _ _ _ _ _ _ _ _ _ _ _ _ _ _ _ _ _ _ _ _ _ _ _ _ _ _ _ _ _ _ _ _ _ _ _ _ _ _ _ _ _ _ _ _ _ _ _ _ _ _ _ _ _ _ _ _ _ _ _ _ _ _ _ _ _ _ _ _ _ _ _ _ _ _ _ _ _ _ _ _ _ _ _ _ _ _ _ _ _ _ _ _ _ _ _ _ _ _ _ _ _ _ _ _ ?_
  intro W2 Y2 a5 c5 y101 y102 y103 y104 y105 y106 y107 y108 hs16 hb16 hp16
  have k5 : W2.cell? ⟨Y, 0, none⟩ = some (.slice a2 2 c2) := Boxed.cell (block_stays' hs16.q HB15.out)
  have k9 : W2.cell? ⟨w14.heap.size, 0, none⟩ = some (.slice a3 1 c3) := Boxed.cell (block_stays' hs16.q HB95.out)
  have HQ := Lib.hid (hs15.q.trans hs16.q)
  clear hs16 hb16 hp16 hs15 HS15 HB15 HB95
  go_wp2_with fail
  go_ret
  exact ⟨rfl, HQ.out⟩
end Go.Proofs.YtoabhcfmdkhmgaaGreatDoor
end

/- (WPlaysB) codexlaw15: alike: walked. -/
section
namespace Go.Proofs.YtoabhcfmdkhmgaaGreatDoor
open Go.RowKit
set_option linter.unusedVariables false

set_option maxRecDepth 100000 in
set_option maxHeartbeats 8000000 in
theorem Alike_any (v lv : Value) (l : List PartM) (ps : List PartL) (w : World) (hv : PartsAt w v ps) (hlv : PartsM w lv l) (he : ps = (l.map rOf).map toP) (hn : l.length ≤ 1000) (hl : ∀ p ∈ l, RPartOk p.2.2) :
    Calls Tryz.prog 11 #[liveV v, lv] w fun e w' => e = .returned (.bool true) ∧ Q w w' := by
  have hpl : ps.length = l.length := by rw [he]; simp
  have hpe : ∀ (k : Nat) (h1 : k < ps.length) (h2 : k < l.length), ps[k] = (l[k].2.2.1, bmpL l[k].2.2.2) := fun k h1 h2 => by
    subst he; simp [toP, rOf]
  obtain ⟨va, vcap, rfl, hvc⟩ := hv.value
  obtain ⟨la, lcap, rfl, hlc⟩ := hlv.value
  have hin := hlv.2.1
  have hq0 := Q.alloc w (.cells #[.slice va ps.length vcap] 27)
  have hbx := Boxed.new w 27 (.slice va ps.length vcap)
  rw [hpl] at hq0 hbx ⊢
  have HVC := Lib.hid hvc; have HLC := Lib.hid hlc; have HIN := Lib.hid hin; have HL := Lib.hid hl; have HQ0 := Lib.hid hq0; have HBX := Lib.hid hbx; have HPE := Lib.hid hpe; have HPL := Lib.hid hpl
  clear hvc hlc hin hl hq0 hbx hv hlv he hpe hpl
  have hmx : Tryz.prog.follows .mixedOrders = true := by kernel_rfl
  go_enter Tryz.func11, Tryz.ntmps11
  go_wp2_with fail
  generalize w.alloc (.cells #[.slice va l.length vcap] 27) = wb at *
  generalize hBd : w.heap.size = B at *
  go_loopw [5, 6] (fun i _ wr => ∃ k : Nat, k ≤ l.length ∧ i = .int .i64 (k : Nat) ∧ Hid (Q wb wr)) (fun i _ _ => l.length - (intOf i).toNat)
  case atStart => exact ⟨0, by omega, rfl, Q.refl _⟩
  case round =>
    obtain ⟨k, hk, rfl, HQ⟩ := hrel
    obtain ⟨wo, rfl⟩ : ∃ wo : World, wo = wr := ⟨_, rfl⟩
    by_cases hlt : k < l.length
    · have hkp : k < ps.length := by rw [HPL.out]; exact hlt
      obtain ⟨vb, voff, rfl, hvcc⟩ := HVC.out (by rw [HPL.out]; omega)
      obtain ⟨p, p0, p1, hseg⟩ := hvcc k hkp
      obtain ⟨lb, loff, rfl, hlcc⟩ := HLC.out (by omega)
      have hqw := HQ0.out.trans HQ.out
      have y0 := cell_stays hqw p0
      have y1 := cell_stays hqw p1
      have y2 := cell_stays hqw (hlcc k hlt).1
      have y3 := cell_stays hqw (hlcc k hlt).2
      have y4 := cell_stays HQ.out HBX.out.cell
      have hki : (k : Int) < (l.length : Int) := by omega
      have hk0 : (0 : Int) ≤ (k : Int) := by omega
      have hpe := HPE.out k hkp hlt
      rw [hpe] at y1 hseg
      obtain ⟨hd, hg⟩ := HIN.out _ (List.getElem_mem hlt)
      obtain ⟨h51, h52, _⟩ := (HL.out _ (List.getElem_mem hlt)).len
      clear hvcc hlcc hpe p0 p1
      generalize l[k] = x at *
      obtain ⟨dv, gv, r⟩ := x
      obtain ⟨ds, gs⟩ := r
      simp only at y1 y2 y3 hseg hd hg h51 h52
      obtain ⟨da, dc, rfl, _⟩ := hd.value
      obtain ⟨ga, gc, rfl, _⟩ := hg.value
      have hqa := hqw.trans (Q.alloc wo (.cells #[.pointer (some ⟨p, 0, none⟩), strV (bmpL gs)] 55))
      have hwa := Q.alloc wo (.cells #[.pointer (some ⟨p, 0, none⟩), strV (bmpL gs)] 55)
      obtain ⟨k0, k1, _, _⟩ := Blk.c2 (Blk.new wo 55 #[.pointer (some ⟨p, 0, none⟩), strV (bmpL gs)])
      have k2 := cell_stays hwa y2
      have k3 := cell_stays hwa y3
      have cb := fun W (q : Q (wo.alloc (.cells #[.pointer (some ⟨p, 0, none⟩), strV (bmpL gs)] 55)) W) => Bits_any _ gs W (hg.stays (hqa.trans q)) h52
      have cd : ∀ W, Q (wo.alloc (.cells #[.pointer (some ⟨p, 0, none⟩), strV (bmpL gs)] 55)) W → Calls Tryz.prog 17 #[.pointer (some ⟨p, 0, none⟩)] W fun e w' => ∃ v', e = .returned v' ∧ Docs w' v' ds ∧ Q W w' := fun W q =>
        (SegDocs_any p ds _ W (hseg.stays (hqa.trans q)) (by omega)).mono fun e w' ⟨v', h1, h2, h3⟩ => ⟨v', h1, Sl.of_owns h2, h3⟩
      have hdd : ∀ W, Q (wo.alloc (.cells #[.pointer (some ⟨p, 0, none⟩), strV (bmpL gs)] 55)) W → Docs W (.slice da ds.length dc) ds := fun W q => Sl.stays hd (hqa.trans q)
      have hfl : ds.length ≤ 1000000000 := by omega
      have hqq : Q wb (wo.alloc (.cells #[.pointer (some ⟨p, 0, none⟩), strV (bmpL gs)] 55)) := HQ.out.trans hwa
      have hpn : p < wo.heap.size := by
        obtain ⟨_, _, h, _⟩ := hseg
        exact Nat.lt_of_lt_of_le (Array.getElem?_eq_some_iff.1 h).1 hqw.size
      generalize bmpL gs = g at *
      have CB := Lib.hid cb; have CD := Lib.hid cd; have HDD := Lib.hid hdd; have HQQ := Lib.hid hqq
      clear cb cd hdd hqq hseg hd hg hqa hwa hqw
      have KK : Hid (Q (wo.alloc (.cells #[.pointer (some ⟨p, 0, none⟩), strV g] 55)) (wo.alloc (.cells #[.pointer (some ⟨p, 0, none⟩), strV g] 55))) := Q.refl _
      have K0 := Lib.hid k0; have K1 := Lib.hid k1; have K2 := Lib.hid k2; have K3 := Lib.hid k3
      go_wp2_with fail
      go_region_held3 (fun w' => w'.cell? ⟨wo.heap.size, 0, none⟩ = some (.pointer (some ⟨p, 0, none⟩)) ∧ w'.cell? ⟨wo.heap.size, 1, none⟩ = some (strV g) ∧ w'.cell? ⟨lb, loff + k * 2, none⟩ = some (.slice da ds.length dc) ∧ w'.cell? ⟨lb, loff + k * 2 + 1, none⟩ = some (.slice ga gs.length gc))
        (first | exact ⟨k0, k1, k2, k3⟩ | exact ⟨cell_stays KK.out K0.out, cell_stays KK.out K1.out, cell_stays KK.out K2.out, cell_stays KK.out K3.out⟩ | exact ⟨cell_stays (KK.out.trans (Q.drew _)) K0.out, cell_stays (KK.out.trans (Q.drew _)) K1.out, cell_stays (KK.out.trans (Q.drew _)) K2.out, cell_stays (KK.out.trans (Q.drew _)) K3.out⟩)
        (first
          | (go_at_call 17; ((with_reducible refine (CD.out _ (by first | exact KK.out | exact KK.out.trans (Q.drew _))).mono ?_); rintro e w' ⟨vd1, rfl, hd1, q⟩); have s' : Q _ w' := Q.trans (by first | exact KK.out | exact KK.out.trans (Q.drew _)) q; clear KK; have KK := Lib.hid s'; have HD1 := Lib.hid hd1; clear s' q hd1)
          | (go_at_call 12; refine (sameDocs_any _ _ ds ds _ (by first | exact HD1.out | exact Sl.stays HD1.out (Q.drew _)) (HDD.out _ (by first | exact KK.out | exact KK.out.trans (Q.drew _))) hfl hfl).mono ?_; rw [decide_eq_true rfl]; rintro e w' ⟨rfl, q⟩; have s' : Q _ w' := Q.trans (by first | exact KK.out | exact KK.out.trans (Q.drew _)) q; clear KK; have KK := Lib.hid s'; clear s'; (try (have hd1 := Sl.stays HD1.out q; clear HD1; have HD1 := Lib.hid hd1; clear hd1)); clear q)
          | (go_at_call 25; ((with_reducible refine (CB.out _ (by first | exact KK.out | exact KK.out.trans (Q.drew _))).mono ?_); rintro e w' ⟨rfl, q⟩); have s' : Q _ w' := Q.trans (by first | exact KK.out | exact KK.out.trans (Q.drew _)) q; clear KK; have KK := Lib.hid s'; clear s'; (try (have hd1 := Sl.stays HD1.out q; clear HD1; have HD1 := Lib.hid hd1; clear hd1)); clear q))
      all_goals
        have HQN := Lib.hid (HQQ.out.trans KK.out)
        clear k0 k1 k2 k3
        go_wp2_with fail
        go_roundw
        case rel => exact ⟨k + 1, by omega, by go_num, HQN⟩
        case measure => simp [intOf]; omega
    · have hke : k = l.length := by omega
      subst hke
      go_wp2_with fail
      go_ret
      exact ⟨rfl, by subst hBd; exact HQ0.out.trans HQ.out⟩
end Go.Proofs.YtoabhcfmdkhmgaaGreatDoor
end

/- (WPlaysL) codexlaw15.LivePlays: walked. -/
section
namespace Go.Proofs.YtoabhcfmdkhmgaaGreatDoor
open Go.RowKit
set_option linter.unusedVariables false

set_option maxRecDepth 100000 in
set_option maxHeartbeats 8000000 in
theorem PlaysL_walk (v : Value) (l : List ActL) (id : Bytes) (w : World) (hv : Acts w v l) (hlw : ActsWf l) (hidl : id.length ≤ 9223372036854775807) (hT : Tabs w) (hSp : Spans w) :
    Calls Tryz.prog 3 #[v, .string ⟨id.toArray⟩] w fun e w' => e = .returned (.bool true) ∧ Q w w' := by
  have csh := Shown15 w hT hSp
  have csm := fun W (q : Q w W) => Small_any v l W (hv.stays q) hlw.1 hlw.2
  obtain ⟨a1, c1, hva, hcell⟩ := hv.value
  subst hva
  have HC := Lib.hid hcell; have HT := Lib.hid hT; have HSP := Lib.hid hSp; have CSH := Lib.hid csh
  clear hv hT hSp csh hlw hcell
  cases hs1 : smallB l with
  | false =>
    rw [hs1] at csm
    have HS1 := Lib.hid hs1; have CSM := Lib.hid csm
    clear hs1 csm
    go_enter Tryz.func3, Tryz.ntmps3
    go_wp2_with fail
    refine CSH.out.mono ?_
    rintro e w1 ⟨rfl, q1⟩
    have HQ1 := Lib.hid q1; clear q1
    go_wp2_with fail
    refine (CSM.out w1 HQ1.out).mono ?_
    rintro e w2 ⟨rfl, rfl⟩
    go_wp2_with fail
    go_ret
    exact ⟨rfl, HQ1.out⟩
  | true =>
    rw [hs1] at csm
    obtain ⟨hf1, hf2⟩ := smallB_facts hs1
    have HS1 := Lib.hid hs1; have CSM := Lib.hid csm
    clear hs1 csm
    by_cases h200 : (200 : Int) < (id.length : Int)
    · go_enter Tryz.func3, Tryz.ntmps3
      go_wp2_with fail
      refine CSH.out.mono ?_
      rintro e w1 ⟨rfl, q1⟩
      have HQ1 := Lib.hid q1; clear q1
      go_wp2_with fail
      refine (CSM.out w1 HQ1.out).mono ?_
      rintro e w2 ⟨rfl, rfl⟩
      go_wp2_with fail
      go_ret
      exact ⟨rfl, HQ1.out⟩
    · have HL2 := Lib.hid hf2; clear hf2
      go_enter Tryz.func3, Tryz.ntmps3
      go_wp2_with fail
      refine CSH.out.mono ?_
      rintro e w1 ⟨rfl, q1⟩
      have HQ1 := Lib.hid q1; clear q1
      go_wp2_with fail
      refine (CSM.out w1 HQ1.out).mono ?_
      rintro e w2 ⟨rfl, rfl⟩
      go_wp2_with fail
      have hq0 := HQ1.out.trans (Q.alloc w1 (.cells #[.slice none 0 0] 27))
      have hi0 : ∃ a c, Boxed (w1.alloc (.cells #[.slice none 0 0] 27)) w1.heap.size 27 (.slice a (madeR l 0).length c) ∧ PartsAt (w1.alloc (.cells #[.slice none 0 0] 27)) (.slice a (madeR l 0).length c) ((madeR l 0).map toP) := ⟨none, 0, Boxed.new _ _ _, PartsAt.nil _⟩
      have H0 := Lib.hid hi0; have HQ0 := Lib.hid hq0
      clear hi0 hq0 CSM CSH
      have hX : w.heap.size ≤ w1.heap.size := HQ1.out.size
      go_loopw [8, 9, 10, 11, 12, 13, 14, 15] (fun mv x _ _ _ _ _ _ wr => ∃ (k : Nat) (pl : List PartM), x = .int .i64 (k : Nat) ∧ k ≤ l.length ∧ pl.length ≤ k ∧ Hid (pl.map rOf = madeR l k) ∧ Hid (PartsM wr mv pl) ∧ Hid (∃ a c, Boxed wr w1.heap.size 27 (.slice a (madeR l k).length c) ∧ PartsAt wr (.slice a (madeR l k).length c) ((madeR l k).map toP)) ∧ Hid (Q w wr)) (fun _ x _ _ _ _ _ _ _ => l.length - (intOf x).toNat)
      case atStart => exact ⟨0, [], rfl, by omega, by simp, rfl, ⟨Sl.nil _ _, fun p hp => by simp at hp, fun a n c e => by cases e; exact Nat.le_refl _⟩, H0, HQ0⟩
      case round =>
        obtain ⟨k, pl, rfl, hk, hpl, HPM, HM, HI, HQ⟩ := hrel
        obtain ⟨wo, rfl⟩ : ∃ wo : World, wo = wr := ⟨_, rfl⟩
        obtain ⟨pa, pc, b3, hp⟩ := HI.out
        obtain ⟨hr1, hr2, hr3⟩ := madeR_ok l k hk
        have hrl : (madeR l k).length = pl.length := by rw [← HPM.out]; simp
        obtain ⟨ma, mc, rfl, _⟩ := HM.out.value
        by_cases hlt : k < l.length
        · obtain ⟨b, off, rfl, hc⟩ := HC.out (by omega)
          obtain ⟨ov, c0, c1, c2, c3, hops⟩ := hc k hlt
          obtain ⟨hl1, hl2⟩ := HL2.out _ (List.getElem_mem hlt)
          have hms := madeR_succ l k hlt
          have k0 := cell_stays HQ.out c0
          have k1 := cell_stays HQ.out c1
          have k2 := cell_stays HQ.out c2
          have k3 := cell_stays HQ.out c3
          have hi0 : (0 : Int) ≤ (k : Int) := by omega
          have hi1 : (k : Int) < (l.length : Int) := by omega
          have hdo := model_R (madeR l k) l[k] hr1 hr2
          have hmo := model_ok (madeR l k) l[k] hr1 hr2
          have cdo : ∀ (W : World) (hq : Q wo W), Calls Tryz.prog 6 #[liveV (.slice pa (madeR l k).length pc), .agg #[ov, .bool l[k].2.1, .int .i64 l[k].2.2.1, .int .i64 l[k].2.2.2]] W fun e w' => (∃ v', e = .returned (.tuple #[liveV v', strV (modelR (madeR l k) l[k]).2.1, .int .i64 (modelR (madeR l k) l[k]).2.2]) ∧ PartsAt w' v' ((modelR (madeR l k) l[k]).1.map toP)) ∧ Q W w' := fun W hq => by
            have c := Does_any _ ((madeR l k).map toP) ov l[k] W (hp.stays hq) ((hops.stays HQ.out).stays hq) (by omega) (fun o ho => by have := hl2 o ho; omega) (by rw [List.length_map]; omega) hr2 ((HT.out.stays HQ.out).stays hq) ((HSP.out.stays HQ.out).stays hq)
            rw [hdo] at c
            exact c
          have cmo : ∀ (W : World) (hq : Q wo W), Calls Tryz.prog 7 #[.slice ma pl.length mc, .agg #[ov, .bool l[k].2.1, .int .i64 l[k].2.2.1, .int .i64 l[k].2.2.2]] W fun e w' => RPost W (modelR (madeR l k) l[k]) e w' := fun W hq => by
            have c := Model_any _ pl ov l[k] W (HM.out.stays hq) (by omega) (fun p hp => hr1 _ (by rw [← HPM.out]; exact List.mem_map_of_mem hp)) (by rw [HPM.out]; exact hr2) ((hops.stays HQ.out).stays hq) (by omega) (fun o ho => by have := hl2 o ho; omega)
            rw [HPM.out] at c
            exact c
          rw [← hms] at hmo
          have hlen : (modelR (madeR l k) l[k]).1.length ≤ k + 1 := by
            have := does_length ((madeR l k).map toP) l[k]
            rw [hdo, List.length_map, List.length_map] at this
            omega
          have b3c := b3.cell
          obtain ⟨oa, oc, hov, _⟩ := hops.value
          have CDO := Lib.hid cdo; have CMO := Lib.hid cmo; have HMS := Lib.hid hms; have B3 := Lib.hid b3; have HP := Lib.hid hp; have HMO := Lib.hid hmo; have HR1 := Lib.hid hr1
          clear cdo cmo hc c0 c1 c2 c3 hops hl1 hl2 hms b3 hp hmo hr1 hr2 hr3 hdo HI
          generalize modelR (madeR l k) l[k] = M at *
          obtain ⟨M1, M2, M3⟩ := M
          generalize l[k] = act at *
          obtain ⟨aops, am, ai, aj⟩ := act
          subst hov
          simp only at k0 k1 k2 k3 hlen
          have hmx : Tryz.prog.follows .mixedOrders = true := by kernel_rfl
          have hxlt : w1.heap.size < wo.heap.size := cell_lt b3c
          generalize hmk : madeR l k = mk at *
          have HMK := Lib.hid hmk; have HRL := Lib.hid hrl
          clear hmk hrl
          have hblt : b < wo.heap.size := cell_lt k0
          have fk : ∀ w', Q wo w' → w'.cell? ⟨w1.heap.size, 0, none⟩ = some (.slice pa mk.length pc) ∧ w'.cell? ⟨b, off + k * 4, none⟩ = some (.slice oa aops.length oc) ∧ w'.cell? ⟨b, off + k * 4 + 1, none⟩ = some (.bool am) ∧ w'.cell? ⟨b, off + k * 4 + 2, none⟩ = some (.int .i64 ai) ∧ w'.cell? ⟨b, off + k * 4 + 3, none⟩ = some (.int .i64 aj) := fun w' q => ⟨cell_stays q b3c, cell_stays q k0, cell_stays q k1, cell_stays q k2, cell_stays q k3⟩
          have FK := Lib.hid fk
          clear fk
          have KK : Hid (Q wo wo) := Q.refl _
          have B0 := Lib.hid b3c; have K0 := Lib.hid k0; have K1 := Lib.hid k1; have K2 := Lib.hid k2; have K3 := Lib.hid k3
          go_wp2_with fail
          go_region_held3 (fun w' => w'.cell? ⟨w1.heap.size, 0, none⟩ = some (.slice pa mk.length pc) ∧ w'.cell? ⟨b, off + k * 4, none⟩ = some (.slice oa aops.length oc) ∧ w'.cell? ⟨b, off + k * 4 + 1, none⟩ = some (.bool am) ∧ w'.cell? ⟨b, off + k * 4 + 2, none⟩ = some (.int .i64 ai) ∧ w'.cell? ⟨b, off + k * 4 + 3, none⟩ = some (.int .i64 aj))
            (first
              | exact ⟨b3c, k0, k1, k2, k3⟩
              | exact FK.out _ (by repeat (first | with_reducible exact KK.out | with_reducible refine Q.setCell ?_ (Nat.le_refl _) _ | with_reducible refine Q.trans ?_ (Q.drew _) | with_reducible refine Q.trans ?_ (Q.alloc _ _)))
              | exact ⟨(World.cell?_setCell_other _ _ _ _ (by simp <;> omega)).trans (cell_stays KK.out B0.out), (World.cell?_setCell_other _ _ _ _ (by simp <;> omega)).trans (cell_stays KK.out K0.out), (World.cell?_setCell_other _ _ _ _ (by simp <;> omega)).trans (cell_stays KK.out K1.out), (World.cell?_setCell_other _ _ _ _ (by simp <;> omega)).trans (cell_stays KK.out K2.out), (World.cell?_setCell_other _ _ _ _ (by simp <;> omega)).trans (cell_stays KK.out K3.out)⟩)
            (first
              | (go_at_call 6; ((with_reducible refine (CDO.out _ (by repeat (first | with_reducible exact KK.out | with_reducible refine Q.trans ?_ (Q.drew _) | with_reducible refine Q.trans ?_ (Q.alloc _ _)))).mono ?_); rintro e w' ⟨⟨v', rfl, hp1⟩, q⟩); (try (have hbx : Boxed _ _ 27 (.slice none 0 0) := (by first | exact block_stays' q HBX.out | exact block_stays' q (Boxed.alloc HBX.out _) | exact block_stays' q (World.alloc_heap_new _ _) | exact block_stays' q (Boxed.alloc (World.alloc_heap_new _ _) _)); have cb := hbx.cell; have fb := hbx.frozen; (try simp only [World.size_alloc, drewSize] at cb fb hbx); have HBX := Lib.hid hbx; clear hbx)); have s' : Q wo w' := Q.trans (by repeat (first | with_reducible exact KK.out | with_reducible refine Q.trans ?_ (Q.drew _) | with_reducible refine Q.trans ?_ (Q.alloc _ _))) q; clear KK; have KK := Lib.hid s'; clear s' q; obtain ⟨xa, xcap, hvv, _⟩ := hp1.value; rw [List.length_map] at hvv; subst hvv; have HP1 := Lib.hid hp1; clear hp1))
          all_goals
            have hb2 : Boxed _ _ 27 (.slice xa M1.length xcap) := (by first | exact Boxed.set (.slice xa M1.length xcap) HBX.out | exact Boxed.new w' 27 (.slice xa M1.length xcap))
            have hp2 : PartsAt _ (.slice xa M1.length xcap) (M1.map toP) := (by first | exact PartsAt.setBox HBX.out (.slice xa M1.length xcap) HP1.out (by decide) | exact HP1.out.stays (Q.alloc w' (.cells #[.slice xa M1.length xcap] 27)))
            have hq2 : Q wo _ := (by first | exact (fun (_ : Boxed _ _ _ _) => KK.out.setCell (a := ⟨wo.heap.size, 0, none⟩) (Nat.le_refl _) (.slice xa M1.length xcap)) HBX.out | exact KK.out.trans (Q.alloc w' (.cells #[.slice xa M1.length xcap] 27)))
            obtain ⟨e0, e1, e2, e3, e4⟩ := FK.out _ hq2
            have HB2 := Lib.hid hb2; have HP2 := Lib.hid hp2; have HQ2 := Lib.hid hq2
            clear b3c k0 k1 k2 k3 hb2 hp2 hq2
            try clear cb fb
            go_wp2_with fail
            refine (CMO.out _ HQ2.out).mono ?_
            rintro e w5 ⟨⟨mv5, pl5, rfl, hpm5, hmr5⟩, q5⟩
            have hq5 := HQ2.out.trans q5
            have hb5 := block_stays' q5 HB2.out
            have hbX := block_stays' hq5 B3.out
            have c5 := Boxed.cell hb5
            have cX := Boxed.cell hbX
            have fX := Boxed.frozen hbX
            obtain ⟨m5a, m5c, hm5v, _⟩ := hpm5.value
            subst hm5v
            have hmok := HMO.out
            rw [HMS.out] at hmok
            simp only at hmr5 hmok
            have hpm6 := PartsM.setBox hbX (.slice xa M1.length xcap) (HP.out.stays hq5) hpm5 (fun p hp => hmok.1 _ (by rw [← hmr5]; exact List.mem_map_of_mem hp))
            have hp6 := PartsAt.setBox hbX (.slice xa M1.length xcap) (HP2.out.stays q5) (by decide)
            have hb6 := Boxed.set (.slice xa M1.length xcap) hbX
            have hq6 : Q w (w5.setCell ⟨w1.heap.size, 0, none⟩ (.slice xa M1.length xcap)) := (HQ.out.trans hq5).setCell (by simpa using hX) _
            have hl5 : pl5.length = M1.length := by rw [← hmr5]; simp
            have hii : ∃ a c, Boxed (w5.setCell ⟨w1.heap.size, 0, none⟩ (.slice xa M1.length xcap)) w1.heap.size 27 (.slice a (madeR l (k + 1)).length c) ∧ PartsAt (w5.setCell ⟨w1.heap.size, 0, none⟩ (.slice xa M1.length xcap)) (.slice a (madeR l (k + 1)).length c) ((madeR l (k + 1)).map toP) := by
              rw [HMS.out]; exact ⟨xa, xcap, hb6, hp6⟩
            have hpm : pl5.map rOf = madeR l (k + 1) := by rw [HMS.out]; exact hmr5
            have HII := Lib.hid hii; have HPM6 := Lib.hid hpm6; have HQ6 := Lib.hid hq6; have HL5 := Lib.hid hl5; have HPME := Lib.hid hpm
            clear hii hpm6 hq6 hl5 hpm hp6 hb6 hmok hmr5 hpm5 hb5 hbX hq5 q5 e0 e1 e2 e3 e4
            go_wp2_with fail
            go_roundw
            case rel => exact ⟨k + 1, pl5, by go_num, by omega, by rw [HL5.out]; exact hlen, HPME, HPM6, HII, HQ6⟩
            case measure => simp [intOf]; omega
        · have hke : k = l.length := by omega
          subst hke
          have hmany := many_R _ hr1 hr2
          have hget := get_R _ hr1 hr2 id
          have hdeq := docsR_eq _ hr1 hr2.2
          have hdlen := docsR_len _ hr1 hr2
          have hpl1 : ∀ p ∈ pl, RPartOk p.2.2 := fun p hp => hr1 _ (by rw [← HPM.out]; exact List.mem_map_of_mem hp)
          have cd := RDocs15_any _ pl wo HM.out (by omega) (fun p hp => ⟨(hpl1 p hp).1, (hpl1 p hp).len.1⟩)
          have hpse : (madeR l l.length).map toP = (pl.map rOf).map toP := by rw [HPM.out]
          rw [HPM.out] at cd
          have hpsl : ((madeR l l.length).map toP).length = (madeR l l.length).length := by simp
          have b3c := b3.cell
          generalize docsR (madeR l l.length) = ds at *
          generalize (madeR l l.length).map toP = ps at *
          generalize (madeR l l.length).length = np at *
          have hds5 : ds.length ≤ 20 * 500 := by omega
          have hps5 : ps.length ≤ 1000000 := by omega
          have hpl5 : pl.length ≤ 1000 := by omega
          have CD := Lib.hid cd; have B3 := Lib.hid b3; have HP := Lib.hid hp; have HMANY := Lib.hid hmany; have HGET := Lib.hid hget; have HDEQ := Lib.hid hdeq; have HPL1 := Lib.hid hpl1; have HPSE := Lib.hid hpse; have HR2 := Lib.hid hr2; have HRL := Lib.hid hrl
          clear cd b3 hp hmany hget hdeq hpl1 hpse hr1 hr2 hr3 hrl hpsl hdlen HI H0 HQ0
          go_wp2_with fail
          refine CD.out.mono ?_
          rintro e w3 ⟨dv, rfl, hdo, q3⟩
          have hd3 := Sl.of_owns hdo
          obtain ⟨da, dc, hdv, _⟩ := owns_value hdo
          subst hdv
          have k3 := cell_stays q3 b3c
          have cg := LGet_any _ ps id w3 (HP.out.stays q3) hps5 HR2.out.1
          have CG := Lib.hid cg; have HD3 := Lib.hid hd3; have Q3 := Lib.hid q3
          clear cg hd3 hdo q3 CD
          go_wp2_with fail
          refine CG.out.mono ?_
          rintro e w4 ⟨rfl, q4⟩
          have cr := RGet15_any _ ds id w4 (HD3.out.stays q4) (by omega)
          rw [HGET.out] at cr
          have k4 := cell_stays q4 k3
          have CR := Lib.hid cr; have Q4 := Lib.hid (Q3.out.trans q4); have HD4 := Lib.hid (HD3.out.stays q4)
          clear cr q4 CG k3
          generalize getL ps id = gg at *
          go_wp2_with fail
          refine CR.out.mono ?_
          rintro e w5 ⟨rfl, q5⟩
          have k5 := cell_stays q5 k4
          have hq5 := Q4.out.trans q5
          have cal : ∀ W, Q w5 W → Calls Tryz.prog 11 #[liveV (.slice pa np pc), .slice ma pl.length mc] W fun e w' => e = .returned (.bool true) ∧ Q W w' := fun W q => Alike_any _ _ pl ps W (HP.out.stays (hq5.trans q)) (HM.out.stays (hq5.trans q)) HPSE.out hpl5 HPL1.out
          have cdo : ∀ W, Q w5 W → Calls Tryz.prog 13 #[liveV (.slice pa np pc)] W fun e w' => ∃ v', e = .returned v' ∧ Docs w' v' ds ∧ Q W w' := fun W q => (LiveDocs_any _ ps W (HP.out.stays (hq5.trans q)) hps5 HR2.out.1).mono fun e w' ⟨v', h1, h2, h3⟩ => ⟨v', h1, by rw [HDEQ.out]; exact Sl.of_owns h2, h3⟩
          have cma : ∀ W, Q w5 W → Calls Tryz.prog 14 #[liveV (.slice pa np pc)] W fun e w' => e = .returned (.int .i64 (ds.length : Nat)) ∧ Q W w' := fun W q => (Many_any _ ps W (HP.out.stays (hq5.trans q)) hps5 HR2.out.1).mono fun e w' ⟨h1, h2⟩ => ⟨by rw [h1, HMANY.out], h2⟩
          have hdd : ∀ W, Q w5 W → Docs W (.slice da ds.length dc) ds := fun W q => HD4.out.stays (q5.trans q)
          have hfl : ds.length ≤ 1000000000 := by omega
          have hmx : Tryz.prog.follows .mixedOrders = true := by kernel_rfl
          have KK : Hid (Q w5 w5) := Q.refl _
          have CAL := Lib.hid cal; have CDO := Lib.hid cdo; have CMA := Lib.hid cma; have HDD := Lib.hid hdd; have K5 := Lib.hid k5; have HQ5 := Lib.hid (HQ.out.trans hq5)
          clear cal cdo cma hdd q5 hq5 CR k4 b3c
          generalize (gg.getD [] : Bytes) = gt at *
          generalize gg.isSome = gi at *
          go_wp2_with fail
          refine (CAL.out _ (Q.refl _)).mono ?_
          rintro e w6 ⟨rfl, q6⟩
          have k6 := cell_stays q6 K5.out
          have Q6 := Lib.hid q6
          clear k5 q6
          go_wp2_with fail
          refine (CDO.out _ Q6.out).mono ?_
          rintro e w7 ⟨vd, rfl, hd7, q7⟩
          obtain ⟨da7, dc7, rfl, _⟩ := hd7.value
          have k7 := cell_stays q7 k6
          have Q7 := Lib.hid (Q6.out.trans q7); have HD7 := Lib.hid hd7
          clear k6 q7 hd7
          go_wp2_with fail
          refine (sameDocs_any _ _ ds ds _ HD7.out (HDD.out _ Q7.out) hfl hfl).mono ?_
          rw [decide_eq_true rfl]
          rintro e w8 ⟨rfl, q8⟩
          have k8 := cell_stays q8 k7
          have Q8 := Lib.hid (Q7.out.trans q8)
          clear k7 q8
          go_wp2_with fail
          refine (CMA.out _ Q8.out).mono ?_
          rintro e w9 ⟨rfl, q9⟩
          have Q9 := Lib.hid (HQ5.out.trans (Q8.out.trans q9))
          clear k8 q9
          go_wp2_with fail
          go_ret
          exact ⟨rfl, Q9.out⟩
end Go.Proofs.YtoabhcfmdkhmgaaGreatDoor
end
