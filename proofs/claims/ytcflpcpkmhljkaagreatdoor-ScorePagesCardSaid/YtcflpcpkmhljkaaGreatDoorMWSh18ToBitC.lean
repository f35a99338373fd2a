/- Joined texts of one proof: WSh18, AppSl, WLiveC, BitC. -/
import Derived.Test.YtcflpcpkmhljkaaGreatDoorMWSrRToShown18
import Derived.Deep.RegionHeld3
import Derived.Test.YtcflpcpkmhljkaaGreatDoorMKitToSegSpec
import Derived.Test.YtcflpcpkmhljkaaGreatDoorMOwnToWDictI
import Derived.Maps.AppendAt
import Derived.Deep.AppendLies
import Derived.Lib.AppendZeros
import Derived.Test.YtcflpcpkmhljkaaGreatDoorMWLiveQToWSort
import Derived.Test.YtcflpcpkmhljkaaGreatDoorProg
import Derived.Test.YtcflpcpkmhljkaaGreatDoorMPostRdToBase
import Derived.WalkKit
import Derived.WalkSpells
import Derived.WalkLawsBesides
import Derived.Outline
set_option linter.unusedSimpArgs false
set_option linter.unusedVariables false
set_option linter.unnecessarySimpa false
/- (WSh18) codexlaw18.shown: the regions that search. -/
section
namespace Go.Proofs.YtcflpcpkmhljkaaGreatDoor
open Go.RowKit
set_option linter.unusedVariables false

theorem SameT_any (va vb : Value) (hs : List HitL) (w : World) (ha : Hits w va hs) (hb : Hits w vb hs) (hn : hs.length ≤ 1000000000) :
    Calls Tryz.prog 13 #[va, vb] w fun e w' => e = .returned (.bool true) ∧ Q w w' :=
  (SameL_any va vb hs hs w ha hb hn hn).mono fun e w' h => ⟨by rw [h.1, decide_eq_true rfl], h.2⟩
theorem Hits.lit {x W : World} {hs : List HitL} {n : Nat} (cs : Array Value) (t : TypeId) (hn : n = hs.length) (hc : cs.toList = hitVs hs) (q : Q (x.alloc (.cells cs t)) W) : Hits W (.slice (some ⟨x.heap.size, 0, none⟩) n n) hs := by
  subst hn
  have h := Sl.lit x cs t hs.length 2 (by rw [← Array.length_toList, hc, hitVs_len])
  rw [hc] at h
  exact Sl.stays h q
noncomputable def shRow4 : Code := ((Tryz.f11.body.bind (findRegion 4)).getD .skip)
set_option maxRecDepth 100000 in
set_option maxHeartbeats 8000000 in
theorem sh_row4 (w wb : World) (X : Nat) (a : Option Addr) (c : Nat) (hq : Q w wb) (k0 : wb.cell? ⟨X, 0, none⟩ = some (.slice a 1 c)) (hp : PartsAt w (.slice a 1 c) sxP) (hT : Tabs w) (hSp : Spans w)
    (Qx : Exit → Act → World → Prop) (x0 x2 x3 x4 x5 x6 x7 x8 x9 x10 x11 x12 x13 x14 x15 x16 x17 x18 x19 x20 x21 x22 x23 x24 x25 x26 x27 x28 x29 x30 x31 x32 x33 x34 x35 x36 x37 x38 x39 x40 x41 x42 x43 x44 x45 x46 x47 x48 x49 x50 x51 x52 x53 x54 x55 x56 x57 x58 x59 x60 x61 x62 x63 x64 x65 x66 x67 x68 x69 x70 x71 x72 x73 x74 x75 x76 x77 x78 x79 x80 x81 x82 x83 x84 x85 x86 x87 x88 x89 x90 : Value) (hQ : ∀ (W : World) (z22 z23 z24 z25 z26 z27 z28 : Value), Q wb W → Qx .normal ⟨#[x0, .pointer (some ⟨X, 0, none⟩), x2, x3, .bool true, x5, x6, x7, x8, x9, x10, x11, x12, x13, x14, x15, x16, x17, x18, x19, x20, x21, z22, z23, z24, z25, z26, z27, z28, x29, x30, x31, x32, x33, x34, x35, x36, x37, x38, x39, x40, x41, x42, x43, x44, x45, x46, x47, x48, x49, x50, x51, x52, x53, x54, x55, x56, x57, x58, x59, x60, x61, x62, x63, x64, x65, x66, x67, x68, x69, x70, x71, x72, x73, x74, x75, x76, x77, x78, x79, x80, x81, x82, x83, x84, x85, x86, x87, x88, x89, x90], []⟩ W) :
    shRow4.wp Tryz.prog Qx ⟨#[x0, .pointer (some ⟨X, 0, none⟩), x2, x3, x4, x5, x6, x7, x8, x9, x10, x11, x12, x13, x14, x15, x16, x17, x18, x19, x20, x21, x22, x23, x24, x25, x26, x27, x28, x29, x30, x31, x32, x33, x34, x35, x36, x37, x38, x39, x40, x41, x42, x43, x44, x45, x46, x47, x48, x49, x50, x51, x52, x53, x54, x55, x56, x57, x58, x59, x60, x61, x62, x63, x64, x65, x66, x67, x68, x69, x70, x71, x72, x73, x74, x75, x76, x77, x78, x79, x80, x81, x82, x83, x84, x85, x86, x87, x88, x89, x90], []⟩ wb := by
  have cs := fun W (q : Q w W) => ScSearch_any W (.slice a 1 c) sxP (sq 2 [102, 111, 120]) (oneV 2 [102, 111, 120]) (hp.stays q) sx_ok (by decide) (one_at _ _ _) (by decide +kernel) (by decide) (hT.stays q) (hSp.stays q)
  rw [sx_1] at cs
  conv => arg 2; whnf
  have hmx : Tryz.prog.follows .mixedOrders = true := by kernel_rfl
  have CS := Lib.hid cs; have HQX := Lib.hid hQ; have KK := Lib.hid (Q.refl wb); have HQ := Lib.hid hq
  clear cs hQ hq hp hT hSp
  go_region_held3 (fun w' => w'.cell? ⟨X, 0, none⟩ = some (.slice a 1 c)) (first | exact k0 | exact cellQ (by repeat (first | with_reducible exact KK.out | with_reducible apply Qt.al | with_reducible apply Qt.dr)) k0)
    (first
      | (go_at_call 26; refine (one18_any 2 [102, 111, 120] _).mono ?_; rintro e w1 ⟨rfl, q1⟩; (try (have hl := HL.out.stays q1; have HL := Lib.hid hl)); (try (have hl := HL.out.stays ((Q.drew _).trans q1); have HL := Lib.hid hl)); (try (have hl := Hits.lit (hs := [([120], 2), ([121], 1)]) #[strV [120], .int .i64 2, strV [121], .int .i64 1] 49 rfl rfl q1; have HL := Lib.hid hl)); (try (have hl := Hits.lit (hs := [([120], 2), ([121], 1)]) #[strV [120], .int .i64 2, strV [121], .int .i64 1] 49 rfl rfl ((Q.drew _).trans q1); have HL := Lib.hid hl)); have s' : Q wb w1 := Q.trans (by repeat (first | with_reducible exact KK.out | with_reducible apply Qt.al | with_reducible apply Qt.dr)) q1; clear KK; have KK := Lib.hid s'; clear s'; clear q1)
      | (go_at_call 20; refine (CS.out _ (HQ.out.trans (by repeat (first | with_reducible exact KK.out | with_reducible apply Qt.al | with_reducible apply Qt.dr)))).mono ?_; rintro e w2 ⟨v2, rfl, hh, q2⟩; obtain ⟨a2, c2, hv2, _⟩ := hh.value; subst hv2; have HH := Lib.hid hh; (try (have hl := HL.out.stays q2; have HL := Lib.hid hl)); (try (have hl := HL.out.stays ((Q.drew _).trans q2); have HL := Lib.hid hl)); (try (have hl := Hits.lit (hs := [([120], 2), ([121], 1)]) #[strV [120], .int .i64 2, strV [121], .int .i64 1] 49 rfl rfl q2; have HL := Lib.hid hl)); (try (have hl := Hits.lit (hs := [([120], 2), ([121], 1)]) #[strV [120], .int .i64 2, strV [121], .int .i64 1] 49 rfl rfl ((Q.drew _).trans q2); have HL := Lib.hid hl)); have s' : Q wb w2 := Q.trans (by repeat (first | with_reducible exact KK.out | with_reducible apply Qt.al | with_reducible apply Qt.dr)) q2; clear KK; have KK := Lib.hid s'; clear s'; clear q2 hh)
      | (go_at_call 13; refine (SameT_any _ _ [([120], 2), ([121], 1)] _ (by first | exact HH.out | exact HH.out.stays (by repeat (first | with_reducible exact Q.refl _ | with_reducible apply Qt.al | with_reducible apply Qt.dr))) (by first | exact HL.out | exact HL.out.stays (Q.drew _) | exact Hits.lit (x := w2) #[strV [120], .int .i64 2, strV [121], .int .i64 1] 49 rfl rfl (by repeat (first | with_reducible exact Q.refl _ | with_reducible apply Qt.al | with_reducible apply Qt.dr)) | exact Hits.lit (x := w2.drew) #[strV [120], .int .i64 2, strV [121], .int .i64 1] 49 rfl rfl (by repeat (first | with_reducible exact Q.refl _ | with_reducible apply Qt.al | with_reducible apply Qt.dr))) (by decide)).mono ?_; rintro e w3 ⟨rfl, q3⟩; have s' : Q wb w3 := Q.trans (by repeat (first | with_reducible exact KK.out | with_reducible apply Qt.al | with_reducible apply Qt.dr)) q3; clear KK; have KK := Lib.hid s'; clear s'; clear q3))
  all_goals exact HQX.out _ _ _ _ _ _ _ _ (by repeat (first | with_reducible exact KK.out | with_reducible apply Qt.al | with_reducible apply Qt.dr))
noncomputable def shRow5 : Code := ((Tryz.f11.body.bind (findRegion 5)).getD .skip)
set_option maxRecDepth 100000 in
set_option maxHeartbeats 8000000 in
theorem sh_row5 (w wb : World) (X : Nat) (a : Option Addr) (c : Nat) (hq : Q w wb) (k0 : wb.cell? ⟨X, 0, none⟩ = some (.slice a 1 c)) (hp : PartsAt w (.slice a 1 c) sxP) (hT : Tabs w) (hSp : Spans w)
    (Qx : Exit → Act → World → Prop) (x0 x2 x3 x4 x5 x6 x7 x8 x9 x10 x11 x12 x13 x14 x15 x16 x17 x18 x19 x20 x21 x22 x23 x24 x25 x26 x27 x28 x29 x30 x31 x32 x33 x34 x35 x36 x37 x38 x39 x40 x41 x42 x43 x44 x45 x46 x47 x48 x49 x50 x51 x52 x53 x54 x55 x56 x57 x58 x59 x60 x61 x62 x63 x64 x65 x66 x67 x68 x69 x70 x71 x72 x73 x74 x75 x76 x77 x78 x79 x80 x81 x82 x83 x84 x85 x86 x87 x88 x89 x90 : Value) (hQ : ∀ (W : World) (z29 z30 z31 z32 z33 z34 : Value), Q wb W → Qx .normal ⟨#[x0, .pointer (some ⟨X, 0, none⟩), x2, x3, x4, .bool true, x6, x7, x8, x9, x10, x11, x12, x13, x14, x15, x16, x17, x18, x19, x20, x21, x22, x23, x24, x25, x26, x27, x28, z29, z30, z31, z32, z33, z34, x35, x36, x37, x38, x39, x40, x41, x42, x43, x44, x45, x46, x47, x48, x49, x50, x51, x52, x53, x54, x55, x56, x57, x58, x59, x60, x61, x62, x63, x64, x65, x66, x67, x68, x69, x70, x71, x72, x73, x74, x75, x76, x77, x78, x79, x80, x81, x82, x83, x84, x85, x86, x87, x88, x89, x90], []⟩ W) :
    shRow5.wp Tryz.prog Qx ⟨#[x0, .pointer (some ⟨X, 0, none⟩), x2, x3, x4, x5, x6, x7, x8, x9, x10, x11, x12, x13, x14, x15, x16, x17, x18, x19, x20, x21, x22, x23, x24, x25, x26, x27, x28, x29, x30, x31, x32, x33, x34, x35, x36, x37, x38, x39, x40, x41, x42, x43, x44, x45, x46, x47, x48, x49, x50, x51, x52, x53, x54, x55, x56, x57, x58, x59, x60, x61, x62, x63, x64, x65, x66, x67, x68, x69, x70, x71, x72, x73, x74, x75, x76, x77, x78, x79, x80, x81, x82, x83, x84, x85, x86, x87, x88, x89, x90], []⟩ wb := by
  have cs := fun W (q : Q w W) => ScSearch_any W (.slice a 1 c) sxP (sq 3 [102, 111, 120, 32, 100, 111, 103]) (oneV 3 [102, 111, 120, 32, 100, 111, 103]) (hp.stays q) sx_ok (by decide) (one_at _ _ _) (by decide +kernel) (by decide) (hT.stays q) (hSp.stays q)
  rw [sx_2] at cs
  conv => arg 2; whnf
  have hmx : Tryz.prog.follows .mixedOrders = true := by kernel_rfl
  have CS := Lib.hid cs; have HQX := Lib.hid hQ; have KK := Lib.hid (Q.refl wb); have HQ := Lib.hid hq
  clear cs hQ hq hp hT hSp
  go_region_held3 (fun w' => w'.cell? ⟨X, 0, none⟩ = some (.slice a 1 c)) (first | exact k0 | exact cellQ (by repeat (first | with_reducible exact KK.out | with_reducible apply Qt.al | with_reducible apply Qt.dr)) k0)
    (first
      | (go_at_call 26; refine (one18_any 3 [102, 111, 120, 32, 100, 111, 103] _).mono ?_; rintro e w1 ⟨rfl, q1⟩; (try (have hl := HL.out.stays q1; have HL := Lib.hid hl)); (try (have hl := HL.out.stays ((Q.drew _).trans q1); have HL := Lib.hid hl)); (try (have hl := Hits.lit (hs := [([120], 3)]) #[strV [120], .int .i64 3] 49 rfl rfl q1; have HL := Lib.hid hl)); (try (have hl := Hits.lit (hs := [([120], 3)]) #[strV [120], .int .i64 3] 49 rfl rfl ((Q.drew _).trans q1); have HL := Lib.hid hl)); have s' : Q wb w1 := Q.trans (by repeat (first | with_reducible exact KK.out | with_reducible apply Qt.al | with_reducible apply Qt.dr)) q1; clear KK; have KK := Lib.hid s'; clear s'; clear q1)
      | (go_at_call 20; refine (CS.out _ (HQ.out.trans (by repeat (first | with_reducible exact KK.out | with_reducible apply Qt.al | with_reducible apply Qt.dr)))).mono ?_; rintro e w2 ⟨v2, rfl, hh, q2⟩; obtain ⟨a2, c2, hv2, _⟩ := hh.value; subst hv2; have HH := Lib.hid hh; (try (have hl := HL.out.stays q2; have HL := Lib.hid hl)); (try (have hl := HL.out.stays ((Q.drew _).trans q2); have HL := Lib.hid hl)); (try (have hl := Hits.lit (hs := [([120], 3)]) #[strV [120], .int .i64 3] 49 rfl rfl q2; have HL := Lib.hid hl)); (try (have hl := Hits.lit (hs := [([120], 3)]) #[strV [120], .int .i64 3] 49 rfl rfl ((Q.drew _).trans q2); have HL := Lib.hid hl)); have s' : Q wb w2 := Q.trans (by repeat (first | with_reducible exact KK.out | with_reducible apply Qt.al | with_reducible apply Qt.dr)) q2; clear KK; have KK := Lib.hid s'; clear s'; clear q2 hh)
      | (go_at_call 13; refine (SameT_any _ _ [([120], 3)] _ (by first | exact HH.out | exact HH.out.stays (by repeat (first | with_reducible exact Q.refl _ | with_reducible apply Qt.al | with_reducible apply Qt.dr))) (by first | exact HL.out | exact HL.out.stays (Q.drew _) | exact Hits.lit (x := w2) #[strV [120], .int .i64 3] 49 rfl rfl (by repeat (first | with_reducible exact Q.refl _ | with_reducible apply Qt.al | with_reducible apply Qt.dr)) | exact Hits.lit (x := w2.drew) #[strV [120], .int .i64 3] 49 rfl rfl (by repeat (first | with_reducible exact Q.refl _ | with_reducible apply Qt.al | with_reducible apply Qt.dr))) (by decide)).mono ?_; rintro e w3 ⟨rfl, q3⟩; have s' : Q wb w3 := Q.trans (by repeat (first | with_reducible exact KK.out | with_reducible apply Qt.al | with_reducible apply Qt.dr)) q3; clear KK; have KK := Lib.hid s'; clear s'; clear q3))
  all_goals exact HQX.out _ _ _ _ _ _ _ (by repeat (first | with_reducible exact KK.out | with_reducible apply Qt.al | with_reducible apply Qt.dr))
noncomputable def shRow6 : Code := ((Tryz.f11.body.bind (findRegion 6)).getD .skip)
set_option maxRecDepth 100000 in
set_option maxHeartbeats 8000000 in
theorem sh_row6 (w wb : World) (X : Nat) (a : Option Addr) (c : Nat) (hq : Q w wb) (k0 : wb.cell? ⟨X, 0, none⟩ = some (.slice a 1 c)) (hp : PartsAt w (.slice a 1 c) sxP) (hT : Tabs w) (hSp : Spans w)
    (Qx : Exit → Act → World → Prop) (x0 x2 x3 x4 x5 x6 x7 x8 x9 x10 x11 x12 x13 x14 x15 x16 x17 x18 x19 x20 x21 x22 x23 x24 x25 x26 x27 x28 x29 x30 x31 x32 x33 x34 x35 x36 x37 x38 x39 x40 x41 x42 x43 x44 x45 x46 x47 x48 x49 x50 x51 x52 x53 x54 x55 x56 x57 x58 x59 x60 x61 x62 x63 x64 x65 x66 x67 x68 x69 x70 x71 x72 x73 x74 x75 x76 x77 x78 x79 x80 x81 x82 x83 x84 x85 x86 x87 x88 x89 x90 : Value) (hQ : ∀ (W : World) (z35 z36 z37 z38 z39 z40 : Value), Q wb W → Qx .normal ⟨#[x0, .pointer (some ⟨X, 0, none⟩), x2, x3, x4, x5, .bool true, x7, x8, x9, x10, x11, x12, x13, x14, x15, x16, x17, x18, x19, x20, x21, x22, x23, x24, x25, x26, x27, x28, x29, x30, x31, x32, x33, x34, z35, z36, z37, z38, z39, z40, x41, x42, x43, x44, x45, x46, x47, x48, x49, x50, x51, x52, x53, x54, x55, x56, x57, x58, x59, x60, x61, x62, x63, x64, x65, x66, x67, x68, x69, x70, x71, x72, x73, x74, x75, x76, x77, x78, x79, x80, x81, x82, x83, x84, x85, x86, x87, x88, x89, x90], []⟩ W) :
    shRow6.wp Tryz.prog Qx ⟨#[x0, .pointer (some ⟨X, 0, none⟩), x2, x3, x4, x5, x6, x7, x8, x9, x10, x11, x12, x13, x14, x15, x16, x17, x18, x19, x20, x21, x22, x23, x24, x25, x26, x27, x28, x29, x30, x31, x32, x33, x34, x35, x36, x37, x38, x39, x40, x41, x42, x43, x44, x45, x46, x47, x48, x49, x50, x51, x52, x53, x54, x55, x56, x57, x58, x59, x60, x61, x62, x63, x64, x65, x66, x67, x68, x69, x70, x71, x72, x73, x74, x75, x76, x77, x78, x79, x80, x81, x82, x83, x84, x85, x86, x87, x88, x89, x90], []⟩ wb := by
  have cs := fun W (q : Q w W) => ScSearch_any W (.slice a 1 c) sxP (sq 4 [99]) (oneV 4 [99]) (hp.stays q) sx_ok (by decide) (one_at _ _ _) (by decide +kernel) (by decide) (hT.stays q) (hSp.stays q)
  rw [sx_3] at cs
  conv => arg 2; whnf
  have hmx : Tryz.prog.follows .mixedOrders = true := by kernel_rfl
  have CS := Lib.hid cs; have HQX := Lib.hid hQ; have KK := Lib.hid (Q.refl wb); have HQ := Lib.hid hq
  clear cs hQ hq hp hT hSp
  go_region_held3 (fun w' => w'.cell? ⟨X, 0, none⟩ = some (.slice a 1 c)) (first | exact k0 | exact cellQ (by repeat (first | with_reducible exact KK.out | with_reducible apply Qt.al | with_reducible apply Qt.dr)) k0)
    (first
      | (go_at_call 26; refine (one18_any 4 [99] _).mono ?_; rintro e w1 ⟨rfl, q1⟩; (try (have hl := HL.out.stays q1; have HL := Lib.hid hl)); (try (have hl := HL.out.stays ((Q.drew _).trans q1); have HL := Lib.hid hl)); (try (have hl := Hits.lit (hs := [([122], 1)]) #[strV [122], .int .i64 1] 49 rfl rfl q1; have HL := Lib.hid hl)); (try (have hl := Hits.lit (hs := [([122], 1)]) #[strV [122], .int .i64 1] 49 rfl rfl ((Q.drew _).trans q1); have HL := Lib.hid hl)); have s' : Q wb w1 := Q.trans (by repeat (first | with_reducible exact KK.out | with_reducible apply Qt.al | with_reducible apply Qt.dr)) q1; clear KK; have KK := Lib.hid s'; clear s'; clear q1)
      | (go_at_call 20; refine (CS.out _ (HQ.out.trans (by repeat (first | with_reducible exact KK.out | with_reducible apply Qt.al | with_reducible apply Qt.dr)))).mono ?_; rintro e w2 ⟨v2, rfl, hh, q2⟩; obtain ⟨a2, c2, hv2, _⟩ := hh.value; subst hv2; have HH := Lib.hid hh; (try (have hl := HL.out.stays q2; have HL := Lib.hid hl)); (try (have hl := HL.out.stays ((Q.drew _).trans q2); have HL := Lib.hid hl)); (try (have hl := Hits.lit (hs := [([122], 1)]) #[strV [122], .int .i64 1] 49 rfl rfl q2; have HL := Lib.hid hl)); (try (have hl := Hits.lit (hs := [([122], 1)]) #[strV [122], .int .i64 1] 49 rfl rfl ((Q.drew _).trans q2); have HL := Lib.hid hl)); have s' : Q wb w2 := Q.trans (by repeat (first | with_reducible exact KK.out | with_reducible apply Qt.al | with_reducible apply Qt.dr)) q2; clear KK; have KK := Lib.hid s'; clear s'; clear q2 hh)
      | (go_at_call 13; refine (SameT_any _ _ [([122], 1)] _ (by first | exact HH.out | exact HH.out.stays (by repeat (first | with_reducible exact Q.refl _ | with_reducible apply Qt.al | with_reducible apply Qt.dr))) (by first | exact HL.out | exact HL.out.stays (Q.drew _) | exact Hits.lit (x := w2) #[strV [122], .int .i64 1] 49 rfl rfl (by repeat (first | with_reducible exact Q.refl _ | with_reducible apply Qt.al | with_reducible apply Qt.dr)) | exact Hits.lit (x := w2.drew) #[strV [122], .int .i64 1] 49 rfl rfl (by repeat (first | with_reducible exact Q.refl _ | with_reducible apply Qt.al | with_reducible apply Qt.dr))) (by decide)).mono ?_; rintro e w3 ⟨rfl, q3⟩; have s' : Q wb w3 := Q.trans (by repeat (first | with_reducible exact KK.out | with_reducible apply Qt.al | with_reducible apply Qt.dr)) q3; clear KK; have KK := Lib.hid s'; clear s'; clear q3))
  all_goals exact HQX.out _ _ _ _ _ _ _ (by repeat (first | with_reducible exact KK.out | with_reducible apply Qt.al | with_reducible apply Qt.dr))
noncomputable def shRow7 : Code := ((Tryz.f11.body.bind (findRegion 7)).getD .skip)
set_option maxRecDepth 100000 in
set_option maxHeartbeats 8000000 in
theorem sh_row7 (w wb : World) (X : Nat) (a : Option Addr) (c : Nat) (hq : Q w wb) (k0 : wb.cell? ⟨X, 0, none⟩ = some (.slice a 1 c)) (hp : PartsAt w (.slice a 1 c) sxP) (hT : Tabs w) (hSp : Spans w)
    (Qx : Exit → Act → World → Prop) (x0 x2 x3 x4 x5 x6 x7 x8 x9 x10 x11 x12 x13 x14 x15 x16 x17 x18 x19 x20 x21 x22 x23 x24 x25 x26 x27 x28 x29 x30 x31 x32 x33 x34 x35 x36 x37 x38 x39 x40 x41 x42 x43 x44 x45 x46 x47 x48 x49 x50 x51 x52 x53 x54 x55 x56 x57 x58 x59 x60 x61 x62 x63 x64 x65 x66 x67 x68 x69 x70 x71 x72 x73 x74 x75 x76 x77 x78 x79 x80 x81 x82 x83 x84 x85 x86 x87 x88 x89 x90 : Value) (hQ : ∀ (W : World) (z41 z42 z43 z44 z45 z46 z47 z48 : Value), Q wb W → Qx .normal ⟨#[x0, .pointer (some ⟨X, 0, none⟩), x2, x3, x4, x5, x6, .bool true, x8, x9, x10, x11, x12, x13, x14, x15, x16, x17, x18, x19, x20, x21, x22, x23, x24, x25, x26, x27, x28, x29, x30, x31, x32, x33, x34, x35, x36, x37, x38, x39, x40, z41, z42, z43, z44, z45, z46, z47, z48, x49, x50, x51, x52, x53, x54, x55, x56, x57, x58, x59, x60, x61, x62, x63, x64, x65, x66, x67, x68, x69, x70, x71, x72, x73, x74, x75, x76, x77, x78, x79, x80, x81, x82, x83, x84, x85, x86, x87, x88, x89, x90], []⟩ W) :
    shRow7.wp Tryz.prog Qx ⟨#[x0, .pointer (some ⟨X, 0, none⟩), x2, x3, x4, x5, x6, x7, x8, x9, x10, x11, x12, x13, x14, x15, x16, x17, x18, x19, x20, x21, x22, x23, x24, x25, x26, x27, x28, x29, x30, x31, x32, x33, x34, x35, x36, x37, x38, x39, x40, x41, x42, x43, x44, x45, x46, x47, x48, x49, x50, x51, x52, x53, x54, x55, x56, x57, x58, x59, x60, x61, x62, x63, x64, x65, x66, x67, x68, x69, x70, x71, x72, x73, x74, x75, x76, x77, x78, x79, x80, x81, x82, x83, x84, x85, x86, x87, x88, x89, x90], []⟩ wb := by
  have cs := fun W (q : Q w W) => ScSearch_any W (.slice a 1 c) sxP (sq 1 []) (oneV 1 []) (hp.stays q) sx_ok (by decide) (one_at _ _ _) (by decide +kernel) (by decide) (hT.stays q) (hSp.stays q)
  rw [sx_4] at cs
  conv => arg 2; whnf
  have hmx : Tryz.prog.follows .mixedOrders = true := by kernel_rfl
  have CS := Lib.hid cs; have HQX := Lib.hid hQ; have KK := Lib.hid (Q.refl wb); have HQ := Lib.hid hq
  clear cs hQ hq hp hT hSp
  go_region_held3 (fun w' => w'.cell? ⟨X, 0, none⟩ = some (.slice a 1 c)) (first | exact k0 | exact cellQ (by repeat (first | with_reducible exact KK.out | with_reducible apply Qt.al | with_reducible apply Qt.dr)) k0)
    (first
      | (go_at_call 26; refine (one18_any 1 [] _).mono ?_; rintro e w1 ⟨rfl, q1⟩; (try (have hl := HL.out.stays q1; have HL := Lib.hid hl)); (try (have hl := HL.out.stays ((Q.drew _).trans q1); have HL := Lib.hid hl)); (try (have hl := Hits.lit (hs := [([120], 1), ([121], 1), ([122], 1)]) #[strV [120], .int .i64 1, strV [121], .int .i64 1, strV [122], .int .i64 1] 49 rfl rfl q1; have HL := Lib.hid hl)); (try (have hl := Hits.lit (hs := [([120], 1), ([121], 1), ([122], 1)]) #[strV [120], .int .i64 1, strV [121], .int .i64 1, strV [122], .int .i64 1] 49 rfl rfl ((Q.drew _).trans q1); have HL := Lib.hid hl)); have s' : Q wb w1 := Q.trans (by repeat (first | with_reducible exact KK.out | with_reducible apply Qt.al | with_reducible apply Qt.dr)) q1; clear KK; have KK := Lib.hid s'; clear s'; clear q1)
      | (go_at_call 20; refine (CS.out _ (HQ.out.trans (by repeat (first | with_reducible exact KK.out | with_reducible apply Qt.al | with_reducible apply Qt.dr)))).mono ?_; rintro e w2 ⟨v2, rfl, hh, q2⟩; obtain ⟨a2, c2, hv2, _⟩ := hh.value; subst hv2; have HH := Lib.hid hh; (try (have hl := HL.out.stays q2; have HL := Lib.hid hl)); (try (have hl := HL.out.stays ((Q.drew _).trans q2); have HL := Lib.hid hl)); (try (have hl := Hits.lit (hs := [([120], 1), ([121], 1), ([122], 1)]) #[strV [120], .int .i64 1, strV [121], .int .i64 1, strV [122], .int .i64 1] 49 rfl rfl q2; have HL := Lib.hid hl)); (try (have hl := Hits.lit (hs := [([120], 1), ([121], 1), ([122], 1)]) #[strV [120], .int .i64 1, strV [121], .int .i64 1, strV [122], .int .i64 1] 49 rfl rfl ((Q.drew _).trans q2); have HL := Lib.hid hl)); have s' : Q wb w2 := Q.trans (by repeat (first | with_reducible exact KK.out | with_reducible apply Qt.al | with_reducible apply Qt.dr)) q2; clear KK; have KK := Lib.hid s'; clear s'; clear q2 hh)
      | (go_at_call 13; refine (SameT_any _ _ [([120], 1), ([121], 1), ([122], 1)] _ (by first | exact HH.out | exact HH.out.stays (by repeat (first | with_reducible exact Q.refl _ | with_reducible apply Qt.al | with_reducible apply Qt.dr))) (by first | exact HL.out | exact HL.out.stays (Q.drew _) | exact Hits.lit (x := w2) #[strV [120], .int .i64 1, strV [121], .int .i64 1, strV [122], .int .i64 1] 49 rfl rfl (by repeat (first | with_reducible exact Q.refl _ | with_reducible apply Qt.al | with_reducible apply Qt.dr)) | exact Hits.lit (x := w2.drew) #[strV [120], .int .i64 1, strV [121], .int .i64 1, strV [122], .int .i64 1] 49 rfl rfl (by repeat (first | with_reducible exact Q.refl _ | with_reducible apply Qt.al | with_reducible apply Qt.dr))) (by decide)).mono ?_; rintro e w3 ⟨rfl, q3⟩; have s' : Q wb w3 := Q.trans (by repeat (first | with_reducible exact KK.out | with_reducible apply Qt.al | with_reducible apply Qt.dr)) q3; clear KK; have KK := Lib.hid s'; clear s'; clear q3))
  all_goals exact HQX.out _ _ _ _ _ _ _ _ _ (by repeat (first | with_reducible exact KK.out | with_reducible apply Qt.al | with_reducible apply Qt.dr))
end Go.Proofs.YtcflpcpkmhljkaaGreatDoor
end

/- (AppSl) append of whatever slice that reads as a list onto a row of the call's own; slices cut. Over any program. -/
section
namespace Go.Proofs.YtcflpcpkmhljkaaGreatDoor
open Go.RowKit
set_option linter.unusedVariables false

section
variable {P : Program} (w : World)
theorem run_append_no (base : Nat) (t ty e : TypeId) (i : TypeInfo) (size : Nat) (ht : P.underlying t = some (.slice e)) (hi : P.info? e = some i)
    (v : Value) (n : Nat) (xs : List Value) (hown : w.ownsRow base e size v n xs) (c : Nat) : (Builtin.append_ #[t, t] ty #[v, .slice none 0 c]).run P w = .ok v w := by
  rcases hown.2 with ⟨rfl, rfl⟩ | ⟨g, cap, cur, rfl, _, _, hnc, _⟩
  · simp [Builtin.append_, run_underlying ht, sizeOf, typeInfo, hi, Builtin.lenOf, Builtin.firstCells]
  · simp [Builtin.append_, run_underlying ht, sizeOf, typeInfo, hi, Builtin.lenOf, Builtin.firstCells, hnc, storeCells]
theorem run_append_sl (base : Nat) (t ty e : TypeId) (i : TypeInfo) (z : Value) (size bytes : Nat) (ht : P.underlying t = some (.slice e)) (hi : P.info? e = some i) (hz : i.zero = some z)
    (hsize : i.size = size) (hby : i.bytes = bytes) (hzs : z.cells.size = size) (hsz : 0 < size)
    (v : Value) (n : Nat) (xs : List Value) (hown : w.ownsRow base e size v n xs)
    (vx : Value) (m : Nat) (news : List Value) (hr : Sl w vx m size news) (h1 : ∀ u ∈ news, u.oneCell' = true)
    (h63 : n + m ≤ maxLen) (hbytes : (n + m) * bytes ≤ 140737488355328) (hbase : base ≤ w.heap.size) :
    ∃ v' w', (Builtin.append_ #[t, t] ty #[v, vx]).run P w = .ok v' w' ∧ w'.ownsRow base e size v' (n + m) (xs ++ news) ∧ w.grownBy w' v.ownBlock ∧ (v'.ownBlock = v.ownBlock ∨ v'.ownBlock = some w.heap.size) := by
  obtain ⟨hl, A, c, rfl, hc⟩ := hr
  rcases A with _ | ad
  · have hm : m = 0 := by
      rcases Nat.eq_zero_or_pos m with h0 | h0
      · exact h0
      · obtain ⟨b, off, h, _⟩ := hc h0; cases h
    subst hm
    have hn : news = [] := List.eq_nil_of_length_eq_zero (by simpa using hl)
    subst hn
    exact ⟨v, w, run_append_no w base t ty e i size ht hi v n xs hown c, by simpa using hown, World.grownBy.refl w _, .inl rfl⟩
  · have hcells : ∀ j u, news[j]? = some u → w.cell? (ad.add j) = some u := by
      intro j u hu
      rcases Nat.eq_zero_or_pos m with h0 | h0
      · subst h0
        have hn : news = [] := List.eq_nil_of_length_eq_zero (by simpa using hl)
        subst hn
        simp at hu
      · obtain ⟨b, off, h, h2⟩ := hc h0
        cases h
        rw [add_off]
        exact h2 j u hu
    obtain ⟨v', w', hrun, h2, h3, _, h5⟩ := run_append_own_at (P := P) w base t ty e i z size bytes ht hi hz hsize hby hzs hsz v n xs hown ad m c news hl hcells h1 h63 hbytes hbase
    exact ⟨v', w', hrun, h2, h3, h5⟩
theorem wp_append_sl {o : Oper} {a : Act} {K : Act → World → Prop} {Q : Exit → Act → World → Prop} (s x : Operand) (t : TypeId)
    (ho : o.op = .call { callee := .builtin .append, args := #[s, x], argTypes := #[t, t] })
    (base : Nat) (e : TypeId) (i : TypeInfo) (z : Value) (size bytes : Nat) (ht : P.underlying t = some (.slice e)) (hi : P.info? e = some i) (hz : i.zero = some z)
    (hsize : i.size = size) (hby : i.bytes = bytes) (hzs : z.cells.size = size) (hsz : 0 < size)
    (v : Value) (n : Nat) (xs : List Value) (hs : a.eval s = v) (hown : w.ownsRow base e size v n xs)
    (vx : Value) (m : Nat) (news : List Value) (hx : a.eval x = vx) (hr : Sl w vx m size news) (h1 : ∀ u ∈ news, u.oneCell' = true)
    (h63 : n + m ≤ maxLen) (hbytes : (n + m) * bytes ≤ 140737488355328) (hbase : base ≤ w.heap.size)
    (h : ∀ v' w', w'.ownsRow base e size v' (n + m) (xs ++ news) → w.grownBy w' v.ownBlock → (v'.ownBlock = v.ownBlock ∨ v'.ownBlock = some w.heap.size) → K (a.put o.dst v') w') : o.wp P a w K Q := by
  obtain ⟨v', w', hrun, h2, h3, h4⟩ := run_append_sl (P := P) w base t o.type e i z size bytes ht hi hz hsize hby hzs hsz v n xs hown vx m news hr h1 h63 hbytes hbase
  unfold Oper.wp execOp
  simp only [ho, resolve, invoke, builtin, Sem.run_bind, Sem.run_pure, Result.andThen_ok, List.map_toArray, List.map_cons, List.map_nil, hs, hx, hrun]
  exact h v' w' h2 h3 h4
theorem wpList_append_sl {ops : Array Oper} {rest : List Oper} {o : Oper} {a : Act} {Q : Exit → Act → World → Prop} (hgd : o.guard = none) (s x : Operand) (t : TypeId)
    (ho : o.op = .call { callee := .builtin .append, args := #[s, x], argTypes := #[t, t] })
    (base : Nat) (e : TypeId) (i : TypeInfo) (z : Value) (size bytes : Nat) (ht : P.underlying t = some (.slice e)) (hi : P.info? e = some i) (hz : i.zero = some z)
    (hsize : i.size = size) (hby : i.bytes = bytes) (hzs : z.cells.size = size) (hsz : 0 < size)
    (v : Value) (n : Nat) (xs : List Value) (hs : a.eval s = v) (hown : w.ownsRow base e size v n xs)
    (vx : Value) (m : Nat) (news : List Value) (hx : a.eval x = vx) (hr : Sl w vx m size news) (h1 : ∀ u ∈ news, u.oneCell' = true)
    (h63 : n + m ≤ maxLen) (hbytes : (n + m) * bytes ≤ 140737488355328) (hbase : base ≤ w.heap.size)
    (h : ∀ v' w', w'.ownsRow base e size v' (n + m) (xs ++ news) → w.grownBy w' v.ownBlock → (v'.ownBlock = v.ownBlock ∨ v'.ownBlock = some w.heap.size) → wpList P ops Q rest (a.put o.dst v') w') : wpList P ops Q (o :: rest) a w :=
  wpList_plain hgd fun _ hK => wp_append_sl w s x t ho base e i z size bytes ht hi hz hsize hby hzs hsz v n xs hs hown vx m news hx hr h1 h63 hbytes hbase fun v' w' h2 h3 h4 => hK _ _ (h v' w' h2 h3 h4)
end
/-- a slice cut -/
theorem Sl.cut {w : World} {a : Option Addr} {n cap size : Nat} {xs : List Value} (h : Sl w (.slice a n cap) n size xs) (lo hi : Nat) (h1 : lo ≤ hi) (h2 : hi ≤ n) (h3 : n ≤ cap) :
    Sl w (.slice (if cap = lo then a else a.map (·.add (lo * size))) (hi - lo) (cap - lo)) (hi - lo) size ((xs.take (hi * size)).drop (lo * size)) := by
  obtain ⟨hl, a', c', hv, hc⟩ := h
  cases hv
  refine ⟨?_, _, _, rfl, fun hp => ?_⟩
  · rw [List.length_drop, List.length_take, hl, Nat.min_eq_left (Nat.mul_le_mul_right _ h2), Nat.sub_mul]
  · obtain ⟨b, off, rfl, hcc⟩ := hc (by omega)
    rw [if_neg (by omega)]
    refine ⟨b, off + lo * size, by simp [add_off], fun j u hj => ?_⟩
    rw [Nat.add_assoc]
    rw [List.getElem?_drop, List.getElem?_take] at hj
    split at hj
    · exact hcc _ u hj
    · cases hj
end Go.Proofs.YtcflpcpkmhljkaaGreatDoor
end

/- (WLiveC) slices.Grow at nil, slices.Concat of three, slices.IndexFunc, ContainsFunc at live's test, Apply's closure: walked. -/
section
namespace Go.Proofs.YtcflpcpkmhljkaaGreatDoor
open Go.RowKit
set_option linter.unusedVariables false

theorem size_zeroCells (z : Array Value) (n : Nat) : (Builtin.zeroCells z n).size = n * z.size := by simp [Builtin.zeroCells]
set_option maxRecDepth 100000 in
set_option maxHeartbeats 1000000 in
theorem Grow_nil (n : Nat) (w : World) (hn : n ≤ 1000000000) :
    Calls Tryz.prog 108 #[.slice none 0 0, .int .i64 (n : Nat)] w fun e w' => ∃ v', e = .returned v' ∧ w'.ownsRow w.heap.size 89 2 v' 0 [] ∧ Q w w' := by
  obtain ⟨i0, hi, hz0, hz1, hz2⟩ := info_parts tinfo89
  by_cases h0 : n = 0
  · subst h0
    go_enter Tryz.func108, Tryz.ntmps108
    go_wp2_with fail
    go_ret
    exact ⟨_, rfl, World.ownsRow_nil _ _ _ _, Q.refl _⟩
  · have hp : 0 < n := by omega
    have hr := fun ty => Lib.run_append_nil_zeros (P := Tryz.prog) w 35 3 ty 89 i0 (.agg #[.pointer none, strV []]) .i64 .i64 Tryz.underlying35 Tryz.underlying3 hi hz0 n hp (by omega) (by omega) (by rw [hz2]; omega)
    have hge := grownCap_ge w n 0 89
    have hle := grownCap_le_maxLen w n 0 89 (by unfold maxLen; omega)
    have hsz : (Builtin.zeroCells (Value.agg #[.pointer none, strV []]).cells n ++ Builtin.zeroCells (Value.agg #[.pointer none, strV []]).cells (grownCap w n 0 89 - n)).size = grownCap w n 0 89 * 2 := by
      rw [Array.size_append, size_zeroCells, size_zeroCells]
      show n * 2 + (grownCap w n 0 89 - n) * 2 = _
      omega
    have ho := World.ownsRow_made w.drew (Builtin.zeroCells (Value.agg #[.pointer none, strV []]).cells n ++ Builtin.zeroCells (Value.agg #[.pointer none, strV []]).cells (grownCap w n 0 89 - n)) (grownCap w n 0 89) (base := w.heap.size) (e := 89) (size := 2) (Nat.le_refl _) hle hsz
    have hq : Q w (w.drew.alloc (.cells (Builtin.zeroCells (Value.agg #[.pointer none, strV []]).cells n ++ Builtin.zeroCells (Value.agg #[.pointer none, strV []]).cells (grownCap w n 0 89 - n)) 89)) := (Q.drew w).trans (Q.alloc _ _)
    generalize grownCap w n 0 89 = gc at *
    generalize Builtin.zeroCells (Value.agg #[.pointer none, strV []]).cells n ++ Builtin.zeroCells (Value.agg #[.pointer none, strV []]).cells (gc - n) = zz at *
    have HO := Lib.hid ho; have HQ := Lib.hid hq; have HH := Lib.hid hr
    clear ho hq hsz hr
    have hgn : (n : Int) > 0 := by omega
    go_enter Tryz.func108, Tryz.ntmps108
    go_wp2_with (at_builtin; go_must (refine Lib.wpList_append_run w (by rfl) _ _ 35 3 (by rfl) (.slice none 0 0) (.int .i64 (n : Nat)) (by rfl) (by rfl) _ _ (HH.out _) ?_))
    go_ret
    exact ⟨_, rfl, HO.out, HQ.out⟩
set_option maxRecDepth 100000 in
set_option maxHeartbeats 1000000 in
theorem notRight_any (o : OpL) (w : World) (h1 : o.2.1.length ≤ 9223372036854775807) (h2 : o.2.2.length ≤ 9223372036854775807) (hT : Tabs w) :
    Calls Tryz.prog 51 #[opV o] w fun e w' => e = .returned (.bool (!opRight o)) ∧ Q w w' := by
  obtain ⟨b, id, tx⟩ := o
  simp only at h1 h2
  have c := LRight_any (b, (id, tx)) (w.alloc (.cells #[.bool b, strV id, strV tx] 65)) h1 h2 (hT.stays (Q.alloc _ _))
  have C := Lib.hid c
  clear c hT
  generalize opRight (b, (id, tx)) = rt at *
  have hb : rt = rt := rfl
  cases rt
  all_goals
    go_enter Tryz.func51, Tryz.ntmps51
    go_wp2_with fail
    refine C.out.mono ?_
    rintro e w1 ⟨rfl, q⟩
    have q2 := (Q.alloc w (.cells #[.bool b, strV id, strV tx] 65)).trans q
    have HQ := Lib.hid q2
    clear q q2
    go_wp2_with fail
    go_ret
    exact ⟨rfl, HQ.out⟩
def IdxP (l : List OpL) (w : World) (e : Ending) (w' : World) : Prop := (∃ r : Int, e = .returned (.int .i64 r) ∧ decide (0 ≤ r) = !l.all opRight) ∧ Q w w'
set_option maxRecDepth 100000 in
set_option maxHeartbeats 2000000 in
theorem IndexFunc_ops (v : Value) (l : List OpL) (w : World) (hv : Ops w v l) (hn : l.length ≤ 1000000) (hl : ∀ o ∈ l, o.2.1.length ≤ 9223372036854775807 ∧ o.2.2.length ≤ 9223372036854775807) (hT : Tabs w) :
    Calls Tryz.prog 87 #[v, .func (.func 51) #[] #[]] w (IdxP l w) := by
  obtain ⟨a, cap, rfl, hcell⟩ := hv.value
  have HC := Lib.hid hcell; have HL := Lib.hid hl; have HT := Lib.hid hT
  clear hv hcell hl hT
  have eg : ∀ args w, (callFunc 51 args).run Tryz.prog w = .ok (.enter 51 args) w := enters_of Tryz.func51 (by kernel_rfl) rfl
  go_enter Tryz.func87, Tryz.ntmps87
  go_wp2_with fail
  go_loopw [8] (fun x wr => ∃ k : Nat, x = .int .i64 (k : Nat) ∧ k ≤ l.length ∧ Hid (l.all opRight = (l.drop k).all opRight) ∧ Hid (Q w wr)) (fun x _ => l.length - (intOf x).toNat)
  case atStart => exact ⟨0, rfl, by omega, by show _ = _; rw [List.drop_zero], Q.refl w⟩
  case round =>
    obtain ⟨k, rfl, hk, HA, HQ⟩ := hrel
    obtain ⟨wo, rfl⟩ : ∃ wo : World, wo = wr := ⟨_, rfl⟩
    by_cases hlt : k < l.length
    · obtain ⟨b, off, rfl, hc⟩ := HC.out (by omega)
      obtain ⟨hc1, hc2, hc3⟩ := hc k hlt
      have hw1 := cell_stays HQ.out hc1
      have hw2 := cell_stays HQ.out hc2
      have hw3 := cell_stays HQ.out hc3
      obtain ⟨hl1, hl2⟩ := HL.out _ (List.getElem_mem hlt)
      have c := notRight_any l[k] wo hl1 hl2 (HT.out.stays HQ.out)
      have hal : l.all opRight = (opRight l[k] && (l.drop (k + 1)).all opRight) := by rw [HA.out, List.drop_eq_getElem_cons hlt, List.all_cons]
      clear hc hc1 hc2 hc3 HA
      generalize l[k] = o at *
      obtain ⟨ob, oid, otx⟩ := o
      simp only at hw1 hw2 hw3 hl1 hl2
      cases hr : opRight (ob, (oid, otx)) with
      | true =>
        rw [hr] at c hal
        rw [Bool.true_and] at hal
        have C := Lib.hid c; have HAL := Lib.hid hal; have HR := Lib.hid hr
        clear c hal hr
        go_wp2_with fail
        refine C.out.mono ?_
        rintro e w1 ⟨rfl, q⟩
        have hq1 := HQ.out.trans q
        have HQ1 := Lib.hid hq1
        clear q hq1
        go_wp2_with fail
        go_roundw
        case rel => exact ⟨k + 1, by go_num, by omega, HAL, HQ1⟩
        case measure => simp [intOf]; omega
      | false =>
        rw [hr] at c hal
        rw [Bool.false_and] at hal
        have C := Lib.hid c; have HAL := Lib.hid hal; have HR := Lib.hid hr
        clear c hal hr
        go_wp2_with fail
        refine C.out.mono ?_
        rintro e w1 ⟨rfl, q⟩
        have hq1 := HQ.out.trans q
        have HQ1 := Lib.hid hq1
        clear q hq1
        go_wp2_with fail
        go_ret
        exact ⟨⟨(k : Nat), rfl, by rw [HAL.out]; simp⟩, HQ1.out⟩
    · have hke : k = l.length := by omega
      subst hke
      have hal : l.all opRight = true := by rw [HA.out, List.drop_length]; rfl
      have HAL := Lib.hid hal; clear hal
      go_wp2_with fail
      go_ret
      exact ⟨⟨-1, rfl, by rw [HAL.out]; rfl⟩, HQ.out⟩
set_option maxRecDepth 100000 in
set_option maxHeartbeats 2000000 in
theorem ContainsFunc_ops (v : Value) (l : List OpL) (w : World) (hv : Ops w v l) (hn : l.length ≤ 1000000) (hl : ∀ o ∈ l, o.2.1.length ≤ 9223372036854775807 ∧ o.2.2.length ≤ 9223372036854775807) (hT : Tabs w) :
    Calls Tryz.prog 50 #[v, .func (.func 51) #[] #[]] w fun e w' => e = .returned (.bool (!l.all opRight)) ∧ Q w w' := by
  have c := IndexFunc_ops v l w hv hn hl hT
  obtain ⟨a, cap, rfl, _⟩ := hv.value
  have C := Lib.hid c
  clear c hv hl hT
  go_enter Tryz.func50, Tryz.ntmps50
  go_wp2_with fail
  refine C.out.mono ?_
  rintro e w1 ⟨⟨r, rfl, hr⟩, q⟩
  have HR := Lib.hid hr; have HQ := Lib.hid q
  clear hr q
  go_wp2_with fail
  go_ret
  exact ⟨by rw [← HR.out]; rfl, HQ.out⟩
end Go.Proofs.YtcflpcpkmhljkaaGreatDoor
end

/- (BitC) trial -/
section
namespace Go.Proofs.YtcflpcpkmhljkaaGreatDoor
open Go.RowKit
set_option linter.unusedVariables false

/-- what a round of 'Set' does to the row -/
theorem set_rel_on {w0 wr : World} {B : Nat} {l m : List UInt8} (s k x : Nat) (hr : ByteRow wr B m) (hm : setTo l s true k = m) (hx : x < 256) (hv : (m.getD ((s + k) / 8) 0).toNat = x) :
    ByteRow ((wr.setCell ⟨B, (s + k) / 8, none⟩ (.int .u8 (bits BinOp.andNot .u8 x (2 ^ ((s + k) % 8) % 256)))).setCell ⟨B, (s + k) / 8, none⟩
      (.int .u8 (bits BinOp.or .u8 (bits BinOp.andNot .u8 x (2 ^ ((s + k) % 8) % 256)) (2 ^ ((s + k) % 8) % 256)))) B (setTo l s true (k + 1)) := by
  have hk : (s + k) % 8 < 8 := Nat.mod_lt _ (by omega)
  rw [walk_turn x _ hx hk, walk_clear x _ hx hk]
  have h1 := hr.set ((s + k) / 8) _ (UInt8.ofNat (byteSet x ((s + k) % 8) false)) (ofNat_toNat _ (byteSet_lt _ _ _ hx hk)).symm
  have h2 := h1.set ((s + k) / 8) _ (UInt8.ofNat (byteSet x ((s + k) % 8) true)) (ofNat_toNat _ (byteSet_lt _ _ _ hx hk)).symm
  rw [set_set] at h2
  rw [setTo, hm, setBit, hv]
  exact h2
theorem set_rel_off {w0 wr : World} {B : Nat} {l m : List UInt8} (s k x : Nat) (hr : ByteRow wr B m) (hm : setTo l s false k = m) (hx : x < 256) (hv : (m.getD ((s + k) / 8) 0).toNat = x) :
    ByteRow (wr.setCell ⟨B, (s + k) / 8, none⟩ (.int .u8 (bits BinOp.andNot .u8 x (2 ^ ((s + k) % 8) % 256)))) B (setTo l s false (k + 1)) := by
  have hk : (s + k) % 8 < 8 := Nat.mod_lt _ (by omega)
  rw [walk_clear x _ hx hk]
  have h1 := hr.set ((s + k) / 8) _ (UInt8.ofNat (byteSet x ((s + k) % 8) false)) (ofNat_toNat _ (byteSet_lt _ _ _ hx hk)).symm
  rw [setTo, hm, setBit, hv]
  exact h1

set_option maxHeartbeats 400000 in
theorem set_ok (l : List UInt8) (s c : Nat) (on : Bool) (w : World) (hs : l.length ≤ 9223372036854775807 / 8) (h2 : c + s ≤ 8 * l.length) :
    Calls Tryz.prog 56 #[.string ⟨l.toArray⟩, .int .i64 s, .int .i64 c, .bool on] w fun e w' => e = .returned (.tuple #[.string ⟨(setTo l s on c).toArray⟩, .bool true]) ∧ Below w.heap.size w w' := by
  have kc := fun (w : World) (s : ByteArray) => run_bytes_of_string (P := Tryz.prog) w 9 162 5 s Tryz.underlying9 Tryz.underlying162 Tryz.underlying5
  have H1 : ¬ (8 * (l.length : Int)) < s := by omega
  have H2 : ¬ (8 * (l.length : Int) - s) < c := by omega
  go_enter Tryz.func56, Tryz.ntmps56
  go_wp2
  go_loopw [38] (fun i wr => ∃ k : Nat, k ≤ c ∧ i = .int .i64 k ∧ Below w.heap.size w wr ∧ ByteRow wr w.heap.size (setTo l s on k)) (fun i _ => c - (intOf i).toNat)
  case atStart => exact ⟨0, by omega, rfl, (Below.refl _ _).alloc (Nat.le_refl _) _ |>.drew, ByteRow.made _ _ _ _⟩
  case round =>
    obtain ⟨k, hk, rfl, hb, hr⟩ := hrel
    have hl := length_setTo l s on k
    generalize hm : setTo l s on k = m at *
    have HL := Lib.hid hl; clear hl
    have HM := Lib.hid hm; clear hm
    by_cases hlt : k < c
    · have hi2 : (s + k) / 8 < l.length := by omega
      obtain ⟨x, hx, HV, hc, hf⟩ := hr.at ((s + k) / 8) (by rw [HL.out]; omega)
      have HR := Lib.hid hr; clear hr
      have HB := Lib.hid hb; clear hb
      cases on
      · go_wp2
        go_region
        go_wp2
        refine ⟨⟨k + 1, by omega, by go_num, ((HB.out.setCell (Nat.le_refl _) _).drew), ?_⟩, by simp [intOf]; omega⟩
        exact set_rel_off (w0 := w) s k x HR.out HM.out hx HV.out
      · go_wp2
        go_region
        go_wp2
        go_region
        go_wp2
        refine ⟨⟨k + 1, by omega, by go_num, (((HB.out.setCell (Nat.le_refl _) _).setCell (Nat.le_refl _) _).drew).drew, ?_⟩, by simp [intOf]; omega⟩
        exact set_rel_on (w0 := w) s k x HR.out HM.out hx HV.out
    · have hk2 : k = c := by omega
      have hkc := hr.back (P := Tryz.prog) 162 9 5 (grownCap w l.length 0 5) Tryz.underlying162 Tryz.underlying5 Tryz.underlying9
      rw [HL.out] at hkc
      have HR := Lib.hid hr; clear hr
      have HB := Lib.hid hb; clear hb
      have HK := Lib.hid hk2; clear hk2
      go_wp2
      go_ret2
      exact ⟨by rw [← HK.out, HM.out]; rfl, HB.out⟩
end Go.Proofs.YtcflpcpkmhljkaaGreatDoor
end
