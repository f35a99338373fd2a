/- Joined texts of one proof. -/
import Derived.Test.YthijhicdmnoifaaGreatDoorRQryS
import Derived.Lib.AppendZeros
set_option linter.unusedSimpArgs false
set_option linter.unusedVariables false
set_option linter.unnecessarySimpa false
set_option maxRecDepth 100000
set_option maxHeartbeats 8000000
namespace Go.Proofs.YthijhicdmnoifaaGreatDoor
section
open Go.RowKit
theorem xE(va vb:Value)(hs:List dY)(w:World)(ha:Hits w va hs)(hb:Hits w vb hs)(hn:hs.length≤1000000000):
  Calls Tryz.prog 8 #[va,vb] w fun e w'=>e=.returned (.bool true)∧Q w w' :=
 (SameL_any va vb hs hs w ha hb hn hn).mono fun e w' h=>⟨by rw[h.1,decide_eq_true rfl],h.2⟩
theorem Hits.lit{x W:World}{hs:List dY}{n:Nat}(cs:Array Value)(t:TypeId)(hn:n=hs.length)(hc:cs.toList=tY hs)(q:Q (x.alloc (.cells cs t)) W):Hits W (.slice (some ⟨x.heap.size,0,none⟩) n n) hs:=by
 subst hn;have h:=Sl.lit x cs t hs.length 2 (by rw[←Array.length_toList,hc,PY])
 rw[hc] at h;exact Sl.stays h q
noncomputable def shRow4:Code:=((Tryz.f4.body.bind (iw 4)).getD .skip)
theorem sh_row4(w wb:World)(X:Nat)(a:Option Addr)(c:Nat)(hq:Q w wb)(k0:wb.cell? ⟨X,0,none⟩=some (.slice a 1 c))(hp:PartsAt w (.slice a 1 c) sxP)(hT:Tabs w)(gG:Spans w)
  (Qx:Exit→Act→World→Prop) (x0 x2 x3 x4 x5 x6 x7 x8 x9 x10 x11 x12 x13 x14 x15 x16 x17 x18 x19 x20 x21 x22 x23 x24 x25 x26 x27 x28 x29 x30 x31 x32 x33 x34 x35 x36 x37 x38 x39 x40 x41 x42 x43 x44 x45 x46 x47 x48 x49 x50 x51 x52 x53 x54 x55 x56 x57 x58 x59 x60 x61 x62 x63 x64 x65 x66 x67 x68 x69 x70 x71 x72 x73 x74 x75 x76 x77 x78 x79 x80 x81 x82 x83 x84 x85 x86 x87 x88 x89 x90:Value) (hQ:∀(W:World) (z22 z23 z24 z25 z26 z27 z28:Value),Q wb W→Qx .normal ⟨#[x0,.pointer (some ⟨X,0,none⟩),x2,x3,.bool true,x5,x6,x7,x8,x9,x10,x11,x12,x13,x14,x15,x16,x17,x18,x19,x20,x21,z22,z23,z24,z25,z26,z27,z28,x29,x30,x31,x32,x33,x34,x35,x36,x37,x38,x39,x40,x41,x42,x43,x44,x45,x46,x47,x48,x49,x50,x51,x52,x53,x54,x55,x56,x57,x58,x59,x60,x61,x62,x63,x64,x65,x66,x67,x68,x69,x70,x71,x72,x73,x74,x75,x76,x77,x78,x79,x80,x81,x82,x83,x84,x85,x86,x87,x88,x89,x90],[]⟩ W) :
  shRow4.wp Tryz.prog Qx ⟨#[x0,.pointer (some ⟨X,0,none⟩),x2,x3,x4,x5,x6,x7,x8,x9,x10,x11,x12,x13,x14,x15,x16,x17,x18,x19,x20,x21,x22,x23,x24,x25,x26,x27,x28,x29,x30,x31,x32,x33,x34,x35,x36,x37,x38,x39,x40,x41,x42,x43,x44,x45,x46,x47,x48,x49,x50,x51,x52,x53,x54,x55,x56,x57,x58,x59,x60,x61,x62,x63,x64,x65,x66,x67,x68,x69,x70,x71,x72,x73,x74,x75,x76,x77,x78,x79,x80,x81,x82,x83,x84,x85,x86,x87,x88,x89,x90],[]⟩ wb:=by
 have cs:=fun W (q:Q w W)=>kD W (.slice a 1 c) sxP (sq 2 [102,111,120]) (oneV 2 [102,111,120]) (hp.stays q) sx_ok (by decide) (yC _ _ _) (by decide +kernel) (by decide) (hT.stays q) (gG.stays q)
 rw[sx_1] at cs;conv=>arg 2;whnf
 have pz:Tryz.prog.follows .mixedOrders=true:=by kernel_rfl
 have CS:=Hd cs;have zq:=Hd hQ;have KK:=Hd (Q.refl wb);have HQ:=Hd hq;clear cs hQ hq hp hT gG;go_region_held3 (fun w'=>w'.cell? ⟨X,0,none⟩=some (.slice a 1 c)) (first|exact k0|exact cellQ (by repeat (first|with_reducible exact KK.out|with_reducible apply Qt.al|with_reducible apply Qt.dr)) k0)
  (first
   | (go_at_call 16;refine(oZ 2 [102,111,120] _).mono ?_;rintro e w1 ⟨rfl,q1⟩;(try (have hl:=HL.out.stays q1;have HL:=Hd hl));(try (have hl:=HL.out.stays ((Q.drew _).trans q1);have HL:=Hd hl));(try (have hl:=Hits.lit (hs:=[([120],2),([121],1)]) #[ak [120],.int .i64 2,ak [121],.int .i64 1] 54 rfl rfl q1;have HL:=Hd hl));(try (have hl:=Hits.lit (hs:=[([120],2),([121],1)]) #[ak [120],.int .i64 2,ak [121],.int .i64 1] 54 rfl rfl ((Q.drew _).trans q1);have HL:=Hd hl));have s':Q wb w1:=Q.trans (by repeat (first|with_reducible exact KK.out|with_reducible apply Qt.al|with_reducible apply Qt.dr)) q1;clear KK;have KK:=Hd s';clear s';clear q1)
   | (go_at_call 9;refine(CS.out _ (HQ.out.trans (by repeat (first|with_reducible exact KK.out|with_reducible apply Qt.al|with_reducible apply Qt.dr)))).mono ?_;rintro e w2 ⟨v2,rfl,hh,q2⟩;obtain⟨a2,c2,wX,_⟩:=hh.value;subst wX;have HH:=Hd hh;(try (have hl:=HL.out.stays q2;have HL:=Hd hl));(try (have hl:=HL.out.stays ((Q.drew _).trans q2);have HL:=Hd hl));(try (have hl:=Hits.lit (hs:=[([120],2),([121],1)]) #[ak [120],.int .i64 2,ak [121],.int .i64 1] 54 rfl rfl q2;have HL:=Hd hl));(try (have hl:=Hits.lit (hs:=[([120],2),([121],1)]) #[ak [120],.int .i64 2,ak [121],.int .i64 1] 54 rfl rfl ((Q.drew _).trans q2);have HL:=Hd hl));have s':Q wb w2:=Q.trans (by repeat (first|with_reducible exact KK.out|with_reducible apply Qt.al|with_reducible apply Qt.dr)) q2;clear KK;have KK:=Hd s';clear s';clear q2 hh)
   | (go_at_call 8;refine(xE _ _ [([120],2),([121],1)] _ (by first|exact HH.out|exact HH.out.stays (by repeat (first|with_reducible exact Q.refl _|with_reducible apply Qt.al|with_reducible apply Qt.dr))) (by first|exact HL.out|exact HL.out.stays (Q.drew _)|exact Hits.lit (x:=w2) #[ak [120],.int .i64 2,ak [121],.int .i64 1] 54 rfl rfl (by repeat (first|with_reducible exact Q.refl _|with_reducible apply Qt.al|with_reducible apply Qt.dr))|exact Hits.lit (x:=w2.drew) #[ak [120],.int .i64 2,ak [121],.int .i64 1] 54 rfl rfl (by repeat (first|with_reducible exact Q.refl _|with_reducible apply Qt.al|with_reducible apply Qt.dr))) (by decide)).mono ?_;rintro e w3 ⟨rfl,q3⟩;have s':Q wb w3:=Q.trans (by repeat (first|with_reducible exact KK.out|with_reducible apply Qt.al|with_reducible apply Qt.dr)) q3;clear KK;have KK:=Hd s';clear s';clear q3))
 all_goals exact zq.out _ _ _ _ _ _ _ _ (by repeat (first|with_reducible exact KK.out|with_reducible apply Qt.al|with_reducible apply Qt.dr))
noncomputable def shRow5:Code:=((Tryz.f4.body.bind (iw 5)).getD .skip)
theorem sh_row5(w wb:World)(X:Nat)(a:Option Addr)(c:Nat)(hq:Q w wb)(k0:wb.cell? ⟨X,0,none⟩=some (.slice a 1 c))(hp:PartsAt w (.slice a 1 c) sxP)(hT:Tabs w)(gG:Spans w)
  (Qx:Exit→Act→World→Prop) (x0 x2 x3 x4 x5 x6 x7 x8 x9 x10 x11 x12 x13 x14 x15 x16 x17 x18 x19 x20 x21 x22 x23 x24 x25 x26 x27 x28 x29 x30 x31 x32 x33 x34 x35 x36 x37 x38 x39 x40 x41 x42 x43 x44 x45 x46 x47 x48 x49 x50 x51 x52 x53 x54 x55 x56 x57 x58 x59 x60 x61 x62 x63 x64 x65 x66 x67 x68 x69 x70 x71 x72 x73 x74 x75 x76 x77 x78 x79 x80 x81 x82 x83 x84 x85 x86 x87 x88 x89 x90:Value) (hQ:∀(W:World) (z29 z30 z31 z32 z33 z34:Value),Q wb W→Qx .normal ⟨#[x0,.pointer (some ⟨X,0,none⟩),x2,x3,x4,.bool true,x6,x7,x8,x9,x10,x11,x12,x13,x14,x15,x16,x17,x18,x19,x20,x21,x22,x23,x24,x25,x26,x27,x28,z29,z30,z31,z32,z33,z34,x35,x36,x37,x38,x39,x40,x41,x42,x43,x44,x45,x46,x47,x48,x49,x50,x51,x52,x53,x54,x55,x56,x57,x58,x59,x60,x61,x62,x63,x64,x65,x66,x67,x68,x69,x70,x71,x72,x73,x74,x75,x76,x77,x78,x79,x80,x81,x82,x83,x84,x85,x86,x87,x88,x89,x90],[]⟩ W) :
  shRow5.wp Tryz.prog Qx ⟨#[x0,.pointer (some ⟨X,0,none⟩),x2,x3,x4,x5,x6,x7,x8,x9,x10,x11,x12,x13,x14,x15,x16,x17,x18,x19,x20,x21,x22,x23,x24,x25,x26,x27,x28,x29,x30,x31,x32,x33,x34,x35,x36,x37,x38,x39,x40,x41,x42,x43,x44,x45,x46,x47,x48,x49,x50,x51,x52,x53,x54,x55,x56,x57,x58,x59,x60,x61,x62,x63,x64,x65,x66,x67,x68,x69,x70,x71,x72,x73,x74,x75,x76,x77,x78,x79,x80,x81,x82,x83,x84,x85,x86,x87,x88,x89,x90],[]⟩ wb:=by
 have cs:=fun W (q:Q w W)=>kD W (.slice a 1 c) sxP (sq 3 [102,111,120,32,100,111,103]) (oneV 3 [102,111,120,32,100,111,103]) (hp.stays q) sx_ok (by decide) (yC _ _ _) (by decide +kernel) (by decide) (hT.stays q) (gG.stays q)
 rw[sx_2] at cs;conv=>arg 2;whnf
 have pz:Tryz.prog.follows .mixedOrders=true:=by kernel_rfl
 have CS:=Hd cs;have zq:=Hd hQ;have KK:=Hd (Q.refl wb);have HQ:=Hd hq;clear cs hQ hq hp hT gG;go_region_held3 (fun w'=>w'.cell? ⟨X,0,none⟩=some (.slice a 1 c)) (first|exact k0|exact cellQ (by repeat (first|with_reducible exact KK.out|with_reducible apply Qt.al|with_reducible apply Qt.dr)) k0)
  (first
   | (go_at_call 16;refine(oZ 3 [102,111,120,32,100,111,103] _).mono ?_;rintro e w1 ⟨rfl,q1⟩;(try (have hl:=HL.out.stays q1;have HL:=Hd hl));(try (have hl:=HL.out.stays ((Q.drew _).trans q1);have HL:=Hd hl));(try (have hl:=Hits.lit (hs:=[([120],3)]) #[ak [120],.int .i64 3] 54 rfl rfl q1;have HL:=Hd hl));(try (have hl:=Hits.lit (hs:=[([120],3)]) #[ak [120],.int .i64 3] 54 rfl rfl ((Q.drew _).trans q1);have HL:=Hd hl));have s':Q wb w1:=Q.trans (by repeat (first|with_reducible exact KK.out|with_reducible apply Qt.al|with_reducible apply Qt.dr)) q1;clear KK;have KK:=Hd s';clear s';clear q1)
   | (go_at_call 9;refine(CS.out _ (HQ.out.trans (by repeat (first|with_reducible exact KK.out|with_reducible apply Qt.al|with_reducible apply Qt.dr)))).mono ?_;rintro e w2 ⟨v2,rfl,hh,q2⟩;obtain⟨a2,c2,wX,_⟩:=hh.value;subst wX;have HH:=Hd hh;(try (have hl:=HL.out.stays q2;have HL:=Hd hl));(try (have hl:=HL.out.stays ((Q.drew _).trans q2);have HL:=Hd hl));(try (have hl:=Hits.lit (hs:=[([120],3)]) #[ak [120],.int .i64 3] 54 rfl rfl q2;have HL:=Hd hl));(try (have hl:=Hits.lit (hs:=[([120],3)]) #[ak [120],.int .i64 3] 54 rfl rfl ((Q.drew _).trans q2);have HL:=Hd hl));have s':Q wb w2:=Q.trans (by repeat (first|with_reducible exact KK.out|with_reducible apply Qt.al|with_reducible apply Qt.dr)) q2;clear KK;have KK:=Hd s';clear s';clear q2 hh)
   | (go_at_call 8;refine(xE _ _ [([120],3)] _ (by first|exact HH.out|exact HH.out.stays (by repeat (first|with_reducible exact Q.refl _|with_reducible apply Qt.al|with_reducible apply Qt.dr))) (by first|exact HL.out|exact HL.out.stays (Q.drew _)|exact Hits.lit (x:=w2) #[ak [120],.int .i64 3] 54 rfl rfl (by repeat (first|with_reducible exact Q.refl _|with_reducible apply Qt.al|with_reducible apply Qt.dr))|exact Hits.lit (x:=w2.drew) #[ak [120],.int .i64 3] 54 rfl rfl (by repeat (first|with_reducible exact Q.refl _|with_reducible apply Qt.al|with_reducible apply Qt.dr))) (by decide)).mono ?_;rintro e w3 ⟨rfl,q3⟩;have s':Q wb w3:=Q.trans (by repeat (first|with_reducible exact KK.out|with_reducible apply Qt.al|with_reducible apply Qt.dr)) q3;clear KK;have KK:=Hd s';clear s';clear q3))
 all_goals exact zq.out _ _ _ _ _ _ _ (by repeat (first|with_reducible exact KK.out|with_reducible apply Qt.al|with_reducible apply Qt.dr))
noncomputable def shRow6:Code:=((Tryz.f4.body.bind (iw 6)).getD .skip)
theorem sh_row6(w wb:World)(X:Nat)(a:Option Addr)(c:Nat)(hq:Q w wb)(k0:wb.cell? ⟨X,0,none⟩=some (.slice a 1 c))(hp:PartsAt w (.slice a 1 c) sxP)(hT:Tabs w)(gG:Spans w)
  (Qx:Exit→Act→World→Prop) (x0 x2 x3 x4 x5 x6 x7 x8 x9 x10 x11 x12 x13 x14 x15 x16 x17 x18 x19 x20 x21 x22 x23 x24 x25 x26 x27 x28 x29 x30 x31 x32 x33 x34 x35 x36 x37 x38 x39 x40 x41 x42 x43 x44 x45 x46 x47 x48 x49 x50 x51 x52 x53 x54 x55 x56 x57 x58 x59 x60 x61 x62 x63 x64 x65 x66 x67 x68 x69 x70 x71 x72 x73 x74 x75 x76 x77 x78 x79 x80 x81 x82 x83 x84 x85 x86 x87 x88 x89 x90:Value) (hQ:∀(W:World) (z35 z36 z37 z38 z39 z40:Value),Q wb W→Qx .normal ⟨#[x0,.pointer (some ⟨X,0,none⟩),x2,x3,x4,x5,.bool true,x7,x8,x9,x10,x11,x12,x13,x14,x15,x16,x17,x18,x19,x20,x21,x22,x23,x24,x25,x26,x27,x28,x29,x30,x31,x32,x33,x34,z35,z36,z37,z38,z39,z40,x41,x42,x43,x44,x45,x46,x47,x48,x49,x50,x51,x52,x53,x54,x55,x56,x57,x58,x59,x60,x61,x62,x63,x64,x65,x66,x67,x68,x69,x70,x71,x72,x73,x74,x75,x76,x77,x78,x79,x80,x81,x82,x83,x84,x85,x86,x87,x88,x89,x90],[]⟩ W) :
  shRow6.wp Tryz.prog Qx ⟨#[x0,.pointer (some ⟨X,0,none⟩),x2,x3,x4,x5,x6,x7,x8,x9,x10,x11,x12,x13,x14,x15,x16,x17,x18,x19,x20,x21,x22,x23,x24,x25,x26,x27,x28,x29,x30,x31,x32,x33,x34,x35,x36,x37,x38,x39,x40,x41,x42,x43,x44,x45,x46,x47,x48,x49,x50,x51,x52,x53,x54,x55,x56,x57,x58,x59,x60,x61,x62,x63,x64,x65,x66,x67,x68,x69,x70,x71,x72,x73,x74,x75,x76,x77,x78,x79,x80,x81,x82,x83,x84,x85,x86,x87,x88,x89,x90],[]⟩ wb:=by
 have cs:=fun W (q:Q w W)=>kD W (.slice a 1 c) sxP (sq 4 [99]) (oneV 4 [99]) (hp.stays q) sx_ok (by decide) (yC _ _ _) (by decide +kernel) (by decide) (hT.stays q) (gG.stays q)
 rw[sx_3] at cs;conv=>arg 2;whnf
 have pz:Tryz.prog.follows .mixedOrders=true:=by kernel_rfl
 have CS:=Hd cs;have zq:=Hd hQ;have KK:=Hd (Q.refl wb);have HQ:=Hd hq;clear cs hQ hq hp hT gG;go_region_held3 (fun w'=>w'.cell? ⟨X,0,none⟩=some (.slice a 1 c)) (first|exact k0|exact cellQ (by repeat (first|with_reducible exact KK.out|with_reducible apply Qt.al|with_reducible apply Qt.dr)) k0)
  (first
   | (go_at_call 16;refine(oZ 4 [99] _).mono ?_;rintro e w1 ⟨rfl,q1⟩;(try (have hl:=HL.out.stays q1;have HL:=Hd hl));(try (have hl:=HL.out.stays ((Q.drew _).trans q1);have HL:=Hd hl));(try (have hl:=Hits.lit (hs:=[([122],1)]) #[ak [122],.int .i64 1] 54 rfl rfl q1;have HL:=Hd hl));(try (have hl:=Hits.lit (hs:=[([122],1)]) #[ak [122],.int .i64 1] 54 rfl rfl ((Q.drew _).trans q1);have HL:=Hd hl));have s':Q wb w1:=Q.trans (by repeat (first|with_reducible exact KK.out|with_reducible apply Qt.al|with_reducible apply Qt.dr)) q1;clear KK;have KK:=Hd s';clear s';clear q1)
   | (go_at_call 9;refine(CS.out _ (HQ.out.trans (by repeat (first|with_reducible exact KK.out|with_reducible apply Qt.al|with_reducible apply Qt.dr)))).mono ?_;rintro e w2 ⟨v2,rfl,hh,q2⟩;obtain⟨a2,c2,wX,_⟩:=hh.value;subst wX;have HH:=Hd hh;(try (have hl:=HL.out.stays q2;have HL:=Hd hl));(try (have hl:=HL.out.stays ((Q.drew _).trans q2);have HL:=Hd hl));(try (have hl:=Hits.lit (hs:=[([122],1)]) #[ak [122],.int .i64 1] 54 rfl rfl q2;have HL:=Hd hl));(try (have hl:=Hits.lit (hs:=[([122],1)]) #[ak [122],.int .i64 1] 54 rfl rfl ((Q.drew _).trans q2);have HL:=Hd hl));have s':Q wb w2:=Q.trans (by repeat (first|with_reducible exact KK.out|with_reducible apply Qt.al|with_reducible apply Qt.dr)) q2;clear KK;have KK:=Hd s';clear s';clear q2 hh)
   | (go_at_call 8;refine(xE _ _ [([122],1)] _ (by first|exact HH.out|exact HH.out.stays (by repeat (first|with_reducible exact Q.refl _|with_reducible apply Qt.al|with_reducible apply Qt.dr))) (by first|exact HL.out|exact HL.out.stays (Q.drew _)|exact Hits.lit (x:=w2) #[ak [122],.int .i64 1] 54 rfl rfl (by repeat (first|with_reducible exact Q.refl _|with_reducible apply Qt.al|with_reducible apply Qt.dr))|exact Hits.lit (x:=w2.drew) #[ak [122],.int .i64 1] 54 rfl rfl (by repeat (first|with_reducible exact Q.refl _|with_reducible apply Qt.al|with_reducible apply Qt.dr))) (by decide)).mono ?_;rintro e w3 ⟨rfl,q3⟩;have s':Q wb w3:=Q.trans (by repeat (first|with_reducible exact KK.out|with_reducible apply Qt.al|with_reducible apply Qt.dr)) q3;clear KK;have KK:=Hd s';clear s';clear q3))
 all_goals exact zq.out _ _ _ _ _ _ _ (by repeat (first|with_reducible exact KK.out|with_reducible apply Qt.al|with_reducible apply Qt.dr))
noncomputable def shRow7:Code:=((Tryz.f4.body.bind (iw 7)).getD .skip)
theorem sh_row7(w wb:World)(X:Nat)(a:Option Addr)(c:Nat)(hq:Q w wb)(k0:wb.cell? ⟨X,0,none⟩=some (.slice a 1 c))(hp:PartsAt w (.slice a 1 c) sxP)(hT:Tabs w)(gG:Spans w)
  (Qx:Exit→Act→World→Prop) (x0 x2 x3 x4 x5 x6 x7 x8 x9 x10 x11 x12 x13 x14 x15 x16 x17 x18 x19 x20 x21 x22 x23 x24 x25 x26 x27 x28 x29 x30 x31 x32 x33 x34 x35 x36 x37 x38 x39 x40 x41 x42 x43 x44 x45 x46 x47 x48 x49 x50 x51 x52 x53 x54 x55 x56 x57 x58 x59 x60 x61 x62 x63 x64 x65 x66 x67 x68 x69 x70 x71 x72 x73 x74 x75 x76 x77 x78 x79 x80 x81 x82 x83 x84 x85 x86 x87 x88 x89 x90:Value) (hQ:∀(W:World) (z41 z42 z43 z44 z45 z46 z47 z48:Value),Q wb W→Qx .normal ⟨#[x0,.pointer (some ⟨X,0,none⟩),x2,x3,x4,x5,x6,.bool true,x8,x9,x10,x11,x12,x13,x14,x15,x16,x17,x18,x19,x20,x21,x22,x23,x24,x25,x26,x27,x28,x29,x30,x31,x32,x33,x34,x35,x36,x37,x38,x39,x40,z41,z42,z43,z44,z45,z46,z47,z48,x49,x50,x51,x52,x53,x54,x55,x56,x57,x58,x59,x60,x61,x62,x63,x64,x65,x66,x67,x68,x69,x70,x71,x72,x73,x74,x75,x76,x77,x78,x79,x80,x81,x82,x83,x84,x85,x86,x87,x88,x89,x90],[]⟩ W) :
  shRow7.wp Tryz.prog Qx ⟨#[x0,.pointer (some ⟨X,0,none⟩),x2,x3,x4,x5,x6,x7,x8,x9,x10,x11,x12,x13,x14,x15,x16,x17,x18,x19,x20,x21,x22,x23,x24,x25,x26,x27,x28,x29,x30,x31,x32,x33,x34,x35,x36,x37,x38,x39,x40,x41,x42,x43,x44,x45,x46,x47,x48,x49,x50,x51,x52,x53,x54,x55,x56,x57,x58,x59,x60,x61,x62,x63,x64,x65,x66,x67,x68,x69,x70,x71,x72,x73,x74,x75,x76,x77,x78,x79,x80,x81,x82,x83,x84,x85,x86,x87,x88,x89,x90],[]⟩ wb:=by
 have cs:=fun W (q:Q w W)=>kD W (.slice a 1 c) sxP (sq 1 []) (oneV 1 []) (hp.stays q) sx_ok (by decide) (yC _ _ _) (by decide +kernel) (by decide) (hT.stays q) (gG.stays q)
 rw[sx_4] at cs;conv=>arg 2;whnf
 have pz:Tryz.prog.follows .mixedOrders=true:=by kernel_rfl
 have CS:=Hd cs;have zq:=Hd hQ;have KK:=Hd (Q.refl wb);have HQ:=Hd hq;clear cs hQ hq hp hT gG;go_region_held3 (fun w'=>w'.cell? ⟨X,0,none⟩=some (.slice a 1 c)) (first|exact k0|exact cellQ (by repeat (first|with_reducible exact KK.out|with_reducible apply Qt.al|with_reducible apply Qt.dr)) k0)
  (first
   | (go_at_call 16;refine(oZ 1 [] _).mono ?_;rintro e w1 ⟨rfl,q1⟩;(try (have hl:=HL.out.stays q1;have HL:=Hd hl));(try (have hl:=HL.out.stays ((Q.drew _).trans q1);have HL:=Hd hl));(try (have hl:=Hits.lit (hs:=[([120],1),([121],1),([122],1)]) #[ak [120],.int .i64 1,ak [121],.int .i64 1,ak [122],.int .i64 1] 54 rfl rfl q1;have HL:=Hd hl));(try (have hl:=Hits.lit (hs:=[([120],1),([121],1),([122],1)]) #[ak [120],.int .i64 1,ak [121],.int .i64 1,ak [122],.int .i64 1] 54 rfl rfl ((Q.drew _).trans q1);have HL:=Hd hl));have s':Q wb w1:=Q.trans (by repeat (first|with_reducible exact KK.out|with_reducible apply Qt.al|with_reducible apply Qt.dr)) q1;clear KK;have KK:=Hd s';clear s';clear q1)
   | (go_at_call 9;refine(CS.out _ (HQ.out.trans (by repeat (first|with_reducible exact KK.out|with_reducible apply Qt.al|with_reducible apply Qt.dr)))).mono ?_;rintro e w2 ⟨v2,rfl,hh,q2⟩;obtain⟨a2,c2,wX,_⟩:=hh.value;subst wX;have HH:=Hd hh;(try (have hl:=HL.out.stays q2;have HL:=Hd hl));(try (have hl:=HL.out.stays ((Q.drew _).trans q2);have HL:=Hd hl));(try (have hl:=Hits.lit (hs:=[([120],1),([121],1),([122],1)]) #[ak [120],.int .i64 1,ak [121],.int .i64 1,ak [122],.int .i64 1] 54 rfl rfl q2;have HL:=Hd hl));(try (have hl:=Hits.lit (hs:=[([120],1),([121],1),([122],1)]) #[ak [120],.int .i64 1,ak [121],.int .i64 1,ak [122],.int .i64 1] 54 rfl rfl ((Q.drew _).trans q2);have HL:=Hd hl));have s':Q wb w2:=Q.trans (by repeat (first|with_reducible exact KK.out|with_reducible apply Qt.al|with_reducible apply Qt.dr)) q2;clear KK;have KK:=Hd s';clear s';clear q2 hh)
   | (go_at_call 8;refine(xE _ _ [([120],1),([121],1),([122],1)] _ (by first|exact HH.out|exact HH.out.stays (by repeat (first|with_reducible exact Q.refl _|with_reducible apply Qt.al|with_reducible apply Qt.dr))) (by first|exact HL.out|exact HL.out.stays (Q.drew _)|exact Hits.lit (x:=w2) #[ak [120],.int .i64 1,ak [121],.int .i64 1,ak [122],.int .i64 1] 54 rfl rfl (by repeat (first|with_reducible exact Q.refl _|with_reducible apply Qt.al|with_reducible apply Qt.dr))|exact Hits.lit (x:=w2.drew) #[ak [120],.int .i64 1,ak [121],.int .i64 1,ak [122],.int .i64 1] 54 rfl rfl (by repeat (first|with_reducible exact Q.refl _|with_reducible apply Qt.al|with_reducible apply Qt.dr))) (by decide)).mono ?_;rintro e w3 ⟨rfl,q3⟩;have s':Q wb w3:=Q.trans (by repeat (first|with_reducible exact KK.out|with_reducible apply Qt.al|with_reducible apply Qt.dr)) q3;clear KK;have KK:=Hd s';clear s';clear q3))
 all_goals exact zq.out _ _ _ _ _ _ _ _ _ (by repeat (first|with_reducible exact KK.out|with_reducible apply Qt.al|with_reducible apply Qt.dr))
end
section
open Go.RowKit
section
variable {P:Program} (w:World)
theorem aaJ(base:Nat)(t ty e:TypeId)(i:TypeInfo)(size:Nat)(ht:P.underlying t=some (.slice e))(hi:P.info? e=some i)
  (v:Value) (n:Nat) (xs:List Value) (aQ:w.ownsRow base e size v n xs) (c:Nat):(Builtin.append_ #[t,t] ty #[v,.slice none 0 c]).run P w=.ok v w:=by
 rcases aQ.2 with ⟨rfl,rfl⟩|⟨g,cap,cur,rfl,_,_,Ud,_⟩
 ·simp[Builtin.append_,run_underlying ht,sizeOf,typeInfo,hi,Builtin.lenOf,Builtin.firstCells]
 ·simp[Builtin.append_,run_underlying ht,sizeOf,typeInfo,hi,Builtin.lenOf,Builtin.firstCells,Ud,storeCells]
theorem aaK(base:Nat)(t ty e:TypeId)(i:TypeInfo)(z:Value)(size bytes:Nat)(ht:P.underlying t=some (.slice e))(hi:P.info? e=some i)(hz:i.zero=some z)
  (jA:i.size=size) (nH:i.bytes=bytes) (uU:z.cells.size=size) (aY:0<size)
  (v:Value) (n:Nat) (xs:List Value) (aQ:w.ownsRow base e size v n xs)
  (vx:Value) (m:Nat) (news:List Value) (hr:Sl w vx m size news) (h1:∀u∈news,u.oneCell'=true)
  (ru:n+m≤maxLen) (gB:(n+m)*bytes≤140737488355328) (fC:base≤w.heap.size) :
  ∃v' w',(Builtin.append_ #[t,t] ty #[v,vx]).run P w=.ok v' w'∧w'.ownsRow base e size v' (n+m) (xs++news)∧w.grownBy w' v.ownBlock∧(v'.ownBlock=v.ownBlock∨v'.ownBlock=some w.heap.size):=by
 obtain⟨hl,A,c,rfl,hc⟩:=hr;rcases A with _|ad
 ·have hm:m=0:=by
   rcases Nat.eq_zero_or_pos m with h0|h0
   ·exact h0
   ·obtain⟨b,off,h,_⟩:=hc h0;cases h
  subst hm;have hn:news=[]:=List.eq_nil_of_length_eq_zero (by simpa using hl)
  subst hn;exact⟨v,w,aaJ w base t ty e i size ht hi v n xs aQ c,by simpa using aQ,World.grownBy.refl w _,.inl rfl⟩
 ·have JK:∀j u,news[j]?=some u→w.cell? (ad.add j)=some u:=by
   intro j u hu;rcases Nat.eq_zero_or_pos m with h0|h0
   ·subst h0
    have hn:news=[]:=List.eq_nil_of_length_eq_zero (by simpa using hl)
    subst hn;simp at hu
   ·obtain⟨b,off,h,h2⟩:=hc h0
    cases h;rw[yM];exact h2 j u hu
  obtain⟨v',w',Vd,h2,h3,_,h5⟩:=run_append_own_at (P:=P) w base t ty e i z size bytes ht hi hz jA nH uU aY v n xs aQ ad m c news hl JK h1 ru gB fC;exact⟨v',w',Vd,h2,h3,h5⟩
theorem zG{o:Oper}{a:Act}{K:Act→World→Prop}{Q:Exit→Act→World→Prop}(s x:Operand)(t:TypeId)
  (ho:o.op=.call { callee:=.builtin .append,args:=#[s,x],argTypes:=#[t,t] })
  (base:Nat) (e:TypeId) (i:TypeInfo) (z:Value) (size bytes:Nat) (ht:P.underlying t=some (.slice e)) (hi:P.info? e=some i) (hz:i.zero=some z)
  (jA:i.size=size) (nH:i.bytes=bytes) (uU:z.cells.size=size) (aY:0<size)
  (v:Value) (n:Nat) (xs:List Value) (hs:a.eval s=v) (aQ:w.ownsRow base e size v n xs)
  (vx:Value) (m:Nat) (news:List Value) (hx:a.eval x=vx) (hr:Sl w vx m size news) (h1:∀u∈news,u.oneCell'=true)
  (ru:n+m≤maxLen) (gB:(n+m)*bytes≤140737488355328) (fC:base≤w.heap.size)
  (h:∀v' w',w'.ownsRow base e size v' (n+m) (xs++news)→w.grownBy w' v.ownBlock→(v'.ownBlock=v.ownBlock∨v'.ownBlock=some w.heap.size)→K (a.put o.dst v') w'):o.wp P a w K Q:=by
 obtain⟨v',w',Vd,h2,h3,h4⟩:=aaK (P:=P) w base t o.type e i z size bytes ht hi hz jA nH uU aY v n xs aQ vx m news hr h1 ru gB fC;unfold Oper.wp execOp;simp only[ho,resolve,invoke,builtin,Sem.run_bind,Sem.run_pure,Result.andThen_ok,List.map_toArray,List.map_cons,List.map_nil,hs,hx,Vd];exact h v' w' h2 h3 h4
theorem jq{ops:Array Oper}{rest:List Oper}{o:Oper}{a:Act}{Q:Exit→Act→World→Prop}(uf:o.guard=none)(s x:Operand)(t:TypeId)
  (ho:o.op=.call { callee:=.builtin .append,args:=#[s,x],argTypes:=#[t,t] })
  (base:Nat) (e:TypeId) (i:TypeInfo) (z:Value) (size bytes:Nat) (ht:P.underlying t=some (.slice e)) (hi:P.info? e=some i) (hz:i.zero=some z)
  (jA:i.size=size) (nH:i.bytes=bytes) (uU:z.cells.size=size) (aY:0<size)
  (v:Value) (n:Nat) (xs:List Value) (hs:a.eval s=v) (aQ:w.ownsRow base e size v n xs)
  (vx:Value) (m:Nat) (news:List Value) (hx:a.eval x=vx) (hr:Sl w vx m size news) (h1:∀u∈news,u.oneCell'=true)
  (ru:n+m≤maxLen) (gB:(n+m)*bytes≤140737488355328) (fC:base≤w.heap.size)
  (h:∀v' w',w'.ownsRow base e size v' (n+m) (xs++news)→w.grownBy w' v.ownBlock→(v'.ownBlock=v.ownBlock∨v'.ownBlock=some w.heap.size)→wpList P ops Q rest (a.put o.dst v') w'):wpList P ops Q (o::rest) a w :=
 wpList_plain uf fun _ hK=>zG w s x t ho base e i z size bytes ht hi hz jA nH uU aY v n xs hs aQ vx m news hx hr h1 ru gB fC fun v' w' h2 h3 h4=>hK _ _ (h v' w' h2 h3 h4)
end
theorem Sl.cut{w:World}{a:Option Addr}{n cap size:Nat}{xs:List Value}(h:Sl w (.slice a n cap) n size xs)(lo hi:Nat)(h1:lo≤hi)(h2:hi≤n)(h3:n≤cap):
  Sl w (.slice (if cap=lo then a else a.map (·.add (lo*size))) (hi-lo) (cap-lo)) (hi-lo) size ((xs.take (hi*size)).drop (lo*size)):=by
 obtain⟨hl,a',c',hv,hc⟩:=h;cases hv;refine⟨?_,_,_,rfl,fun hp=>?_⟩
 ·rw[List.length_drop,List.length_take,hl,Nat.min_eq_left (Nat.mul_le_mul_right _ h2),Nat.sub_mul]
 ·obtain⟨b,off,rfl,bC⟩:=hc (by omega)
  rw[if_neg (by omega)]
  refine⟨b,off+lo*size,by simp[yM],fun j u hj=>?_⟩
  rw[Nat.add_assoc];rw[List.getElem?_drop,List.getElem?_take] at hj;split at hj
  ·exact bC _ u hj
  ·cases hj
end
section
open Go.RowKit
theorem size_zeroCells(z:Array Value)(n:Nat):(Builtin.zeroCells z n).size=n*z.size:=by simp[Builtin.zeroCells]
theorem Grow_nil(n:Nat)(w:World)(hn:n≤1000000000):
  Calls Tryz.prog 90 #[.slice none 0 0,.int .i64 (n:Nat)] w fun e w'=>∃v',e=.returned v'∧w'.ownsRow w.heap.size 70 2 v' 0 []∧Q w w':=by
 obtain⟨i0,hi,fJ,eU,fD⟩:=info_parts iB;by_cases h0:n=0
 ·subst h0
  go_enter Tryz.func90,Tryz.ntmps90;go_wp2_with fail;go_ret;exact⟨_,rfl,World.ownsRow_nil _ _ _ _,Q.refl _⟩
 ·have hp:0<n:=by omega
  have hr:=fun ty=>Lib.run_append_nil_zeros (P:=Tryz.prog) w 29 3 ty 70 i0 (.agg #[.pointer none,ak []]) .i64 .i64 Tryz.underlying29 Tryz.underlying3 hi fJ n hp (by omega) (by omega) (by rw[fD];omega)
  have MZ:=grownCap_ge w n 0 70;have bR:=grownCap_le_maxLen w n 0 70 (by unfold maxLen;omega)
  have aY:(Builtin.zeroCells (Value.agg #[.pointer none,ak []]).cells n++Builtin.zeroCells (Value.agg #[.pointer none,ak []]).cells (grownCap w n 0 70-n)).size=grownCap w n 0 70*2:=by
   rw[Array.size_append,size_zeroCells,size_zeroCells];show n*2+(grownCap w n 0 70-n)*2=_;omega
  have ho:=World.ownsRow_made w.drew (Builtin.zeroCells (Value.agg #[.pointer none,ak []]).cells n++Builtin.zeroCells (Value.agg #[.pointer none,ak []]).cells (grownCap w n 0 70-n)) (grownCap w n 0 70) (base:=w.heap.size) (e:=70) (size:=2) (Nat.le_refl _) bR aY;have hq:Q w (w.drew.alloc (.cells (Builtin.zeroCells (Value.agg #[.pointer none,ak []]).cells n++Builtin.zeroCells (Value.agg #[.pointer none,ak []]).cells (grownCap w n 0 70-n)) 70)):=(Q.drew w).trans (Q.alloc _ _);generalize grownCap w n 0 70=gc at *;generalize Builtin.zeroCells (Value.agg #[.pointer none,ak []]).cells n++Builtin.zeroCells (Value.agg #[.pointer none,ak []]).cells (gc-n)=zz at *;have HO:=Hd ho;have HQ:=Hd hq;have HH:=Hd hr;clear ho hq aY hr;have Uj:(n:Int)>0:=by omega
  go_enter Tryz.func90,Tryz.ntmps90;go_wp2_with (at_builtin;go_must (refine Lib.wpList_append_run w (by rfl) _ _ 29 3 (by rfl) (.slice none 0 0) (.int .i64 (n:Nat)) (by rfl) (by rfl) _ _ (HH.out _) ?_))
  go_ret;exact⟨_,rfl,HO.out,HQ.out⟩
theorem ab7(o:OpL)(w:World)(h1:o.2.1.length≤9223372036854775807)(h2:o.2.2.length≤9223372036854775807)(hT:Tabs w):
  Calls Tryz.prog 34 #[opV o] w fun e w'=>e=.returned (.bool (!dZ o))∧Q w w':=by
 obtain⟨b,id,tx⟩:=o;simp only at h1 h2;have c:=ahr (b,(id,tx)) (w.alloc (.cells #[.bool b,ak id,ak tx] 49)) h1 h2 (hT.stays (Q.alloc _ _));have C:=Hd c;clear c hT;generalize dZ (b,(id,tx))=rt at *;have hb:rt=rt:=rfl;cases rt;all_goals
  go_enter Tryz.func34,Tryz.ntmps34;go_wp2_with fail;refine C.out.mono ?_;rintro e w1 ⟨rfl,q⟩;have q2:=(Q.alloc w (.cells #[.bool b,ak id,ak tx] 49)).trans q;have HQ:=Hd q2;clear q q2;go_wp2_with fail;go_ret;exact⟨rfl,HQ.out⟩
def IdxP(l:List OpL)(w:World)(e:Ending)(w':World):Prop:=(∃r:Int,e=.returned (.int .i64 r)∧decide (0≤r) = !l.all dZ)∧Q w w'
theorem aaL(v:Value)(l:List OpL)(w:World)(hv:Ops w v l)(hn:l.length≤1000000)(hl:∀o∈l,o.2.1.length≤9223372036854775807∧o.2.2.length≤9223372036854775807)(hT:Tabs w):
  Calls Tryz.prog 70 #[v,.func (.func 34) #[] #[]] w (IdxP l w):=by
 obtain⟨a,cap,rfl,aJ⟩:=hv.value;have HC:=Hd aJ;have HL:=Hd hl;have HT:=Hd hT;clear hv aJ hl hT;have eg:∀args w,(callFunc 34 args).run Tryz.prog w=.ok (.enter 34 args) w:=enters_of Tryz.func34 (by kernel_rfl) rfl
 go_enter Tryz.func70,Tryz.ntmps70;go_wp2_with fail;go_loopw [8] (fun x wr=>∃k:Nat,x=.int .i64 (k:Nat)∧k≤l.length∧Hid (l.all dZ=(l.drop k).all dZ)∧Hid (Q w wr)) (fun x _=>l.length-(intOf x).toNat)
 case atStart=>exact⟨0,rfl,by omega,by show _=_;rw[List.drop_zero],Q.refl w⟩
 case round =>
  obtain⟨k,rfl,hk,HA,HQ⟩:=hrel;obtain⟨wo,rfl⟩:∃wo:World,wo=wr:=⟨_,rfl⟩;by_cases hlt:k<l.length
  ·obtain⟨b,off,rfl,hc⟩:=HC.out (by omega)
   obtain⟨gX,dM,zO⟩:=hc k hlt;have lJ:=ah HQ.out gX;have nV:=ah HQ.out dM;have Io:=ah HQ.out zO;obtain⟨jZ,jB⟩:=HL.out _ (List.getElem_mem hlt);have c:=ab7 l[k] wo jZ jB (HT.out.stays HQ.out);have yJ:l.all dZ=(dZ l[k]&&(l.drop (k+1)).all dZ):=by rw[HA.out,List.drop_eq_getElem_cons hlt,List.all_cons]
   clear hc gX dM zO HA;generalize l[k]=o at *;obtain⟨ob,oid,otx⟩:=o;simp only at lJ nV Io jZ jB;cases hr:dZ (ob,(oid,otx)) with
   | true =>
    rw[hr] at c yJ;rw[Bool.true_and] at yJ;have C:=Hd c;have vR:=Hd yJ;have HR:=Hd hr;clear c yJ hr;go_wp2_with fail;refine C.out.mono ?_;rintro e w1 ⟨rfl,q⟩;have jS:=HQ.out.trans q;have aC:=Hd jS;clear q jS;go_wp2_with fail;go_roundw;case rel=>exact⟨k+1,by go_num,by omega,vR,aC⟩
    case measure=>simp[intOf];omega
   | false =>
    rw[hr] at c yJ;rw[Bool.false_and] at yJ;have C:=Hd c;have vR:=Hd yJ;have HR:=Hd hr;clear c yJ hr;go_wp2_with fail;refine C.out.mono ?_;rintro e w1 ⟨rfl,q⟩;have jS:=HQ.out.trans q;have aC:=Hd jS;clear q jS;go_wp2_with fail;go_ret;exact⟨⟨(k:Nat),rfl,by rw[vR.out];simp⟩,aC.out⟩
  ·have cO:k=l.length:=by omega
   subst cO;have yJ:l.all dZ=true:=by rw[HA.out,List.drop_length];rfl
   have vR:=Hd yJ;clear yJ;go_wp2_with fail;go_ret;exact⟨⟨-1,rfl,by rw[vR.out];rfl⟩,HQ.out⟩
theorem Jq(v:Value)(l:List OpL)(w:World)(hv:Ops w v l)(hn:l.length≤1000000)(hl:∀o∈l,o.2.1.length≤9223372036854775807∧o.2.2.length≤9223372036854775807)(hT:Tabs w):
  Calls Tryz.prog 33 #[v,.func (.func 34) #[] #[]] w fun e w'=>e=.returned (.bool (!l.all dZ))∧Q w w':=by
 have c:=aaL v l w hv hn hl hT;obtain⟨a,cap,rfl,_⟩:=hv.value;have C:=Hd c;clear c hv hl hT;go_enter Tryz.func33,Tryz.ntmps33;go_wp2_with fail;refine C.out.mono ?_;rintro e w1 ⟨⟨r,rfl,hr⟩,q⟩;have HR:=Hd hr;have HQ:=Hd q;clear hr q;go_wp2_with fail;go_ret;exact⟨by rw[←HR.out];rfl,HQ.out⟩
theorem ahK{w0 wr:World}{B:Nat}{l m:List UInt8}(s k x:Nat)(hr:ByteRow wr B m)(hm:nR l s true k=m)(hx:x<256)(hv:(m.getD ((s+k) / 8) 0).toNat=x):
  ByteRow ((wr.setCell ⟨B,(s+k) / 8,none⟩ (.int .u8 (bits BinOp.andNot .u8 x (2 ^ ((s+k)%8)%256)))).setCell ⟨B,(s+k) / 8,none⟩
   (.int .u8 (bits BinOp.or .u8 (bits BinOp.andNot .u8 x (2 ^ ((s+k)%8)%256)) (2 ^ ((s+k)%8)%256)))) B (nR l s true (k+1)):=by
 have hk:(s+k)%8<8:=Nat.mod_lt _ (by omega)
 rw[walk_turn x _ hx hk,NQ x _ hx hk];have h1:=hr.set ((s+k) / 8) _ (UInt8.ofNat (wL x ((s+k)%8) false)) (ofNat_toNat _ (DN _ _ _ hx hk)).symm;have h2:=h1.set ((s+k) / 8) _ (UInt8.ofNat (wL x ((s+k)%8) true)) (ofNat_toNat _ (DN _ _ _ hx hk)).symm;rw[set_set] at h2;rw[nR,hm,Jh,hv];exact h2
theorem afd{w0 wr:World}{B:Nat}{l m:List UInt8}(s k x:Nat)(hr:ByteRow wr B m)(hm:nR l s false k=m)(hx:x<256)(hv:(m.getD ((s+k) / 8) 0).toNat=x):
  ByteRow (wr.setCell ⟨B,(s+k) / 8,none⟩ (.int .u8 (bits BinOp.andNot .u8 x (2 ^ ((s+k)%8)%256)))) B (nR l s false (k+1)):=by
 have hk:(s+k)%8<8:=Nat.mod_lt _ (by omega)
 rw[NQ x _ hx hk];have h1:=hr.set ((s+k) / 8) _ (UInt8.ofNat (wL x ((s+k)%8) false)) (ofNat_toNat _ (DN _ _ _ hx hk)).symm;rw[nR,hm,Jh,hv];exact h1
theorem set_ok(l:List UInt8)(s c:Nat)(on:Bool)(w:World)(hs:l.length≤9223372036854775807 / 8)(h2:c+s≤8*l.length):
  Calls Tryz.prog 39 #[.string ⟨l.toArray⟩,.int .i64 s,.int .i64 c,.bool on] w fun e w'=>e=.returned (.tuple #[.string ⟨(nR l s on c).toArray⟩,.bool true])∧Below w.heap.size w w':=by
 have kc:=fun (w:World) (s:ByteArray)=>run_bytes_of_string (P:=Tryz.prog) w 9 147 5 s Tryz.underlying9 Tryz.underlying147 Tryz.underlying5
 have H1:¬(8*(l.length:Int))<s:=by omega
 have H2:¬(8*(l.length:Int)-s)<c:=by omega
 go_enter Tryz.func39,Tryz.ntmps39;go_wp2;go_loopw [38] (fun i wr=>∃k:Nat,k≤c∧i=.int .i64 k∧Below w.heap.size w wr∧ByteRow wr w.heap.size (nR l s on k)) (fun i _=>c-(intOf i).toNat)
 case atStart=>exact⟨0,by omega,rfl,(Below.refl _ _).alloc (Nat.le_refl _) _ |>.drew,ByteRow.made _ _ _ _⟩
 case round =>
  obtain⟨k,hk,rfl,hb,hr⟩:=hrel;have hl:=DL l s on k;generalize hm:nR l s on k=m at *;have HL:=Hd hl;clear hl;have HM:=Hd hm;clear hm;by_cases hlt:k<c
  ·have mD:(s+k) / 8<l.length:=by omega
   obtain⟨x,hx,HV,hc,hf⟩:=hr.at ((s+k) / 8) (by rw[HL.out];omega)
   have HR:=Hd hr;clear hr;have HB:=Hd hb;clear hb;cases on
   ·go_wp2
    go_region;go_wp2;refine⟨⟨k+1,by omega,by go_num,((HB.out.setCell (Nat.le_refl _) _).drew),?_⟩,by simp[intOf];omega⟩
    exact afd (w0:=w) s k x HR.out HM.out hx HV.out
   ·go_wp2
    go_region;go_wp2;go_region;go_wp2;refine⟨⟨k+1,by omega,by go_num,(((HB.out.setCell (Nat.le_refl _) _).setCell (Nat.le_refl _) _).drew).drew,?_⟩,by simp[intOf];omega⟩
    exact ahK (w0:=w) s k x HR.out HM.out hx HV.out
  ·have mP:k=c:=by omega
   have hkc:=hr.back (P:=Tryz.prog) 147 9 5 (grownCap w l.length 0 5) Tryz.underlying147 Tryz.underlying5 Tryz.underlying9;rw[HL.out] at hkc;have HR:=Hd hr;clear hr;have HB:=Hd hb;clear hb;have HK:=Hd mP;clear mP;go_wp2;go_ret2;exact⟨by rw[←HK.out,HM.out];rfl,HB.out⟩
def SegsAt(w:World)(segs:List Nat)(ps:List aG):Prop:=∀(i:Nat) (p:Nat) (q:aG),segs[i]?=some p→ps[i]?=some q→SegAt w p q.1 (eF q.1)
abbrev iQ(segs:List Nat)(gs:List Bytes):List Value:=iU (segs.zip gs)
theorem SegsAt.stays{w w':World}{segs:List Nat}{ps:List aG}(h:SegsAt w segs ps)(q:Q w w'):SegsAt w' segs ps:=fun i p x hp hx=>(h i p x hp hx).stays q
theorem zip_parts(rs:List Cb)(ps:List aG)(h:rs.map (·.2)=ps.map (·.2)):rs=(rs.map (·.1)).zip (ps.map (·.2)):=by
 rw[←h,List.zip_map'];simp
theorem PartsAt.segs{w:World}{v:Value}{ps:List aG}(h:PartsAt w v ps):
  ∃segs:List Nat,segs.length=ps.length∧SegsAt w segs ps∧Sl w v ps.length 2 (iQ segs (ps.map (·.2)))∧∀a n cap,v=.slice a n cap→n≤cap:=by
 obtain⟨⟨rs,h1,h2,h3⟩,h4⟩:=h;have hl:rs.length=ps.length:=by have:=congrArg List.length h2;simpa using this
 refine⟨rs.map (·.1),by simpa using hl,fun i p q hp hq=>?_,?_,h4⟩
 ·rw[List.getElem?_map] at hp
  cases hr:rs[i]? with
  | none=>rw[hr] at hp;cases hp
  | some r=>rw[hr] at hp;cases hp;exact h3 i r q hr hq
 ·unfold iQ
  rw[←zip_parts rs ps h2,←hl];exact h1
theorem PartsAt.of{w:World}{v:Value}{ps:List aG}(segs:List Nat)(hl:segs.length=ps.length)(hs:SegsAt w segs ps)(h1:Sl w v ps.length 2 (iQ segs (ps.map (·.2))))(h4:∀a n cap,v=.slice a n cap→n≤cap):PartsAt w v ps:=by
 have hz:(segs.zip (ps.map (·.2))).length=ps.length:=by simp[hl]
 refine⟨⟨segs.zip (ps.map (·.2)),?_,?_,fun i r q hr hq=>?_⟩,h4⟩
 ·unfold MI;rw[hz];exact h1
 ·rw[List.map_snd_zip];simp[hl]
 ·rw[List.getElem?_zip_eq_some] at hr
  exact hs i r.1 q hr.1 hq
theorem owns_cap{w:World}{base:Nat}{e:TypeId}{size n:Nat}{v:Value}{xs:List Value}(h:w.ownsRow base e size v n xs):∀a m cap,v=.slice a m cap→m≤cap:=by
 intro a m cap hv;rcases h.2 with ⟨rfl,h0⟩|⟨g,c,cur,rfl,_,_,Ud,_⟩
 ·cases hv;exact Nat.le_refl _
 ·cases hv;exact Ud
theorem PartsAt.owns{w:World}{base:Nat}{v:Value}{ps:List aG}(segs:List Nat)(hl:segs.length=ps.length)(hs:SegsAt w segs ps)(h1:w.ownsRow base 70 2 v ps.length (iQ segs (ps.map (·.2)))):PartsAt w v ps :=
 PartsAt.of segs hl hs (Sl.of_owns h1) (owns_cap h1)
theorem rowPs_set(segs:List Nat)(gs:List Bytes)(hl:segs.length=gs.length)(i:Nat)(hi:i<gs.length)(x:Bytes):(iQ segs gs).set (i*2+1) (ak x)=iQ segs (gs.set i x):=by
 induction segs generalizing gs i with
 | nil=>simp at hl;omega
 | cons s segs ih =>
  cases gs with
  | nil=>simp at hl
  | cons g gs =>
   have e:∀s (g:Bytes) (segs:List Nat) (gs:List Bytes),iQ (s::segs) (g::gs)=.pointer (some ⟨s,0,none⟩)::ak g::iQ segs gs:=by intros;simp[iQ,iU]
   rw[e];cases i with
   | zero=>rw[List.set_cons_zero,e];rfl
   | succ i =>
    have h2:(i+1)*2+1=(i*2+1)+1+1:=by omega
    rw[h2];simp only[List.set_cons_succ];rw[ih gs (by simpa using hl) i (by simpa using hi),e]
theorem rowPs_at(segs:List Nat)(gs:List Bytes)(hl:segs.length=gs.length)(i:Nat)(hi:i<gs.length):(iQ segs gs)[i*2]?=some (.pointer (some ⟨segs[i]'(by omega),0,none⟩))∧(iQ segs gs)[i*2+1]?=some (ak gs[i]):=by
 have:=Zm (segs.zip gs) i (by simp[hl];exact hi)
 simpa using this
theorem ab8(segs:List Nat)(gs:List Bytes)(hl:segs.length=gs.length):(iQ segs gs).length=gs.length*2:=by
 induction segs generalizing gs with
 | nil=>cases gs<;>simp_all[iQ,iU]
 | cons s segs ih =>
  cases gs with
  | nil=>simp at hl
  | cons g gs =>
   have:=ih gs (by simpa using hl)
   simp only[iQ,List.zip_cons_cons,iU,List.flatMap_cons,List.length_append,List.length_cons,List.length_nil] at this ⊢;omega
theorem zH(segs segs':List Nat)(gs gs':List Bytes)(hl:segs.length=gs.length):iQ (segs++segs') (gs++gs')=iQ segs gs++iQ segs' gs':=by
 unfold iQ;rw[List.zip_append hl];simp[iU]
def tJ(id:Bytes)(ps:List aG)(i:Nat):List Bytes:=((ps.take i).map (fM id)++ps.drop i).map (·.2)
theorem gsIn_zero(id:Bytes)(ps:List aG):tJ id ps 0=ps.map (·.2):=by simp[tJ]
theorem gsIn_all(id:Bytes)(ps:List aG):tJ id ps ps.length=(ps.map (fM id)).map (·.2):=by simp[tJ]
theorem afe(id:Bytes)(ps:List aG)(i:Nat)(hi:i≤ps.length):(tJ id ps i).length=ps.length:=by simp[tJ];omega
theorem gsIn_at(id:Bytes)(ps:List aG)(i:Nat)(hi:i<ps.length):(tJ id ps i)[i]?=some ps[i].2:=by
 unfold tJ;rw[List.getElem?_map,List.getElem?_append_right (by simp;omega)]
 simp only[List.length_map,List.length_take,Nat.min_eq_left (Nat.le_of_lt hi),Nat.sub_self,List.getElem?_drop,Nat.add_zero,List.getElem?_eq_getElem hi,Option.map_some]
theorem Zu(id:Bytes)(ps:List aG)(i:Nat)(hi:i<ps.length):tJ id ps (i+1)=(tJ id ps i).set i (fM id ps[i]).2:=by
 unfold tJ;rw[List.take_succ_eq_append_getElem hi,List.drop_eq_getElem_cons hi];simp only[List.map_append,List.map_cons,List.map_nil,List.append_assoc,List.singleton_append];rw[List.set_append_right _ _ (by simp;omega)]
 simp[Nat.min_eq_left (Nat.le_of_lt hi)]
theorem set_same{α:Type}(l:List α)(i:Nat)(x:α)(h:l[i]?=some x):l.set i x=l:=by
 obtain⟨hi,rfl⟩:=List.getElem?_eq_some_iff.1 h;exact List.set_getElem_self hi
theorem gsIn_none(id:Bytes)(ps:List aG)(i:Nat)(hi:i<ps.length)(hf:oz ps[i].1 id=none):tJ id ps (i+1)=tJ id ps i:=by
 rw[Zu id ps i hi];have:fM id ps[i]=ps[i]:=by unfold fM;rw[hf]
 rw[this];exact set_same _ _ _ (gsIn_at id ps i hi)
theorem gsIn_some(id:Bytes)(ps:List aG)(i:Nat)(hi:i<ps.length)(k:Nat)(hf:oz ps[i].1 id=some k):tJ id ps (i+1)=(tJ id ps i).set i (nR ps[i].2 k true 1):=by
 rw[Zu id ps i hi];have:fM id ps[i]=(ps[i].1,nR ps[i].2 k true 1):=by unfold fM;rw[hf]
 rw[this]
theorem ab9(ids:List Bytes)(ps:List aG):(iq ids ps).map (·.1)=ps.map (·.1):=by
 induction ids generalizing ps with
 | nil=>rfl
 | cons id ids ih =>
  rw[wM,ih,List.map_map];exact List.map_congr_left fun p _=>qN id p
theorem ahL(ids:List Bytes)(ps:List aG)(i:Nat)(q:aG)(h:(iq ids ps)[i]?=some q):∃p:aG,ps[i]?=some p∧q.1=p.1:=by
 have:=congrArg (fun l=>l[i]?) (ab9 ids ps)
 simp only[List.getElem?_map,h,Option.map_some] at this;cases hp:ps[i]? with
 | none=>rw[hp] at this;cases this
 | some p=>rw[hp] at this;exact⟨p,rfl,by simpa using this⟩
theorem SegsAt.gone{w:World}{segs:List Nat}{ps:List aG}(h:SegsAt w segs ps)(ids:List Bytes):SegsAt w segs (iq ids ps):=by
 intro i p q hp hq;obtain⟨p0,h1,h2⟩:=ahL ids ps i q hq;rw[h2];exact h i p p0 hp h1
theorem acd(ids:List Bytes)(id:Bytes)(ps:List aG):iq (ids++[id]) ps=(iq ids ps).map (fM id):=by
 unfold iq;rw[List.foldl_append];rfl
def gAt(ops:List OpL)(ps:List aG)(j:Nat):List aG:=iq ((ops.take j).map (fun o=>o.2.1)) ps
def mAt(ops:List OpL)(j:Nat):List au:=((ops.take j).filter (fun o => !o.1)).map (·.2)
theorem gAt_succ(ops:List OpL)(ps:List aG)(j:Nat)(hj:j<ops.length):gAt ops ps (j+1)=(gAt ops ps j).map (fM ops[j].2.1):=by
 unfold gAt;rw[List.take_succ_eq_append_getElem hj,List.map_append,List.map_singleton,acd]
theorem ahM(ops:List OpL)(ps:List aG)(j:Nat):(gAt ops ps j).length=ps.length:=Ae _ _
theorem mAt_succ(ops:List OpL)(j:Nat)(hj:j<ops.length):mAt ops (j+1)=mAt ops j++(if ops[j].1 then [] else [ops[j].2]):=by
 unfold mAt;rw[List.take_succ_eq_append_getElem hj,List.filter_append,List.map_append];cases h:ops[j].1<;>simp[h]
theorem mAt_len(ops:List OpL)(j:Nat):(mAt ops j).length≤j:=by
 have h1:=List.length_filter_le (fun o:OpL => !o.1) (ops.take j)
 rw[List.length_take] at h1;unfold mAt;rw[List.length_map];omega
theorem box_ne{W:World}{X:Nat}{T:TypeId}{u0:Value}(hb:Boxed W X T u0){b off:Nat}{u:Value}(hc:W.cell? ⟨b,off,none⟩=some u)(aF:u≠u0):b≠X:=by
 intro e;subst e;have h:W.heap[b]?=some (.cells #[u0] T (0,0)):=hb;simp only[World.cell?,h] at hc;cases off with
 | zero=>simp at hc;exact aF hc.symm
 | succ n=>simp at hc
theorem Sj(W:World){X k:Nat}(u:Value)(h:k≠X):(W.setCell ⟨X,0,none⟩ u).heap[k]?=W.heap[k]?:=Below.heap_setCell _ _ _ _ h
theorem Sl.setBox{W:World}{X:Nat}{T:TypeId}{u0:Value}(hb:Boxed W X T u0)(u:Value){v:Value}{n size:Nat}{xs:List Value}(h:Sl W v n size xs)(hs:0<size)(hx:∀x∈xs,x≠u0):Sl (W.setCell ⟨X,0,none⟩ u) v n size xs:=by
 obtain⟨h1,a,cap,h2,h3⟩:=h;refine⟨h1,a,cap,h2,fun hn=>?_⟩
 obtain⟨b,off,h4,h5⟩:=h3 hn;refine⟨b,off,h4,fun j y hj=>?_⟩
 have hc:=h5 j y hj;have lU:=box_ne hb hc (hx y (List.mem_of_getElem? hj));rw[←hc];simp only[World.cell?,Sj W u lU]
theorem MapS.setBox{W:World}{X:Nat}{T:TypeId}{u0:Value}(hb:Boxed W X T u0)(u:Value){m:Nat}{es:List (Bytes×Value)}(h:MapS W m es):MapS (W.setCell ⟨X,0,none⟩ u) m es:=by
 have hm:=h;obtain⟨es',clock,h1,_⟩:=hm;refine h.same (Sj W u (fun e=>?_))
 subst e;have h2:W.heap[m]?=some (.cells #[u0] T (0,0)):=hb;rw[h2] at h1;cases h1
theorem SegAt.kept{W W':World}{row:Option Nat}(hg:W.grownBy W' row)(hX:∀X,row=some X→∃cs T fz,W.heap[X]?=some (.cells cs T fz)∧T≠75∧T≠47){p:Nat}{l:List au}{d:Bytes}(h:SegAt W p l d):SegAt W' p l d:=by
 obtain⟨v,mb,h1,h2,h3⟩:=h;have far:∀k o,W.heap[k]?=some o→(∀cs T fz,o=.cells cs T fz→T=75∨T=47)→some k≠row:=by
  intro k o hk ho e;obtain⟨cs,T,fz,hc,n1,n2⟩:=hX k e.symm;rw[hk] at hc;cases hc;rcases ho cs T fz rfl with h|h
  ·exact n1 h
  ·exact n2 h
 refine⟨v,mb,?_,h2.kept hg ?_,h3.same ?_⟩
 ·rw[hg.block p (aU h1) (far p _ h1 (fun _ _ _ e=>by cases e;exact .inl rfl))];exact h1
 ·cases hb:v.ownBlock with
  | none=>exact .inl rfl
  | some g =>
   obtain⟨cs,hc⟩:=jE h2 g hb;exact .inr (far g _ hc (fun _ _ _ e=>by cases e;exact .inr rfl))
 ·obtain⟨es,clock,h4,_⟩:=h3
  exact hg.block mb (aU h4) (far mb _ h4 (fun _ _ _ e=>by cases e))
theorem SegAt.setBox{W:World}{X:Nat}{T:TypeId}{u0:Value}(hb:Boxed W X T u0)(u:Value){p:Nat}{l:List au}{d:Bytes}(h:SegAt W p l d)(hT:T≠75∧T≠47):SegAt (W.setCell ⟨X,0,none⟩ u) p l d :=
 h.kept (grownBy_setCell' W X u) (fun Y e=>by cases e;exact⟨_,T,_,hb,hT.1,hT.2⟩)
theorem PartsAt.setBox{W:World}{X:Nat}{T:TypeId}{a:Option Addr}{n cap:Nat}(hb:Boxed W X T (.slice a n cap))(u:Value){v:Value}{ps:List aG}(h:PartsAt W v ps)(hT:T≠75∧T≠47):PartsAt (W.setCell ⟨X,0,none⟩ u) v ps:=by
 obtain⟨⟨rs,h1,h2,h3⟩,h4⟩:=h;refine⟨⟨rs,Sl.setBox hb u h1 (by decide) (fun x hx=>?_),h2,fun i r p hr hp=>(h3 i r p hr hp).setBox hb u hT⟩,h4⟩
 obtain⟨y,_,hy⟩:=List.mem_flatMap.1 hx;simp at hy;rcases hy with rfl|rfl<;>simp
theorem Og{W:World}{X:Nat}{a b c:Value}{T:TypeId}(h:W.heap[X]?=some (.cells #[a,b,c] T (0,0))):W.cell? ⟨X,0,none⟩=some a∧W.cell? ⟨X,1,none⟩=some b∧W.cell? ⟨X,2,none⟩=some c:=by
 simp[World.cell?,h]
theorem ahN(a:Option Addr)(n cap:Nat)(oa:Option Addr)(on oc:Nat)(w:World)(h:on<1∨50<on)(zX:on≤1000000):
  Calls Tryz.prog 14 #[iP (.slice a n cap),.slice oa on oc] w fun e w'=>e=.returned (.tuple #[iP (.slice a n cap),ak [],.int .i64 6])∧Q w w':=by
 rcases h with h|h
 ·have h1:(on:Int)<1:=by omega
  go_enter Tryz.func14,Tryz.ntmps14;go_wp2_with fail;refine bodyPost_ret (v:=.tuple #[iP (.slice a n cap),ak [],.int .i64 6]) (by simp[results,Tryz.results14,go_sem]) rfl ⟨rfl,(Q.alloc _ _).trans (Q.alloc _ _)⟩
 ·have h1:¬(on:Int)<1:=by omega
  have h2:50<(on:Int):=by omega
  go_enter Tryz.func14,Tryz.ntmps14;go_wp2_with fail;refine bodyPost_ret (v:=.tuple #[iP (.slice a n cap),ak [],.int .i64 6]) (by simp[results,Tryz.results14,go_sem]) rfl ⟨rfl,(Q.alloc _ _).trans (Q.alloc _ _)⟩
theorem Apply_arg(a:Option Addr)(n cap:Nat)(v:Value)(ops:List OpL)(w:World)(hv:Ops w v ops)(h:¬(ops.length<1∨50<ops.length))(hl:∀o∈ops,o.2.1.length≤9223372036854775807∧o.2.2.length≤9223372036854775807)(hT:Tabs w)(hr:ops.all dZ=false):
  Calls Tryz.prog 14 #[iP (.slice a n cap),v] w fun e w'=>e=.returned (.tuple #[iP (.slice a n cap),ak [],.int .i64 1])∧Q w w':=by
 have h1:¬(ops.length:Int)<1:=by omega
 have h2:¬50<(ops.length:Int):=by omega
 have iR:Q w ((w.alloc (.cells #[.slice a n cap] 31)).alloc (.cells #[.slice none 0 0] 31)):=(Q.alloc _ _).trans (Q.alloc _ _);have c:=Jq v ops _ (hv.stays iR) (by omega) hl (hT.stays iR)
 rw[hr] at c;obtain⟨oa,oc,rfl,_⟩:=hv.value;have lU:Boxed ((w.alloc (.cells #[.slice a n cap] 31)).alloc (.cells #[.slice none 0 0] 31)) (w.heap.size+1) 31 (.slice none 0 0):=by
  have:=Boxed.new (w.alloc (.cells #[.slice a n cap] 31)) 31 (.slice none 0 0);simpa using this
 have lK:Boxed ((w.alloc (.cells #[.slice a n cap] 31)).alloc (.cells #[.slice none 0 0] 31)) w.heap.size 31 (.slice a n cap):=(Boxed.new w _ _).alloc _;have C:=Hd c;have pI:=Hd lU;have xq:=Hd lK;have HR:=Hd hr;clear c hv hl hT lU lK h hr;go_enter Tryz.func14,Tryz.ntmps14;go_wp2_with fail;refine C.out.mono ?_;rintro e w1 ⟨rfl,q⟩;have b1:Boxed w1 (w.heap.size+1) 31 (.slice none 0 0):=aB q pI.out;have b0:Boxed w1 w.heap.size 31 (.slice a n cap):=aB q xq.out;have c1:=b1.cell;have f1:=b1.frozen;have c0:=b0.cell;have r1:=(b1.set (.slice a n cap)).cell;have rQ:=iR.trans q;have Jw:=Hd rQ;have R1:=Hd r1;clear rQ iR q b1 b0 r1;go_wp2_with fail;refine bodyPost_ret (v:=.tuple #[iP (.slice a n cap),ak [],.int .i64 1]) (by simp[results,Tryz.results14,go_sem,R1.out]) rfl ⟨rfl,Jw.out.setCell (by simp) _⟩
theorem ahO(p:Nat)(l:List au)(d id:Bytes)(W:World)(h:SegAt W p l d)(hn:(l.map (·.1)).Nodup)(o:Option Nat)(hf:oz l id=o)(n:Nat):
  Calls Tryz.prog 38 #[.pointer (some ⟨p,0,none⟩),.string ⟨id.toArray⟩] (W.drewN n) fun e w'=>e=.returned (.tuple #[.int .i64 ((o.getD 0:Nat):Int),.bool o.isSome])∧w'=W.drewN n:=by
 have c:=aeW p l d id (W.drewN n) (h.stays (Q.drewN W n)) hn;rw[hf] at c;exact c.mono fun _ _ ⟨h1,h2⟩=>⟨h1,h2.symm⟩
theorem Apply_run(v:Value)(ps:List aG)(vo:Value)(ops:List OpL)(w:World)(hv:PartsAt w v ps)(nL:Ops w vo ops)(h:¬(ops.length<1∨50<ops.length))(hl:∀o∈ops,o.2.1.length≤9223372036854775807∧o.2.2.length≤9223372036854775807)
  (hn:ps.length≤1000000) (bD:∀p∈ps,PartOk p) (hT:Tabs w) (gG:Spans w) (hr:ops.all dZ=true) :
  Calls Tryz.prog 14 #[iP v,vo] w fun e w'=>(∃v',e=.returned (.tuple #[iP v',ak (bG (bq ops)).2,.int .i64 0])∧PartsAt w' v' (iq (nI ops) ps++(bG (bq ops)).1))∧Q w w':=by
 obtain⟨io,V4,apn,apo,apq⟩:=info_parts mE;obtain⟨ip,BN,vG,vH,vI⟩:=info_parts iB;obtain⟨idd,hid,atM,atN,atO⟩:=info_parts fT;have h1:¬(ops.length:Int)<1:=by omega
 have h2:¬50<(ops.length:Int):=by omega
 have h50:ops.length≤50:=by omega
 have adM:=RQ ops hr;obtain⟨segs,bY,Iq,dR,uX⟩:=hv.segs;have Ww:(segs.zip (ps.map (·.2))).length=ps.length:=by simp[bY]
 obtain⟨a,cap,EI⟩:∃a cap,v=.slice a ps.length cap:=⟨_,_,hv.value.choose_spec.choose_spec.1⟩;subst EI;have iR:Q w ((w.alloc (.cells #[.slice a ps.length cap] 31)).alloc (.cells #[.slice none 0 0] 31)):=(Q.alloc _ _).trans (Q.alloc _ _);have c:=Jq vo ops _ (nL.stays iR) (by omega) hl (hT.stays iR)
 rw[hr] at c;have apr:=nL;obtain⟨oa,oc,rfl,_⟩:=nL.value;have lU:Boxed ((w.alloc (.cells #[.slice a ps.length cap] 31)).alloc (.cells #[.slice none 0 0] 31)) (w.heap.size+1) 31 (.slice none 0 0):=by
  have:=Boxed.new (w.alloc (.cells #[.slice a ps.length cap] 31)) 31 (.slice none 0 0);simpa using this
 have lK:Boxed ((w.alloc (.cells #[.slice a ps.length cap] 31)).alloc (.cells #[.slice none 0 0] 31)) w.heap.size 31 (.slice a ps.length cap):=(Boxed.new w _ _).alloc _;have AQ:w.heap.size+1<((w.alloc (.cells #[.slice a ps.length cap] 31)).alloc (.cells #[.slice none 0 0] 31)).heap.size:=by simp
 have C:=Hd c;have pI:=Hd lU;have xq:=Hd lK;have HR:=Hd hr;have HT:=Hd hT;have nX:=Hd gG;have HVO:=Hd apr;have Ev:=Hd Iq;have oV:=Hd dR;have ni:=Hd bD;have Vm:=Hd adM;have jk:=Hd iR;clear c hv nL apr hl hT gG lU lK hr Iq dR uX bD adM h;go_enter Tryz.func14,Tryz.ntmps14;go_wp2_with fail;refine C.out.mono ?_;rintro e w1 ⟨rfl,q1⟩;have b1:Boxed w1 (w.heap.size+1) 31 (.slice none 0 0):=aB q1 pI.out;have b0:Boxed w1 w.heap.size 31 (.slice a ps.length cap):=aB q1 xq.out;have c0:=b0.cell;have jS:=jk.out.trans q1;have dN:w.heap.size+1<w1.heap.size:=Nat.lt_of_lt_of_le AQ q1.size;have Em:MI w1 (.slice a ps.length cap) (segs.zip (ps.map (·.2))):=by unfold MI;rw[Ww];exact Sl.stays oV.out jS
 have ccl:=ae0 _ _ w1 Em (by omega)
 rw[Ww] at ccl;have CCL:=Hd ccl;have B1:=Hd b1;have aC:=Hd jS;clear ccl b1 b0 jS q1 Em C pI xq jk oV AQ Ww;go_wp2_with fail;refine CCL.out.mono ?_;rintro e w2 ⟨ov,rfl,jI,q2⟩;have gJ:=aC.out.trans q2;have kE:=q2.size;have cla:=Last_any _ ops w2 (HVO.out.stays gJ) (by omega)
 have adK:=fun g (hg:ov.ownBlock=some g)=>jI.lt g hg
 have b2:Boxed w2 (w.heap.size+1) 31 (.slice none 0 0):=aB q2 B1.out;have CLA:=Hd cla;have B2:=Hd b2;have aS:=Hd gJ;have rF:=Hd jI;have Bh:=Hd adK;clear cla b2 gJ q2 jI adK CCL B1 aC c0;go_wp2_with fail;refine CLA.out.mono ?_;rintro e w3 ⟨lv,rfl,zY,q3⟩;have tX:=aS.out.trans q3;have kP:=q3.size;have alD:w3.ownsRow w1.heap.size 70 2 ov ps.length (iQ segs (ps.map (·.2))):=ownsRow_below rF.out q3
 have b3:Boxed w3 (w.heap.size+1) 31 (.slice none 0 0):=aB q3 B2.out;have sO:=(Gp ops).length_le;obtain⟨la,lcap,rfl,Dw⟩:=wP zY;have fI:=fun g (hg:(Value.slice la (fK ops).length lcap).ownBlock=some g)=>(zY.lt g hg)
 obtain⟨ova,oJ,rfl,EX⟩:=wP alD;have aps:0<ps.length→∃g,ova=some ⟨g,0,none⟩:=fun hp=>by obtain⟨g,e,_⟩:=EX hp;exact⟨g,e⟩
 have am4:bq ops=mAt (fK ops) (fK ops).length:=by unfold bq mAt;rw[List.take_length]
 have am5:iq (nI ops) ps=gAt (fK ops) ps (fK ops).length:=by unfold gAt nI;rw[List.take_length]
 have ajb:=Hd am4;have am6:=Hd am5;have hg0:w3.ownsRow w1.heap.size 70 2 (.slice ova ps.length oJ) ps.length (iQ segs ((gAt (fK ops) ps 0).map (·.2))):=alD
 have B3:=Hd b3;have bZ:=Hd tX;have Cx:=Hd Dw;have iA:=Hd fI;have l8:=Hd aps;have HG0:=Hd hg0;clear b3 tX q3 zY alD Dw fI EX aps hg0 CLA B2 aS rF HVO am4 am5;generalize fK ops=lops at *;have ax9:lops.length≤50:=by omega
 clear sO;go_wp2_with fail;go_loopw [8,37] (fun mv x wr=>∃j:Nat,x=.int .i64 (j:Nat)∧j≤lops.length∧Hid (wr.ownsRow w1.heap.size 70 2 (.slice ova ps.length oJ) ps.length (iQ segs ((gAt lops ps j).map (·.2))))∧Hid (wr.ownsRow w3.heap.size 47 2 mv (mAt lops j).length (bK (mAt lops j)))∧Hid (w3.grownBy wr (Value.slice ova ps.length oJ).ownBlock)) (fun _ x _=>lops.length-(intOf x).toNat)
 case atStart=>exact⟨0,rfl,by omega,HG0,World.ownsRow_nil _ _ _ _,Yn _ _⟩
 case round =>
  obtain⟨j,rfl,hj,HO,HM,HG⟩:=hrel;obtain⟨wo,rfl⟩:∃wo:World,wo=wr:=⟨_,rfl⟩;have Fb:=HG.out.size;by_cases iI:j<lops.length
  ·obtain⟨gl,rfl,Dw⟩:=Cx.out (by omega)
   obtain⟨e0,e1,e2⟩:=opVs_at lops j iI;have AA:=(iA.out gl rfl).1;have aF:some gl≠(Value.slice ova ps.length oJ).ownBlock:=fun e=>by have:=(Bh.out gl e.symm).2;omega
   have k0:=yQ HG.out (Dw _ _ e0) aF;have k1:=yQ HG.out (Dw _ _ e1) aF;have k2:=yQ HG.out (Dw _ _ e2) aF;have OG:=gAt_succ lops ps j iI;have EY:=mAt_succ lops j iI;have ET:=mAt_len lops j;generalize lops[j]=o at *;obtain⟨ob,oid,otx⟩:=o;simp only at k0 k1 k2 OG EY;have sJ:=heap_alloc_new wo (.cells #[.bool ob,ak oid,ak otx] 49);have jf:(wo.alloc (.cells #[.bool ob,ak oid,ak otx] 49)).ownsRow w1.heap.size 70 2 (.slice ova ps.length oJ) ps.length (iQ segs (tJ oid (gAt lops ps j) 0)):=by rw[gsIn_zero];exact HO.out.alloc _
   have yI:=HM.out.alloc (.cells #[.bool ob,ak oid,ak otx] 49);have oO:=yc HG.out (gb_q (Value.slice ova ps.length oJ).ownBlock (Q.alloc wo (.cells #[.bool ob,ak oid,ak otx] 49)));have hX:wo.heap.size<(wo.alloc (.cells #[.bool ob,ak oid,ak otx] 49)).heap.size:=by simp
   have Bg:=Hd sJ;have jH:=Hd jf;have Ta:=Hd yI;have HG1:=Hd oO;have R6:=Hd OG;have HMS:=Hd EY;clear Dw e0 e1 e2 aF sJ jf yI oO OG EY HO HM HG;go_wp2_with fail;obtain⟨wb,rO⟩:∃wb,wo.alloc (.cells #[.bool ob,ak oid,ak otx] 49)=wb:=⟨_,rfl⟩;simp only[show(Obj.cells #[Value.bool ob,Value.string { data:=List.toArray oid },Value.string { data:=List.toArray otx }] 49)=.cells #[.bool ob,ak oid,ak otx] 49 from rfl,rO]
   rw[rO] at Bg jH Ta HG1 hX;have apu:=ahM lops ps j;go_loopw [43] (fun x wr=>∃i:Nat,x=.int .i64 (i:Nat)∧i≤ps.length∧Hid (wr.ownsRow w1.heap.size 70 2 (.slice ova ps.length oJ) ps.length (iQ segs (tJ oid (gAt lops ps j) i)))∧Hid (wb.grownBy wr (Value.slice ova ps.length oJ).ownBlock)) (fun x _=>ps.length-(intOf x).toNat)
   case atStart=>exact⟨0,rfl,by omega,jH,Yn _ _⟩
   case round =>
    obtain⟨i,rfl,hi,HO,HG⟩:=hrel;obtain⟨wi,rfl⟩:∃wi:World,wi=wr:=⟨_,rfl⟩;have JC:=HG.out.size;by_cases uj:i<ps.length
    ·obtain⟨go,rfl⟩:=l8.out (by omega)
     have mD:i<(gAt lops ps j).length:=by omega
     have atP:=afe oid (gAt lops ps j) i (by omega)
     have FK:segs.length=(tJ oid (gAt lops ps j) i).length:=by omega
     obtain⟨e0,e1⟩:=rowPs_at segs (tJ oid (gAt lops ps j) i) FK i (by omega)
     have e2:(tJ oid (gAt lops ps j) i)[i]'(by omega)=(gAt lops ps j)[i].2:=by
      have:=gsIn_at oid (gAt lops ps j) i mD;rw[List.getElem?_eq_getElem (by omega)] at this
      exact Option.some.inj this
     rw[e2] at e1;have k0:=gD HO.out e0;have k1:=gD HO.out e1;have hgo:=Bh.out go rfl;have hXw:wo.heap.size≠go:=by omega
     have apv:=(Og Bg.out).2.1;have Nt:=yQ HG.out apv (by simp[Value.ownBlock];omega)
     clear apv;have dI:=yc HG1.out HG.out;have GH:Below w.heap.size w wi:=bZ.out.grown dI bZ.out.size (fun k hk=>by have:=(Bh.out k hk).1;omega)
     have Z6:SegAt w (segs[i]'(by omega)) (gAt lops ps j)[i].1 (eF (gAt lops ps j)[i].1):=(Ev.out.gone ((lops.take j).map (fun o:OpL=>o.2.1))) i _ _ (List.getElem?_eq_getElem (by omega)) (List.getElem?_eq_getElem mD)
     have ajc:=(Z6.stays GH).stays (Q.alloc wi (.cells #[.pointer (some ⟨segs[i]'(by omega),0,none⟩),ak (gAt lops ps j)[i].2] 70))
     have Oz:PartOk (gAt lops ps j)[i]:=VP _ _ ni.out _ (List.getElem_mem mD);have Uj:=fun hf=>gsIn_none oid (gAt lops ps j) i mD hf
     have uo:=fun k hf=>gsIn_some oid (gAt lops ps j) i mD k hf
     have wY:=fun x=>rowPs_set segs (tJ oid (gAt lops ps j) i) FK i (by omega) x
     have BI:=ab8 segs (tJ oid (gAt lops ps j) i) FK;change SegAt _ _ (gAt lops ps j)[i].1 (eF (gAt lops ps j)[i].1) at ajc;generalize (gAt lops ps j)[i]=pp at *;obtain⟨ds,gn⟩:=pp;generalize segs[i]'(by omega)=sp at *
     simp only at k1 ajc;have kR:=bN (heap_alloc_new wi (.cells #[.pointer (some ⟨sp,0,none⟩),ak gn] 70));obtain⟨n0,n1⟩:=kR;have aya:=ah (Q.alloc wi (.cells #[.pointer (some ⟨sp,0,none⟩),ak gn] 70)) Nt;have jI:=HO.out.alloc (.cells #[.pointer (some ⟨sp,0,none⟩),ak gn] 70);have vV:=yc HG.out (gb_q (Value.slice (some ⟨go,0,none⟩) ps.length oJ).ownBlock (Q.alloc wi (.cells #[.pointer (some ⟨sp,0,none⟩),ak gn] 70)));have ZN:=DT ds oid;have NA:=fun o hf n=>ahO sp ds (eF ds) oid _ ajc Oz.1.2 o hf n
     have rF:=Hd jI;have SF:=Hd vV;have HFN:=Hd ZN;have HGN:=Hd Uj;have HGM:=Hd uo;have Xb:=Hd wY;have apx:=Hd Oz;have NN:=Hd NA;have Yv:i*2+1<(iQ segs (tJ oid (gAt lops ps j) i)).length:=by omega
     have Dr:=Hd Yv;clear e0 e1 e2 dI GH Z6 ajc Oz Uj uo wY BI Yv jI vV ZN NA Nt atP FK;cases hf:oz ds oid with
     | none =>
      have hq:=NN.out none hf;have Uj:=HGN.out hf;have QF:=Hd hq;have atQ:=Hd Uj;have HF:=Hd hf;clear hq Uj hf;go_wp2_with fail;go_quiet ((go_at_call 38;exact Calls.quiet_of_same (QF.out _)));go_wp2_with fail;go_roundw;case rel=>exact⟨i+1,by go_num,by omega,by show World.ownsRow _ _ _ _ _ _ _;rw[atQ.out];exact rF.out,yc SF.out (gb_q _ (Q.drewN _ _))⟩
      case measure=>simp[intOf];omega
     | some k =>
      have hq:=NN.out (some k) hf;simp only[Option.getD_some,Option.isSome_some] at hq;have uo:=HGM.out k hf;obtain⟨d0,Uo,_⟩:=HFN.out k hf;have xH:k<ds.length:=(List.getElem?_eq_some_iff.1 Uo).1;have apy:gn.length=(ds.length+7) / 8:=apx.out.2.2.2;have ku:ds.length≤500:=apx.out.2.2.1;have cs:=fun W=>set_ok gn k 1 true W (by omega) (by omega)
      have QF:=Hd hq;have atS:=Hd uo;have HF:=Hd hf;have CS:=Hd cs;have Lv:=Hd apy;clear hq uo hf Uo cs apy;go_wp2_with fail;go_quiet ((go_at_call 38;exact Calls.quiet_of_same (QF.out _)));go_wp2_with fail;refine(CS.out _).mono ?_;rintro e w5 ⟨rfl,q5⟩;have o5:=ownsRow_below rF.out ((Q.drewN _ _).trans q5);have k5:w5.cell? ⟨go,i*2+1,none⟩=some (ak gn):=ah ((Q.alloc _ _).trans ((Q.drewN _ _).trans q5)) k1;have f5:=Y8 o5 (i*2+1);have o6:=NY o5 (i*2+1) Dr.out (ak (nR gn k true 1));rw[Xb.out,←atS.out] at o6;have g6:=yc SF.out (yc (gb_q _ ((Q.drewN _ _).trans q5)) (kN w5 go (i*2+1) (ak (nR gn k true 1))));have O6:=Hd o6;have G6:=Hd g6;clear o5 o6 g6 q5;go_wp2_with fail;go_roundw;case rel=>exact⟨i+1,by go_num,by omega,O6,G6⟩
      case measure=>simp[intOf];omega
    ·have Dv:i=ps.length:=by omega
     subst Dv;have GU:=HO.out;rw[←apu,gsIn_all,←R6.out,apu] at GU;have hm7:=Ta.out.kept HG.out (by
      cases hb:u8.ownBlock with
      | none=>exact .inl rfl
      | some g =>
       right;intro e;have x1:=(Ta.out.lt g hb).1;have x2:=(Bh.out g e.symm).2;omega)
     have xB:=yc HG1.out HG.out;obtain⟨d0,d1,d2⟩:=Og Bg.out;have Fv:some wo.heap.size≠(Value.slice ova ps.length oJ).ownBlock:=fun e=>by have:=(Bh.out _ e.symm).2;omega
     have m0:=yQ HG.out d0 Fv;have m1:=yQ HG.out d1 Fv;have m2:=yQ HG.out d2 Fv;have O7:=Hd GU;have M7:=Hd hm7;have G7:=Hd xB;have ada:=xB.size;clear GU hm7 xB d0 d1 d2 Fv HO HG Bg;cases ob with
     | true =>
      have EY:=HMS.out;rw[if_pos rfl,List.append_nil] at EY;have alE:=Hd EY;clear EY;go_wp2_with fail;go_roundw;case rel=>exact⟨j+1,by go_num,by omega,O7,by show World.ownsRow _ _ _ _ _ _ _;rw[alE.out];exact M7.out,G7⟩
      case measure=>simp[intOf];omega
     | false =>
      have EY:=HMS.out;rw[if_neg (by simp)] at EY
      have jM:∀u∈(#[ak oid,ak otx]:Array Value).toList,u.oneCell'=true:=by simp[Value.oneCell']
      have gB:((mAt lops j).length+1)*32≤140737488355328:=by omega
      have nk:=M7.out;have alE:=Hd EY;clear EY;go_wp2_with (at_builtin;go_must (refine cZ wi (by rfl) _ _ 39 (by rfl) w3.heap.size 47 _ idd (.agg #[ak [],ak []]) 2 32 Tryz.underlying39 hid atM atN atO rfl (by decide) (by decide) _ _ _ (by rfl) nk #[ak oid,ak otx] (by rfl) rfl jM gB ada ?_))
      intro g capg W1 vS xI Ov _ _;have apz:u8.ownBlock=none∨(Value.slice ova ps.length oJ).ownBlock≠u8.ownBlock:=by
       cases hb:u8.ownBlock with
       | none=>exact .inl rfl
       | some g =>
        right;intro e;have x1:=(nk.lt g hb).1;have x2:=(Bh.out g e).2;omega
      have o9:W1.ownsRow w1.heap.size 70 2 (.slice ova ps.length oJ) ps.length (iQ segs ((gAt lops ps (j+1)).map (·.2))):=O7.out.kept xI (by
       rcases apz with e|e
       ·rw[e]
        cases hb:(Value.slice ova ps.length oJ).ownBlock with
        | none=>exact .inl rfl
        | some g=>right;simp
       ·exact .inr e)
      have g9:w3.grownBy W1 (Value.slice ova ps.length oJ).ownBlock :=
       ⟨xI.os.trans G7.out.os,xI.tape.trans G7.out.tape,xI.output.trans G7.out.output,Nat.le_trans G7.out.size xI.size,fun k hk aF=>(xI.block k (Nat.lt_of_lt_of_le hk G7.out.size) (fun e=>by
        have x1:=(nk.lt k e.symm).1;omega)).trans (G7.out.block k hk aF)⟩
      have m9:W1.ownsRow w3.heap.size 47 2 (.slice (some ⟨g,0,none⟩) ((mAt lops j).length+1) capg) (mAt lops (j+1)).length (bK (mAt lops (j+1))):=by
       rw[alE.out,DY,List.length_append];exact vS
      have O9:=Hd o9;have G9:=Hd g9;have M9:=Hd m9;clear o9 g9 m9 vS xI Ov nk apz;go_wp2_with fail;go_roundw;case rel=>exact⟨j+1,by go_num,by omega,O9,M9,G9⟩
      case measure=>simp[intOf];omega
  ·have qh:j=lops.length:=by omega
   subst qh;have ho:=HO.out;have hm:=HM.out;rw[←am6.out] at ho;rw[←ajb.out] at hm;have AA:(iq (nI ops) ps).length=ps.length:=Ae _ _;have GH:Below w.heap.size w wo:=bZ.out.grown HG.out bZ.out.size (fun k hk=>by have:=(Bh.out k hk).1;omega)
   have Fv:some (w.heap.size+1)≠(Value.slice ova ps.length oJ).ownBlock:=fun e=>by have:=(Bh.out _ e.symm).1;omega
   have b5:Boxed wo (w.heap.size+1) 31 (.slice none 0 0):=B3.out.kept HG.out Fv;have apA:=(Ev.out.gone (nI ops)).stays GH;have ET:(bq ops).length≤50:=by
    rw[ajb.out];have:=mAt_len lops lops.length;omega
   have atT:w1.heap.size≤wo.heap.size:=by omega
   have EM:=Hd ho;have Q7:=Hd hm;have Et:=Hd GH;have B5:=Hd b5;have ayb:=Hd apA;clear ho hm GH Fv b5 apA HO HM HG am6 ajb B3;have EG:=idx_eq (bq ops);have rG:bG (bq ops)=if bq ops=[] then([],[]) else([(bq ops,jr (bq ops).length)],jV (bq ops) (eF (bq ops))):=by unfold bG;rw[EG]
   clear EG;obtain⟨ma,mcap,Nz,_⟩:=aT Q7.out;obtain⟨ml,ai6⟩:∃ml,ml=bq ops:=⟨_,rfl⟩;rw[←ai6] at rG Q7 ET Vm Nz;have ajd:=Hd ai6;have QW:=Hd rG;clear rG ai6;by_cases nQ:ml=[]
   ·subst nQ
    have rG:=QW.out;rw[if_pos rfl] at rG;have adP:=Hd rG;clear rG;subst Nz;have cfn:=fun W=>WB ma mcap W
    have ho:=EM.out;have gN:Sl wo (.slice none 0 0) 0 2 []:=Sl.nil wo 2;have jM:∀u∈([]:List Value),u.oneCell'=true:=by simp
    have ru:ps.length+0≤maxLen:=by unfold maxLen;omega
    have gB:(ps.length+0)*24≤140737488355328:=by omega
    go_wp2_with fail;refine(cfn _).mono ?_;rintro e w6 ⟨rfl,rfl⟩;go_wp2_with (at_builtin;go_must (refine jq wo (by rfl) _ _ 29 (by rfl) w1.heap.size 70 ip (.agg #[.pointer none,ak []]) 2 24 Tryz.underlying29 BN vG vH vI rfl (by decide) _ _ _ (by rfl) ho _ _ _ (by rfl) gN jM ru gB atT ?_))
    intro v' w7 GU xB OA;obtain⟨xa,kT,rfl,_⟩:=aT GU;have Fv:some (w.heap.size+1)≠(Value.slice ova ps.length oJ).ownBlock:=fun e=>by have:=(Bh.out _ e.symm).1;omega
    have b7:=B5.out.kept xB Fv;have c7:=b7.cell;have f7:=b7.frozen;have zn:Below w.heap.size w w7:=Et.out.grown xB Et.out.size (fun k hk=>by have:=(Bh.out k hk).1;omega)
    have adQ:=(Ev.out.gone (nI ops)).stays zn;have yH:PartsAt w7 (.slice xa ps.length kT) (iq (nI ops) ps):=PartsAt.owns segs (by omega) adQ (by rw[AA];exact GU)
    have sS:=PartsAt.setBox b7 (.slice xa ps.length kT) yH (by decide)
    have r7:=(b7.set (.slice xa ps.length kT)).cell;have BR:=Hd sS;have vY:=Hd zn;have R7:=Hd r7;clear yH sS zn adQ b7 GU xB OA Fv r7 ho gN;go_wp2_with fail;refine bodyPost_ret (v:=.tuple #[iP (.slice xa ps.length kT),ak [],.int .i64 0]) (by simp[results,Tryz.results14,go_sem,R7.out]) rfl ⟨⟨.slice xa ps.length kT,by rw[←ajd.out,adP.out],by rw[←ajd.out,adP.out,List.append_nil];exact BR.out⟩,vY.out.setCell (by simp) _⟩
   ·have rG:=QW.out
    rw[if_neg nQ] at rG;have jZ:¬(ml.length<1∨500<ml.length):=by have:=List.length_pos_iff.2 nQ;omega
    have cf:=WA u8 ml wo (Sl.of_owns Q7.out) jZ Vm.out (HT.out.stays Et.out) (nX.out.stays Et.out);have adP:=Hd rG;have CF:=Hd cf;clear rG cf jZ nQ;subst Nz;go_wp2_with fail;refine CF.out.mono ?_;rintro e w6 ⟨⟨g,p,rfl,OV,nW⟩,q6⟩;have ho:=ownsRow_below EM.out q6;have jM:=uO [(p,jr ml.length)];have ru:ps.length+1≤maxLen:=by unfold maxLen;omega
    have gB:(ps.length+1)*24≤140737488355328:=by omega
    have apB:=Et.out.trans (Below.mono q6 Et.out.size);have tq:=q6.size;have atU:w1.heap.size≤w6.heap.size:=by omega
    have b6:Boxed w6 (w.heap.size+1) 31 (.slice none 0 0):=aB q6 B5.out;have HPT:=Hd OV;have z8:=Hd nW;have apC:=Hd apB;have B6:=Hd b6;have Ri:Sl w6 (.slice (some ⟨g,0,none⟩) 1 1) 1 2 (iU [(p,jr ml.length)]):=OV;clear OV nW apB b6 q6 CF;go_wp2_with (at_builtin;go_must (refine jq w6 (by rfl) _ _ 29 (by rfl) w1.heap.size 70 ip (.agg #[.pointer none,ak []]) 2 24 Tryz.underlying29 BN vG vH vI rfl (by decide) _ _ _ (by rfl) ho _ _ _ (by rfl) Ri jM ru gB atU ?_))
    intro v' w7 GU xB OA;obtain⟨xa,kT,rfl,_⟩:=aT GU;have Fv:some (w.heap.size+1)≠(Value.slice ova ps.length oJ).ownBlock:=fun e=>by have:=(Bh.out _ e.symm).1;omega
    have b7:=B6.out.kept xB Fv;have c7:=b7.cell;have f7:=b7.frozen;have zn:Below w.heap.size w w7:=apC.out.grown xB apC.out.size (fun k hk=>by have:=(Bh.out k hk).1;omega)
    have adQ:=(Ev.out.gone (nI ops)).stays zn;have apD:SegAt w7 p ml (eF ml):=z8.out.kept xB (fun X e=>by obtain⟨cs,hc⟩:=jE ho X e;exact⟨cs,_,_,hc,by decide,by decide⟩)
    have apE:SegsAt w7 (segs++[p]) (iq (nI ops) ps++[(ml,jr ml.length)]):=by
     intro i x q hx hq;by_cases hi:i<segs.length
     ·rw[List.getElem?_append_left hi] at hx
      rw[List.getElem?_append_left (by omega)] at hq
      exact adQ i x q hx hq
     ·rw[List.getElem?_append_right (by omega)] at hx
      rw[List.getElem?_append_right (by omega),AA,←bY] at hq
      cases mD:i-segs.length with
      | zero=>rw[mD] at hx hq;simp at hx hq;subst hx;subst hq;exact apD
      | succ k=>rw[mD] at hx;simp at hx
    have dR:iQ (segs++[p]) ((iq (nI ops) ps++[(ml,jr ml.length)]).map (·.2))=iQ segs ((iq (nI ops) ps).map (·.2))++[.pointer (some ⟨p,0,none⟩),ak (jr ml.length)]:=by
     rw[List.map_append,zH _ _ _ _ (by simp;omega)];rfl
    have yH:PartsAt w7 (.slice xa (ps.length+1) kT) (iq (nI ops) ps++[(ml,jr ml.length)]):=PartsAt.owns (base:=w1.heap.size) (segs++[p]) (by simp;omega) apE (by rw[dR,List.length_append,AA];exact GU)
    have sS:=PartsAt.setBox b7 (.slice xa (ps.length+1) kT) yH (by decide)
    have r7:=(b7.set (.slice xa (ps.length+1) kT)).cell;have BR:=Hd sS;have vY:=Hd zn;have R7:=Hd r7;clear yH sS zn adQ b7 GU xB OA Fv r7 ho Ri apD apE dR;go_wp2_with fail;refine bodyPost_ret (v:=.tuple #[iP (.slice xa (ps.length+1) kT),ak (jV ml (eF ml)),.int .i64 0]) (by simp[results,Tryz.results14,go_sem,R7.out]) rfl ⟨⟨.slice xa (ps.length+1) kT,by rw[←ajd.out,adP.out],by rw[←ajd.out,adP.out];exact BR.out⟩,vY.out.setCell (by simp) _⟩
theorem P5(v:Value)(ps:List aG)(vo:Value)(ops:List OpL)(w:World)(hv:PartsAt w v ps)(nL:Ops w vo ops)(zX:ops.length≤1000000)(hl:∀o∈ops,o.2.1.length≤9223372036854775807∧o.2.2.length≤9223372036854775807)
  (hn:ps.length≤1000000) (bD:∀p∈ps,PartOk p) (hT:Tabs w) (gG:Spans w) :
  Calls Tryz.prog 14 #[iP v,vo] w fun e w'=>(∃v',e=.returned (.tuple #[iP v',ak (fB ps ops).2.1,.int .i64 (fB ps ops).2.2])∧PartsAt w' v' (fB ps ops).1)∧Q w w':=by
 by_cases h:ops.length<1∨50<ops.length
 ·have e:fB ps ops=(ps,[],6):=by unfold fB;rw[if_pos h]
  rw[e];obtain⟨a,cap,rfl,_⟩:=hv.value;obtain⟨oa,oc,rfl,_⟩:=nL.value;refine(ahN a ps.length cap oa ops.length oc w h zX).mono ?_;rintro e w' ⟨rfl,q⟩;exact⟨⟨_,rfl,hv.stays q⟩,q⟩
 ·cases hr:ops.all dZ with
  | true =>
   have e:fB ps ops=(iq (nI ops) ps++(bG (bq ops)).1,(bG (bq ops)).2,0):=by unfold fB;rw[if_neg h,if_pos hr]
   rw[e];exact Apply_run v ps vo ops w hv nL h hl hn bD hT gG hr
  | false =>
   have e:fB ps ops=(ps,[],1):=by unfold fB;rw[if_neg h,if_neg (by rw[hr];simp)]
   rw[e];obtain⟨a,cap,rfl,_⟩:=hv.value;refine(Apply_arg a ps.length cap vo ops w nL h hl hT hr).mono ?_;rintro e w' ⟨rfl,q⟩;exact⟨⟨_,rfl,hv.stays q⟩,q⟩
theorem aff(l:List OpL)(h:(l.all fun o=>decide (o.2.1.length≤1000)&&decide (o.2.2.length≤1000))=true):∀o∈l,o.2.1.length≤9223372036854775807∧o.2.2.length≤9223372036854775807:=by
 intro o ho;have:=List.all_eq_true.1 h o ho;simp only[Bool.and_eq_true,decide_eq_true_eq] at this;omega
theorem D9(w:World):PartsAt w (.slice none 0 0) []:=⟨⟨[],Sl.nil _ _,rfl,fun i r p hr hp=>by simp at hr⟩,fun a n c e=>by cases e;exact Nat.le_refl _⟩
theorem qrys_two(w:World)(k1 k2:Int)(s1 s2:Bytes)(t:TypeId):QrysAt (w.alloc (.cells #[.int .i64 k1,ak s1,.slice none 0 0,.slice none 0 0,.slice none 0 0,.int .i64 k2,ak s2,.slice none 0 0,.slice none 0 0,.slice none 0 0] t)) (.slice (some ⟨w.heap.size,0,none⟩) 2 2) [.mk k1 s1 [] [] [],.mk k2 s2 [] [] []]:=by
 have hb:=Blk.new w t #[.int .i64 k1,ak s1,.slice none 0 0,.slice none 0 0,.slice none 0 0,.int .i64 k2,ak s2,.slice none 0 0,.slice none 0 0,.slice none 0 0];refine⟨_,_,rfl,fun _=>⟨_,_,rfl,?_⟩⟩
 unfold QcellsAt;refine⟨⟨_,_,_,_,_,⟨hb.cell 0 _ rfl,hb.cell 1 _ rfl,hb.cell 2 _ rfl,hb.cell 3 _ rfl,hb.cell 4 _ rfl⟩,yC _ _ _⟩,?_⟩;unfold QcellsAt;refine⟨⟨_,_,_,_,_,⟨hb.cell 5 _ rfl,hb.cell 6 _ rfl,hb.cell 7 _ rfl,hb.cell 8 _ rfl,hb.cell 9 _ rfl⟩,yC _ _ _⟩,?_⟩;unfold QcellsAt;trivial
theorem qrys_one(w:World)(k1:Int)(s1:Bytes)(t:TypeId):QrysAt (w.alloc (.cells #[.int .i64 k1,ak s1,.slice none 0 0,.slice none 0 0,.slice none 0 0] t)) (.slice (some ⟨w.heap.size,0,none⟩) 1 1) [.mk k1 s1 [] [] []]:=by
 have hb:=Blk.new w t #[.int .i64 k1,ak s1,.slice none 0 0,.slice none 0 0,.slice none 0 0];refine⟨_,_,rfl,fun _=>⟨_,_,rfl,?_⟩⟩
 unfold QcellsAt;refine⟨⟨_,_,_,_,_,⟨hb.cell 0 _ rfl,hb.cell 1 _ rfl,hb.cell 2 _ rfl,hb.cell 3 _ rfl,hb.cell 4 _ rfl⟩,yC _ _ _⟩,?_⟩;unfold QcellsAt;trivial
theorem MP(w:World)(hT:Tabs w)(gG:Spans w):Calls Tryz.prog 4 #[] w fun e w'=>e=.returned (.bool true)∧Q w w':=by
 have HT:=Hd hT;have nX:=Hd gG;clear hT gG;go_enter Tryz.func4,Tryz.ntmps4;go_wp2_with fail;refine(PZ [120] [102,111,120,32,102,111,120,32,100,111,103] _).mono ?_;rintro e w1 ⟨rfl,q1⟩;have aC:=Hd q1;clear q1;go_wp2_with fail;refine(PZ [121] [102,111,120] _).mono ?_;rintro e w2 ⟨rfl,q2⟩;have aS:=Hd (aC.out.trans q2);clear q2;go_wp2_with fail;refine(PZ [122] [99,97,116] _).mono ?_;rintro e w3 ⟨rfl,q3⟩;have tX:=aS.out.trans q3;have Vk:Ops (w3.alloc (.cells #[.bool false,ak [120],ak [102,111,120,32,102,111,120,32,100,111,103],.bool false,ak [121],ak [102,111,120],.bool false,ak [122],ak [99,97,116]] 49)) (.slice (some ⟨w3.heap.size,0,none⟩) 3 3) sxO:=Sl.lit w3 _ _ 3 3 rfl;have KR:=tX.trans (Q.alloc w3 (.cells #[.bool false,ak [120],ak [102,111,120,32,102,111,120,32,100,111,103],.bool false,ak [121],ak [102,111,120],.bool false,ak [122],ak [99,97,116]] 49));have c:=P5 _ [] _ sxO _ (D9 _) Vk (by decide) (aff _ (by decide)) (by decide) (by simp) (HT.out.stays KR) (nX.out.stays KR)
 rw[ab6] at c;have C:=Hd c;have pF:=Hd KR;clear c Vk tX KR q3 aC aS;go_wp2_with fail;refine C.out.mono ?_;rintro e w5 ⟨⟨v1,rfl,xw⟩,q5⟩;have AX:=pF.out.trans q5;obtain⟨a1,c1,rfl,sQ⟩:=xw.value;generalize jV sxD (Ci sxD)=S1 at *;have rC:=Q.alloc w5 (.cells #[.slice a1 1 c1] 31);have dS:Boxed (w5.alloc (.cells #[.slice a1 1 c1] 31)) w5.heap.size 31 (.slice a1 1 c1):=Boxed.new _ _ _;have HB:=Hd dS;have HQ:=Hd (AX.trans rC);have HP:=Hd (xw.stays rC);generalize hX:w5.heap.size=X at *;clear AX q5 xw sQ rC dS C pF;simp only[List.length_cons,List.length_nil,Nat.zero_add] at *;go_wp2_with fail;obtain⟨wz,xV⟩:∃wz,wz=(w5.alloc (.cells #[.slice a1 1 c1] 31)):=⟨_,rfl⟩;rw[←xV] at HB HQ HP ⊢;have Od:=HP;have Ow:=Hd (HT.out.stays HQ.out);have adS:=Hd (nX.out.stays HQ.out);have HZ:=Hd (Q.refl wz);clear xV;refine sh_row4 wz wz X a1 c1 HZ.out (Boxed.cell (aB HZ.out HB.out)) Od.out Ow.out adS.out _ _ _ _ _ _ _ _ _ _ _ _ _ _ _ _ _ _ _ _ _ _ _ _ _ _ _ _ _ _ _ _ _ _ _ _ _ _ _ _ _ _ _ _ _ _ _ _ _ _ _ _ _ _ _ _ _ _ _ _ _ _ _ _ _ _ _ _ _ _ _ _ _ _ _ _ _ _ _ _ _ _ _ _ _ _ _ _ _ _ _ ?_;rintro W4 z4_0 z4_1 z4_2 z4_3 z4_4 z4_5 z4_6 q4;have HZ4:=Hd (HZ.out.trans q4);clear q4;go_wp2_with fail;refine sh_row5 wz W4 X a1 c1 HZ4.out (Boxed.cell (aB HZ4.out HB.out)) Od.out Ow.out adS.out _ _ _ _ _ _ _ _ _ _ _ _ _ _ _ _ _ _ _ _ _ _ _ _ _ _ _ _ _ _ _ _ _ _ _ _ _ _ _ _ _ _ _ _ _ _ _ _ _ _ _ _ _ _ _ _ _ _ _ _ _ _ _ _ _ _ _ _ _ _ _ _ _ _ _ _ _ _ _ _ _ _ _ _ _ _ _ _ _ _ _ ?_;rintro W5 z5_0 z5_1 z5_2 z5_3 z5_4 z5_5 q5;have rA:=Hd (HZ4.out.trans q5);clear q5;go_wp2_with fail;refine sh_row6 wz W5 X a1 c1 rA.out (Boxed.cell (aB rA.out HB.out)) Od.out Ow.out adS.out _ _ _ _ _ _ _ _ _ _ _ _ _ _ _ _ _ _ _ _ _ _ _ _ _ _ _ _ _ _ _ _ _ _ _ _ _ _ _ _ _ _ _ _ _ _ _ _ _ _ _ _ _ _ _ _ _ _ _ _ _ _ _ _ _ _ _ _ _ _ _ _ _ _ _ _ _ _ _ _ _ _ _ _ _ _ _ _ _ _ _ ?_;rintro W6 z6_0 z6_1 z6_2 z6_3 z6_4 z6_5 q6;have J2:=Hd (rA.out.trans q6);clear q6;go_wp2_with fail;refine sh_row7 wz W6 X a1 c1 J2.out (Boxed.cell (aB J2.out HB.out)) Od.out Ow.out adS.out _ _ _ _ _ _ _ _ _ _ _ _ _ _ _ _ _ _ _ _ _ _ _ _ _ _ _ _ _ _ _ _ _ _ _ _ _ _ _ _ _ _ _ _ _ _ _ _ _ _ _ _ _ _ _ _ _ _ _ _ _ _ _ _ _ _ _ _ _ _ _ _ _ _ _ _ _ _ _ _ _ _ _ _ _ _ _ _ _ _ _ ?_;rintro W7 z7_0 z7_1 z7_2 z7_3 z7_4 z7_5 z7_6 z7_7 q7;have HZ7:=Hd (J2.out.trans q7);clear q7;go_wp2_with fail;refine(oZ 2 [102,111,120] _).mono ?_;rintro e v1 ⟨rfl,q1⟩;have EA:=Hd (HZ7.out.trans q1);clear q1;go_wp2_with fail;refine(oZ 2 [99,97,116] _).mono ?_;rintro e v2 ⟨rfl,q2⟩;have om:=Hd (EA.out.trans q2);clear q2 EA;have hm:=qrys_two v2 2 2 [102,111,120] [99,97,116] 25;have ow:=Q.alloc v2 (.cells #[.int .i64 2,ak [102,111,120],.slice none 0 0,.slice none 0 0,.slice none 0 0,.int .i64 2,ak [99,97,116],.slice none 0 0,.slice none 0 0,.slice none 0 0] 25);have HM:=Hd hm;have HV3:=Hd (om.out.trans ow);clear hm ow om;go_wp2_with fail;refine(oZ 2 [100,111,103] _).mono ?_;rintro e v4 ⟨rfl,q4⟩;have hn:=qrys_one v4 2 [100,111,103] 25;have xC:=Q.alloc v4 (.cells #[.int .i64 2,ak [100,111,103],.slice none 0 0,.slice none 0 0,.slice none 0 0] 25);have JN:=Q.alloc (v4.alloc (.cells #[.int .i64 2,ak [100,111,103],.slice none 0 0,.slice none 0 0,.slice none 0 0] 25)) (.cells #[.int .i64 5,ak [],.slice none 0 0,.slice (some ⟨v2.heap.size,0,none⟩) 2 2,.slice (some ⟨v4.heap.size,0,none⟩) 1 1] 25);have AX:=(HV3.out.trans q4).trans (xC.trans JN);have apG:QryAt _ sxQ (.agg #[.int .i64 5,ak [],.slice none 0 0,.slice (some ⟨v2.heap.size,0,none⟩) 2 2,.slice (some ⟨v4.heap.size,0,none⟩) 1 1]):=QryAt.mk' (QrysAt.nil _) ((HM.out.stays q4).stays (xC.trans JN)) (hn.stays JN);have c:=kD _ (.slice a1 1 c1) sxP sxQ _ (Od.out.stays AX) sx_ok (by decide) apG (by decide +kernel) (by decide +kernel) (Ow.out.stays AX) (adS.out.stays AX)
 rw[sx_5] at c;have k0:(((v4.alloc (.cells #[.int .i64 2,ak [100,111,103],.slice none 0 0,.slice none 0 0,.slice none 0 0] 25)).alloc (.cells #[.int .i64 5,ak [],.slice none 0 0,.slice (some ⟨v2.heap.size,0,none⟩) 2 2,.slice (some ⟨v4.heap.size,0,none⟩) 1 1] 25))).cell? ⟨X,0,none⟩=some (.slice a1 1 c1):=Boxed.cell (aB AX HB.out);have C:=Hd c;have HV5:=Hd AX;clear c AX apG hn xC JN q4 HM HV3;go_wp2_with fail;refine C.out.mono ?_;rintro e v6 ⟨sv,rfl,hh,q6⟩;obtain⟨sa,sc,rfl,_⟩:=hh.value;have HV6:=Hd (HV5.out.trans q6);have cs:=xE _ (.slice (some ⟨v6.heap.size,0,none⟩) 2 2) [([122],2),([121],1)] _ (hh.stays (Q.alloc v6 (.cells #[ak [122],.int .i64 2,ak [121],.int .i64 1] 54))) (Hits.lit (x:=v6) #[ak [122],.int .i64 2,ak [121],.int .i64 1] 54 rfl rfl (Q.refl _)) (by decide)
 have CS:=Hd cs;have HV7:=Hd (HV6.out.trans (Q.alloc v6 (.cells #[ak [122],.int .i64 2,ak [121],.int .i64 1] 54)));clear cs hh q6 C HV5 HV6 k0;go_wp2_with fail;refine CS.out.mono ?_;rintro e v8 ⟨rfl,q8⟩;have HV8:=Hd ((HQ.out.trans HV7.out).trans q8);clear q8 CS HV7;have w31:qY 3 1=2:=by decide +kernel
 have w32:qY 3 2=1:=by decide +kernel
 have w81:qY 8 1=4:=by decide +kernel
 have w01:qY 0 1=0:=by decide +kernel
 have cw31:=fun W=>Ah 3 1 W (by omega) (by omega) (by omega) (by omega)
 have cw32:=fun W=>Ah 3 2 W (by omega) (by omega) (by omega) (by omega)
 have cw81:=fun W=>Ah 8 1 W (by omega) (by omega) (by omega) (by omega)
 have cw01:=fun W=>Ah 0 1 W (by omega) (by omega) (by omega) (by omega)
 rw[w31] at cw31;rw[w32] at cw32;rw[w81] at cw81;rw[w01] at cw01;have CA:=Hd cw31;have CB:=Hd cw32;have CC:=Hd cw81;have CD:=Hd cw01;clear cw31 cw32 cw81 cw01 w31 w32 w81 w01;go_wp2_with (first|(go_at_call 12;(with_reducible refine(CA.out _).mono ?_);rintro e w' ⟨rfl,rfl⟩)|(go_at_call 12;(with_reducible refine(CB.out _).mono ?_);rintro e w' ⟨rfl,rfl⟩)|(go_at_call 12;(with_reducible refine(CC.out _).mono ?_);rintro e w' ⟨rfl,rfl⟩)|(go_at_call 12;(with_reducible refine(CD.out _).mono ?_);rintro e w' ⟨rfl,rfl⟩))
 go_ret;exact⟨rfl,HV8.out⟩
end
end Go.Proofs.YthijhicdmnoifaaGreatDoor
