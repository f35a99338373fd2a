/- Joined texts of one proof: what is needed of WRef4b, WRef4c, WRef4d, WJrnE. -/
import Derived.Test.YthcpkgfieoneeaaGreatDoorJPWRef4a
import Derived.Test.YthcpkgfieoneeaaGreatDoorJPWJrnF
import Derived.Test.YthcpkgfieoneeaaGreatDoorJPWJrnB
set_option linter.unusedSimpArgs false
set_option linter.unusedVariables false
set_option linter.unnecessarySimpa false
set_option maxRecDepth 100000
set_option maxHeartbeats 16000000
namespace Go.Proofs.YthcpkgfieoneeaaGreatDoor
section
open Go.RowKit
theorem Qs.le{A B:World}(h:Q A B):A.heap.size≤B.heap.size:=Below.size h
theorem RRead4_any(t:Bytes)(n:Nat)(ht:t.length=256)(hn:n≤4096)(w:World):
  Calls Tryz.prog 119 #[strV t,.int .i64 (n:Nat)] w fun e w'=>(∃s0:SlotL,e=.returned (.tuple #[.agg #[.int .u64 (s0.e:Nat),.int .u64 (s0.s:Nat),.int .i64 (s0.log:Nat),.int .i64 (s0.place:Nat)],.bool (toSlotL t n).isSome])∧∀s,toSlotL t n=some s→s=s0)∧Q w w':=by
 have c1:=fun (W:World)=>RToFixed_any (t.drop 20) W (by rw[List.length_drop];omega) (by rw[List.length_drop];omega)
 have c2:=fun (W:World)=>RToFixed_any (t.drop 24) W (by rw[List.length_drop];omega) (by rw[List.length_drop];omega)
 have c3:=fun (W:World)=>RLong_any (t.drop 4) W (by rw[List.length_drop];omega) (by rw[List.length_drop];omega)
 have c4:=fun (W:World)=>RLong_any (t.drop 12) W (by rw[List.length_drop];omega) (by rw[List.length_drop];omega)
 have d1:({ data:=t.toArray }:ByteArray).extract 20 t.length=⟨(t.drop 20).toArray⟩:=bytes_drop t 20
 have d2:({ data:=t.toArray }:ByteArray).extract 24 t.length=⟨(t.drop 24).toArray⟩:=bytes_drop t 24
 have d3:({ data:=t.toArray }:ByteArray).extract 4 t.length=⟨(t.drop 4).toArray⟩:=bytes_drop t 4
 have d4:({ data:=t.toArray }:ByteArray).extract 12 t.length=⟨(t.drop 12).toArray⟩:=bytes_drop t 12
 have i4:(4:Int)≤(t.length:Int):=by omega
 have i12:(12:Int)≤(t.length:Int):=by omega
 have i20:(20:Int)≤(t.length:Int):=by omega
 have i24:(24:Int)≤(t.length:Int):=by omega
 have l1:=unfix_lt (t.drop 20);have l2:=unfix_lt (t.drop 24)
 have hsl:slotOf t=⟨longL (t.drop 4),longL (t.drop 12),unfix (t.drop 20),unfix (t.drop 24)⟩:=by
  unfold slotOf longL;simp only[List.drop_drop]
 have hts:toSlotL t n=if 50≤(slotOf t).log∧(slotOf t).log+3≤n∧(slotOf t).place<(slotOf t).log∧slotT (slotOf t)=t then some (slotOf t) else none:=rfl
 have hso:=slotOf_ok t
 rw[hsl] at hts hso
 simp only at hts
 have hw3:IntKind.i64.wrap ((n:Int)-3)=(n:Int)-3:=IntWalk.i64_in _ (by omega)
 generalize longL (t.drop 4)=ee at *
 generalize longL (t.drop 12)=ss at *
 generalize unfix (t.drop 20)=u4 at *
 generalize unfix (t.drop 24)=u5 at *
 generalize (t.drop 20).drop 4=r4 at *
 generalize (t.drop 24).drop 4=r5 at *
 have C1:=Lib.hid c1;have C2:=Lib.hid c2;have C3:=Lib.hid c3;have C4:=Lib.hid c4;have HTS:=Lib.hid hts;have HSO:=Lib.hid hso
 clear c1 c2 c3 c4 hts hso hsl ht
 by_cases h50:u4<50
 ·have e1:(u4:Int)<50:=by omega
  have hno:toSlotL t n=none:=by rw[HTS.out,if_neg (fun h=>by have:=h.1;omega)]
  have HNO:=Lib.hid hno
  clear hno
  go_enter Tryz.func119,Tryz.ntmps119
  go_upto_region 1 with fail
  have hb0:=Blk.new w 122 #[.int .u64 0,.int .u64 0,.int .i64 0,.int .i64 0]
  have hq0:=Q.alloc w (.cells #[.int .u64 0,.int .u64 0,.int .i64 0,.int .i64 0] 122)
  generalize w.alloc (.cells #[.int .u64 0,.int .u64 0,.int .i64 0,.int .i64 0] 122)=w1 at *
  have HB0:=Lib.hid hb0;have HQ0:=Lib.hid hq0
  clear hb0 hq0
  go_wp2_with fail
  refine(C1.out _).mono ?_
  rintro e w2 ⟨rfl,q2⟩
  go_wp2_with fail
  refine(C2.out _).mono ?_
  rintro e w3 ⟨rfl,q3⟩
  have hb3:=HB0.out.stays (q2.trans q3)
  obtain⟨c0,c1,c2,c3,f0,f1,f2,f3⟩:=hb3.c4
  have HB3:=Lib.hid hb3;have HQ3:=Lib.hid (HQ0.out.trans (q2.trans q3))
  clear hb3 q2 q3
  go_wp2_with fail
  refine bodyPost_ret (results_ct rfl _ _ w.heap.size 122 _ (0,0) _ rfl (box4 HB3.out (.int .u64 ((0:Nat):Int)) (.int .u64 ((0:Nat):Int)) (.int .i64 ((0:Nat):Int)) (.int .i64 ((0:Nat):Int))) Tryz.underlying122 rfl (by kernel_rfl)) rfl ?_
  refine⟨⟨⟨0,0,0,0⟩,?_,fun s hs=>?_⟩,?_⟩
  ·rw[HNO.out];rfl
  ·rw[HNO.out] at hs;exact absurd hs (by simp)
  ·exact Qs.st (Qs.st (Qs.st (Qs.st HQ3.out _ _ (Nat.le_refl _)) _ _ (Nat.le_refl _)) _ _ (Nat.le_refl _)) _ _ (Nat.le_refl _)
 have e1:¬(u4:Int)<50:=by omega
 by_cases h41:4096<u4
 ·have e2:(4096:Int)<(u4:Int):=by omega
  have hno:toSlotL t n=none:=by rw[HTS.out,if_neg (fun h=>by have:=h.2.1;omega)]
  have HNO:=Lib.hid hno
  clear hno
  go_enter Tryz.func119,Tryz.ntmps119
  go_upto_region 1 with fail
  have hb0:=Blk.new w 122 #[.int .u64 0,.int .u64 0,.int .i64 0,.int .i64 0]
  have hq0:=Q.alloc w (.cells #[.int .u64 0,.int .u64 0,.int .i64 0,.int .i64 0] 122)
  generalize w.alloc (.cells #[.int .u64 0,.int .u64 0,.int .i64 0,.int .i64 0] 122)=w1 at *
  have HB0:=Lib.hid hb0;have HQ0:=Lib.hid hq0
  clear hb0 hq0
  go_wp2_with fail
  refine(C1.out _).mono ?_
  rintro e w2 ⟨rfl,q2⟩
  go_wp2_with fail
  refine(C2.out _).mono ?_
  rintro e w3 ⟨rfl,q3⟩
  have hb3:=HB0.out.stays (q2.trans q3)
  obtain⟨c0,c1,c2,c3,f0,f1,f2,f3⟩:=hb3.c4
  have HB3:=Lib.hid hb3;have HQ3:=Lib.hid (HQ0.out.trans (q2.trans q3))
  clear hb3 q2 q3
  go_wp2_with fail
  refine bodyPost_ret (results_ct rfl _ _ w.heap.size 122 _ (0,0) _ rfl (box4 HB3.out (.int .u64 ((0:Nat):Int)) (.int .u64 ((0:Nat):Int)) (.int .i64 ((0:Nat):Int)) (.int .i64 ((0:Nat):Int))) Tryz.underlying122 rfl (by kernel_rfl)) rfl ?_
  refine⟨⟨⟨0,0,0,0⟩,?_,fun s hs=>?_⟩,?_⟩
  ·rw[HNO.out];rfl
  ·rw[HNO.out] at hs;exact absurd hs (by simp)
  ·exact Qs.st (Qs.st (Qs.st (Qs.st HQ3.out _ _ (Nat.le_refl _)) _ _ (Nat.le_refl _)) _ _ (Nat.le_refl _)) _ _ (Nat.le_refl _)
 have e2:¬(4096:Int)<(u4:Int):=by omega
 by_cases hln:u4+3≤n
 case neg =>
  have e3:(n:Int)-3<(u4:Int):=by omega
  have hno:toSlotL t n=none:=by rw[HTS.out,if_neg (fun h=>hln h.2.1)]
  have HNO:=Lib.hid hno
  clear hno
  go_enter Tryz.func119,Tryz.ntmps119
  go_upto_region 1 with fail
  have hb0:=Blk.new w 122 #[.int .u64 0,.int .u64 0,.int .i64 0,.int .i64 0]
  have hq0:=Q.alloc w (.cells #[.int .u64 0,.int .u64 0,.int .i64 0,.int .i64 0] 122)
  generalize w.alloc (.cells #[.int .u64 0,.int .u64 0,.int .i64 0,.int .i64 0] 122)=w1 at *
  have HB0:=Lib.hid hb0;have HQ0:=Lib.hid hq0
  clear hb0 hq0
  go_wp2_with fail
  refine(C1.out _).mono ?_
  rintro e w2 ⟨rfl,q2⟩
  go_wp2_with fail
  refine(C2.out _).mono ?_
  rintro e w3 ⟨rfl,q3⟩
  have hb3:=HB0.out.stays (q2.trans q3)
  obtain⟨c0,c1,c2,c3,f0,f1,f2,f3⟩:=hb3.c4
  have HB3:=Lib.hid hb3;have HQ3:=Lib.hid (HQ0.out.trans (q2.trans q3))
  clear hb3 q2 q3
  go_wp2_with fail
  refine bodyPost_ret (results_ct rfl _ _ w.heap.size 122 _ (0,0) _ rfl (box4 HB3.out (.int .u64 ((0:Nat):Int)) (.int .u64 ((0:Nat):Int)) (.int .i64 ((0:Nat):Int)) (.int .i64 ((0:Nat):Int))) Tryz.underlying122 rfl (by kernel_rfl)) rfl ?_
  refine⟨⟨⟨0,0,0,0⟩,?_,fun s hs=>?_⟩,?_⟩
  ·rw[HNO.out];rfl
  ·rw[HNO.out] at hs;exact absurd hs (by simp)
  ·exact Qs.st (Qs.st (Qs.st (Qs.st HQ3.out _ _ (Nat.le_refl _)) _ _ (Nat.le_refl _)) _ _ (Nat.le_refl _)) _ _ (Nat.le_refl _)
 have e3:¬(n:Int)-3<(u4:Int):=by omega
 by_cases hpl:u5<u4
 case neg =>
  have e4:(u4:Int)≤(u5:Int):=by omega
  have hno:toSlotL t n=none:=by rw[HTS.out,if_neg (fun h=>hpl h.2.2.1)]
  have HNO:=Lib.hid hno
  clear hno
  go_enter Tryz.func119,Tryz.ntmps119
  go_upto_region 1 with fail
  have hb0:=Blk.new w 122 #[.int .u64 0,.int .u64 0,.int .i64 0,.int .i64 0]
  have hq0:=Q.alloc w (.cells #[.int .u64 0,.int .u64 0,.int .i64 0,.int .i64 0] 122)
  generalize w.alloc (.cells #[.int .u64 0,.int .u64 0,.int .i64 0,.int .i64 0] 122)=w1 at *
  have HB0:=Lib.hid hb0;have HQ0:=Lib.hid hq0
  clear hb0 hq0
  go_wp2_with fail
  refine(C1.out _).mono ?_
  rintro e w2 ⟨rfl,q2⟩
  go_wp2_with fail
  refine(C2.out _).mono ?_
  rintro e w3 ⟨rfl,q3⟩
  have hb3:=HB0.out.stays (q2.trans q3)
  obtain⟨c0,c1,c2,c3,f0,f1,f2,f3⟩:=hb3.c4
  have HB3:=Lib.hid hb3;have HQ3:=Lib.hid (HQ0.out.trans (q2.trans q3))
  clear hb3 q2 q3
  go_wp2_with fail
  refine bodyPost_ret (results_ct rfl _ _ w.heap.size 122 _ (0,0) _ rfl (box4 HB3.out (.int .u64 ((0:Nat):Int)) (.int .u64 ((0:Nat):Int)) (.int .i64 ((0:Nat):Int)) (.int .i64 ((0:Nat):Int))) Tryz.underlying122 rfl (by kernel_rfl)) rfl ?_
  refine⟨⟨⟨0,0,0,0⟩,?_,fun s hs=>?_⟩,?_⟩
  ·rw[HNO.out];rfl
  ·rw[HNO.out] at hs;exact absurd hs (by simp)
  ·exact Qs.st (Qs.st (Qs.st (Qs.st HQ3.out _ _ (Nat.le_refl _)) _ _ (Nat.le_refl _)) _ _ (Nat.le_refl _)) _ _ (Nat.le_refl _)
 have e4:¬(u4:Int)≤(u5:Int):=by omega
 have cst:=fun (W:World)=>RText4_any ⟨ee,ss,u4,u5⟩ HSO.out W
 have hres:(toSlotL t n).isSome=(slotT ⟨ee,ss,u4,u5⟩==t)∧∀s,toSlotL t n=some s→s=⟨ee,ss,u4,u5⟩:=by
  rw[HTS.out]
  by_cases heq:slotT ⟨ee,ss,u4,u5⟩=t
  ·rw[if_pos ⟨by omega,hln,hpl,heq⟩,beq_iff_eq.2 heq]
   exact⟨rfl,fun s hs=>(Option.some.inj hs).symm⟩
  ·rw[if_neg (fun h=>heq h.2.2.2),beq_eq_false_iff_ne.2 heq]
   exact⟨rfl,fun s hs=>absurd hs (by simp)⟩
 have CST:=Lib.hid cst;have HRES:=Lib.hid hres
 clear cst hres
 generalize slotT ⟨ee,ss,u4,u5⟩=st at *
 go_enter Tryz.func119,Tryz.ntmps119
 go_upto_region 1 with fail
 have hb0:=Blk.new w 122 #[.int .u64 0,.int .u64 0,.int .i64 0,.int .i64 0]
 have hq0:=Q.alloc w (.cells #[.int .u64 0,.int .u64 0,.int .i64 0,.int .i64 0] 122)
 generalize w.alloc (.cells #[.int .u64 0,.int .u64 0,.int .i64 0,.int .i64 0] 122)=w1 at *
 have HB0:=Lib.hid hb0;have HQ0:=Lib.hid hq0
 clear hb0 hq0
 go_wp2_with fail
 refine(C1.out _).mono ?_
 rintro e w2 ⟨rfl,q2⟩
 go_wp2_with fail
 refine(C2.out _).mono ?_
 rintro e w3 ⟨rfl,q3⟩
 have hb3:=HB0.out.stays (q2.trans q3)
 have HQ13':Q w1 w3:=q2.trans q3
 have HB3:=Lib.hid hb3;have HQ3:=Lib.hid (HQ0.out.trans (q2.trans q3))
 clear hb3 q2 q3
 go_wp2_with fail
 have HQ13:=Lib.hid (show Q w1 w3 from HQ13')
 have hs1:w1.heap.size≤w3.heap.size:=Below.size HQ13'
 clear HQ13'
 have KQ:=Lib.hid (Q.refl w3)
 go_region_law
  (first
   | (go_simp;go_at_call 154;with_reducible refine(C3.out _).mono ?_;rintro e w4 ⟨rfl,q4⟩;(first|(have zb:=Blk.stays (Blk.new w3 122 #[.int .u64 0,.int .u64 0,.int .i64 0,.int .i64 0]) (Q.trans (Q.drew _) q4);have ZB:=Lib.hid zb;clear zb)|skip);have s':Q w3 w4:=Q.trans (by repeat (first|with_reducible exact KQ.out|with_reducible apply Qs.dr|with_reducible apply Qs.al)) q4;have hs4:=Qs.le s';clear KQ;have KQ:=Lib.hid s';clear s' q4)
   | (go_simp;go_at_call 154;with_reducible refine(C4.out _).mono ?_;rintro e w5 ⟨rfl,q5⟩;(first|(have zb:=Blk.stays (Blk.new w4 122 #[.int .u64 0,.int .u64 0,.int .i64 0,.int .i64 0]) q5;obtain⟨z0,z1,z2,z3,y0,y1,y2,y3⟩:=zb.c4;have ZC5:=Lib.hid zb;clear zb)|(have zb:=Blk.stays ZB.out q5;obtain⟨z0,z1,z2,z3,y0,y1,y2,y3⟩:=zb.c4;have ZB5:=Lib.hid zb;clear zb)|skip);have s':Q w3 w5:=Q.trans (by repeat (first|with_reducible exact KQ.out|with_reducible apply Qs.dr|with_reducible apply Qs.al)) q5;have hs5:=Qs.le s';clear KQ;have KQ:=Lib.hid s';clear s' q5))
 all_goals
  have hwl:IntKind.i64.wrap ((u4:Nat):Int)=(u4:Nat):=IntWalk.i64_in _ (by omega)
  have hwp:IntKind.i64.wrap ((u5:Nat):Int)=(u5:Nat):=IntWalk.i64_in _ (by omega)
  simp only[hwl,hwp]
  clear hwl hwp
  first
   | (have hbz:=box4 ZC5.out (.int .u64 (ee:Nat)) (.int .u64 (ss:Nat)) (.int .i64 (u4:Nat)) (.int .i64 (u5:Nat))
      have hqz:Q w3 ((((w5.setCell ⟨w4.heap.size,0,none⟩ (.int .u64 (ee:Nat))).setCell ⟨w4.heap.size,1,none⟩ (.int .u64 (ss:Nat))).setCell ⟨w4.heap.size,2,none⟩ (.int .i64 (u4:Nat))).setCell ⟨w4.heap.size,3,none⟩ (.int .i64 (u5:Nat))):=Qs.st (Qs.st (Qs.st (Qs.st KQ.out _ _ hs4) _ _ hs4) _ _ hs4) _ _ hs4
      generalize hWz:(((w5.setCell ⟨w4.heap.size,0,none⟩ (.int .u64 (ee:Nat))).setCell ⟨w4.heap.size,1,none⟩ (.int .u64 (ss:Nat))).setCell ⟨w4.heap.size,2,none⟩ (.int .i64 (u4:Nat))).setCell ⟨w4.heap.size,3,none⟩ (.int .i64 (u5:Nat))=wz at hbz hqz ⊢
      clear hWz
      have HBZ:=Lib.hid hbz;have HQZ:=Lib.hid hqz
      clear hbz hqz)
   | (have hbz:=box4 ZB5.out (.int .u64 (ee:Nat)) (.int .u64 (ss:Nat)) (.int .i64 (u4:Nat)) (.int .i64 (u5:Nat))
      have hqz:Q w3 ((((w5.setCell ⟨w3.heap.size,0,none⟩ (.int .u64 (ee:Nat))).setCell ⟨w3.heap.size,1,none⟩ (.int .u64 (ss:Nat))).setCell ⟨w3.heap.size,2,none⟩ (.int .i64 (u4:Nat))).setCell ⟨w3.heap.size,3,none⟩ (.int .i64 (u5:Nat))):=Qs.st (Qs.st (Qs.st (Qs.st KQ.out _ _ (Nat.le_refl _)) _ _ (Nat.le_refl _)) _ _ (Nat.le_refl _)) _ _ (Nat.le_refl _)
      generalize hWz:(((w5.setCell ⟨w3.heap.size,0,none⟩ (.int .u64 (ee:Nat))).setCell ⟨w3.heap.size,1,none⟩ (.int .u64 (ss:Nat))).setCell ⟨w3.heap.size,2,none⟩ (.int .i64 (u4:Nat))).setCell ⟨w3.heap.size,3,none⟩ (.int .i64 (u5:Nat))=wz at hbz hqz ⊢
      clear hWz
      have HBZ:=Lib.hid hbz;have HQZ:=Lib.hid hqz
      clear hbz hqz)
   | (have hbz:=Blk.new w5 122 #[.int .u64 (ee:Nat),.int .u64 (ss:Nat),.int .i64 (u4:Nat),.int .i64 (u5:Nat)]
      have hqz:Q w3 (w5.alloc (.cells #[.int .u64 (ee:Nat),.int .u64 (ss:Nat),.int .i64 (u4:Nat),.int .i64 (u5:Nat)] 122)):=KQ.out.trans (Q.alloc _ _)
      generalize hWz:w5.alloc (.cells #[.int .u64 (ee:Nat),.int .u64 (ss:Nat),.int .i64 (u4:Nat),.int .i64 (u5:Nat)] 122)=wz at hbz hqz ⊢
      clear hWz
      have HBZ:=Lib.hid hbz;have HQZ:=Lib.hid hqz
      clear hbz hqz)
  obtain⟨s0,s1,s2,s3,_⟩:=HBZ.out.c4
  have hbx:=HB3.out.stays HQZ.out
  obtain⟨b0,b1,b2,b3,f0,f1,f2,f3⟩:=hbx.c4
  have HBX:=Lib.hid hbx
  clear hbx
  go_wp2_with fail
  go_region_law
   (first
    | (go_simp;go_at_call 116;with_reducible refine(CST.out _).mono ?_;rintro e w6 ⟨rfl,q6⟩;have s':Q wz w6:=(by first|exact(Q.drew _).trans q6|exact q6);have g0:=cellQ s' s0;have g1:=cellQ s' s1;have g2:=cellQ s' s2;have g3:=cellQ s' s3;have hb6:=Blk.stays HBX.out s';obtain⟨a0,a1,a2,a3,d0,d1,d2,d3⟩:=hb6.c4;have S':=Lib.hid s';have HB6:=Lib.hid hb6;clear s' q6 hb6))
  all_goals
   go_wp2_with fail
   (try simp only[Exit.inBlock,Exit.then])
   first
    | refine bodyPost_ret (results_ct rfl _ _ w.heap.size 122 _ (0,0) _ rfl (box4 HB6.out (.int .u64 (ee:Nat)) (.int .u64 (ss:Nat)) (.int .i64 (u4:Nat)) (.int .i64 (u5:Nat))) Tryz.underlying122 rfl (by kernel_rfl)) rfl ?_
    | refine bodyPost_ret (results_ct rfl _ _ w.heap.size 122 _ (0,0) _ rfl (box4 (HB6.out.stays (Q.drew _)) (.int .u64 (ee:Nat)) (.int .u64 (ss:Nat)) (.int .i64 (u4:Nat)) (.int .i64 (u5:Nat))) Tryz.underlying122 rfl (by kernel_rfl)) rfl ?_
   refine⟨⟨⟨ee,ss,u4,u5⟩,?_,fun s hs=>?_⟩,?_⟩
   ·rw[HRES.out.1];rfl
   ·exact HRES.out.2 s hs
   ·first
     | exact Qs.st (Qs.st (Qs.st (Qs.st (HQ3.out.trans (HQZ.out.trans S'.out)) _ _ (Nat.le_refl _)) _ _ (Nat.le_refl _)) _ _ (Nat.le_refl _)) _ _ (Nat.le_refl _)
     | exact Qs.st (Qs.st (Qs.st (Qs.st (HQ3.out.trans (HQZ.out.trans (S'.out.trans (Q.drew _)))) _ _ (Nat.le_refl _)) _ _ (Nat.le_refl _)) _ _ (Nat.le_refl _)) _ _ (Nat.le_refl _)
theorem RJrnAt.next{A B C:World}{F:Nat→Prop}{p b:Nat}{j:JL}(hl:∀k,F k→k<A.heap.size)(t1:Turn F A B)(h:RJrnAt C (grow (grow F A B) B C) p b j)(t2:Turn (grow F A B) B C):RJrnAt C (grow F A C) p b j∧Turn F A C:=by
 have t:=t1.step t2
 exact⟨h.mono (fun k hk=>grow_trans t1.size t2.size hk) (fun k hk=>hk.elim (fun hk=>Nat.lt_of_lt_of_le (hl k hk) t.size) (fun hk=>hk.2)),t⟩
theorem lays_one(d:DevL)(x:WrL):d.lays [x]=if (d.write (x.1:Nat) x.2).2=0 then(d.write (x.1:Nat) x.2).1.flush else d.write (x.1:Nat) x.2:=by
 unfold DevL.lays
 rw[DevL.writes]
 by_cases h:(d.write (x.1:Nat) x.2).2=0
 ·rw[if_pos h,if_pos h]
  rfl
 ·rw[if_neg h,if_neg h]
theorem ckpt_turns(j:JL):
  j.ckpt=if (j.d.write (j.place 0:Nat) noughtsL).2≠0 then({ j with d:=(j.d.write (j.place 0:Nat) noughtsL).1 },(j.d.write (j.place 0:Nat) noughtsL).2) else
   if ((j.d.write (j.place 0:Nat) noughtsL).1.flush).2≠0 then({ j with d:=(j.d.write (j.place 0:Nat) noughtsL).1.flush.1 },(j.d.write (j.place 0:Nat) noughtsL).1.flush.2) else
   if (((j.d.write (j.place 0:Nat) noughtsL).1.flush).1.write ((1-j.k:Nat):Nat) (slotT j.nextSlot)).2≠0 then({ j with d:=(((j.d.write (j.place 0:Nat) noughtsL).1.flush).1.write ((1-j.k:Nat):Nat) (slotT j.nextSlot)).1 },(((j.d.write (j.place 0:Nat) noughtsL).1.flush).1.write ((1-j.k:Nat):Nat) (slotT j.nextSlot)).2) else
   if ((((j.d.write (j.place 0:Nat) noughtsL).1.flush).1.write ((1-j.k:Nat):Nat) (slotT j.nextSlot)).1.flush).2≠0 then({ j with d:=(((j.d.write (j.place 0:Nat) noughtsL).1.flush).1.write ((1-j.k:Nat):Nat) (slotT j.nextSlot)).1.flush.1 },(((j.d.write (j.place 0:Nat) noughtsL).1.flush).1.write ((1-j.k:Nat):Nat) (slotT j.nextSlot)).1.flush.2) else
   (⟨(((j.d.write (j.place 0:Nat) noughtsL).1.flush).1.write ((1-j.k:Nat):Nat) (slotT j.nextSlot)).1.flush.1,j.nextSlot,1-j.k,j.next,0⟩,0):=by
 unfold JL.ckpt JL.ckpt2 JL.ckpt1
 simp only[lays_one]
 generalize j.d.write (j.place 0:Nat) noughtsL=dA
 by_cases h1:dA.2=0
 ·simp only[h1,if_true,ne_eq,not_true,if_false]
  generalize dA.1.flush=dB
  by_cases h2:dB.2=0
  ·simp only[h2,if_true,ne_eq,not_true,if_false]
   generalize dB.1.write ((1-j.k:Nat):Nat) (slotT j.nextSlot)=dC
   by_cases h3:dC.2=0
   ·simp only[h3,if_true,ne_eq,not_true,if_false]
   ·simp only[h3,ne_eq,not_false_eq_true,if_true,if_false]
  ·simp only[h2,ne_eq,not_false_eq_true,if_true]
 ·simp only[h1,ne_eq,not_false_eq_true,if_true,if_false]
theorem RCkpt_any(w:World)(F:Nat→Prop)(p b:Nat)(j:JL)(h:RJrnAt w F p b j)(hn:JNum j):
  Calls Tryz.prog 121 #[ptrV p] w fun e w'=>e=.returned (.int .i64 j.ckpt.2)∧RJrnAt w' (grow F w w') p b j.ckpt.1∧Turn F w w':=by
 have hpl:=fun (W:World) (q:Q w W)=>RPlace_any W p b j j.used (h.box.stays q) hn.log hn.log2 hn.place (by have:=hn.used;omega)
 have hp0:logAt j.s j.used=j.place 0:=by unfold JL.place;rfl
 have hplt:j.place 0≤2000000:=by have:=(logAt_lt j.s (j.used+0) hn.log).2;have:=hn.log2;unfold JL.place;omega
 rw[hp0] at hpl
 have hwA:=h.write hn.ok (fun hx=>by have:=hn.plen hx;omega) (j.place 0:Nat) noughtsL (by rw[noughts_len];omega)
 have hck:=ckpt_turns j
 have hokA:=DevL.write_ok hn.ok (j.place 0:Nat) noughtsL
 have hpA:(j.d.write (j.place 0:Nat) noughtsL).1.dead=false→(j.d.write (j.place 0:Nat) noughtsL).1.p.length≤900001:=fun hx=>by
  have h1:=hn.plen (DevL.write_live _ _ _ hx)
  have h2:=DevL.write_p j.d (j.place 0:Nat) noughtsL
  omega
 have hno:=fun (W:World)=>RNoughts_any W
 have hlt:=h.lt
 obtain⟨c0,c1,c2,c3,c4,c5,c6,c7⟩:=h.box.c8
 generalize j.d.write (j.place 0:Nat) noughtsL=dA at *
 have HPL:=Lib.hid hpl;have HWA:=Lib.hid hwA;have HCK:=Lib.hid hck;have HOKA:=Lib.hid hokA;have HPA:=Lib.hid hpA;have HN:=Lib.hid hn;have HNO:=Lib.hid hno;have HLT:=Lib.hid hlt
 have KK:=Lib.hid (Q.refl w)
 clear hpl hwA hck hokA hpA hn hno hlt h hp0
 go_enter Tryz.func121,Tryz.ntmps121
 go_wp2_with fail
 go_region_held3 (fun w'=>w'.cell? ⟨p,0,none⟩=some (ptrV b)∧w'.cell? ⟨p,7,none⟩=some (.int .i64 (j.used:Nat)))
  (first|exact g0|exact⟨c0,c7⟩|exact two (by repeat (first|with_reducible exact KK.out|with_reducible exact Q.refl _|with_reducible apply Qs.dr|with_reducible apply Qs.al)) c0 c7)
  (first
   | (go_at_call 155;with_reducible refine(HPL.out _ (by repeat (first|with_reducible exact KK.out|with_reducible apply Qs.dr|with_reducible apply Qs.al))).mono ?_;rintro e w1 ⟨rfl,q1⟩;have s':Q w w1:=Q.trans (by repeat (first|with_reducible exact KK.out|with_reducible apply Qs.dr|with_reducible apply Qs.al)) q1;clear KK;have KK:=Lib.hid s';clear s' q1)
   | (go_at_call 71;with_reducible refine(HNO.out _).mono ?_;rintro e w2 ⟨rfl,q2⟩;have s':Q w w2:=Q.trans (by repeat (first|with_reducible exact KK.out|with_reducible apply Qs.dr|with_reducible apply Qs.al)) q2;clear KK;have KK:=Lib.hid s';clear s' q2)
   | (go_at_call 115;with_reducible refine(HWA.out _ (by repeat (first|with_reducible exact KK.out|with_reducible apply Qs.dr|with_reducible apply Qs.al))).mono ?_;rintro e w3 ⟨rfl,h3,t3⟩;have g:=RJrnAt.box h3;have g:=Blk.c8 g;have g0:=And.intro g.1 g.2.2.2.2.2.2.2;clear g;have H3:=Lib.hid h3;have T3:=Lib.hid t3;clear h3 t3))
 all_goals
  clear c0 c1 c2 c3 c4 c5 c6 c7
  try clear g0
  by_cases hzA:dA.2=0
  case neg =>
   have e1:(dA.2==0)=false:=beq_eq_false_iff_ne.2 hzA
   have hck:=HCK.out
   rw[if_pos hzA] at hck
   have HCK1:=Lib.hid hck
   clear hck hzA
   go_wp2_with fail
   go_ret
   rw[HCK1.out]
   exact⟨rfl,H3.out,T3.out⟩
  have e1:(dA.2==0)=true:=beq_iff_eq.2 hzA
  have hck:=HCK.out
  rw[if_neg (by rw[hzA];simp)] at hck
  have hfB:=H3.out.flush HOKA.out (fun hx=>by have h1:=HPA.out hx;show dA.1.p.length≤_;omega) w3 (Q.refl _)
  have hokB:=DevL.flush_ok HOKA.out
  have hpB:dA.1.flush.1.dead=false→dA.1.flush.1.p.length≤900001:=fun hx=>by
   have:=HPA.out (DevL.flush_live _ hx);have:=DevL.flush_p dA.1;omega
  simp only at hfB hokB hpB
  generalize dA.1.flush=dB at *
  obtain⟨k0,_⟩:=H3.out.box.c8
  have HCK1:=Lib.hid hck;have HFB:=Lib.hid hfB;have HOKB:=Lib.hid hokB;have HPB:=Lib.hid hpB
  clear hck hzA hfB hokB hpB HCK
  go_wp2_with fail
  refine HFB.out.mono ?_
  rintro e w4 ⟨rfl,h4,t4⟩
  have hs4:=RJrnAt.next HLT.out T3.out h4 t4
  have H4:=Lib.hid hs4.1;have T4:=Lib.hid hs4.2
  clear hs4 h4 t4 k0
  by_cases hzB:dB.2=0
  case neg =>
   have e2:(dB.2==0)=false:=beq_eq_false_iff_ne.2 hzB
   have hck:=HCK1.out
   rw[if_pos hzB] at hck
   have HCK2:=Lib.hid hck
   clear hck hzB
   go_wp2_with fail
   go_ret
   rw[HCK2.out]
   exact⟨rfl,H4.out,T4.out⟩
  have e2:(dB.2==0)=true:=beq_iff_eq.2 hzB
  have hck:=HCK1.out
  rw[if_neg (by rw[hzB];simp)] at hck
  have HCK2:=Lib.hid hck
  clear hck hzB HCK1
  obtain⟨c0,c1,c2,c3,c4,c5,c6,c7⟩:=H4.out.box.c8
  simp only at c0 c1 c2 c3 c4 c5 c6 c7
  have hl0:¬((j.s.log:Nat):Int)=0:=by have:=HN.out.log;omega
  have hl00:¬j.s.log=0:=by have:=HN.out.log;omega
  have hwe:IntKind.u64.wrap ((j.s.e:Int)+1)=(((j.s.e+1)%18446744073709551616:Nat):Int):=by simp[IntKind.wrap,IntKind.bits,IntKind.signed]
  have hwp:IntKind.i64.wrap ((j.s.place:Int)+(j.used:Int))=((j.s.place+j.used:Nat):Int):=by have:=HN.out.place;have:=HN.out.used;rw[IntWalk.i64_in _ (by omega)];omega
  have hwm:(((j.s.place+j.used:Nat):Int)).tmod ((j.s.log:Nat):Int)=(((j.s.place+j.used)%j.s.log:Nat):Int):=by rfl
  have hwm2:IntKind.i64.wrap (((j.s.place+j.used)%j.s.log:Nat):Int)=(((j.s.place+j.used)%j.s.log:Nat):Int):=by have:=Nat.mod_lt (j.s.place+j.used) HN.out.log;have:=HN.out.log2;rw[IntWalk.i64_in _ (by omega)]
  go_wp2_with fail
  go_region_held3 (fun w'=>w'.cell? ⟨p,1,none⟩=some (.int .u64 (j.s.e:Nat))∧w'.cell? ⟨p,3,none⟩=some (.int .i64 (j.s.log:Nat))∧w'.cell? ⟨p,4,none⟩=some (.int .i64 (j.s.place:Nat))∧w'.cell? ⟨p,6,none⟩=some (.int .u64 (j.next:Nat))∧w'.cell? ⟨p,7,none⟩=some (.int .i64 (j.used:Nat)))
   (first|exact⟨c1,c3,c4,c6,c7⟩|exact five (by repeat (first|with_reducible exact Q.refl _|with_reducible apply Qs.dr|with_reducible apply Qs.al|with_reducible refine Qs.st ?_ _ _ (Nat.le_refl _))) c1 c3 c4 c6 c7)
   (fail)
  all_goals
   have he:(((j.s.e:Int)+1)%18446744073709551616)=((j.nextSlot.e:Nat):Int):=by
    show(((j.s.e:Int)+1)%18446744073709551616)=(((j.s.e+1)%18446744073709551616:Nat):Int)
    omega
   have hpm:(((j.s.place:Int)+(j.used:Int)).tmod (j.s.log:Int))=((j.nextSlot.place:Nat):Int):=rfl
   rw[he,hpm]
   have cst:=fun (W:World)=>RText4_any j.nextSlot HN.out.nslot W
   have hns:j.nextSlot.s=j.next:=rfl
   have hnl:j.nextSlot.log=j.s.log:=rfl
   rw[hns,hnl] at cst
   have CST:=Lib.hid cst
   have hq5:Q w4 ((w4.alloc (.cells #[.int .u64 (j.nextSlot.e:Nat),.int .u64 (j.next:Nat),.int .i64 (j.s.log:Nat),.int .i64 (j.nextSlot.place:Nat)] 122)).drew):=Qs.dr (Qs.al (Q.refl _) _)
   have hb5:Blk ((w4.alloc (.cells #[.int .u64 (j.nextSlot.e:Nat),.int .u64 (j.next:Nat),.int .i64 (j.s.log:Nat),.int .i64 (j.nextSlot.place:Nat)] 122)).drew) w4.heap.size 122 #[.int .u64 (j.nextSlot.e:Nat),.int .u64 (j.next:Nat),.int .i64 (j.s.log:Nat),.int .i64 (j.nextSlot.place:Nat)]:=Blk.new w4 _ _
   generalize hV:(w4.alloc (.cells #[.int .u64 (j.nextSlot.e:Nat),.int .u64 (j.next:Nat),.int .i64 (j.s.log:Nat),.int .i64 (j.nextSlot.place:Nat)] 122)).drew=w5 at *
   clear hV cst hns hnl he hpm hwe hwp hwm hwm2
   have h5:=H4.out.keep hq5
   have hlt5:∀k,grow F w w4 k→k<w5.heap.size:=h5.lt
   obtain⟨d0,d1,d2,d3,d4,d5,d6,d7⟩:=h5.box.c8
   simp only at d0 d5
   obtain⟨s0,s1,s2,s3,_⟩:=hb5.c4
   have hwk:IntKind.i64.wrap (1-(j.k:Int))=((1-j.k:Nat):Int):=by have:=HN.out.k;rw[IntWalk.i64_in _ (by omega)];omega
   have hwC:=h5.write HOKB.out (fun hx=>by have h1:=HPB.out hx;show dB.1.p.length≤_;omega) ((1-j.k:Nat):Nat) (slotT j.nextSlot) (by rw[slotT_length];omega)
   simp only at hwC
   have hokC:=DevL.write_ok HOKB.out ((1-j.k:Nat):Nat) (slotT j.nextSlot)
   have hpC:(dB.1.write ((1-j.k:Nat):Nat) (slotT j.nextSlot)).1.dead=false→(dB.1.write ((1-j.k:Nat):Nat) (slotT j.nextSlot)).1.p.length≤900002:=fun hx=>by
    have h1:=HPB.out (DevL.write_live _ _ _ hx)
    have h2:=DevL.write_p dB.1 ((1-j.k:Nat):Nat) (slotT j.nextSlot)
    omega
   have hck:=HCK2.out
   generalize dB.1.write ((1-j.k:Nat):Nat) (slotT j.nextSlot)=dC at *
   have hnb:w4.heap.size<w5.heap.size:=hb5.lt
   have HWC:=Lib.hid hwC;have HOKC:=Lib.hid hokC;have HPC:=Lib.hid hpC;have HCK3:=Lib.hid hck;have HB5:=Lib.hid hb5;have H5:=Lib.hid h5;have HQ5:=Lib.hid hq5
   have hng:¬grow F w w4 w4.heap.size:=fun hc=>by have:=H4.out.lt _ hc;omega
   have HNG:=Lib.hid hng
   clear hwC hokC hpC hck hb5 h5 hq5 c0 c1 c2 c3 c4 c5 c6 c7 d1 d2 d3 d4 d6 d7 hlt5 HCK2 hng KK
   generalize slotT j.nextSlot=st at *
   have KK:=Lib.hid (Q.refl w5)
   go_wp2_with fail
   go_region_held3 (fun w'=>w'.cell? ⟨p,5,none⟩=some (.int .i64 (j.k:Nat))∧w'.cell? ⟨p,0,none⟩=some (ptrV b)∧w'.cell? ⟨w4.heap.size,0,none⟩=some (.int .u64 (j.nextSlot.e:Nat))∧w'.cell? ⟨w4.heap.size,1,none⟩=some (.int .u64 (j.next:Nat))∧w'.cell? ⟨w4.heap.size,2,none⟩=some (.int .i64 (j.s.log:Nat))∧w'.cell? ⟨w4.heap.size,3,none⟩=some (.int .i64 (j.nextSlot.place:Nat)))
    (first|exact g0|exact⟨d5,d0,s0,s1,s2,s3⟩|exact And.intro (cellQ (by repeat (first|with_reducible exact KK.out|with_reducible apply Qs.dr|with_reducible apply Qs.al)) d5) (five (by repeat (first|with_reducible exact KK.out|with_reducible apply Qs.dr|with_reducible apply Qs.al)) d0 s0 s1 s2 s3))
    (first
     | (go_at_call 116;with_reducible refine(CST.out _).mono ?_;rintro e w6 ⟨rfl,q6⟩;have s':Q w5 w6:=Q.trans (by repeat (first|with_reducible exact KK.out|with_reducible apply Qs.dr|with_reducible apply Qs.al)) q6;clear KK;have KK:=Lib.hid s';clear s' q6)
     | (go_at_call 115;with_reducible refine(HWC.out _ (by repeat (first|with_reducible exact KK.out|with_reducible apply Qs.dr|with_reducible apply Qs.al))).mono ?_;rintro e w7 ⟨rfl,h7,t7⟩;have g:=Blk.c8 (RJrnAt.box h7);have g0:=And.intro g.2.2.2.2.2.1 (And.intro g.1 (And.intro (Turn.cell t7 s0 HNG.out) (And.intro (Turn.cell t7 s1 HNG.out) (And.intro (Turn.cell t7 s2 HNG.out) (Turn.cell t7 s3 HNG.out)))));clear g;have H7:=Lib.hid h7;have T7:=Lib.hid t7;clear h7 t7))
   all_goals
    clear d0 d5 s0 s1 s2 s3
    obtain⟨_,_,z0,z1,z2,z3⟩:=g0
    have t47:Turn (grow F w w4) w4 w7:=(Turn.of_q HQ5.out).trans T7.out
    have h47:RJrnAt w7 (grow (grow F w w4) w4 w7) p b { j with d:=dC.1 }:=H7.out.mono (fun k hk=>hk.elim .inl (fun hk=>.inr ⟨Nat.le_trans HQ5.out.size hk.1,hk.2⟩)) (fun k hk=>hk.elim (fun hk=>Nat.lt_of_lt_of_le (H4.out.lt k hk) t47.size) (fun hk=>hk.2))
    have hs7:=RJrnAt.next HLT.out T4.out h47 t47
    have HS7:=Lib.hid hs7
    have hn7:¬grow (grow F w w4) w5 w7 w4.heap.size:=fun hc=>hc.elim HNG.out (fun hc=>by omega)
    have HN7:=Lib.hid hn7
    clear t47 h47 hs7 hn7
    by_cases hzC:dC.2=0
    case neg =>
     have e3:(dC.2==0)=false:=beq_eq_false_iff_ne.2 hzC
     have hck:=HCK3.out
     rw[if_pos hzC] at hck
     have HCK4:=Lib.hid hck
     clear hck hzC
     go_wp2_with fail
     go_ret
     rw[HCK4.out]
     exact⟨rfl,HS7.out.1,HS7.out.2⟩
    have e3:(dC.2==0)=true:=beq_iff_eq.2 hzC
    have hck:=HCK3.out
    rw[if_neg (by rw[hzC];simp)] at hck
    have hfD:=H7.out.flush HOKC.out (fun hx=>by have h1:=HPC.out hx;show dC.1.p.length≤_;omega) w7 (Q.refl _)
    simp only at hfD
    generalize dC.1.flush=dD at *
    obtain⟨k0,_⟩:=HS7.out.1.box.c8
    have HCK4:=Lib.hid hck;have HFD:=Lib.hid hfD
    clear hck hzC hfD HCK3
    go_wp2_with fail
    refine HFD.out.mono ?_
    rintro e w8 ⟨rfl,h8,t8⟩
    have y0:=t8.cell z0 HN7.out;have y1:=t8.cell z1 HN7.out;have y2:=t8.cell z2 HN7.out;have y3:=t8.cell z3 HN7.out
    have t48:Turn (grow F w w4) w4 w8:=(Turn.of_q HQ5.out).trans (T7.out.step t8)
    have h48:RJrnAt w8 (grow (grow F w w4) w4 w8) p b { j with d:=dD.1 }:=h8.mono (fun k hk=>by
     have hz5:=HQ5.out.size;have hz7:=T7.out.size
     rcases hk with (hk|hk)|hk
     ·exact .inl hk
     ·exact .inr ⟨by omega,by have:=t8.size;omega⟩
     ·exact .inr ⟨by omega,hk.2⟩) (fun k hk=>hk.elim (fun hk=>Nat.lt_of_lt_of_le (H4.out.lt k hk) t48.size) (fun hk=>hk.2))
    have hs8:=RJrnAt.next HLT.out T4.out h48 t48
    have HS8:=Lib.hid hs8
    clear hs8 k0 t48 h48 h8 t8 z0 z1 z2 z3
    by_cases hzD:dD.2=0
    case neg =>
     have e4:(dD.2==0)=false:=beq_eq_false_iff_ne.2 hzD
     have hck:=HCK4.out
     rw[if_pos hzD] at hck
     have HCK5:=Lib.hid hck
     clear hck hzD
     go_wp2_with fail
     go_ret
     rw[HCK5.out]
     exact⟨rfl,HS8.out.1,HS8.out.2⟩
    have e4:(dD.2==0)=true:=beq_iff_eq.2 hzD
    have hck:=HCK4.out
    rw[if_neg (by rw[hzD];simp)] at hck
    have HCK5:=Lib.hid hck
    clear hck hzD HCK4
    have hbx8:=HS8.out.1.box
    obtain⟨d0,d1,d2,d3,d4,d5,d6,d7⟩:=hbx8.c8
    have f1:=hbx8.frozen 1;have f2:=hbx8.frozen 2;have f3:=hbx8.frozen 3;have f4:=hbx8.frozen 4;have f5:=hbx8.frozen 5;have f7:=hbx8.frozen 7
    have hbx:Blk ((((((w8.setCell ⟨p,1,none⟩ (.int .u64 (j.nextSlot.e:Nat))).setCell ⟨p,2,none⟩ (.int .u64 (j.next:Nat))).setCell ⟨p,3,none⟩ (.int .i64 (j.s.log:Nat))).setCell ⟨p,4,none⟩ (.int .i64 (j.nextSlot.place:Nat))).setCell ⟨p,5,none⟩ (.int .i64 ((1-j.k:Nat):Int))).setCell ⟨p,7,none⟩ (.int .i64 0)) p 124 (jcells b ⟨dD.1,j.nextSlot,1-j.k,j.next,0⟩):=((((((hbx8.set 1 (.int .u64 (j.nextSlot.e:Nat))).set 2 (.int .u64 (j.next:Nat))).set 3 (.int .i64 (j.s.log:Nat))).set 4 (.int .i64 (j.nextSlot.place:Nat))).set 5 (.int .i64 ((1-j.k:Nat):Int))).set 7 (.int .i64 0))
    have ht:Turn (fun k=>k=p) w8 ((((((w8.setCell ⟨p,1,none⟩ (.int .u64 (j.nextSlot.e:Nat))).setCell ⟨p,2,none⟩ (.int .u64 (j.next:Nat))).setCell ⟨p,3,none⟩ (.int .i64 (j.s.log:Nat))).setCell ⟨p,4,none⟩ (.int .i64 (j.nextSlot.place:Nat))).setCell ⟨p,5,none⟩ (.int .i64 ((1-j.k:Nat):Int))).setCell ⟨p,7,none⟩ (.int .i64 0)):=(Turn.setCell (a:=⟨p,7,none⟩) (Turn.setCell (a:=⟨p,5,none⟩) (Turn.setCell (a:=⟨p,4,none⟩) (Turn.setCell (a:=⟨p,3,none⟩) (Turn.setCell (a:=⟨p,2,none⟩) (Turn.setCell (a:=⟨p,1,none⟩) (Turn.refl (fun k=>k=p) w8) (.inl rfl) (.int .u64 (j.nextSlot.e:Nat))) (.inl rfl) (.int .u64 (j.next:Nat))) (.inl rfl) (.int .i64 (j.s.log:Nat))) (.inl rfl) (.int .i64 (j.nextSlot.place:Nat))) (.inl rfl) (.int .i64 ((1-j.k:Nat):Int))) (.inl rfl) (.int .i64 0))
    have hsz:((((((w8.setCell ⟨p,1,none⟩ (.int .u64 (j.nextSlot.e:Nat))).setCell ⟨p,2,none⟩ (.int .u64 (j.next:Nat))).setCell ⟨p,3,none⟩ (.int .i64 (j.s.log:Nat))).setCell ⟨p,4,none⟩ (.int .i64 (j.nextSlot.place:Nat))).setCell ⟨p,5,none⟩ (.int .i64 ((1-j.k:Nat):Int))).setCell ⟨p,7,none⟩ (.int .i64 0)).heap.size=w8.heap.size:=by simp only[setCell_size]
    have hjt:RJrnAt ((((((w8.setCell ⟨p,1,none⟩ (.int .u64 (j.nextSlot.e:Nat))).setCell ⟨p,2,none⟩ (.int .u64 (j.next:Nat))).setCell ⟨p,3,none⟩ (.int .i64 (j.s.log:Nat))).setCell ⟨p,4,none⟩ (.int .i64 (j.nextSlot.place:Nat))).setCell ⟨p,5,none⟩ (.int .i64 ((1-j.k:Nat):Int))).setCell ⟨p,7,none⟩ (.int .i64 0)) (grow F w w8) p b ⟨dD.1,j.nextSlot,1-j.k,j.next,0⟩:=HS8.out.1.turned hbx rfl ht
    have hjw:RJrnAt ((((((w8.setCell ⟨p,1,none⟩ (.int .u64 (j.nextSlot.e:Nat))).setCell ⟨p,2,none⟩ (.int .u64 (j.next:Nat))).setCell ⟨p,3,none⟩ (.int .i64 (j.s.log:Nat))).setCell ⟨p,4,none⟩ (.int .i64 (j.nextSlot.place:Nat))).setCell ⟨p,5,none⟩ (.int .i64 ((1-j.k:Nat):Int))).setCell ⟨p,7,none⟩ (.int .i64 0)) (grow F w ((((((w8.setCell ⟨p,1,none⟩ (.int .u64 (j.nextSlot.e:Nat))).setCell ⟨p,2,none⟩ (.int .u64 (j.next:Nat))).setCell ⟨p,3,none⟩ (.int .i64 (j.s.log:Nat))).setCell ⟨p,4,none⟩ (.int .i64 (j.nextSlot.place:Nat))).setCell ⟨p,5,none⟩ (.int .i64 ((1-j.k:Nat):Int))).setCell ⟨p,7,none⟩ (.int .i64 0))) p b ⟨dD.1,j.nextSlot,1-j.k,j.next,0⟩:=hjt.mono (fun k hk=>hk.elim .inl (fun hk=>.inr ⟨hk.1,by rw[hsz];exact hk.2⟩)) (fun k hk=>hk.elim (fun hk=>Nat.lt_of_lt_of_le (HLT.out k hk) (by rw[hsz];exact HS8.out.2.size)) (fun hk=>hk.2))
    have htw:Turn F w ((((((w8.setCell ⟨p,1,none⟩ (.int .u64 (j.nextSlot.e:Nat))).setCell ⟨p,2,none⟩ (.int .u64 (j.next:Nat))).setCell ⟨p,3,none⟩ (.int .i64 (j.s.log:Nat))).setCell ⟨p,4,none⟩ (.int .i64 (j.nextSlot.place:Nat))).setCell ⟨p,5,none⟩ (.int .i64 ((1-j.k:Nat):Int))).setCell ⟨p,7,none⟩ (.int .i64 0)):=HS8.out.2.step (ht.mono (fun k hk=>by subst hk;exact HS8.out.1.fp))
    have HJW:=Lib.hid hjw;have HTW:=Lib.hid htw
    clear hbx ht hsz hjt hjw htw hbx8
    go_wp2_with fail
    go_ret
    rw[HCK5.out]
    exact⟨rfl,HJW.out,HTW.out⟩
theorem logW_at(j:JL)(ws:List WrL)(k:Nat)(h:k<ws.length):(j.logW ws)[k]?=some (j.place (k+1),ws[k].2):=by
 unfold JL.logW
 rw[List.getElem?_map,List.getElem?_zipIdx,List.getElem?_append_left (by simpa using h)]
 simp[h]
theorem logW_end(j:JL)(ws:List WrL):(j.logW ws)[ws.length]?=some (j.place (ws.length+1),noughtsL):=by
 unfold JL.logW
 rw[List.getElem?_map,List.getElem?_zipIdx,List.getElem?_append_right (by simp)]
 simp
theorem logW_len4(j:JL)(ws:List WrL):(j.logW ws).length=ws.length+1:=by simp[JL.logW]
theorem drop_at{α:Type}{l:List α}{k:Nat}{x:α}(h:l[k]?=some x):l.drop k=x::l.drop (k+1):=by
 obtain⟨hk,rfl⟩:=List.getElem?_eq_some_iff.1 h
 exact List.drop_eq_getElem_cons hk
def JL.logR(j:JL)(ws:List WrL):DevL×Int:=if (j.com1 ws).2≠0 then j.com1 ws else j.com2 ws
theorem RLog_any(w:World)(F:Nat→Prop)(p b:Nat)(j:JL)(lv:Value)(ws:List WrL)(h:RJrnAt w F p b j)(hn:JNum j)(hw:WrOk ws)(hl:SlO w F lv (ws.length+1) 1 ((packL j.next ws).map strV)):
  Calls Tryz.prog 126 #[ptrV p,lv] w fun e w'=>e=.returned (.int .i64 (j.logR ws).2)∧RJrnAt w' (grow F w w') p b { j with d:=(j.logR ws).1 }∧Turn F w w':=by
 obtain⟨la,lc,rfl,hlc⟩:=hl.value
 have hcell:∀k (hk:k<ws.length),∃lb lo,la=some ⟨lb,lo,none⟩∧lb<w.heap.size∧¬F lb∧w.cell? ⟨lb,lo+(k+1),none⟩=some (strV ws[k].2)∧w.cell? ⟨lb,lo,none⟩=some (strV (headL j.next ws)):=fun k hk=>by
  obtain⟨lb,lo,h1,h2,h3,h4⟩:=hlc (by omega)
  refine⟨lb,lo,h1,h2,h3,h4 (k+1) (strV ws[k].2) ?_,by have:=h4 0 (strV (headL j.next ws)) (by simp[packL]);rwa [Nat.add_zero] at this⟩
  simp[packL,hk]
 have hlens:∀k (hk:k<ws.length),ws[k].2.length=256:=fun k hk=>(hw.2.2 _ (List.getElem_mem hk)).2
 have h1:=hw.1;have h2:=hw.2.1
 have hno:=fun (W:World)=>RNoughts_any W
 have hpl:=fun (W:World) (G:Nat→Prop) (d2:DevL) (hW:Blk W p 124 (jcells b { j with d:=d2 })) (i:Nat) (hi:i≤100)=>(show Calls Tryz.prog 155 #[ptrV p,.int .i64 (IntKind.i64.wrap ((j.used:Int)+(i:Int)))] W fun e w'=>e=.returned (.int .i64 (j.place i:Nat))∧Q W w' from by
  rw[IntWalk.i64_in _ (by have:=hn.used;omega),show(j.used:Int)+(i:Int)=((j.used+i:Nat):Int) by omega]
  exact RPlace_any W p b { j with d:=d2 } (j.used+i) hW hn.log hn.log2 hn.place (by have:=hn.used;omega))
 have hok:=hn.ok
 have hpp:=hn.plen
 have hlt:=h.lt
 have HC:=Lib.hid hcell;have HL:=Lib.hid hlens;have HNO:=Lib.hid hno;have HPL:=Lib.hid hpl;have HN:=Lib.hid hn;have HLT:=Lib.hid hlt;have HJ:=Lib.hid h
 clear hcell hlens hno hpl hn hlt h hlc hl hw hok hpp
 go_enter Tryz.func126,Tryz.ntmps126
 go_wp2_with fail
 go_loopw [5] (fun v wr=>∃(k:Nat) (d2:DevL),v=.int .i64 ((k+1:Nat):Int)∧k≤ws.length∧Hid (j.d.writes (j.logW ws)=d2.writes ((j.logW ws).drop k))∧Hid (RJrnAt wr (grow F w wr) p b { j with d:=d2 })∧Hid (Turn F w wr)∧Hid d2.Ok∧Hid (d2.dead=false→d2.p.length≤900000+k)) (fun v _=>ws.length+1-(intOf v).toNat)
 case atStart=>exact⟨0,j.d,rfl,Nat.zero_le _,by rw[List.drop_zero];exact Lib.hid rfl,HJ.out.mono (fun _ h=>grow_left h) (fun k hk=>hk.elim (fun hk=>HLT.out k hk) (fun hk=>hk.2)),Turn.refl _ _,HN.out.ok,HN.out.plen⟩
 case round =>
  obtain⟨k,d2,rfl,hk,HE,HG2,HT2,HD2,HP2⟩:=hrel
  by_cases hlt:k<ws.length
  ·have hki:((k+1:Nat):Int)<(ws.length:Int)+1:=by omega
   have hki0:(0:Int)≤((k+1:Nat):Int):=by omega
   obtain⟨lb,lo,rfl,hlb,hlF,x1,x2⟩:=HC.out k hlt
   have y1:=HT2.out.cell (F:=F) x1 hlF
   have he:=HE.out
   rw[drop_at (logW_at j ws k hlt),DevL.writes] at he
   simp only at he
   have hdl:=HL.out k hlt
   have hw1:=HG2.out.write HD2.out (fun hx=>by have h1:=HP2.out hx;show d2.p.length≤_;omega) (j.place (k+1):Nat) ws[k].2 (by rw[hdl];omega)
   simp only at hw1
   have hok:=DevL.write_ok HD2.out (j.place (k+1):Nat) ws[k].2
   have hpn:(d2.write (j.place (k+1):Nat) ws[k].2).1.dead=false→(d2.write (j.place (k+1):Nat) ws[k].2).1.p.length≤900000+(k+1):=fun hx=>by
    have h1:=HP2.out (DevL.write_live _ _ _ hx)
    have h2:=DevL.write_p d2 (j.place (k+1):Nat) ws[k].2
    omega
   have hcst:((k+1:Nat):Int)=(k:Int)+1:=by omega
   have hpl:∀(W:World),Q wr W→Calls Tryz.prog 155 #[ptrV p,.int .i64 (IntKind.i64.wrap ((j.used:Int)+((k:Int)+1)))] W fun e w'=>e=.returned (.int .i64 (j.place (k+1):Nat))∧Q W w':=fun W q=>by have:=HPL.out W F d2 (HG2.out.box.stays q) (k+1) (by omega);rwa [hcst] at this
   obtain⟨c0,c1,c2,c3,c4,c5,c6,c7⟩:=HG2.out.box.c8
   simp only at c0 c7
   have hnG:¬grow F w wr lb:=fun hc=>hc.elim hlF (fun hc=>by omega)
   generalize hdw:d2.write (j.place (k+1):Nat) ws[k].2=dw at *
   generalize hdk:ws[k].2=dk at *
   generalize j.place (k+1)=pk at *
   have HPK:=Lib.hid hpl;have HW1:=Lib.hid hw1;have HEE:=Lib.hid he;have HOK:=Lib.hid hok;have HPN:=Lib.hid hpn;have HNG:=Lib.hid hnG;have KK:=Lib.hid (Q.refl wr)
   clear hpl hw1 he hok hpn hdw hdk x1 x2 c1 c2 c3 c4 c5 c6 hdl hnG
   have hki2:(k:Int)+1<(ws.length:Int)+1:=by omega
   have hki3:(0:Int)≤(k:Int)+1:=by omega
   have htn:((k:Int)+1).toNat=k+1:=by omega
   clear hki hki0 hcst
   go_wp2_with fail
   go_region_held3 (fun w'=>w'.cell? ⟨p,0,none⟩=some (ptrV b)∧w'.cell? ⟨p,7,none⟩=some (.int .i64 (j.used:Nat))∧w'.cell? ⟨lb,lo+(k+1),none⟩=some (strV dk))
    (first|exact g0|exact⟨c0,c7,y1⟩|exact three (by repeat (first|with_reducible exact KK.out|with_reducible exact Q.refl _|with_reducible apply Qs.dr|with_reducible apply Qs.al)) c0 c7 y1)
    (first
     | (go_at_call 155;with_reducible refine(HPK.out _ (by repeat (first|with_reducible exact KK.out|with_reducible apply Qs.dr|with_reducible apply Qs.al))).mono ?_;rintro e w1 ⟨rfl,q1⟩;have s':Q wr w1:=Q.trans (by repeat (first|with_reducible exact KK.out|with_reducible apply Qs.dr|with_reducible apply Qs.al)) q1;clear KK;have KK:=Lib.hid s';clear s' q1)
     | (go_at_call 115;with_reducible refine(HW1.out _ (by repeat (first|with_reducible exact KK.out|with_reducible apply Qs.dr|with_reducible apply Qs.al))).mono ?_;rintro e w3 ⟨rfl,h3,t3⟩;have g:=Blk.c8 (RJrnAt.box h3);have g0:=And.intro g.1 (And.intro g.2.2.2.2.2.2.2 (Turn.cell t3 y1 HNG.out));clear g;have H3:=Lib.hid h3;have T3:=Lib.hid t3;clear h3 t3))
   all_goals
    have hs3:=RJrnAt.next HLT.out HT2.out H3.out T3.out
    have HG3:=Lib.hid hs3.1;have HT3:=Lib.hid hs3.2
    clear hs3 c0 c7 y1
    try clear g0
    by_cases hz:dw.2=0
    ·have hb:(dw.2==0)=true:=beq_iff_eq.2 hz
     have hee:=HEE.out
     rw[if_pos hz] at hee
     have HE2:=Lib.hid hee
     clear hee HEE hz
     go_wp2_with fail
     go_roundw
     case rel=>exact⟨k+1,dw.1,by go_num,by omega,HE2,HG3,HT3,HOK,HPN⟩
     case measure=>simp[intOf];omega
    ·have hb:(dw.2==0)=false:=beq_eq_false_iff_ne.2 hz
     have hee:=HEE.out
     rw[if_neg hz] at hee
     have hlr:j.logR ws=dw:=by
      unfold JL.logR JL.com1 DevL.lays
      rw[hee,if_neg hz,if_pos hz]
     have HLR:=Lib.hid hlr
     clear hee HEE hz hlr
     go_wp2_with fail
     go_ret
     rw[HLR.out]
     exact⟨rfl,HG3.out,HT3.out⟩
  ·obtain rfl:k=ws.length:=by omega
   have hki:¬((ws.length+1:Nat):Int)<(ws.length:Int)+1:=by omega
   obtain⟨lb,lo,rfl,hlb,hlF,x1,x2⟩:=HC.out 0 (by omega)
   have y2:=HT2.out.cell (F:=F) x2 hlF
   have he:=HE.out
   rw[drop_at (logW_end j ws),DevL.writes,List.drop_eq_nil_of_le (by rw[logW_len4];exact Nat.le_refl _)] at he
   simp only[DevL.writes] at he
   have hhl:(headL j.next ws).length=256:=headL_length _ _ h2
   have hw1:=HG2.out.write HD2.out (fun hx=>by have h1:=HP2.out hx;show d2.p.length≤_;omega) (j.place (ws.length+1):Nat) noughtsL (by rw[noughts_len];omega)
   simp only at hw1
   have hok:=DevL.write_ok HD2.out (j.place (ws.length+1):Nat) noughtsL
   have hpn:(d2.write (j.place (ws.length+1):Nat) noughtsL).1.dead=false→(d2.write (j.place (ws.length+1):Nat) noughtsL).1.p.length≤900100:=fun hx=>by
    have h1:=HP2.out (DevL.write_live _ _ _ hx)
    have h2:=DevL.write_p d2 (j.place (ws.length+1):Nat) noughtsL
    omega
   have hcst:((ws.length+1:Nat):Int)=(ws.length:Int)+1:=by omega
   have hpl:∀(W:World),Q wr W→Calls Tryz.prog 155 #[ptrV p,.int .i64 (IntKind.i64.wrap ((j.used:Int)+((ws.length:Int)+1)))] W fun e w'=>e=.returned (.int .i64 (j.place (ws.length+1):Nat))∧Q W w':=fun W q=>by have:=HPL.out W F d2 (HG2.out.box.stays q) (ws.length+1) (by omega);rwa [hcst] at this
   obtain⟨c0,c1,c2,c3,c4,c5,c6,c7⟩:=HG2.out.box.c8
   simp only at c0 c7
   have hnG:¬grow F w wr lb:=fun hc=>hc.elim hlF (fun hc=>by omega)
   generalize hdA:d2.write (j.place (ws.length+1):Nat) noughtsL=dA at *
   generalize j.place (ws.length+1)=pk at *
   have HPK:=Lib.hid hpl;have HW1:=Lib.hid hw1;have HEE:=Lib.hid he;have HOK:=Lib.hid hok;have HPN:=Lib.hid hpn;have HNG:=Lib.hid hnG;have KK:=Lib.hid (Q.refl wr);have HHL:=Lib.hid hhl
   clear hpl hw1 he hok hpn hdA x1 x2 c1 c2 c3 c4 c5 c6 hnG hcst hhl HE
   go_wp2_with fail
   go_region_held3 (fun w'=>w'.cell? ⟨p,0,none⟩=some (ptrV b)∧w'.cell? ⟨p,7,none⟩=some (.int .i64 (j.used:Nat)))
    (first|exact g0|exact⟨c0,c7⟩|exact two (by repeat (first|with_reducible exact KK.out|with_reducible exact Q.refl _|with_reducible apply Qs.dr|with_reducible apply Qs.al)) c0 c7)
    (first
     | (go_at_call 155;with_reducible refine(HPK.out _ (by repeat (first|with_reducible exact KK.out|with_reducible apply Qs.dr|with_reducible apply Qs.al))).mono ?_;rintro e w1 ⟨rfl,q1⟩;have s':Q wr w1:=Q.trans (by repeat (first|with_reducible exact KK.out|with_reducible apply Qs.dr|with_reducible apply Qs.al)) q1;clear KK;have KK:=Lib.hid s';clear s' q1)
     | (go_at_call 71;with_reducible refine(HNO.out _).mono ?_;rintro e w2 ⟨rfl,q2⟩;have s':Q wr w2:=Q.trans (by repeat (first|with_reducible exact KK.out|with_reducible apply Qs.dr|with_reducible apply Qs.al)) q2;clear KK;have KK:=Lib.hid s';clear s' q2)
     | (go_at_call 115;with_reducible refine(HW1.out _ (by repeat (first|with_reducible exact KK.out|with_reducible apply Qs.dr|with_reducible apply Qs.al))).mono ?_;rintro e w3 ⟨rfl,h3,t3⟩;have g:=Blk.c8 (RJrnAt.box h3);have g0:=And.intro g.1 g.2.2.2.2.2.2.2;clear g;have H3:=Lib.hid h3;have T3:=Lib.hid t3;clear h3 t3))
   all_goals
    have y3:=T3.out.cell y2 HNG.out
    have hs3:=RJrnAt.next HLT.out HT2.out H3.out T3.out
    have HG3:=Lib.hid hs3.1;have HT3:=Lib.hid hs3.2
    clear hs3 c0 c7 y2
    try clear g0
    by_cases hzA:dA.2=0
    case neg =>
     have e1:(dA.2==0)=false:=beq_eq_false_iff_ne.2 hzA
     have hee:=HEE.out
     rw[if_neg hzA] at hee
     have hlr:j.logR ws=dA:=by
      unfold JL.logR JL.com1 DevL.lays
      rw[hee,if_neg hzA,if_pos hzA]
     have HLR:=Lib.hid hlr
     clear hee hzA hlr
     go_wp2_with fail
     go_ret
     rw[HLR.out]
     exact⟨rfl,HG3.out,HT3.out⟩
    have e1:(dA.2==0)=true:=beq_iff_eq.2 hzA
    have hee:=HEE.out
    rw[if_pos hzA] at hee
    have hcm1:j.com1 ws=dA.1.flush:=by
     unfold JL.com1 DevL.lays
     rw[hee,if_pos rfl]
    have hfB:=HG3.out.flush HOK.out (fun hx=>by have h1:=HPN.out hx;show dA.1.p.length≤_;omega) w3 (Q.refl _)
    have hokB:=DevL.flush_ok HOK.out
    have hpB:dA.1.flush.1.dead=false→dA.1.flush.1.p.length≤900100:=fun hx=>by
     have:=HPN.out (DevL.flush_live _ hx);have:=DevL.flush_p dA.1;omega
    simp only at hfB hokB hpB
    generalize dA.1.flush=dB at *
    obtain⟨k0,_⟩:=HG3.out.box.c8
    have HCM1:=Lib.hid hcm1;have HFB:=Lib.hid hfB;have HOKB:=Lib.hid hokB;have HPB:=Lib.hid hpB
    have hnG3:¬grow F w w3 lb:=fun hc=>hc.elim hlF (fun hc=>by omega)
    have HNG3:=Lib.hid hnG3
    clear hee hzA hfB hokB hpB HEE hcm1 hnG3
    go_wp2_with fail
    refine HFB.out.mono ?_
    rintro e w4 ⟨rfl,h4,t4⟩
    have y4:=t4.cell y3 HNG3.out
    have hs4:=RJrnAt.next HLT.out HT3.out h4 t4
    have H4:=Lib.hid hs4.1;have T4:=Lib.hid hs4.2
    clear hs4 h4 t4 k0 y3
    by_cases hzB:dB.2=0
    case neg =>
     have e2:(dB.2==0)=false:=beq_eq_false_iff_ne.2 hzB
     have hlr:j.logR ws=dB:=by
      unfold JL.logR
      rw[HCM1.out,if_pos hzB]
     have HLR:=Lib.hid hlr
     clear hzB hlr
     go_wp2_with fail
     go_ret
     rw[HLR.out]
     exact⟨rfl,H4.out,T4.out⟩
    have e2:(dB.2==0)=true:=beq_iff_eq.2 hzB
    have hcm2:j.logR ws=dB.1.lays [(j.place 0,headL j.next ws)]:=by
     unfold JL.logR JL.com2
     rw[HCM1.out,if_neg (by rw[hzB];simp)]
    rw[lays_one] at hcm2
    simp only at hcm2
    have hw2:=H4.out.write HOKB.out (fun hx=>by have h1:=HPB.out hx;show dB.1.p.length≤_;omega) (j.place 0:Nat) (headL j.next ws) (by rw[HHL.out];omega)
    simp only at hw2
    have hok2:=DevL.write_ok HOKB.out (j.place 0:Nat) (headL j.next ws)
    have hpn2:(dB.1.write (j.place 0:Nat) (headL j.next ws)).1.dead=false→(dB.1.write (j.place 0:Nat) (headL j.next ws)).1.p.length≤900200:=fun hx=>by
     have h1:=HPB.out (DevL.write_live _ _ _ hx)
     have h2:=DevL.write_p dB.1 (j.place 0:Nat) (headL j.next ws)
     omega
    have hpl2:∀(W:World),Q w4 W→Calls Tryz.prog 155 #[ptrV p,.int .i64 (j.used:Nat)] W fun e w'=>e=.returned (.int .i64 (j.place 0:Nat))∧Q W w':=fun W q=>by
     have:=RPlace_any W p b { j with d:=dB.1 } j.used (H4.out.box.stays q) HN.out.log HN.out.log2 HN.out.place (by have:=HN.out.used;omega)
     exact this
    obtain⟨c0,c1,c2,c3,c4,c5,c6,c7⟩:=H4.out.box.c8
    simp only at c0 c7
    generalize dB.1.write (j.place 0:Nat) (headL j.next ws)=dC at *
    generalize headL j.next ws=hd at *
    generalize j.place 0=p0 at *
    have HPK2:=Lib.hid hpl2;have HW2:=Lib.hid hw2;have HCM2:=Lib.hid hcm2;have HOKC:=Lib.hid hok2;have HPC:=Lib.hid hpn2
    clear hpl2 hw2 hcm2 hok2 hpn2 c1 c2 c3 c4 c5 c6 hzB KK HCM1
    have KK:=Lib.hid (Q.refl w4)
    have hnG4:¬grow F w w4 lb:=fun hc=>hc.elim hlF (fun hc=>by omega)
    have HNG4:=Lib.hid hnG4
    have hi0:(0:Int)<(ws.length:Int)+1:=by omega
    clear hnG4
    go_wp2_with fail
    go_region_held3 (fun w'=>w'.cell? ⟨p,0,none⟩=some (ptrV b)∧w'.cell? ⟨p,7,none⟩=some (.int .i64 (j.used:Nat))∧w'.cell? ⟨lb,lo,none⟩=some (strV hd))
     (first|exact g0|exact⟨c0,c7,y4⟩|exact three (by repeat (first|with_reducible exact KK.out|with_reducible exact Q.refl _|with_reducible apply Qs.dr|with_reducible apply Qs.al)) c0 c7 y4)
     (first
      | (go_at_call 155;with_reducible refine(HPK2.out _ (by repeat (first|with_reducible exact KK.out|with_reducible apply Qs.dr|with_reducible apply Qs.al))).mono ?_;rintro e w5 ⟨rfl,q5⟩;have s':Q w4 w5:=Q.trans (by repeat (first|with_reducible exact KK.out|with_reducible apply Qs.dr|with_reducible apply Qs.al)) q5;clear KK;have KK:=Lib.hid s';clear s' q5)
      | (go_at_call 115;with_reducible refine(HW2.out _ (by repeat (first|with_reducible exact KK.out|with_reducible apply Qs.dr|with_reducible apply Qs.al))).mono ?_;rintro e w6 ⟨rfl,h6,t6⟩;have g:=Blk.c8 (RJrnAt.box h6);have g0:=And.intro g.1 (And.intro g.2.2.2.2.2.2.2 (Turn.cell t6 y4 HNG4.out));clear g;have H6:=Lib.hid h6;have T6:=Lib.hid t6;clear h6 t6))
    all_goals
     have hs6:=RJrnAt.next HLT.out T4.out H6.out T6.out
     have HG6:=Lib.hid hs6.1;have HT6:=Lib.hid hs6.2
     clear hs6 c0 c7 y4
     try clear g0
     by_cases hzC:dC.2=0
     case neg =>
      have e3:(dC.2==0)=false:=beq_eq_false_iff_ne.2 hzC
      have hlr:=HCM2.out
      rw[if_neg hzC] at hlr
      have HLR:=Lib.hid hlr
      clear hzC hlr
      go_wp2_with fail
      go_ret
      rw[HLR.out]
      exact⟨rfl,HG6.out,HT6.out⟩
     have e3:(dC.2==0)=true:=beq_iff_eq.2 hzC
     have hlr:=HCM2.out
     rw[if_pos hzC] at hlr
     have hfD:=HG6.out.flush HOKC.out (fun hx=>by have h1:=HPC.out hx;show dC.1.p.length≤_;omega) w6 (Q.refl _)
     simp only at hfD
     generalize dC.1.flush=dD at *
     obtain⟨k0,_⟩:=HG6.out.box.c8
     have HLR:=Lib.hid hlr;have HFD:=Lib.hid hfD
     clear hlr hfD hzC
     go_wp2_with fail
     refine HFD.out.mono ?_
     rintro e w7 ⟨rfl,h7,t7⟩
     have hs7:=RJrnAt.next HLT.out HT6.out h7 t7
     have HS7:=Lib.hid hs7
     clear hs7 h7 t7 k0
     go_wp2_with fail
     go_ret
     rw[HLR.out]
     exact⟨rfl,HS7.out.1,HS7.out.2⟩
theorem JCheck_any(w:World)(F:Nat→Prop)(p b:Nat)(j:JL)(lv:Value)(ws:List WrL)(h:JrnAt w F p b j)(hl:Sl w lv ws.length 2 (wrVs ws))(hw:WrOk ws)(hh:∀x∈ws,j.home≤x.1∧x.1<j.d.l.length)(hlog:j.s.log≤1000000):
  Calls Tryz.prog 105 #[ptrV p,lv] w fun e w'=>e=.returned (.int .i64 0)∧Q w w':=by
 obtain⟨la,lc,rfl,hlc⟩:=hl.value
 have hcell:∀k (hk:k<ws.length),∃lb lo,la=some ⟨lb,lo,none⟩∧w.cell? ⟨lb,lo+k*2,none⟩=some (.int .i64 (ws[k].1:Nat))∧w.cell? ⟨lb,lo+k*2+1,none⟩=some (strV ws[k].2):=fun k hk=>by
  obtain⟨lb,lo,h1,h4⟩:=hlc (by omega)
  exact⟨lb,lo,h1,h4 _ _ (wrVs_at ws k hk).1,by have:=h4 _ _ (wrVs_at ws k hk).2;rwa [←Nat.add_assoc] at this⟩
 have hok:∀k (hk:k<ws.length),(j.home≤ws[k].1∧ws[k].1<j.d.l.length)∧ws[k].2.length=256:=fun k hk=>⟨hh _ (List.getElem_mem hk),(hw.2.2 _ (List.getElem_mem hk)).2⟩
 have hn1:=hw.1;have hn2:=hw.2.1
 have hhm:=fun (W:World) (hq:Q w W) (i:Int)=>HomeI_any W F p b j i (h.keep hq).box (h.keep hq).dev hlog
 have HC:=Lib.hid hcell;have HO:=Lib.hid hok;have HM:=Lib.hid hhm
 have hb0:¬(ws.length:Int)=0:=by omega
 have hb1:((ws.length:Int)==0)=false:=beq_eq_false_iff_ne.2 hb0
 have hb2:¬(48:Int)<(ws.length:Int):=by omega
 clear hcell hok hhm hw hh h hl hlc
 go_enter Tryz.func105,Tryz.ntmps105
 go_wp2_with fail
 go_loopw [17] (fun v wr=>∃k:Nat,v=.int .i64 (k:Nat)∧k≤ws.length∧Hid (Q w wr)) (fun v _=>ws.length-(intOf v).toNat)
 case atStart=>exact⟨0,rfl,Nat.zero_le _,Q.refl _⟩
 case round =>
  obtain⟨k,rfl,hk,HQ⟩:=hrel
  by_cases hlt:k<ws.length
  ·have hki:(k:Int)<(ws.length:Int):=by omega
   obtain⟨lb,lo,rfl,x1,x2⟩:=HC.out k hlt
   have y1:=cellQ HQ.out x1;have y2:=cellQ HQ.out x2
   obtain⟨⟨h1,h2⟩,hdl⟩:=HO.out k hlt
   have hqa:=Q.alloc wr (.cells #[.int .i64 (ws[k].1:Nat),strV ws[k].2] 102)
   have hm:=HM.out _ (HQ.out.trans hqa) (ws[k].1:Nat)
   have e1:decide ((j.home:Int)≤((ws[k].1:Nat):Int))=true:=decide_eq_true (by omega)
   have e2:decide (((ws[k].1:Nat):Int)<(j.d.l.length:Int))=true:=decide_eq_true (by omega)
   rw[e1,e2] at hm
   have HMM:=Lib.hid hm;have HQA:=Lib.hid (HQ.out.trans hqa)
   clear hm hqa x1 x2 e1 e2 h1 h2
   generalize ws[k].1=bk at *
   generalize ws[k].2=dk at *
   have hb5:(!((dk.length:Int)==256))=false:=by rw[beq_iff_eq.2 (by omega)];rfl
   go_wp2_with fail
   refine HMM.out.mono ?_
   rintro e w1 ⟨rfl,rfl⟩
   go_wp2_with fail
   go_roundw
   case rel=>exact⟨k+1,by go_num,by omega,HQA⟩
   case measure=>simp[intOf];omega
  ·have hki:¬(k:Int)<(ws.length:Int):=by omega
   go_wp2_with fail
   go_ret
   exact⟨rfl,HQ.out⟩
end
end Go.Proofs.YthcpkgfieoneeaaGreatDoor
