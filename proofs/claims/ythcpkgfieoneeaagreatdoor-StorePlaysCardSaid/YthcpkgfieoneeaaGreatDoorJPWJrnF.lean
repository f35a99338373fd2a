/- Joined texts of one proof: what is needed of WJrnF. -/
import Derived.Test.YthcpkgfieoneeaaGreatDoorJPWJrnB
import Derived.Test.YthcpkgfieoneeaaGreatDoorJPRange3
import Derived.Test.YthcpkgfieoneeaaGreatDoorJPKit
import Derived.Deep.RegionLaw
import Derived.Laws.ResultCell
import Derived.Laws.Rows
set_option linter.unusedSimpArgs false
set_option linter.unusedVariables false
set_option linter.unnecessarySimpa false
set_option maxRecDepth 100000
set_option maxHeartbeats 16000000
namespace Go.Proofs.YthcpkgfieoneeaaGreatDoor
section
open Go.RowKit
def vAt(t:Bytes)(k j:Nat):Value:=.int .u64 (if j<k then(unfix (t.drop (4+4*j)):Nat) else 0:Nat)
def vArr(t:Bytes)(k:Nat):Array Value:=#[vAt t k 0,vAt t k 1,vAt t k 2,vAt t k 3,vAt t k 4,vAt t k 5]
theorem vArr_step(t:Bytes)(k:Nat)(h:k<6):(vArr t k).setIfInBounds k (.int .u64 (unfix (t.drop (4+4*k)):Nat))=vArr t (k+1):=by
 rcases (by omega:k=0∨k=1∨k=2∨k=3∨k=4∨k=5) with rfl|rfl|rfl|rfl|rfl|rfl<;>rfl
theorem vArr_at(t:Bytes)(k:Nat)(h:k<6):(vArr t k)[k]?=some (.int .u64 0):=by
 rcases (by omega:k=0∨k=1∨k=2∨k=3∨k=4∨k=5) with rfl|rfl|rfl|rfl|rfl|rfl<;>rfl
theorem or64(a b c:Nat)(ha:a<4294967296)(hb:b<4294967296)(hc:c=a*4294967296+b):bits .or .u64 ((a:Int)*4294967296) (b:Int)=((c:Nat):Int):=by
 subst hc
 rw[show((a:Int)*4294967296)=((a*4294967296:Nat):Int) by omega,u64_or_nat _ _ (by omega) (by omega),nat_join 32 (a*4294967296) b (by rw[show(2:Nat) ^ 32=4294967296 from rfl,Nat.mul_mod_left]) hb]
theorem results_ct{P:Program}{fn:Func}{p u:Tmp}{ty:TypeId}(h:fn.results=#[.cell p ty,.tmp u])(tmps:Array Value)(w:World)(g:Nat)(t:TypeId)(cs:Array Value)(fr:Nat×Nat)(d:TypeDesc)
  (hp:tmps.getD p undef=.pointer (some ⟨g,0,none⟩)) (hg:w.heap[g]?=some (.cells cs t fr))
  (hu:P.underlying ty=some d) (hd:(match d with | .struct _ | .array _ _=>true|_=>false)=true) (hi:(P.info? ty).map (·.size)=some cs.size) :
  (results fn tmps).run P w=.ok (.tuple #[.agg cs,tmps.getD u undef]) w:=by
 have hp':(asAddr (tmps.getD p undef)).run P w=.ok ⟨g,0,none⟩ w:=by rw[hp];simp[asAddr,go_sem]
 rw[results_cell_tmp h,hp']
 simp only[Result.andThen,run_loadVar_row w g t ty cs fr d hg hu hd hi]
theorem box4{w:World}{k:Nat}{T:TypeId}{a b c d:Value}(h:Blk w k T #[a,b,c,d])(x y z u:Value):Blk ((((w.setCell ⟨k,0,none⟩ x).setCell ⟨k,1,none⟩ y).setCell ⟨k,2,none⟩ z).setCell ⟨k,3,none⟩ u) k T #[x,y,z,u]:=(((h.set 0 x).set 1 y).set 2 z).set 3 u
abbrev slotV(s:SlotL):Value:=.agg #[.int .u64 (s.e:Nat),.int .u64 (s.s:Nat),.int .i64 (s.log:Nat),.int .i64 (s.place:Nat)]
theorem ToSlot_any(t:Bytes)(n:Nat)(w:World)(ht:t.length=256)(hn:n≤4096):
  Calls Tryz.prog 127 #[strV t,.int .i64 (n:Nat)] w fun e w'=>(∃s0:SlotL,e=.returned (.tuple #[slotV s0,.bool (toSlotL t n).isSome])∧∀s,toSlotL t n=some s→s=s0)∧Q w w':=by
 have ctf:=fun (k:Nat) (hk:k<6) (W:World)=>ToFixed_any (t.drop (4+4*k)) W (by rw[List.length_drop];omega) (by rw[List.length_drop];omega)
 have CTF:=Lib.hid ctf
 have h4:(4:Int)≤(t.length:Int):=by omega
 clear ctf
 go_enter Tryz.func127,Tryz.ntmps127
 go_wp2_with fail
 have hx:({ data:=t.toArray }:ByteArray).extract 4 256=⟨(t.drop 4).toArray⟩:=by rw[←ht];exact bytes_drop t 4
 rw[hx]
 clear hx
 have hb0:=Blk.new w 108 #[.int .u64 0,.int .u64 0,.int .i64 0,.int .i64 0]
 have hq0:=Q.alloc w (.cells #[.int .u64 0,.int .u64 0,.int .i64 0,.int .i64 0] 108)
 have hs0:(w.alloc (.cells #[.int .u64 0,.int .u64 0,.int .i64 0,.int .i64 0] 108)).heap.size=w.heap.size+1:=by simp
 generalize hw1:w.alloc (.cells #[.int .u64 0,.int .u64 0,.int .i64 0,.int .i64 0] 108)=w1 at *
 have hb1:=Blk.new w1 193 (vArr t 0)
 have hq1:=Q.alloc w1 (.cells (vArr t 0) 193)
 have hv0:vArr t 0=#[.int .u64 0,.int .u64 0,.int .u64 0,.int .u64 0,.int .u64 0,.int .u64 0]:=rfl
 rw[hs0] at hb1
 rw[hv0] at hb1 hq1
 have hb0':=hb0.stays hq1
 generalize hw2:w1.alloc (.cells #[.int .u64 0,.int .u64 0,.int .u64 0,.int .u64 0,.int .u64 0,.int .u64 0] 193)=w2 at *
 rw[←hv0] at hb1
 have HB0:=Lib.hid hb0';have HB1:=Lib.hid hb1;have HQ:=Lib.hid (hq0.trans hq1)
 clear hb0 hb0' hb1 hq0 hq1 hv0 hw1 hw2 hs0
 go_loopw [7,15] (fun rv v wr=>∃k:Nat,v=.int .i64 (k:Nat)∧k≤6∧rv=strV (t.drop (4+4*k))∧Hid (Blk wr w.heap.size 108 #[.int .u64 0,.int .u64 0,.int .i64 0,.int .i64 0])∧Hid (Blk wr (w.heap.size+1) 193 (vArr t k))∧Hid (Q w wr)) (fun _ v _=>6-(intOf v).toNat)
 case atStart=>exact⟨0,rfl,Nat.zero_le _,rfl,HB0,HB1,HQ⟩
 case round =>
  obtain⟨k,rfl,hk,rfl,HB2,HB3,HQ2⟩:=hrel
  by_cases hlt:k<6
  ·have hki:(k:Int)<6:=by omega
   have hki0:(0:Int)≤(k:Int):=by omega
   have hdd:(t.drop (4+4*k)).drop 4=t.drop (4+4*(k+1)):=by rw[List.drop_drop];congr 1
   have hc:=CTF.out k hlt wr
   rw[hdd] at hc
   have hul:=unfix_lt (t.drop (4+4*k))
   have hvs:=vArr_step t k hlt
   have hva:=vArr_at t k hlt
   have HC:=Lib.hid hc;have HVS:=Lib.hid hvs;have HVA:=Lib.hid hva
   clear hc hdd hvs hva
   generalize unfix (t.drop (4+4*k))=u at *
   generalize t.drop (4+4*k)=r0 at *
   go_wp2_with fail
   refine HC.out.mono ?_
   rintro e w3 ⟨rfl,q3⟩
   have hb3:=HB3.out.stays q3
   have hcl:=hb3.cell k _ HVA.out
   have hfr:=hb3.frozen k
   have HB5:=Lib.hid (hb3.set k (.int .u64 (u:Nat)));have HB4:=Lib.hid ((HB2.out.stays q3).other ⟨w.heap.size+1,k,none⟩ (.int .u64 (u:Nat)) (by simp));have HQ3:=Lib.hid (Qs.st (HQ2.out.trans q3) ⟨w.heap.size+1,k,none⟩ (.int .u64 (u:Nat)) (by simp))
   clear q3 hb3
   go_wp2_with fail
   go_roundw
   case rel=>exact⟨k+1,by go_num,by omega,rfl,HB4,by rw[←HVS.out];exact HB5,HQ3⟩
   case measure=>simp[intOf];omega
  ·have hki:¬(k:Int)<6:=by omega
   obtain rfl:k=6:=by omega
   have hb6:=HB3.out
   rw[show vArr t 6=#[.int .u64 (unfix (t.drop 4):Nat),.int .u64 (unfix (t.drop 8):Nat),.int .u64 (unfix (t.drop 12):Nat),.int .u64 (unfix (t.drop 16):Nat),.int .u64 (unfix (t.drop 20):Nat),.int .u64 (unfix (t.drop 24):Nat)] from rfl] at hb6
   have hsl:slotOf t=⟨unfix (t.drop 8)*4294967296+unfix (t.drop 4),unfix (t.drop 16)*4294967296+unfix (t.drop 12),unfix (t.drop 20),unfix (t.drop 24)⟩:=rfl
   have l0:=unfix_lt (t.drop 4);have l1:=unfix_lt (t.drop 8);have l2:=unfix_lt (t.drop 12);have l3:=unfix_lt (t.drop 16);have l4:=unfix_lt (t.drop 20);have l5:=unfix_lt (t.drop 24)
   have hts:toSlotL t n=if 50≤(slotOf t).log∧(slotOf t).log+3≤n∧(slotOf t).place<(slotOf t).log∧slotT (slotOf t)=t then some (slotOf t) else none:=rfl
   have hso:=slotOf_ok t
   generalize unfix (t.drop 4)=u0 at *
   generalize unfix (t.drop 8)=u1 at *
   generalize unfix (t.drop 12)=u2 at *
   generalize unfix (t.drop 16)=u3 at *
   generalize unfix (t.drop 20)=u4 at *
   generalize unfix (t.drop 24)=u5 at *
   have x0:=hb6.cell 0 _ rfl;have x1:=hb6.cell 1 _ rfl;have x2:=hb6.cell 2 _ rfl;have x3:=hb6.cell 3 _ rfl;have x4:=hb6.cell 4 _ rfl;have x5:=hb6.cell 5 _ rfl
   have HSL:=Lib.hid hsl;have HTS:=Lib.hid hts;have HSO:=Lib.hid hso
   clear hb6 hsl hts hso
   go_upto_region 10 with fail
   obtain⟨ee,hee⟩:∃ee,ee=u1*4294967296+u0:=⟨_,rfl⟩
   obtain⟨ss,hss⟩:∃ss,ss=u3*4294967296+u2:=⟨_,rfl⟩
   have hsl2:slotOf t=⟨ee,ss,u4,u5⟩:=HSL.out.trans (by subst hee;subst hss;rfl)
   rw[or64 u1 u0 ee l1 l0 hee,or64 u3 u2 ss l3 l2 hss]
   have HSL2:=Lib.hid hsl2
   clear HSL hsl2 hee hss l0 l1 l2 l3
   have hqa:=Q.alloc wr (.cells #[.int .u64 (ee:Nat),.int .u64 (ss:Nat),.int .i64 (u4:Nat),.int .i64 (u5:Nat)] 108)
   obtain⟨s0,s1,s2,s3,_⟩:=(Blk.new wr 108 #[.int .u64 (ee:Nat),.int .u64 (ss:Nat),.int .i64 (u4:Nat),.int .i64 (u5:Nat)]).c4
   have hbx:=HB2.out.stays hqa
   obtain⟨b0,b1,b2,b3,f0,f1,f2,f3⟩:=hbx.c4
   generalize hwb:wr.alloc (.cells #[.int .u64 (ee:Nat),.int .u64 (ss:Nat),.int .i64 (u4:Nat),.int .i64 (u5:Nat)] 108)=wb at *
   have HBX:=Lib.hid hbx;have HQB:=Lib.hid (HQ2.out.trans hqa)
   clear hqa hbx hwb x0 x1 x2 x3 x4 x5
   have hwa:IntKind.i64.wrap ((n:Int)-2)=(n:Int)-2:=IntWalk.i64_in _ (by omega)
   have hwb:IntKind.i64.wrap ((n:Int)-2-1)=(n:Int)-2-1:=IntWalk.i64_in _ (by omega)
   by_cases h50:50≤u4
   ·have e1:(50:Int)≤(u4:Int):=by omega
    by_cases hln:u4+3≤n
    ·have e2:(u4:Int)≤(n:Int)-2-1:=by omega
     by_cases hpl:u5<u4
     ·have e3:(u5:Int)<(u4:Int):=by omega
      have hso2:=HSO.out
      rw[HSL2.out] at hso2
      have cst:=fun (W:World)=>SlotText_any ⟨ee,ss,u4,u5⟩ hso2 W
      have CST:=Lib.hid cst
      have hts:=HTS.out
      rw[HSL2.out] at hts
      have hres:(toSlotL t n).isSome=(slotT ⟨ee,ss,u4,u5⟩==t)∧∀s,toSlotL t n=some s→s=⟨ee,ss,u4,u5⟩:=by
       rw[hts]
       by_cases heq:slotT ⟨ee,ss,u4,u5⟩=t
       ·rw[if_pos ⟨h50,hln,hpl,heq⟩,beq_iff_eq.2 heq]
        exact⟨rfl,fun s hs=>(Option.some.inj hs).symm⟩
       ·rw[if_neg (fun h=>heq h.2.2.2),beq_eq_false_iff_ne.2 heq]
        exact⟨rfl,fun s hs=>absurd hs (by simp)⟩
      have HRES:=Lib.hid hres
      clear cst hso2 hts hres
      generalize slotT ⟨ee,ss,u4,u5⟩=st at *
      go_region_law
       (first
        | (go_simp;go_at_call 139;with_reducible refine(CST.out _).mono ?_;rintro e w5 ⟨rfl,q5⟩;have s':Q wb w5:=(by first|exact(Q.drew _).trans q5|exact q5);have g0:=cellQ s' s0;have g1:=cellQ s' s1;have g2:=cellQ s' s2;have g3:=cellQ s' s3;have hb5:=HBX.out.stays s';obtain⟨a0,a1,a2,a3,d0,d1,d2,d3⟩:=hb5.c4;have S':=Lib.hid s';have HB5:=Lib.hid hb5;clear s' q5 hb5))
      all_goals
       go_wp2_with fail
       (try simp only[Exit.inBlock,Exit.then])
       first
        | refine bodyPost_ret (results_ct rfl _ _ w.heap.size 108 _ (0,0) _ rfl (box4 HB5.out (.int .u64 (ee:Nat)) (.int .u64 (ss:Nat)) (.int .i64 (u4:Nat)) (.int .i64 (u5:Nat))) Tryz.underlying108 rfl (by kernel_rfl)) rfl ?_
        | refine bodyPost_ret (results_ct rfl _ _ w.heap.size 108 _ (0,0) _ rfl (box4 (HB5.out.stays (Q.drew _)) (.int .u64 (ee:Nat)) (.int .u64 (ss:Nat)) (.int .i64 (u4:Nat)) (.int .i64 (u5:Nat))) Tryz.underlying108 rfl (by kernel_rfl)) rfl ?_
       refine⟨⟨⟨ee,ss,u4,u5⟩,?_,fun s hs=>?_⟩,?_⟩
       ·rw[HRES.out.1];rfl
       ·exact HRES.out.2 s hs
       ·first
         | exact Qs.st (Qs.st (Qs.st (Qs.st (HQB.out.trans S'.out) _ _ (Nat.le_refl _)) _ _ (Nat.le_refl _)) _ _ (Nat.le_refl _)) _ _ (Nat.le_refl _)
         | exact Qs.st (Qs.st (Qs.st (Qs.st (HQB.out.trans (S'.out.trans (Q.drew _))) _ _ (Nat.le_refl _)) _ _ (Nat.le_refl _)) _ _ (Nat.le_refl _)) _ _ (Nat.le_refl _)
     ·have e3:¬(u5:Int)<(u4:Int):=by omega
      have hno:toSlotL t n=none:=by rw[HTS.out,HSL2.out,if_neg (fun h=>hpl h.2.2.1)]
      have HNO:=Lib.hid hno
      clear hno
      go_region
      all_goals
       go_wp2_with fail
       have hbz:=box4 (HBX.out.stays (Q.drew _)) (.int .u64 (ee:Nat)) (.int .u64 (ss:Nat)) (.int .i64 (u4:Nat)) (.int .i64 (u5:Nat))
       (try simp only[Exit.inBlock,Exit.then])
       refine bodyPost_ret (results_ct rfl _ _ w.heap.size 108 _ (0,0) _ rfl hbz Tryz.underlying108 rfl (by kernel_rfl)) rfl ?_
       refine⟨⟨⟨ee,ss,u4,u5⟩,?_,fun s hs=>?_⟩,?_⟩
       ·rw[HNO.out];rfl
       ·rw[HNO.out] at hs;exact absurd hs (by simp)
       ·exact Qs.st (Qs.st (Qs.st (Qs.st (HQB.out.trans (Q.drew _)) _ _ (Nat.le_refl _)) _ _ (Nat.le_refl _)) _ _ (Nat.le_refl _)) _ _ (Nat.le_refl _)
    ·have e2:¬(u4:Int)≤(n:Int)-2-1:=by omega
     have hno:toSlotL t n=none:=by rw[HTS.out,HSL2.out,if_neg (fun h=>hln h.2.1)]
     have HNO:=Lib.hid hno
     clear hno
     go_region
     all_goals
      go_wp2_with fail
      have hbz:=box4 (HBX.out.stays (Q.drew _)) (.int .u64 (ee:Nat)) (.int .u64 (ss:Nat)) (.int .i64 (u4:Nat)) (.int .i64 (u5:Nat))
      (try simp only[Exit.inBlock,Exit.then])
      refine bodyPost_ret (results_ct rfl _ _ w.heap.size 108 _ (0,0) _ rfl hbz Tryz.underlying108 rfl (by kernel_rfl)) rfl ?_
      refine⟨⟨⟨ee,ss,u4,u5⟩,?_,fun s hs=>?_⟩,?_⟩
      ·rw[HNO.out];rfl
      ·rw[HNO.out] at hs;exact absurd hs (by simp)
      ·exact Qs.st (Qs.st (Qs.st (Qs.st (HQB.out.trans (Q.drew _)) _ _ (Nat.le_refl _)) _ _ (Nat.le_refl _)) _ _ (Nat.le_refl _)) _ _ (Nat.le_refl _)
   ·have e1:¬(50:Int)≤(u4:Int):=by omega
    have hno:toSlotL t n=none:=by rw[HTS.out,HSL2.out,if_neg (fun h=>h50 h.1)]
    have HNO:=Lib.hid hno
    clear hno
    go_region
    all_goals
     go_wp2_with fail
     have hbz:=box4 (HBX.out.stays (Q.drew _)) (.int .u64 (ee:Nat)) (.int .u64 (ss:Nat)) (.int .i64 (u4:Nat)) (.int .i64 (u5:Nat))
     (try simp only[Exit.inBlock,Exit.then])
     refine bodyPost_ret (results_ct rfl _ _ w.heap.size 108 _ (0,0) _ rfl hbz Tryz.underlying108 rfl (by kernel_rfl)) rfl ?_
     refine⟨⟨⟨ee,ss,u4,u5⟩,?_,fun s hs=>?_⟩,?_⟩
     ·rw[HNO.out];rfl
     ·rw[HNO.out] at hs;exact absurd hs (by simp)
     ·exact Qs.st (Qs.st (Qs.st (Qs.st (HQB.out.trans (Q.drew _)) _ _ (Nat.le_refl _)) _ _ (Nat.le_refl _)) _ _ (Nat.le_refl _)) _ _ (Nat.le_refl _)
end
end Go.Proofs.YthcpkgfieoneeaaGreatDoor
