/- Joined: WJrnF to WJrnF -/
import Derived.Test.YtbkahhebmpehnaaGreatDoorCXWCacI
set_option linter.all false
set_option maxRecDepth 100000
set_option maxHeartbeats 8000000
namespace Go.Proofs.YtbkahhebmpehnaaGreatDoor
open Go.Proofs.Tryz
section
open Go.RowKit
def vAt(t:Bytes)(k j:Nat):Value:=.int .u64 (if j<k then(aM (t.drop (4+4*j)):Nat) else 0:Nat)
def ky(t:Bytes)(k:Nat):Array Value:=#[vAt t k 0,vAt t k 1,vAt t k 2,vAt t k 3,vAt t k 4,vAt t k 5]
theorem sX(t:Bytes)(k:Nat)(h:k<6):(ky t k).setIfInBounds k (.int .u64 (aM (t.drop (4+4*k)):Nat))=ky t (k+1):=by
 rcases (by omega:k=0∨k=1∨k=2∨k=3∨k=4∨k=5) with rfl|rfl|rfl|rfl|rfl|rfl<;>rfl
theorem IM(t:Bytes)(k:Nat)(h:k<6):(ky t k)[k]?=some (.int .u64 0):=by
 rcases (by omega:k=0∨k=1∨k=2∨k=3∨k=4∨k=5) with rfl|rfl|rfl|rfl|rfl|rfl<;>rfl
theorem Kx(a b c:Nat)(ha:a<4294967296)(hb:b<4294967296)(hc:c=a*4294967296+b):bits .or .u64 ((a:Int)*4294967296) (b:Int)=((c:Nat):Int):=by
 subst hc;rw[show((a:Int)*4294967296)=((a*4294967296:Nat):Int) by omega,u64_or_nat _ _ U U,nat_join 32 (a*4294967296) b (by rw[show(2:Nat) ^ 32=4294967296 from rfl,acr]) hb]
theorem kQ{P:Program}{fn:Func}{p u:Tmp}{ty:TypeId}(h:fn.results=#[.cell p ty,.tmp u])(tmps:Array Value)(w:World)(g:Nat)(t:TypeId)(cs:Array Value)(fr:Nat×Nat)(d:TypeDesc)
  (hp:tmps.getD p undef=.pointer (some ⟨g,0,none⟩)) (hg:w.heap[g]?=some (.cells cs t fr))
  (hu:P.underlying ty=some d) (hd:(match d with | .struct _ | .array _ _=>true|_=>false)=true) (hi:(P.info? ty).map (·.size)=some cs.size) :
  (results fn tmps).run P w=.ok (.tuple #[.agg cs,tmps.getD u undef]) w:=by
 have RI:(asAddr (tmps.getD p undef)).run P w=.ok ⟨g,0,none⟩ w:=by rw[hp];simp[asAddr,go_sem]
 rw[results_cell_tmp h,RI];simp only[Result.andThen,run_loadVar_row w g t ty cs fr d hg hu hd hi]
theorem yE{w:World}{k:Nat}{T:TypeId}{a b c d:Value}(h:Blk w k T #[a,b,c,d])(x y z u:Value):Blk ((((w.setCell ⟨k,0,none⟩ x).setCell ⟨k,1,none⟩ y).setCell ⟨k,2,none⟩ z).setCell ⟨k,3,none⟩ u) k T #[x,y,z,u]:=(((h.set 0 x).set 1 y).set 2 z).set 3 u
abbrev Ly(s:bu):Value:=.agg #[.int .u64 (s.e:Nat),.int .u64 (s.s:Nat),.int .i64 (s.log:Nat),.int .i64 (s.place:Nat)]
theorem Xh(t:Bytes)(n:Nat)(w:World)(ht:t.length=256)(hn:n≤4096):
  Calls prog 217 #[ah t,.int .i64 (n:Nat)] w fun e w'=>(∃s0:bu,e=.returned (.tuple #[Ly s0,.bool (aR t n).isSome])∧∀s,aR t n=some s→s=s0)∧Q w w':=by
 have ctf:=fun (k:Nat) (hk:k<6) (W:World)=>IX (t.drop (4+4*k)) W (by rw[L5];omega) (by rw[L5];omega)
 have Ma:=Hd ctf;have h4:(4:Int)≤(t.length:Int):=U;clear ctf;go_enter func217,ntmps217;go_wp2_with fail;have hx:({ data:=t.toArray }:ByteArray).extract 4 256=⟨(t.drop 4).toArray⟩:=by rw[←ht];exact fI t 4
 rw[hx];clear hx;have eH:=Blk.new w 214 #[.int .u64 0,.int .u64 0,.int .i64 0,.int .i64 0];have ji:=Q.alloc w (.cells #[.int .u64 0,.int .u64 0,.int .i64 0,.int .i64 0] 214);have wO:(w.alloc (.cells #[.int .u64 0,.int .u64 0,.int .i64 0,.int .i64 0] 214)).heap.size=w.heap.size+1:=κ;generalize eO:w.alloc (.cells #[.int .u64 0,.int .u64 0,.int .i64 0,.int .i64 0] 214)=w1 at *;have hb1:=Blk.new w1 304 (ky t 0);have pR:=Q.alloc w1 (.cells (ky t 0) 304);have Ta:ky t 0=#[.int .u64 0,.int .u64 0,.int .u64 0,.int .u64 0,.int .u64 0,.int .u64 0]:=rfl;rw[wO] at hb1;rw[Ta] at hb1 pR;have MZ:=eH.stays pR;generalize gD:w1.alloc (.cells #[.int .u64 0,.int .u64 0,.int .u64 0,.int .u64 0,.int .u64 0,.int .u64 0] 304)=w2 at *;rw[←Ta] at hb1;have wG:=Hd MZ;have Bl:=Hd hb1;have HQ:=Hd (ji.trans pR);clear eH MZ hb1 ji pR Ta eO gD wO;go_loopw [7,15] (fun rv v wr=>∃k:Nat,v=.int .i64 (k:Nat)∧k≤6∧rv=ah (t.drop (4+4*k))∧Hid (Blk wr w.heap.size 214 #[.int .u64 0,.int .u64 0,.int .i64 0,.int .i64 0])∧Hid (Blk wr (w.heap.size+1) 304 (ky t k))∧Hid (Q w wr)) (fun _ v _=>6-(intOf v).toNat)
 case atStart=>exact⟨0,rfl,L0 _,rfl,wG,Bl,HQ⟩
 case round =>
  obtain⟨k,rfl,hk,rfl,qC,qI,bJ⟩:=hrel;by_cases ay:k<6
  ·have bq:(k:Int)<6:=U
   have EP:(0:Int)≤(k:Int):=U;have lW:(t.drop (4+4*k)).drop 4=t.drop (4+4*(k+1)):=by rw[N6];congr 1
   have hc:=Ma.out k ay wr;rw[lW] at hc;have nk:=eU (t.drop (4+4*k));have Br:=sX t k ay;have Hu:=IM t k ay;have HC:=Hd hc;have HVS:=Hd Br;have HVA:=Hd Hu;clear hc lW Br Hu;generalize aM (t.drop (4+4*k))=u at *;generalize t.drop (4+4*k)=r0 at *;go_wp2_with fail;refine HC.out.mono ?_;rintro e w3 ⟨rfl,q3⟩;have gI:=qI.out.stays q3;have bL:=gI.cell k _ HVA.out;have dQ:=gI.frozen k;have wM:=Hd (gI.set k (.int .u64 (u:Nat)));have VA:=Hd ((qC.out.stays q3).other ⟨w.heap.size+1,k,none⟩ (.int .u64 (u:Nat)) κ);have fu:=Hd (Qs.st (bJ.out.trans q3) ⟨w.heap.size+1,k,none⟩ (.int .u64 (u:Nat)) κ);clear q3 gI;go_wp2_with fail;go_roundw;case rel=>exact⟨k+1,by go_num,U,rfl,VA,by rw[←HVS.out];exact wM,fu⟩
   case measure=>simp[intOf];omega
  ·have bq:¬(k:Int)<6:=U
   obtain rfl:k=6:=U;have tQ:=qI.out;rw[show ky t 6=#[.int .u64 (aM (t.drop 4):Nat),.int .u64 (aM (t.drop 8):Nat),.int .u64 (aM (t.drop 12):Nat),.int .u64 (aM (t.drop 16):Nat),.int .u64 (aM (t.drop 20):Nat),.int .u64 (aM (t.drop 24):Nat)] from rfl] at tQ
   have bX:gP t=⟨aM (t.drop 8)*4294967296+aM (t.drop 4),aM (t.drop 16)*4294967296+aM (t.drop 12),aM (t.drop 20),aM (t.drop 24)⟩:=rfl;have l0:=eU (t.drop 4);have l1:=eU (t.drop 8);have l2:=eU (t.drop 12);have l3:=eU (t.drop 16);have l4:=eU (t.drop 20);have l5:=eU (t.drop 24);have mR:aR t n=if 50≤(gP t).log∧(gP t).log+3≤n∧(gP t).place<(gP t).log∧aQ (gP t)=t then some (gP t) else none:=rfl
   have ig:=FU t;generalize aM (t.drop 4)=u0 at *;generalize aM (t.drop 8)=u1 at *;generalize aM (t.drop 12)=u2 at *;generalize aM (t.drop 16)=u3 at *;generalize aM (t.drop 20)=u4 at *;generalize aM (t.drop 24)=u5 at *;have x0:=tQ.cell 0 _ rfl;have x1:=tQ.cell 1 _ rfl;have x2:=tQ.cell 2 _ rfl;have x3:=tQ.cell 3 _ rfl;have x4:=tQ.cell 4 _ rfl;have x5:=tQ.cell 5 _ rfl;have xG:=Hd bX;have wL:=Hd mR;have Bo:=Hd ig;clear tQ bX mR ig;go_upto_region 10 with fail;obtain⟨ee,eX⟩:∃ee,ee=u1*4294967296+u0:=⟨_,rfl⟩;obtain⟨ss,O3⟩:∃ss,ss=u3*4294967296+u2:=⟨_,rfl⟩;have Dx:gP t=⟨ee,ss,u4,u5⟩:=xG.out.trans (by subst eX;subst O3;rfl)
   rw[Kx u1 u0 ee l1 l0 eX,Kx u3 u2 ss l3 l2 O3];have M5:=Hd Dx;clear xG Dx eX O3 l0 l1 l2 l3;have jJ:=Q.alloc wr (.cells #[.int .u64 (ee:Nat),.int .u64 (ss:Nat),.int .i64 (u4:Nat),.int .i64 (u5:Nat)] 214);obtain⟨s0,s1,s2,s3,_⟩:=(Blk.new wr 214 #[.int .u64 (ee:Nat),.int .u64 (ss:Nat),.int .i64 (u4:Nat),.int .i64 (u5:Nat)]).c4;have bZ:=qC.out.stays jJ;obtain⟨b0,b1,b2,b3,f0,f1,f2,f3⟩:=bZ.c4;generalize rV:wr.alloc (.cells #[.int .u64 (ee:Nat),.int .u64 (ss:Nat),.int .i64 (u4:Nat),.int .i64 (u5:Nat)] 214)=wb at *;have ou:=Hd bZ;have Zy:=Hd (bJ.out.trans jJ);clear jJ bZ rV x0 x1 x2 x3 x4 x5;have dO:IntKind.i64.wrap ((n:Int)-2)=(n:Int)-2:=IntWalk.i64_in _ U;have rV:IntKind.i64.wrap ((n:Int)-2-1)=(n:Int)-2-1:=IntWalk.i64_in _ U;by_cases yx:50≤u4
   ·have e1:(50:Int)≤(u4:Int):=U
    by_cases fT:u4+3≤n
    ·have e2:(u4:Int)≤(n:Int)-2-1:=U
     by_cases bW:u5<u4
     ·have e3:(u5:Int)<(u4:Int):=U
      have aaF:=Bo.out;rw[M5.out] at aaF;have cst:=fun (W:World)=>AR ⟨ee,ss,u4,u5⟩ aaF W
      have Sg:=Hd cst;have mR:=wL.out;rw[M5.out] at mR;have iQ:(aR t n).isSome=(aQ ⟨ee,ss,u4,u5⟩==t)∧∀s,aR t n=some s→s=⟨ee,ss,u4,u5⟩:=by
       rw[mR];by_cases jT:aQ ⟨ee,ss,u4,u5⟩=t
       ·rw[Φ ⟨yx,fT,bW,jT⟩,MY.2 jT]
        exact⟨rfl,fun s hs=>(acG hs).symm⟩
       ·rw[η (fun h=>jT h.2.2.2),Γ.2 jT]
        exact⟨rfl,fun s hs=>absurd hs κ⟩
      have vR:=Hd iQ;clear cst aaF mR iQ;generalize aQ ⟨ee,ss,u4,u5⟩=st at *;go_region_law
       (first
        | (go_simp;go_at_call 239;with_reducible refine(Sg.out _).mono ?_;rintro e w5 ⟨rfl,q5⟩;have s':Q wb w5:=(by first|exact(Q.drew _).trans q5|exact q5);have g0:=aI s' s0;have g1:=aI s' s1;have g2:=aI s' s2;have g3:=aI s' s3;have gY:=ou.out.stays s';obtain⟨a0,a1,a2,a3,d0,d1,d2,d3⟩:=gY.c4;have S':=Hd s';have wM:=Hd gY;clear s' q5 gY))
      all_goals
       go_wp2_with fail
       (try simp only[Exit.inBlock,Exit.then])
       first
        | refine bodyPost_ret (kQ rfl _ _ w.heap.size 214 _ (0,0) _ rfl (yE wM.out (.int .u64 (ee:Nat)) (.int .u64 (ss:Nat)) (.int .i64 (u4:Nat)) (.int .i64 (u5:Nat))) underlying214 rfl (by kernel_rfl)) rfl ?_
        | refine bodyPost_ret (kQ rfl _ _ w.heap.size 214 _ (0,0) _ rfl (yE (wM.out.stays (Q.drew _)) (.int .u64 (ee:Nat)) (.int .u64 (ss:Nat)) (.int .i64 (u4:Nat)) (.int .i64 (u5:Nat))) underlying214 rfl (by kernel_rfl)) rfl ?_
       refine⟨⟨⟨ee,ss,u4,u5⟩,?_,fun s hs=>?_⟩,?_⟩
       ·rw[vR.out.1];rfl
       ·exact vR.out.2 s hs
       ·first
         | exact Qs.st (Qs.st (Qs.st (Qs.st (Zy.out.trans S'.out) _ _ (Ω _)) _ _ (Ω _)) _ _ (Ω _)) _ _ (Ω _)
         | exact Qs.st (Qs.st (Qs.st (Qs.st (Zy.out.trans (S'.out.trans (Q.drew _))) _ _ (Ω _)) _ _ (Ω _)) _ _ (Ω _)) _ _ (Ω _)
     ·have e3:¬(u5:Int)<(u4:Int):=U
      have bI:aR t n=none:=by rw[wL.out,M5.out,η (fun h=>bW h.2.2.1)]
      have dY:=Hd bI;clear bI;go_region;all_goals
       go_wp2_with fail;have rE:=yE (ou.out.stays (Q.drew _)) (.int .u64 (ee:Nat)) (.int .u64 (ss:Nat)) (.int .i64 (u4:Nat)) (.int .i64 (u5:Nat))
       (try simp only[Exit.inBlock,Exit.then])
       refine bodyPost_ret (kQ rfl _ _ w.heap.size 214 _ (0,0) _ rfl rE underlying214 rfl (by kernel_rfl)) rfl ?_
       refine⟨⟨⟨ee,ss,u4,u5⟩,?_,fun s hs=>?_⟩,?_⟩
       ·rw[dY.out];rfl
       ·rw[dY.out] at hs;exact absurd hs κ
       ·exact Qs.st (Qs.st (Qs.st (Qs.st (Zy.out.trans (Q.drew _)) _ _ (Ω _)) _ _ (Ω _)) _ _ (Ω _)) _ _ (Ω _)
    ·have e2:¬(u4:Int)≤(n:Int)-2-1:=U
     have bI:aR t n=none:=by rw[wL.out,M5.out,η (fun h=>fT h.2.1)]
     have dY:=Hd bI;clear bI;go_region;all_goals
      go_wp2_with fail;have rE:=yE (ou.out.stays (Q.drew _)) (.int .u64 (ee:Nat)) (.int .u64 (ss:Nat)) (.int .i64 (u4:Nat)) (.int .i64 (u5:Nat))
      (try simp only[Exit.inBlock,Exit.then])
      refine bodyPost_ret (kQ rfl _ _ w.heap.size 214 _ (0,0) _ rfl rE underlying214 rfl (by kernel_rfl)) rfl ?_
      refine⟨⟨⟨ee,ss,u4,u5⟩,?_,fun s hs=>?_⟩,?_⟩
      ·rw[dY.out];rfl
      ·rw[dY.out] at hs;exact absurd hs κ
      ·exact Qs.st (Qs.st (Qs.st (Qs.st (Zy.out.trans (Q.drew _)) _ _ (Ω _)) _ _ (Ω _)) _ _ (Ω _)) _ _ (Ω _)
   ·have e1:¬(50:Int)≤(u4:Int):=U
    have bI:aR t n=none:=by rw[wL.out,M5.out,η (fun h=>yx h.1)]
    have dY:=Hd bI;clear bI;go_region;all_goals
     go_wp2_with fail;have rE:=yE (ou.out.stays (Q.drew _)) (.int .u64 (ee:Nat)) (.int .u64 (ss:Nat)) (.int .i64 (u4:Nat)) (.int .i64 (u5:Nat))
     (try simp only[Exit.inBlock,Exit.then])
     refine bodyPost_ret (kQ rfl _ _ w.heap.size 214 _ (0,0) _ rfl rE underlying214 rfl (by kernel_rfl)) rfl ?_
     refine⟨⟨⟨ee,ss,u4,u5⟩,?_,fun s hs=>?_⟩,?_⟩
     ·rw[dY.out];rfl
     ·rw[dY.out] at hs;exact absurd hs κ
     ·exact Qs.st (Qs.st (Qs.st (Qs.st (Zy.out.trans (Q.drew _)) _ _ (Ω _)) _ _ (Ω _)) _ _ (Ω _)) _ _ (Ω _)
end
end Go.Proofs.YtbkahhebmpehnaaGreatDoor
