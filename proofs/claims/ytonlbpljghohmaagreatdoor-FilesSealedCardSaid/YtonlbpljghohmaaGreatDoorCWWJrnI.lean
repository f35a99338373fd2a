/- Joined: WJrnI to WRef4d -/
import Derived.Test.YtonlbpljghohmaaGreatDoorCWWJrnF
import Derived.Test.YtonlbpljghohmaaGreatDoorCWActs9
set_option linter.all false
set_option maxRecDepth 100000
set_option maxHeartbeats 8000000
namespace Go.Proofs.YtonlbpljghohmaaGreatDoor
open Tryz
section
open Go.RowKit
def IB(w:World)(F:Nat→Prop)(b:Nat)(d:af)(e:Ending)(w':World):Prop :=
 ae F w w'∧(((aL d).2=0∧∃p,e=.returned (.tuple #[au p,.int .i64 0])∧cF w' (grow F w w') p b (aL d).1) ∨
  ((aL d).2≠0∧e=.returned (.tuple #[.pointer none,.int .i64 (aL d).2])∧cE w' (grow F w w') b (aL d).1.d))
theorem Xi(w:World)(F:Nat→Prop)(b:Nat)(d:af)(h:cE w F b d)(hF:∀k,F k→k<w.heap.size)(hd:d.Ok)(h2:2≤d.l.length)(hp:d.p.length≤800000)(dS:d.dead=false):
  Calls prog 102 #[au b] w fun e w'=>IB w F b d e w':=by
 have hr:=fun (W:World) (hq:Q w W) (k:Nat)=>AQ W F b d (k:Nat) (h.keep hq) hd.max (fun _=>U)
 have hb:=fun (W:World) (hq:Q w W)=>oL W F b d (h.keep hq)
 have he:∀k:Nat,k<2→d.read (k:Nat)=(d.get k,0):=fun k hk=>by unfold af.read;rw[af.gC dS k U,Φ rfl];rfl
 have pV:∀k:Nat,k<2→(d.get k).length=256:=fun k hk=>af.gj hd k U
 have mR:=fun (k:Nat) (hk:k<2) (W:World)=>Xh (d.get k) d.l.length W (pV k hk) hd.max
 have Sn:min (2:Int) (d.l.length:Int)=2:=U;have eF:=d.l.length;have HR:=Hd hr;have HB:=Hd hb;have HM:=Hd Sn;have HE:=Hd he;have wL:=Hd mR;have HD:=Hd (And.intro h (And.intro hF (And.intro hd (And.intro h2 (And.intro hp dS)))));clear hr hb he pV mR h hF hd Sn h2 hp dS;go_enter func102,ntmps102;go_wp2_with fail;refine(HB.out _ (Q.alloc _ _)).mono ?_;rintro e w1 ⟨rfl,rfl⟩;go_wp2_with fail;rw[HM.out];have KA:Blk (w.alloc (.cells (sj b none) 177)) w.heap.size 177 (sj b none):=Blk.new w _ _;have ji:Q w (w.alloc (.cells (sj b none) 177)):=Q.alloc _ _;simp only[sj] at KA ji;have Tc:=Hd KA;have mF:=Hd ji;clear KA ji;go_loopw [20] (fun v wr=>∃k:Nat,v=.int .i64 (k:Nat)∧k≤2∧Hid (Blk wr w.heap.size 177 (sj b (mY d k)))∧Hid (Q w wr)) (fun v _=>2-(intOf v).toNat)
 case atStart=>exact⟨0,rfl,U,Tc,mF⟩
 case round =>
  obtain⟨k,rfl,hk,ou,HQ⟩:=hrel;by_cases ay:k<2
  ·have bq:(k:Int)<2:=U
   have Ag:=HR.out wr HQ.out k;rw[HE.out k ay] at Ag;have kH:=wL.out k ay;have Zz:=Hd Ag;have Ad:=Hd kH;clear Ag kH;have gU:mY d (k+1)=match aR (d.get k) d.l.length with
    | none=>mY d k
    | some s=>match mY d k with
     | none=>some (s,k)
     | some (r,i)=>if r.e<s.e then some (s,k) else some (r,i):=rfl
   have qB:=Hd gU;clear gU;generalize d.get k=tk at *;generalize aR tk d.l.length=rk at *;generalize fV:mY d k=pk at *;generalize Td:mY d (k+1)=pk1 at *;have kY:=Hd Td;clear Td;go_wp2_with fail;refine Zz.out.mono ?_;rintro e w3 ⟨rfl,q3⟩;have fu:=Hd (HQ.out.trans q3);have aaG:=Hd (ou.out.stays q3);clear q3;go_wp2_with fail;refine(HB.out _ fu.out).mono ?_;rintro e w4 ⟨rfl,rfl⟩;go_wp2_with fail;refine(Ad.out _).mono ?_;rintro e w4 ⟨⟨s0,rfl,wO⟩,q4⟩;have lH:=Hd (fu.out.trans q4);have Te:=Hd (aaG.out.stays q4);have CJ:=Hd wO;clear q4 wO;cases rk with
   | none =>
    have gU:=qB.out;simp only[] at gU;subst gU;go_wp2_with fail;go_region;all_goals
     go_wp2_with fail;go_roundw;case rel=>exact⟨k+1,by go_num,U,Hd (by rw[kY.out];exact Te.out.stays (Qs.dr (Qs.al (Q.refl _) _))),Hd (Qs.dr (Qs.al lH.out _))⟩
     case measure=>simp[intOf];omega
   | some s1 =>
    obtain rfl:=CJ.out s1 rfl;have gU:=qB.out;simp only[] at gU;have sN:=Te.out;have bX:=Blk.new w4 175 #[.int .u64 (s1.e:Nat),.int .u64 (s1.s:Nat),.int .i64 (s1.log:Nat),.int .i64 (s1.place:Nat)];have kJ:Q w4 (w4.alloc (.cells #[.int .u64 (s1.e:Nat),.int .u64 (s1.s:Nat),.int .i64 (s1.log:Nat),.int .i64 (s1.place:Nat)] 175)):=Q.alloc _ _;have gY:=sN.stays kJ;have nM:∀cs:Array Value,cs.size=8→cs[0]?=some (au b)→cs[6]?=some (.int .u64 0)→cs[7]?=some (.int .i64 0)→((((cs.setIfInBounds 1 (.int .u64 (s1.e:Nat))).setIfInBounds 2 (.int .u64 (s1.s:Nat))).setIfInBounds 3 (.int .i64 (s1.log:Nat))).setIfInBounds 4 (.int .i64 (s1.place:Nat))).setIfInBounds 5 (.int .i64 (k:Nat))=sj b (some (s1,k)):=fun cs h1 h2 h3 h4=>by
     obtain⟨l⟩:=cs;match l,h1,h2,h3,h4 with
     | [a0,a1,a2,a3,a4,a5,a6,a7],_,h2,h3,h4 =>
      simp at h2 h3 h4;subst h2 h3 h4;rfl
    cases pk with
    | none =>
     obtain⟨s0,s1',s2,s3,_⟩:=bX.c4;obtain⟨c0,c1,c2,c3,c4,c5,c6,c7⟩:=Blk.c8 gY;have f1:=gY.frozen 1;have f2:=gY.frozen 2;have f3:=gY.frozen 3;have f4:=gY.frozen 4;have f5:=gY.frozen 5;simp only[] at gU;go_upto_region 9 with fail;generalize wJ:(w4.alloc (.cells #[.int .u64 (s1.e:Nat),.int .u64 (s1.s:Nat),.int .i64 (s1.log:Nat),.int .i64 (s1.place:Nat)] 175))=w5 at *;clear bX;subst gU;have wK:Q w4 w5.drew:=kJ.trans (Q.drew _);have wM:=Hd (gY.stays (Q.drew _));have lG:=Hd (lH.out.trans wK);have HN:=Hd nM;clear wJ wK sN nM kJ gY;go_region;all_goals
      go_wp2_with fail;go_roundw;case rel =>
       refine⟨k+1,by go_num,U,Hd ?_,Hd (Qs.st (Qs.st (Qs.st (Qs.st (Qs.st lG.out _ _ (Ω _)) _ _ (Ω _)) _ _ (Ω _)) _ _ (Ω _)) _ _ (Ω _))⟩
       rw[kY.out,←HN.out (sj b none) rfl rfl rfl rfl];exact((((wM.out.set 1 _).set 2 _).set 3 _).set 4 _).set 5 _
      case measure=>simp[intOf];omega
    | some ri =>
     obtain⟨r,i⟩:=ri;simp only[] at gU;obtain⟨s0,s1',s2,s3,_⟩:=bX.c4;obtain⟨c0,c1,c2,c3,c4,c5,c6,c7⟩:=Blk.c8 gY;have f1:=gY.frozen 1;have f2:=gY.frozen 2;have f3:=gY.frozen 3;have f4:=gY.frozen 4;have f5:=gY.frozen 5;go_upto_region 9 with fail;generalize wJ:(w4.alloc (.cells #[.int .u64 (s1.e:Nat),.int .u64 (s1.s:Nat),.int .i64 (s1.log:Nat),.int .i64 (s1.place:Nat)] 175))=w5 at *;have wK:Q w4 w5.drew:=kJ.trans (Q.drew _);have wM:=Hd (gY.stays (Q.drew _));have lG:=Hd (lH.out.trans wK);have HN:=Hd nM;have qL:¬((i:Nat):Int)<0:=U;clear bX wJ wK sN nM kJ gY;by_cases nX:r.e<s1.e
     ·have fF:((r.e:Nat):Int)<((s1.e:Nat):Int):=U
      rw[Φ nX] at gU;subst gU;clear nX;go_region;all_goals
       go_wp2_with fail;go_roundw;case rel =>
        refine⟨k+1,by go_num,U,Hd ?_,Hd (Qs.st (Qs.st (Qs.st (Qs.st (Qs.st lG.out _ _ (Ω _)) _ _ (Ω _)) _ _ (Ω _)) _ _ (Ω _)) _ _ (Ω _))⟩
        rw[kY.out,←HN.out (sj b (some (r,i))) rfl rfl rfl rfl];exact((((wM.out.set 1 _).set 2 _).set 3 _).set 4 _).set 5 _
       case measure=>simp[intOf];omega
     ·have fF:¬((r.e:Nat):Int)<((s1.e:Nat):Int):=U
      rw[η nX] at gU;subst gU;clear nX;go_region;all_goals
       go_wp2_with fail;go_roundw;case rel=>exact⟨k+1,by go_num,U,Hd (by rw[kY.out];exact wM.out),lG⟩
       case measure=>simp[intOf];omega
  ·have bq:¬(k:Int)<2:=U
   obtain rfl:k=2:=U;clear bq ay hk HB HM HE wL HR Tc mF;obtain⟨xJ,hF,jV,h2,hp,dS⟩:=HD.out;cases fV:mY d 2 with
   | none =>
    have hb:=ou.out;rw[fV] at hb;obtain⟨c0,c1,c2,c3,c4,c5,c6,c7⟩:=Blk.c8 hb;have fB:=Xd dS fV;have vB:=Hd fB;have VW:=Hd (xJ.keep HQ.out);clear hb fB fV xJ hF jV h2 hp dS HD ou;go_wp2_with fail;go_ret2;refine⟨ae.br HQ.out,.inr ⟨by rw[vB.out];simp,by rw[vB.out];rfl,?_⟩⟩
    rw[vB.out];exact VW.out.mono (fun k hk=>.inl hk)
   | some ri =>
    obtain⟨r,i⟩:=ri;have hb:=ou.out;rw[fV] at hb;obtain⟨c0,c1,c2,c3,c4,c5,c6,c7⟩:=Blk.c8 hb;have f6:=hb.frozen 6;have fB:=Xe dS fV;obtain⟨zq,mR⟩:=Xc fV;obtain⟨bX,yx,fT,bW⟩:=IK mR;have ig:=FV mR;obtain⟨j0,Bn⟩:∃j0:JL,j0=⟨d,r,i,r.s,0⟩:=⟨_,rfl⟩;rw[←Bn] at fB;have bN:Blk (wr.setCell ⟨w.heap.size,6,none⟩ (.int .u64 (r.s:Nat))) w.heap.size 177 (jd b j0):=by rw[Bn];exact hb.set 6 _
    have eG:Q w (wr.setCell ⟨w.heap.size,6,none⟩ (.int .u64 (r.s:Nat))):=Qs.st HQ.out _ _ (Ω _);have hj:cF (wr.setCell ⟨w.heap.size,6,none⟩ (.int .u64 (r.s:Nat))) (grow F w (wr.setCell ⟨w.heap.size,6,none⟩ (.int .u64 (r.s:Nat)))) w.heap.size b j0:=by
     refine⟨bN,.inr ⟨Ω _,bN.lt⟩,by rw[Bn];exact(xJ.keep eG).mono (fun k hk=>.inl hk),fun k hk=>?_⟩
     rcases hk with hk|hk
     ·have:=hF k hk;have:=eG.size;omega
     ·exact hk.2
    have bQ:JOk r d.l.length 800000 j0:=by
     subst Bn;exact⟨rfl,jV,dS,rfl,MD _,by show r.s<_;exact ig.hs,by show i≤1;omega,by show d.p.length≤_;omega⟩
    have pO:mM (wr.setCell ⟨w.heap.size,6,none⟩ (.int .u64 (r.s:Nat))) w.heap.size=j0.used:=by
     unfold mM;rw[bN.cell 7 (.int .i64 (j0.used:Nat)) rfl];simp
    have qL:¬((i:Nat):Int)<0:=U;have vB:=Hd fB;have HJ:=Hd hj;have pq:=Hd bQ;have HT:=Hd (ae.br (own:=F) eG);have aaH:=Hd (And.intro yx (And.intro fT (And.intro bW ig)));have xM:=Hd hF;have Tf:=Hd (show mM _ _=j0.used from pO)
    clear fB fV xJ hF jV h2 hp dS mR bX yx fT bW ig zq hj bQ pO hb HD ou HQ;go_upto_region 14 with fail;go_wp2_with fail;generalize hwj:wr.setCell ⟨w.heap.size,6,none⟩ (.int .u64 (r.s:Nat))=wj at *;clear hwj bN eG c0 c1 c2 c3 c4 c5 c6 c7 f6 Bn;go_loopw [10] (fun _ wr=>∃(m:Nat) (j2:JL),Hid (JL.cX (r.log+1) j0=JL.cX m j2)∧Hid (r.log+1≤m+j2.used)∧Hid (cF wr (grow F w wr) w.heap.size b j2)∧Hid (ae F w wr)∧Hid (JOk r d.l.length 800000 j2)∧Hid (mM wr w.heap.size=j2.used)) (fun _ wr=>r.log+1-mM wr w.heap.size)
    case atStart=>exact⟨r.log+1,j0,Hd rfl,Hd U,HJ,HT,pq,Tf⟩
    case round =>
     obtain⟨m,j2,Hw,LY,rM,fG,jY,VL⟩:=hrel;obtain⟨yx,fT,bW,ig⟩:=aaH.out;have uS:=jY.out.num yx fT bW ig (Ω _);have lI:=jY.out.live;have oP:2+j2.s.log≤j2.d.l.length:=by rw[jY.out.sl,jY.out.len];omega
     have pO:j2.used≤j2.s.log:=by rw[jY.out.sl];exact jY.out.used
     have dQ:=Xb wr (grow F w wr) w.heap.size b j2 rM.out uS lI oP pO;obtain⟨m',rfl⟩:∃m',m=m'+1:=⟨m-1,by have:=LY.out;have:=jY.out.used;omega⟩
     have pY:=Hd dQ;have FL:=Hd uS;clear yx fT bW ig uS lI oP pO dQ;cases hf:j2.frame with
     | none =>
      have iP:=Hw.out;rw[I4 hf] at iP;have fB:=vB.out;rw[iP,Φ rfl] at fB;have ck:=fun (W:World) (q:Q wr W)=>Qw W (grow F w wr) w.heap.size b j2 (rM.out.keep q) FL.out
      have rA:=Hd fB;have CK:=Hd ck;have HF:=Hd hf;rw[hf] at pY;clear iP fB ck hf;go_wp2_with fail;refine pY.out.mono ?_;rintro e w3 ⟨⟨v,rfl,-⟩,q3⟩;have fu:=Hd q3;clear q3;go_wp2_with fail;refine(CK.out _ fu.out).mono ?_;rintro e w4 ⟨rfl,h4,t4⟩;have ht:=fG.out.step ((ae.br fu.out).trans t4);have ZA:cF w4 (grow F w w4) w.heap.size b j2.cC.1:=h4.mono (fun k hk=>hk.elim (fun hk=>hk.elim .inl (fun hk=>.inr ⟨hk.1,Ψ hk.2 (My fu.out.size t4.size)⟩)) (fun hk=>.inr ⟨My fG.out.size (My fu.out.size hk.1),hk.2⟩)) (fun k hk=>hk.elim (fun hk=>by have:=xM.out k hk;have:=ht.size;omega) (fun hk=>hk.2))
      have H4:=Hd ZA;have G8:=Hd ht;clear h4 t4 ht ZA;by_cases hz:j2.cC.2=0
      ·have hb:(j2.cC.2==0)=true:=NX.2 hz
       have HZ:=Hd hz;clear hz;go_wp2_with fail;go_ret2;refine⟨G8.out,.inl ⟨by rw[rA.out];exact HZ.out,_,rfl,?_⟩⟩
       rw[rA.out];exact H4.out
      ·have hb:(j2.cC.2==0)=false:=Γ.2 hz
       have HZ:=Hd hz;clear hz;go_wp2_with fail;go_ret2;refine⟨G8.out,.inr ⟨by rw[rA.out];exact HZ.out,by rw[rA.out];rfl,?_⟩⟩
       rw[rA.out];exact H4.out.dev
     | some ws =>
      have iP:=Hw.out;rw[I5 hf] at iP;obtain⟨f1,f2,f3⟩:=EA hf;have Hy:=fun hz=>jY.out.adv hf hz
      have u7:j2.d.p.length+ws.length≤1000000:=by have:=FL.out.eK jY.out.live;omega
      rw[hf] at pY;have cw:=fun (W:World) (q:Q wr W) (v:Value) (hv:W.ownsRow wr.heap.size 116 2 v ws.length (aN ws))=>wY W (fun k=>grow F w wr k∧k≠w.heap.size) b j2.d v ws ((rM.out.dev.minus rM.out.box).keep q) FL.out.ok (fun _=>u7) (eC.own (w0:=wr) hv (fun k hk=>rM.out.lt k hk.1) (fun x hx=>by have:=(f3 x hx).1;have:=FL.out.ok.max;have:=(f3 x hx).2;omega)) U
      have nk:j2.used+ws.length+1≤r.log:=by have h1:=jY.out.sl;have:=jY.out.used;rw[h1] at f1;omega
      have Hz:=Hd iP;have aaI:=Hd Hy;have CW:=Hd cw;have VX:=Hd nk;clear hf iP f1 f3 Hy u7 cw nk;go_wp2_with fail;refine pY.out.mono ?_;rintro e w3 ⟨⟨v,rfl,hv⟩,q3⟩;have hv:=hv ws rfl;have fu:=Hd q3;have cw:=CW.out _ q3 v hv;obtain⟨va,vc,rfl,_⟩:=aY hv;have CWW:=Hd cw;clear q3 hv cw CW;go_wp2_with fail;refine CWW.out.mono ?_;rintro e w4 ⟨rfl,h4,t4⟩;have aC:=cF.step rM.out.box fu.out t4 h4 rM.out.lt rM.out.fp;have amB:mM w4 w.heap.size=j2.used:=by unfold mM;rw[aC.1.box.cell 7 (.int .i64 (j2.used:Nat)) rfl];simp
      have aX:=Hd aC;clear h4 t4 aC;generalize Hl:j2.d.writes ws=dw at *;by_cases hz:dw.2=0
      ·have hb:(dw.2==0)=true:=NX.2 hz
       have iP:=Hz.out;rw[Φ hz] at iP;have EZ:=aaI.out hz;have ca:=Di w4 w.heap.size b { j2 with d:=dw.1 } ws.length aX.out.1.box (by show j2.used≤_;exact FL.out.used) U (by show j2.next<_;exact FL.out.next)
       have aaJ:=Hd iP;have aaK:=Hd EZ;have CA:=Hd ca;clear hz iP EZ ca;go_wp2_with fail;refine CA.out.mono ?_;rintro e w5 ⟨rfl,h5,t5,Me⟩;have Hr:=aX.out.1.turned h5 rfl t5;have zF:ae F w w5:=(fG.out.step aX.out.2).step (t5.mono (fun k hk=>by subst hk;exact .inr ⟨Ω _,aX.out.1.box.lt⟩))
       have Ia:cF w5 (grow F w w5) w.heap.size b ({ j2 with d:=dw.1 }.advance ws.length):=Hr.mono (fun k hk=>lZ fG.out.size (by rw[Me];exact aX.out.2.size) (hk.elim .inl (fun hk=>.inr ⟨hk.1,by rw[Me];exact hk.2⟩))) (fun k hk=>hk.elim (fun hk=>by have:=xM.out k hk;have:=zF.size;omega) (fun hk=>hk.2))
       have hu5:mM w5 w.heap.size=j2.used+ws.length+1:=by unfold mM;rw[h5.cell 7 (.int .i64 ((j2.used+ws.length+1:Nat):Int)) rfl];exact PM _
       have O1:=Hd Ia;have OP:=Hd zF;have HU5:=Hd hu5;clear h5 t5 Me Hr zF Ia hu5;go_wp2_with fail;go_roundw;case rel=>exact⟨m',_,aaJ,Hd (by show r.log+1≤m'+(j2.used+ws.length+1);have:=LY.out;omega),O1,OP,aaK,HU5⟩
       case measure=>rw[HU5.out,VL.out];have:=VX.out;omega
      ·have hb:(dw.2==0)=false:=Γ.2 hz
       have iP:=Hz.out;rw[η hz] at iP;have fB:=vB.out;rw[iP,η hz] at fB;have rA:=Hd fB;have HZ:=Hd hz;clear hz iP fB;go_wp2_with fail;go_ret2;refine⟨fG.out.step aX.out.2,.inr ⟨by rw[rA.out];exact HZ.out,by rw[rA.out];rfl,?_⟩⟩
       rw[rA.out];exact aX.out.1.dev.mono (fun k hk=>lZ fG.out.size aX.out.2.size hk)
theorem NR(w:World)(F:Nat→Prop)(b:Nat)(d:af)(h:cE w F b d)(hF:∀k,F k→k<w.heap.size)(hd:d.Ok)(h2:2≤d.l.length)(hp:d.dead=false→d.p.length≤800000):
  Calls prog 102 #[au b] w fun e w'=>IB w F b d e w':=by
 cases hl:d.dead with
 | false=>exact Xi w F b d h hF hd h2 (hp hl) hl
 | true =>
  refine(Xf w F b d h hd h2 hl).mono ?_;rintro e w' ⟨rfl,q⟩;refine⟨ae.br q,.inr ⟨by rw[EB hl];simp,by rw[EB hl],?_⟩⟩
  rw[EB hl];exact(h.keep q).mono (fun k hk=>.inl hk)
def mx(k:Nat):List WrL:=(List.range k).map fun i=>(i+1,ag)
theorem sC(k:Nat):mx (k+1)=mx k++[(k+1,ag)]:=by simp[mx,UV]
theorem UR(w:World)(F:Nat→Prop)(b:Nat)(d:af)(log:Nat)(h:cE w F b d)(hF:∀k,F k→k<w.heap.size)(hd:d.Ok)(hp:d.dead=false→d.p.length≤800000)(yx:50≤log)(fT:log+3≤d.l.length):
  Calls prog 219 #[au b,.int .i64 (log:Nat)] w fun e w'=>e=.returned (.int .i64 (aO d log).2)∧cE w' (grow F w w') b (aO d log).1∧ae F w w':=by
 have hm:=hd.max;have dZ:=oL w F b d h;have bI:=fun (W:World)=>yM W
 have aC:=fun (W:World)=>AR ⟨1,1,log,0⟩ ⟨by show 1<_;omega,by show 1<_;omega,by show log<_;omega,by show 0<_;omega⟩ W
 obtain⟨i1,qG,wH,tN,hy2⟩:=info_parts nC;have eO:IntKind.i64.wrap ((d.l.length:Int)-2)=(d.l.length:Int)-2:=IntWalk.i64_in _ U;have gD:IntKind.i64.wrap ((d.l.length:Int)-2-1)=(d.l.length:Int)-2-1:=IntWalk.i64_in _ U;have mG:¬(log:Int)<50:=U;have fF:¬(d.l.length:Int)-2-1<(log:Int):=U;have D9:=fun (W:World) (v:Value) (hq:Q w W) (hv:W.ownsRow w.heap.size 116 2 v (cZ log).length (aN (cZ log)))=>wY W F b d v (cZ log) (h.keep hq) hd (fun hx=>by have:=hp hx;simp[cZ];omega) (eC.own hv hF (fun x hx=>by
  simp only[cZ,No,NF,Sa,M3] at hx;rcases hx with ⟨i,hi,rfl⟩|rfl
  ·exact⟨by simp only;omega,by simp only[jk];omega⟩
  ·exact⟨by simp only;omega,by simp only[gB];omega⟩)) (by simp[cZ];omega)
 have kG:(cZ log).length=log+2:=by simp[cZ]
 have Tp:cZ log=mx (log+1)++[(0,aQ ⟨1,1,log,0⟩)]:=rfl;have Ck:aO d log=d.lays (cZ log):=rfl;have adQ:(d.writes (cZ log)).1.Ok:=af.eS hd _;have hpw:(d.writes (cZ log)).1.dead=false→(d.writes (cZ log)).1.p.length≤1000000:=fun hx=>by
  have h1:=hp (af.hS _ _ hx);have h2:=af.j7 (cZ log) d;omega
 have abP:aO d log=if (d.writes (cZ log)).2=0 then(d.writes (cZ log)).1.bu else d.writes (cZ log):=rfl
 have iV:=Hd dZ;have dY:=Hd bI;have aX:=Hd aC;have HWL:=Hd D9;have HFW:=Hd Tp;have aiv:=Hd adQ;have HPW:=Hd hpw;have HLY:=Hd abP;have xM:=Hd kG;have og:=Hd hF;have VZ:log≤4096:=U;clear dZ bI aC D9 Tp Ck adQ hpw abP kG hF h hp hd hm;generalize d.writes (cZ log)=dw at *;go_enter func219,ntmps219;go_wp2_with fail;refine iV.out.mono ?_;rintro e w1 ⟨rfl,rfl⟩;go_wp2_with fail;clear eO gD mG fF;go_loopw [5,20] (fun v i wr=>∃k:Nat,i=.int .i64 (k:Nat)∧k≤log+1∧Hid (wr.ownsRow w.heap.size 116 2 v k (aN (mx k)))∧Hid (Q w wr)) (fun _ i _=>log+1-(intOf i).toNat)
 case atStart=>exact⟨0,rfl,MD _,World.ownsRow_nil _ _ _ _,Hd (Q.refl _)⟩
 case round =>
  obtain⟨k,rfl,hk,HOW,HQ⟩:=hrel;by_cases ay:k<log+1
  ·have bq:(k:Int)<(log:Int)+1:=U
   have EP:(0:Int)≤(k:Int):=U;have rF:=sC k;have VU:=Hd rF;clear rF;go_wp2_with fail;refine(dY.out _).mono ?_;rintro e w10 ⟨rfl,q10⟩;have Bq:=Hd (ownsRow_below HOW.out q10);have vS:Hid (Q w w10):=Hd (HQ.out.trans q10);generalize kT:ag=nn at *;have cO:∀u∈#[Value.int .i64 ((k:Int)+1),ah nn].toList,u.oneCell'=true:=by intro u hu;simp at hu;rcases hu with rfl|rfl<;>rfl
   have dI:(k+1)*24≤140737488355328:=U;have qJ:=Hd cO;have uY:=Hd dI;clear q10 cO dI kT;go_wp2_with (at_builtin;refine bG w10 ρ _ _ 66 ρ w.heap.size 116 _ i1 (.agg #[.int .i64 0,ah []]) 2 24 underlying66 qG wH tN hy2 rfl Z Z _ _ _ ρ Bq.out #[.int .i64 ((k:Int)+1),ah nn] ρ rfl qJ.out uY.out vS.out.size ?_)
   intro g11 jI w11 iB gu lQ jR iC;have zS:Q w w11:=bD vS.out Bq.out gu (Ω _) vS.out.size;have gW:w11.ownsRow w.heap.size 116 2 (.slice (some ⟨g11,0,none⟩) (k+1) jI) (k+1) (aN (mx (k+1))):=by
    rw[VU.out,iF,show aN [(k+1,nn)]=mX (k+1,nn) by simp[aN]];exact iB
   have oz:=Hd zS;have qW:=Hd gW;clear iB gu lQ jR iC zS gW;go_wp2_with fail;go_roundw;case rel=>exact⟨k+1,by go_num,U,qW,oz⟩
   case measure=>simp[intOf];omega
  ·have bq:¬(k:Int)<(log:Int)+1:=U
   obtain rfl:k=log+1:=U;go_wp2_with fail;refine(aX.out _).mono ?_;rintro e w10 ⟨rfl,q10⟩;have Bq:=Hd (ownsRow_below HOW.out q10);have vS:Hid (Q w w10):=Hd (HQ.out.trans q10);generalize aQ ⟨1,1,log,0⟩=st at *;have cO:∀u∈#[Value.int .i64 0,ah st].toList,u.oneCell'=true:=by intro u hu;simp at hu;rcases hu with rfl|rfl<;>rfl
   have dI:(log+1+1)*24≤140737488355328:=U;have qJ:=Hd cO;have uY:=Hd dI;clear q10 cO dI;go_wp2_with (at_builtin;refine bG w10 ρ _ _ 66 ρ w.heap.size 116 _ i1 (.agg #[.int .i64 0,ah []]) 2 24 underlying66 qG wH tN hy2 rfl Z Z _ _ _ ρ Bq.out #[.int .i64 0,ah st] ρ rfl qJ.out uY.out vS.out.size ?_)
   intro g11 jI w11 iB gu lQ jR iC;have zS:Q w w11:=bD vS.out Bq.out gu (Ω _) vS.out.size;have gW:w11.ownsRow w.heap.size 116 2 (.slice (some ⟨g11,0,none⟩) (log+1+1) jI) (cZ log).length (aN (cZ log)):=by
    rw[xM.out,HFW.out,iF,show aN [(0,st)]=mX (0,st) by simp[aN]];exact iB
   have cw:=HWL.out w11 _ zS gW;have CW:=Hd cw;have oz:=Hd zS;clear iB gu lQ jR iC zS gW cw;go_wp2_with fail;refine CW.out.mono ?_;rintro e w12 ⟨rfl,OZ,t12⟩;have ht:ae F w w12:=(ae.br oz.out).trans t12;have adR:cE w12 (grow F w w12) b dw.1:=OZ.mono (fun k hk=>hk.elim .inl (fun hk=>.inr ⟨My oz.out.size hk.1,hk.2⟩))
   have H12:=Hd adR;have T12:=Hd ht;clear OZ t12 ht adR;by_cases hz:dw.2=0
   ·have hb:(dw.2==0)=true:=NX.2 hz
    have Tq:=HLY.out;rw[Φ hz] at Tq;have cf:=NH w12 (grow F w w12) b dw.1 H12.out aiv.out HPW.out;have HLZ:=Hd Tq;have CF:=Hd cf;clear hz Tq cf;go_wp2_with fail;refine CF.out.mono ?_;rintro e w13 ⟨rfl,h13,t13⟩;have HE:=Hd (h13.mono (fun k hk=>lZ T12.out.size t13.size hk));have fG:=Hd (T12.out.step t13)
    clear h13 t13;go_wp2_with fail;go_ret;rw[HLZ.out];exact⟨rfl,HE.out,fG.out⟩
   ·have hb:(dw.2==0)=false:=Γ.2 hz
    have Tq:=HLY.out;rw[η hz] at Tq;have HLZ:=Hd Tq;clear hz Tq;go_wp2_with fail;go_ret;rw[HLZ.out];exact⟨rfl,H12.out,T12.out⟩
structure bp (w:World) (F:Nat→Prop) (p b:Nat) (j:JL):Prop where
 box:Blk w p 138 (jd b j)
 fp:F p
 dev:cq w F b j.d
 lt:∀k,F k→k<w.heap.size
theorem bp.mono{w:World}{F G:Nat→Prop}{p b:Nat}{j:JL}(h:bp w F p b j)(k:∀i,F i→G i)(hl:∀i,G i→i<w.heap.size):bp w G p b j:=⟨h.box,k _ h.fp,h.dev.mono k,hl⟩
theorem bp.beside{w w':World}{F G:Nat→Prop}{p b:Nat}{j:JL}(h:bp w F p b j)(t:ae G w w')(hd:∀k,F k→¬G k):bp w' F p b j:=⟨t.blk h.box (hd _ h.fp),h.fp,h.dev.beside t hd,fun k hk=>Ψ (h.lt k hk) t.size⟩
theorem bp.keep{w w':World}{F:Nat→Prop}{p b:Nat}{j:JL}(h:bp w F p b j)(q:Q w w'):bp w' F p b j:=h.beside (ae.br (own:=fun _=>False) q) (fun _ _=>id)
theorem cq.minus{w:World}{F:Nat→Prop}{b p:Nat}{d:af}{cs:Array Value}(h:cq w F b d)(hb:Blk w p 138 cs):cq w (fun k=>F k∧k≠p) b d:=by
 obtain⟨lv,pv,h⟩:=h;exact⟨lv,pv,h.box,⟨h.fb,Gb h.box hb Z⟩,h.ik,fun k e=>⟨h.fl k e,kM h.ik hb Z k e⟩,h.ir,fun k e=>⟨h.fp k e,kM h.ir hb Z k e⟩⟩
theorem bp.step{A B C:World}{F:Nat→Prop}{p b:Nat}{j:JL}{d:af}(hb:Blk A p 138 (jd b j))(q:Q A B)(t:ae (fun k=>F k∧k≠p) B C)(hd:cq C (grow (fun k=>F k∧k≠p) B C) b d)(ay:∀k,F k→k<A.heap.size)(hp:F p):
  bp C (grow F A C) p b { j with d:=d }∧ae F A C:=by
 have hs:=q.size;have jm:=t.size;refine⟨⟨t.blk (hb.stays q) (fun hc=>hc.2 rfl),.inl hp,hd.mono (fun k hk=>?_),fun k hk=>?_⟩,(ae.br q).trans (t.mono (fun k hk=>hk.1))⟩
 ·rcases hk with hk|hk
  ·exact .inl hk.1
  ·exact .inr ⟨U,hk.2⟩
 ·rcases hk with hk|hk
  ·have:=ay k hk;omega
  ·exact hk.2
theorem bp.turned{w w':World}{F:Nat→Prop}{p b:Nat}{j j':JL}(h:bp w F p b j)(hb:Blk w' p 138 (jd b j'))(hd:j'.d=j.d)(t:ae (fun k=>k=p) w w'):bp w' F p b j' :=
 ⟨hb,h.fp,by rw[hd];exact((h.dev.minus h.box).beside t (fun k hk e=>hk.2 e)).mono (fun k hk=>hk.1),fun k hk=>Ψ (h.lt k hk) t.size⟩
theorem bp.write{A:World}{F:Nat→Prop}{p b:Nat}{j:JL}(h:bp A F p b j)(hd:j.d.Ok)(hp:j.d.dead=false→j.d.p.length≤1000000)(i:Int)(s:Bytes)(hs:s.length≤1000000):∀B,Q A B →
  Calls prog 223 #[au b,.int .i64 i,ah s] B fun e C=>e=.returned (.int .i64 (j.d.write i s).2)∧bp C (grow F A C) p b { j with d:=(j.d.write i s).1 }∧ae F A C:=fun B q=>by
 refine(EL B (fun k=>F k∧k≠p) b j.d i s ((h.dev.minus h.box).keep q) hd hp U).mono ?_
 rintro e C ⟨rfl,h2,t2⟩
 exact⟨rfl,bp.step h.box q t2 h2 h.lt h.fp⟩
theorem bp.bu{A:World}{F:Nat→Prop}{p b:Nat}{j:JL}(h:bp A F p b j)(hd:j.d.Ok)(hp:j.d.dead=false→j.d.p.length≤1000000):∀B,Q A B →
  Calls prog 225 #[au b] B fun e C=>e=.returned (.int .i64 j.d.bu.2)∧bp C (grow F A C) p b { j with d:=j.d.bu.1 }∧ae F A C:=fun B q=>by
 refine(Lu B (fun k=>F k∧k≠p) b j.d ((h.dev.minus h.box).keep q) hd hp).mono ?_
 rintro e C ⟨rfl,h2,t2⟩
 exact⟨rfl,bp.step h.box q t2 (h2.mono (fun k hk=>.inl hk)) h.lt h.fp⟩
theorem Ay(w:World)(p b:Nat)(j:JL)(n:Nat)(hb:Blk w p 138 (jd b j))(hl:0<j.s.log)(fF:j.s.log≤1000000)(hp:j.s.place≤1000000)(hn:n≤3000000):
  Calls prog 282 #[au p,.int .i64 (n:Nat)] w fun e w'=>e=.returned (.int .i64 (cS j.s n:Nat))∧Q w w':=by
 obtain⟨c0,c1,c2,c3,c4,c5,c6,c7⟩:=hb.c8;have hh:((cS j.s n:Nat):Int)=2+(((j.s.place:Int)+(n:Int))%(j.s.log:Int)):=by unfold cS;simp only[abf,aah];rfl
 rw[hh];have nL:¬(j.s.log:Int)=0:=U;have Yw:((j.s.place:Int)+(n:Int))%(j.s.log:Int)<(j.s.log:Int):=aem _ U;have afG:0≤((j.s.place:Int)+(n:Int))%(j.s.log:Int):=Int.emod_nonneg _ U;clear hb hh;go_enter func282,ntmps282;go_wp2_with fail;go_quiet (fail);go_wp2_with fail;go_ret;exact⟨rfl,Q.drewN _ _⟩
theorem Og(w:World)(p b:Nat)(j:JL)(hb:Blk w p 138 (jd b j))(hl:j.s.log≤1000000):
  Calls prog 231 #[au p] w fun e w'=>e=.returned (.int .i64 (j.home:Nat))∧w=w':=by
 obtain⟨c0,c1,c2,c3,_⟩:=hb.c8;have hh:((j.home:Nat):Int)=2+(j.s.log:Int):=by unfold JL.home;omega
 rw[hh];clear hb hh;go_enter func231,ntmps231;go_wp2_with fail;go_ret;exact⟨rfl,rfl⟩
theorem p7:(prog.info? 3).map (fun i=>(i.zero,i.size,i.bytes))=some (some (.int .i64 0),1,8):=by kernel_rfl
def xT(s:Bytes)(w:World)(e:Ending)(w':World):Prop :=
 (dV s=none∧e=.returned (.tuple #[.int .u64 0,.slice none 0 0,.bool false])∧Q w w') ∨
 ∃seq at_ v,dV s=some (seq,at_)∧at_.length≤48∧e=.returned (.tuple #[.int .u64 (seq:Nat),v,.bool true])∧w'.ownsRow w.heap.size 3 1 v at_.length (uI at_)∧Q w w'
theorem Vh(s:Bytes)(hl:s.length=256)(w:World):
  Calls prog 309 #[ah s] w fun e w'=>xT s w e w':=by
 have x1:({ data:=s.toArray }:ByteArray).extract 0 4=⟨(s.take 4).toArray⟩:=uD s 4;have x2:({ data:=s.toArray }:ByteArray).extract 252 s.length=⟨(s.drop 252).toArray⟩:=fI s 252;have i4:(4:Int)≤(s.length:Int):=U;have i8:(8:Int)≤(s.length:Int):=U;have i12:(12:Int)≤(s.length:Int):=U;have i252:(252:Int)≤(s.length:Int):=U;have n1:((s.length:Int) != 256)=false:=by rw[bne,NX.2 U];rfl
 have n2:((s.length:Int)==256)=true:=NX.2 U;have kF:=Rn s;have x3:({ data:=s.toArray }:ByteArray).extract 4 s.length=⟨(s.drop 4).toArray⟩:=fI s 4;have x4:({ data:=s.toArray }:ByteArray).extract 8 s.length=⟨(s.drop 8).toArray⟩:=fI s 8;have x5:({ data:=s.toArray }:ByteArray).extract 12 s.length=⟨(s.drop 12).toArray⟩:=fI s 12;have c4:=fun (W:World)=>l9 (s.drop 4) W (by rw[MM];omega) (by rw[MM];omega)
 have c8:=fun (W:World)=>l9 (s.drop 8) W (by rw[MM];omega) (by rw[MM];omega)
 have c12:=fun (W:World)=>l9 (s.drop 12) W (by rw[MM];omega) (by rw[MM];omega)
 have ck:=fun (k:Nat) (hk:k<48) (W:World)=>l9 (s.drop (16+4*k)) W (by rw[MM];omega) (by rw[MM];omega)
 have xk:=fun (k:Nat)=>fI s k
 have bZ:∀i (hi:i<s.length),((({ data:=s.toArray }:ByteArray)[i]'hi).toNat:Int)=(bA s i:Nat):=fun i hi=>yO s i hi
 have HL:=Hd hl;have HM1:=Hd kF;have C4:=Hd c4;have C8:=Hd c8;have C12:=Hd c12;have CK:=Hd ck;have XK:=Hd xk;obtain⟨i1,qG,wH,tN,hy2⟩:=info_parts p7;clear hl kF c4 c8 c12 ck xk bZ;by_cases hA:s.take 4=[67,68,88,84];case neg =>
  have eA:(s.take 4==[67,68,88,84])=false:=Γ.2 hA;have bI:=HM1.out (fun h=>hA h.2.1)
  have dY:=Hd bI;clear bI hA;go_enter func309,ntmps309;go_wp2_with fail;go_ret3;exact .inl ⟨dY.out,rfl,Q.refl _⟩
 have eA:(s.take 4==[67,68,88,84])=true:=NX.2 hA;by_cases hB:s.drop 252=[67,68,88,69];case neg =>
  have eB:(s.drop 252==[67,68,88,69])=false:=Γ.2 hB;have bI:=HM1.out (fun h=>hB h.2.2)
  have dY:=Hd bI;clear bI hA hB;go_enter func309,ntmps309;go_wp2_with fail;go_ret3;exact .inl ⟨dY.out,rfl,Q.refl _⟩
 have eB:(s.drop 252==[67,68,88,69])=true:=NX.2 hB;have HA:=Hd hA;have HB:=Hd hB;have uS:=XW s;have ES:=XY s;have acf:=Vg s HL.out;have vI:=Vf s HL.out hA hB;have u1:=eU (s.drop 4);have u2:=eU (s.drop 8);have u3:=eU (s.drop 12);have ai1:=Hd uS;have ai2:=Hd ES;have afK:=Hd acf;have MB:=Hd vI;clear hA hB uS ES acf vI;generalize aM (s.drop 4)=v4 at *;generalize aM (s.drop 8)=v8 at *;generalize aM (s.drop 12)=n at *;go_enter func309,ntmps309;go_wp2_with fail;refine(C4.out _).mono ?_;rintro e w1 ⟨rfl,q1⟩;go_wp2_with fail;refine(C8.out _).mono ?_;rintro e w2 ⟨rfl,q2⟩;go_wp2_with fail;refine(C12.out _).mono ?_;rintro e w3 ⟨rfl,q3⟩;have fu:=Hd (q1.trans (q2.trans q3));clear q1 q2 q3;by_cases hn:1≤n∧n≤48;case neg =>
  have bI:=ai1.out hn;have dY:=Hd bI;clear bI;by_cases h1:n<1
  ·have e1:(n:Int)<1:=U
   clear hn h1;go_wp2_with fail;go_ret3;exact .inl ⟨dY.out,rfl,fu.out⟩
  ·have e1:¬(n:Int)<1:=U
   have e2:(48:Int)<(n:Int):=U;clear hn h1;go_wp2_with fail;go_ret3;exact .inl ⟨dY.out,rfl,fu.out⟩
 obtain⟨qM,kV⟩:=hn;have e1:¬(n:Int)<1:=U;have e2:¬(48:Int)<(n:Int):=U;go_wp2_with fail;go_loopw [14,15] (fun v i wr=>∃k:Nat,i=.int .i64 (k:Nat)∧k≤n∧Hid (wr.ownsRow w3.heap.size 3 1 v k (uI (xC s k)))∧Hid (Q w3 wr)∧Hid (∀x,x<k→iz s x<4096)) (fun _ i _=>n-(intOf i).toNat)
 case atStart=>exact⟨0,rfl,MD _,World.ownsRow_nil _ _ _ _,Q.refl _,Hd (fun x hx=>U)⟩
 case round =>
  obtain⟨k,rfl,hk,HOW,HQ,HBN⟩:=hrel;by_cases ay:k<n
  ·have bq:(k:Int)<(n:Int):=U
   have hc:=CK.out k U;have hx:=XK.out (16+4*k);have qN:((16:Int)+4*(k:Int)).toNat=16+4*k:=U;have qP:(16:Int)+4*(k:Int)≤(s.length:Int):=by have:=HL.out;omega
   have aC:=XV s k;have wI:=GH s k;have hnv:aM (s.drop (16+4*k))=iz s k:=rfl;have ai3:=eU (s.drop (16+4*k));rw[hnv] at ai3;rw[hnv] at hc;have eu:=ai2.out k ay kV;have HC:=Hd hc;have aX:=Hd aC;have rR:=Hd eu;clear hc aC eu hnv wI;generalize (s.drop (16+4*k)).drop 4=rk at *;generalize Tw:iz s k=a at *;go_wp2_with fail;refine(HC.out _).mono ?_;rintro e w4 ⟨rfl,q4⟩;have lH:=Hd (HQ.out.trans q4);have Pf:=Hd (ownsRow_below HOW.out q4);clear q4;by_cases hb:a<4096
   ·have eb:¬(4096:Int)≤(a:Int):=U
    have uf:∀x,x<k+1→iz s x<4096:=fun x hx=>by
     by_cases he:x=k
     ·subst he;rw[Tw];exact hb
     ·exact HBN.out x U
    have ai4:=Hd uf;have cO:∀u∈#[Value.int .i64 (a:Nat)].toList,u.oneCell'=true:=by intro u hu;simp at hu;rw[hu];rfl
    have dI:(k+1)*8≤140737488355328:=U;have qJ:=Hd cO;have uY:=Hd dI;have eH:w3.heap.size≤w4.heap.size:=lH.out.size;clear cO dI uf Tw hx qN qP;go_wp2_with (at_builtin;refine bG w4 ρ _ _ 59 ρ w3.heap.size 3 _ i1 (.int .i64 0) 1 8 underlying59 qG wH tN hy2 rfl Z Z _ _ _ ρ Pf.out #[.int .i64 (a:Nat)] ρ rfl qJ.out uY.out eH ?_)
    intro g11 jI w11 iB gu lQ jR iC;have qj:Q w3 w11:=bD lH.out Pf.out gu (Ω _) eH;have gW:w11.ownsRow w3.heap.size 3 1 (.slice (some ⟨g11,0,none⟩) (k+1) jI) (k+1) (uI (xC s (k+1))):=by
     rw[aX.out,show uI (xC s k++[a])=uI (xC s k)++[.int .i64 (a:Nat)] by simp[uI]];exact iB
    have oz:=Hd qj;have qW:=Hd gW;clear iB gu lQ jR iC gW qj;go_wp2_with fail;go_roundw;case rel=>exact⟨k+1,by go_num,U,qW,oz,ai4⟩
    case measure=>simp[intOf];omega
   ·have eb:(4096:Int)≤(a:Int):=U
    have bI:=rR.out hb;have dY:=Hd bI;clear bI hb Tw;go_wp2_with fail;go_ret3;exact .inl ⟨dY.out,rfl,fu.out.trans lH.out⟩
  ·have bq:¬(k:Int)<(n:Int):=U
   obtain rfl:k=n:=U;have kS:∀i,16+4*k≤i→i<248→bA s i≠0→dV s=none:=fun i h1 h2 h3=>afK.out kV i h1 h2 h3
   have xO:=Hd kS;clear kS;go_wp2_with fail;go_loopw [19] (fun v wr2=>∃i:Nat,v=.int .i64 (i:Nat)∧16+4*k≤i∧i≤248∧Hid (wr=wr2)∧Hid (∀x,16+4*k≤x→x<i→bA s x=0)) (fun v _=>248-(intOf v).toNat)
   case atStart=>exact⟨16+4*k,by go_num,Ω _,U,Hd rfl,Hd (fun x h1 h2=>U)⟩
   case round =>
    obtain⟨i,rfl,ai5,zq,HW,HZ⟩:=hrel;obtain rfl:=HW.out;by_cases nX:i<248
    ·have Dw:(i:Int)<248:=U
     have Cm:i<s.length:=by have:=HL.out;omega
     have am0:(i:Int)<(s.length:Int):=U;have iT:=yO s i Cm;by_cases hz:bA s i=0
     ·have ez:(((bA s i:Nat):Int)==0)=true:=NX.2 U
      have ez2:(((bA s i:Nat):Int) != 0)=false:=by rw[bne,ez];rfl
      have hzn:∀x,16+4*k≤x→x<i+1→bA s x=0:=fun x h1 h2=>by
       by_cases he:x=i
       ·rw[he];exact hz
       ·exact HZ.out x h1 U
      have Zj:=Hd hzn;clear hzn hz;go_wp2_with fail;go_roundw;case rel=>exact⟨i+1,by go_num,U,U,Hd (by first|rfl|trivial),Zj⟩
      case measure=>simp[intOf];omega
     ·have ez:(((bA s i:Nat):Int)==0)=false:=Γ.2 U
      have ez2:(((bA s i:Nat):Int) != 0)=true:=by rw[bne,ez];rfl
      have bI:=xO.out i ai5 nX hz;have dY:=Hd bI;clear bI hz;go_wp2_with fail;go_ret3;exact .inl ⟨dY.out,rfl,fu.out.trans HQ.out⟩
    ·have Dw:¬(i:Int)<248:=U
     obtain rfl:i=248:=U;have pQ:=MB.out qM kV HBN.out HZ.out;have HGD:=Hd pQ;have dP:=gT (base':=w.heap.size) HOW.out fu.out.size;have lu:=Hd dP;have Yq:(v8:Int)*4294967296+(v4:Int)=((v8*4294967296+v4:Nat):Int):=U;have ai6:=Hd Yq;clear pQ dP Yq;go_wp2_with fail;go_ret3;exact .inr ⟨_,_,_,HGD.out,by rw[GH];exact kV,by rw[←ai6.out];rfl,by rw[GH];exact lu.out,fu.out.trans HQ.out⟩
theorem Q.turned'{A B C:World}{own:Nat→Prop}(q:Q A B)(t:ae own B C)(ho:∀k,own k→A.heap.size≤k):Q A C :=
 ⟨t.os.trans q.os,t.tape.trans q.tape,t.output.trans q.output,My q.size t.size,fun k hk=>(t.block k (Ψ hk q.size) (fun e=>by have:=ho k e;omega)).trans (q.block k hk)⟩
theorem Cf(w:World)(e:TypeId)(size:Nat)(cs:Array Value)(h:cs.size=size)(hs:size≤1000):(w.alloc (.cells cs e)).ownsRow w.heap.size e size (.slice (some ⟨w.heap.size,0,none⟩) 1 1) 1 cs.toList :=
 ⟨by simp[h],.inr ⟨w.heap.size,1,cs,rfl,Ω _,heap_alloc_new _ _,by simp[h],by unfold maxLen;omega,by simpa using h,by simpa using NE (l:=cs.toList) (i:=size) (by simp[h])⟩⟩
def sG(ws:List WrL)(k:Nat):Bytes:=((ws.take k).map (·.2)).flatten
theorem LA(ws:List WrL)(k:Nat)(h:k<ws.length):sG ws (k+1)=sG ws k++ws[k].2:=by
 unfold sG;rw[M2 h,Pu,T0];simp
theorem Oj(ws:List WrL)(k:Nat)(hw:∀x∈ws,x.2.length=256)(h:k≤ws.length):(sG ws k).length=256*k:=by
 induction k with
 | zero=>rfl
 | succ k ih=>rw[LA ws k U,Δ,ih U,hw _ (MA _)];omega
def yS(seq:Nat)(ws:List WrL)(k:Nat):List Bytes:=bK seq ws::(ws.take k).map (·.2)
theorem X4(seq:Nat)(ws:List WrL)(k:Nat)(h:k<ws.length):yS seq ws (k+1)=yS seq ws k++[ws[k].2]:=by
 unfold yS;rw[M2 h,Pu];rfl
theorem wn(w:World)(seq:Nat)(hs:seq<18446744073709551616)(lv:Value)(ws:List WrL)(hl:Sl w lv ws.length 2 (aN ws))(hw:sS ws):
  Calls prog 230 #[.int .u64 (seq:Nat),lv] w fun e w'=>∃v,e=.returned (.tuple #[v,.int .i64 0])∧w'.ownsRow w.heap.size 9 1 v (ws.length+1) ((jG seq ws).map ah)∧Q w w':=by
 obtain⟨w1,w2,w3⟩:=hw;have hhd:=fun (W:World) (q:Q w W)=>vA W seq hs lv ws (hl.stays q) w2 (fun x hx=>(w3 x hx).1)
 obtain⟨la,lc,rfl,lX⟩:=hl.value;have aP:∀k (hk:k<ws.length),∃lb lo,la=some ⟨lb,lo,none⟩∧w.cell? ⟨lb,lo+k*2,none⟩=some (.int .i64 (ws[k].1:Nat))∧w.cell? ⟨lb,lo+k*2+1,none⟩=some (ah ws[k].2)∧ws[k].1<4096∧ws[k].2.length=256:=fun k hk=>by
  obtain⟨lb,lo,h1,h4⟩:=lX U;exact⟨lb,lo,h1,h4 _ _ (fQ ws k hk).1,by have:=h4 _ _ (fQ ws k hk).2;rwa [←P0] at this,w3 _ (MA hk)⟩
 have cf:=fun (v:Nat) (hv:v<4294967296) (W:World)=>ru v W hv
 have cc:=fun (s:Bytes) (hs:s.length≤1000000) (W:World)=>EJ s W U
 have gV:=Oj ws;have hdata:=fun k hk=>Oj ws k (fun x hx=>(w3 x hx).2) hk
 have dZ:=qd seq ws w2;have aeW:=yA (jo seq ws++sG ws ws.length);have fV:bK seq ws=jo seq ws++(aB (fU (jo seq ws++sG ws ws.length))++dq):=by unfold bK sG En;rw[N5]
 have bW:jG seq ws=yS seq ws ws.length:=by unfold jG yS;rw[N5]
 obtain⟨i1,qG,wH,tN,hy2⟩:=info_parts NM;have HHD:=Hd hhd;have HC:=Hd aP;have CF:=Hd cf;have CC:=Hd cc;have HDT:=Hd hdata;have kY:=Hd fV;have zJ:=Hd bW;have ai8:=Hd aeW;clear hhd aP cf cc lX hl hdata fV bW w3 hs aeW gV;have e0:((ws.length:Int)==0)=false:=Γ.2 U;have e1:¬(48:Int)<(ws.length:Int):=U;go_enter func230,ntmps230;go_wp2_with fail;go_loopw [6,7] (fun tv v wr=>∃k:Nat,v=.int .i64 (k:Nat)∧k≤ws.length∧tv=ah (sG ws k)∧Hid (w=wr)) (fun _ v _=>ws.length-(intOf v).toNat)
 case atStart=>exact⟨0,rfl,MD _,rfl,Hd rfl⟩
 case round =>
  obtain⟨k,rfl,hk,rfl,HQ⟩:=hrel;have zC:=HDT.out k hk;by_cases ay:k<ws.length
  ·have bq:(k:Int)<(ws.length:Int):=U
   obtain⟨lb,lo,rfl,x1,x2,sJ,mh⟩:=HC.out k ay;obtain rfl:=HQ.out;have aC:=LA ws k ay;have aX:=Hd aC;clear aC;generalize ws[k].1=bk at *;generalize ai9:ws[k].2=dk at *;have Ac:((dk.length:Int) != 256)=false:=by rw[bne,NX.2 U];rfl
   have am1:(!((dk.length:Int)==256))=false:=by rw[NX.2 U];rfl
   have eT:¬(bk:Int)<0:=U;have jM:¬(4096:Int)≤(bk:Int):=U;have mG:(sG ws k).length≤100000:=U;have fF:dk.length≤1000:=U;clear zC mh ai9;generalize sG ws k=da at *;go_wp2_with fail;go_roundw;case rel=>exact⟨k+1,by go_num,U,by rw[aX.out];simp only[bytes_append],Hd (by first|rfl|trivial)⟩
   case measure=>simp[intOf];omega
  ·have bq:¬(k:Int)<(ws.length:Int):=U
   obtain rfl:k=ws.length:=U;obtain rfl:=HQ.out;have mG:(sG ws ws.length).length≤100000:=U;have nL:(jo seq ws).length≤1000:=U;have bL:(jo seq ws++sG ws ws.length).length≤1000000:=by rw[Δ];omega
   have kR:=CC.out _ bL;have FQ:=CF.out _ ai8.out;have LV:=aH (fU (jo seq ws++sG ws ws.length));clear zC bL;generalize sG ws ws.length=da at *;generalize jo seq ws=bd at *;generalize fU (bd++da)=cr at *;generalize aB cr=fx at *;have Cv:=Hd kR;have Z8:=Hd FQ;clear kR FQ;go_wp2_with fail;refine(HHD.out _ (Q.refl _)).mono ?_;rintro e w4 ⟨rfl,q4⟩;have lH:=Hd q4;clear q4;go_wp2_with fail;rw[bytes_append];refine(Cv.out _).mono ?_;rintro e w5 ⟨rfl,rfl⟩;go_wp2_with fail;refine(Z8.out _).mono ?_;rintro e w6 ⟨rfl,q6⟩;have lG:=Hd (lH.out.trans q6);clear q6;go_upto_region 14 with fail;have zy:(#[67,68,88,69]:Array UInt8)=dq.toArray:=rfl;simp only[zy,bytes_append];have rD:bd++fx++dq=bK seq ws:=by rw[kY.out,MY]
   rw[rD];have lT:yS seq ws 0=[bK seq ws]:=by unfold yS;simp
   generalize bK seq ws=hd at *;have zU:=Cf w6 9 1 #[ah hd] rfl Z;have wK:Q w (w6.alloc (.cells #[ah hd] 9)):=lG.out.trans (Q.alloc _ _);have hz7:w6.heap.size≤(w6.alloc (.cells #[ah hd] 9)).heap.size:=κ;generalize w6.alloc (.cells #[ah hd] 9)=w7 at *;have dP:w7.ownsRow w6.heap.size 9 1 (.slice (some ⟨w6.heap.size,0,none⟩) 1 1) (0+1) ((yS seq ws 0).map ah):=by rw[lT];exact zU
   have lu:=Hd dP;have lJ:=Hd wK;have HZ7:=Hd hz7;clear zU dP wK lT rD zy hz7;have e4:ws.length=ws.length:=rfl;clear e4 mG nL LV dZ;go_wp2_with fail;go_loopw [9,10] (fun v i wr=>∃k:Nat,i=.int .i64 (k:Nat)∧k≤ws.length∧Hid (wr.ownsRow w6.heap.size 9 1 v (k+1) ((yS seq ws k).map ah))∧Hid (Q w wr)∧Hid (w6.heap.size≤wr.heap.size)) (fun _ i _=>ws.length-(intOf i).toNat)
   case atStart=>exact⟨0,rfl,MD _,lu,lJ,HZ7⟩
   case round =>
    obtain⟨k,rfl,hk,HOW,bJ,Zj⟩:=hrel;by_cases ay:k<ws.length
    ·have bq:(k:Int)<(ws.length:Int):=U
     obtain⟨lb,lo,rfl,-,x2,-,-⟩:=HC.out k ay;have y2:=aI bJ.out x2;have aC:=X4 seq ws k ay;have aX:=Hd aC;clear aC x2;generalize ws[k].2=dk at *;have cO:∀u∈#[ah dk].toList,u.oneCell'=true:=by intro u hu;simp at hu;rw[hu];rfl
     have dI:(k+1+1)*16≤140737488355328:=U;have qJ:=Hd cO;have uY:=Hd dI;have eH:w6.heap.size≤wr.heap.size:=Zj.out;clear cO dI;go_wp2_with (at_builtin;refine bG wr ρ _ _ 64 ρ w6.heap.size 9 _ i1 (ah []) 1 16 underlying64 qG wH tN hy2 rfl Z Z _ _ _ ρ HOW.out #[ah dk] ρ rfl qJ.out uY.out eH ?_)
     intro g11 jI w11 iB gu lQ jR iC;have qj:Q w w11:=Q.turned' bJ.out (own:=fun g=>w6.heap.size≤g) ⟨gu.os,gu.tape,gu.output,gu.size,fun g h1 h2=>gu.block g h1 (fun e=>h2 (HOW.out.lt g e.symm).1)⟩ (fun g hg=>by have:=lG.out.size;omega)
     have gW:w11.ownsRow w6.heap.size 9 1 (.slice (some ⟨g11,0,none⟩) (k+1+1) jI) (k+1+1) ((yS seq ws (k+1)).map ah):=by
      rw[aX.out,Pu];exact iB
     have oz:=Hd qj;have qW:=Hd gW;have aja:=Hd (My Zj.out gu.size);clear iB gu lQ jR iC gW qj;go_wp2_with fail;go_roundw;case rel=>exact⟨k+1,by go_num,U,qW,oz,aja⟩
     case measure=>simp[intOf];omega
    ·have bq:¬(k:Int)<(ws.length:Int):=U
     obtain rfl:k=ws.length:=U;have dK:=gT (base':=w.heap.size) HOW.out lG.out.size;rw[←zJ.out] at dK;have nT:=Hd dK;clear dK;go_wp2_with fail;go_ret2;exact⟨_,rfl,nT.out,bJ.out⟩
theorem LF(W0:World){w:World}{ops:Array Oper}{o:Oper}{a:Act}{K:Act→World→Prop}{Qx:Exit→Act→World→Prop}{E:Prop}(pQ:o.guard=none)(s x:Operand)
  (ho:o.op=.call { callee:=.builtin .append,args:=#[s,x],argTypes:=#[66,66] })
  (v:Value) (n:Nat) (xs:List WrL) (hs:a.eval s=v) (aF:w.ownsRow W0.heap.size 116 2 v n (aN xs)) (hq:Q W0 w)
  (vx:Value) (m:Nat) (ys:List WrL) (hx:a.eval x=vx) (hl:Sl w vx m 2 (aN ys)) (qO:n+m≤1000000000) (yJ:∀u∈aN ys,u.oneCell'=true)
  (h:∀v' w',w'.ownsRow W0.heap.size 116 2 v' (n+m) (aN (xs++ys))→Q W0 w'→K (a.put o.dst v') w') :
  if Region.wanted o (yielded ops a.tmps)=true then Oper.wp prog o a w K Qx else E:=by
 obtain⟨i0,hi,bY,bB,aW⟩:=info_parts nC;have hw:Region.wanted o (yielded ops a.tmps)=true:=by simp[Region.wanted,pQ]
 rw[Φ hw];refine wZ w s x 66 ho W0.heap.size 116 i0 (.agg #[.int .i64 0,ah []]) 2 24 underlying66 hi bY bB aW rfl Z v n (aN xs) hs aF vx m (aN ys) hx hl yJ (by unfold maxLen;omega) U hq.size ?_
 ·intro v' w' h2 h3 _
  exact h v' w' (by rw[iF];exact h2) (bD hq aF h3 (Ω _) hq.size)
theorem vm(w:World)(x:Nat)(y:Bytes):Sl (w.alloc (.cells #[.int .i64 (x:Nat),ah y] 116)) (.slice (some ⟨w.heap.size,0,none⟩) 1 1) 1 2 (aN [(x,y)]) :=
 Sl.lit w #[.int .i64 (x:Nat),ah y] 116 1 2 rfl
theorem Lo(x:Nat)(y:Bytes):∀u∈aN [(x,y)],u.oneCell'=true:=by
 intro u hu;simp[aN,mX] at hu;rcases hu with rfl|rfl<;>rfl
def rL(ls:List Bytes)(w:World)(e:Ending)(w':World):Prop :=
 (∃a v x,e=.returned (.tuple #[a,v,.int .i64 x])∧(eD ls=none→x≠0)∧∀seq ws,eD ls=some (seq,ws)→x=0∧a=.int .u64 (seq:Nat)∧w'.ownsRow w.heap.size 116 2 v ws.length (aN ws))∧Q w w'
theorem Vi(w:World)(base:Nat)(lv:Value)(ls:List Bytes)(h:w.ownsRow base 9 1 lv ls.length (ls.map ah))(hn:ls.length≤49)(hl:∀s∈ls,s.length=256):
  Calls prog 283 #[lv] w fun e w'=>rL ls w e w':=by
 obtain⟨la,lc,rfl,om⟩:=aY h;have bX:=Sl.cy h;cases ls with
 | nil =>
  go_enter func283,ntmps283;go_wp2_with fail;go_ret3;exact⟨⟨_,_,_,rfl,fun _=>Z,fun _ _ hc=>by simp[eD] at hc⟩,Q.refl _⟩
 | cons b rest =>
  obtain⟨lb,rfl⟩:=om κ;have tO:∀k (hk:k<(b::rest).length),w.cell? ⟨lb,k,none⟩=some (ah ((b::rest).getD k [])):=fun k hk=>iy bX κ k _ (MR _ k hk)
  have x0:=tO 0 κ;simp only[acK] at x0;have hb:=hl b (Nm ..);have cr:=Vh b hb;rw[Mu] at *;have nV:eD (b::rest)=match dV b with
   | none=>none
   | some (seq,at_)=>if rest.length<at_.length∨∃s∈rest.take at_.length,s.length≠256 then none
     else if aB (fU (b.take 248++(rest.take at_.length).flatten))=(b.drop 248).take 4 then some (seq,at_.zip rest) else none:=rfl
  have aeX:=fun (s:Bytes) (hs:s.length≤1000000) (W:World)=>EJ s W U
  have FQ:=fun (v:Nat) (hv:v<4294967296) (W:World)=>ru v W hv
  have CR:=Hd cr;have HL:=Hd hl;have HC:=Hd tO;have zL:=Hd nV;have HB:=Hd hb;have CCC:=Hd aeX;have CF:=Hd FQ;clear cr hl tO nV bX h hb aeX FQ;have aU:((rest.length:Int)+1==0)=false:=Γ.2 U;have Du:(0:Int)<(rest.length:Int)+1:=U;have am2:¬((rest.length:Int)+1=0):=U;go_enter func283,ntmps283;go_wp2_with fail;refine(CR.out w).mono ?_;rintro e w1 (⟨Hq,rfl,q1⟩|⟨seq,at_,v,Hq,jy,rfl,hr,q1⟩)
  ·have bI:eD (b::rest)=none:=by rw[zL.out,Hq]
   have dY:=Hd bI;have dF:=Hd q1;clear bI Hq q1;go_wp2_with fail;go_ret3;exact⟨⟨_,_,_,rfl,fun _=>Z,fun _ _ hc=>by rw[dY.out] at hc;exact absurd hc κ⟩,dF.out⟩
  ·obtain⟨pa,pc,rfl,nO⟩:=aY hr
   have nV:=zL.out;rw[Hq] at nV;simp only at nV;have aaY:=Hd nV;have HR:=Hd hr;have dF:=Hd q1;have HTH:=Hd Hq;clear nV hr q1 Hq zL;by_cases hlen:rest.length<at_.length
   ·have hh:(rest.length:Int)+1≤(at_.length:Int):=U
    have bI:eD (b::rest)=none:=by rw[aaY.out,Φ (.inl hlen)]
    have dY:=Hd bI;clear bI hlen;go_wp2_with fail;go_ret3;exact⟨⟨_,_,_,rfl,fun _=>Z,fun _ _ hc=>by rw[dY.out] at hc;exact absurd hc κ⟩,dF.out⟩
   ·have hh:¬(rest.length:Int)+1≤(at_.length:Int):=U
    have zI:∀k,k<at_.length→∃ga,pa=some ⟨ga,0,none⟩∧w1.cell? ⟨ga,k,none⟩=some (.int .i64 (at_.getD k 0:Nat)):=fun k hk=>by
     obtain⟨ga,rfl⟩:=nO U;exact⟨_,rfl,iy (Sl.cy HR.out) U k _ (QC at_ k hk)⟩
    have JA:∀k,k<at_.length→w1.cell? ⟨lb,1+k,none⟩=some (ah (rest.getD k []))∧(rest.getD k []).length=256:=fun k hk=>by
     have h1:=HC.out (k+1) U;rw[abJ,abX] at h1;refine⟨aI dF.out h1,?_⟩;rw[Θ,Mp (by omega:k<rest.length)]
     exact HL.out _ (M1 _ (MA _))
    have jl:∀k,k<at_.length→(at_.zip rest).take (k+1)=(at_.zip rest).take k++[(at_.getD k 0,rest.getD k [])]∧(rest.take (k+1)).flatten=(rest.take k).flatten++rest.getD k []:=fun k hk=>by
     have h3:k<(at_.zip rest).length:=by rw[Ys];omega
     have h4:k<rest.length:=U;constructor
     ·rw[M2 h3,List.getElem_zip,Θ,Θ,Mp hk,Mp h4]
      rfl
     ·rw[M2 h4,T0,Θ,Mp h4]
      simp
    have kG:∀k,k≤at_.length→(rest.take k).flatten.length=256*k:=fun k hk=>by
     induction k with
     | zero=>rfl
     | succ k ih=>rw[(jl k U).2,Δ,ih U,(JA k U).2];omega
    have CG:=Hd zI;have VJ:=Hd JA;have HZS:=Hd jl;have xM:=Hd kG;clear zI JA jl kG;go_wp2_with fail;go_loopw [8,9,10] (fun tv ov i wr=>∃k:Nat,i=.int .i64 (k:Nat)∧k≤at_.length∧tv=ah (rest.take k).flatten∧Hid (wr.ownsRow w1.heap.size 116 2 ov k (aN ((at_.zip rest).take k)))∧Hid (Q w1 wr)) (fun _ _ i _=>at_.length-(intOf i).toNat)
    case atStart=>exact⟨0,rfl,MD _,rfl,World.ownsRow_nil _ _ _ _,Hd (Q.refl _)⟩
    case round =>
     obtain⟨k,rfl,hk,rfl,HOW,bJ⟩:=hrel;have Pe:=xM.out k hk;by_cases ay:k<at_.length
     ·have bq:(k:Int)<(at_.length:Int):=U
      have Dw:1+(k:Int)<(rest.length:Int)+1:=U;have aeY:(0:Int)≤1+(k:Int):=U;have tX:(1+(k:Int)).toNat=1+k:=U;have Cz:IntKind.i64.wrap (1+(k:Int))=1+(k:Int):=IntWalk.i64_in _ U;obtain⟨ga,rfl,x1⟩:=CG.out k ay;obtain⟨x2,Yy⟩:=VJ.out k ay;have y1:=aI bJ.out x1;have y2:=aI bJ.out x2;have jl:=HZS.out k ay;have HZ:=Hd jl;clear jl x1 x2;generalize at_.getD k 0=bk at *;generalize rest.getD k []=dk at *;have Md:((dk.length:Int) != 256)=false:=by rw[bne,NX.2 U];rfl
      have Y7:((dk.length:Int)==256)=true:=NX.2 U;have hd4:dk.length≤1000:=U;have Ry:(rest.take k).flatten.length≤100000:=U;clear Yy Pe;generalize (rest.take k).flatten=fk at *;generalize (at_.zip rest).take k=zk at *;have HKB:=Hd (show k+1≤1000000000 by omega)
      go_wp2_with fail;go_region_law
       (first
        | (refine LF w1 ρ _ _ ρ _ k zk ρ (ownsRow_below HOW.out (by first|exact Q.alloc _ _|exact Qs.dr (Q.alloc _ _)|exact Qs.al (Q.drew _) _)) (bJ.out.trans (by first|exact Q.alloc _ _|exact Qs.dr (Q.alloc _ _)|exact Qs.al (Q.drew _) _)) _ 1 [(bk,dk)] ρ (by first|exact vm wr bk dk|exact(vm wr bk dk).stays (Q.drew _)) HKB.out (Lo bk dk) ?_;intro v7 w7 h7 q7;have H7:=Hd h7;have Q7:=Hd q7;clear h7 q7))
      all_goals
       have h7:w7.ownsRow w1.heap.size 116 2 v7 (k+1) (aN ((at_.zip rest).take (k+1))):=by rw[HZ.out.1];exact H7.out
       have OW:=Hd h7;clear h7 Cz tX Dw aeY y1 y2;go_simp;go_wp2_with fail;go_roundw;case rel=>exact⟨k+1,by go_num,U,by rw[HZ.out.2];simp only[bytes_append],OW,Q7⟩
       case measure=>simp[intOf];omega
     ·have bq:¬(k:Int)<(at_.length:Int):=U
      obtain rfl:k=at_.length:=U;have y0:=aI (dF.out.trans bJ.out) x0;have nV:eD (b::rest)=if aB (fU (b.take 248++(rest.take at_.length).flatten))=(b.drop 248).take 4 then some (seq,at_.zip rest) else none:=by
       rw[aaY.out,η];rintro(hc|⟨q,hq,Du⟩)
       ·exact hlen hc
       ·exact Du (HL.out q (M1 _ (Sf hq)))
      have hzt:(at_.zip rest).take at_.length=at_.zip rest:=NE (by rw[Ys];omega)
      have xX:(at_.zip rest).length=at_.length:=by rw[Ys];omega
      have dP:wr.ownsRow w.heap.size 116 2 u9 (at_.zip rest).length (aN (at_.zip rest)):=by
       have:=HOW.out;rw[hzt] at this;rw[xX];exact gT this dF.out.size
      have Ry:(rest.take at_.length).flatten.length≤100000:=U;have dZ:=HB.out;have bL:(b.take 248++(rest.take at_.length).flatten).length≤1000000:=by rw[Δ,Mz];omega
      have kR:=CCC.out _ bL;have Tx:=yA (b.take 248++(rest.take at_.length).flatten);have FQ:=CF.out _ Tx;have sJ:({ data:=b.toArray }:ByteArray).extract 248 252=⟨((b.drop 248).take 4).toArray⟩:=eY b 248 252;have mh:({ data:=b.toArray }:ByteArray).extract 0 248=⟨(b.take 248).toArray⟩:=uD b 248;have hb1:(252:Int)≤(b.length:Int):=U;have bN:(248:Int)≤(b.length:Int):=U;have gI:(b.take 248).length≤1000:=by rw[Mz];omega
      have aeZ:=Hd nV;have lu:=Hd dP;clear nV hzt xX dP Pe bL Tx dZ xM HZS VJ CG aaY HOW;generalize (rest.take at_.length).flatten=fk at *;generalize b.take 248=bt at *;generalize (b.drop 248).take 4=bm at *;generalize fU (bt++fk)=cr at *;generalize aB cr=fx at *;have CO:¬9223372036854775807<bt.length+fk.length:=U;have am3:¬(9223372036854775807:Int)<(bt.length:Int)+(fk.length:Int):=U;have Cv:=Hd kR;have Z8:=Hd FQ;have KK:=Hd (Q.refl wr);clear kR FQ;go_wp2_with fail;go_region_held3 (fun w'=>w'.cell? ⟨lb,0,none⟩=some (ah b))
       (first|exact y0|exact aI δ y0)
       (first
        | (go_at_call 146;rw[bytes_append];with_reducible refine(Cv.out _).mono ?_;rintro e w5 ⟨rfl,rfl⟩)
        | (go_at_call 145;with_reducible refine(Z8.out _).mono ?_;rintro e w6 ⟨rfl,q6⟩;have s':Q wr w6:=Q.trans ω q6;clear KK;have KK:=Hd s';clear s' q6))
      all_goals
       have yj:Q w w6:=dF.out.trans (bJ.out.trans KK.out);have Mx:=ownsRow_below lu.out KK.out;have lG:=Hd yj;have OV:=Hd Mx;clear yj Mx;by_cases hc:fx=bm
       ·have hu:=aeZ.out
        rw[Φ hc] at hu;have HU:=Hd hu;have aaZ:=Hd hc.symm;clear hu hc;go_wp2_with fail;all_goals first
         | (exfalso;rename_i hx;rw[NX.2 aaZ.out] at hx;exact absurd hx Z)
         | (go_ret3
            refine⟨⟨_,_,_,rfl,fun h=>by rw[HU.out] at h;exact absurd h κ,fun sq ws h=>?_⟩,lG.out⟩
            rw[HU.out] at h;simp only[N6,SD] at h;obtain⟨rfl,rfl⟩:=h;exact⟨rfl,rfl,OV.out⟩)
       ·have hu:=aeZ.out
        rw[η hc] at hu;have HU:=Hd hu;have aaZ:=Hd (abH hc);clear hu hc;go_wp2_with fail;all_goals first
         | (exfalso;rename_i hx;rw[abg aaZ.out] at hx;exact absurd hx Z)
         | (go_ret3
            exact⟨⟨_,_,_,rfl,fun h=>Z,fun sq ws h=>by rw[HU.out] at h;exact absurd h κ⟩,lG.out⟩)
theorem Qs.le{A B:World}(h:Q A B):A.heap.size≤B.heap.size:=Below.size h
theorem X6(t:Bytes)(n:Nat)(ht:t.length=256)(hn:n≤4096)(w:World):
  Calls prog 227 #[ah t,.int .i64 (n:Nat)] w fun e w'=>(∃s0:bw,e=.returned (.tuple #[.agg #[.int .u64 (s0.e:Nat),.int .u64 (s0.s:Nat),.int .i64 (s0.log:Nat),.int .i64 (s0.place:Nat)],.bool (aR t n).isSome])∧∀s,aR t n=some s→s=s0)∧Q w w':=by
 have c1:=fun (W:World)=>l9 (t.drop 20) W (by rw[MM];omega) (by rw[MM];omega)
 have c2:=fun (W:World)=>l9 (t.drop 24) W (by rw[MM];omega) (by rw[MM];omega)
 have c3:=fun (W:World)=>Oh (t.drop 4) W (by rw[MM];omega) (by rw[MM];omega)
 have c4:=fun (W:World)=>Oh (t.drop 12) W (by rw[MM];omega) (by rw[MM];omega)
 have d1:({ data:=t.toArray }:ByteArray).extract 20 t.length=⟨(t.drop 20).toArray⟩:=fI t 20;have d2:({ data:=t.toArray }:ByteArray).extract 24 t.length=⟨(t.drop 24).toArray⟩:=fI t 24;have d3:({ data:=t.toArray }:ByteArray).extract 4 t.length=⟨(t.drop 4).toArray⟩:=fI t 4;have d4:({ data:=t.toArray }:ByteArray).extract 12 t.length=⟨(t.drop 12).toArray⟩:=fI t 12;have i4:(4:Int)≤(t.length:Int):=U;have i12:(12:Int)≤(t.length:Int):=U;have i20:(20:Int)≤(t.length:Int):=U;have i24:(24:Int)≤(t.length:Int):=U;have l1:=eU (t.drop 20);have l2:=eU (t.drop 24);have bX:gP t=⟨Cj (t.drop 4),Cj (t.drop 12),aM (t.drop 20),aM (t.drop 24)⟩:=by
  unfold gP Cj;simp only[Ps]
 have mR:aR t n=if 50≤(gP t).log∧(gP t).log+3≤n∧(gP t).place<(gP t).log∧aQ (gP t)=t then some (gP t) else none:=rfl
 have ig:=FU t;rw[bX] at mR ig;simp only at mR;have zu:IntKind.i64.wrap ((n:Int)-3)=(n:Int)-3:=IntWalk.i64_in _ U;generalize Cj (t.drop 4)=ee at *;generalize Cj (t.drop 12)=ss at *;generalize aM (t.drop 20)=u4 at *;generalize aM (t.drop 24)=u5 at *;generalize (t.drop 20).drop 4=r4 at *;generalize (t.drop 24).drop 4=r5 at *;have C1:=Hd c1;have C2:=Hd c2;have C3:=Hd c3;have C4:=Hd c4;have wL:=Hd mR;have Bo:=Hd ig;clear c1 c2 c3 c4 mR ig bX ht;by_cases yx:u4<50
 ·have e1:(u4:Int)<50:=U
  have bI:aR t n=none:=by rw[wL.out,η (fun h=>by have:=h.1;omega)]
  have dY:=Hd bI;clear bI;go_enter func227,ntmps227;go_upto_region 1 with fail;have eH:=Blk.new w 136 #[.int .u64 0,.int .u64 0,.int .i64 0,.int .i64 0];have ji:=Q.alloc w (.cells #[.int .u64 0,.int .u64 0,.int .i64 0,.int .i64 0] 136);generalize w.alloc (.cells #[.int .u64 0,.int .u64 0,.int .i64 0,.int .i64 0] 136)=w1 at *;have wG:=Hd eH;have mF:=Hd ji;clear eH ji;go_wp2_with fail;refine(C1.out _).mono ?_;rintro e w2 ⟨rfl,q2⟩;go_wp2_with fail;refine(C2.out _).mono ?_;rintro e w3 ⟨rfl,q3⟩;have gI:=wG.out.stays (q2.trans q3);obtain⟨c0,c1,c2,c3,f0,f1,f2,f3⟩:=gI.c4;have qI:=Hd gI;have fu:=Hd (mF.out.trans (q2.trans q3));clear gI q2 q3;go_wp2_with fail;refine bodyPost_ret (kQ rfl _ _ w.heap.size 136 _ (0,0) _ rfl (yE qI.out (.int .u64 ((0:Nat):Int)) (.int .u64 ((0:Nat):Int)) (.int .i64 ((0:Nat):Int)) (.int .i64 ((0:Nat):Int))) underlying136 rfl (by kernel_rfl)) rfl ?_
  refine⟨⟨⟨0,0,0,0⟩,?_,fun s hs=>?_⟩,?_⟩
  ·rw[dY.out];rfl
  ·rw[dY.out] at hs;exact absurd hs κ
  ·exact Qs.st (Qs.st (Qs.st (Qs.st fu.out _ _ (Ω _)) _ _ (Ω _)) _ _ (Ω _)) _ _ (Ω _)
 have e1:¬(u4:Int)<50:=U;by_cases h41:4096<u4
 ·have e2:(4096:Int)<(u4:Int):=U
  have bI:aR t n=none:=by rw[wL.out,η (fun h=>by have:=h.2.1;omega)]
  have dY:=Hd bI;clear bI;go_enter func227,ntmps227;go_upto_region 1 with fail;have eH:=Blk.new w 136 #[.int .u64 0,.int .u64 0,.int .i64 0,.int .i64 0];have ji:=Q.alloc w (.cells #[.int .u64 0,.int .u64 0,.int .i64 0,.int .i64 0] 136);generalize w.alloc (.cells #[.int .u64 0,.int .u64 0,.int .i64 0,.int .i64 0] 136)=w1 at *;have wG:=Hd eH;have mF:=Hd ji;clear eH ji;go_wp2_with fail;refine(C1.out _).mono ?_;rintro e w2 ⟨rfl,q2⟩;go_wp2_with fail;refine(C2.out _).mono ?_;rintro e w3 ⟨rfl,q3⟩;have gI:=wG.out.stays (q2.trans q3);obtain⟨c0,c1,c2,c3,f0,f1,f2,f3⟩:=gI.c4;have qI:=Hd gI;have fu:=Hd (mF.out.trans (q2.trans q3));clear gI q2 q3;go_wp2_with fail;refine bodyPost_ret (kQ rfl _ _ w.heap.size 136 _ (0,0) _ rfl (yE qI.out (.int .u64 ((0:Nat):Int)) (.int .u64 ((0:Nat):Int)) (.int .i64 ((0:Nat):Int)) (.int .i64 ((0:Nat):Int))) underlying136 rfl (by kernel_rfl)) rfl ?_
  refine⟨⟨⟨0,0,0,0⟩,?_,fun s hs=>?_⟩,?_⟩
  ·rw[dY.out];rfl
  ·rw[dY.out] at hs;exact absurd hs κ
  ·exact Qs.st (Qs.st (Qs.st (Qs.st fu.out _ _ (Ω _)) _ _ (Ω _)) _ _ (Ω _)) _ _ (Ω _)
 have e2:¬(4096:Int)<(u4:Int):=U;by_cases fT:u4+3≤n;case neg =>
  have e3:(n:Int)-3<(u4:Int):=U;have bI:aR t n=none:=by rw[wL.out,η (fun h=>fT h.2.1)]
  have dY:=Hd bI;clear bI;go_enter func227,ntmps227;go_upto_region 1 with fail;have eH:=Blk.new w 136 #[.int .u64 0,.int .u64 0,.int .i64 0,.int .i64 0];have ji:=Q.alloc w (.cells #[.int .u64 0,.int .u64 0,.int .i64 0,.int .i64 0] 136);generalize w.alloc (.cells #[.int .u64 0,.int .u64 0,.int .i64 0,.int .i64 0] 136)=w1 at *;have wG:=Hd eH;have mF:=Hd ji;clear eH ji;go_wp2_with fail;refine(C1.out _).mono ?_;rintro e w2 ⟨rfl,q2⟩;go_wp2_with fail;refine(C2.out _).mono ?_;rintro e w3 ⟨rfl,q3⟩;have gI:=wG.out.stays (q2.trans q3);obtain⟨c0,c1,c2,c3,f0,f1,f2,f3⟩:=gI.c4;have qI:=Hd gI;have fu:=Hd (mF.out.trans (q2.trans q3));clear gI q2 q3;go_wp2_with fail;refine bodyPost_ret (kQ rfl _ _ w.heap.size 136 _ (0,0) _ rfl (yE qI.out (.int .u64 ((0:Nat):Int)) (.int .u64 ((0:Nat):Int)) (.int .i64 ((0:Nat):Int)) (.int .i64 ((0:Nat):Int))) underlying136 rfl (by kernel_rfl)) rfl ?_
  refine⟨⟨⟨0,0,0,0⟩,?_,fun s hs=>?_⟩,?_⟩
  ·rw[dY.out];rfl
  ·rw[dY.out] at hs;exact absurd hs κ
  ·exact Qs.st (Qs.st (Qs.st (Qs.st fu.out _ _ (Ω _)) _ _ (Ω _)) _ _ (Ω _)) _ _ (Ω _)
 have e3:¬(n:Int)-3<(u4:Int):=U;by_cases bW:u5<u4;case neg =>
  have e4:(u4:Int)≤(u5:Int):=U;have bI:aR t n=none:=by rw[wL.out,η (fun h=>bW h.2.2.1)]
  have dY:=Hd bI;clear bI;go_enter func227,ntmps227;go_upto_region 1 with fail;have eH:=Blk.new w 136 #[.int .u64 0,.int .u64 0,.int .i64 0,.int .i64 0];have ji:=Q.alloc w (.cells #[.int .u64 0,.int .u64 0,.int .i64 0,.int .i64 0] 136);generalize w.alloc (.cells #[.int .u64 0,.int .u64 0,.int .i64 0,.int .i64 0] 136)=w1 at *;have wG:=Hd eH;have mF:=Hd ji;clear eH ji;go_wp2_with fail;refine(C1.out _).mono ?_;rintro e w2 ⟨rfl,q2⟩;go_wp2_with fail;refine(C2.out _).mono ?_;rintro e w3 ⟨rfl,q3⟩;have gI:=wG.out.stays (q2.trans q3);obtain⟨c0,c1,c2,c3,f0,f1,f2,f3⟩:=gI.c4;have qI:=Hd gI;have fu:=Hd (mF.out.trans (q2.trans q3));clear gI q2 q3;go_wp2_with fail;refine bodyPost_ret (kQ rfl _ _ w.heap.size 136 _ (0,0) _ rfl (yE qI.out (.int .u64 ((0:Nat):Int)) (.int .u64 ((0:Nat):Int)) (.int .i64 ((0:Nat):Int)) (.int .i64 ((0:Nat):Int))) underlying136 rfl (by kernel_rfl)) rfl ?_
  refine⟨⟨⟨0,0,0,0⟩,?_,fun s hs=>?_⟩,?_⟩
  ·rw[dY.out];rfl
  ·rw[dY.out] at hs;exact absurd hs κ
  ·exact Qs.st (Qs.st (Qs.st (Qs.st fu.out _ _ (Ω _)) _ _ (Ω _)) _ _ (Ω _)) _ _ (Ω _)
 have e4:¬(u4:Int)≤(u5:Int):=U;have cst:=fun (W:World)=>EM ⟨ee,ss,u4,u5⟩ Bo.out W
 have iQ:(aR t n).isSome=(aQ ⟨ee,ss,u4,u5⟩==t)∧∀s,aR t n=some s→s=⟨ee,ss,u4,u5⟩:=by
  rw[wL.out];by_cases jT:aQ ⟨ee,ss,u4,u5⟩=t
  ·rw[Φ ⟨U,fT,bW,jT⟩,NX.2 jT]
   exact⟨rfl,fun s hs=>(acF hs).symm⟩
  ·rw[η (fun h=>jT h.2.2.2),Γ.2 jT]
   exact⟨rfl,fun s hs=>absurd hs κ⟩
 have Sg:=Hd cst;have vR:=Hd iQ;clear cst iQ;generalize aQ ⟨ee,ss,u4,u5⟩=st at *;go_enter func227,ntmps227;go_upto_region 1 with fail;have eH:=Blk.new w 136 #[.int .u64 0,.int .u64 0,.int .i64 0,.int .i64 0];have ji:=Q.alloc w (.cells #[.int .u64 0,.int .u64 0,.int .i64 0,.int .i64 0] 136);generalize w.alloc (.cells #[.int .u64 0,.int .u64 0,.int .i64 0,.int .i64 0] 136)=w1 at *;have wG:=Hd eH;have mF:=Hd ji;clear eH ji;go_wp2_with fail;refine(C1.out _).mono ?_;rintro e w2 ⟨rfl,q2⟩;go_wp2_with fail;refine(C2.out _).mono ?_;rintro e w3 ⟨rfl,q3⟩;have gI:=wG.out.stays (q2.trans q3);have YT:Q w1 w3:=q2.trans q3;have qI:=Hd gI;have fu:=Hd (mF.out.trans (q2.trans q3));clear gI q2 q3;go_wp2_with fail;have am4:=Hd (show Q w1 w3 from YT)
 have oV:w1.heap.size≤w3.heap.size:=Below.size YT;clear YT;have KQ:=Hd (Q.refl w3);go_region_law
  (first
   | (go_simp;go_at_call 281;with_reducible refine(C3.out _).mono ?_;rintro e w4 ⟨rfl,q4⟩;(first|(have zb:=Blk.stays (Blk.new w3 136 #[.int .u64 0,.int .u64 0,.int .i64 0,.int .i64 0]) (Q.trans (Q.drew _) q4);have ZB:=Hd zb;clear zb)|skip);have s':Q w3 w4:=Q.trans ε q4;have kZ:=Qs.le s';clear KQ;have KQ:=Hd s';clear s' q4)
   | (go_simp;go_at_call 281;with_reducible refine(C4.out _).mono ?_;rintro e w5 ⟨rfl,q5⟩;(first|(have zb:=Blk.stays (Blk.new w4 136 #[.int .u64 0,.int .u64 0,.int .i64 0,.int .i64 0]) q5;obtain⟨z0,z1,z2,z3,y0,y1,y2,y3⟩:=zb.c4;have ZC5:=Hd zb;clear zb)|(have zb:=Blk.stays ZB.out q5;obtain⟨z0,z1,z2,z3,y0,y1,y2,y3⟩:=zb.c4;have ZB5:=Hd zb;clear zb)|skip);have s':Q w3 w5:=Q.trans ε q5;have zZ:=Qs.le s';clear KQ;have KQ:=Hd s';clear s' q5))
 all_goals
  have D9:IntKind.i64.wrap ((u4:Nat):Int)=(u4:Nat):=IntWalk.i64_in _ U;have L9:IntKind.i64.wrap ((u5:Nat):Int)=(u5:Nat):=IntWalk.i64_in _ U;simp only[D9,L9];clear D9 L9;first
   | (have rE:=yE ZC5.out (.int .u64 (ee:Nat)) (.int .u64 (ss:Nat)) (.int .i64 (u4:Nat)) (.int .i64 (u5:Nat))
      have Ih:Q w3 ((((w5.setCell ⟨w4.heap.size,0,none⟩ (.int .u64 (ee:Nat))).setCell ⟨w4.heap.size,1,none⟩ (.int .u64 (ss:Nat))).setCell ⟨w4.heap.size,2,none⟩ (.int .i64 (u4:Nat))).setCell ⟨w4.heap.size,3,none⟩ (.int .i64 (u5:Nat))):=Qs.st (Qs.st (Qs.st (Qs.st KQ.out _ _ kZ) _ _ kZ) _ _ kZ) _ _ kZ;generalize hWz:(((w5.setCell ⟨w4.heap.size,0,none⟩ (.int .u64 (ee:Nat))).setCell ⟨w4.heap.size,1,none⟩ (.int .u64 (ss:Nat))).setCell ⟨w4.heap.size,2,none⟩ (.int .i64 (u4:Nat))).setCell ⟨w4.heap.size,3,none⟩ (.int .i64 (u5:Nat))=wz at rE Ih ⊢;clear hWz;have HBZ:=Hd rE;have HQZ:=Hd Ih;clear rE Ih)
   | (have rE:=yE ZB5.out (.int .u64 (ee:Nat)) (.int .u64 (ss:Nat)) (.int .i64 (u4:Nat)) (.int .i64 (u5:Nat))
      have Ih:Q w3 ((((w5.setCell ⟨w3.heap.size,0,none⟩ (.int .u64 (ee:Nat))).setCell ⟨w3.heap.size,1,none⟩ (.int .u64 (ss:Nat))).setCell ⟨w3.heap.size,2,none⟩ (.int .i64 (u4:Nat))).setCell ⟨w3.heap.size,3,none⟩ (.int .i64 (u5:Nat))):=Qs.st (Qs.st (Qs.st (Qs.st KQ.out _ _ (Ω _)) _ _ (Ω _)) _ _ (Ω _)) _ _ (Ω _);generalize hWz:(((w5.setCell ⟨w3.heap.size,0,none⟩ (.int .u64 (ee:Nat))).setCell ⟨w3.heap.size,1,none⟩ (.int .u64 (ss:Nat))).setCell ⟨w3.heap.size,2,none⟩ (.int .i64 (u4:Nat))).setCell ⟨w3.heap.size,3,none⟩ (.int .i64 (u5:Nat))=wz at rE Ih ⊢;clear hWz;have HBZ:=Hd rE;have HQZ:=Hd Ih;clear rE Ih)
   | (have rE:=Blk.new w5 136 #[.int .u64 (ee:Nat),.int .u64 (ss:Nat),.int .i64 (u4:Nat),.int .i64 (u5:Nat)]
      have Ih:Q w3 (w5.alloc (.cells #[.int .u64 (ee:Nat),.int .u64 (ss:Nat),.int .i64 (u4:Nat),.int .i64 (u5:Nat)] 136)):=KQ.out.trans (Q.alloc _ _);generalize hWz:w5.alloc (.cells #[.int .u64 (ee:Nat),.int .u64 (ss:Nat),.int .i64 (u4:Nat),.int .i64 (u5:Nat)] 136)=wz at rE Ih ⊢;clear hWz;have HBZ:=Hd rE;have HQZ:=Hd Ih;clear rE Ih)
  obtain⟨s0,s1,s2,s3,_⟩:=HBZ.out.c4;have bZ:=qI.out.stays HQZ.out;obtain⟨b0,b1,b2,b3,f0,f1,f2,f3⟩:=bZ.c4;have ou:=Hd bZ;clear bZ;go_wp2_with fail;go_region_law
   (first
    | (go_simp;go_at_call 224;with_reducible refine(Sg.out _).mono ?_;rintro e w6 ⟨rfl,q6⟩;have s':Q wz w6:=(by first|exact(Q.drew _).trans q6|exact q6);have g0:=aI s' s0;have g1:=aI s' s1;have g2:=aI s' s2;have g3:=aI s' s3;have tQ:=Blk.stays ou.out s';obtain⟨a0,a1,a2,a3,d0,d1,d2,d3⟩:=tQ.c4;have S':=Hd s';have RY:=Hd tQ;clear s' q6 tQ))
  all_goals
   go_wp2_with fail
   (try simp only[Exit.inBlock,Exit.then])
   first
    | refine bodyPost_ret (kQ rfl _ _ w.heap.size 136 _ (0,0) _ rfl (yE RY.out (.int .u64 (ee:Nat)) (.int .u64 (ss:Nat)) (.int .i64 (u4:Nat)) (.int .i64 (u5:Nat))) underlying136 rfl (by kernel_rfl)) rfl ?_
    | refine bodyPost_ret (kQ rfl _ _ w.heap.size 136 _ (0,0) _ rfl (yE (RY.out.stays (Q.drew _)) (.int .u64 (ee:Nat)) (.int .u64 (ss:Nat)) (.int .i64 (u4:Nat)) (.int .i64 (u5:Nat))) underlying136 rfl (by kernel_rfl)) rfl ?_
   refine⟨⟨⟨ee,ss,u4,u5⟩,?_,fun s hs=>?_⟩,?_⟩
   ·rw[vR.out.1];rfl
   ·exact vR.out.2 s hs
   ·first
     | exact Qs.st (Qs.st (Qs.st (Qs.st (fu.out.trans (HQZ.out.trans S'.out)) _ _ (Ω _)) _ _ (Ω _)) _ _ (Ω _)) _ _ (Ω _)
     | exact Qs.st (Qs.st (Qs.st (Qs.st (fu.out.trans (HQZ.out.trans (S'.out.trans (Q.drew _)))) _ _ (Ω _)) _ _ (Ω _)) _ _ (Ω _)) _ _ (Ω _)
theorem bp.next{A B C:World}{F:Nat→Prop}{p b:Nat}{j:JL}(hl:∀k,F k→k<A.heap.size)(t1:ae F A B)(h:bp C (grow (grow F A B) B C) p b j)(t2:ae (grow F A B) B C):bp C (grow F A C) p b j∧ae F A C:=by
 have t:=t1.step t2;exact⟨h.mono (fun k hk=>lZ t1.size t2.size hk) (fun k hk=>hk.elim (fun hk=>Ψ (hl k hk) t.size) (fun hk=>hk.2)),t⟩
theorem Ro(d:af)(x:WrL):d.lays [x]=if (d.write (x.1:Nat) x.2).2=0 then(d.write (x.1:Nat) x.2).1.bu else d.write (x.1:Nat) x.2:=by
 unfold af.lays;rw[af.writes];by_cases h:(d.write (x.1:Nat) x.2).2=0
 ·rw[Φ h,Φ h]
  rfl
 ·rw[η h,η h]
theorem X7(j:JL):
  j.cC=if (j.d.write (j.place 0:Nat) ag).2≠0 then({ j with d:=(j.d.write (j.place 0:Nat) ag).1 },(j.d.write (j.place 0:Nat) ag).2) else
   if ((j.d.write (j.place 0:Nat) ag).1.bu).2≠0 then({ j with d:=(j.d.write (j.place 0:Nat) ag).1.bu.1 },(j.d.write (j.place 0:Nat) ag).1.bu.2) else
   if (((j.d.write (j.place 0:Nat) ag).1.bu).1.write ((1-j.k:Nat):Nat) (aQ j.aE)).2≠0 then({ j with d:=(((j.d.write (j.place 0:Nat) ag).1.bu).1.write ((1-j.k:Nat):Nat) (aQ j.aE)).1 },(((j.d.write (j.place 0:Nat) ag).1.bu).1.write ((1-j.k:Nat):Nat) (aQ j.aE)).2) else
   if ((((j.d.write (j.place 0:Nat) ag).1.bu).1.write ((1-j.k:Nat):Nat) (aQ j.aE)).1.bu).2≠0 then({ j with d:=(((j.d.write (j.place 0:Nat) ag).1.bu).1.write ((1-j.k:Nat):Nat) (aQ j.aE)).1.bu.1 },(((j.d.write (j.place 0:Nat) ag).1.bu).1.write ((1-j.k:Nat):Nat) (aQ j.aE)).1.bu.2) else
   (⟨(((j.d.write (j.place 0:Nat) ag).1.bu).1.write ((1-j.k:Nat):Nat) (aQ j.aE)).1.bu.1,j.aE,1-j.k,j.next,0⟩,0):=by
 unfold JL.cC JL.cT JL.cM;simp only[Ro];generalize j.d.write (j.place 0:Nat) ag=dA;by_cases h1:dA.2=0
 ·simp only[h1,QQ,ne_eq,not_true,PR]
  generalize dA.1.bu=dB;by_cases h2:dB.2=0
  ·simp only[h2,QQ,ne_eq,not_true,PR]
   generalize dB.1.write ((1-j.k:Nat):Nat) (aQ j.aE)=dC;by_cases h3:dC.2=0
   ·simp only[h3,QQ,ne_eq,not_true,PR]
   ·simp only[h3,ne_eq,adg,QQ,PR]
  ·simp only[h2,ne_eq,adg,QQ]
 ·simp only[h1,ne_eq,adg,QQ,PR]
theorem Om(w:World)(F:Nat→Prop)(p b:Nat)(j:JL)(h:bp w F p b j)(hn:fR j):
  Calls prog 229 #[au p] w fun e w'=>e=.returned (.int .i64 j.cC.2)∧bp w' (grow F w w') p b j.cC.1∧ae F w w':=by
 have bW:=fun (W:World) (q:Q w W)=>Ay W p b j j.used (h.box.stays q) hn.log hn.log2 hn.place (by have:=hn.used;omega)
 have Fz:cS j.s j.used=j.place 0:=by unfold JL.place;rfl
 have ade:j.place 0≤2000000:=by have:=(gG j.s (j.used+0) hn.log).2;have:=hn.log2;unfold JL.place;omega
 rw[Fz] at bW;have hwA:=h.write hn.ok (fun hx=>by have:=hn.eK hx;omega) (j.place 0:Nat) ag (by rw[jk];omega)
 have gL:=X7 j;have ae2:=af.eJ hn.ok (j.place 0:Nat) ag;have hpA:(j.d.write (j.place 0:Nat) ag).1.dead=false→(j.d.write (j.place 0:Nat) ag).1.p.length≤900001:=fun hx=>by
  have h1:=hn.eK (af.eh _ _ _ hx);have h2:=af.fi j.d (j.place 0:Nat) ag;omega
 have bI:=fun (W:World)=>xB W
 have ay:=h.lt;obtain⟨c0,c1,c2,c3,c4,c5,c6,c7⟩:=h.box.c8;generalize j.d.write (j.place 0:Nat) ag=dA at *;have zJ:=Hd bW;have HWA:=Hd hwA;have Ea:=Hd gL;have ae3:=Hd ae2;have wP:=Hd hpA;have HN:=Hd hn;have dY:=Hd bI;have iI:=Hd ay;have KK:=Hd (Q.refl w);clear bW hwA gL ae2 hpA hn bI ay h Fz;go_enter func229,ntmps229;go_wp2_with fail;go_region_held3 (fun w'=>w'.cell? ⟨p,0,none⟩=some (au b)∧w'.cell? ⟨p,7,none⟩=some (.int .i64 (j.used:Nat)))
  (first|exact g0|exact⟨c0,c7⟩|exact two δ c0 c7)
  (first
   | (go_at_call 282;with_reducible refine(zJ.out _ ω).mono ?_;rintro e w1 ⟨rfl,q1⟩;have s':Q w w1:=Q.trans ω q1;clear KK;have KK:=Hd s';clear s' q1)
   | (go_at_call 80;with_reducible refine(dY.out _).mono ?_;rintro e w2 ⟨rfl,q2⟩;have s':Q w w2:=Q.trans ω q2;clear KK;have KK:=Hd s';clear s' q2)
   | (go_at_call 223;with_reducible refine(HWA.out _ ω).mono ?_;rintro e w3 ⟨rfl,h3,t3⟩;have g:=bp.box h3;have g:=Blk.c8 g;have g0:=And.intro g.1 g.2.2.2.2.2.2.2;clear g;have H3:=Hd h3;have T3:=Hd t3;clear h3 t3))
 all_goals
  clear c0 c1 c2 c3 c4 c5 c6 c7;try clear g0
  by_cases uj:dA.2=0;case neg =>
   have e1:(dA.2==0)=false:=Γ.2 uj;have gL:=Ea.out;rw[Φ uj] at gL;have TW:=Hd gL;clear gL uj;go_wp2_with fail;go_ret;rw[TW.out];exact⟨rfl,H3.out,T3.out⟩
  have e1:(dA.2==0)=true:=NX.2 uj;have gL:=Ea.out;rw[η (by rw[uj];simp)] at gL
  have T9:=H3.out.bu ae3.out (fun hx=>by have h1:=wP.out hx;show dA.1.p.length≤_;omega) w3 (Q.refl _)
  have KD:=af.lm ae3.out;have Ua:dA.1.bu.1.dead=false→dA.1.bu.1.p.length≤900001:=fun hx=>by
   have:=wP.out (af.ki _ hx);have:=af.mz dA.1;omega
  simp only at T9 KD Ua;generalize dA.1.bu=dB at *;obtain⟨k0,_⟩:=H3.out.box.c8;have TW:=Hd gL;have HFB:=Hd T9;have Ub:=Hd KD;have HPB:=Hd Ua;clear gL uj T9 KD Ua Ea;go_wp2_with fail;refine HFB.out.mono ?_;rintro e w4 ⟨rfl,h4,t4⟩;have kZ:=bp.next iI.out T3.out h4 t4;have H4:=Hd kZ.1;have T4:=Hd kZ.2;clear kZ h4 t4 k0;by_cases Ei:dB.2=0;case neg =>
   have e2:(dB.2==0)=false:=Γ.2 Ei;have gL:=TW.out;rw[Φ Ei] at gL;have YU:=Hd gL;clear gL Ei;go_wp2_with fail;go_ret;rw[YU.out];exact⟨rfl,H4.out,T4.out⟩
  have e2:(dB.2==0)=true:=NX.2 Ei;have gL:=TW.out;rw[η (by rw[Ei];simp)] at gL
  have YU:=Hd gL;clear gL Ei TW;obtain⟨c0,c1,c2,c3,c4,c5,c6,c7⟩:=H4.out.box.c8;simp only at c0 c1 c2 c3 c4 c5 c6 c7;have uX:¬((j.s.log:Nat):Int)=0:=by have:=HN.out.log;omega
  have aii:¬j.s.log=0:=by have:=HN.out.log;omega
  have hwe:IntKind.u64.wrap ((j.s.e:Int)+1)=(((j.s.e+1)%18446744073709551616:Nat):Int):=by simp[IntKind.wrap,IntKind.bits,IntKind.signed]
  have L9:IntKind.i64.wrap ((j.s.place:Int)+(j.used:Int))=((j.s.place+j.used:Nat):Int):=by have:=HN.out.place;have:=HN.out.used;rw[IntWalk.i64_in _ U];omega
  have VF:(((j.s.place+j.used:Nat):Int)).tmod ((j.s.log:Nat):Int)=(((j.s.place+j.used)%j.s.log:Nat):Int):=ρ;have aas:IntKind.i64.wrap (((j.s.place+j.used)%j.s.log:Nat):Int)=(((j.s.place+j.used)%j.s.log:Nat):Int):=by have:=Tr (j.s.place+j.used) HN.out.log;have:=HN.out.log2;rw[IntWalk.i64_in _ U]
  go_wp2_with fail;go_region_held3 (fun w'=>w'.cell? ⟨p,1,none⟩=some (.int .u64 (j.s.e:Nat))∧w'.cell? ⟨p,3,none⟩=some (.int .i64 (j.s.log:Nat))∧w'.cell? ⟨p,4,none⟩=some (.int .i64 (j.s.place:Nat))∧w'.cell? ⟨p,6,none⟩=some (.int .u64 (j.next:Nat))∧w'.cell? ⟨p,7,none⟩=some (.int .i64 (j.used:Nat)))
   (first|exact⟨c1,c3,c4,c6,c7⟩|exact five (by repeat (first|with_reducible exact Q.refl _|with_reducible apply Qs.dr|with_reducible apply Qs.al|with_reducible refine Qs.st ?_ _ _ (Ω _))) c1 c3 c4 c6 c7)
   (fail)
  all_goals
   have he:(((j.s.e:Int)+1)%18446744073709551616)=((j.aE.e:Nat):Int):=by
    show(((j.s.e:Int)+1)%18446744073709551616)=(((j.s.e+1)%18446744073709551616:Nat):Int);omega
   have qH:(((j.s.place:Int)+(j.used:Int)).tmod (j.s.log:Int))=((j.aE.place:Nat):Int):=rfl;rw[he,qH];have cst:=fun (W:World)=>EM j.aE HN.out.py W
   have sI:j.aE.s=j.next:=rfl;have wI:j.aE.log=j.s.log:=rfl;rw[sI,wI] at cst;have Sg:=Hd cst;have kJ:Q w4 ((w4.alloc (.cells #[.int .u64 (j.aE.e:Nat),.int .u64 (j.next:Nat),.int .i64 (j.s.log:Nat),.int .i64 (j.aE.place:Nat)] 136)).drew):=Qs.dr (Qs.al (Q.refl _) _);have gY:Blk ((w4.alloc (.cells #[.int .u64 (j.aE.e:Nat),.int .u64 (j.next:Nat),.int .i64 (j.s.log:Nat),.int .i64 (j.aE.place:Nat)] 136)).drew) w4.heap.size 136 #[.int .u64 (j.aE.e:Nat),.int .u64 (j.next:Nat),.int .i64 (j.s.log:Nat),.int .i64 (j.aE.place:Nat)]:=Blk.new w4 _ _;generalize hV:(w4.alloc (.cells #[.int .u64 (j.aE.e:Nat),.int .u64 (j.next:Nat),.int .i64 (j.s.log:Nat),.int .i64 (j.aE.place:Nat)] 136)).drew=w5 at *;clear hV cst sI wI he qH hwe L9 VF aas;have h5:=H4.out.keep kJ;have ajc:∀k,grow F w w4 k→k<w5.heap.size:=h5.lt;obtain⟨d0,d1,d2,d3,d4,d5,d6,d7⟩:=h5.box.c8;simp only at d0 d5;obtain⟨s0,s1,s2,s3,_⟩:=gY.c4;have Cz:IntKind.i64.wrap (1-(j.k:Int))=((1-j.k:Nat):Int):=by have:=HN.out.k;rw[IntWalk.i64_in _ U];omega
   have hwC:=h5.write Ub.out (fun hx=>by have h1:=HPB.out hx;show dB.1.p.length≤_;omega) ((1-j.k:Nat):Nat) (aQ j.aE) (by rw[gB];omega)
   simp only at hwC;have ae5:=af.eJ Ub.out ((1-j.k:Nat):Nat) (aQ j.aE);have hpC:(dB.1.write ((1-j.k:Nat):Nat) (aQ j.aE)).1.dead=false→(dB.1.write ((1-j.k:Nat):Nat) (aQ j.aE)).1.p.length≤900002:=fun hx=>by
    have h1:=HPB.out (af.eh _ _ _ hx);have h2:=af.fi dB.1 ((1-j.k:Nat):Nat) (aQ j.aE);omega
   have gL:=YU.out;generalize dB.1.write ((1-j.k:Nat):Nat) (aQ j.aE)=dC at *;have pX:w4.heap.size<w5.heap.size:=gY.lt;have HWC:=Hd hwC;have aa0:=Hd ae5;have RL:=Hd hpC;have aa1:=Hd gL;have wM:=Hd gY;have H5:=Hd h5;have jK:=Hd kJ;have FN:¬grow F w w4 w4.heap.size:=fun hc=>by have:=H4.out.lt _ hc;omega
   have rW:=Hd FN;clear hwC ae5 hpC gL gY h5 kJ c0 c1 c2 c3 c4 c5 c6 c7 d1 d2 d3 d4 d6 d7 ajc YU FN KK;generalize aQ j.aE=st at *;have KK:=Hd (Q.refl w5);go_wp2_with fail;go_region_held3 (fun w'=>w'.cell? ⟨p,5,none⟩=some (.int .i64 (j.k:Nat))∧w'.cell? ⟨p,0,none⟩=some (au b)∧w'.cell? ⟨w4.heap.size,0,none⟩=some (.int .u64 (j.aE.e:Nat))∧w'.cell? ⟨w4.heap.size,1,none⟩=some (.int .u64 (j.next:Nat))∧w'.cell? ⟨w4.heap.size,2,none⟩=some (.int .i64 (j.s.log:Nat))∧w'.cell? ⟨w4.heap.size,3,none⟩=some (.int .i64 (j.aE.place:Nat)))
    (first|exact g0|exact⟨d5,d0,s0,s1,s2,s3⟩|exact And.intro (aI ω d5) (five ω d0 s0 s1 s2 s3))
    (first
     | (go_at_call 224;with_reducible refine(Sg.out _).mono ?_;rintro e w6 ⟨rfl,q6⟩;have s':Q w5 w6:=Q.trans ω q6;clear KK;have KK:=Hd s';clear s' q6)
     | (go_at_call 223;with_reducible refine(HWC.out _ ω).mono ?_;rintro e w7 ⟨rfl,h7,t7⟩;have g:=Blk.c8 (bp.box h7);have g0:=And.intro g.2.2.2.2.2.1 (And.intro g.1 (And.intro (ae.cell t7 s0 rW.out) (And.intro (ae.cell t7 s1 rW.out) (And.intro (ae.cell t7 s2 rW.out) (ae.cell t7 s3 rW.out)))));clear g;have H7:=Hd h7;have T7:=Hd t7;clear h7 t7))
   all_goals
    clear d0 d5 s0 s1 s2 s3;obtain⟨_,_,z0,z1,z2,z3⟩:=g0;have t47:ae (grow F w w4) w4 w7:=(ae.br jK.out).trans T7.out;have h47:bp w7 (grow (grow F w w4) w4 w7) p b { j with d:=dC.1 }:=H7.out.mono (fun k hk=>hk.elim .inl (fun hk=>.inr ⟨My jK.out.size hk.1,hk.2⟩)) (fun k hk=>hk.elim (fun hk=>Ψ (H4.out.lt k hk) t47.size) (fun hk=>hk.2))
    have Mj:=bp.next iI.out T4.out h47 t47;have Wn:=Hd Mj;have hn7:¬grow (grow F w w4) w5 w7 w4.heap.size:=fun hc=>hc.elim rW.out (fun hc=>U)
    have HN7:=Hd hn7;clear t47 h47 Mj hn7;by_cases Ej:dC.2=0;case neg =>
     have e3:(dC.2==0)=false:=Γ.2 Ej;have gL:=aa1.out;rw[Φ Ej] at gL;have Uc:=Hd gL;clear gL Ej;go_wp2_with fail;go_ret;rw[Uc.out];exact⟨rfl,Wn.out.1,Wn.out.2⟩
    have e3:(dC.2==0)=true:=NX.2 Ej;have gL:=aa1.out;rw[η (by rw[Ej];simp)] at gL
    have Ud:=H7.out.bu aa0.out (fun hx=>by have h1:=RL.out hx;show dC.1.p.length≤_;omega) w7 (Q.refl _)
    simp only at Ud;generalize dC.1.bu=dD at *;obtain⟨k0,_⟩:=Wn.out.1.box.c8;have Uc:=Hd gL;have HFD:=Hd Ud;clear gL Ej Ud aa1;go_wp2_with fail;refine HFD.out.mono ?_;rintro e w8 ⟨rfl,h8,t8⟩;have y0:=t8.cell z0 HN7.out;have y1:=t8.cell z1 HN7.out;have y2:=t8.cell z2 HN7.out;have y3:=t8.cell z3 HN7.out;have t48:ae (grow F w w4) w4 w8:=(ae.br jK.out).trans (T7.out.step t8);have h48:bp w8 (grow (grow F w w4) w4 w8) p b { j with d:=dD.1 }:=h8.mono (fun k hk=>by
     have Me:=jK.out.size;have hz7:=T7.out.size;rcases hk with (hk|hk)|hk
     ·exact .inl hk
     ·exact .inr ⟨U,by have:=t8.size;omega⟩
     ·exact .inr ⟨U,hk.2⟩) (fun k hk=>hk.elim (fun hk=>Ψ (H4.out.lt k hk) t48.size) (fun hk=>hk.2))
    have xH:=bp.next iI.out T4.out h48 t48;have Ue:=Hd xH;clear xH k0 t48 h48 h8 t8 z0 z1 z2 z3;by_cases Wo:dD.2=0;case neg =>
     have e4:(dD.2==0)=false:=Γ.2 Wo;have gL:=Uc.out;rw[Φ Wo] at gL;have aa2:=Hd gL;clear gL Wo;go_wp2_with fail;go_ret;rw[aa2.out];exact⟨rfl,Ue.out.1,Ue.out.2⟩
    have e4:(dD.2==0)=true:=NX.2 Wo;have gL:=Uc.out;rw[η (by rw[Wo];simp)] at gL
    have aa2:=Hd gL;clear gL Wo Uc;have Fa:=Ue.out.1.box;obtain⟨d0,d1,d2,d3,d4,d5,d6,d7⟩:=Fa.c8;have f1:=Fa.frozen 1;have f2:=Fa.frozen 2;have f3:=Fa.frozen 3;have f4:=Fa.frozen 4;have f5:=Fa.frozen 5;have f7:=Fa.frozen 7;have bZ:Blk ((((((w8.setCell ⟨p,1,none⟩ (.int .u64 (j.aE.e:Nat))).setCell ⟨p,2,none⟩ (.int .u64 (j.next:Nat))).setCell ⟨p,3,none⟩ (.int .i64 (j.s.log:Nat))).setCell ⟨p,4,none⟩ (.int .i64 (j.aE.place:Nat))).setCell ⟨p,5,none⟩ (.int .i64 ((1-j.k:Nat):Int))).setCell ⟨p,7,none⟩ (.int .i64 0)) p 138 (jd b ⟨dD.1,j.aE,1-j.k,j.next,0⟩):=((((((Fa.set 1 (.int .u64 (j.aE.e:Nat))).set 2 (.int .u64 (j.next:Nat))).set 3 (.int .i64 (j.s.log:Nat))).set 4 (.int .i64 (j.aE.place:Nat))).set 5 (.int .i64 ((1-j.k:Nat):Int))).set 7 (.int .i64 0));have ht:ae (fun k=>k=p) w8 ((((((w8.setCell ⟨p,1,none⟩ (.int .u64 (j.aE.e:Nat))).setCell ⟨p,2,none⟩ (.int .u64 (j.next:Nat))).setCell ⟨p,3,none⟩ (.int .i64 (j.s.log:Nat))).setCell ⟨p,4,none⟩ (.int .i64 (j.aE.place:Nat))).setCell ⟨p,5,none⟩ (.int .i64 ((1-j.k:Nat):Int))).setCell ⟨p,7,none⟩ (.int .i64 0)):=(ae.setCell (a:=⟨p,7,none⟩) (ae.setCell (a:=⟨p,5,none⟩) (ae.setCell (a:=⟨p,4,none⟩) (ae.setCell (a:=⟨p,3,none⟩) (ae.setCell (a:=⟨p,2,none⟩) (ae.setCell (a:=⟨p,1,none⟩) (ae.refl (fun k=>k=p) w8) (.inl rfl) (.int .u64 (j.aE.e:Nat))) (.inl rfl) (.int .u64 (j.next:Nat))) (.inl rfl) (.int .i64 (j.s.log:Nat))) (.inl rfl) (.int .i64 (j.aE.place:Nat))) (.inl rfl) (.int .i64 ((1-j.k:Nat):Int))) (.inl rfl) (.int .i64 0))
    have bP:((((((w8.setCell ⟨p,1,none⟩ (.int .u64 (j.aE.e:Nat))).setCell ⟨p,2,none⟩ (.int .u64 (j.next:Nat))).setCell ⟨p,3,none⟩ (.int .i64 (j.s.log:Nat))).setCell ⟨p,4,none⟩ (.int .i64 (j.aE.place:Nat))).setCell ⟨p,5,none⟩ (.int .i64 ((1-j.k:Nat):Int))).setCell ⟨p,7,none⟩ (.int .i64 0)).heap.size=w8.heap.size:=by simp only[bO]
    have FP:bp ((((((w8.setCell ⟨p,1,none⟩ (.int .u64 (j.aE.e:Nat))).setCell ⟨p,2,none⟩ (.int .u64 (j.next:Nat))).setCell ⟨p,3,none⟩ (.int .i64 (j.s.log:Nat))).setCell ⟨p,4,none⟩ (.int .i64 (j.aE.place:Nat))).setCell ⟨p,5,none⟩ (.int .i64 ((1-j.k:Nat):Int))).setCell ⟨p,7,none⟩ (.int .i64 0)) (grow F w w8) p b ⟨dD.1,j.aE,1-j.k,j.next,0⟩:=Ue.out.1.turned bZ rfl ht;have Tg:bp ((((((w8.setCell ⟨p,1,none⟩ (.int .u64 (j.aE.e:Nat))).setCell ⟨p,2,none⟩ (.int .u64 (j.next:Nat))).setCell ⟨p,3,none⟩ (.int .i64 (j.s.log:Nat))).setCell ⟨p,4,none⟩ (.int .i64 (j.aE.place:Nat))).setCell ⟨p,5,none⟩ (.int .i64 ((1-j.k:Nat):Int))).setCell ⟨p,7,none⟩ (.int .i64 0)) (grow F w ((((((w8.setCell ⟨p,1,none⟩ (.int .u64 (j.aE.e:Nat))).setCell ⟨p,2,none⟩ (.int .u64 (j.next:Nat))).setCell ⟨p,3,none⟩ (.int .i64 (j.s.log:Nat))).setCell ⟨p,4,none⟩ (.int .i64 (j.aE.place:Nat))).setCell ⟨p,5,none⟩ (.int .i64 ((1-j.k:Nat):Int))).setCell ⟨p,7,none⟩ (.int .i64 0))) p b ⟨dD.1,j.aE,1-j.k,j.next,0⟩:=FP.mono (fun k hk=>hk.elim .inl (fun hk=>.inr ⟨hk.1,by rw[bP];exact hk.2⟩)) (fun k hk=>hk.elim (fun hk=>Ψ (iI.out k hk) (by rw[bP];exact Ue.out.2.size)) (fun hk=>hk.2))
    have htw:ae F w ((((((w8.setCell ⟨p,1,none⟩ (.int .u64 (j.aE.e:Nat))).setCell ⟨p,2,none⟩ (.int .u64 (j.next:Nat))).setCell ⟨p,3,none⟩ (.int .i64 (j.s.log:Nat))).setCell ⟨p,4,none⟩ (.int .i64 (j.aE.place:Nat))).setCell ⟨p,5,none⟩ (.int .i64 ((1-j.k:Nat):Int))).setCell ⟨p,7,none⟩ (.int .i64 0)):=Ue.out.2.step (ht.mono (fun k hk=>by subst hk;exact Ue.out.1.fp))
    have HJW:=Hd Tg;have HTW:=Hd htw;clear bZ ht bP FP Tg htw Fa;go_wp2_with fail;go_ret;rw[aa2.out];exact⟨rfl,HJW.out,HTW.out⟩
theorem Iv(j:JL)(ws:List WrL)(k:Nat)(h:k<ws.length):(j.ed ws)[k]?=some (j.place (k+1),ws[k].2):=by
 unfold JL.ed;rw[UB,ad4,TX (by simpa using h)]
 simp[h]
theorem AD(j:JL)(ws:List WrL):(j.ed ws)[ws.length]?=some (j.place (ws.length+1),ag):=by
 unfold JL.ed;rw[UB,ad4,PH κ];simp
theorem rS(j:JL)(ws:List WrL):(j.ed ws).length=ws.length+1:=by simp[JL.ed]
theorem drop_at{α:Type}{l:List α}{k:Nat}{x:α}(h:l[k]?=some x):l.drop k=x::l.drop (k+1):=by
 obtain⟨hk,rfl⟩:=Pi.1 h;exact Re hk
def JL.eN(j:JL)(ws:List WrL):af×Int:=if (j.co ws).2≠0 then j.co ws else j.cH ws
theorem Rp(w:World)(F:Nat→Prop)(p b:Nat)(j:JL)(lv:Value)(ws:List WrL)(h:bp w F p b j)(hn:fR j)(hw:sS ws)(hl:SlO w F lv (ws.length+1) 1 ((jG j.next ws).map ah)):
  Calls prog 232 #[au p,lv] w fun e w'=>e=.returned (.int .i64 (j.eN ws).2)∧bp w' (grow F w w') p b { j with d:=(j.eN ws).1 }∧ae F w w':=by
 obtain⟨la,lc,rfl,lX⟩:=hl.value;have aP:∀k (hk:k<ws.length),∃lb lo,la=some ⟨lb,lo,none⟩∧lb<w.heap.size∧¬F lb∧w.cell? ⟨lb,lo+(k+1),none⟩=some (ah ws[k].2)∧w.cell? ⟨lb,lo,none⟩=some (ah (bK j.next ws)):=fun k hk=>by
  obtain⟨lb,lo,h1,h2,h3,h4⟩:=lX U;refine⟨lb,lo,h1,h2,h3,h4 (k+1) (ah ws[k].2) ?_,by have:=h4 0 (ah (bK j.next ws)) (by simp[jG]);rwa [V0] at this⟩
  simp[jG,hk]
 have acj:∀k (hk:k<ws.length),ws[k].2.length=256:=fun k hk=>(hw.2.2 _ (MA hk)).2
 have h1:=hw.1;have h2:=hw.2.1;have bI:=fun (W:World)=>xB W
 have bW:=fun (W:World) (G:Nat→Prop) (d2:af) (hW:Blk W p 138 (jd b { j with d:=d2 })) (i:Nat) (hi:i≤100)=>(show Calls prog 282 #[au p,.int .i64 (IntKind.i64.wrap ((j.used:Int)+(i:Int)))] W fun e w'=>e=.returned (.int .i64 (j.place i:Nat))∧Q W w' from by
  rw[IntWalk.i64_in _ (by have:=hn.used;omega),show(j.used:Int)+(i:Int)=((j.used+i:Nat):Int) by omega]
  exact Ay W p b { j with d:=d2 } (j.used+i) hW hn.log hn.log2 hn.place (by have:=hn.used;omega))
 have bQ:=hn.ok;have u7:=hn.eK;have ay:=h.lt;have HC:=Hd aP;have HL:=Hd acj;have dY:=Hd bI;have zJ:=Hd bW;have HN:=Hd hn;have iI:=Hd ay;have HJ:=Hd h;clear aP acj bI bW hn ay h lX hl hw bQ u7;go_enter func232,ntmps232;go_wp2_with fail;go_loopw [5] (fun v wr=>∃(k:Nat) (d2:af),v=.int .i64 ((k+1:Nat):Int)∧k≤ws.length∧Hid (j.d.writes (j.ed ws)=d2.writes ((j.ed ws).drop k))∧Hid (bp wr (grow F w wr) p b { j with d:=d2 })∧Hid (ae F w wr)∧Hid d2.Ok∧Hid (d2.dead=false→d2.p.length≤900000+k)) (fun v _=>ws.length+1-(intOf v).toNat)
 case atStart=>exact⟨0,j.d,rfl,MD _,by rw[SU];exact Hd rfl,HJ.out.mono (fun _ h=>oJ h) (fun k hk=>hk.elim (fun hk=>iI.out k hk) (fun hk=>hk.2)),ae.refl _ _,HN.out.ok,HN.out.eK⟩
 case round =>
  obtain⟨k,d2,rfl,hk,HE,jU,fG,tY,kX⟩:=hrel;by_cases ay:k<ws.length
  ·have bq:((k+1:Nat):Int)<(ws.length:Int)+1:=U
   have EP:(0:Int)≤((k+1:Nat):Int):=U;obtain⟨lb,lo,rfl,OJ,qK,x1,x2⟩:=HC.out k ay;have y1:=fG.out.cell (F:=F) x1 qK;have he:=HE.out;rw[drop_at (Iv j ws k ay),af.writes] at he;simp only at he;have gV:=HL.out k ay;have eO:=jU.out.write tY.out (fun hx=>by have h1:=kX.out hx;show d2.p.length≤_;omega) (j.place (k+1):Nat) ws[k].2 (by rw[gV];omega)
   simp only at eO;have bQ:=af.eJ tY.out (j.place (k+1):Nat) ws[k].2;have gK:(d2.write (j.place (k+1):Nat) ws[k].2).1.dead=false→(d2.write (j.place (k+1):Nat) ws[k].2).1.p.length≤900000+(k+1):=fun hx=>by
    have h1:=kX.out (af.eh _ _ _ hx);have h2:=af.fi d2 (j.place (k+1):Nat) ws[k].2;omega
   have Ii:((k+1:Nat):Int)=(k:Int)+1:=U;have bW:∀(W:World),Q wr W→Calls prog 282 #[au p,.int .i64 (IntKind.i64.wrap ((j.used:Int)+((k:Int)+1)))] W fun e w'=>e=.returned (.int .i64 (j.place (k+1):Nat))∧Q W w':=fun W q=>by have:=zJ.out W F d2 (jU.out.box.stays q) (k+1) U;rwa [Ii] at this
   obtain⟨c0,c1,c2,c3,c4,c5,c6,c7⟩:=jU.out.box.c8;simp only at c0 c7;have C9:¬grow F w wr lb:=fun hc=>hc.elim qK (fun hc=>U)
   generalize Hl:d2.write (j.place (k+1):Nat) ws[k].2=dw at *;generalize zC:ws[k].2=dk at *;generalize j.place (k+1)=pk at *;have kY:=Hd bW;have BD:=Hd eO;have kI:=Hd he;have pq:=Hd bQ;have sO:=Hd gK;have rW:=Hd C9;have KK:=Hd (Q.refl wr);clear bW eO he bQ gK Hl zC x1 x2 c1 c2 c3 c4 c5 c6 gV C9;have Dw:(k:Int)+1<(ws.length:Int)+1:=U;have aeY:(0:Int)≤(k:Int)+1:=U;have tX:((k:Int)+1).toNat=k+1:=U;clear bq EP Ii;go_wp2_with fail;go_region_held3 (fun w'=>w'.cell? ⟨p,0,none⟩=some (au b)∧w'.cell? ⟨p,7,none⟩=some (.int .i64 (j.used:Nat))∧w'.cell? ⟨lb,lo+(k+1),none⟩=some (ah dk))
    (first|exact g0|exact⟨c0,c7,y1⟩|exact three δ c0 c7 y1)
    (first
     | (go_at_call 282;with_reducible refine(kY.out _ ω).mono ?_;rintro e w1 ⟨rfl,q1⟩;have s':Q wr w1:=Q.trans ω q1;clear KK;have KK:=Hd s';clear s' q1)
     | (go_at_call 223;with_reducible refine(BD.out _ ω).mono ?_;rintro e w3 ⟨rfl,h3,t3⟩;have g:=Blk.c8 (bp.box h3);have g0:=And.intro g.1 (And.intro g.2.2.2.2.2.2.2 (ae.cell t3 y1 rW.out));clear g;have H3:=Hd h3;have T3:=Hd t3;clear h3 t3))
   all_goals
    have mV:=bp.next iI.out fG.out H3.out T3.out;have gF:=Hd mV.1;have rP:=Hd mV.2;clear mV c0 c7 y1;try clear g0
    by_cases hz:dw.2=0
    ·have hb:(dw.2==0)=true:=NX.2 hz
     have eX:=kI.out;rw[Φ hz] at eX;have tV:=Hd eX;clear eX kI hz;go_wp2_with fail;go_roundw;case rel=>exact⟨k+1,dw.1,by go_num,U,tV,gF,rP,pq,sO⟩
     case measure=>simp[intOf];omega
    ·have hb:(dw.2==0)=false:=Γ.2 hz
     have eX:=kI.out;rw[η hz] at eX;have mU:j.eN ws=dw:=by
      unfold JL.eN JL.co af.lays;rw[eX,η hz,Φ hz]
     have BI:=Hd mU;clear eX kI hz mU;go_wp2_with fail;go_ret;rw[BI.out];exact⟨rfl,gF.out,rP.out⟩
  ·obtain rfl:k=ws.length:=U
   have bq:¬((ws.length+1:Nat):Int)<(ws.length:Int)+1:=U;obtain⟨lb,lo,rfl,OJ,qK,x1,x2⟩:=HC.out 0 U;have y2:=fG.out.cell (F:=F) x2 qK;have he:=HE.out;rw[drop_at (AD j ws),af.writes,XN (by rw[rS];exact Ω _)] at he
   simp only[af.writes] at he;have hhl:(bK j.next ws).length=256:=nD _ _ h2;have eO:=jU.out.write tY.out (fun hx=>by have h1:=kX.out hx;show d2.p.length≤_;omega) (j.place (ws.length+1):Nat) ag (by rw[jk];omega)
   simp only at eO;have bQ:=af.eJ tY.out (j.place (ws.length+1):Nat) ag;have gK:(d2.write (j.place (ws.length+1):Nat) ag).1.dead=false→(d2.write (j.place (ws.length+1):Nat) ag).1.p.length≤900100:=fun hx=>by
    have h1:=kX.out (af.eh _ _ _ hx);have h2:=af.fi d2 (j.place (ws.length+1):Nat) ag;omega
   have Ii:((ws.length+1:Nat):Int)=(ws.length:Int)+1:=U;have bW:∀(W:World),Q wr W→Calls prog 282 #[au p,.int .i64 (IntKind.i64.wrap ((j.used:Int)+((ws.length:Int)+1)))] W fun e w'=>e=.returned (.int .i64 (j.place (ws.length+1):Nat))∧Q W w':=fun W q=>by have:=zJ.out W F d2 (jU.out.box.stays q) (ws.length+1) U;rwa [Ii] at this
   obtain⟨c0,c1,c2,c3,c4,c5,c6,c7⟩:=jU.out.box.c8;simp only at c0 c7;have C9:¬grow F w wr lb:=fun hc=>hc.elim qK (fun hc=>U)
   generalize hdA:d2.write (j.place (ws.length+1):Nat) ag=dA at *;generalize j.place (ws.length+1)=pk at *;have kY:=Hd bW;have BD:=Hd eO;have kI:=Hd he;have pq:=Hd bQ;have sO:=Hd gK;have rW:=Hd C9;have KK:=Hd (Q.refl wr);have HHL:=Hd hhl;clear bW eO he bQ gK hdA x1 x2 c1 c2 c3 c4 c5 c6 C9 Ii hhl HE;go_wp2_with fail;go_region_held3 (fun w'=>w'.cell? ⟨p,0,none⟩=some (au b)∧w'.cell? ⟨p,7,none⟩=some (.int .i64 (j.used:Nat)))
    (first|exact g0|exact⟨c0,c7⟩|exact two δ c0 c7)
    (first
     | (go_at_call 282;with_reducible refine(kY.out _ ω).mono ?_;rintro e w1 ⟨rfl,q1⟩;have s':Q wr w1:=Q.trans ω q1;clear KK;have KK:=Hd s';clear s' q1)
     | (go_at_call 80;with_reducible refine(dY.out _).mono ?_;rintro e w2 ⟨rfl,q2⟩;have s':Q wr w2:=Q.trans ω q2;clear KK;have KK:=Hd s';clear s' q2)
     | (go_at_call 223;with_reducible refine(BD.out _ ω).mono ?_;rintro e w3 ⟨rfl,h3,t3⟩;have g:=Blk.c8 (bp.box h3);have g0:=And.intro g.1 g.2.2.2.2.2.2.2;clear g;have H3:=Hd h3;have T3:=Hd t3;clear h3 t3))
   all_goals
    have y3:=T3.out.cell y2 rW.out;have mV:=bp.next iI.out fG.out H3.out T3.out;have gF:=Hd mV.1;have rP:=Hd mV.2;clear mV c0 c7 y2;try clear g0
    by_cases uj:dA.2=0;case neg =>
     have e1:(dA.2==0)=false:=Γ.2 uj;have eX:=kI.out;rw[η uj] at eX;have mU:j.eN ws=dA:=by
      unfold JL.eN JL.co af.lays;rw[eX,η uj,Φ uj]
     have BI:=Hd mU;clear eX uj mU;go_wp2_with fail;go_ret;rw[BI.out];exact⟨rfl,gF.out,rP.out⟩
    have e1:(dA.2==0)=true:=NX.2 uj;have eX:=kI.out;rw[Φ uj] at eX;have SN:j.co ws=dA.1.bu:=by
     unfold JL.co af.lays;rw[eX,Φ rfl]
    have T9:=gF.out.bu pq.out (fun hx=>by have h1:=sO.out hx;show dA.1.p.length≤_;omega) w3 (Q.refl _)
    have KD:=af.lm pq.out;have Ua:dA.1.bu.1.dead=false→dA.1.bu.1.p.length≤900100:=fun hx=>by
     have:=sO.out (af.ki _ hx);have:=af.mz dA.1;omega
    simp only at T9 KD Ua;generalize dA.1.bu=dB at *;obtain⟨k0,_⟩:=gF.out.box.c8;have pJ:=Hd SN;have HFB:=Hd T9;have Ub:=Hd KD;have HPB:=Hd Ua;have ae6:¬grow F w w3 lb:=fun hc=>hc.elim qK (fun hc=>U)
    have ajd:=Hd ae6;clear eX uj T9 KD Ua kI SN ae6;go_wp2_with fail;refine HFB.out.mono ?_;rintro e w4 ⟨rfl,h4,t4⟩;have y4:=t4.cell y3 ajd.out;have kZ:=bp.next iI.out rP.out h4 t4;have H4:=Hd kZ.1;have T4:=Hd kZ.2;clear kZ h4 t4 k0 y3;by_cases Ei:dB.2=0;case neg =>
     have e2:(dB.2==0)=false:=Γ.2 Ei;have mU:j.eN ws=dB:=by
      unfold JL.eN;rw[pJ.out,Φ Ei]
     have BI:=Hd mU;clear Ei mU;go_wp2_with fail;go_ret;rw[BI.out];exact⟨rfl,H4.out,T4.out⟩
    have e2:(dB.2==0)=true:=NX.2 Ei;have YV:j.eN ws=dB.1.lays [(j.place 0,bK j.next ws)]:=by
     unfold JL.eN JL.cH;rw[pJ.out,η (by rw[Ei];simp)]
    rw[Ro] at YV;simp only at YV;have gD:=H4.out.write Ub.out (fun hx=>by have h1:=HPB.out hx;show dB.1.p.length≤_;omega) (j.place 0:Nat) (bK j.next ws) (by rw[HHL.out];omega)
    simp only at gD;have Bg:=af.eJ Ub.out (j.place 0:Nat) (bK j.next ws);have Ko:(dB.1.write (j.place 0:Nat) (bK j.next ws)).1.dead=false→(dB.1.write (j.place 0:Nat) (bK j.next ws)).1.p.length≤900200:=fun hx=>by
     have h1:=HPB.out (af.eh _ _ _ hx);have h2:=af.fi dB.1 (j.place 0:Nat) (bK j.next ws);omega
    have ae7:∀(W:World),Q w4 W→Calls prog 282 #[au p,.int .i64 (j.used:Nat)] W fun e w'=>e=.returned (.int .i64 (j.place 0:Nat))∧Q W w':=fun W q=>by
     have:=Ay W p b { j with d:=dB.1 } j.used (H4.out.box.stays q) HN.out.log HN.out.log2 HN.out.place (by have:=HN.out.used;omega)
     exact this
    obtain⟨c0,c1,c2,c3,c4,c5,c6,c7⟩:=H4.out.box.c8;simp only at c0 c7;generalize dB.1.write (j.place 0:Nat) (bK j.next ws)=dC at *;generalize bK j.next ws=hd at *;generalize j.place 0=p0 at *;have aje:=Hd ae7;have Ms:=Hd gD;have ae8:=Hd YV;have aa0:=Hd Bg;have RL:=Hd Ko;clear ae7 gD YV Bg Ko c1 c2 c3 c4 c5 c6 Ei KK pJ;have KK:=Hd (Q.refl w4);have ae9:¬grow F w w4 lb:=fun hc=>hc.elim qK (fun hc=>U)
    have ajf:=Hd ae9;have qL:(0:Int)<(ws.length:Int)+1:=U;clear ae9;go_wp2_with fail;go_region_held3 (fun w'=>w'.cell? ⟨p,0,none⟩=some (au b)∧w'.cell? ⟨p,7,none⟩=some (.int .i64 (j.used:Nat))∧w'.cell? ⟨lb,lo,none⟩=some (ah hd))
     (first|exact g0|exact⟨c0,c7,y4⟩|exact three δ c0 c7 y4)
     (first
      | (go_at_call 282;with_reducible refine(aje.out _ ω).mono ?_;rintro e w5 ⟨rfl,q5⟩;have s':Q w4 w5:=Q.trans ω q5;clear KK;have KK:=Hd s';clear s' q5)
      | (go_at_call 223;with_reducible refine(Ms.out _ ω).mono ?_;rintro e w6 ⟨rfl,h6,t6⟩;have g:=Blk.c8 (bp.box h6);have g0:=And.intro g.1 (And.intro g.2.2.2.2.2.2.2 (ae.cell t6 y4 ajf.out));clear g;have H6:=Hd h6;have T6:=Hd t6;clear h6 t6))
    all_goals
     have JK:=bp.next iI.out T4.out H6.out T6.out;have V8:=Hd JK.1;have VE:=Hd JK.2;clear JK c0 c7 y4;try clear g0
     by_cases Ej:dC.2=0;case neg =>
      have e3:(dC.2==0)=false:=Γ.2 Ej;have mU:=ae8.out;rw[η Ej] at mU;have BI:=Hd mU;clear Ej mU;go_wp2_with fail;go_ret;rw[BI.out];exact⟨rfl,V8.out,VE.out⟩
     have e3:(dC.2==0)=true:=NX.2 Ej;have mU:=ae8.out;rw[Φ Ej] at mU;have Ud:=V8.out.bu aa0.out (fun hx=>by have h1:=RL.out hx;show dC.1.p.length≤_;omega) w6 (Q.refl _)
     simp only at Ud;generalize dC.1.bu=dD at *;obtain⟨k0,_⟩:=V8.out.box.c8;have BI:=Hd mU;have HFD:=Hd Ud;clear mU Ud Ej;go_wp2_with fail;refine HFD.out.mono ?_;rintro e w7 ⟨rfl,h7,t7⟩;have Mj:=bp.next iI.out VE.out h7 t7;have Wn:=Hd Mj;clear Mj h7 t7 k0;go_wp2_with fail;go_ret;rw[BI.out];exact⟨rfl,Wn.out.1,Wn.out.2⟩
end
end Go.Proofs.YtonlbpljghohmaaGreatDoor
