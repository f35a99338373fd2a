/- Joined: WJrnI to WRef3b -/
import Derived.Test.YtbkahhebmpehnaaGreatDoorCXWJrnE
import Derived.Test.YtbkahhebmpehnaaGreatDoorCXWJrnF
import Derived.Test.YtbkahhebmpehnaaGreatDoorCXWRDevA
set_option linter.all false
set_option maxRecDepth 100000
set_option maxHeartbeats 8000000
namespace Go.Proofs.YtbkahhebmpehnaaGreatDoor
open Go.Proofs.Tryz
section
open Go.RowKit
def IB(w:World)(F:Nat→Prop)(b:Nat)(d:af)(e:Ending)(w':World):Prop :=
 ae F w w'∧(((aL d).2=0∧∃p,e=.returned (.tuple #[au p,.int .i64 0])∧cG w' (grow F w w') p b (aL d).1) ∨
  ((aL d).2≠0∧e=.returned (.tuple #[.pointer none,.int .i64 (aL d).2])∧cF w' (grow F w w') b (aL d).1.d))
theorem Xi(w:World)(F:Nat→Prop)(b:Nat)(d:af)(h:cF w F b d)(hF:∀k,F k→k<w.heap.size)(hd:d.Ok)(h2:2≤d.l.length)(hp:d.p.length≤800000)(dS:d.dead=false):
  Calls prog 148 #[au b] w fun e w'=>IB w F b d e w':=by
 have hr:=fun (W:World) (hq:Q w W) (k:Nat)=>AQ W F b d (k:Nat) (h.keep hq) hd.max (fun _=>U)
 have hb:=fun (W:World) (hq:Q w W)=>oL W F b d (h.keep hq)
 have he:∀k:Nat,k<2→d.read (k:Nat)=(d.get k,0):=fun k hk=>by unfold af.read;rw[af.gC dS k U,Φ rfl];rfl
 have pV:∀k:Nat,k<2→(d.get k).length=256:=fun k hk=>af.gh hd k U
 have mR:=fun (k:Nat) (hk:k<2) (W:World)=>Xh (d.get k) d.l.length W (pV k hk) hd.max
 have Sn:min (2:Int) (d.l.length:Int)=2:=U;have eF:=d.l.length;have HR:=Hd hr;have HB:=Hd hb;have HM:=Hd Sn;have HE:=Hd he;have wL:=Hd mR;have HD:=Hd (And.intro h (And.intro hF (And.intro hd (And.intro h2 (And.intro hp dS)))));clear hr hb he pV mR h hF hd Sn h2 hp dS;go_enter func148,ntmps148;go_wp2_with fail;refine(HB.out _ (Q.alloc _ _)).mono ?_;rintro e w1 ⟨rfl,rfl⟩;go_wp2_with fail;rw[HM.out];have KA:Blk (w.alloc (.cells (sj b none) 216)) w.heap.size 216 (sj b none):=Blk.new w _ _;have ji:Q w (w.alloc (.cells (sj b none) 216)):=Q.alloc _ _;simp only[sj] at KA ji;have Tc:=Hd KA;have mF:=Hd ji;clear KA ji;go_loopw [20] (fun v wr=>∃k:Nat,v=.int .i64 (k:Nat)∧k≤2∧Hid (Blk wr w.heap.size 216 (sj b (mY d k)))∧Hid (Q w wr)) (fun v _=>2-(intOf v).toNat)
 case atStart=>exact⟨0,rfl,U,Tc,mF⟩
 case round =>
  obtain⟨k,rfl,hk,ou,HQ⟩:=hrel;by_cases ay:k<2
  ·have bq:(k:Int)<2:=U
   have Ag:=HR.out wr HQ.out k;rw[HE.out k ay] at Ag;have kH:=wL.out k ay;have Zz:=Hd Ag;have Ad:=Hd kH;clear Ag kH;have gU:mY d (k+1)=match aR (d.get k) d.l.length with
    | none=>mY d k
    | some s=>match mY d k with
     | none=>some (s,k)
     | some (r,i)=>if r.e<s.e then some (s,k) else some (r,i):=rfl
   have qB:=Hd gU;clear gU;generalize d.get k=tk at *;generalize aR tk d.l.length=rk at *;generalize fV:mY d k=pk at *;generalize Td:mY d (k+1)=pk1 at *;have kY:=Hd Td;clear Td;go_wp2_with fail;refine Zz.out.mono ?_;rintro e w3 ⟨rfl,q3⟩;have fu:=Hd (HQ.out.trans q3);have aaG:=Hd (ou.out.stays q3);clear q3;go_wp2_with fail;refine(HB.out _ fu.out).mono ?_;rintro e w4 ⟨rfl,rfl⟩;go_wp2_with fail;refine(Ad.out _).mono ?_;rintro e w4 ⟨⟨s0,rfl,wO⟩,q4⟩;have lH:=Hd (fu.out.trans q4);have Te:=Hd (aaG.out.stays q4);have CJ:=Hd wO;clear q4 wO;cases rk with
   | none =>
    have gU:=qB.out;simp only[] at gU;subst gU;go_wp2_with fail;go_region;all_goals
     go_wp2_with fail;go_roundw;case rel=>exact⟨k+1,by go_num,U,Hd (by rw[kY.out];exact Te.out.stays (Qs.dr (Qs.al (Q.refl _) _))),Hd (Qs.dr (Qs.al lH.out _))⟩
     case measure=>simp[intOf];omega
   | some s1 =>
    obtain rfl:=CJ.out s1 rfl;have gU:=qB.out;simp only[] at gU;have sN:=Te.out;have bX:=Blk.new w4 214 #[.int .u64 (s1.e:Nat),.int .u64 (s1.s:Nat),.int .i64 (s1.log:Nat),.int .i64 (s1.place:Nat)];have kJ:Q w4 (w4.alloc (.cells #[.int .u64 (s1.e:Nat),.int .u64 (s1.s:Nat),.int .i64 (s1.log:Nat),.int .i64 (s1.place:Nat)] 214)):=Q.alloc _ _;have gY:=sN.stays kJ;have nM:∀cs:Array Value,cs.size=8→cs[0]?=some (au b)→cs[6]?=some (.int .u64 0)→cs[7]?=some (.int .i64 0)→((((cs.setIfInBounds 1 (.int .u64 (s1.e:Nat))).setIfInBounds 2 (.int .u64 (s1.s:Nat))).setIfInBounds 3 (.int .i64 (s1.log:Nat))).setIfInBounds 4 (.int .i64 (s1.place:Nat))).setIfInBounds 5 (.int .i64 (k:Nat))=sj b (some (s1,k)):=fun cs h1 h2 h3 h4=>by
     obtain⟨l⟩:=cs;match l,h1,h2,h3,h4 with
     | [a0,a1,a2,a3,a4,a5,a6,a7],_,h2,h3,h4 =>
      simp at h2 h3 h4;subst h2 h3 h4;rfl
    cases pk with
    | none =>
     obtain⟨s0,s1',s2,s3,_⟩:=bX.c4;obtain⟨c0,c1,c2,c3,c4,c5,c6,c7⟩:=Blk.c8 gY;have f1:=gY.frozen 1;have f2:=gY.frozen 2;have f3:=gY.frozen 3;have f4:=gY.frozen 4;have f5:=gY.frozen 5;simp only[] at gU;go_upto_region 9 with fail;generalize wJ:(w4.alloc (.cells #[.int .u64 (s1.e:Nat),.int .u64 (s1.s:Nat),.int .i64 (s1.log:Nat),.int .i64 (s1.place:Nat)] 214))=w5 at *;clear bX;subst gU;have wK:Q w4 w5.drew:=kJ.trans (Q.drew _);have wM:=Hd (gY.stays (Q.drew _));have lG:=Hd (lH.out.trans wK);have HN:=Hd nM;clear wJ wK sN nM kJ gY;go_region;all_goals
      go_wp2_with fail;go_roundw;case rel =>
       refine⟨k+1,by go_num,U,Hd ?_,Hd (Qs.st (Qs.st (Qs.st (Qs.st (Qs.st lG.out _ _ (Ω _)) _ _ (Ω _)) _ _ (Ω _)) _ _ (Ω _)) _ _ (Ω _))⟩
       rw[kY.out,←HN.out (sj b none) rfl rfl rfl rfl];exact((((wM.out.set 1 _).set 2 _).set 3 _).set 4 _).set 5 _
      case measure=>simp[intOf];omega
    | some ri =>
     obtain⟨r,i⟩:=ri;simp only[] at gU;obtain⟨s0,s1',s2,s3,_⟩:=bX.c4;obtain⟨c0,c1,c2,c3,c4,c5,c6,c7⟩:=Blk.c8 gY;have f1:=gY.frozen 1;have f2:=gY.frozen 2;have f3:=gY.frozen 3;have f4:=gY.frozen 4;have f5:=gY.frozen 5;go_upto_region 9 with fail;generalize wJ:(w4.alloc (.cells #[.int .u64 (s1.e:Nat),.int .u64 (s1.s:Nat),.int .i64 (s1.log:Nat),.int .i64 (s1.place:Nat)] 214))=w5 at *;have wK:Q w4 w5.drew:=kJ.trans (Q.drew _);have wM:=Hd (gY.stays (Q.drew _));have lG:=Hd (lH.out.trans wK);have HN:=Hd nM;have qL:¬((i:Nat):Int)<0:=U;clear bX wJ wK sN nM kJ gY;by_cases nX:r.e<s1.e
     ·have fF:((r.e:Nat):Int)<((s1.e:Nat):Int):=U
      rw[Φ nX] at gU;subst gU;clear nX;go_region;all_goals
       go_wp2_with fail;go_roundw;case rel =>
        refine⟨k+1,by go_num,U,Hd ?_,Hd (Qs.st (Qs.st (Qs.st (Qs.st (Qs.st lG.out _ _ (Ω _)) _ _ (Ω _)) _ _ (Ω _)) _ _ (Ω _)) _ _ (Ω _))⟩
        rw[kY.out,←HN.out (sj b (some (r,i))) rfl rfl rfl rfl];exact((((wM.out.set 1 _).set 2 _).set 3 _).set 4 _).set 5 _
       case measure=>simp[intOf];omega
     ·have fF:¬((r.e:Nat):Int)<((s1.e:Nat):Int):=U
      rw[η nX] at gU;subst gU;clear nX;go_region;all_goals
       go_wp2_with fail;go_roundw;case rel=>exact⟨k+1,by go_num,U,Hd (by rw[kY.out];exact wM.out),lG⟩
       case measure=>simp[intOf];omega
  ·have bq:¬(k:Int)<2:=U
   obtain rfl:k=2:=U;clear bq ay hk HB HM HE wL HR Tc mF;obtain⟨xJ,hF,jV,h2,hp,dS⟩:=HD.out;cases fV:mY d 2 with
   | none =>
    have hb:=ou.out;rw[fV] at hb;obtain⟨c0,c1,c2,c3,c4,c5,c6,c7⟩:=Blk.c8 hb;have fB:=Xd dS fV;have vB:=Hd fB;have VW:=Hd (xJ.keep HQ.out);clear hb fB fV xJ hF jV h2 hp dS HD ou;go_wp2_with fail;go_ret2;refine⟨ae.br HQ.out,.inr ⟨by rw[vB.out];simp,by rw[vB.out];rfl,?_⟩⟩
    rw[vB.out];exact VW.out.mono (fun k hk=>.inl hk)
   | some ri =>
    obtain⟨r,i⟩:=ri;have hb:=ou.out;rw[fV] at hb;obtain⟨c0,c1,c2,c3,c4,c5,c6,c7⟩:=Blk.c8 hb;have f6:=hb.frozen 6;have fB:=Xe dS fV;obtain⟨zq,mR⟩:=Xc fV;obtain⟨bX,yx,fT,bW⟩:=IK mR;have ig:=FV mR;obtain⟨j0,Bn⟩:∃j0:JL,j0=⟨d,r,i,r.s,0⟩:=⟨_,rfl⟩;rw[←Bn] at fB;have bN:Blk (wr.setCell ⟨w.heap.size,6,none⟩ (.int .u64 (r.s:Nat))) w.heap.size 216 (jd b j0):=by rw[Bn];exact hb.set 6 _
    have eG:Q w (wr.setCell ⟨w.heap.size,6,none⟩ (.int .u64 (r.s:Nat))):=Qs.st HQ.out _ _ (Ω _);have hj:cG (wr.setCell ⟨w.heap.size,6,none⟩ (.int .u64 (r.s:Nat))) (grow F w (wr.setCell ⟨w.heap.size,6,none⟩ (.int .u64 (r.s:Nat)))) w.heap.size b j0:=by
     refine⟨bN,.inr ⟨Ω _,bN.lt⟩,by rw[Bn];exact(xJ.keep eG).mono (fun k hk=>.inl hk),fun k hk=>?_⟩
     rcases hk with hk|hk
     ·have:=hF k hk;have:=eG.size;omega
     ·exact hk.2
    have bQ:JOk r d.l.length 800000 j0:=by
     subst Bn;exact⟨rfl,jV,dS,rfl,L0 _,by show r.s<_;exact ig.hs,by show i≤1;omega,by show d.p.length≤_;omega⟩
    have pO:mM (wr.setCell ⟨w.heap.size,6,none⟩ (.int .u64 (r.s:Nat))) w.heap.size=j0.used:=by
     unfold mM;rw[bN.cell 7 (.int .i64 (j0.used:Nat)) rfl];simp
    have qL:¬((i:Nat):Int)<0:=U;have vB:=Hd fB;have HJ:=Hd hj;have pq:=Hd bQ;have HT:=Hd (ae.br (own:=F) eG);have aaH:=Hd (And.intro yx (And.intro fT (And.intro bW ig)));have xM:=Hd hF;have Tf:=Hd (show mM _ _=j0.used from pO)
    clear fB fV xJ hF jV h2 hp dS mR bX yx fT bW ig zq hj bQ pO hb HD ou HQ;go_upto_region 14 with fail;go_wp2_with fail;generalize hwj:wr.setCell ⟨w.heap.size,6,none⟩ (.int .u64 (r.s:Nat))=wj at *;clear hwj bN eG c0 c1 c2 c3 c4 c5 c6 c7 f6 Bn;go_loopw [10] (fun _ wr=>∃(m:Nat) (j2:JL),Hid (JL.cY (r.log+1) j0=JL.cY m j2)∧Hid (r.log+1≤m+j2.used)∧Hid (cG wr (grow F w wr) w.heap.size b j2)∧Hid (ae F w wr)∧Hid (JOk r d.l.length 800000 j2)∧Hid (mM wr w.heap.size=j2.used)) (fun _ wr=>r.log+1-mM wr w.heap.size)
    case atStart=>exact⟨r.log+1,j0,Hd rfl,Hd U,HJ,HT,pq,Tf⟩
    case round =>
     obtain⟨m,j2,Hw,LY,rM,fG,jY,VL⟩:=hrel;obtain⟨yx,fT,bW,ig⟩:=aaH.out;have uS:=jY.out.num yx fT bW ig (Ω _);have lI:=jY.out.live;have oP:2+j2.s.log≤j2.d.l.length:=by rw[jY.out.sl,jY.out.len];omega
     have pO:j2.used≤j2.s.log:=by rw[jY.out.sl];exact jY.out.used
     have dQ:=Xb wr (grow F w wr) w.heap.size b j2 rM.out uS lI oP pO;obtain⟨m',rfl⟩:∃m',m=m'+1:=⟨m-1,by have:=LY.out;have:=jY.out.used;omega⟩
     have pY:=Hd dQ;have FL:=Hd uS;clear yx fT bW ig uS lI oP pO dQ;cases hf:j2.frame with
     | none =>
      have iP:=Hw.out;rw[I4 hf] at iP;have fB:=vB.out;rw[iP,Φ rfl] at fB;have ck:=fun (W:World) (q:Q wr W)=>Qw W (grow F w wr) w.heap.size b j2 (rM.out.keep q) FL.out
      have rA:=Hd fB;have CK:=Hd ck;have HF:=Hd hf;rw[hf] at pY;clear iP fB ck hf;go_wp2_with fail;refine pY.out.mono ?_;rintro e w3 ⟨⟨v,rfl,-⟩,q3⟩;have fu:=Hd q3;clear q3;go_wp2_with fail;refine(CK.out _ fu.out).mono ?_;rintro e w4 ⟨rfl,h4,t4⟩;have ht:=fG.out.step ((ae.br fu.out).trans t4);have ZA:cG w4 (grow F w w4) w.heap.size b j2.cz.1:=h4.mono (fun k hk=>hk.elim (fun hk=>hk.elim .inl (fun hk=>.inr ⟨hk.1,Ψ hk.2 (LS fu.out.size t4.size)⟩)) (fun hk=>.inr ⟨LS fG.out.size (LS fu.out.size hk.1),hk.2⟩)) (fun k hk=>hk.elim (fun hk=>by have:=xM.out k hk;have:=ht.size;omega) (fun hk=>hk.2))
      have H4:=Hd ZA;have G8:=Hd ht;clear h4 t4 ht ZA;by_cases hz:j2.cz.2=0
      ·have hb:(j2.cz.2==0)=true:=MY.2 hz
       have HZ:=Hd hz;clear hz;go_wp2_with fail;go_ret2;refine⟨G8.out,.inl ⟨by rw[rA.out];exact HZ.out,_,rfl,?_⟩⟩
       rw[rA.out];exact H4.out
      ·have hb:(j2.cz.2==0)=false:=Γ.2 hz
       have HZ:=Hd hz;clear hz;go_wp2_with fail;go_ret2;refine⟨G8.out,.inr ⟨by rw[rA.out];exact HZ.out,by rw[rA.out];rfl,?_⟩⟩
       rw[rA.out];exact H4.out.dev
     | some ws =>
      have iP:=Hw.out;rw[I5 hf] at iP;obtain⟨f1,f2,f3⟩:=EA hf;have Hy:=fun hz=>jY.out.adv hf hz
      have u7:j2.d.p.length+ws.length≤1000000:=by have:=FL.out.eJ jY.out.live;omega
      rw[hf] at pY;have cw:=fun (W:World) (q:Q wr W) (v:Value) (hv:W.ownsRow wr.heap.size 134 2 v ws.length (aN ws))=>wY W (fun k=>grow F w wr k∧k≠w.heap.size) b j2.d v ws ((rM.out.dev.minus rM.out.box).keep q) FL.out.ok (fun _=>u7) (eC.own (w0:=wr) hv (fun k hk=>rM.out.lt k hk.1) (fun x hx=>by have:=(f3 x hx).1;have:=FL.out.ok.max;have:=(f3 x hx).2;omega)) U
      have nk:j2.used+ws.length+1≤r.log:=by have h1:=jY.out.sl;have:=jY.out.used;rw[h1] at f1;omega
      have Hz:=Hd iP;have aaI:=Hd Hy;have CW:=Hd cw;have VX:=Hd nk;clear hf iP f1 f3 Hy u7 cw nk;go_wp2_with fail;refine pY.out.mono ?_;rintro e w3 ⟨⟨v,rfl,hv⟩,q3⟩;have hv:=hv ws rfl;have fu:=Hd q3;have cw:=CW.out _ q3 v hv;obtain⟨va,vc,rfl,_⟩:=aY hv;have CWW:=Hd cw;clear q3 hv cw CW;go_wp2_with fail;refine CWW.out.mono ?_;rintro e w4 ⟨rfl,h4,t4⟩;have aC:=cG.step rM.out.box fu.out t4 h4 rM.out.lt rM.out.fp;have amB:mM w4 w.heap.size=j2.used:=by unfold mM;rw[aC.1.box.cell 7 (.int .i64 (j2.used:Nat)) rfl];simp
      have aX:=Hd aC;clear h4 t4 aC;generalize Hl:j2.d.writes ws=dw at *;by_cases hz:dw.2=0
      ·have hb:(dw.2==0)=true:=MY.2 hz
       have iP:=Hz.out;rw[Φ hz] at iP;have EZ:=aaI.out hz;have ca:=Di w4 w.heap.size b { j2 with d:=dw.1 } ws.length aX.out.1.box (by show j2.used≤_;exact FL.out.used) U (by show j2.next<_;exact FL.out.next)
       have aaJ:=Hd iP;have aaK:=Hd EZ;have CA:=Hd ca;clear hz iP EZ ca;go_wp2_with fail;refine CA.out.mono ?_;rintro e w5 ⟨rfl,h5,t5,Me⟩;have Hr:=aX.out.1.turned h5 rfl t5;have zF:ae F w w5:=(fG.out.step aX.out.2).step (t5.mono (fun k hk=>by subst hk;exact .inr ⟨Ω _,aX.out.1.box.lt⟩))
       have Ia:cG w5 (grow F w w5) w.heap.size b ({ j2 with d:=dw.1 }.advance ws.length):=Hr.mono (fun k hk=>lZ fG.out.size (by rw[Me];exact aX.out.2.size) (hk.elim .inl (fun hk=>.inr ⟨hk.1,by rw[Me];exact hk.2⟩))) (fun k hk=>hk.elim (fun hk=>by have:=xM.out k hk;have:=zF.size;omega) (fun hk=>hk.2))
       have hu5:mM w5 w.heap.size=j2.used+ws.length+1:=by unfold mM;rw[h5.cell 7 (.int .i64 ((j2.used+ws.length+1:Nat):Int)) rfl];exact OK _
       have O1:=Hd Ia;have OP:=Hd zF;have HU5:=Hd hu5;clear h5 t5 Me Hr zF Ia hu5;go_wp2_with fail;go_roundw;case rel=>exact⟨m',_,aaJ,Hd (by show r.log+1≤m'+(j2.used+ws.length+1);have:=LY.out;omega),O1,OP,aaK,HU5⟩
       case measure=>rw[HU5.out,VL.out];have:=VX.out;omega
      ·have hb:(dw.2==0)=false:=Γ.2 hz
       have iP:=Hz.out;rw[η hz] at iP;have fB:=vB.out;rw[iP,η hz] at fB;have rA:=Hd fB;have HZ:=Hd hz;clear hz iP fB;go_wp2_with fail;go_ret2;refine⟨fG.out.step aX.out.2,.inr ⟨by rw[rA.out];exact HZ.out,by rw[rA.out];rfl,?_⟩⟩
       rw[rA.out];exact aX.out.1.dev.mono (fun k hk=>lZ fG.out.size aX.out.2.size hk)
theorem NR(w:World)(F:Nat→Prop)(b:Nat)(d:af)(h:cF w F b d)(hF:∀k,F k→k<w.heap.size)(hd:d.Ok)(h2:2≤d.l.length)(hp:d.dead=false→d.p.length≤800000):
  Calls prog 148 #[au b] w fun e w'=>IB w F b d e w':=by
 cases hl:d.dead with
 | false=>exact Xi w F b d h hF hd h2 (hp hl) hl
 | true =>
  refine(Xf w F b d h hd h2 hl).mono ?_;rintro e w' ⟨rfl,q⟩;refine⟨ae.br q,.inr ⟨by rw[EB hl];simp,by rw[EB hl],?_⟩⟩
  rw[EB hl];exact(h.keep q).mono (fun k hk=>.inl hk)
def mj(k:Nat):List WrL:=(List.range k).map fun i=>(i+1,ag)
theorem xl(k:Nat):mj (k+1)=mj k++[(k+1,ag)]:=by simp[mj,Ty]
theorem UR(w:World)(F:Nat→Prop)(b:Nat)(d:af)(log:Nat)(h:cF w F b d)(hF:∀k,F k→k<w.heap.size)(hd:d.Ok)(hp:d.dead=false→d.p.length≤800000)(yx:50≤log)(fT:log+3≤d.l.length):
  Calls prog 166 #[au b,.int .i64 (log:Nat)] w fun e w'=>e=.returned (.int .i64 (aO d log).2)∧cF w' (grow F w w') b (aO d log).1∧ae F w w':=by
 have hm:=hd.max;have dZ:=oL w F b d h;have bI:=fun (W:World)=>yM W
 have aC:=fun (W:World)=>AR ⟨1,1,log,0⟩ ⟨by show 1<_;omega,by show 1<_;omega,by show log<_;omega,by show 0<_;omega⟩ W
 obtain⟨i1,qG,wH,tN,hy2⟩:=info_parts nC;have eO:IntKind.i64.wrap ((d.l.length:Int)-2)=(d.l.length:Int)-2:=IntWalk.i64_in _ U;have gD:IntKind.i64.wrap ((d.l.length:Int)-2-1)=(d.l.length:Int)-2-1:=IntWalk.i64_in _ U;have mG:¬(log:Int)<50:=U;have fF:¬(d.l.length:Int)-2-1<(log:Int):=U;have D9:=fun (W:World) (v:Value) (hq:Q w W) (hv:W.ownsRow w.heap.size 134 2 v (cZ log).length (aN (cZ log)))=>wY W F b d v (cZ log) (h.keep hq) hd (fun hx=>by have:=hp hx;simp[cZ];omega) (eC.own hv hF (fun x hx=>by
  simp only[cZ,My,MD,P4,Mo] at hx;rcases hx with ⟨i,hi,rfl⟩|rfl
  ·exact⟨by simp only;omega,by simp only[jk];omega⟩
  ·exact⟨by simp only;omega,by simp only[gB];omega⟩)) (by simp[cZ];omega)
 have kG:(cZ log).length=log+2:=by simp[cZ]
 have Tp:cZ log=mj (log+1)++[(0,aQ ⟨1,1,log,0⟩)]:=rfl;have Ck:aO d log=d.lays (cZ log):=rfl;have adQ:(d.writes (cZ log)).1.Ok:=af.eN hd _;have hpw:(d.writes (cZ log)).1.dead=false→(d.writes (cZ log)).1.p.length≤1000000:=fun hx=>by
  have h1:=hp (af.hS _ _ hx);have h2:=af.jz (cZ log) d;omega
 have abP:aO d log=if (d.writes (cZ log)).2=0 then(d.writes (cZ log)).1.bw else d.writes (cZ log):=rfl
 have iV:=Hd dZ;have dY:=Hd bI;have aX:=Hd aC;have HWL:=Hd D9;have HFW:=Hd Tp;have aiv:=Hd adQ;have HPW:=Hd hpw;have HLY:=Hd abP;have xM:=Hd kG;have og:=Hd hF;have VZ:log≤4096:=U;clear dZ bI aC D9 Tp Ck adQ hpw abP kG hF h hp hd hm;generalize d.writes (cZ log)=dw at *;go_enter func166,ntmps166;go_wp2_with fail;refine iV.out.mono ?_;rintro e w1 ⟨rfl,rfl⟩;go_wp2_with fail;clear eO gD mG fF;go_loopw [5,20] (fun v i wr=>∃k:Nat,i=.int .i64 (k:Nat)∧k≤log+1∧Hid (wr.ownsRow w.heap.size 134 2 v k (aN (mj k)))∧Hid (Q w wr)) (fun _ i _=>log+1-(intOf i).toNat)
 case atStart=>exact⟨0,rfl,L0 _,World.ownsRow_nil _ _ _ _,Hd (Q.refl _)⟩
 case round =>
  obtain⟨k,rfl,hk,HOW,HQ⟩:=hrel;by_cases ay:k<log+1
  ·have bq:(k:Int)<(log:Int)+1:=U
   have EP:(0:Int)≤(k:Int):=U;have rF:=xl k;have VU:=Hd rF;clear rF;go_wp2_with fail;refine(dY.out _).mono ?_;rintro e w10 ⟨rfl,q10⟩;have Bq:=Hd (ownsRow_below HOW.out q10);have vS:Hid (Q w w10):=Hd (HQ.out.trans q10);generalize kT:ag=nn at *;have cO:∀u∈#[Value.int .i64 ((k:Int)+1),ah nn].toList,u.oneCell'=true:=by intro u hu;simp at hu;rcases hu with rfl|rfl<;>rfl
   have dI:(k+1)*24≤140737488355328:=U;have qJ:=Hd cO;have uY:=Hd dI;clear q10 cO dI kT;go_wp2_with (at_builtin;refine bG w10 ρ _ _ 102 ρ w.heap.size 134 _ i1 (.agg #[.int .i64 0,ah []]) 2 24 underlying102 qG wH tN hy2 rfl Z Z _ _ _ ρ Bq.out #[.int .i64 ((k:Int)+1),ah nn] ρ rfl qJ.out uY.out vS.out.size ?_)
   intro g11 jI w11 iB gu lQ jR iC;have zS:Q w w11:=bD vS.out Bq.out gu (Ω _) vS.out.size;have gW:w11.ownsRow w.heap.size 134 2 (.slice (some ⟨g11,0,none⟩) (k+1) jI) (k+1) (aN (mj (k+1))):=by
    rw[VU.out,iF,show aN [(k+1,nn)]=mX (k+1,nn) by simp[aN]];exact iB
   have oz:=Hd zS;have qW:=Hd gW;clear iB gu lQ jR iC zS gW;go_wp2_with fail;go_roundw;case rel=>exact⟨k+1,by go_num,U,qW,oz⟩
   case measure=>simp[intOf];omega
  ·have bq:¬(k:Int)<(log:Int)+1:=U
   obtain rfl:k=log+1:=U;go_wp2_with fail;refine(aX.out _).mono ?_;rintro e w10 ⟨rfl,q10⟩;have Bq:=Hd (ownsRow_below HOW.out q10);have vS:Hid (Q w w10):=Hd (HQ.out.trans q10);generalize aQ ⟨1,1,log,0⟩=st at *;have cO:∀u∈#[Value.int .i64 0,ah st].toList,u.oneCell'=true:=by intro u hu;simp at hu;rcases hu with rfl|rfl<;>rfl
   have dI:(log+1+1)*24≤140737488355328:=U;have qJ:=Hd cO;have uY:=Hd dI;clear q10 cO dI;go_wp2_with (at_builtin;refine bG w10 ρ _ _ 102 ρ w.heap.size 134 _ i1 (.agg #[.int .i64 0,ah []]) 2 24 underlying102 qG wH tN hy2 rfl Z Z _ _ _ ρ Bq.out #[.int .i64 0,ah st] ρ rfl qJ.out uY.out vS.out.size ?_)
   intro g11 jI w11 iB gu lQ jR iC;have zS:Q w w11:=bD vS.out Bq.out gu (Ω _) vS.out.size;have gW:w11.ownsRow w.heap.size 134 2 (.slice (some ⟨g11,0,none⟩) (log+1+1) jI) (cZ log).length (aN (cZ log)):=by
    rw[xM.out,HFW.out,iF,show aN [(0,st)]=mX (0,st) by simp[aN]];exact iB
   have cw:=HWL.out w11 _ zS gW;have CW:=Hd cw;have oz:=Hd zS;clear iB gu lQ jR iC zS gW cw;go_wp2_with fail;refine CW.out.mono ?_;rintro e w12 ⟨rfl,OZ,t12⟩;have ht:ae F w w12:=(ae.br oz.out).trans t12;have adR:cF w12 (grow F w w12) b dw.1:=OZ.mono (fun k hk=>hk.elim .inl (fun hk=>.inr ⟨LS oz.out.size hk.1,hk.2⟩))
   have H12:=Hd adR;have T12:=Hd ht;clear OZ t12 ht adR;by_cases hz:dw.2=0
   ·have hb:(dw.2==0)=true:=MY.2 hz
    have Tq:=HLY.out;rw[Φ hz] at Tq;have cf:=NH w12 (grow F w w12) b dw.1 H12.out aiv.out HPW.out;have HLZ:=Hd Tq;have CF:=Hd cf;clear hz Tq cf;go_wp2_with fail;refine CF.out.mono ?_;rintro e w13 ⟨rfl,h13,t13⟩;have HE:=Hd (h13.mono (fun k hk=>lZ T12.out.size t13.size hk));have fG:=Hd (T12.out.step t13)
    clear h13 t13;go_wp2_with fail;go_ret;rw[HLZ.out];exact⟨rfl,HE.out,fG.out⟩
   ·have hb:(dw.2==0)=false:=Γ.2 hz
    have Tq:=HLY.out;rw[η hz] at Tq;have HLZ:=Hd Tq;clear hz Tq;go_wp2_with fail;go_ret;rw[HLZ.out];exact⟨rfl,H12.out,T12.out⟩
structure bp (w:World) (F:Nat→Prop) (p b:Nat) (j:JL):Prop where
 box:Blk w p 174 (jd b j)
 fp:F p
 dev:cn w F b j.d
 lt:∀k,F k→k<w.heap.size
theorem bp.mono{w:World}{F G:Nat→Prop}{p b:Nat}{j:JL}(h:bp w F p b j)(k:∀i,F i→G i)(hl:∀i,G i→i<w.heap.size):bp w G p b j:=⟨h.box,k _ h.fp,h.dev.mono k,hl⟩
theorem bp.beside{w w':World}{F G:Nat→Prop}{p b:Nat}{j:JL}(h:bp w F p b j)(t:ae G w w')(hd:∀k,F k→¬G k):bp w' F p b j:=⟨t.blk h.box (hd _ h.fp),h.fp,h.dev.beside t hd,fun k hk=>Ψ (h.lt k hk) t.size⟩
theorem bp.keep{w w':World}{F:Nat→Prop}{p b:Nat}{j:JL}(h:bp w F p b j)(q:Q w w'):bp w' F p b j:=h.beside (ae.br (own:=fun _=>False) q) (fun _ _=>id)
theorem cn.minus{w:World}{F:Nat→Prop}{b p:Nat}{d:af}{cs:Array Value}(h:cn w F b d)(hb:Blk w p 174 cs):cn w (fun k=>F k∧k≠p) b d:=by
 obtain⟨lv,pv,h⟩:=h;exact⟨lv,pv,h.box,⟨h.fb,Gb h.box hb Z⟩,h.ix,fun k e=>⟨h.fl k e,kM h.ix hb Z k e⟩,h.il,fun k e=>⟨h.fp k e,kM h.il hb Z k e⟩⟩
theorem bp.step{A B C:World}{F:Nat→Prop}{p b:Nat}{j:JL}{d:af}(hb:Blk A p 174 (jd b j))(q:Q A B)(t:ae (fun k=>F k∧k≠p) B C)(hd:cn C (grow (fun k=>F k∧k≠p) B C) b d)(ay:∀k,F k→k<A.heap.size)(hp:F p):
  bp C (grow F A C) p b { j with d:=d }∧ae F A C:=by
 have hs:=q.size;have jm:=t.size;refine⟨⟨t.blk (hb.stays q) (fun hc=>hc.2 rfl),.inl hp,hd.mono (fun k hk=>?_),fun k hk=>?_⟩,(ae.br q).trans (t.mono (fun k hk=>hk.1))⟩
 ·rcases hk with hk|hk
  ·exact .inl hk.1
  ·exact .inr ⟨U,hk.2⟩
 ·rcases hk with hk|hk
  ·have:=ay k hk;omega
  ·exact hk.2
theorem bp.turned{w w':World}{F:Nat→Prop}{p b:Nat}{j j':JL}(h:bp w F p b j)(hb:Blk w' p 174 (jd b j'))(hd:j'.d=j.d)(t:ae (fun k=>k=p) w w'):bp w' F p b j' :=
 ⟨hb,h.fp,by rw[hd];exact((h.dev.minus h.box).beside t (fun k hk e=>hk.2 e)).mono (fun k hk=>hk.1),fun k hk=>Ψ (h.lt k hk) t.size⟩
theorem bp.write{A:World}{F:Nat→Prop}{p b:Nat}{j:JL}(h:bp A F p b j)(hd:j.d.Ok)(hp:j.d.dead=false→j.d.p.length≤1000000)(i:Int)(s:Bytes)(hs:s.length≤1000000):∀B,Q A B →
  Calls prog 170 #[au b,.int .i64 i,ah s] B fun e C=>e=.returned (.int .i64 (j.d.write i s).2)∧bp C (grow F A C) p b { j with d:=(j.d.write i s).1 }∧ae F A C:=fun B q=>by
 refine(EL B (fun k=>F k∧k≠p) b j.d i s ((h.dev.minus h.box).keep q) hd hp U).mono ?_
 rintro e C ⟨rfl,h2,t2⟩
 exact⟨rfl,bp.step h.box q t2 h2 h.lt h.fp⟩
theorem bp.bw{A:World}{F:Nat→Prop}{p b:Nat}{j:JL}(h:bp A F p b j)(hd:j.d.Ok)(hp:j.d.dead=false→j.d.p.length≤1000000):∀B,Q A B →
  Calls prog 172 #[au b] B fun e C=>e=.returned (.int .i64 j.d.bw.2)∧bp C (grow F A C) p b { j with d:=j.d.bw.1 }∧ae F A C:=fun B q=>by
 refine(Lu B (fun k=>F k∧k≠p) b j.d ((h.dev.minus h.box).keep q) hd hp).mono ?_
 rintro e C ⟨rfl,h2,t2⟩
 exact⟨rfl,bp.step h.box q t2 (h2.mono (fun k hk=>.inl hk)) h.lt h.fp⟩
theorem Ay(w:World)(p b:Nat)(j:JL)(n:Nat)(hb:Blk w p 174 (jd b j))(hl:0<j.s.log)(fF:j.s.log≤1000000)(hp:j.s.place≤1000000)(hn:n≤3000000):
  Calls prog 244 #[au p,.int .i64 (n:Nat)] w fun e w'=>e=.returned (.int .i64 (cV j.s n:Nat))∧Q w w':=by
 obtain⟨c0,c1,c2,c3,c4,c5,c6,c7⟩:=hb.c8;have hh:((cV j.s n:Nat):Int)=2+(((j.s.place:Int)+(n:Int))%(j.s.log:Int)):=by unfold cV;simp only[abl,ZS];rfl
 rw[hh];have nL:¬(j.s.log:Int)=0:=U;have Yw:((j.s.place:Int)+(n:Int))%(j.s.log:Int)<(j.s.log:Int):=aes _ U;have afG:0≤((j.s.place:Int)+(n:Int))%(j.s.log:Int):=Int.emod_nonneg _ U;clear hb hh;go_enter func244,ntmps244;go_wp2_with fail;go_quiet (fail);go_wp2_with fail;go_ret;exact⟨rfl,Q.drewN _ _⟩
theorem Og(w:World)(p b:Nat)(j:JL)(hb:Blk w p 174 (jd b j))(hl:j.s.log≤1000000):
  Calls prog 178 #[au p] w fun e w'=>e=.returned (.int .i64 (j.home:Nat))∧w=w':=by
 obtain⟨c0,c1,c2,c3,_⟩:=hb.c8;have hh:((j.home:Nat):Int)=2+(j.s.log:Int):=by unfold JL.home;omega
 rw[hh];clear hb hh;go_enter func178,ntmps178;go_wp2_with fail;go_ret;exact⟨rfl,rfl⟩
end
section
open Go.RowKit
theorem Az(n:Nat)(w:World)(hn:n≤1000000):
  Calls prog 98 #[.int .i64 (n:Nat)] w fun e w'=>e=.returned (.int .i64 (aD n:Nat))∧w=w':=by
 have h:((aD n:Nat):Int)=((n:Int)+2047) / 2048:=by unfold aD;omega
 rw[h];clear h;go_enter func98,ntmps98;go_wp2;go_ret;exact⟨rfl,rfl⟩
theorem Lv(n:Nat)(w:World)(hn:n≤1000000):
  Calls prog 99 #[.int .i64 (n:Nat)] w fun e w'=>e=.returned (ah (jv n))∧Q w w':=by
 have hc:=fun (W:World)=>ru n W U
 obtain⟨i,hi,bY,bB,aW⟩:=info_parts ze;have km:=fun (W:World)=>run_make (P:=prog) W 92 5 _ _ underlying92 hi bY .i64 .i64 248 248 U (XX _) (by rw[aW];omega) U
 have hb:=fun (W:World)=>(cA.zeros W (248:Int).toNat 5).back (P:=prog) 92 9 5 (248:Int).toNat underlying92 underlying5 underlying9
 simp only[Nx] at hb;rw[show List.replicate (248:Int).toNat (0:UInt8)=bg 248 from rfl] at hb
 simp only[bB,abq,show(Value.int IntKind.u8 0).cells=#[.int .u8 0] from rfl] at km
 have qp:(({ data:=#[67,68,88,66] }:ByteArray)++{ data:=(aB n).toArray })=⟨(([67,68,88,66]:Bytes)++aB n).toArray⟩:=by
  rw[show({ data:=#[67,68,88,66] }:ByteArray)=⟨([67,68,88,66]:Bytes).toArray⟩ from rfl,bytes_append]
 have fT:(([67,68,88,66]:Bytes)++aB n).length=8:=by rw[Δ,aH];rfl
 have hte:jv n=(([67,68,88,66]:Bytes)++aB n)++bg 248:=by unfold jv;rw[Mm]
 have kT:IntKind.u32.wrap (n:Int)=(n:Int):=by simp[IntKind.wrap,IntKind.bits,IntKind.signed];omega
 have kV:(n:Int)%4294967296=(n:Int):=U;have HC:=Hd hc;have FE:=Hd qp;have kG:=aH n;rw[hte];clear hc qp hte;generalize iQ:(([67,68,88,66]:Bytes)++aB n)++bg 248=res at *;have vR:=Hd iQ;clear iQ;generalize aB n=fl at *;generalize hm:(248:Int).toNat=m at *;clear hm;go_enter func99,ntmps99;go_wp2_with fail;refine(HC.out _).mono ?_;rintro e w1 ⟨rfl,q1⟩;have dF:=Hd q1;clear q1;go_wp2_with fail;rw[FE.out];generalize ([67,68,88,66]:Bytes)++fl=tt at *;have km1:=km w1;have hb1:=hb w1;have hq:=Q.alloc w1 (.cells (madeCells #[.int .u8 0] m) 5);generalize w1.alloc (.cells (madeCells #[.int .u8 0] m) 5)=w2 at *;have bJ:=Hd (dF.out.trans hq);clear km hb hq;go_wp2_with fail;go_ret;exact⟨by rw[←vR.out];exact Pu (fun x=>Ending.returned (.string x)) (bytes_append _ _),bJ.out⟩
structure dp (w:World) (FJ:Nat→Prop) (sb b p:Nat) (tv:Value) (σ:StL):Prop where
 box:Blk w sb 169 #[au p,.bool σ.open_,tv]
 jr:bp w FJ p b σ.j
 sF:¬FJ sb
 tx:SlO w FJ tv σ.tx.length 2 (aN σ.tx)
def cT(w:World)(F:Nat→Prop)(sb b:Nat)(σ:StL):Prop :=
 ∃FJ p tv,dp w FJ sb b p tv σ∧(∀k,FJ k∨k=sb→F k)∧(∀g off n cap,tv=.slice (some ⟨g,off,none⟩) n cap→0<σ.tx.length→F g)∧(∀k,F k→k<w.heap.size)
theorem SlO.stay{w w':World}{F:Nat→Prop}{v:Value}{n size:Nat}{xs:List Value}(h:SlO w F v n size xs)(q:Q w w'):SlO w' F v n size xs :=
 ⟨h.1.stays q,fun hn=>by obtain⟨b,off,e,hb,hF⟩:=h.2 hn;exact⟨b,off,e,Ψ hb q.size,hF⟩⟩
theorem dp.keep{w w':World}{FJ:Nat→Prop}{sb b p:Nat}{tv:Value}{σ:StL}(h:dp w FJ sb b p tv σ)(q:Q w w'):dp w' FJ sb b p tv σ :=
 ⟨h.box.stays q,h.jr.keep q,h.sF,h.tx.stay q⟩
theorem cT.keep{w w':World}{F:Nat→Prop}{sb b:Nat}{σ:StL}(h:cT w F sb b σ)(q:Q w w'):cT w' F sb b σ:=by
 obtain⟨FJ,p,tv,h1,h2,h3,h4⟩:=h;exact⟨FJ,p,tv,h1.keep q,h2,h3,fun k hk=>Ψ (h4 k hk) q.size⟩
theorem Blk.c3f{w:World}{k:Nat}{t:TypeId}{a0 a1 a2:Value}(h:Blk w k t #[a0,a1,a2]):
  w.cell? ⟨k,0,none⟩=some a0∧w.cell? ⟨k,1,none⟩=some a1∧w.cell? ⟨k,2,none⟩=some a2∧w.frozen? ⟨k,0,none⟩=false∧w.frozen? ⟨k,1,none⟩=false∧w.frozen? ⟨k,2,none⟩=false :=
 ⟨h.cell 0 _ rfl,h.cell 1 _ rfl,h.cell 2 _ rfl,h.frozen 0,h.frozen 1,h.frozen 2⟩
section
variable {w:World} {FJ:Nat→Prop} {sb b p:Nat} {tv:Value} {σ:StL}
theorem nK(h:dp w FJ sb b p tv σ):
  Calls prog 101 #[au sb] w fun e w'=>e=.returned (.int .i64 (σ.n:Nat))∧w=w':=by
 obtain⟨c0,_⟩:=h.box.c3f;obtain⟨j0,_⟩:=h.jr.box.c8;obtain⟨lv,pv,hd⟩:=h.jr.dev;obtain⟨la,lc,rfl,_⟩:=hd.gt;obtain⟨d0,_⟩:=hd.box.c4;have hn:σ.n=σ.j.d.l.length:=rfl;rw[hn];clear h hd hn;go_enter func101,ntmps101;go_wp2;go_ret;exact⟨rfl,rfl⟩
theorem yR(h:dp w FJ sb b p tv σ)(hn:σ.n≤4096):
  Calls prog 58 #[au sb] w fun e w'=>e=.returned (.int .i64 (ak σ.n:Nat))∧w=w':=by
 have hb:=nK h;have hp:=Az σ.n w U;have bN:aD σ.n≤1000000:=by unfold aD;omega
 have he:((ak σ.n:Nat):Int)=63+(aD σ.n:Int):=by unfold ak;omega
 rw[he];have HB:=Hd hb;have HP:=Hd hp;clear he hb hp h;go_enter func58,ntmps58;go_wp2_with fail;refine HB.out.mono ?_;rintro e w1 ⟨rfl,rfl⟩;go_wp2_with fail;refine HP.out.mono ?_;rintro e w1 ⟨rfl,rfl⟩;go_wp2_with fail;go_ret;exact⟨rfl,rfl⟩
theorem SlO.mN(h:SlO w FJ tv σ.tx.length 2 (aN σ.tx)):∃a cap,tv=.slice a σ.tx.length cap∧∀k (hk:k<σ.tx.length),∃g off,a=some ⟨g,off,none⟩∧w.cell? ⟨g,off+k*2,none⟩=some (.int .i64 (σ.tx[k].1:Nat))∧w.cell? ⟨g,off+k*2+1,none⟩=some (ah σ.tx[k].2):=by
 obtain⟨a,cap,e,hc⟩:=h.value;refine⟨a,cap,e,fun k hk=>?_⟩
 obtain⟨g,off,rfl,_,_,aP⟩:=hc U;have h1:=fQ σ.tx k hk;exact⟨g,off,rfl,aP _ _ h1.1,by rw[Ps];exact aP _ _ h1.2⟩
theorem Cd(l:List WrL)(hr:l8 l)(k:Nat)(hk:k<l.length)(s:Bytes):bH l l[k].1 s=l[k].2:=by
 refine uz l l[k] s (LO hk) (fun x hx e=>?_)
 obtain⟨j,hj,rfl⟩:=PH hx;have hp:=SD.1 hr;rcases abr j k with h|h|h
 ·have:=hp j k hj hk h;omega
 ·subst h;rfl
 ·have:=hp k j hk hj h;omega
theorem EN(h:dp w FJ sb b p tv σ)(hn:σ.n≤4096)(hd:σ.dead=false)(hp:σ.j.d.p.length≤1000000)(hr:l8 σ.tx)(hl:σ.tx.length≤1000)(i:Nat)(hi:i<σ.n):
  Calls prog 102 #[au sb,.int .i64 (i:Nat)] w fun e w'=>e=.returned (ah (σ.get i))∧Q w w':=by
 have dz:=GD w FJ b σ.j.d (i:Nat) h.jr.dev hn (fun _=>hp)
 have ug:σ.j.d.read (i:Nat)=(σ.j.d.get i,0):=by unfold af.read;rw[af.gC hd i hi,Φ rfl];rfl
 rw[ug] at dz;obtain⟨a,cap,rfl,aP⟩:=h.tx.mN;obtain⟨c0,c1,c2,_⟩:=h.box.c3f;obtain⟨j0,_⟩:=h.jr.box.c8;have RJ:=fun (k:Nat) (hk:k<σ.tx.length) (e:σ.tx[k].1=i)=>(show σ.get i=σ.tx[k].2 from by unfold StL.get;rw[←e];exact Cd σ.tx hr k hk _)
 have LJ:(∀k (hk:k<σ.tx.length),σ.tx[k].1≠i)→σ.get i=σ.j.d.get i:=fun hx=>by
  unfold StL.get;exact dM _ _ _ (fun x mh e=>by obtain⟨k,hk,rfl⟩:=PH mh;exact hx k hk e)
 have iO:=Hd dz;have HC:=Hd aP;have HH:=Hd RJ;have HM:=Hd LJ;clear dz ug aP RJ LJ h hd hp hr hn;generalize σ.get i=res at *;generalize σ.j.d.get i=res0 at *;go_enter func102,ntmps102;go_wp2_with fail;go_loop [5] (fun v=>∃k:Nat,v=.int .i64 (k:Nat)∧k≤σ.tx.length∧Hid (∀j (hj:j<σ.tx.length),j<k→σ.tx[j].1≠i)) (fun v=>σ.tx.length-(intOf v).toNat)
 case atStart=>exact⟨0,rfl,L0 _,Hd (fun j hj h=>U)⟩
 case round =>
  obtain⟨k,rfl,hk,HN⟩:=hrel;by_cases ay:k<σ.tx.length
  ·have bq:(k:Int)<(σ.tx.length:Int):=U
   have lT:(0:Int)≤(k:Int):=U;obtain⟨g,off,rfl,x1,x2⟩:=HC.out k ay;have hit:=HH.out k ay;have gU:σ.tx[k].1≠i→∀j (hj:j<σ.tx.length),j<k+1→σ.tx[j].1≠i:=fun aU j hj h=>by
    by_cases e:j=k
    ·subst e;exact aU
    ·exact HN.out j hj U
   have HIT:=Hd hit;have qB:=Hd gU;clear hit gU HH HN;generalize σ.tx[k]=x at *;obtain⟨xi,xs⟩:=x;simp only at x1 x2 HIT qB;by_cases he:xi=i
   ·have e1:((xi:Int)==(i:Int))=true:=by rw[he];exact V0 _
    have iQ:=HIT.out he;subst he;subst iQ;go_wp2_with fail;go_ret;exact⟨rfl,Q.refl _⟩
   ·have e1:((xi:Int)==(i:Int))=false:=Γ.2 U
    have gU:=qB.out he;have ai0:=Hd gU;clear gU;go_wp2_with fail;go_round;case rel=>exact⟨k+1,by go_num,U,ai0⟩
    case measure=>simp[intOf];omega
  ·have bq:¬(k:Int)<(σ.tx.length:Int):=U
   have iQ:=HM.out (fun j hj=>HN.out j hj U)
   subst iQ;go_wp2_with fail;refine iO.out.mono ?_;rintro e w1 ⟨rfl,q1⟩;have dF:=Hd q1;clear q1;go_wp2_with fail;go_ret;exact⟨rfl,dF.out⟩
def StL.gm(σ:StL)(k:Nat):Bytes:=((List.range k).map fun i=>σ.get (63+i)).flatten
theorem XU(σ:StL)(k:Nat):σ.gm (k+1)=σ.gm k++σ.get (63+k):=by
 unfold StL.gm;rw[Ty,N5,Tl];simp
theorem cg.gm{K:Nat}{σ:StL}{fr:List (List WrL)}{C:Nat→Bytes}(h:cg K σ fr C):σ.gm (aD σ.n)=σ.ai:=by
 have hf:=jH σ.n h.big h.max;rw[h.now];unfold StL.gm kD;congr 1;exact PC (fun i hi=>h.get _ U (by have:=P4.1 hi;unfold ak at hf;omega))
theorem Lx(h:dp w FJ sb b p tv σ)(hb:128≤σ.n)(hn:σ.n≤4096)(hd:σ.dead=false)(hp:σ.j.d.p.length≤1000000)(hr:l8 σ.tx)(hl:σ.tx.length≤1000)(hg:∀i,i<σ.n→(σ.get i).length=256):
  Calls prog 103 #[au sb] w fun e w'=>e=.returned (ah (σ.gm (aD σ.n)))∧Q w w':=by
 have gK:63+aD σ.n<σ.n∧aD σ.n≤2:=by have:=jH σ.n hb hn;unfold ak at this;omega
 have iG:=fun (W:World) (q:Q w W) (i:Nat) (hi:i<σ.n)=>EN (h.keep q) hn hd hp hr hl i hi
 have dZ:=fun (W:World) (q:Q w W)=>nK (h.keep q)
 have nO:=fun (W:World)=>Az σ.n W U
 have nA:=XU σ;have qp:∀k,k≤2→(σ.gm k).length=256*k:=fun k hk=>by
  match k,hk with
  | 0,_=>rfl
  | 1,_=>rw[nA,Δ,hg _ U];rfl
  | 2,_=>rw[nA,nA,Δ,Δ,hg _ U,hg _ U];rfl
 have rJ:=Hd iG;have iV:=Hd dZ;have wP:=Hd nO;have CQ:=Hd nA;have FE:=Hd qp;have HG:=Hd hg;have sO:=Hd gK.1;have Ko:=gK.2;clear iG dZ nO nA qp hg gK h hd hp hr hl;generalize aD σ.n=pn at *;go_enter func103,ntmps103;go_wp2_with fail;go_loopw [3,4] (fun t i wr=>∃k:Nat,i=.int .i64 (k:Nat)∧k≤pn∧t=ah (σ.gm k)∧Hid (Q w wr)) (fun _ i _=>pn-(intOf i).toNat)
 case atStart=>exact⟨0,rfl,L0 _,rfl,Hd (Q.refl _)⟩
 case round =>
  obtain⟨k,rfl,hk,rfl,HQ⟩:=hrel;have fT:=FE.out k U;have aC:=CQ.out k;by_cases ay:k<pn
  ·have bq:(k:Int)<(pn:Int):=U
   have zC:=fun (W:World) (q:Q w W)=>rJ.out W q (63+k) (by have:=sO.out;omega)
   have pV:=HG.out (63+k) (by have:=sO.out;omega)
   have HDK:=Hd zC;have aX:=Hd aC;clear zC aC;generalize σ.get (63+k)=gk at *;generalize σ.gm k=bk at *;go_wp2_with fail;refine(iV.out _ HQ.out).mono ?_;rintro e w1 ⟨rfl,rfl⟩;go_wp2_with fail;refine(wP.out _).mono ?_;rintro e w1 ⟨rfl,rfl⟩;go_wp2_with fail;refine(HDK.out _ HQ.out).mono ?_;rintro e w2 ⟨rfl,q2⟩;have bJ:=Hd (HQ.out.trans q2);clear q2;go_wp2_with fail;rw[bytes_append];go_roundw;case rel=>exact⟨k+1,by go_num,U,by rw[aX.out],bJ⟩
   case measure=>simp[intOf];omega
  ·have bq:¬(k:Int)<(pn:Int):=U
   obtain rfl:k=pn:=U;clear aC;go_wp2_with fail;refine(iV.out _ HQ.out).mono ?_;rintro e w1 ⟨rfl,rfl⟩;go_wp2_with fail;refine(wP.out _).mono ?_;rintro e w1 ⟨rfl,rfl⟩;go_wp2_with fail;go_ret;exact⟨rfl,HQ.out⟩
end
end
section
open Go.RowKit
theorem qt:(prog.info? 3).map (fun i=>(i.zero,i.size,i.bytes))=some (some (.int .i64 0),1,8):=by kernel_rfl
def tB(s:Bytes)(w:World)(e:Ending)(w':World):Prop :=
 (dV s=none∧e=.returned (.tuple #[.int .u64 0,.slice none 0 0,.bool false])∧Q w w') ∨
 ∃seq at_ v,dV s=some (seq,at_)∧at_.length≤48∧e=.returned (.tuple #[.int .u64 (seq:Nat),v,.bool true])∧w'.ownsRow w.heap.size 3 1 v at_.length (uI at_)∧Q w w'
theorem Vh(s:Bytes)(hl:s.length=256)(w:World):
  Calls prog 274 #[ah s] w fun e w'=>tB s w e w':=by
 have x1:({ data:=s.toArray }:ByteArray).extract 0 4=⟨(s.take 4).toArray⟩:=uD s 4;have x2:({ data:=s.toArray }:ByteArray).extract 252 s.length=⟨(s.drop 252).toArray⟩:=fI s 252;have i4:(4:Int)≤(s.length:Int):=U;have i8:(8:Int)≤(s.length:Int):=U;have i12:(12:Int)≤(s.length:Int):=U;have i252:(252:Int)≤(s.length:Int):=U;have n1:((s.length:Int) != 256)=false:=by rw[bne,MY.2 U];rfl
 have n2:((s.length:Int)==256)=true:=MY.2 U;have kF:=Rn s;have x3:({ data:=s.toArray }:ByteArray).extract 4 s.length=⟨(s.drop 4).toArray⟩:=fI s 4;have x4:({ data:=s.toArray }:ByteArray).extract 8 s.length=⟨(s.drop 8).toArray⟩:=fI s 8;have x5:({ data:=s.toArray }:ByteArray).extract 12 s.length=⟨(s.drop 12).toArray⟩:=fI s 12;have c4:=fun (W:World)=>l9 (s.drop 4) W (by rw[L5];omega) (by rw[L5];omega)
 have c8:=fun (W:World)=>l9 (s.drop 8) W (by rw[L5];omega) (by rw[L5];omega)
 have c12:=fun (W:World)=>l9 (s.drop 12) W (by rw[L5];omega) (by rw[L5];omega)
 have ck:=fun (k:Nat) (hk:k<48) (W:World)=>l9 (s.drop (16+4*k)) W (by rw[L5];omega) (by rw[L5];omega)
 have xk:=fun (k:Nat)=>fI s k
 have bZ:∀i (hi:i<s.length),((({ data:=s.toArray }:ByteArray)[i]'hi).toNat:Int)=(bA s i:Nat):=fun i hi=>yO s i hi
 have HL:=Hd hl;have HM1:=Hd kF;have C4:=Hd c4;have C8:=Hd c8;have C12:=Hd c12;have CK:=Hd ck;have XK:=Hd xk;obtain⟨i1,qG,wH,tN,hy2⟩:=info_parts qt;clear hl kF c4 c8 c12 ck xk bZ;by_cases hA:s.take 4=[67,68,88,84];case neg =>
  have eA:(s.take 4==[67,68,88,84])=false:=Γ.2 hA;have bI:=HM1.out (fun h=>hA h.2.1)
  have dY:=Hd bI;clear bI hA;go_enter func274,ntmps274;go_wp2_with fail;go_ret3;exact .inl ⟨dY.out,rfl,Q.refl _⟩
 have eA:(s.take 4==[67,68,88,84])=true:=MY.2 hA;by_cases hB:s.drop 252=[67,68,88,69];case neg =>
  have eB:(s.drop 252==[67,68,88,69])=false:=Γ.2 hB;have bI:=HM1.out (fun h=>hB h.2.2)
  have dY:=Hd bI;clear bI hA hB;go_enter func274,ntmps274;go_wp2_with fail;go_ret3;exact .inl ⟨dY.out,rfl,Q.refl _⟩
 have eB:(s.drop 252==[67,68,88,69])=true:=MY.2 hB;have HA:=Hd hA;have HB:=Hd hB;have uS:=XW s;have ES:=XY s;have acf:=Vg s HL.out;have vI:=Vf s HL.out hA hB;have u1:=eU (s.drop 4);have u2:=eU (s.drop 8);have u3:=eU (s.drop 12);have ai1:=Hd uS;have ai2:=Hd ES;have afK:=Hd acf;have MB:=Hd vI;clear hA hB uS ES acf vI;generalize aM (s.drop 4)=v4 at *;generalize aM (s.drop 8)=v8 at *;generalize aM (s.drop 12)=n at *;go_enter func274,ntmps274;go_wp2_with fail;refine(C4.out _).mono ?_;rintro e w1 ⟨rfl,q1⟩;go_wp2_with fail;refine(C8.out _).mono ?_;rintro e w2 ⟨rfl,q2⟩;go_wp2_with fail;refine(C12.out _).mono ?_;rintro e w3 ⟨rfl,q3⟩;have fu:=Hd (q1.trans (q2.trans q3));clear q1 q2 q3;by_cases hn:1≤n∧n≤48;case neg =>
  have bI:=ai1.out hn;have dY:=Hd bI;clear bI;by_cases h1:n<1
  ·have e1:(n:Int)<1:=U
   clear hn h1;go_wp2_with fail;go_ret3;exact .inl ⟨dY.out,rfl,fu.out⟩
  ·have e1:¬(n:Int)<1:=U
   have e2:(48:Int)<(n:Int):=U;clear hn h1;go_wp2_with fail;go_ret3;exact .inl ⟨dY.out,rfl,fu.out⟩
 obtain⟨qM,kV⟩:=hn;have e1:¬(n:Int)<1:=U;have e2:¬(48:Int)<(n:Int):=U;go_wp2_with fail;go_loopw [14,15] (fun v i wr=>∃k:Nat,i=.int .i64 (k:Nat)∧k≤n∧Hid (wr.ownsRow w3.heap.size 3 1 v k (uI (xC s k)))∧Hid (Q w3 wr)∧Hid (∀x,x<k→iz s x<4096)) (fun _ i _=>n-(intOf i).toNat)
 case atStart=>exact⟨0,rfl,L0 _,World.ownsRow_nil _ _ _ _,Q.refl _,Hd (fun x hx=>U)⟩
 case round =>
  obtain⟨k,rfl,hk,HOW,HQ,HBN⟩:=hrel;by_cases ay:k<n
  ·have bq:(k:Int)<(n:Int):=U
   have hc:=CK.out k U;have hx:=XK.out (16+4*k);have qN:((16:Int)+4*(k:Int)).toNat=16+4*k:=U;have qP:(16:Int)+4*(k:Int)≤(s.length:Int):=by have:=HL.out;omega
   have aC:=XV s k;have wI:=GH s k;have hnv:aM (s.drop (16+4*k))=iz s k:=rfl;have ai3:=eU (s.drop (16+4*k));rw[hnv] at ai3;rw[hnv] at hc;have eu:=ai2.out k ay kV;have HC:=Hd hc;have aX:=Hd aC;have rR:=Hd eu;clear hc aC eu hnv wI;generalize (s.drop (16+4*k)).drop 4=rk at *;generalize Tw:iz s k=a at *;go_wp2_with fail;refine(HC.out _).mono ?_;rintro e w4 ⟨rfl,q4⟩;have lH:=Hd (HQ.out.trans q4);have Pf:=Hd (ownsRow_below HOW.out q4);clear q4;by_cases hb:a<4096
   ·have eb:¬(4096:Int)≤(a:Int):=U
    have uf:∀x,x<k+1→iz s x<4096:=fun x hx=>by
     by_cases he:x=k
     ·subst he;rw[Tw];exact hb
     ·exact HBN.out x U
    have ai4:=Hd uf;have cO:∀u∈#[Value.int .i64 (a:Nat)].toList,u.oneCell'=true:=by intro u hu;simp at hu;rw[hu];rfl
    have dI:(k+1)*8≤140737488355328:=U;have qJ:=Hd cO;have uY:=Hd dI;have eH:w3.heap.size≤w4.heap.size:=lH.out.size;clear cO dI uf Tw hx qN qP;go_wp2_with (at_builtin;refine bG w4 ρ _ _ 51 ρ w3.heap.size 3 _ i1 (.int .i64 0) 1 8 underlying51 qG wH tN hy2 rfl Z Z _ _ _ ρ Pf.out #[.int .i64 (a:Nat)] ρ rfl qJ.out uY.out eH ?_)
    intro g11 jI w11 iB gu lQ jR iC;have qj:Q w3 w11:=bD lH.out Pf.out gu (Ω _) eH;have gW:w11.ownsRow w3.heap.size 3 1 (.slice (some ⟨g11,0,none⟩) (k+1) jI) (k+1) (uI (xC s (k+1))):=by
     rw[aX.out,show uI (xC s k++[a])=uI (xC s k)++[.int .i64 (a:Nat)] by simp[uI]];exact iB
    have oz:=Hd qj;have qW:=Hd gW;clear iB gu lQ jR iC gW qj;go_wp2_with fail;go_roundw;case rel=>exact⟨k+1,by go_num,U,qW,oz,ai4⟩
    case measure=>simp[intOf];omega
   ·have eb:(4096:Int)≤(a:Int):=U
    have bI:=rR.out hb;have dY:=Hd bI;clear bI hb Tw;go_wp2_with fail;go_ret3;exact .inl ⟨dY.out,rfl,fu.out.trans lH.out⟩
  ·have bq:¬(k:Int)<(n:Int):=U
   obtain rfl:k=n:=U;have kS:∀i,16+4*k≤i→i<248→bA s i≠0→dV s=none:=fun i h1 h2 h3=>afK.out kV i h1 h2 h3
   have xO:=Hd kS;clear kS;go_wp2_with fail;go_loopw [19] (fun v wr2=>∃i:Nat,v=.int .i64 (i:Nat)∧16+4*k≤i∧i≤248∧Hid (wr=wr2)∧Hid (∀x,16+4*k≤x→x<i→bA s x=0)) (fun v _=>248-(intOf v).toNat)
   case atStart=>exact⟨16+4*k,by go_num,Ω _,U,Hd rfl,Hd (fun x h1 h2=>U)⟩
   case round =>
    obtain⟨i,rfl,ai5,zq,HW,HZ⟩:=hrel;obtain rfl:=HW.out;by_cases nX:i<248
    ·have Dw:(i:Int)<248:=U
     have Cm:i<s.length:=by have:=HL.out;omega
     have am0:(i:Int)<(s.length:Int):=U;have iT:=yO s i Cm;by_cases hz:bA s i=0
     ·have ez:(((bA s i:Nat):Int)==0)=true:=MY.2 U
      have ez2:(((bA s i:Nat):Int) != 0)=false:=by rw[bne,ez];rfl
      have hzn:∀x,16+4*k≤x→x<i+1→bA s x=0:=fun x h1 h2=>by
       by_cases he:x=i
       ·rw[he];exact hz
       ·exact HZ.out x h1 U
      have Zj:=Hd hzn;clear hzn hz;go_wp2_with fail;go_roundw;case rel=>exact⟨i+1,by go_num,U,U,Hd (by first|rfl|trivial),Zj⟩
      case measure=>simp[intOf];omega
     ·have ez:(((bA s i:Nat):Int)==0)=false:=Γ.2 U
      have ez2:(((bA s i:Nat):Int) != 0)=true:=by rw[bne,ez];rfl
      have bI:=xO.out i ai5 nX hz;have dY:=Hd bI;clear bI hz;go_wp2_with fail;go_ret3;exact .inl ⟨dY.out,rfl,fu.out.trans HQ.out⟩
    ·have Dw:¬(i:Int)<248:=U
     obtain rfl:i=248:=U;have pQ:=MB.out qM kV HBN.out HZ.out;have HGD:=Hd pQ;have dP:=gT (base':=w.heap.size) HOW.out fu.out.size;have lu:=Hd dP;have Yq:(v8:Int)*4294967296+(v4:Int)=((v8*4294967296+v4:Nat):Int):=U;have ai6:=Hd Yq;clear pQ dP Yq;go_wp2_with fail;go_ret3;exact .inr ⟨_,_,_,HGD.out,by rw[GH];exact kV,by rw[←ai6.out];rfl,by rw[GH];exact lu.out,fu.out.trans HQ.out⟩
theorem Q.turned'{A B C:World}{own:Nat→Prop}(q:Q A B)(t:ae own B C)(ho:∀k,own k→A.heap.size≤k):Q A C :=
 ⟨t.os.trans q.os,t.tape.trans q.tape,t.output.trans q.output,LS q.size t.size,fun k hk=>(t.block k (Ψ hk q.size) (fun e=>by have:=ho k e;omega)).trans (q.block k hk)⟩
theorem AE(w:World)(e:TypeId)(size:Nat)(cs:Array Value)(h:cs.size=size)(hs:size≤1000):(w.alloc (.cells cs e)).ownsRow w.heap.size e size (.slice (some ⟨w.heap.size,0,none⟩) 1 1) 1 cs.toList :=
 ⟨by simp[h],.inr ⟨w.heap.size,1,cs,rfl,Ω _,heap_alloc_new _ _,by simp[h],by unfold maxLen;omega,by simpa using h,by simpa using Mp (l:=cs.toList) (i:=size) (by simp[h])⟩⟩
def sG(ws:List WrL)(k:Nat):Bytes:=((ws.take k).map (·.2)).flatten
theorem LA(ws:List WrL)(k:Nat)(h:k<ws.length):sG ws (k+1)=sG ws k++ws[k].2:=by
 unfold sG;rw[Mb h,N5,Tl];simp
theorem Oj(ws:List WrL)(k:Nat)(hw:∀x∈ws,x.2.length=256)(h:k≤ws.length):(sG ws k).length=256*k:=by
 induction k with
 | zero=>rfl
 | succ k ih=>rw[LA ws k U,Δ,ih U,hw _ (LO _)];omega
def yS(seq:Nat)(ws:List WrL)(k:Nat):List Bytes:=bK seq ws::(ws.take k).map (·.2)
theorem X4(seq:Nat)(ws:List WrL)(k:Nat)(h:k<ws.length):yS seq ws (k+1)=yS seq ws k++[ws[k].2]:=by
 unfold yS;rw[Mb h,N5];rfl
theorem tE(w:World)(seq:Nat)(hs:seq<18446744073709551616)(lv:Value)(ws:List WrL)(hl:Sl w lv ws.length 2 (aN ws))(hw:sS ws):
  Calls prog 177 #[.int .u64 (seq:Nat),lv] w fun e w'=>∃v,e=.returned (.tuple #[v,.int .i64 0])∧w'.ownsRow w.heap.size 9 1 v (ws.length+1) ((jG seq ws).map ah)∧Q w w':=by
 obtain⟨w1,w2,w3⟩:=hw;have hhd:=fun (W:World) (q:Q w W)=>vh W seq hs lv ws (hl.stays q) w2 (fun x hx=>(w3 x hx).1)
 obtain⟨la,lc,rfl,lX⟩:=hl.value;have aP:∀k (hk:k<ws.length),∃lb lo,la=some ⟨lb,lo,none⟩∧w.cell? ⟨lb,lo+k*2,none⟩=some (.int .i64 (ws[k].1:Nat))∧w.cell? ⟨lb,lo+k*2+1,none⟩=some (ah ws[k].2)∧ws[k].1<4096∧ws[k].2.length=256:=fun k hk=>by
  obtain⟨lb,lo,h1,h4⟩:=lX U;exact⟨lb,lo,h1,h4 _ _ (fQ ws k hk).1,by have:=h4 _ _ (fQ ws k hk).2;rwa [←Ps] at this,w3 _ (LO hk)⟩
 have cf:=fun (v:Nat) (hv:v<4294967296) (W:World)=>ru v W hv
 have cc:=fun (s:Bytes) (hs:s.length≤1000000) (W:World)=>EJ s W U
 have gV:=Oj ws;have hdata:=fun k hk=>Oj ws k (fun x hx=>(w3 x hx).2) hk
 have dZ:=qd seq ws w2;have aeW:=yA (jo seq ws++sG ws ws.length);have fV:bK seq ws=jo seq ws++(aB (fU (jo seq ws++sG ws ws.length))++du):=by unfold bK sG En;rw[M1]
 have bW:jG seq ws=yS seq ws ws.length:=by unfold jG yS;rw[M1]
 obtain⟨i1,qG,wH,tN,hy2⟩:=info_parts NM;have HHD:=Hd hhd;have HC:=Hd aP;have CF:=Hd cf;have CC:=Hd cc;have HDT:=Hd hdata;have kY:=Hd fV;have zJ:=Hd bW;have ai8:=Hd aeW;clear hhd aP cf cc lX hl hdata fV bW w3 hs aeW gV;have e0:((ws.length:Int)==0)=false:=Γ.2 U;have e1:¬(48:Int)<(ws.length:Int):=U;go_enter func177,ntmps177;go_wp2_with fail;go_loopw [6,7] (fun tv v wr=>∃k:Nat,v=.int .i64 (k:Nat)∧k≤ws.length∧tv=ah (sG ws k)∧Hid (w=wr)) (fun _ v _=>ws.length-(intOf v).toNat)
 case atStart=>exact⟨0,rfl,L0 _,rfl,Hd rfl⟩
 case round =>
  obtain⟨k,rfl,hk,rfl,HQ⟩:=hrel;have zC:=HDT.out k hk;by_cases ay:k<ws.length
  ·have bq:(k:Int)<(ws.length:Int):=U
   obtain⟨lb,lo,rfl,x1,x2,sJ,mh⟩:=HC.out k ay;obtain rfl:=HQ.out;have aC:=LA ws k ay;have aX:=Hd aC;clear aC;generalize ws[k].1=bk at *;generalize ai9:ws[k].2=dk at *;have Ac:((dk.length:Int) != 256)=false:=by rw[bne,MY.2 U];rfl
   have am1:(!((dk.length:Int)==256))=false:=by rw[MY.2 U];rfl
   have eT:¬(bk:Int)<0:=U;have jM:¬(4096:Int)≤(bk:Int):=U;have mG:(sG ws k).length≤100000:=U;have fF:dk.length≤1000:=U;clear zC mh ai9;generalize sG ws k=da at *;go_wp2_with fail;go_roundw;case rel=>exact⟨k+1,by go_num,U,by rw[aX.out];simp only[bytes_append],Hd (by first|rfl|trivial)⟩
   case measure=>simp[intOf];omega
  ·have bq:¬(k:Int)<(ws.length:Int):=U
   obtain rfl:k=ws.length:=U;obtain rfl:=HQ.out;have mG:(sG ws ws.length).length≤100000:=U;have nL:(jo seq ws).length≤1000:=U;have bL:(jo seq ws++sG ws ws.length).length≤1000000:=by rw[Δ];omega
   have kR:=CC.out _ bL;have FQ:=CF.out _ ai8.out;have LV:=aH (fU (jo seq ws++sG ws ws.length));clear zC bL;generalize sG ws ws.length=da at *;generalize jo seq ws=bd at *;generalize fU (bd++da)=cr at *;generalize aB cr=fx at *;have Cv:=Hd kR;have Z8:=Hd FQ;clear kR FQ;go_wp2_with fail;refine(HHD.out _ (Q.refl _)).mono ?_;rintro e w4 ⟨rfl,q4⟩;have lH:=Hd q4;clear q4;go_wp2_with fail;rw[bytes_append];refine(Cv.out _).mono ?_;rintro e w5 ⟨rfl,rfl⟩;go_wp2_with fail;refine(Z8.out _).mono ?_;rintro e w6 ⟨rfl,q6⟩;have lG:=Hd (lH.out.trans q6);clear q6;go_upto_region 14 with fail;have zy:(#[67,68,88,69]:Array UInt8)=du.toArray:=rfl;simp only[zy,bytes_append];have rD:bd++fx++du=bK seq ws:=by rw[kY.out,Mm]
   rw[rD];have lT:yS seq ws 0=[bK seq ws]:=by unfold yS;simp
   generalize bK seq ws=hd at *;have zU:=AE w6 9 1 #[ah hd] rfl Z;have wK:Q w (w6.alloc (.cells #[ah hd] 9)):=lG.out.trans (Q.alloc _ _);have hz7:w6.heap.size≤(w6.alloc (.cells #[ah hd] 9)).heap.size:=κ;generalize w6.alloc (.cells #[ah hd] 9)=w7 at *;have dP:w7.ownsRow w6.heap.size 9 1 (.slice (some ⟨w6.heap.size,0,none⟩) 1 1) (0+1) ((yS seq ws 0).map ah):=by rw[lT];exact zU
   have lu:=Hd dP;have lJ:=Hd wK;have HZ7:=Hd hz7;clear zU dP wK lT rD zy hz7;have e4:ws.length=ws.length:=rfl;clear e4 mG nL LV dZ;go_wp2_with fail;go_loopw [9,10] (fun v i wr=>∃k:Nat,i=.int .i64 (k:Nat)∧k≤ws.length∧Hid (wr.ownsRow w6.heap.size 9 1 v (k+1) ((yS seq ws k).map ah))∧Hid (Q w wr)∧Hid (w6.heap.size≤wr.heap.size)) (fun _ i _=>ws.length-(intOf i).toNat)
   case atStart=>exact⟨0,rfl,L0 _,lu,lJ,HZ7⟩
   case round =>
    obtain⟨k,rfl,hk,HOW,bJ,Zj⟩:=hrel;by_cases ay:k<ws.length
    ·have bq:(k:Int)<(ws.length:Int):=U
     obtain⟨lb,lo,rfl,-,x2,-,-⟩:=HC.out k ay;have y2:=aI bJ.out x2;have aC:=X4 seq ws k ay;have aX:=Hd aC;clear aC x2;generalize ws[k].2=dk at *;have cO:∀u∈#[ah dk].toList,u.oneCell'=true:=by intro u hu;simp at hu;rw[hu];rfl
     have dI:(k+1+1)*16≤140737488355328:=U;have qJ:=Hd cO;have uY:=Hd dI;have eH:w6.heap.size≤wr.heap.size:=Zj.out;clear cO dI;go_wp2_with (at_builtin;refine bG wr ρ _ _ 101 ρ w6.heap.size 9 _ i1 (ah []) 1 16 underlying101 qG wH tN hy2 rfl Z Z _ _ _ ρ HOW.out #[ah dk] ρ rfl qJ.out uY.out eH ?_)
     intro g11 jI w11 iB gu lQ jR iC;have qj:Q w w11:=Q.turned' bJ.out (own:=fun g=>w6.heap.size≤g) ⟨gu.os,gu.tape,gu.output,gu.size,fun g h1 h2=>gu.block g h1 (fun e=>h2 (HOW.out.lt g e.symm).1)⟩ (fun g hg=>by have:=lG.out.size;omega)
     have gW:w11.ownsRow w6.heap.size 9 1 (.slice (some ⟨g11,0,none⟩) (k+1+1) jI) (k+1+1) ((yS seq ws (k+1)).map ah):=by
      rw[aX.out,N5];exact iB
     have oz:=Hd qj;have qW:=Hd gW;have aja:=Hd (LS Zj.out gu.size);clear iB gu lQ jR iC gW qj;go_wp2_with fail;go_roundw;case rel=>exact⟨k+1,by go_num,U,qW,oz,aja⟩
     case measure=>simp[intOf];omega
    ·have bq:¬(k:Int)<(ws.length:Int):=U
     obtain rfl:k=ws.length:=U;have dK:=gT (base':=w.heap.size) HOW.out lG.out.size;rw[←zJ.out] at dK;have nT:=Hd dK;clear dK;go_wp2_with fail;go_ret2;exact⟨_,rfl,nT.out,bJ.out⟩
end
end Go.Proofs.YtbkahhebmpehnaaGreatDoor
