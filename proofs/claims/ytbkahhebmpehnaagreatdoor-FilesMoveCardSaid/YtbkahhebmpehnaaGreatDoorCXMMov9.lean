/- Joined texts of one proof: what is needed of Mov9, WMove. -/
import Derived.Test.YtbkahhebmpehnaaGreatDoorCXFilN
import Derived.Test.YtbkahhebmpehnaaGreatDoorCXTabs7
set_option linter.all false
set_option maxRecDepth 100000
set_option maxHeartbeats 8000000
namespace Go.Proofs.YtbkahhebmpehnaaGreatDoor
open Go.Proofs.Tryz
section
section
variable {k n:Nat} {φ:FsL} {C:Nat→Bytes}
theorem cS.read(h:cS k n φ C)(s:Bytes)(m:Nat):φ.cC s 0 m=if isF φ.l s then((cont C (φ.at9 s)).take m,0) else([],10):=by
 obtain⟨⟨fr,hi⟩,_⟩:=h;unfold FsL.cC;rw[hi.find];cases hx:isF φ.l s with
 | false=>simp
 | true =>
  obtain⟨_,_,_,hm⟩:=hi.at hx;rw[η κ,η U,hi.holds hm];rfl
theorem pP(l:List ax)(s:Bytes):(eZ l s).length+(if isF l s then 1 else 0)=l.length:=by
 unfold eZ;cases hx:isF l s with
 | false=>simp
 | true =>
  obtain⟨hk,_⟩:=aaf hx;rw[Φ rfl,Φ rfl,VM hk];omega
theorem cS.move(h:cS k n φ C)(hk:k≤1000000)(s t:Bytes)(m:Nat):∃D,cS (k+1) n (φ.rename s t).1 D ∧
  ((φ.rename s t).2≠0∨s=t→aac D (φ.rename s t).1.l=aac C φ.l∧((φ.cC s 0 m).2=0∨(φ.rename s t).2=10)) ∧
  ((φ.rename s t).2=0→s≠t→(φ.cC s 0 m).2=0∧(φ.rename s t).1.cC t 0 m=φ.cC s 0 m∧((φ.rename s t).1.cC s 0 1).2=10∧(φ.rename s t).1.l.length+(if (φ.cC t 0 m).2=0 then 1 else 0)=φ.l.length):=by
 have hg:=h;obtain⟨⟨fr,hi⟩,hf,hn⟩:=h;have rF:=hi.find s;rw[hg.read s m,hg.read t m];cases hx:isF φ.l s with
 | false =>
  rw[hx] at rF;have e:φ.rename s t=(φ,10):=by
   unfold FsL.rename;rw[Φ (by rw[rF];decide),rF];rfl
  rw[e];exact⟨C,hg.more,fun _=>⟨rfl,.inr rfl⟩,fun hc=>absurd hc κ⟩
 | true =>
  rw[hx] at rF;have e0:φ.dj s=0:=rF;obtain⟨hp,e2,e3,e4⟩:=hi.at hx;unfold FsL.rename;rw[η (by rw[e0];simp),e2]
  by_cases c1:iM t=false
  ·rw[Φ c1]
   exact⟨C,hg.more,fun _=>⟨rfl,.inl rfl⟩,fun hc=>absurd hc κ⟩
  ·rw[η c1]
   by_cases c2:s=t
   ·rw[Φ c2]
    exact⟨C,hg.more,fun _=>⟨rfl,.inl rfl⟩,fun _ hc=>absurd c2 hc⟩
   ·rw[η c2]
    rw[e2] at e3 e4;have hon:=NT hi.good.ok.rise hp;rw[e3] at hon;have JG:∀f,f∈φ.l↔f=φ.l[aA φ.l s]∨f∈φ.l.eraseIdx (aA φ.l s):=fun f=>by rw[(mZ hp).mem_iff,MA]
    obtain⟨l1,l2,l3,l4⟩:=J5 (hi.good.ok.erase (aA φ.l s)) t;have hip:=wh (eZ (φ.l.eraseIdx (aA φ.l s)) t) (φ.l[aA φ.l s].named t);have hm:∀f,f∈jE (eZ (φ.l.eraseIdx (aA φ.l s)) t) (φ.l[aA φ.l s].named t)↔f=φ.l[aA φ.l s].named t∨f∈eZ (φ.l.eraseIdx (aA φ.l s)) t:=fun f=>by rw[hip.mem_iff,MA]
    have hlen:=hip.length_eq;have oP:=pP (φ.l.eraseIdx (aA φ.l s)) t;rw[VM hp] at oP;have V4:isF (φ.l.eraseIdx (aA φ.l s)) t=isF φ.l t:=by
     rw[abR,IC (hi.good.ok.erase _).rise,IC hi.good.ok.rise];constructor
     ·rintro⟨f,hf,G9⟩;exact⟨f,(JG f).2 (.inr hf),G9⟩
     ·rintro⟨f,hf,G9⟩
      rcases (JG f).1 hf with rfl|hf
      ·exact absurd (e3.symm.trans G9) c2
      ·exact⟨f,hf,G9⟩
    rw[V4] at oP;have hy:=Lc hi U _ hp t (by simpa using c1) (by rw[e3];exact c2)
    rcases kw hi hf hn hy with ⟨r0,D,r1,r2,r3⟩|⟨r0,r1,r2,r3⟩
    ·refine⟨D,r1,fun hc=>absurd r0 (hc.resolve_right c2),fun _ _=>⟨rfl,?_,?_,?_⟩⟩
     ·have ht:isF (φ.cq (r9 φ (aA φ.l s) φ.l[aA φ.l s] t)).1.l t=true:=by
       obtain⟨⟨fr',hj⟩,_⟩:=r1;exact(IC hj.good.ok.rise t).2 ⟨_,by rw[r2];exact(hm _).2 (.inl rfl),rfl⟩
      rw[r1.read t m,ht];obtain⟨⟨fr',hj⟩,_⟩:=r1;have pU:=(hj.at_eq (f:=φ.l[aA φ.l s].named t) (by rw[r2];exact(hm _).2 (.inl rfl))).2
      rw[show(φ.l[aA φ.l s].named t).name=t from rfl] at pU
      rw[pU];have:cont D (φ.l[aA φ.l s].named t)=cont C φ.l[aA φ.l s]:=Same.cont (f:=φ.l[aA φ.l s]) r3 e4;rw[this]
     ·have hs:isF (φ.cq (r9 φ (aA φ.l s) φ.l[aA φ.l s] t)).1.l s=false:=by
       refine ab5.2 fun hc=>?_
       obtain⟨⟨fr',hj⟩,_⟩:=r1;obtain⟨f,hf,rF⟩:=(IC hj.good.ok.rise s).1 hc;rw[r2] at hf;rcases (hm f).1 hf with rfl|hf
       ·exact c2 rF.symm
       ·exact hon f (l3 f hf) rF
      have:=r1.read s 1;rw[hs] at this;rw[show(1:Int)=((1:Nat):Int) from rfl,this];rfl
     ·rw[r2,hlen,Θ]
      cases hz:isF φ.l t with
      | false=>rw[hz] at oP;simp at oP ⊢;omega
      | true=>rw[hz] at oP;simp at oP ⊢;omega
    ·refine⟨C,r1,fun _=>⟨by rw[r2],.inl rfl⟩,fun hc=>absurd hc (by rw[r0];decide)⟩
end
end
section
open Go.RowKit
theorem Move_walk(v:Value)(l:List cL)(fs ts:Bytes)(w:World)(hv:Acts9 w v l)(hl:Acts9Wf l)(rF:fs.length≤9223372036854775807)(mR:ts.length≤9223372036854775807):
  Calls prog 5 #[v,ah fs,ah ts] w fun e w'=>e=.returned (.bool true)∧Below w.heap.size w w':=by
 have Ee:=fun (W:World)=>Yj W
 have CO:=fun (W:World) (q:Q w W)=>XL v l W (hv.stays q) hl
 have lF:=fun (W:World)=>Yi W 64 Z
 obtain⟨C0,xQ⟩:=aae 140 Z Z;have sK:=xQ.1;have e64:((64:Nat):Int)=64:=rfl;rw[e64] at lF;obtain⟨va,vc,rfl,aP⟩:=hv.value;have TU:=hl.2;have HSH:=Hd Ee;have TI:=Hd CO;have HBG:=Hd lF;have xW:=Hd aP;have HWF:=Hd TU;have HG0:=Hd sK;have uX:=hl.1;clear Ee CO lF aP TU hv hl xQ sK;generalize st9 140=s0 at *;go_enter func5,ntmps5;go_wp2_with fail;refine(HSH.out _).mono ?_;rintro e w1 ⟨rfl,q1⟩;have Q1:=Hd q1;clear q1;go_wp2_with fail;refine(TI.out _ Q1.out).mono ?_;rintro e w2 ⟨rfl,rfl⟩;cases vk:wD l with
 | false =>
  go_wp2_with fail;go_ret;exact⟨rfl,Q1.out⟩
 | true =>
  obtain⟨anf,sM⟩:=aad vk;have HKE:=Hd sM;clear vk sM TI;by_cases hf1:(100:Int)<(fs.length:Int)
  ·go_wp2_with fail
   go_ret;exact⟨rfl,Q1.out⟩
  by_cases xY:(100:Int)<(ts.length:Int)
  ·go_wp2_with fail
   go_ret;exact⟨rfl,Q1.out⟩
  go_wp2_with fail;refine(HBG.out _).mono ?_;rintro e w3 ⟨wb,fb,b,mb,rfl,h3⟩;have S0:Hid (WW w1 w3 wb fb b s0 (12+3000000000*0)):=Hd h3;clear h3 HBG HSH;go_wp2_with fail;go_loopw [12] (fun i wr=>∃(k:Nat) (φ:FsL) (C:Nat→Bytes),i=.int .i64 (k:Nat)∧k≤l.length∧Hid (WW w1 wr wb fb b φ (12+3000000000*k))∧Hid (cS (k+1) 140 φ C)) (fun i _=>l.length-(intOf i).toNat)
  case atStart=>exact⟨0,s0,C0,rfl,L0 _,S0,HG0⟩
  case round =>
   obtain⟨k,φ,C,rfl,hk,HW,HG⟩:=hrel;by_cases ay:k<l.length
   ·have bq:(k:Int)<(l.length:Int):=U
    have lT:(0:Int)≤(k:Int):=U;obtain⟨g,off,rfl,hc⟩:=xW.out U;obtain⟨kv,x0,x1,x2,x3,x4,x5,x6,VR⟩:=hc k ay;obtain⟨ka,kc,rfl⟩:=VR.len;have FM:=Q1.out.trans HW.out.q;have Cz:=HWF.out _ (LO ay);have qO:=HKE.out _ (LO ay);generalize l[k]=a at *;replace x0:=aj FM x0;replace x1:=aj FM x1;replace x2:=aj FM x2;replace x3:=aj FM x3;replace x4:=aj FM x4;replace x5:=aj FM x5;replace x6:=aj FM x6;have fV:=fun (W:World)=>Ch a.op 11 W Cz.op.1 Cz.op.2 Z Z
    have jV:=fun (h9:a.k<9)=>XO w1 wr wr wb fb b φ _ HW.out (Q.refl wr) (HG.out.ok U) U ka a.keep.length kc a Cz ⟨U,U⟩ 64 h9
    have aC:=fun (h9:a.k<9)=>HG.out.cq U a h9
    have kY:=Hd fV;have xP:=Hd jV;have aX:=Hd aC;clear hc VR FM qO fV jV aC Cz;unfold lj at xP;have iN:a.k=lC a.op 11:=rfl;rw[iN] at xP aX;clear iN;generalize lC a.op 11=pz at *;go_wp2_with fail;refine(kY.out _).mono ?_;rintro e w8 ⟨rfl,rfl⟩;by_cases h9:(pz:Int)<9
    ·obtain⟨D,Bu,_⟩:=aX.out U
     have HD:=Hd (xP.out U);have HD1:=Hd Bu;clear xP aX Bu;generalize fJ a φ=dd at *;generalize zi a φ=tx at *;go_wp2_with fail;refine HD.out.mono ?_;rintro e w9 ⟨rfl,h9',t9⟩;have HY:=Hd (h9'.mono (show 12+3000000000*k+3000000000≤12+3000000000*(k+1) by omega))
     clear h9' t9 HD;go_wp2_with fail;go_roundw;case rel=>exact⟨k+1,_,D,by go_num,U,HY,HD1⟩
     case measure=>simp[intOf];omega
    ·clear xP aX
     have HY:=Hd (HW.out.mono (show 12+3000000000*k≤12+3000000000*(k+1) by omega))
     have HD1:=Hd HG.out.more;go_wp2_with fail;go_roundw;case rel=>exact⟨k+1,φ,C,by go_num,U,HY,HD1⟩
     case measure=>simp[intOf];omega
   ·obtain rfl:k=l.length:=U
    have bq:¬(l.length:Int)<(l.length:Int):=U;have hg:=HG.out;have hI:=hg.ok U;have hd:φ.st.dead=false:=by obtain⟨⟨fr,hi⟩,_⟩:=hg;exact hi.live
    have anQ:φ.l.length≤64:=by obtain⟨⟨fr,hi⟩,_⟩:=hg;exact hi.good.ok.few
    obtain⟨D,gD,hA,hB⟩:=hg.move U fs ts 1073741824;have hID:=gD.ok U;have hdD:(φ.rename fs ts).1.st.dead=false:=by obtain⟨⟨fr,hi⟩,_⟩:=gD;exact hi.live
    obtain⟨s,th,e1⟩:∃s th,φ.cC fs 0 1073741824=(s,th):=⟨_,_,rfl⟩;obtain⟨s2,ot,e2⟩:∃s th,φ.cC ts 0 1073741824=(s,th):=⟨_,_,rfl⟩;obtain⟨ψ,c,e3⟩:∃ψ c,φ.rename fs ts=(ψ,c):=⟨_,_,rfl⟩;rw[show((1073741824:Nat):Int)=1073741824 from rfl,e1,e3] at hA hB
    rw[e2] at hB;rw[e3] at gD hID hdD;simp only[] at hA hB gD hID hdD;have k1:=fun (W:World) K (h:WW w1 W wb fb b φ K) (hK:K≤100000000000000000)=>h.lift (State9_any h.1 hg U hK)
    have k2:=fun (W:World) K (h:WW w1 W wb fb b φ K)=>h.count hI hd
    have k3:=fun (W:World) K (h:WW w1 W wb fb b φ K) (hK:K≤100000000000000000)=>h.lift (h.1.cC hI U fs 0 1073741824 Z e1)
    have k4:=fun (W:World) K (h:WW w1 W wb fb b φ K) (hK:K≤100000000000000000)=>h.lift (h.1.cC hI U ts 0 1073741824 Z e2)
    have k5:=fun (W:World) K (h:WW w1 W wb fb b φ K) (hK:K≤100000000000000000)=>h.lift (h.1.rename hI U fs ts U e3)
    have k6:=fun (W:World) K (h:WW w1 W wb fb b ψ K) (hK:K≤100000000000000000)=>h.lift (State9_any h.1 gD U hK)
    have k7:=fun (W:World) K (h:WW w1 W wb fb b ψ K)=>h.count hID hdD
    have k8:=fun (W:World) K (h:WW w1 W wb fb b ψ K)=>(h.1.whole gD U).mono fun e w' hx=>And.intro hx.1 (h.keep hx.2)
    have k9:=fun (W:World) K t c (h:WW w1 W wb fb b ψ K) (hK:K≤100000000000000000) (e:ψ.cC ts 0 1073741824=(t,c))=>h.lift (h.1.cC hID U ts 0 1073741824 Z e)
    have k10:=fun (W:World) K t c (h:WW w1 W wb fb b ψ K) (hK:K≤100000000000000000) (e:ψ.cC fs 0 1=(t,c))=>h.lift (h.1.cC hID U fs 0 1 Z e)
    have c1:=HW.out.cells.2;have K1:=Hd k1;have K2:=Hd k2;have K3:=Hd k3;have K4:=Hd k4;have K5:=Hd k5;have K6:=Hd k6;have K7:=Hd k7;have K8:=Hd k8;have K9:=Hd k9;have K10:=Hd k10;have HA:=Hd hA;have HB:=Hd hB;clear k1 k2 k3 k4 k5 k6 k7 k8 k9 k10 hA hB hg hI hd gD hID hdD e1 e2 e3 HG xW HWF HKE;generalize aac C φ.l=tc at *;go_wp2_with fail;refine(K1.out _ _ HW.out U).mono ?_;rintro e w8 ⟨rfl,h8⟩;replace c1:=h8.cells.2;have S8:=Hd h8;clear h8 HW K1;go_wp2_with fail;refine(K2.out _ _ S8.out).mono ?_;rintro e w9 ⟨la,lc,rfl,h9⟩;replace c1:=h9.cells.2;have S9:=Hd h9;clear h9 S8 K2;go_wp2_with fail;refine(K3.out _ _ S9.out U).mono ?_;rintro e w10 ⟨rfl,RH⟩;replace c1:=RH.cells.2;have S10:=Hd RH;clear RH S9 K3;go_wp2_with fail;refine(K4.out _ _ S10.out U).mono ?_;rintro e w11 ⟨rfl,ZP⟩;replace c1:=ZP.cells.2;have S11:=Hd ZP;clear ZP S10 K4;go_wp2_with fail;refine(K5.out _ _ S11.out U).mono ?_;rintro e w12 ⟨rfl,OZ⟩;replace c1:=OZ.cells.2;have S12:=Hd OZ;clear OZ S11 K5;by_cases nV:¬c=0∨fs=ts
    ·obtain⟨hA1,hA2⟩:=HA.out nV
     have k6:=K6.out;rw[hA1] at k6;have K6':=Hd k6;have JF:(tc==tc)=true:=V0 tc;clear k6 K6 HA HB K7 K8 K9 K10 hA1;have pQ:(¬c=0∧(c==0)=false)∨(c=0∧(fs==ts)=true):=by
      by_cases hcz:c=0
      ·exact .inr ⟨hcz,by rw[nV.resolve_left (fun h=>h hcz)];exact V0 ts⟩
      ·exact .inl ⟨hcz,SZ hcz⟩
     have Hq:th=0∨(¬th=0∧(th==0)=false∧c=10):=by
      by_cases h:th=0
      ·exact .inl h
      ·exact .inr ⟨h,SZ h,hA2.resolve_left h⟩
     clear hA2 nV;rcases pQ with ⟨cO,dI⟩|⟨rfl,dI⟩;all_goals
      go_wp2_with fail;refine(K6'.out _ _ S12.out U).mono ?_;rintro e w13 ⟨rfl,h13⟩;have S13:=Hd h13;clear h13;rcases Hq with rfl|⟨h1,h2,h3⟩;all_goals
       first
        | (exfalso;omega)
        | ((try subst h3);go_wp2_with fail;go_ret;exact⟨rfl,Q1.out.trans S13.out.q⟩)
    ·obtain⟨hcz,G9⟩:c=0∧¬fs=ts:=by
      by_cases h:c=0
      ·exact⟨h,fun h2=>nV (.inr h2)⟩
      ·exact absurd (.inl h) nV
     subst hcz;obtain⟨rfl,bN,gI,sN⟩:=HB.out rfl G9;have OD:(fs==ts)=false:=SZ G9;obtain⟨s4,t4,e4⟩:∃s th,ψ.cC fs 0 1=(s,th):=⟨_,_,rfl⟩;rw[e4] at gI;simp only[] at gI;subst gI;have k9:=fun W K h hK=>K9.out W K s 0 h hK bN
     have k10:=fun W K h hK=>K10.out W K s4 10 h hK e4
     have K9':=Hd k9;have ags:=Hd k10;have O3:(s==s)=true:=V0 s;clear k9 k10 K9 K10 HA HB bN e4 nV K6;generalize φ.l.length=m1 at *;generalize lD:ψ.l.length=m2 at *;go_wp2_with fail;refine(K9'.out _ _ S12.out U).mono ?_;rintro e w13 ⟨rfl,h13⟩;replace c1:=h13.cells.2;have S13:=Hd h13;clear h13 S12 K9';go_wp2_with fail;refine(ags.out _ _ S13.out U).mono ?_;rintro e w14 ⟨rfl,O0⟩;replace c1:=O0.cells.2;have S14:=Hd O0;clear O0 S13 ags;have L6:ot=0∨(¬ot=0∧(ot==0)=false):=by
      by_cases h:ot=0
      ·exact .inl h
      ·exact .inr ⟨h,SZ h⟩
     rcases L6 with rfl|⟨ho1,DX⟩
     ·rw[Φ rfl] at sN
      have e5:IntKind.i64.wrap ((m1:Int)-1)=(m2:Int):=by rw[IntWalk.i64_in _ U];omega
      go_wp2_with fail;refine(K7.out _ _ S14.out).mono ?_;rintro e w15 ⟨la2,lc2,rfl,SH⟩;replace c1:=SH.cells.2;have S15:=Hd SH;clear SH;go_wp2_with fail;refine(K8.out _ _ S15.out).mono ?_;rintro e w16 ⟨rfl,JC⟩;have S16:=Hd JC;clear JC;go_wp2_with fail;go_ret;exact⟨rfl,Q1.out.trans S16.out.q⟩
     ·rw[η ho1] at sN
      obtain rfl:m2=m1:=U;go_wp2_with fail;refine(K7.out _ _ S14.out).mono ?_;rintro e w15 ⟨la2,lc2,rfl,SH⟩;replace c1:=SH.cells.2;have S15:=Hd SH;clear SH;go_wp2_with fail;refine(K8.out _ _ S15.out).mono ?_;rintro e w16 ⟨rfl,JC⟩;have S16:=Hd JC;clear JC;go_wp2_with fail;go_ret;exact⟨rfl,Q1.out.trans S16.out.q⟩
end
end Go.Proofs.YtbkahhebmpehnaaGreatDoor
