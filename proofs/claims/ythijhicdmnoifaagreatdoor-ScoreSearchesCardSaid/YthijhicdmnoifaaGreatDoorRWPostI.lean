/- Joined texts of one proof. -/
import Derived.Test.YthijhicdmnoifaaGreatDoorRWGather
set_option linter.unusedSimpArgs false
set_option linter.unusedVariables false
set_option linter.unnecessarySimpa false
set_option maxRecDepth 100000
set_option maxHeartbeats 8000000
namespace Go.Proofs.YthijhicdmnoifaaGreatDoor
section
open Go.RowKit
attribute [local go_sem] Oper.semAt_some
theorem aaD(R:Nat)(n last:Int)(w:World):
  Calls Tryz.prog 180 #[.pointer (some ⟨R,0,none⟩),.int .i64 n,.int .i64 last] w fun e w' =>
   e=.returned (.func (.func 205) #[] #[.pointer (some ⟨w.heap.size+1,0,none⟩),.pointer (some ⟨w.heap.size,0,none⟩),.pointer (some ⟨w.heap.size+2,0,none⟩)]) ∧
   w'=((w.alloc (.cells #[.pointer (some ⟨R,0,none⟩)] 274)).alloc (.cells #[.int .i64 n] 3)).alloc (.cells #[.int .i64 last] 3):=by
 go_enter Tryz.func180,Tryz.ntmps180;go_wp2_with fail;go_ret;exact⟨rfl,rfl⟩
def encP(lo:Nat)(x:aZ)(W:World)(args:Array Value):Prop:=∃v,args=#[.agg #[.int .i64 x.1,v]]∧W.ownsRow lo 3 1 v x.2.length (Iy x.2)
theorem Boxed.ne_blk{W:World}{B k:Nat}{t t':TypeId}{v:Value}{cs:Array Value}(h:Boxed W B t v)(hb:Blk W k t' cs)(aF:t≠t'):B≠k:=by
 intro e;subst e;have:=(show W.heap[B]?=_ from h).symm.trans hb
 injection this with h3;injection h3 with _ h3 _;exact aF h3
theorem Boxed.ne_box{W:World}{B B':Nat}{t t':TypeId}{v v':Value}(h:Boxed W B t v)(hb:Boxed W B' t' v')(aF:t≠t'):B≠B':=by
 intro e;subst e;have:=(show W.heap[B]?=_ from h).symm.trans hb
 injection this with h3;injection h3 with _ h3 _;exact aF h3
theorem PIter_seq(R Bn Br Bl:Nat)(l:List aZ)(last:Int)(s rest:Bytes)(n₀:Nat)(W:World)(hn:Boxed W Bn 3 (.int .i64 (l.length:Nat)))(hr:Boxed W Br 274 (.pointer (some ⟨R,0,none⟩)))(hl:Boxed W Bl 3 (.int .i64 last))(hR:Rdr W R s)
  (hs:s=jm last l++rest) (bY:s.length≤1000000000000) (h0 : -1≤last) (h5:last<500) (hp:aV last l=true) (sO:l.length≤1000) (aF:Bl≠Bn) :
  SeqP Tryz.prog 205 #[.pointer (some ⟨Bn,0,none⟩),.pointer (some ⟨Br,0,none⟩),.pointer (some ⟨Bl,0,none⟩)] (encP W.heap.size) (fun k=>k=R∨k=Bl) (fun k=>k=R∨k=Bl∨k=Bn∨k=Br) n₀ l W:=by
 intro n li J Jx hJ Ug hY hj0;refine callsIn_of_wp Tryz.func205 rfl trivial ?_ rfl;simp only[Tryz.ntmps205,List.size_toArray,List.length_cons,List.length_nil,Nat.reduceAdd,Nat.reduceSub,Array.replicate_succ,Array.replicate_zero,List.push_toArray,List.append_toArray,List.nil_append,List.cons_append];have d1:Bn≠R:=Boxed.ne_blk hn hR (by decide)
 have d2:Bl≠R:=Boxed.ne_blk hl hR (by decide)
 have d3:Br≠R:=Boxed.ne_blk hr hR (by decide)
 have d4:Br≠Bl:=Boxed.ne_box hr hl (by decide)
 have c0:=hn.cell;have HN:=Hd hn;have HR:=Hd hr;have HL:=Hd hl;have Mk:=Hd hR;have HS:=Hd hs;have HP:=Hd hp;have HY:=Hd hY;have Tx:=Hd hj0;have HJ:=Hd hJ;have QE:=Hd Ug;clear hn hr hl hR hs hp hY hj0 hJ Ug;gi_wp2;gi_loopw [7] (fun i wr=>∃(k:Nat) (la:Int) (s':Bytes),k≤l.length∧i=.int .i64 k∧Hid (s'=jm la (l.drop k)++rest)∧Hid (aV la (l.drop k)=true) ∧ -1≤la∧la<500∧s'.length≤1000000000000 ∧
  Hid (Boxed wr Bn 3 (.int .i64 (l.length:Nat)))∧Hid (Boxed wr Br 274 (.pointer (some ⟨R,0,none⟩)))∧Hid (Boxed wr Bl 3 (.int .i64 la))∧Hid (Rdr wr R s')∧Hid (J k wr)∧W.heap.size≤wr.heap.size) (fun i _=>l.length-(intOf i).toNat)
 case atStart=>exact⟨0,last,s,by omega,rfl,HS.out,HP.out,h0,h5,bY,HN.out,HR.out,HL.out,Mk.out,Tx.out,Nat.le_refl _⟩
 case round =>
  obtain⟨k,la,s',hk,rfl,HS,HP,atm,axY,atn,HN,HR,HL,Mk,HJK,aY⟩:=hrel;obtain⟨wo,rfl⟩:∃wo:World,wo=wr:=⟨_,rfl⟩;by_cases hlt:k<l.length
  ·have sU:=HP.out
   rw[List.drop_eq_getElem_cons hlt] at sU;obtain⟨p1,p2,p3,p4,p5⟩:=qX sU;have aI:s'=qM l[k] la++(jm l[k].1 (l.drop (k+1))++rest):=by
    rw[HS.out,List.drop_eq_getElem_cons hlt,jm,List.append_assoc]
   obtain⟨s3,kP⟩:∃s3,s3=jm l[k].1 (l.drop (k+1))++rest:=⟨_,rfl⟩;rw[←kP] at aI;have lC:s3.length≤1000000000000:=by have:=congrArg List.length aI;rw[List.length_append] at this;omega
   have c:=PPost_ok R l[k] la s' s3 wo Mk.out atn aI atm p1 p2 p4;have Mf:∀args W1,J k W1→encP W.heap.size l[k] W1 args→_:=fun args W1 h1 h2=>HY.out k hlt W1 args h1 h2
   have C:=Hd c;have oU:=Hd kP;have HP5:=Hd p5;have HYK:=Hd Mf;clear c kP p5 aI sU p3 p4 Mf;generalize l[k]=p at *;have l0:=HL.out.cell;have l1:=HR.out.cell;have l2:=HN.out.cell;gi_wp2_with fail;refine⟨trivial,fun h=>(by cases h),(callsIn_wide.2 C.out).mono ?_⟩
   rintro e w2 ⟨v,rfl,ho,aop,t2⟩;obtain⟨a,cap,rfl,lT⟩:=aT ho;have axZ:R<wo.heap.size:=(Mk.out:Blk wo R _ _).lt;have hBl:Bl<wo.heap.size:=HL.out.lt;have n2:Boxed w2 Bn 3 (.int .i64 (l.length:Nat)):=t2.get HN.out d1;have r2:Boxed w2 Br 274 (.pointer (some ⟨R,0,none⟩)):=t2.get HR.out d3;have l2':Boxed w2 Bl 3 (.int .i64 la):=t2.get HL.out d2;have j2:J k w2:=HJ.out _ _ _ HJK.out (t2.itk.mono (fun _ h=>.inl h) (Nat.le_refl _))
   have s2':=t2.size;have tX:=Q.alloc w2 (.cells #[.int .i64 p.1,.slice a p.2.length cap] 201);have m0:=Blk.new w2 201 #[.int .i64 p.1,.slice a p.2.length cap];have o3:=ownsRow_below ho tX;have n3:Boxed _ Bn 3 (.int .i64 (l.length:Nat)):=aB tX n2;have r3:Boxed _ Br 274 (.pointer (some ⟨R,0,none⟩)):=aB tX r2;have l3:Boxed _ Bl 3 (.int .i64 la):=aB tX l2';have rd3:=aop.stays tX;have j3:=HJ.out _ _ _ j2 (Itk.of_q tX);have ml:w2.heap.size≠Bl:=by omega
   have lc:=l3.cell;have lf:=l3.frozen;obtain⟨mc0,mc1,_⟩:=m0.c2;have Oq:W.heap.size≤(w2.alloc (.cells #[.int .i64 p.1,.slice a p.2.length cap] 201)).heap.size:=by simp;omega
   have rc:=r3.cell;obtain⟨q0,q1,_⟩:=Blk.c2 rd3;have dRB:R≠Bl:=fun e=>d2 e.symm
   have t4:Turn (fun k=>k=R∨k=Bl) (w2.alloc (.cells #[.int .i64 p.1,.slice a p.2.length cap] 201)) ((w2.alloc (.cells #[.int .i64 p.1,.slice a p.2.length cap] 201)).setCell ⟨Bl,0,none⟩ (.int .i64 p.1)):=(Turn.refl _ _).setCell (.inl (.inr rfl)) _
   have j4:=HJ.out _ _ _ j3 t4.itk;have n4:Boxed _ Bn 3 (.int .i64 (l.length:Nat)):=Blk.other n3 ⟨Bl,0,none⟩ (.int .i64 p.1) (fun e=>aF e.symm)
   have r4:Boxed _ Br 274 (.pointer (some ⟨R,0,none⟩)):=Blk.other r3 ⟨Bl,0,none⟩ (.int .i64 p.1) d4;have l4:Boxed _ Bl 3 (.int .i64 p.1):=l3.set (.int .i64 p.1);have rd4:Rdr _ R s3:=Blk.other rd3 ⟨Bl,0,none⟩ (.int .i64 p.1) dRB;have o4:=dO (ownsRow_setCell_below o3 (a:=⟨Bl,0,none⟩) (by simpa using hBl) (.int .i64 p.1)) aY
   have Yx:W.heap.size≤((w2.alloc (.cells #[.int .i64 p.1,.slice a p.2.length cap] 201)).setCell ⟨Bl,0,none⟩ (.int .i64 p.1)).heap.size:=by simp;omega
   have hyy:=HYK.out #[Value.agg #[.int .i64 p.1,.slice a p.2.length cap]] _ j4 ⟨_,rfl,o4⟩ (fun b hb=>by
    rcases hb with rfl|rfl|rfl|rfl
    ·exact(rd4:Blk _ _ _ _).lt
    ·exact l4.lt
    ·exact n4.lt
    ·exact r4.lt)
   obtain⟨fn,tmps,assign,body,hy,Nu⟩:=hyy;have HYR:=Hd Nu;have Xd:=Hd n4;have nu:=Hd r4;have HL4:=Hd l4;have aos:=Hd rd4;clear ho aop t2 n2 r2 l2' j2 m0 o3 n3 r3 l3 rd3 j3 tX t4 j4 n4 r4 l4 rd4 o4 Nu HN HR HL Mk HJK C HYK;gi_wp2_with fail;refine⟨fun h=>(by cases h),(HYR.out _).mono ?_⟩
   rintro e W5 (⟨rfl,CU,vZ⟩|⟨rfl,ads,_⟩)
   ·have n5:Boxed W5 Bn 3 (.int .i64 (l.length:Nat)):=(vZ.own Bn (.inr (.inr (.inl rfl))) Xd.out.lt).trans Xd.out
    have r5:Boxed W5 Br 274 (.pointer (some ⟨R,0,none⟩)):=(vZ.own Br (.inr (.inr (.inr rfl))) nu.out.lt).trans nu.out;have l5:Boxed W5 Bl 3 (.int .i64 p.1):=(vZ.own Bl (.inr (.inl rfl)) HL4.out.lt).trans HL4.out;have rd5:Rdr W5 R s3:=(vZ.own R (.inl rfl) (aos.out:Blk _ _ _ _).lt).trans aos.out;have Nc:=Nat.le_trans Yx vZ.below.size;have H1:=Hd n5;have H2:=Hd r5;have H3:=Hd l5;have H4:=Hd rd5;have H5:=Hd CU;clear n5 r5 l5 rd5 CU vZ;gi_wp2;go_roundw;case rel=>exact⟨k+1,p.1,s3,by omega,by go_num,oU,HP5,by omega,by omega,lC,H1,H2,H3,H4,H5,Nc⟩
    case measure=>simp[intOf];omega
   ·have ato:=Hd ads;clear ads
    gi_wp2;refine bodyPost_ret (results_none rfl _ _ _) rfl ?_;exact⟨⟨_,rfl⟩,.inr ⟨k+1,by omega,ato.out⟩⟩
  ·have jL:k=l.length:=by omega
   have hj:J l.length wo:=by rw[←jL];exact HJK.out
   have HJF:=Hd hj;clear jL hj;gi_wp2;go_end0;exact⟨⟨_,rfl⟩,.inl HJF.out⟩
end
section
open Go.RowKit
attribute [local go_sem] Oper.semAt_some
theorem boxes3(W:World)(N:Nat)(hN:W.heap.size=N)(t1 t2 t3:TypeId)(a b c:Value):
  Boxed (((W.alloc (.cells #[a] t1)).alloc (.cells #[b] t2)).alloc (.cells #[c] t3)) N t1 a∧Boxed (((W.alloc (.cells #[a] t1)).alloc (.cells #[b] t2)).alloc (.cells #[c] t3)) (N+1) t2 b∧Boxed (((W.alloc (.cells #[a] t1)).alloc (.cells #[b] t2)).alloc (.cells #[c] t3)) (N+2) t3 c ∧
   (((W.alloc (.cells #[a] t1)).alloc (.cells #[b] t2)).alloc (.cells #[c] t3)).heap.size=N+3∧Q W (((W.alloc (.cells #[a] t1)).alloc (.cells #[b] t2)).alloc (.cells #[c] t3)):=by
 subst hN;refine⟨((Boxed.new W t1 a).alloc _).alloc _,?_,?_,by simp,((Q.alloc W _).trans (Q.alloc _ _)).trans (Q.alloc _ _)⟩
 ·have:=(Boxed.new (W.alloc (.cells #[a] t1)) t2 b).alloc (.cells #[c] t3)
  simpa using this
 ·have:=Boxed.new ((W.alloc (.cells #[a] t1)).alloc (.cells #[b] t2)) t3 c
  simpa using this
theorem UO{F:Fence}{n:Nat}{P:Program}{c:Code}{Qx:Exit→Act→World→Prop}{a:Act}{w:World}(h:∀A0,A0=a→c.wpIn F n P Qx A0 w):c.wpIn F n P Qx a w:=h a rfl
theorem PFrom_any(s:Bytes)(doc:Int)(w:World):
  Calls Tryz.prog 147 #[.string ⟨s.toArray⟩,.int .i64 doc] w fun e w' =>
   e=.returned (.func (.func 178) #[] #[.pointer (some ⟨w.heap.size,0,none⟩),.pointer (some ⟨w.heap.size+1,0,none⟩)]) ∧
   w'=(w.alloc (.cells #[ak s] 9)).alloc (.cells #[.int .i64 doc] 3):=by
 go_enter Tryz.func147,Tryz.ntmps147;go_wp2_with fail;go_ret;exact⟨rfl,rfl⟩
theorem PFrom_seq(l:List aZ)(doc:Int)(Bs Bd n₀:Nat)(W:World)(hp:aV (-1) l=true)(Ei:Boxed W Bs 9 (ak (iG l)))(Uc:Boxed W Bd 3 (.int .i64 doc))(hn:n₀≤W.heap.size):
  SeqP Tryz.prog 178 #[.pointer (some ⟨Bs,0,none⟩),.pointer (some ⟨Bd,0,none⟩)] (encP (W.heap.size+7)) (fun k=>k=W.heap.size+1∨k=W.heap.size+4) (fun k=>k=Bs∨k=Bd∨(W.heap.size≤k∧k<W.heap.size+7)) n₀ (iY l doc) W:=by
 intro n li J Jx hJ Ug hY hj0;refine callsIn_wide.2 ((callsIn_wide (n:=0)).1 ?_);refine callsIn_of_wp_marks Tryz.func178 rfl trivial ?_ rfl;simp only[Tryz.ntmps178,List.size_toArray,List.length_cons,List.length_nil,Nat.reduceAdd,Nat.reduceSub,Array.replicate_succ,Array.replicate_zero,List.push_toArray,List.append_toArray,List.nil_append,List.cons_append];have lT:=vJ l hp;have xk:=Pj l;have aD:(iG l).length≤1000000000000:=by
  have h1:=eP l.length;have h2:=zx (lX l ((l.length-1) / 8));rw[Ad] at h2;rw[xk,List.length_append,List.length_append];omega
 have c1:(W.alloc (.cells #[.func (.yield li) #[] #[]] 236)).cell? ⟨Bs,0,none⟩=some (ak (iG l)):=(Ei.alloc _).cell;have hBs:=Ei.lt;have hBd:=Uc.lt;have Va:((W.alloc (.cells #[.func (.yield li) #[] #[]] 236)).alloc (.cells #[ak (iG l),.bool false] 276)).heap.size=W.heap.size+2:=by simp
 have iR:Q W ((W.alloc (.cells #[.func (.yield li) #[] #[]] 236)).alloc (.cells #[ak (iG l),.bool false] 276)):=(Q.alloc W _).trans (Q.alloc _ _);have hy0:Boxed ((W.alloc (.cells #[.func (.yield li) #[] #[]] 236)).alloc (.cells #[ak (iG l),.bool false] 276)) W.heap.size 236 (.func (.yield li) #[] #[]):=(Boxed.new W _ _).alloc _;have Xa:Rdr ((W.alloc (.cells #[.func (.yield li) #[] #[]] 236)).alloc (.cells #[ak (iG l),.bool false] 276)) (W.heap.size+1) (iG l):=by
  have:=Blk.new (W.alloc (.cells #[.func (.yield li) #[] #[]] 236)) 276 #[ak (iG l),.bool false];rwa [World.size_alloc] at this
 have Na:=Hd Ei;have Eu:=Hd Uc;have HP:=Hd hp;have HY:=Hd hY;have Tx:=Hd hj0;have HJ:=Hd hJ;have QE:=Hd Ug;have Xx:=Hd lT;have HPE:=Hd xk;have jk:=Hd iR;have HY0:=Hd hy0;have Ca:=Hd Xa;clear Ei Uc hp hY hj0 hJ Ug lT xk iR hy0 Xa;gi_wp2_with fail;clear c1;generalize (W.alloc (.cells #[.func (.yield li) #[] #[]] 236)).alloc (.cells #[ak (iG l),.bool false] 276)=W0 at *;obtain⟨s1,dN⟩:∃s1,s1=dQ (lX l ((l.length-1) / 8))++jm (-1) l:=⟨_,rfl⟩;have alq:iG l=bI l.length++s1:=by rw[HPE.out,dN]
 have jZ:s1.length≤1000000000000:=by have:=congrArg List.length alq;rw[List.length_append] at this;omega
 have vk:l.length≤500:=Xx.out.1;have c:=NM (W.heap.size+1) (iG l) l.length s1 W0 Ca.out (by omega) ⟨by omega,alq⟩ (by omega)
 have C:=Hd c;have su:=Hd dN;clear c dN alq;refine⟨trivial,rfl,(callsIn_wide.2 C.out).mono ?_⟩;rintro e w1 ⟨rfl,qU,t1,eU⟩;have hy1:Boxed w1 W.heap.size 236 (.func (.yield li) #[] #[]):=t1.get HY0.out (by omega)
 have Nv:=HJ.out _ _ _ (HJ.out _ _ _ Tx.out (Itk.of_q jk.out)) (t1.itk.mono (fun k h=>.inl h) (Nat.le_refl _))
 have aot:Boxed w1 Bs 9 (ak (iG l)):=t1.get (aB jk.out Na.out) (by omega)
 have JE:Boxed w1 Bd 3 (.int .i64 doc):=t1.get (aB jk.out Eu.out) (by omega)
 have dS:Below n₀ W w1:=(Below.mono jk.out hn).trans ⟨t1.os,t1.tape,t1.output,t1.size,fun k hk=>t1.block k (by omega) (by omega)⟩
 rw[Va] at eU;have Sq:=Hd qU;have HY1:=Hd hy1;have HJ1:=Hd Nv;have atp:=Hd aot;have HD1:=Hd JE;have jT:=Hd dS;clear qU hy1 Nv aot JE dS t1 Ca HY0 Tx jk C Va Na Eu HPE aD;clear W0;generalize iG l=ps at *;gi_wp2_with fail;gi_loopw [6,7,8,9,10,11] (fun la sk at_ fl en i wr=>∃(m j:Nat) (b:Bool) (s':Bytes),m≤(l.length-1) / 8∧j≤m∧i=.int .i64 (8*(m+1):Nat)∧en=.int .i64 (dAt l (8*m))∧la=.int .i64 (dAt l (8*j))∧sk=.int .i64 (sAt l (8*j):Nat)∧at_=.int .i64 (8*j:Nat)∧fl=.bool b ∧
  (b=true→j=m)∧Hid (j=0∨dAt l (8*j)<doc)∧Hid (s'=dQ ((lX l ((l.length-1) / 8)).drop (2*m))++jm (-1) l)∧s'.length≤1000000000000∧Hid (Rdr wr (W.heap.size+1) s')∧Hid (Boxed wr Bd 3 (.int .i64 doc))∧Hid (Boxed wr Bs 9 (ak ps)) ∧
  Hid (Boxed wr W.heap.size 236 (.func (.yield li) #[] #[]))∧Hid (J 0 wr)∧Hid (Below n₀ W wr)∧wr.heap.size=W.heap.size+2) (fun _ _ _ _ _ i _=>l.length+8-(intOf i).toNat)
 case atStart=>exact⟨0,0,true,s1,by omega,by omega,rfl,rfl,rfl,rfl,rfl,rfl,fun _=>rfl,.inl rfl,su.out,jZ,Sq.out,HD1.out,atp.out,HY1.out,HJ1.out,jT.out,eU⟩
 case round =>
  obtain⟨m,j,b,s',hm,hj,rfl,rfl,rfl,rfl,rfl,rfl,l6,TH,AL,bY,HR,HD,Na,T9,Uq,HB,hz⟩:=hrel;obtain⟨wo,rfl⟩:∃wo:World,wo=wr:=⟨_,rfl⟩;obtain⟨r0,r1,_⟩:=Blk.c2 HR.out;have ax0:=(qK l HP.out (8*m)).1;have ax1:=(qK l HP.out (8*m)).2.1;have atq:=(qK l HP.out (8*j)).1;have atr:=(qK l HP.out (8*j)).2.1;have ko:=sAt_le l (8*j);have oQ:=Xx.out.2.2;by_cases hlt:m<(l.length-1) / 8
  ·have ax2:=(qK l HP.out (8*(m+1))).1;have ax3:=(qK l HP.out (8*(m+1))).2.1
   have SE:=dAt_mono l HP.out (8*m) (8*(m+1)) (by omega)
   have gN:=sAt_le l (8*(m+1));have ax4:=sAt_mono l (8*m) (8*(m+1)) (by omega)
   have xJ:=abl l m ((l.length-1) / 8) hlt;have aI:s'=bI (dAt l (8*(m+1))-dAt l (8*m)).toNat++(bI (sAt l (8*(m+1))-sAt l (8*m))++(dQ ((lX l ((l.length-1) / 8)).drop (2*(m+1)))++jm (-1) l)):=by
    rw[AL.out,xJ];simp[dQ]
   obtain⟨s3,kP⟩:∃s3,s3=dQ ((lX l ((l.length-1) / 8)).drop (2*(m+1)))++jm (-1) l:=⟨_,rfl⟩;rw[←kP] at aI;obtain⟨s2,kE⟩:∃s2,s2=bI (sAt l (8*(m+1))-sAt l (8*m))++s3:=⟨_,rfl⟩;rw[←kE] at aI;have jB:s2.length≤1000000000000:=by have:=congrArg List.length aI;rw[List.length_append] at this;omega
   have lC:s3.length≤1000000000000:=by have:=congrArg List.length kE;rw[List.length_append] at this;omega
   have c1:=NM (W.heap.size+1) s' (dAt l (8*(m+1))-dAt l (8*m)).toNat s2 wo HR.out (by omega) ⟨by omega,aI⟩ (by omega)
   have c2:=fun w hb=>NM (W.heap.size+1) s2 (sAt l (8*(m+1))-sAt l (8*m)) s3 w hb (by omega) ⟨by omega,kE⟩ (by omega)
   have uV:((dAt l (8*(m+1))-dAt l (8*m)).toNat:Int)=dAt l (8*(m+1))-dAt l (8*m):=by omega
   rw[uV] at c1;have C1:=Hd c1;have C2:=Hd c2;have oU:=Hd kP;clear c1 c2 kP kE aI xJ uV;gi_wp2_with fail;refine⟨trivial,rfl,(callsIn_wide.2 C1.out).mono ?_⟩;rintro e w2 ⟨rfl,jG,t2,fD⟩;have T2:=Hd t2;have R2:=Hd jG;clear t2 jG C1 r0 r1 HR;have wT:dAt l (8*m)+(dAt l (8*(m+1))-dAt l (8*m))=dAt l (8*(m+1)):=by omega
   gi_wp2_with fail;refine⟨trivial,rfl,(callsIn_wide.2 (C2.out _ R2.out)).mono ?_⟩;rintro e w3 ⟨rfl,Ew,t3,hz3⟩;have tt:=T2.out.trans t3;have y3:Boxed w3 W.heap.size 236 (.func (.yield li) #[] #[]):=tt.get T9.out (by omega)
   have d3:Boxed w3 Bd 3 (.int .i64 doc):=tt.get HD.out (by omega)
   have bs3:Boxed w3 Bs 9 (ak ps):=tt.get Na.out (by omega)
   have j3:=HJ.out _ _ _ Uq.out (tt.itk.mono (fun k h=>.inl h) (Nat.le_refl _))
   have bb3:Below n₀ W w3:=HB.out.trans ⟨tt.os,tt.tape,tt.output,tt.size,fun k hk=>tt.block k (by omega) (by omega)⟩
   have alr:w3.heap.size=W.heap.size+2:=by omega
   have dc:=d3.cell;have R3:=Hd Ew;have Y3:=Hd y3;have D3:=Hd d3;have S3:=Hd bs3;have J3:=Hd j3;have B3:=Hd bb3;clear Ew t3 tt y3 d3 bs3 j3 bb3 T2 R2 C2 HD Na T9 Uq HB wT;cases b with
   | false =>
    gi_wp2_with fail;go_roundw;case rel=>exact⟨m+1,j,false,s3,by omega,by omega,by go_num,rfl,rfl,rfl,rfl,rfl,fun h=>(by cases h),TH,oU,lC,R3,D3,S3,Y3,J3,B3,alr⟩
    case measure=>simp[intOf];omega
   | true =>
    have hjm:=l6 rfl;subst hjm;by_cases CZ:dAt l (8*(j+1))<doc
    ·have mY:(sAt l (8*j):Int)+((sAt l (8*(j+1))-sAt l (8*j):Nat):Int)=(sAt l (8*(j+1)):Nat):=by omega
     have HDD:=Hd CZ;gi_wp2_with fail;go_roundw;case rel=>exact⟨j+1,j+1,true,s3,by omega,by omega,by go_num,rfl,rfl,by go_num,by go_num,rfl,fun _=>rfl,.inr HDD.out,oU,lC,R3,D3,S3,Y3,J3,B3,alr⟩
     case measure=>simp[intOf];omega
    ·gi_wp2_with fail
     go_roundw;case rel=>exact⟨j+1,j,decide (dAt l (8*(j+1))<doc),s3,by omega,by omega,by go_num,rfl,rfl,rfl,rfl,rfl,fun h=>by have:=of_decide_eq_true h;omega,TH,oU,lC,R3,D3,S3,Y3,J3,B3,alr⟩
     case measure=>simp[intOf];omega
  ·have vT:m=(l.length-1) / 8:=by omega
   have kE:s'=jm (-1) l:=by
    rw[AL.out,List.drop_eq_nil_of_le (by rw[Ad];omega)];simp[dQ]
   have Eh:s'.drop (sAt l (8*j))=jm (dAt l (8*j)) (l.drop (8*j)):=by rw[kE];exact body_drop l (8*j)
   have h8j:8*j≤l.length:=by omega
   have FK:sAt l (8*j)≤s'.length:=by rw[kE];exact ko
   obtain⟨s4,vN⟩:∃s4,s4=s'.drop (sAt l (8*j)):=⟨_,rfl⟩;have hx:({ data:=s'.toArray }:ByteArray).extract (sAt l (8*j)) s'.length=⟨s4.toArray⟩:=by rw[iV,vN]
   rw[←vN] at Eh;have En:s4.length≤1000000000000:=by have:=congrArg List.length vN;rw[List.length_drop] at this;omega
   have vU:¬8*(m+1)<l.length:=by omega
   have C8:=(Blk.c2 HR.out).2.2.1;have Uv:=Hd Eh;have OM:=Hd kE;clear kE Eh AL vN vT;have r5:Rdr (wo.setCell ⟨W.heap.size+1,0,none⟩ (ak s4)) (W.heap.size+1) s4:=Blk.set HR.out 0 (ak s4);have t5:Turn (·=W.heap.size+1) wo (wo.setCell ⟨W.heap.size+1,0,none⟩ (ak s4)):=Turn.setCell (own:=(·=W.heap.size+1)) (Turn.refl _ _) (.inl rfl) _
   have y5:Boxed (wo.setCell ⟨W.heap.size+1,0,none⟩ (ak s4)) W.heap.size 236 (.func (.yield li) #[] #[]):=t5.get T9.out (by omega)
   have d5:Boxed (wo.setCell ⟨W.heap.size+1,0,none⟩ (ak s4)) Bd 3 (.int .i64 doc):=t5.get HD.out (by omega)
   have b5:Boxed (wo.setCell ⟨W.heap.size+1,0,none⟩ (ak s4)) Bs 9 (ak ps):=t5.get Na.out (by omega)
   have j5:=HJ.out _ _ _ Uq.out (t5.itk.mono (fun k h=>.inl h) (Nat.le_refl _))
   have bb5:Below n₀ W (wo.setCell ⟨W.heap.size+1,0,none⟩ (ak s4)):=HB.out.trans ⟨t5.os,t5.tape,t5.output,t5.size,fun k hk=>t5.block k (by omega) (by omega)⟩
   have z5:(wo.setCell ⟨W.heap.size+1,0,none⟩ (ak s4)).heap.size=W.heap.size+2:=by simpa using hz
   have R5:=Hd r5;have Y5:=Hd y5;have D5:=Hd d5;have S5:=Hd b5;have J5:=Hd j5;have BB5:=Hd bb5;have Z5:=Hd z5;have hnj:((l.length:Int)-8*(j:Int))=((l.length-8*j:Nat):Int):=by omega
   clear r5 t5 y5 d5 b5 j5 bb5 z5 HR T9 HD Na Uq HB;gi_wp2_with fail;generalize wo.setCell ⟨W.heap.size+1,0,none⟩ (.string ⟨s4.toArray⟩)=W5 at *;refine⟨trivial,rfl,(callsIn_wide.2 (aaD _ _ _ _)).mono ?_⟩;rintro e w6 ⟨rfl,Vi⟩;have e5:=Z5.out;rw[e5];obtain⟨x1,x2,x3,x4,x5⟩:=boxes3 W5 _ e5 274 3 3 (.pointer (some ⟨W.heap.size+1,0,none⟩)) (.int .i64 ((l.length-8*j:Nat):Int)) (.int .i64 (dAt l (8*j)));rw[←Vi] at x1 x2 x3 x4 x5;have r6:=R5.out.stays x5;have y6:Boxed w6 W.heap.size 236 (.func (.yield li) #[] #[]):=aB x5 Y5.out;have d6:Boxed w6 Bd 3 (.int .i64 doc):=aB x5 D5.out;have b6:Boxed w6 Bs 9 (ak ps):=aB x5 S5.out;have j6:=HJ.out _ _ _ J5.out (Itk.of_q x5);have bb6:Below n₀ W w6:=BB5.out.trans (Below.mono x5 (by omega))
   clear Vi x5 R5 Y5 D5 S5 J5 BB5 Z5 e5 hnj;clear W5;obtain⟨L,hL⟩:∃L,L=l.drop (8*j):=⟨_,rfl⟩;have hLp:aV (dAt l (8*j)) L=true:=by rw[hL];exact JW (-1) l (8*j) HP.out
   have hLl:L.length=l.length-8*j:=by rw[hL,List.length_drop]
   have hFL:iY l doc=iY L doc:=by rw[hL];exact(agT l HP.out (8*j) doc (TH.out.imp (fun h=>by omega) id)).symm
   have vN:s4=jm (dAt l (8*j)) L++[]:=by rw[Uv.out,hL,List.append_nil]
   rw[←hLl] at x2;have HLP:=Hd hLp;have QW:=Hd hFL;have BP:=Hd vN;have EC:=Hd x1;have Ml:=Hd x2;have HX3:=Hd x3;have QX:=Hd r6;have HY6:=Hd y6;have HD6:=Hd d6;have zQ:=Hd b6;have HJ6:=Hd j6;have vX:=Hd bb6;have hL5:L.length≤1000:=by omega
   clear hL hLp hFL vN x1 x2 x3 r6 y6 d6 b6 j6 bb6 Uv OM TH Xx r0 r1 C8 hx ko oQ;gi_wp2_with fail;refine UO (fun A0 Ip=>?_)
   refine PI (gf:=205) (lb:=#[.pointer (some ⟨W.heap.size+2+1,0,none⟩),.pointer (some ⟨W.heap.size+2,0,none⟩),.pointer (some ⟨W.heap.size+2+2,0,none⟩)]) (by rw[Ip];rfl) (enters_of Tryz.func205 (by kernel_rfl) rfl)
    (encs:=encP (w6.heap.size+2)) (own:=fun k=>k=W.heap.size+1∨k=W.heap.size+2+2) (keep:=fun k=>k=W.heap.size+1∨k=W.heap.size+2+2∨k=W.heap.size+2+1∨k=W.heap.size+2) (n₀:=n₀) (xs:=L)
    (fun W1 hq hz=>by
     have h:=PIter_seq (W.heap.size+1) (W.heap.size+2+1) (W.heap.size+2) (W.heap.size+2+2) L (dAt l (8*j)) s4 [] n₀ W1 (aB hq Ml.out) (aB hq EC.out) (aB hq HX3.out) (QX.out.stays hq) BP.out (by omega) atq atr HLP.out (by omega) (by omega)
     rw[hz] at h;exact h)
    (fun k h=>by omega) (fun k h=>by omega) (by omega) (fun x W1 args h=>by obtain⟨v,rfl,_⟩:=h;rfl)
    (fun k W'=>J (iY (L.take k) doc).length W'∧Boxed W' Bs 9 (ak ps)∧Boxed W' Bd 3 (.int .i64 doc)∧Boxed W' W.heap.size 236 (.func (.yield li) #[] #[])∧Below n₀ W W')
    (fun c _ W'=>c=.ret∧∃i,i≤(iY l doc).length∧Jx i W')
    (fun k a' W'=>∃(x:aZ) (v:Value) (B:Nat),L[k]?=some x∧a'={ tmps:=(A0.tmps.setIfInBounds 77 (.agg #[.int .i64 x.1,v])).setIfInBounds 13 (.pointer (some ⟨B,0,none⟩)),defers:=[] }∧Blk W' B 201 #[.int .i64 x.1,v]∧W'.ownsRow (w6.heap.size+2) 3 1 v x.2.length (Iy x.2)∧w6.heap.size+2≤B)
    ?hI ?hIx ?hAx ?h0 ?assign ?body ?done ?stop
   case hI =>
    rintro k A C ⟨h1,h2,h3,h4,h5⟩ hi;exact⟨HJ.out _ _ _ h1 (hi.mono (fun k h=>by omega) (by omega)),hi.boxed h2 (by omega),hi.boxed h3 (by omega),hi.boxed h4 (by omega),hi.below h5 (by omega) (by have:=h5.size;omega) (fun k h=>by omega)⟩
   case hIx =>
    rintro c k A C ⟨rfl,i,h1,h2⟩ hi;exact⟨rfl,i,h1,QE.out _ _ _ h2 (hi.mono (fun k h=>by omega) (by omega))⟩
   case hAx =>
    rintro k a' A C ⟨x,v,B,h1,h2,h3,h4,h5⟩ hi;exact⟨x,v,B,h1,h2,hi.get h3 (by omega),hi.owns h4 (fun g hg=>by have:=(h4.lt g hg).1;omega),h5⟩
   case h0=>exact⟨HJ6.out,zQ.out,HD6.out,HY6.out,vX.out⟩
   case assign =>
    intro l' k hk W' args K hi QV hz hK;obtain⟨v,rfl,ho⟩:=QV;obtain⟨a,cap,rfl,lT⟩:=aT ho;obtain⟨h1,h2,h3,h4,h5⟩:=hi;have hq:=Q.alloc W' (.cells #[.int .i64 L[k].1,.slice a L[k].2.length cap] 201);have hm:=Blk.new W' 201 #[.int .i64 L[k].1,.slice a L[k].2.length cap];have G2:=Hd hm;have G3:=Hd (ownsRow_below ho hq);have G4:=Hd (HJ.out _ _ _ h1 (Itk.of_q hq));have g5:Boxed _ Bs 9 (ak ps):=aB hq h2;have g6:Boxed _ Bd 3 (.int .i64 doc):=aB hq h3;have g7:Boxed _ W.heap.size 236 (.func (.yield li) #[] #[]):=aB hq h4;have g8:=h5.trans (Below.mono hq (show n₀≤_ by omega))
    have G1:=Hd hq;have G5:=Hd g5;have G6:=Hd g6;have G7:=Hd g7;have G8:=Hd g8;clear g5 g6 g7 g8;have HK:=Hd hK;subst Ip;clear hq hm ho h1 h2 h3 h4 h5 hK;gi_wp2;refine HK.out _ _ G1.out ⟨G4.out,G5.out,G6.out,G7.out,G8.out⟩ ⟨L[k],.slice a L[k].2.length cap,W'.heap.size,List.getElem?_eq_getElem hk,?_,G2.out,G3.out,by omega⟩
    rfl
   case body =>
    rintro l' k hk a' W' ⟨⟨rc,Nl⟩,Dt⟩ hl ⟨h1,h2,h3,h4,h5⟩ ⟨x,v,B,hx,rfl,hm,ho,hB⟩ Ih hz;obtain⟨hlt,KO⟩:=List.getElem?_eq_some_iff.1 hx;subst Ip;have hBW:=hm.lt;obtain⟨a,cap,rfl,lT⟩:=aT ho;obtain⟨m0,m1,_⟩:=hm.c2;have cd:=h3.cell;have cy:=h4.cell;have gU:=agU L doc k hk;rw[KO] at gU;have jI:=dO ho (show W.heap.size+7≤w6.heap.size+2 by omega)
    have lN:=fromP_at L doc k hk;rw[KO,←QW.out] at lN;have IY:∀b,b=Bs∨b=Bd∨W.heap.size≤b∧b<W.heap.size+7→b<W'.heap.size:=fun b hb=>by omega
    have hnW:=h5.size;have H1:=Hd h1;have H2:=Hd h2;have H3:=Hd h3;have H4:=Hd h4;have H5:=Hd h5;have qV:=Hd gU;have rF:=Hd jI;have Uf:=Hd lN;have Nq:=Hd IY;clear h1 h2 h3 h4 h5 gU jI lN IY hm ho Nl Dt Ih hx KO;simp only[List.setIfInBounds_toArray,List.set_cons_succ,List.set_cons_zero];by_cases MZ:doc≤x.1
    ·obtain⟨uj,Dv⟩:=Uf.out MZ
     rw[if_pos MZ] at qV;have hyy:=HY.out _ uj W' #[Value.agg #[.int .i64 x.1,.slice a x.2.length cap]] H1.out (by rw[Dv];exact⟨_,rfl,rF.out⟩) Nq.out
     obtain⟨fn,tmps,assign,body,hy,Nu⟩:=hyy;have HYR:=Hd Nu;have aoy:(iY (L.take (k+1)) doc).length=(iY (L.take k) doc).length+1:=by rw[qV.out];simp
     have Ii:=Hd aoy;clear Nu Dv aoy;gi_wp2;refine⟨rfl,(abe _ (HYR.out _)).mono ?_⟩;rintro e W5 (⟨rfl,CU,vZ⟩|⟨rfl,ads,vZ⟩)
     ·have g2:Boxed W5 Bs 9 (ak ps):=(vZ.own Bs (.inl rfl) H2.out.lt).trans H2.out
      have g3:Boxed W5 Bd 3 (.int .i64 doc):=(vZ.own Bd (.inr (.inl rfl)) H3.out.lt).trans H3.out;have g4:Boxed W5 W.heap.size 236 (.func (.yield li) #[] #[]):=(vZ.own _ (.inr (.inr ⟨by omega,by omega⟩)) H4.out.lt).trans H4.out
      have g5:=H5.out.trans vZ.below;have gk:=vZ.mono (own':=fun b=>(b=W.heap.size+1∨b=W.heap.size+2+2∨b=W.heap.size+2+1∨b=W.heap.size+2)∨b=w6.heap.size∨b=w6.heap.size+1) (fun b h=>.inr (.inr (by omega))) (Nat.le_refl n₀)
      rw[←Ii.out] at CU;have G2:=Hd g2;have G3:=Hd g3;have G4:=Hd g4;have G5:=Hd g5;have GK:=Hd gk;have GJ:=Hd CU;clear g2 g3 g4 g5 gk CU vZ;gi_wp2;exact⟨GK.out,GJ.out,G2.out,G3.out,G4.out,G5.out⟩
     ·have gk:=vZ.mono (own':=fun b=>(b=W.heap.size+1∨b=W.heap.size+2+2∨b=W.heap.size+2+1∨b=W.heap.size+2)∨b=w6.heap.size∨b=w6.heap.size+1) (fun b h=>.inr (.inr (by omega))) (Nat.le_refl n₀)
      have GK:=Hd gk;have GJ:=Hd ads;clear gk ads vZ;gi_wp2;exact⟨GK.out,rfl,_,by omega,GJ.out⟩
    ·rw[if_neg MZ,List.append_nil] at qV
     have Nv:=H1.out;rw[←qV.out] at Nv;have HJ1:=Hd Nv;clear Nv;gi_wp2;refine⟨fun f h=>(by cases h),?_⟩
     gi_wp2;exact⟨Bk.refl _ _ _,HJ1.out,H2.out,H3.out,H4.out,H5.out⟩
   case done =>
    rintro D W' hD hz ⟨h1,h2,h3,h4,h5⟩ hK;rw[List.take_length,←QW.out] at h1;have H1:=Hd h1;have HK:=Hd hK;subst Ip;clear h1 h2 h3 h4 h5 hK;gi_wp2_with fail;refine⟨by simp,.inl ⟨_,_,rfl,run_takeDeferred HK.out,?_⟩⟩
    refine⟨_,results_none rfl _ _ _,⟨_,rfl⟩,.inl ?_⟩;exact HJ.out _ _ _ H1.out (Itk.put _ HK.out rfl (by omega))
   case stop =>
    rintro D c k W' hD hk ⟨rfl,i,h1,h2⟩ hK;subst Ip;have H2:=Hd h2;have HK:=Hd hK;clear h2 hK;gi_wp2_with fail;refine⟨by simp,.inl ⟨_,_,rfl,run_takeDeferred HK.out,?_⟩⟩
    refine⟨_,results_none rfl _ _ _,⟨_,rfl⟩,.inr ⟨i,h1,?_⟩⟩;exact QE.out _ _ _ H2.out (Itk.put _ HK.out rfl (by omega))
end
section
open Go.RowKit
theorem IsRead.same{s d d':Bytes}{l l':List au}(h:IsRead s l d)(h':IsRead s l' d'):l=l'∧d=d':=by
 obtain⟨a,b,c,e⟩:=h;obtain⟨a',b',c',e'⟩:=h';exact aen l l' d d' b b' (by omega) (by omega) c c' (by unfold jU;rw[←e,←e'])
theorem read_body(l:List au)(d:Bytes)(hn:l.length≤500)(hl:∀x∈l,x.1.length≤40∧x.2.length≤2000)(hd:d.length≤5000000000000):IsRead ((jU l d).drop 4) l d:=by
 refine⟨hn,fun x hx=>?_,by omega,by simp[jU,mX]⟩
 have:=hl x hx;exact⟨by omega,by omega⟩
theorem prefix_ok(l:List au)(d:Bytes):Lib.hasPrefix (jV l d) [67,68,88,71]=true∧Lib.trimPrefix (jV l d) [67,68,88,71]=(jV l d).drop 4:=by
 have e:jV l d=[67,68,88,71]++(bI l.length++(jg l++aM d)++oh (wI (jU l d))):=by simp[jV,jU,mX]
 rw[e];simp[Lib.hasPrefix,Lib.trimPrefix]
theorem owns_zero{w:World}{base:Nat}{e:TypeId}{size:Nat}{v:Value}{n:Nat}{xs:List Value}(h:w.ownsRow base e size v n xs):w.ownsRow 0 e size v n xs:=by
 obtain⟨h1,h2⟩:=h;refine⟨h1,?_⟩;rcases h2 with h2|⟨g,cap,cur,rfl,aO,hg,rest⟩
 ·exact .inl h2
 ·exact .inr ⟨g,cap,cur,rfl,Nat.zero_le _,hg,rest⟩
def SegAt(W:World)(p:Nat)(l:List au)(d:Bytes):Prop :=
 ∃v mb,W.heap[p]?=some (.cells #[v,.map (some mb),.string ⟨d.toArray⟩] 75 (0,0))∧W.ownsRow 0 47 2 v l.length (bK l)∧MapS W mb (nT l l.length)
theorem SegAt.stays{W W':World}{p:Nat}{l:List au}{d:Bytes}(h:SegAt W p l d)(q:Q W W'):SegAt W' p l d:=by
 obtain⟨v,mb,h1,h2,h3⟩:=h;exact⟨v,mb,aB q h1,ownsRow_below h2 q,h3.stays q⟩
theorem Open_ok(l:List au)(w:World)(h:¬(l.length<1∨500<l.length))(bD:fV l)(hT:Tabs w)(gG:Spans w):
  Calls Tryz.prog 74 #[.string ⟨(jV l (eF l)).toArray⟩] w fun e w'=>(∃p,e=.returned (.tuple #[.pointer (some ⟨p,0,none⟩),.int .i64 0])∧SegAt w' p l (eF l))∧Q w w':=by
 have aD:∀d∈l,d.1.length≤40∧d.2.length≤2000:=fun d hd=>oI (bD.1 d hd)
 have ku:=PE ((bE ((sF l).map (·.1))).map (Ba (sF l)))
 rw[show Dz ((bE ((sF l).map (·.1))).map (Ba (sF l)))=eF l from rfl] at ku
 have zu:=read_body l (eF l) (by omega) aD (by omega)
 have ac6:=prefix_ok l (eF l);have Ei:oH l=(jV l (eF l),0):=by unfold oH;rw[if_neg h,if_pos bD]
 have bY:(jV l (eF l)).length=(jU l (eF l)).length+4:=by simp[jV,Hg]
 have oQ:(jU l (eF l)).length≤6000000000000∧4≤(jU l (eF l)).length:=by
  have h1:=eP l.length;have h2:=PG l aD;have h3:=iF (eF l);simp only[jU,List.length_append,mX,List.length_cons,List.length_nil];omega
 have aI:(jV l (eF l)).take (jU l (eF l)).length=jU l (eF l):=by unfold jV;exact List.take_left
 have xD:(jV l (eF l)).drop (jU l (eF l)).length=oh (wI (jU l (eF l))):=by unfold jV;exact List.drop_left
 have HL:=Hd aD;have Ul:=Hd zu;have aoz:=Hd ac6;have Na:=Hd Ei;have bJ:=Hd aI;have HSD:=Hd xD;have HT:=Hd hT;have nX:=Hd gG;have ni:=Hd bD;clear aD zu ac6 Ei aI xD hT gG bD;generalize Iq:jV l (eF l)=sg at *;generalize Uc:jU l (eF l)=bd at *;generalize QY:eF l=dx at *;have Mj:=Hd QY;clear Iq Uc QY;have c1:=Tryz.strings_CutPrefix ⟨sg.toArray⟩ ⟨#[67,68,88,71]⟩ w;rw[show Lib.hasPrefix (⟨sg.toArray⟩:ByteArray).data.toList (⟨#[67,68,88,71]⟩:ByteArray).data.toList=true from aoz.out.1,show Lib.trimPrefix (⟨sg.toArray⟩:ByteArray).data.toList (⟨#[67,68,88,71]⟩:ByteArray).data.toList=sg.drop 4 from aoz.out.2] at c1
 have C1:=Hd c1;have BI:(sg.drop 4).length=sg.length-4:=by simp
 clear c1;go_enter Tryz.func74,Tryz.ntmps74;go_wp2_with fail;refine C1.out.mono ?_;rintro e w1 ⟨rfl,rfl⟩;have lU:({ data:=sg.toArray }:ByteArray).extract 0 bd.length=⟨bd.toArray⟩:=by rw[og,bJ.out]
 have hx4:({ data:=bd.toArray }:ByteArray).extract 4 bd.length=⟨(bd.drop 4).toArray⟩:=iV bd 4;go_wp2_with fail;have pz:Tryz.prog.follows .mixedOrders=true:=by kernel_rfl
 have hxd:({ data:=sg.toArray }:ByteArray).extract bd.length sg.length=⟨(oh (wI bd)).toArray⟩:=by rw[iV,HSD.out]
 rw[bY] at hxd;have aqI:[bd].flatten=bd:=by simp
 have lD:=X6 bd;have jM:[bd].length≤9223372036854775807:=by simp
 have hbp:∀p∈[bd],p.length≤9223372036854775807:=by intro p hp;rw[List.mem_singleton] at hp;subst hp;omega
 generalize F4:oh (wI bd)=fx at *;have cfix:=fun W=>Zb (wI bd) W lD
 rw[F4] at cfix;have hi1:(0:Int)≤(bd.length:Int)∧(bd.length:Int)≤(bd.length:Int)+4:=by omega
 obtain⟨mD,rZ⟩:=hi1;go_region_held3 (fun w'=>True) (exact trivial)
  (first
   | (go_at_call 123;refine(Crc_any _ [bd] _ (by repeat (first|(with_reducible exact Strs.lit1 _ _ _)|with_reducible apply Strs.al|with_reducible apply Strs.dr)) jM hbp).mono ?_;rw[aqI];rintro e w' ⟨rfl,rfl⟩)
   | (go_at_call 122;refine(cfix _).mono ?_;rintro e w' ⟨rfl,q⟩))
 have hq:Q w1 w':=((Q.alloc w1 (.cells #[.string ⟨bd.toArray⟩] 9)).trans (Q.drew _)).trans q;have cr:=read_any (bd.drop 4) w' (by rw[List.length_drop];omega)
 have CR:=Hd cr;have HQ:=Hd hq;clear cr hq q cfix;go_wp2_with fail;refine CR.out.mono ?_;rintro e w2 ⟨q2,hr⟩;obtain⟨v,IZ,rfl⟩:∃v,w2.ownsRow w'.heap.size 47 2 v l.length (bK l)∧e=.returned (.tuple #[v,ak dx,.bool true]):=by
  rcases hr with ⟨v,l',d',h1,h2,h3⟩|⟨h1,_⟩
  ·obtain⟨e1,e2⟩:=h1.same Ul.out
   rw[e1] at h2;rw[e2] at h3;exact⟨v,h2,h3⟩
  ·exact absurd Ul.out (h1 _ _)
 have aaZ:Docs w2 v l:=Sl.of_owns IZ;have nV:=owns_zero IZ;have OL:=Hd nV;clear IZ nV;have aO:=HQ.out.trans q2;have cb:=Build_any v l w2 aaZ (by omega) (fun d hd=>by have:=HL.out d hd;omega) (HT.out.stays aO) (nX.out.stays aO)
 rw[Na.out] at cb;obtain⟨sa,scap,hsv⟩:∃sa scap,v=.slice sa l.length scap:=by obtain⟨x,y,h,_⟩:=aaZ.value;exact⟨x,y,h⟩
 subst hsv;have CB:=Hd cb;have aS:=Hd aO;have HD:=Hd aaZ;clear cb aO q2 hr aaZ CR HQ;go_wp2_with fail;refine CB.out.mono ?_;rintro e w3 ⟨rfl,q3⟩;have rT:=HD.out.stays q3;have Io:=ownsRow_below OL.out q3;have Vn:=Hd Io;clear Io OL;have jJ:=aS.out.trans q3;have cg:=N8 _ l w3 rT (by omega) (fun d hd=>by have:=HL.out d hd;omega) (HT.out.stays jJ)
 have CG:=Hd cg;have bZ:=Hd jJ;have Vv:=Hd rT;clear cg jJ q3 rT CB aS HD;go_wp2_with fail;refine CG.out.mono ?_;rintro e w4 ⟨q4,hg⟩;obtain⟨mb,rfl,hm⟩:∃b,e=.returned (.tuple #[.agg #[.slice sa l.length scap,.map (some b)],.bool true])∧MapS w4 b (nT l l.length):=by
  rcases hg with ⟨h1,b,h2,h3⟩|⟨h1,_⟩
  ·refine⟨b,?_,h3⟩
   rw[h2,decide_eq_true ni.out.2]
  ·exact absurd ni.out.1 h1
 have gZ:=bZ.out.trans q4;have hd4:=ownsRow_below Vn.out q4;have pF:=Hd gZ;have Da:=Hd hd4;have HM:=Hd hm;clear gZ hd4 hm hg q4 CG bZ Vv Vn;go_wp2_with fail;have rQ:Q w4 ((w4.alloc (.cells #[.slice sa l.length scap,.map (some mb)] 73)).alloc (.cells #[.slice sa l.length scap,.map (some mb),ak dx] 75)):=(Q.alloc _ _).trans (Q.alloc _ _);have sJ:=heap_alloc_new (w4.alloc (.cells #[.slice sa l.length scap,.map (some mb)] 73)) (.cells #[.slice sa l.length scap,.map (some mb),ak dx] 75);rw[World.size_alloc] at sJ;go_ret2;exact⟨⟨w4.heap.size+1,rfl,_,mb,sJ,ownsRow_below Da.out rQ,HM.out.stays rQ⟩,pF.out.trans rQ⟩
theorem Zc(l:List au):∀u∈bK l,u.oneCell'=true:=by
 intro u hu;obtain⟨d,_,hd⟩:=List.mem_flatMap.1 hu;simp at hd;rcases hd with rfl|rfl<;>simp[Value.oneCell']
theorem ahg(v:Value)(l:List au)(w:World)(hv:Docs w v l)(hn:l.length≤1000000):
  Calls Tryz.prog 50 #[v] w fun e w'=>∃v',e=.returned v'∧w'.ownsRow w.heap.size 47 2 v' l.length (bK l)∧Q w w':=by
 obtain⟨i0,hi,fJ,eU,fD⟩:=info_parts fT;obtain⟨um,a,cap,rfl,aJ⟩:=hv;have rD:(bK l).length=l.length*2:=um;have jM:=Zc l;cases a with
 | none =>
  have h0:l.length=0:=by
   by_cases h:l.length=0
   ·exact h
   ·obtain⟨b,off,e,_⟩:=aJ (by omega)
    cases e
  obtain rfl:l=[]:=List.eq_nil_of_length_eq_zero h0;clear aJ um rD jM;go_enter Tryz.func50,Tryz.ntmps50;go_wp2_with fail;rw[Lib.run_eql_slice_nil _ _ _ _ _ _ _ _ Tryz.underlying39];go_wp2_with fail;go_ret;exact⟨_,rfl,World.ownsRow_nil _ _ _ _,Q.refl _⟩
 | some ad =>
  have bC:∀j u,(bK l)[j]?=some u→(w.alloc (.cells #[] 47)).cell? (ad.add j)=some u:=by
   intro j u hu;have iI:j<(bK l).length:=(List.getElem?_eq_some_iff.1 hu).1;obtain⟨b,off,e,hc⟩:=aJ (by omega)
   cases e;rw[show(⟨b,off,none⟩:Addr).add j=⟨b,off+j,none⟩ by unfold Addr.add;split<;>simp_all]
   exact ah (Q.alloc _ _) (hc j u hu)
  have aQ:(w.alloc (.cells #[] 47)).ownsRow w.heap.size 47 2 (.slice (some ⟨w.heap.size,0,none⟩) 0 0) 0 []:=⟨rfl,.inr ⟨w.heap.size,0,#[],rfl,Nat.le_refl _,heap_alloc_new _ _,by simp,by unfold maxLen;omega,rfl,rfl⟩⟩
  have ru:0+l.length≤maxLen:=by unfold maxLen;omega
  have gB:(0+l.length)*32≤140737488355328:=by omega
  have fC:w.heap.size≤(w.alloc (.cells #[] 47)).heap.size:=by simp
  generalize bK l=xs at *;clear aJ;go_enter Tryz.func50,Tryz.ntmps50;go_wp2_with fail;rw[Lib.run_eql_slice_nil _ _ _ _ _ _ _ _ Tryz.underlying39];go_wp2_with (at_builtin;go_must (refine wpList_append_own (w.alloc (.cells #[] 47)) (by rfl) _ _ 39 (by rfl) w.heap.size 47 i0 (.agg #[ak [],ak []]) 2 32 Tryz.underlying39 hi fJ eU fD rfl (by decide) _ 0 [] (by rfl) aQ ad l.length cap xs (by rfl) rD bC jM ru gB fC ?_))
  intro v' w' ho hg _;have hb:Below w.heap.size w w':=((Below.refl w.heap.size w).alloc (Nat.le_refl _) _).grown hg fC (fun k hk=>by simp[Value.ownBlock] at hk;omega)
  have HO:=Hd ho;have HB:=Hd hb;clear ho hb hg;go_wp2_with fail;go_ret;exact⟨v',rfl,HO.out,HB.out⟩
theorem SegAt.cells{W:World}{p:Nat}{l:List au}{d:Bytes}(h:SegAt W p l d):∃v mb,W.cell? ⟨p,0,none⟩=some v∧W.cell? ⟨p,1,none⟩=some (.map (some mb))∧Docs W v l∧MapS W mb (nT l l.length):=by
 obtain⟨v,mb,h1,h2,h3⟩:=h;exact⟨v,mb,by simp[World.cell?,h1],by simp[World.cell?,h1],Sl.of_owns h2,h3⟩
theorem F6(p:Nat)(l:List au)(d:Bytes)(w:World)(h:SegAt w p l d)(hn:l.length≤1000000):
  Calls Tryz.prog 23 #[.pointer (some ⟨p,0,none⟩)] w fun e w'=>∃v',e=.returned v'∧w'.ownsRow w.heap.size 47 2 v' l.length (bK l)∧Q w w':=by
 obtain⟨v,mb,c0,c1,hd,_⟩:=h.cells;have c:=ahg v l w hd hn;have C:=Hd c;clear c h hd c1;go_enter Tryz.func23,Tryz.ntmps23;go_wp2_with fail;refine C.out.mono ?_;rintro e w' ⟨v',rfl,ho,q⟩;have HO:=Hd ho;have HQ:=Hd q;clear ho q;go_wp2_with fail;go_ret;exact⟨v',rfl,HO.out,HQ.out⟩
theorem I7(w:World):(zeroValue 3).run Tryz.prog w=.ok (.int .i64 0) w:=by
 simp[zeroValue,go_sem];rw[show Tryz.t3.zero=some (.int .i64 0) from by kernel_rfl]
 rfl
theorem aeW(p:Nat)(l:List au)(d id:Bytes)(w:World)(h:SegAt w p l d)(hn:(l.map (·.1)).Nodup):
  Calls Tryz.prog 38 #[.pointer (some ⟨p,0,none⟩),.string ⟨id.toArray⟩] w fun e w'=>e=.returned (.tuple #[.int .i64 (((oz l id).getD 0:Nat):Int),.bool (oz l id).isSome])∧w=w':=by
 obtain⟨v,mb,c0,c1,_,hm⟩:=h.cells;have hg:=entK_get l hn l.length (Nat.le_refl _) id;rw[List.take_length] at hg;have hu:(if true=true then Value.tuple #[(getM id (nT l l.length)).getD (.int .i64 0),.bool (getM id (nT l l.length)).isSome] else(getM id (nT l l.length)).getD (.int .i64 0))=.tuple #[.int .i64 (((oz l id).getD 0:Nat):Int),.bool (oz l id).isSome]:=by
  rw[hg,if_pos rfl];cases oz l id<;>rfl
 clear hg h;generalize (oz l id).getD 0=fi at *;generalize (oz l id).isSome=fb at *;go_enter Tryz.func38,Tryz.ntmps38;go_wp2_with (at_lookup;go_must (refine rX w (by rfl) _ _ 65 true (by rfl) 9 3 Tryz.underlying65 Tryz.underlying9 (.int .i64 0) (I7 _) mb (nT l l.length) hm id (by rfl) (by rfl) ?_;rw[hu]))
 go_ret2;exact⟨rfl,rfl⟩
def PostSeq(gf:Nat)(lb:Array Value)(w w':World)(xs:List aZ):Prop :=
 (∀args W,(callFunc gf args).run Tryz.prog W=.ok (.enter gf args) W)∧∃kp:Nat→Prop,(∀k,kp k→w.heap.size≤k∧k<w'.heap.size) ∧
  ∀W1 n₀,Q w' W1→n₀≤W1.heap.size→SeqP Tryz.prog gf lb (encP (W1.heap.size+7)) (fun k=>k=W1.heap.size+1∨k=W1.heap.size+4) (fun k=>kp k∨(W1.heap.size≤k∧k<W1.heap.size+7)) n₀ xs W1
theorem seqP_keep{α:Type}{P:Program}{g:Nat}{lb:Array Value}{encs:α→World→Array Value→Prop}{own keep keep':Nat→Prop}{n₀:Nat}{xs:List α}{W:World}(h:SeqP P g lb encs own keep n₀ xs W)(he:∀k,keep k↔keep' k):SeqP P g lb encs own keep' n₀ xs W:=by
 rw[show keep'=keep from funext fun k=>propext (he k).symm];exact h
theorem PNone_seq(encs:aZ→World→Array Value→Prop)(own keep:Nat→Prop)(n₀:Nat)(W:World):SeqP Tryz.prog 146 #[] encs own keep n₀ [] W:=by
 intro n l J Jx hJ Ug hY h0;have H0:=Hd h0;clear h0 hY;refine callsIn_of_wp Tryz.func146 rfl trivial ?_ rfl;simp only[Tryz.ntmps146,List.size_toArray,List.length_cons,List.length_nil,Nat.reduceAdd,Nat.reduceSub,Array.replicate_succ,Array.replicate_zero,List.push_toArray,List.append_toArray,List.nil_append,List.cons_append];gi_wp2;go_end0;exact⟨⟨_,rfl⟩,.inl H0.out⟩
theorem Zd{l:List au}(h:l.length≤500)(bD:fV l):eF l=kV (iO l)∧DOk (iO l):=by
 have hl:∀d∈l,d.2.length≤2000:=fun d hd=>(oI (bD.1 d hd)).2
 refine⟨abJ l h hl,LH l h hl,?_⟩;have:=IC l h hl;unfold iO;rw[List.length_map];omega
theorem Ku(p:Nat)(l:List au)(t:Bytes)(doc:Int)(w:World)(hg:SegAt w p l (eF l))(hn:l.length≤500)(bD:fV l):
  Calls Tryz.prog 100 #[.pointer (some ⟨p,0,none⟩),ak t,.int .i64 doc] w fun e w'=>(∃gf lb,e=.returned (.func (.func gf) #[] lb)∧PostSeq gf lb w w' (iY (bf t l 0) doc))∧Q w w':=by
 obtain⟨hd,EU⟩:=Zd hn bD;obtain⟨v,mb,yu,_,_⟩:=hg;have c2:w.cell? ⟨p,2,none⟩=some (ak (eF l)):=Blk.cell (t:=75) yu 2 _ rfl;have cg:=DGet_ok (iO l) t w EU;rw[←hd,ahb] at cg;have sU:=IG hn bD t;generalize eF l=dx at *;have uR:=Hd sU;by_cases ht:t∈dK l
 ·rw[if_pos ht,TA _ sU] at cg
  have CG:=Hd cg;clear cg hd EU yu ht sU;go_enter Tryz.func100,Tryz.ntmps100;go_wp2_with fail;refine CG.out.mono ?_;rintro e w1 ⟨rfl,q1⟩;go_wp2_with fail;refine(PFrom_any _ _ _).mono ?_;rintro e w2 ⟨rfl,nV⟩;go_wp2_with fail;go_ret;subst nV;have gJ:=(Q.alloc w1 (.cells #[ak (iG (bf t l 0))] 9)).trans (Q.alloc _ (.cells #[.int .i64 doc] 3));have b1:Boxed ((w1.alloc (.cells #[ak (iG (bf t l 0))] 9)).alloc (.cells #[.int .i64 doc] 3)) w1.heap.size 9 (ak (iG (bf t l 0))):=(Boxed.new w1 _ _).alloc _;have b2:Boxed ((w1.alloc (.cells #[ak (iG (bf t l 0))] 9)).alloc (.cells #[.int .i64 doc] 3)) (w1.heap.size+1) 3 (.int .i64 doc):=by
   have:=Boxed.new (w1.alloc (.cells #[ak (iG (bf t l 0))] 9)) 3 (.int .i64 doc);simpa using this
  refine⟨⟨178,_,rfl,enters_of Tryz.func178 (by kernel_rfl) rfl,(fun k=>k=w1.heap.size∨k=w1.heap.size+1),(fun k hk=>by have:=q1.size;simp;omega),?_⟩,q1.trans gJ⟩
  intro W1 n₀ hq Ij;exact seqP_keep (PFrom_seq (bf t l 0) doc w1.heap.size (w1.heap.size+1) n₀ W1 uR.out (aB hq b1) (aB hq b2) Ij) (fun k=>by rw[or_assoc])
 ·rw[if_neg ht] at cg
  have Bf:bf t l 0=[]:=Classical.byContradiction fun h=>ht ((UL l t).2 h)
  have CG:=Hd cg;have Vb:=Hd Bf;clear cg hd EU yu ht sU uR Bf;go_enter Tryz.func100,Tryz.ntmps100;go_wp2_with fail;refine CG.out.mono ?_;rintro e w1 ⟨rfl,q1⟩;go_wp2_with fail;go_ret;refine⟨⟨146,#[],rfl,enters_of Tryz.func146 (by kernel_rfl) rfl,(fun k=>False),(fun k hk=>hk.elim),?_⟩,q1⟩
  intro W1 n₀ hq Ij;rw[Vb.out];exact PNone_seq _ _ _ _ _
def RV(es:List aN):List Value:=es.map fun e=>ak e.1
theorem abN(p:Nat)(l:List au)(pre:Bytes)(w:World)(hg:SegAt w p l (eF l))(hn:l.length≤500)(bD:fV l)(hp:pre.length≤1000000000):
  Calls Tryz.prog 92 #[.pointer (some ⟨p,0,none⟩),ak pre] w fun e w'=>∃v,e=.returned v∧w'.ownsRow w.heap.size 9 1 v ((dK l).filter (fun t=>pre.isPrefixOf t)).length (((dK l).filter (fun t=>pre.isPrefixOf t)).map ak)∧Q w w':=by
 obtain⟨i0,hi,fJ,eU,fD⟩:=info_parts (show(Tryz.prog.info? 9).map (fun i=>(i.zero,i.size,i.bytes))=some (some (ak []),1,16) by kernel_rfl)
 obtain⟨hd,EU⟩:=Zd hn bD;obtain⟨v,mb,yu,_,_⟩:=hg;have c2:w.cell? ⟨p,2,none⟩=some (ak (eF l)):=Blk.cell (t:=75) yu 2 _ rfl;have cg:=agS (iO l) pre w EU hp;have hpf:=abK l pre;have aD:((iO l).filter (fun e=>pre.isPrefixOf e.1)).length≤1048576:=Nat.le_trans (List.length_filter_le _ _) EU.2
 rw[←hd] at cg;rw[←hpf];generalize eF l=dx at *;generalize (iO l).filter (fun e=>pre.isPrefixOf e.1)=es at *
 have CG:=Hd cg;clear cg hd EU yu hpf;go_enter Tryz.func92,Tryz.ntmps92;go_wp2_with fail;refine CG.out.mono ?_;rintro e w1 ⟨v1,rfl,ho,q1⟩;obtain⟨a,cap,rfl,lT⟩:=aT ho;have HO:=Hd ho;have aC:=Hd q1;have R4:=q1.size;clear ho q1;go_wp2_with fail;obtain⟨es',qI⟩:∃es',es'=es:=⟨_,rfl⟩;go_loopw [5,15] (fun lv i wr=>∃k:Nat,k≤es.length∧i=.int .i64 k∧Hid (wr.ownsRow w1.heap.size 9 1 lv k (RV (es.take k)))∧Hid (wr.ownsRow w.heap.size 231 2 (.slice a es.length cap) es.length (dV es))∧Hid (Q w wr)∧w1.heap.size≤wr.heap.size) (fun _ i _=>es.length-(intOf i).toNat)
 case atStart=>exact⟨0,by omega,rfl,World.ownsRow_nil _ _ _ _,HO.out,aC.out,Nat.le_refl _⟩
 case round =>
  obtain⟨k,hk,rfl,HT,HE,HQ,aY⟩:=hrel;obtain⟨wo,rfl⟩:∃wo:World,wo=wr:=⟨_,rfl⟩;by_cases hlt:k<es.length
  ·obtain⟨g,rfl⟩:=lT (by omega)
   have xk:=Gn es k hlt;have x0:=(HE.out.cellAt (k*2) (by omega)).trans xk.1
   have x1:=(HE.out.cellAt (k*2+1) (by omega)).trans xk.2
   have gU:RV (es.take (k+1))=RV (es.take k)++[ak es[k].1]:=by
    unfold RV;rw[List.take_succ_eq_append_getElem hlt,List.map_append];rfl
   generalize es[k]=e at *;obtain⟨t,x⟩:=e;simp only at x0 x1 gU;have hT:=HT.out.alloc (.cells #[ak t,ak x] 231);have hE:=HE.out.alloc (.cells #[ak t,ak x] 231);have hQ:=HQ.out.trans (Q.alloc wo (.cells #[ak t,ak x] 231));have Ef:w1.heap.size≤(wo.alloc (.cells #[ak t,ak x] 231)).heap.size:=by simp;omega
   have qV:=Hd gU;have HE1:=Hd hE;have aS:=Hd hQ;clear gU xk hE hQ;go_wp2_with (at_builtin;go_must (refine cZ (wo.alloc (.cells #[ak t,ak x] 231)) (by rfl) _ _ 136 (by rfl) w1.heap.size 9 _ i0 (ak []) 1 16 Tryz.underlying136 hi fJ eU fD rfl (by decide) (by decide) _ _ _ (by rfl) hT #[ak t] (by simp[Act.eval]) rfl ?c1 ?c2 Ef ?_))
   case c1=>simp[Value.oneCell']
   case c2=>omega
   intro g6 cap6 w6 aW dB iL uz tq;have e6:=iW HE1.out hT dB (by decide)
   have q6:Q w w6:=aL aS.out hT dB R4 (by omega)
   have jP:w1.heap.size≤w6.heap.size:=Nat.le_trans Ef dB.size;rw[show RV (es.take k)++(#[ak t]:Array Value).toList=RV (es.take (k+1)) from qV.out.symm] at aW
   have rH:=Hd aW;have GD:=Hd e6;have fQ:=Hd q6;clear aW e6 q6 hT dB iL HT HE HQ HE1 aS;go_wp2_with fail;go_roundw;case rel=>exact⟨k+1,by omega,by go_num,rH,GD,fQ,jP⟩
   case measure=>simp[intOf];omega
  ·have jL:k=es.length:=by omega
   subst jL;have ho:=HT.out;rw[List.take_length] at ho;have Ua:=Hd ho;clear ho;go_wp2_with fail;go_ret;refine⟨_,rfl,?_,HQ.out⟩;rw[List.length_map,List.map_map];exact dO Ua.out R4
end
section
open Go.RowKit
attribute [local go_sem] Oper.semAt_some
def UQ(base:Nat)(r:Option aZ)(e:Ending)(w':World):Prop:=match r with
 | none=>e=.returned (.tuple #[.agg #[.int .i64 0,.slice none 0 0],.bool false])
 | some x=>∃pv,e=.returned (.tuple #[.agg #[.int .i64 x.1,pv],.bool true])∧w'.ownsRow base 3 1 pv x.2.length (kH x.2)
theorem Ze(p:Nat)(l:List au)(t:Bytes)(doc:Nat)(w:World)(hg:SegAt w p l (eF l))(hn:l.length≤500)(bD:fV l):
  Calls Tryz.prog 233 #[.pointer (some ⟨p,0,none⟩),ak t,.int .i64 (doc:Nat)] w fun e w'=>UQ w.heap.size (tC t l doc) e w'∧Q w w':=by
 have sU:=IG hn bD t;have lT:=(vJ _ sU).1;have rG:(iY (bf t l 0) (doc:Int)).length≤500:=Nat.le_trans (List.length_filter_le _ _) lT;have aoA:∀x∈iY (bf t l 0) (doc:Int),x.2≠[]:=fun x hx=>((vJ _ sU).2.1 x (List.mem_filter.1 hx).1).2.1
 have c:=fun w hg=>Ku p l t (doc:Int) w hg hn bD
 unfold tC;have C:=Hd c;have HG:=Hd hg;have HXN:=Hd aoA;generalize iY (bf t l 0) (doc:Int)=xs at *;clear c hg sU lT aoA;refine(callsIn_wide (n:=0)).1 ?_;refine callsIn_of_wp_marks Tryz.func233 rfl trivial ?_ rfl;simp only[Tryz.ntmps233,List.size_toArray,List.length_cons,List.length_nil,Nat.reduceAdd,Nat.reduceSub,Array.replicate_succ,Array.replicate_zero,List.push_toArray,List.append_toArray,List.nil_append,List.cons_append];gi_wp2_with fail;refine⟨trivial,rfl,(callsIn_wide.2 (C.out _ (HG.out.stays ((Q.alloc _ _).trans (Q.alloc _ _))))).mono ?_⟩;rintro e w1 ⟨⟨gf,lb,rfl,Mq,kp,Np,Oo⟩,q1⟩;have b1:Blk w1 w.heap.size 201 #[.int .i64 0,.slice none 0 0]:=((Blk.new w _ _).alloc _).stays q1;have b2:Boxed w1 (w.heap.size+1) 4 (.bool false):=aB q1 (by have:=Boxed.new (w.alloc (.cells #[.int .i64 0,.slice none 0 0] 201)) 4 (.bool false);rw[World.size_alloc] at this;exact this)
 have jS:=((Q.alloc w _).trans (Q.alloc _ _)).trans q1;have hB:=jS.size;have dN:=q1.size;simp only[World.size_alloc] at dN Np;clear q1 C HG;have jT:=Hd b1;have eG:=Hd b2;have aC:=Hd jS;have ai3:=Hd Oo;have Nq:=Hd Np;have V3:=Hd Mq;clear b1 b2 jS Oo Np Mq;gi_wp2_with fail;refine UO (fun A0 Ip=>?_)
 refine PI (gf:=gf) (lb:=lb) (by rw[Ip];rfl) V3.out (encs:=encP (w1.heap.size+2+7)) (own:=fun k=>k=w1.heap.size+2+1∨k=w1.heap.size+2+4) (keep:=fun k=>kp k∨(w1.heap.size+2≤k∧k<w1.heap.size+2+7)) (n₀:=w.heap.size) (xs:=xs)
  (fun W1 hq hz=>by
   have h:=ai3.out W1 w.heap.size hq (by omega)
   rw[hz] at h;exact h)
  (fun k h=>by omega) (fun k h=>Or.elim h (fun h=>by have:=Nq.out k h;omega) (fun h=>by omega)) (by omega) (fun x W1 args h=>by obtain⟨v,rfl,_⟩:=h;rfl)
  (fun k W=>k=0∧Blk W w.heap.size 201 #[.int .i64 0,.slice none 0 0]∧Boxed W (w.heap.size+1) 4 (.bool false)∧Below w.heap.size w W)
  (fun c k W=>c=.ret∧(∃(x:aZ) (pv:Value),xs.head?=some x∧Blk W w.heap.size 201 #[.int .i64 x.1,pv]∧Boxed W (w.heap.size+1) 4 (.bool true)∧W.ownsRow (w1.heap.size+9) 3 1 pv x.2.length (kH x.2))∧Below w.heap.size w W)
  (fun k a' W=>∃(x:aZ) (pv:Value) (B:Nat),xs[k]?=some x∧a'={ tmps:=(A0.tmps.setIfInBounds 13 (.agg #[.int .i64 x.1,pv])).setIfInBounds 8 (.pointer (some ⟨B,0,none⟩)),defers:=[] }∧Blk W B 201 #[.int .i64 x.1,pv]∧W.ownsRow (w1.heap.size+9) 3 1 pv x.2.length (kH x.2)∧w1.heap.size+9≤B)
  ?hI ?hIx ?hAx ?h0 ?assign ?body ?done ?stop
 case hI =>
  rintro k A B ⟨h0,h1,h2,h3⟩ hi;exact⟨h0,hi.get h1 (by omega),hi.boxed h2 (by omega),hi.below h3 (by omega) h3.size (fun k h=>by omega)⟩
 case hIx =>
  rintro c k A B ⟨h0,⟨x,pv,h1,h2,h3,h4⟩,h5⟩ hi;exact⟨h0,⟨x,pv,h1,hi.get h2 (by omega),hi.boxed h3 (by omega),hi.owns h4 (fun g hg=>by have:=(h4.lt g hg).1;omega)⟩,hi.below h5 (by omega) h5.size (fun k h=>by omega)⟩
 case hAx =>
  rintro k a' A C ⟨x,v,B,h1,h2,h3,h4,h5⟩ hi;exact⟨x,v,B,h1,h2,hi.get h3 (by omega),hi.owns h4 (fun g hg=>by have:=(h4.lt g hg).1;omega),h5⟩
 case h0=>exact⟨rfl,jT.out,eG.out,aC.out⟩
 case assign =>
  intro l' k hk W' args K hi QV hz hK;obtain⟨v,rfl,ho⟩:=QV;obtain⟨a,cap,rfl,lT⟩:=aT ho;have hB9:w1.heap.size+9≤W'.heap.size:=by
   obtain⟨g,rfl⟩:=lT (List.length_pos_iff.2 (HXN.out _ (List.getElem_mem hk)));have:=ho.lt g rfl;omega
  obtain⟨h1,h2,h3,h4⟩:=hi;have hq:=Q.alloc W' (.cells #[.int .i64 xs[k].1,.slice a xs[k].2.length cap] 201);have hm:=Blk.new W' 201 #[.int .i64 xs[k].1,.slice a xs[k].2.length cap];have g3:Boxed _ (w.heap.size+1) 4 (.bool false):=aB hq h3;have G1:=Hd hq;have G2:=Hd (h2.stays hq);have G3:=Hd g3;have G4:=Hd (h4.trans (Below.mono hq h4.size));have GM:=Hd hm;have GO:=Hd (ownsRow_below ho hq);have G0:=Hd h1;have HK:=Hd hK;subst Ip;clear hq hm ho h1 h2 h3 h4 hK g3;gi_wp2;refine HK.out _ _ G1.out ⟨G0.out,G2.out,G3.out,G4.out⟩ ⟨xs[k],.slice a xs[k].2.length cap,W'.heap.size,List.getElem?_eq_getElem hk,?_,GM.out,GO.out,by omega⟩
  rfl
 case body =>
  rintro l' k hk a' W' ⟨⟨rc,Nl⟩,Dt⟩ hl ⟨rfl,h1,h2,h3⟩ ⟨x,pv,B,hx,rfl,hm,ho,hB⟩ Ih hz;subst Ip;obtain⟨m0,m1,_⟩:=hm.c2;obtain⟨r0,r1,f0,f1⟩:=h1.c2;have c2:=h2.cell;have f2:=h2.frozen;obtain⟨a,cap,rfl,lT⟩:=aT ho;have OH:xs.head?=some x:=by rw[List.head?_eq_getElem?];exact hx
  have hnW:=h3.size;have ax5:w1.heap.size+2+7≤W'.heap.size:=by have:=Ih (w1.heap.size+2+6) (.inr ⟨by omega,by omega⟩);omega
  have H1:=Hd h1;have H2:=Hd h2;have H3:=Hd h3;have HM:=Hd hm;have HO:=Hd ho;have HHD:=Hd OH;clear h1 h2 h3 hm ho Nl Dt Ih hx OH;simp only[List.setIfInBounds_toArray,List.set_cons_succ,List.set_cons_zero];gi_wp2_with fail;have e1:Blk W' (w.heap.size+1) 4 #[.bool false]:=H2.out;refine⟨((Bk.setCell _ (by simp) ?_ _).trans (Bk.setCell _ (by simp) ?_ _)).trans (Bk.setCell _ (by simp) ?_ _),rfl,⟨x,.slice a x.2.length cap,HHD.out,?_,?_,?_⟩,((H3.out.setCell (by simp) _).setCell (by simp) _).setCell (by simp) _⟩
  ·rintro((h|h)|h)
   ·have h:=Nq.out _ h;simp at h;omega
   ·simp at h;omega
   ·simp at h;omega
  ·rintro((h|h)|h)
   ·have h:=Nq.out _ h;simp at h;omega
   ·simp at h;omega
   ·simp at h;omega
  ·rintro((h|h)|h)
   ·have h:=Nq.out _ h;simp at h;omega
   ·simp at h;omega
   ·simp at h;omega
  ·exact(((H1.out.set 0 _).set 1 _).other ⟨w.heap.size+1,0,none⟩ _ (by simp))
  ·exact((e1.other ⟨w.heap.size,0,none⟩ _ (by simp)).other ⟨w.heap.size,1,none⟩ _ (by simp)).set 0 _
  ·exact ownsRow_setCell_below (ownsRow_setCell_below (ownsRow_setCell_below HO.out (by simp;omega) _) (by simp;omega) _) (by simp;omega) _
 case done =>
  rintro D W' hD hz ⟨h0,h1,h2,h3⟩ hK;have Bf:xs=[]:=List.eq_nil_of_length_eq_zero h0;subst Bf;obtain⟨r0,r1,f0,f1⟩:=h1.c2;have c2:=h2.cell;have f2:=h2.frozen;have H1:=Hd h1;have H2:=Hd h2;have H3:=Hd h3;have HK:=Hd hK;subst Ip;clear h1 h2 h3 hK h0;gi_wp2_with fail;have hK3:(((W'.setCell ⟨w.heap.size,0,none⟩ (.int .i64 0)).setCell ⟨w.heap.size,1,none⟩ (.slice none 0 0)).setCell ⟨w.heap.size+1,0,none⟩ (.bool false)).heap[D]?=some (.deferred (some [])):=by
   rw[Below.heap_setCell _ _ _ _ (by simp;omega),Below.heap_setCell _ _ _ _ (by simp;omega),Below.heap_setCell _ _ _ _ (by simp;omega)];exact HK.out
  have e1:Blk W' (w.heap.size+1) 4 #[.bool false]:=H2.out;have k1:=(((H1.out.set 0 (.int .i64 0)).set 1 (.slice none 0 0)).other ⟨w.heap.size+1,0,none⟩ (.bool false) (by simp))
  have k2:=((e1.other ⟨w.heap.size,0,none⟩ (.int .i64 0) (by simp)).other ⟨w.heap.size,1,none⟩ (.slice none 0 0) (by simp)).set 0 (.bool false)
  have oQ:Below w.heap.size w (((W'.setCell ⟨w.heap.size,0,none⟩ (.int .i64 0)).setCell ⟨w.heap.size,1,none⟩ (.slice none 0 0)).setCell ⟨w.heap.size+1,0,none⟩ (.bool false)):=((H3.out.setCell (by simp) _).setCell (by simp) _).setCell (by simp) _
  generalize ((W'.setCell ⟨w.heap.size,0,none⟩ (.int .i64 0)).setCell ⟨w.heap.size,1,none⟩ (.slice none 0 0)).setCell ⟨w.heap.size+1,0,none⟩ (.bool false)=W3 at *;refine⟨by simp,.inl ⟨_,_,rfl,run_takeDeferred hK3,?_⟩⟩
  have hp:Itk (fun _=>False) w.heap.size W3 (W3.putObj D (.deferred none)):=Itk.put _ hK3 rfl (by omega)
  have aO:=hp.below oQ (Nat.le_refl _) oQ.size (fun _ h=>h.elim)
  obtain⟨z0,z1,_⟩:=Blk.c2 (Cs.blk hp k1);have z2:=Blk.cell (Cs.blk hp k2) 0 _ rfl;refine⟨.tuple #[.agg #[.int .i64 0,.slice none 0 0],.bool false],?_,rfl,aO⟩;simp[results,Tryz.results233,go_sem,z0,z1,z2]
 case stop =>
  rintro D c k W' hD hk ⟨rfl,⟨x,pv,h1,h2,h3,h4⟩,h5⟩ hK;obtain⟨r0,r1,f0,f1⟩:=h2.c2;have c2:=h3.cell;have f2:=h3.frozen;have H1:=Hd h1;have H2:=Hd h2;have H3:=Hd h3;have HK:=Hd hK;have H4:=Hd h4;have H5:=Hd h5;subst Ip;clear h1 h2 h3 hK h4 h5;gi_wp2_with fail;refine⟨by simp,.inl ⟨_,_,rfl,run_takeDeferred HK.out,?_⟩⟩
  have hp:Itk (fun _=>False) w.heap.size W' (W'.putObj D (.deferred none)):=Itk.put _ HK.out rfl (by omega)
  have aO:=hp.below H5.out (Nat.le_refl _) H5.out.size (fun _ h=>h.elim)
  obtain⟨z0,z1,_⟩:=Blk.c2 (Cs.blk hp H2.out);have z2:=(hp.boxed H3.out (fun h=>h)).cell
  have ho:=dO (base':=w.heap.size) (hp.owns H4.out (fun _ _ h=>h)) (by omega)
  refine⟨.tuple #[.agg #[.int .i64 x.1,pv],.bool true],?_,?_,aO⟩
  ·simp[results,Tryz.results233,go_sem,z0,z1,z2]
  ·rw[H1.out];exact⟨pv,rfl,ho⟩
theorem Term_any(p:Nat)(l:List au)(t:Bytes)(doc:Nat)(w:World)(hg:SegAt w p l (eF l))(hn:l.length≤500)(bD:fV l):
  Calls Tryz.prog 238 #[.agg #[.pointer (some ⟨p,0,none⟩),ak t],.int .i64 (doc:Nat)] w fun e w'=>SeekEnd (oC l t) doc e∧Q w w':=by
 have c:=fun W hg=>Ze p l t doc W hg hn bD
 have hx:=next_term t l doc;have jM:∀x,tC t l doc=some x→_:=fun x h=>LD h
 have C:=Hd c;have HG:=Hd hg;have HX:=Hd hx;have FP:=Hd jM;clear c hg hx hn bD jM;generalize tC t l doc=r at *;go_enter Tryz.func238,Tryz.ntmps238;go_wp2_with fail;refine(C.out _ (HG.out.stays (Q.alloc _ _))).mono ?_;rintro e w1 ⟨hf,q1⟩;have jS:=(Q.alloc _ _).trans q1;cases r with
 | none =>
  simp only[UQ] at hf;subst hf;have aC:=Hd jS;clear jS q1 C FP;have KK:=(Blk.new w1 201 #[.int .i64 0,.slice none 0 0]).c2;obtain⟨z0,z1,_⟩:=KK;go_wp2_with fail;go_quiet (fail);go_wp2_with fail;go_ret3;exact⟨SeekEnd.no (d:=0) (s:=0) rfl HX.out,by first|exact(aC.out.trans (Q.alloc _ _)).trans (Q.drewN _ _)|exact aC.out.trans (Q.alloc _ _)⟩
 | some x =>
  obtain⟨pv,rfl,ho⟩:=hf;obtain⟨k,d,_,rfl,_⟩:=FP.out _ rfl;obtain⟨a,cap,rfl,_⟩:=aT ho;have aC:=Hd jS;clear jS q1 C FP ho;simp only[Option.map_some,Int.toNat_natCast] at HX;generalize placesIn d.2 t=pl at *;obtain⟨z0,z1,_⟩:=(Blk.new w1 201 #[.int .i64 (k:Nat),.slice a pl.length cap]).c2;go_wp2_with fail;go_quiet (fail);go_wp2_with fail;go_ret3;exact⟨SeekEnd.yes (d:=k) (s:=pl.length) rfl HX.out,by first|exact(aC.out.trans (Q.alloc _ _)).trans (Q.drewN _ _)|exact aC.out.trans (Q.alloc _ _)⟩
end
section
def zC:List Nat→Nat
 | []=>0
 | x::xs=>x+zC xs
theorem sumL_add{α:Type}(l:List α)(f g:α→Nat):zC (l.map fun x=>f x+g x)=zC (l.map f)+zC (l.map g):=by
 induction l with
 | nil=>rfl
 | cons x l ih=>simp only[List.map_cons,zC,ih];omega
theorem Zf{α:Type}(l:List α):zC (l.map fun _=>0)=0:=by
 induction l with
 | nil=>rfl
 | cons x l ih=>simp only[List.map_cons,zC,ih]
theorem ahh{α:Type}(l:List α)(f g:α→Nat)(h:∀x∈l,f x=g x):zC (l.map f)=zC (l.map g):=by
 rw[List.map_congr_left h]
theorem one_term(ts:List Bytes)(t:Bytes)(hn:ts.Nodup)(hm:t∈ts):zC (ts.map fun u=>if t=u then 1 else 0)=1:=by
 induction ts with
 | nil=>simp at hm
 | cons u ts ih =>
  obtain⟨h1,h2⟩:=List.nodup_cons.1 hn;rw[List.map_cons,zC];by_cases h:t=u
  ·subst h
   rw[if_pos rfl,ahh ts _ (fun _=>0) (fun x hx=>if_neg (by intro e;subst e;exact h1 hx)),Zf]
  ·rw[if_neg h,ih h2 (by simpa[h] using hm)]
theorem aaE(toks:List (Bytes×Nat))(ts:List Bytes)(hn:ts.Nodup)(hm:∀x∈toks,x.1∈ts):zC (ts.map fun t=>(toks.filterMap fun x=>if x.1=t then some (x.2:Int) else none).length)=toks.length:=by
 induction toks with
 | nil=>simp only[List.filterMap_nil,List.length_nil];exact Zf ts
 | cons x toks ih =>
  have e:(fun t:Bytes=>((x::toks).filterMap fun x=>if x.1=t then some (x.2:Int) else none).length)=fun t=>(if x.1=t then 1 else 0)+(toks.filterMap fun x=>if x.1=t then some (x.2:Int) else none).length:=by
   funext t;rw[List.filterMap_cons];by_cases h:x.1=t
   ·simp[h];omega
   ·simp[h]
  rw[e,sumL_add,ih (fun y hy=>hm y (by simp[hy])),one_term ts x.1 hn (hm x (by simp)),List.length_cons]
  omega
abbrev PlL:=List (Bytes×(Nat×Nat))
def vK(p:aG)(i:Nat)(m:PlL):Nat→PlL
 | 0=>m
 | k+1=>if bit p.2 k then vK p i m k else fU (p.1.getD k ([],[])).1 (i,k) (vK p i m k)
def tH(ps:List aG):Nat→PlL
 | 0=>[]
 | i+1=>vK (ps.getD i ([],[])) i (tH ps i) (ps.getD i ([],[])).1.length
def jw(ps:List aG):PlL:=tH ps ps.length
def Aj(ps:List aG)(a:Nat×Nat):au:=(ps.getD a.1 ([],[])).1.getD a.2 ([],[])
theorem Zg{α β:Type}(f:α→β)(k:Bytes)(v:α)(m:List (Bytes×α)):(fU k v m).map (fun x=>(x.1,f x.2))=fU k (f v) (m.map (fun x=>(x.1,f x.2))):=by
 induction m with
 | nil=>rfl
 | cons x m ih =>
  by_cases h:x.1=k
  ·simp[fU,h]
  ·simp only[fU,h,if_false,List.map_cons,ih]
theorem mem_put{α:Type}(k:Bytes)(v:α)(m:List (Bytes×α))(x:Bytes×α)(h:x∈fU k v m):x=(k,v)∨x∈m:=by
 induction m with
 | nil=>simpa[fU] using h
 | cons y m ih =>
  by_cases hy:y.1=k
  ·simp only[fU,hy,if_true,List.mem_cons] at h
   rcases h with h|h
   ·exact .inl h
   ·exact .inr (List.mem_cons_of_mem _ h)
  ·simp only[fU,hy,if_false,List.mem_cons] at h
   rcases h with h|h
   ·exact .inr (by rw[h];exact List.mem_cons_self)
   ·exact(ih h).imp id (List.mem_cons_of_mem _)
theorem Wq(g:Bytes)(l:List au)(d:au)(k:Nat):nC g (l++[d]) k=nC g l k++(if bit g (k+l.length) then [] else [d]):=by
 induction l generalizing k with
 | nil=>simp only[List.nil_append,nC,List.length_nil,Nat.add_zero]
 | cons x l ih =>
  rw[List.cons_append,nC,nC,ih,List.length_cons,show k+1+l.length=k+(l.length+1) by omega]
  by_cases hb:bit g k=true
  ·simp only[hb,if_true]
  ·simp only[hb,if_false,List.cons_append];rfl
def PlOk(ps:List aG)(n k:Nat)(m:PlL):Prop:=∀x∈m,(x.2.1<n∨x.2.1=n∧x.2.2<k)∧x.2.2<(ps.getD x.2.1 ([],[])).1.length∧(Aj ps x.2).1=x.1
theorem plIn_ok(ps:List aG)(i:Nat)(m:PlL)(h:PlOk ps i 0 m)(k:Nat)(hk:k≤(ps.getD i ([],[])).1.length):PlOk ps i k (vK (ps.getD i ([],[])) i m k):=by
 induction k with
 | zero=>exact h
 | succ k ih =>
  have ih:=ih (by omega)
  unfold vK;split
  ·intro x hx
   obtain⟨a,b,c⟩:=ih x hx;exact⟨by omega,b,c⟩
  ·intro x hx
   rcases mem_put _ _ _ _ hx with rfl|hx
   ·exact⟨.inr ⟨rfl,by simp⟩,by simp only;omega,rfl⟩
   ·obtain⟨a,b,c⟩:=ih x hx
    exact⟨by omega,b,c⟩
theorem Ym(ps:List aG)(n:Nat):PlOk ps n 0 (tH ps n):=by
 induction n with
 | zero=>intro x hx;cases hx
 | succ n ih =>
  intro x hx;obtain⟨a,b,c⟩:=plIn_ok ps n _ ih _ (Nat.le_refl _) x hx;exact⟨by omega,b,c⟩
abbrev PL(ps:List aG)(m:PlL):List au:=m.map fun x=>(x.1,(Aj ps x.2).2)
theorem ahi(ps:List aG)(i:Nat)(m:PlL)(k:Nat)(hk:k≤(ps.getD i ([],[])).1.length):
  PL ps (vK (ps.getD i ([],[])) i m k)=(nC (ps.getD i ([],[])).2 ((ps.getD i ([],[])).1.take k) 0).foldl (fun m d=>fU d.1 d.2 m) (PL ps m):=by
 induction k with
 | zero=>simp[vK,nC]
 | succ k ih =>
  have hlt:k<(ps.getD i ([],[])).1.length:=by omega
  rw[List.take_succ_eq_append_getElem hlt,Wq,List.foldl_append,←ih (by omega),List.length_take,Nat.min_eq_left (by omega),Nat.zero_add,vK]
  by_cases hb:bit (ps.getD i ([],[])).2 k=true
  ·rw[if_pos hb,if_pos hb];rfl
  ·rw[if_neg hb,if_neg hb]
   unfold PL;rw[Zg (fun a:Nat×Nat=>(Aj ps a).2)]
   have e:(ps.getD i ([],[])).1.getD k ([],[])=(ps.getD i ([],[])).1[k]:=by rw[List.getD_eq_getElem?_getD,List.getElem?_eq_getElem hlt];rfl
   simp only[Aj,e,List.foldl_cons,List.foldl_nil]
theorem ahj(ps:List aG)(n:Nat)(hn:n≤ps.length):PL ps (tH ps n)=uI (ps.take n):=by
 induction n with
 | zero=>rfl
 | succ n ih =>
  have hlt:n<ps.length:=by omega
  have e:ps.getD n ([],[])=ps[n]:=by rw[List.getD_eq_getElem?_getD,List.getElem?_eq_getElem hlt];rfl
  rw[tH,ahi _ _ _ _ (Nat.le_refl _),ih (by omega),List.take_length,List.take_succ_eq_append_getElem hlt]
  unfold uI;rw[qO,List.foldl_append,e];simp[aH,rY]
theorem LP(ps:List aG):PL ps (jw ps)=uI ps:=by
 have:=ahj ps ps.length (Nat.le_refl _);rwa [List.take_length] at this
theorem abO(ps:List aG):(jw ps).length=(uI ps).length:=by rw[←LP];simp
theorem Wu(ps:List aG):(jw ps).map (·.1)=(uI ps).map (·.1):=by
 rw[←LP,List.map_map];rfl
theorem Zh{α β:Type}(f:α→β)(k:Bytes)(m:List (Bytes×α)):getM k (m.map (fun x=>(x.1,f x.2)))=(getM k m).map f:=by
 induction m with
 | nil=>rfl
 | cons x m ih =>
  by_cases h:x.1=k
  ·simp[getM,h]
  ·simp[getM,h,ih]
theorem getM_in{α:Type}(k:Bytes)(v:α)(m:List (Bytes×α))(h:getM k m=some v):(k,v)∈m:=by
 induction m with
 | nil=>cases h
 | cons x m ih =>
  by_cases hx:x.1=k
  ·simp only[getM,hx,if_true,Option.some.injEq] at h
   rw[←hx,←h];exact List.mem_cons_self
  ·simp only[getM,hx,if_false] at h
   exact List.mem_cons_of_mem _ (ih h)
theorem abP(ps:List aG):bW ps=(((jw ps).map (·.1)).mergeSort leB).map fun id=>Aj ps ((getM id (jw ps)).getD (0,0)):=by
 unfold bW;rw[Wu];refine List.map_congr_left fun id hid=>?_
 have qF:id∈(uI ps).map (·.1):=by simpa using hid
 rw[←Wu] at qF;have hs:=getM_some id (jw ps);rw[decide_eq_true qF] at hs;obtain⟨a,ha⟩:=Option.isSome_iff_exists.1 hs;have bD:=(Ym ps ps.length (id,a) (getM_in _ _ _ ha)).2.2;rw[←LP,Zh (fun a:Nat×Nat=>(Aj ps a).2),ha]
 simp only[Option.map_some,Option.getD_some];exact Prod.ext bD.symm rfl
theorem plAll_get(ps:List aG)(id:Bytes)(qF:id∈(jw ps).map (·.1)):∃a,getM id (jw ps)=some a∧a.1<ps.length∧a.2<(ps.getD a.1 ([],[])).1.length:=by
 have hs:=getM_some id (jw ps);rw[decide_eq_true qF] at hs;obtain⟨a,ha⟩:=Option.isSome_iff_exists.1 hs;obtain⟨h1,h2,_⟩:=Ym ps ps.length (id,a) (getM_in _ _ _ ha);exact⟨a,ha,by simp only at h1;omega,h2⟩
theorem aeX(p:aG)(i:Nat)(m:PlL)(k:Nat):(vK p i m k).length≤m.length+k:=by
 induction k with
 | zero=>exact Nat.le_refl _
 | succ k ih =>
  unfold vK;split
  ·omega
  ·have:∀(a:Bytes) (v:Nat×Nat) (m:PlL),(fU a v m).length≤m.length+1:=by
    intro a v m;induction m with
    | nil=>simp[fU]
    | cons x m ih=>by_cases h:x.1=a<;>simp[fU,h];omega
   have:=this (p.1.getD k ([],[])).1 (i,k) (vK p i m k);omega
def N9(os:List (Option Nat)):Option Nat:=if os.any (fun o=>o.isSome) then some (jD os) else none
def Kv(M S N:List (Option Nat)):Option Nat:=if M.all (fun o=>o.isSome) && !(N.any fun o=>o.isSome) then some (jD M+jD S) else none
theorem UR(Fs:List DF)(i:Nat):lY Fs i=N9 (Fs.map fun F=>F i):=by
 unfold lY N9;rw[List.any_map];rfl
theorem bothF_at(M S N:List DF)(i:Nat):lZ M S N i=Kv (M.map fun F=>F i) (S.map fun F=>F i) (N.map fun F=>F i):=by
 unfold lZ Kv;rw[List.any_map,List.all_map];rfl
def lH(wt:Bytes→Nat)(t:bP)(q:QL):Option Nat:=if bg q t then some (jK wt q t) else none
def BZ(l:List au)(wt:Bytes→Nat)(q:QL):DF:=fun i=>match l[i]? with
 | some d=>lH wt (aA d.2) q
 | none=>none
theorem RX(wt:Bytes→Nat)(t:bP)(qs:List QL):(qs.map (lH wt t)).any (fun o=>o.isSome)=qP qs t:=by
 induction qs with
 | nil=>rfl
 | cons q qs ih =>
  rw[List.map_cons,List.any_cons,ih,qP];unfold lH;cases bg q t<;>simp
theorem has_all(wt:Bytes→Nat)(t:bP)(qs:List QL):(qs.map (lH wt t)).all (fun o=>o.isSome)=allT qs t:=by
 induction qs with
 | nil=>rfl
 | cons q qs ih =>
  rw[List.map_cons,List.all_cons,ih,allT];unfold lH;cases bg q t<;>simp
theorem RY(wt:Bytes→Nat)(t:bP)(qs:List QL):jD (qs.map (lH wt t))=DV wt qs t:=by
 induction qs with
 | nil=>rfl
 | cons q qs ih =>
  rw[List.map_cons,jD,ih,DV];unfold lH;cases bg q t<;>simp
theorem may_all(wt:Bytes→Nat)(t:bP)(qs:List QL)(h:allT qs t=true):DV wt qs t=bX wt qs t:=by
 induction qs with
 | nil=>rfl
 | cons q qs ih =>
  rw[allT,Bool.and_eq_true] at h;rw[DV,bX,ih h.2,if_pos h.1]
theorem Zi(l:List au)(wt:Bytes→Nat)(p:bP)(hp:p≠[])(h0:(p.headD ([],0)).2=0)(i:Nat):
  kM l p (bB wt p) i=match l[i]? with
   | some d=>if 0<kC p (aA d.2) then some (bB wt p*kC p (aA d.2)) else none
   | none=>none:=by
 unfold kM;cases l[i]? with
 | none=>rfl
 | some d=>simp only[countP_eq p d.2 hp h0,Nat.mul_comm]
theorem ahk(s:Bytes)(ts:List Bytes)(f:Bytes)(hn:ts.Nodup)(hm:∀x∈aA s,x.1∈ts)(hf:f≠[]):
  zC ((ts.filter fun t=>f.isPrefixOf t).map fun t=>(placesIn s t).length)=jl f (aA s):=by
 unfold jl;rw[if_neg hf];have h:=aaE ((aA s).filter fun y=>f.isPrefixOf y.1) (ts.filter fun t=>f.isPrefixOf t) (hn.sublist List.filter_sublist)
  (fun x hx=>by
   obtain⟨h1,h2⟩:=List.mem_filter.1 hx;exact List.mem_filter.2 ⟨hm x h1,h2⟩)
 rw[←h];congr 1;refine List.map_congr_left fun t ht=>?_
 have wN:=(List.mem_filter.1 ht).2;congr 1;unfold placesIn;generalize aA s=ts;clear h hm;induction ts with
 | nil=>rfl
 | cons x ts ih =>
  by_cases e:x.1=t
  ·rw[List.filter_cons_of_pos (by rw[e];exact wN),List.filterMap_cons_some (b:=(x.2:Int)) (by rw[if_pos e]),List.filterMap_cons_some (b:=(x.2:Int)) (by rw[if_pos e]),ih]
  ·rw[List.filterMap_cons_none (by rw[if_neg e]),ih]
   by_cases hx:f.isPrefixOf x.1=true
   ·rw[List.filter_cons_of_pos (p:=fun y:Bytes×Nat=>f.isPrefixOf y.1) hx,List.filterMap_cons_none (by rw[if_neg e])]
   ·rw[List.filter_cons_of_neg (p:=fun y:Bytes×Nat=>f.isPrefixOf y.1) hx]
theorem ahl(l:List au)(i:Nat)(d:au)(hd:l[i]?=some d)(ts:List Bytes):jD (ts.map fun t=>oC l t i)=zC (ts.map fun t=>(placesIn d.2 t).length):=by
 induction ts with
 | nil=>rfl
 | cons t ts ih =>
  rw[List.map_cons,List.map_cons,jD,zC,ih];unfold oC;rw[hd];by_cases e:placesIn d.2 t=[]
  ·simp[e]
  ·simp[e]
theorem any_terms(l:List au)(i:Nat)(d:au)(hd:l[i]?=some d)(ts:List Bytes):(ts.map fun t=>oC l t i).any (fun o=>o.isSome)=decide (0<zC (ts.map fun t=>(placesIn d.2 t).length)):=by
 induction ts with
 | nil=>rfl
 | cons t ts ih =>
  rw[List.map_cons,List.map_cons,List.any_cons,zC,ih];unfold oC;rw[hd];by_cases e:placesIn d.2 t=[]
  ·simp only[if_pos e];rw[e];simp
  ·have:0<(placesIn d.2 t).length:=List.length_pos_iff.2 e
   simp only[if_neg e,Option.isSome_some,Bool.true_or];exact(decide_eq_true (by omega)).symm
theorem prefix_at(l:List au)(f:Bytes)(i:Nat):Ag (dK l) l f i=match l[i]? with
  | some d=>if 0<jl f (aA d.2) then some (jl f (aA d.2)) else none
  | none=>none:=by
 unfold Ag;by_cases hf:f=[]
 ·rw[if_pos hf]
  cases l[i]? with
  | none=>rfl
  | some d=>simp[DW,jl,hf]
 ·rw[if_neg hf,UR,List.map_map]
  cases hd:l[i]? with
  | none =>
   unfold N9;rw[if_neg];intro h;obtain⟨o,ho,hs⟩:=List.any_eq_true.1 h;obtain⟨t,_,rfl⟩:=List.mem_map.1 ho;simp[oC,hd] at hs
  | some d =>
   have hn:(dK l).Nodup:=(TB l).imp (fun h=>by intro e;subst e;exact absurd h (List.lt_irrefl _))
   have hm:∀x∈aA d.2,x.1∈dK l:=fun x hx=>(NZ l x.1).2 (List.mem_flatMap.2 ⟨d,List.mem_of_getElem? hd,List.mem_map.2 ⟨x,hx,rfl⟩⟩)
   have hb:=ahk d.2 (dK l) f hn hm hf;show N9 (((dK l).filter fun t=>f.isPrefixOf t).map fun t=>oC l t i)=_
   unfold N9;rw[any_terms l i d hd,ahl l i d hd,hb];simp
mutual
theorem UU(l:List au)(wt:Bytes→Nat)(i:Nat):∀q:QL,Fh q=true→fO l wt q i=BZ l wt q i
 | .mk k s m sh n,hk=>by
  rw[Fh,Bool.and_eq_true,Bool.and_eq_true,Bool.and_eq_true,Bool.and_eq_true,decide_eq_true_eq,decide_eq_true_eq] at hk
  obtain⟨⟨k1,k2⟩,⟨km,ks⟩,kn⟩:=hk
  have hM:=Kw l wt i m km
  have hS:=Kw l wt i sh ks
  have hN:=Kw l wt i n kn
  unfold BZ
  by_cases e1:k=1
  ·subst e1
   rw[fO,if_pos rfl]
   unfold tu
   by_cases hi:i<l.length
   ·rw[if_pos hi,List.getElem?_eq_getElem hi];simp[lH,bg,jK]
   ·rw[if_neg hi,List.getElem?_eq_none (by omega)]
  ·by_cases e4:k=4
   ·subst e4
    rw[fO,if_neg e1,if_pos rfl,prefix_at]
    cases l[i]? with
    | none=>rfl
    | some d=>simp only[lH,bg,jK];simp
   ·by_cases e5:k=5
    ·subst e5
     rw[fO,if_neg e1,if_neg e4,if_pos rfl,bothF_at,hS,hN]
     cases hd:l[i]? with
     | none =>
      have yw:∀(q:QL),BZ l wt q i=none:=fun q=>by unfold BZ;rw[hd]
      unfold Af
      cases m with
      | nil =>
       simp only[fZ,if_pos]
       cases sh with
       | nil =>
        have:tu l.length i=none:=by unfold tu;rw[if_neg (by have:=List.getElem?_eq_none_iff.1 hd;omega)]
        simp[fZ,Kv,xY,this]
       | cons a b =>
        have:lY (fZ l wt (a::b)) i=none:=by
         rw[UR,hS];unfold N9
         rw[if_neg]
         intro h
         obtain⟨o,ho,hs⟩:=List.any_eq_true.1 h
         obtain⟨t,_,rfl⟩:=List.mem_map.1 ho
         rw[yw] at hs;cases hs
        rw[if_neg (by simp[fZ])]
        simp[Kv,xY,this]
      | cons a b =>
       rw[if_neg (by simp[fZ]),hM]
       simp[Kv,yw]
     | some d =>
      have SH:∀qs:List QL,(qs.map fun q=>BZ l wt q i)=qs.map (lH wt (aA d.2)):=fun qs=>List.map_congr_left fun q _=>by unfold BZ;rw[hd]
      rw[SH] at hM hS hN
      rw[SH,SH]
      have hi:i<l.length:=(List.getElem?_eq_some_iff.1 hd).1
      simp only[lH,bg,jK,if_neg e1,show ¬(5:Int)=2 by decide,show ¬(5:Int)=3 by decide,show ¬(5:Int)=4 by decide,if_pos,if_false]
      unfold Af
      cases m with
      | nil =>
       simp only[fZ,if_pos]
       cases sh with
       | nil =>
        have he:tu l.length i=some 1:=by unfold tu;rw[if_pos hi]
        unfold Kv
        rw[RX]
        simp[fZ,xY,he,allT,bX,DV,jD]
       | cons a b =>
        rw[if_neg (by simp[fZ])]
        have hs:lY (fZ l wt (a::b)) i=if qP (a::b) (aA d.2) then some (DV wt (a::b) (aA d.2)) else none:=by
         rw[UR,hS];unfold N9;rw[RX,RY]
        unfold Kv
        rw[RX,RY]
        simp only[List.map_cons,List.map_nil,List.all_cons,List.all_nil,Bool.and_true,xY,hs]
        cases qP (a::b) (aA d.2)<;>simp[allT,bX,jD]
      | cons a b =>
       rw[if_neg (by simp[fZ]),hM]
       unfold Kv
       rw[has_all,RX,RY,RY]
       by_cases ha:allT (a::b) (aA d.2)=true
       ·rw[ha,may_all _ _ _ ha];simp
       ·rw[Bool.eq_false_iff.2 ha];simp
    ·have e23:k=2∨k=3:=by omega
     by_cases hp:ay s=[]
     ·rw[fO,if_neg e1,if_neg e4,if_neg e5,if_pos hp]
      cases l[i]? with
      | none=>rfl
      | some d =>
       have:bg (.mk k s m sh n) (aA d.2)=false:=by
        rw[bg,if_neg e1,hp]
        rcases e23 with rfl|rfl<;>simp[kC]
       simp[DW,lH,this]
     ·have hh:=aeC s
      rcases e23 with rfl|rfl
      ·rw[fO,if_neg e1,if_neg e4,if_neg e5,if_neg hp,if_pos rfl,Zi l wt _ (by intro h;rw[List.take_eq_nil_iff] at h;simp[hp] at h) hh.2]
       cases l[i]? with
       | none=>rfl
       | some d=>simp only[lH,bg,jK];simp
      ·rw[fO,if_neg e1,if_neg e4,if_neg e5,if_neg hp,if_neg (by decide),Zi l wt _ hp hh.1]
       cases l[i]? with
       | none=>rfl
       | some d=>simp only[lH,bg,jK];simp
theorem Kw(l:List au)(wt:Bytes→Nat)(i:Nat):∀qs:List QL,xX qs=true→(fZ l wt qs).map (fun F=>F i)=qs.map fun q=>BZ l wt q i
 | [],_=>rfl
 | q::qs,hk=>by
  rw[xX,Bool.and_eq_true] at hk
  rw[fZ,List.map_cons,List.map_cons,UU l wt i q hk.1,Kw l wt i qs hk.2]
end
def qZ(ds:List au)(t:Bytes):Nat:=(ds.filter fun d => !(placesIn d.2 t).isEmpty).length
def wtL(ds:List au)(t:Bytes):Nat:=yO ds.length (qZ ds t)
abbrev dY:=Bytes×Nat
def kZ(wt:Bytes→Nat)(q:QL)(d:au):Option dY:=(lH wt (aA d.2) q).map fun s=>(d.1,s)
def lG(a b:dY):Bool:=decide (b.2<a.2)||(a.2==b.2&&leB a.1 b.1)
def D6(ds:List au)(q:QL):List dY:=ds.filterMap (kZ (wtL ds) q)
def bA(ds:List au)(q:QL):List dY:=(D6 ds q).mergeSort lG
theorem wtL_perm{a b:List au}(h:a.Perm b):wtL a=wtL b:=by
 funext t;unfold wtL qZ;rw[h.length_eq,(h.filter _).length_eq]
theorem F7(a b c:dY)(h1:lG a b=true)(h2:lG b c=true):lG a c=true:=by
 unfold lG at h1 h2 ⊢;simp only[Bool.or_eq_true,decide_eq_true_eq,Bool.and_eq_true,beq_iff_eq] at h1 h2 ⊢;rcases h1 with h1|⟨h1,g1⟩<;>rcases h2 with h2|⟨h2,g2⟩
 ·left;omega
 ·left;omega
 ·left;omega
 ·right;exact⟨by omega,List.le_trans g1 g2⟩
theorem LQ(a b:dY):(lG a b||lG b a)=true:=by
 unfold lG;simp only[Bool.or_eq_true,decide_eq_true_eq,Bool.and_eq_true,beq_iff_eq];rcases Nat.lt_trichotomy a.2 b.2 with h|h|h
 ·right;left;exact h
 ·rcases List.le_total a.1 b.1 with g|g
  ·left;right;exact⟨h,g⟩
  ·right;right;exact⟨h.symm,g⟩
 ·left;left;exact h
theorem MH(a b:dY)(h1:lG a b=true)(h2:lG b a=true):a=b:=by
 unfold lG at h1 h2;simp only[Bool.or_eq_true,decide_eq_true_eq,Bool.and_eq_true,beq_iff_eq] at h1 h2;rcases h1 with h1|⟨h1,g1⟩<;>rcases h2 with h2|⟨h2,g2⟩
 ·omega
 ·omega
 ·omega
 ·exact Prod.ext (List.le_antisymm g1 g2) h1
theorem LU(a b:List dY)(h:a.Perm b)(ha:a.Pairwise (fun x y=>lG x y=true))(hb:b.Pairwise (fun x y=>lG x y=true)):a=b :=
 h.eq_of_pairwise (fun x y _ _ h1 h2=>MH x y h1 h2) ha hb
theorem yB(ds:List au)(q:QL):(bA ds q).Pairwise (fun x y=>lG x y=true):=List.pairwise_mergeSort F7 LQ _
theorem sN(ds:List au)(q:QL):(bA ds q).Perm (D6 ds q):=List.mergeSort_perm _ _
theorem Wv{a b:List au}(q:QL)(h:a.Perm b):bA a q=bA b q:=by
 refine LU _ _ ((sN a q).trans (List.Perm.trans ?_ (sN b q).symm)) (yB a q) (yB b q);unfold D6;rw[wtL_perm h];exact h.filterMap _
def zD(F:DF)(n:Nat):List (Nat×Nat):=(List.range n).filterMap fun i=>(F i).map fun s=>(i,s)
theorem Wx(F:DF)(doc n:Nat)(h:doc≤n)(h0:∀j,doc≤j→j<n→F j=none):zD F n=zD F doc:=by
 unfold zD;obtain⟨k,rfl⟩:∃k,n=doc+k:=⟨n-doc,by omega⟩
 rw[List.range_add,List.filterMap_append];rw[show((List.range k).map (doc+·)).filterMap (fun i=>(F i).map fun s=>(i,s))=[] from List.filterMap_eq_nil_iff.2 (fun x hx=>by
  obtain⟨j,hj,rfl⟩:=List.mem_map.1 hx;rw[h0 _ (by omega) (by have:=List.mem_range.1 hj;omega)];rfl),List.append_nil]
theorem ahm(F:DF)(doc d s:Nat)(h:jd F doc (some (d,s))):zD F (d+1)=zD F doc++[(d,s)]:=by
 obtain⟨h1,h2,h3⟩:=h;rw[show zD F (d+1)=zD F d++[(d,s)] by unfold zD;rw[List.range_succ,List.filterMap_append];simp[h2],Wx F doc d h1 h3]
theorem part_hits(l:List au)(g:Bytes)(wt:Bytes→Nat)(q:QL)(k n:Nat):((List.range n).filterMap fun i=>(BZ l wt q i).map fun s=>(i,s)).filterMap (fun x=>if bit g (k+x.1) then none else(l[x.1]?).map fun d=>(d.1,x.2)) =
  (nC g (l.take n) k).filterMap (kZ wt q):=by
 induction n with
 | zero=>rfl
 | succ n ih =>
  rw[List.range_succ,List.filterMap_append,List.filterMap_append,ih];by_cases hn:n<l.length
  ·rw[List.take_succ_eq_append_getElem hn,Wq,List.filterMap_append]
   congr 1;have:(l.take n).length=n:=by simp;omega
   rw[this];simp only[List.filterMap_cons,List.filterMap_nil,BZ,List.getElem?_eq_getElem hn];unfold kZ;cases hh:lH wt (aA l[n].2) q with
   | none=>cases bit g (k+n)<;>simp[hh]
   | some s=>cases hb:bit g (k+n)<;>simp[hh,hb,List.getElem?_eq_getElem hn]
  ·have e1:(l.take (n+1))=l.take n:=by rw[List.take_of_length_le (by omega),List.take_of_length_le (by omega)]
   rw[e1];simp[BZ,List.getElem?_eq_none (show l.length≤n by omega)]
end
end Go.Proofs.YthijhicdmnoifaaGreatDoor
