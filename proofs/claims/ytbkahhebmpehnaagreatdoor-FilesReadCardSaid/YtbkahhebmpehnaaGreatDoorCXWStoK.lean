/- Joined: WStoK to WFsM -/
import Derived.Test.YtbkahhebmpehnaaGreatDoorCXWStoD0
import Derived.Test.YtbkahhebmpehnaaGreatDoorCXWJrnI
set_option linter.all false
set_option maxRecDepth 100000
set_option maxHeartbeats 8000000
namespace Go.Proofs.YtbkahhebmpehnaaGreatDoor
open Go.Proofs.Tryz
section
open Go.RowKit
theorem gv.ofU{w:World}{FJ FC F:Nat→Prop}{sb b p cb tb most clock:Nat}{ms:Int}{mb:Nat}{m:bU}{ti:List (Nat×Value)}{σ:StL}{K:Nat}(h:StU w FJ FC sb b p cb tb most clock ms mb m ti σ)(hF:∀k,FJ k∨FC k∨k=sb∨k=tb→F k)(hl:∀k,F k→k<w.heap.size)(hK:clock≤K):gv w F sb b σ K :=
 ⟨_,_,_,_,_,_,_,_,_,_,_,h,hF,hl,hK⟩
theorem Dj(w w5:World)(F F5:Nat→Prop)(sb b:Nat)(σ':StL)(K:Nat)(err:Int)(tmps:Array Value)(ht:tmps.getD 2 undef=.pointer (some ⟨w.heap.size+1,0,none⟩))(h5:gv w5 F5 sb b σ' K)(he:Boxed w5 (w.heap.size+1) 29 (.int .i64 err))(hb:Boxed w5 w.heap.size 70 (au sb))
  (SQ:∀k,F5 k→F k∨(w.heap.size+2≤k∧k<w5.heap.size)) (hF:∀k,F k→k<w.heap.size) (t:ae F w w5) (mO:err=0→σ'.tx=[]) :
  Leaves prog Tryz.f69 tmps (fun e w'=>e=.returned (.int .i64 err)∧ce w' (grow F w w') sb b (if err=0 then σ'.close else σ'.hZ.close) K∧ae F w w')
   [{ target:=Target.fn (Fn.func 132) #[.pointer (some ⟨w.heap.size+1,0,none⟩),.pointer (some ⟨w.heap.size,0,none⟩)],args:=#[] }] .returning w5:=by
 have n1:¬F5 (w.heap.size+1):=fun e=>by rcases SQ _ e with e|e;have:=hF _ e;omega;omega
 have n2:¬F5 w.heap.size:=fun e=>by rcases SQ _ e with e|e;have:=hF _ e;omega;omega
 refine leaves_cons (f:=132) (args:=#[au (w.heap.size+1),au w.heap.size]) κ (by simp[go_sem]) ?_
 refine(PL w5 F5 sb b _ _ σ' K err h5 he hb n1 n2 mO).mono ?_;rintro e u' w' ⟨rfl,rfl,h,t'⟩;have OB:Boxed w' (w.heap.size+1) 29 (.int .i64 err):=(t'.block _ (aJ he) n1).trans he;have tt:ae F w w':=t.step (t'.mono (fun k hk=>(SQ k hk).elim .inl (fun hk=>.inr ⟨U,hk.2⟩)))
 exact⟨.int .i64 err,vE rfl _ _ ⟨w.heap.size+1,0,none⟩ _ ht (Ar _ _ err OB.cell),rfl,h.mono (fun k hk=>(SQ k hk).elim .inl (fun hk=>.inr ⟨U,by have:=t'.size;omega⟩)) (fun k hk=>hk.elim (fun hk=>Ψ (hF k hk) tt.size) (fun hk=>hk.2)) (Ω _),tt⟩
theorem UQ(w:World)(F:Nat→Prop)(sb b:Nat)(σ:StL)(K:Nat)(h:ce w F sb b σ K)(hn:iL σ)(hp:σ.state true=0→σ.tx≠[]→KT σ):
  Calls prog 69 #[au sb] w fun e w'=>e=.returned (.int .i64 σ.bj.2)∧ce w' (grow F w w') sb b σ.bj.1 K∧ae F w w':=by
 obtain⟨wa,dO⟩:∃wa,wa=(w.alloc (.cells #[au sb] 70)).alloc (.cells #[.int .i64 0] 29):=⟨_,rfl⟩;have hq:Q w wa:=by rw[dO];exact(Q.alloc _ _).trans (Q.alloc _ _)
 have bP:wa.heap.size=w.heap.size+2:=by rw[dO];simp
 have eH:Boxed wa w.heap.size 70 (au sb):=by rw[dO];exact(Boxed.new w _ _).alloc _
 have hb1:Boxed wa (w.heap.size+1) 29 (.int .i64 0):=by
  rw[dO];have:=Boxed.new (w.alloc (.cells #[au sb] 70)) 29 (.int .i64 0);rwa [World.size_alloc] at this
 have hF:=h.lt;have hh:=h.keep hq;have d0:=eH.cell;have d1:=hb1.cell;have e1:=hb1.frozen;have aC:=hh.lr true;have hmf:∀(fn:Fn) (first cap:Array Value) (w:World),(Instr.makeFunc fn first cap).run prog w=.ok (.func fn first cap) w:=fun _ _ _ _=>rfl
 by_cases hz:σ.state true=0
 ·obtain⟨lW,L6⟩:=wU hz
  rw[hz] at aC;have uU:=bP;obtain⟨FJ,FC,p,cb,tb,most,clock,ms,mb,m,ti,hg,hFF,ay,bL⟩:=hh;obtain⟨c0,c1,c2,c3,c4,c5⟩:=Blk.c6 hg.box;obtain⟨n1,n2,n3,n4,n5,n6⟩:=hn.num lW;have bQ:=hg.ok lW;have hdi:=sY wa FC cb p σ.n most clock ms mb m σ.tx σ.j.d.get hg.ca bQ;have Zv:=hn;have mR:σ.tx.length≤48:=n5;have HDI:=Hd hdi;have aX:=Hd aC;have HG:=Hd hg;have og:=Hd hFF;have HF:=Hd hF;have HQ:=Hd hq;have wG:=Hd eH;have Bl:=Hd hb1;have HP:=Hd (hp hz);have pq:=Hd bQ;have HZ:=Hd hz;have HJN:=Hd (And.intro n1 (And.intro n2 (And.intro n3 n4)));have mD:=Hd bP;clear hdi aC hg hFF hF hq eH hb1 hp bQ hz n1 n2 n3 n4 n6 hn bP ay uU;go_enter_defers func69,ntmps69;go_upto_region 1 with fail;rw[←dO];clear dO;go_wp2_with fail;refine aX.out.mono ?_;rintro e w1 ⟨rfl,rfl⟩;go_wp2_with fail;refine HDI.out.mono ?_;rintro e w2 ⟨v2,rfl,DX,q2⟩;have He:=QE v2 σ.tx w2 (Sl.cx DX) U;have Zg:=Hd He;have Q2:=Hd q2;clear He q2 DX;go_wp2_with fail;refine Zg.out.mono ?_;rintro e w3 ⟨v3,rfl,Zw,q3⟩;have q3':Q wa w3:=Q2.out.trans q3;have OL:wa.heap.size≤w2.heap.size:=Q2.out.size;obtain⟨a3,cap3,rfl,-⟩:=aY Zw;have b0:=wG.out.cell;have b1:=Bl.out.cell;have b2:=Bl.out.frozen;have x0:=aI q3' d0;have x1:=aI q3' d1;have HO3:=Hd Zw;have fu:=Hd q3';have aay:Boxed w3 (w.heap.size+1) 29 (.int .i64 0):=(q3'.block _ (aJ Bl.out)).trans Bl.out;have adC:Boxed w3 w.heap.size 70 (au sb):=(q3'.block _ (aJ wG.out)).trans wG.out;have f1:=aay.frozen;have nu:=HG.out.keep q3';obtain⟨g0,g1,g2,g3,g4,g5⟩:=Blk.c6 nu.box;have YC:=Hd aay;have YD:=Hd adC;have gF:=Hd nu;clear Zw q3 q3' aay adC nu c0 c1 c2 c3 c4 c5 b0 b1 b2 d0 d1 e1;by_cases mO:σ.tx=[]
  ·have hlen:¬(0:Int)<(σ.tx.length:Int):=by rw[mO];decide
   have SS:=Nt w3 FC cb p most clock ms mb m gF.out.ca pq.out.keys pq.out.ptrs;have p8:=Hd SS;have HTX:=Hd mO;clear SS mO;go_wp2_with fail;refine p8.out.mono ?_;rintro e w4 ⟨rfl,h4,t4⟩;have qM:¬FC (w.heap.size+1):=fun e=>by have:=HF.out _ (og.out _ (.inr (.inl e)));omega
   have y1:=t4.cell x1 qM;have GZ:Boxed w4 (w.heap.size+1) 29 (.int .i64 0):=(t4.block _ (aJ YC.out) qM).trans YC.out;have f2:=GZ.frozen;have H4:=Hd h4;have T4:=Hd t4;have aiq:=Hd GZ;clear h4 t4 GZ;go_wp2_with fail;have rO:σ.bj=(({ σ with tx:=[] }:StL).close,0):=by unfold StL.bj;rw[η (by rw[HZ.out];decide),Φ HTX.out];rfl
   rw[rO];have SV:=aiq.out.set (.int .i64 0);have t5:ae (fun k=>k=w.heap.size+1) w4 (w4.setCell ⟨w.heap.size+1,0,none⟩ (.int .i64 0)):=ae.setCell (a:=⟨w.heap.size+1,0,none⟩) (ae.refl (fun k=>k=w.heap.size+1) w4) (.inl rfl) _
   have aU:w.heap.size≠w.heap.size+1:=U;have xQ:¬FC w.heap.size:=fun e=>by have:=HF.out _ (og.out _ (.inr (.inl e)));omega
   have VR:Boxed (w4.setCell ⟨w.heap.size+1,0,none⟩ (.int .i64 0)) w.heap.size 70 (au sb):=by
    have z0:Boxed w4 w.heap.size 70 (au sb):=(T4.out.block _ (aJ YD.out) xQ).trans YD.out;exact(t5.block _ (aJ z0) aU).trans z0
   have hge:∀k,F k→k≠w.heap.size+1:=fun k hk e=>by have:=HF.out k hk;omega
   have hU:StU (w4.setCell ⟨w.heap.size+1,0,none⟩ (.int .i64 0)) FJ FC sb b p cb tb most clock ms mb _ ti { σ with tx:=[] } :=
    ⟨t5.blk (T4.out.blk gF.out.box gF.out.sF.2) (hge _ (og.out _ (.inr (.inr (.inl rfl))))),(gF.out.tm.same (T4.out.block _ gF.out.tm.lt gF.out.tF.2)).same (t5.block _ (Ψ gF.out.tm.lt T4.out.size) (hge _ (og.out _ (.inr (.inr (.inr rfl)))))),(gF.out.jr.beside T4.out gF.out.apart).beside t5 (fun k hk=>hge k (og.out k (.inl hk))),H4.out.beside t5 (fun k hk=>hge k (og.out k (.inr (.inl hk)))),gF.out.apart,gF.out.sF,gF.out.tF,fun _=>pq.out.cleaned _ (fun i hi=>by rw[HTX.out];rfl)⟩
   have tq:ae F w w4:=(ae.br (HQ.out.trans fu.out)).trans (T4.out.mono (fun k hk=>og.out k (.inr (.inl hk))))
   have tz:ae F w (w4.setCell ⟨w.heap.size+1,0,none⟩ (.int .i64 0)):=tq.setCell (.inr κ) _;exact Dj w _ F F sb b { σ with tx:=[] } K 0 _ rfl (gv.ofU hU og.out (fun k hk=>Ψ (HF.out k hk) tz.size) bL) SV VR (fun k hk=>.inl hk) HF.out tz (fun _=>rfl)
  ·have hlen:(0:Int)<(σ.tx.length:Int):=by have:=UV.2 mO;omega
   obtain⟨jn,ju,jh,jt⟩:=HJN.out;have nN:=HP.out mO;have aW:w.heap.size+2≤w2.heap.size:=by have:=mD.out;omega
   have aaz:∀k,FJ k→k<w.heap.size:=fun k hk=>HF.out k (og.out k (.inl hk))
   have adD:∀k,FC k→k<w.heap.size:=fun k hk=>HF.out k (og.out k (.inr (.inl hk)))
   have dO:eC w3 FJ (.slice a3 σ.tx.length cap3) σ.tx:=⟨SlO.owned HO3.out (fun g hg e=>by have:=aaz g e;omega),fun x hx=>by have:=jt x hx;have:=Zv.max;exact⟨U,U⟩⟩
   have yt:=I6 w3 FJ p b σ.j _ σ.tx gF.out.jr jn ⟨U,n5,fun x hx=>by have h1:=jt x hx;have:=Zv.max;exact⟨U,h1.2.2⟩⟩ (fun x hx=>by have:=jt x hx;rw[jh];exact⟨U,this.2.1⟩) dO ju
   have rO:σ.bj=if (σ.j.bj σ.tx).2=0 then(({ σ with j:=(σ.j.bj σ.tx).1,tx:=[] }:StL).close,0) else(({ σ with j:=(σ.j.bj σ.tx).1 }:StL).hZ.close,(σ.j.bj σ.tx).2):=by unfold StL.bj;rw[η (by rw[HZ.out];decide),η mO];rfl
   have rQ:=nN.get;have adE:=nN.dead;have fT:=JL.fh σ.j σ.tx;have Jz:=Hd rO;have VT:=Hd yt;have Fw:=Hd rQ;have HDD:=Hd adE;have uN:=Hd fT;have Mi:=Hd (And.intro aaz adD);clear yt rQ adE fT nN rO dO jn ju jh jt mO n5 aaz adD;generalize σ.j.bj σ.tx=jc at *;obtain⟨j',err⟩:=jc;simp only at VT Fw HDD uN Jz;go_wp2_with fail;refine VT.out.mono ?_;rintro e w4 ⟨rfl,h4,t4⟩;have qM:¬FJ (w.heap.size+1):=fun e=>by have:=Mi.out.1 _ e;omega
   have xQ:¬FJ w.heap.size:=fun e=>by have:=Mi.out.1 _ e;omega
   have YE:Boxed w4 (w.heap.size+1) 29 (.int .i64 0):=(t4.block _ (aJ YC.out) qM).trans YC.out;have aaA:Boxed w4 w.heap.size 70 (au sb):=(t4.block _ (aJ YD.out) xQ).trans YD.out;have f2:=YE.frozen;have f3:=YE.cell;have t5:ae (fun k=>k=w.heap.size+1) w4 (w4.setCell ⟨w.heap.size+1,0,none⟩ (.int .i64 err)):=ae.setCell (a:=⟨w.heap.size+1,0,none⟩) (ae.refl (fun k=>k=w.heap.size+1) w4) (.inl rfl) _
   have adF:=YE.set (.int .i64 err);have aU:w.heap.size≠w.heap.size+1:=U;have adG:Boxed (w4.setCell ⟨w.heap.size+1,0,none⟩ (.int .i64 err)) w.heap.size 70 (au sb):=(t5.block _ (aJ aaA) aU).trans aaA;have hge:∀k,F k→k≠w.heap.size+1:=fun k hk e=>by have:=HF.out k hk;omega
   have gY:=t5.blk (t4.blk gF.out.box gF.out.sF.1) (hge _ (og.out _ (.inr (.inr (.inl rfl)))));have xD:=gF.out.tm.same (t4.block _ gF.out.tm.lt gF.out.tF.1);have hm5:=xD.same (t5.block _ xD.lt (hge _ (og.out _ (.inr (.inr (.inr rfl))))));have Hr:=h4.beside t5 (fun k hk e=>by rcases hk with hk|hk;exact hge k (og.out k (.inl hk)) e;have:=fu.out.size;have:=mD.out;omega)
   have hc5:=(gF.out.ca.beside t4 (fun k hk e=>gF.out.apart k e hk)).beside t5 (fun k hk=>hge k (og.out k (.inr (.inl hk))))
   have zY:w3.heap.size≤w4.heap.size:=t4.size;have adH:w.heap.size+2≤w3.heap.size:=by have:=fu.out.size;have:=mD.out;omega
   have tw5:ae F w (w4.setCell ⟨w.heap.size+1,0,none⟩ (.int .i64 err)):=((ae.br (HQ.out.trans fu.out)).trans (t4.mono (fun k hk=>og.out k (.inl hk)))).setCell (.inr κ) _
   have zZ:(w4.setCell ⟨w.heap.size+1,0,none⟩ (.int .i64 err)).heap.size=w4.heap.size:=bO _ _ _;have SX:=Hd adF;have SY:=Hd adG;have wM:=Hd gY;have Zx:=Hd hm5;have O1:=Hd Hr;have HC5:=Hd hc5;have GR:=Hd (And.intro zY (And.intro adH zZ));have TW5:=Hd tw5;have wN:=Hd hge;clear h4 t4 YE aaA t5 adF adG gY xD hm5 Hr hc5 zY adH tw5 zZ hge OL aW x0 x1;go_upto_region 8 with fail;generalize w4.setCell ⟨w.heap.size+1,0,none⟩ (.int .i64 err)=w5 at *;have x0:=SY.out.cell;have x1:=SX.out.cell;obtain⟨k0,k1,k2,k3,k4,k5⟩:=Blk.c6 wM.out;have uV:∀k,grow FJ w3 w4 k→¬FC k:=fun k hk e=>hk.elim (fun hk=>gF.out.apart k hk e) (fun hk=>by have:=Mi.out.2 k e;have:=GR.out.2.1;omega)
   have hsF:¬grow FJ w3 w4 sb∧¬FC sb:=⟨fun hk=>hk.elim gF.out.sF.1 (fun hk=>by have:=gF.out.box.lt;omega),gF.out.sF.2⟩
   have htF:¬grow FJ w3 w4 tb∧¬FC tb:=⟨fun hk=>hk.elim gF.out.tF.1 (fun hk=>by have:=gF.out.tm.lt;omega),gF.out.tF.2⟩
   have SQ:∀k,grow FJ w3 w4 k∨FC k∨k=sb∨k=tb→grow F w3 w4 k:=fun k hk=>by
    rcases hk with hk|hk|hk|hk
    ·exact hk.elim (fun hk=>.inl (og.out k (.inl hk))) .inr
    ·exact .inl (og.out k (.inr (.inl hk)))
    ·exact .inl (og.out k (.inr (.inr (.inl hk))))
    ·exact .inl (og.out k (.inr (.inr (.inr hk))))
   have JD:=Hd uV;have HSF:=Hd hsF;have yw:=Hd htF;have HF5:=Hd SQ;clear uV hsF htF SQ;by_cases hz:err=0
   ·subst hz
    have SS:=Nt w5 FC cb p most clock ms mb m HC5.out pq.out.keys pq.out.ptrs;have rO:=Jz.out;rw[Φ rfl] at rO;have p8:=Hd SS;have aaB:=Hd rO;clear SS rO Jz;go_wp2_with fail;refine p8.out.mono ?_;rintro e w6 ⟨rfl,h6,t6⟩;have qM:¬FC (w.heap.size+1):=fun e=>by have:=Mi.out.2 _ e;omega
    have xQ:¬FC w.heap.size:=fun e=>by have:=Mi.out.2 _ e;omega
    have YF:Boxed w6 (w.heap.size+1) 29 (.int .i64 0):=(t6.block _ (aJ SX.out) qM).trans SX.out;have adI:Boxed w6 w.heap.size 70 (au sb):=(t6.block _ (aJ SY.out) xQ).trans SY.out;have y1:=YF.cell;have y2:=YF.frozen;have H6:=Hd h6;have T6:=Hd t6;have air:=Hd YF;have adJ:=Hd adI;clear h6 t6 YF adI;go_wp2_with fail;rw[aaB.out];have t7:ae (fun k=>k=w.heap.size+1) w6 (w6.setCell ⟨w.heap.size+1,0,none⟩ (.int .i64 0)):=ae.setCell (a:=⟨w.heap.size+1,0,none⟩) (ae.refl (fun k=>k=w.heap.size+1) w6) (.inl rfl) _
    have aU:w.heap.size≠w.heap.size+1:=U;have hgj:∀k,grow FJ w3 w4 k→k≠w.heap.size+1:=fun k hk e=>by rcases hk with hk|hk;exact wN.out k (og.out k (.inl hk)) e;have:=GR.out.2.1;omega
    have hU:StU (w6.setCell ⟨w.heap.size+1,0,none⟩ (.int .i64 0)) (grow FJ w3 w4) FC sb b p cb tb most clock ms mb _ ti { σ with j:=j',tx:=[] } :=
     ⟨t7.blk (T6.out.blk wM.out gF.out.sF.2) (wN.out _ (og.out _ (.inr (.inr (.inl rfl))))),(Zx.out.same (T6.out.block _ Zx.out.lt gF.out.tF.2)).same (t7.block _ (Ψ Zx.out.lt T6.out.size) (wN.out _ (og.out _ (.inr (.inr (.inr rfl)))))),(O1.out.beside T6.out JD.out).beside t7 hgj,H6.out.beside t7 (fun k hk=>wN.out k (og.out k (.inr (.inl hk)))),JD.out,HSF.out,yw.out,fun _=>by
      have e:({ σ with j:=j',tx:=[] }:StL).n=σ.n:=uN.out;rw[e];exact pq.out.cleaned _ (Fw.out (by first|rfl|trivial))⟩
    have tz:ae F w (w6.setCell ⟨w.heap.size+1,0,none⟩ (.int .i64 0)):=(TW5.out.trans (T6.out.mono (fun k hk=>og.out k (.inr (.inl hk))))).setCell (.inr κ) _
    have aaC:w4.heap.size≤(w6.setCell ⟨w.heap.size+1,0,none⟩ (.int .i64 0)).heap.size:=by have h1:=T6.out.size;have h2:=t7.size;have h3:=GR.out.2.2;omega
    exact Dj w _ F (grow F w3 w4) sb b { σ with j:=j',tx:=[] } K 0 _ rfl (gv.ofU hU HF5.out (fun k hk=>hk.elim (fun hk=>Ψ (HF.out k hk) tz.size) (fun hk=>U)) bL) (air.out.set _) ((t7.block _ (aJ adJ.out) aU).trans adJ.out) (fun k hk=>hk.elim .inl (fun hk=>.inr ⟨by have:=GR.out.2.1;omega,U⟩)) HF.out tz (fun _=>rfl)
   ·have e1:(err==0)=false:=Γ.2 hz
    have rO:=Jz.out;rw[η hz] at rO;have f5:=SX.out.frozen;have aaB:=Hd rO;have aaD:=Hd hz;clear rO Jz hz;go_wp2_with fail;rw[aaB.out];have t7:ae (fun k=>k=w.heap.size+1) w5 (w5.setCell ⟨w.heap.size+1,0,none⟩ (.int .i64 err)):=ae.setCell (a:=⟨w.heap.size+1,0,none⟩) (ae.refl (fun k=>k=w.heap.size+1) w5) (.inl rfl) _
    have aU:w.heap.size≠w.heap.size+1:=U;have hgj:∀k,grow FJ w3 w4 k→k≠w.heap.size+1:=fun k hk e=>by rcases hk with hk|hk;exact wN.out k (og.out k (.inl hk)) e;have:=GR.out.2.1;omega
    have hU:StU (w5.setCell ⟨w.heap.size+1,0,none⟩ (.int .i64 err)) (grow FJ w3 w4) FC sb b p cb tb most clock ms mb m ti { σ with j:=j' } :=
     ⟨t7.blk wM.out (wN.out _ (og.out _ (.inr (.inr (.inl rfl))))),Zx.out.same (t7.block _ Zx.out.lt (wN.out _ (og.out _ (.inr (.inr (.inr rfl)))))),O1.out.beside t7 hgj,HC5.out.beside t7 (fun k hk=>wN.out k (og.out k (.inr (.inl hk)))),JD.out,HSF.out,yw.out,fun hd=>by
      have hx:j'.d.dead=false:=hd;rw[HDD.out aaD.out] at hx;exact absurd hx Z⟩
    have tz:ae F w (w5.setCell ⟨w.heap.size+1,0,none⟩ (.int .i64 err)):=TW5.out.setCell (.inr κ) _;have aaC:w4.heap.size≤(w5.setCell ⟨w.heap.size+1,0,none⟩ (.int .i64 err)).heap.size:=by have h2:=t7.size;have h3:=GR.out.2.2;omega
    have abI:=fun (tmps:Array Value) (ht:tmps.getD 2 undef=.pointer (some ⟨w.heap.size+1,0,none⟩))=>Dj w _ F (grow F w3 w4) sb b { σ with j:=j' } K err tmps ht (gv.ofU hU HF5.out (fun k hk=>hk.elim (fun hk=>Ψ (HF.out k hk) tz.size) (fun hk=>U)) bL) (SX.out.set _) ((t7.block _ (aJ SY.out) aU).trans SY.out) (fun k hk=>hk.elim .inl (fun hk=>.inr ⟨by have:=GR.out.2.1;omega,U⟩)) HF.out tz (fun e=>absurd e aaD.out)
    simp only[η aaD.out] at abI;exact abI _ rfl
 ·have hr:σ.bj=(σ,σ.state true):=by unfold StL.bj;rw[Φ hz]
  rw[hr];have e1':(σ.state true==0)=false:=Γ.2 hz;have bN:=hb1.set (.int .i64 (σ.state true));have OG:Q w (wa.setCell ⟨w.heap.size+1,0,none⟩ (.int .i64 (σ.state true))):=Qs.st hq _ _ κ;have hend:=h.quiet OG (Ω K);have HE:=Hd hend;have aX:=Hd aC;have qC:=Hd bN;clear hend OG bN hr hz aC hh hn hp h hF bP eH hb1 hq;simp only at HE ⊢;generalize σ.state true=x at *;go_enter_defers func69,ntmps69;go_upto_region 1 with fail;rw[←dO];clear dO;go_wp2_with fail;refine aX.out.mono ?_;rintro e w1 ⟨rfl,rfl⟩;go_wp2_with fail;exact⟨.int .i64 x,vE rfl _ _ ⟨w.heap.size+1,0,none⟩ _ rfl (Ar _ _ x qC.out.cell),rfl,HE.out.1,HE.out.2⟩
theorem QF(rs ss:List (Nat×Nat)):ext (rs++ss)=ext rs++ext ss:=by simp[ext]
theorem BW(l:List (Nat×Nat)):∀u∈ext l,u.oneCell'=true:=by
 intro u hu;obtain⟨d,_,hd⟩:=Pi.1 hu;simp at hd;rcases hd with rfl|rfl<;>simp[Value.oneCell']
theorem NQ:(prog.info? 87).map (fun i=>(i.zero,i.size,i.bytes))=some (some (.agg #[.int .i64 0,.int .i64 0]),2,16):=by kernel_rfl
theorem Hb(W0:World){w:World}{ops:Array Oper}{o:Oper}{a:Act}{K:Act→World→Prop}{Qx:Exit→Act→World→Prop}{E:Prop}(pQ:o.guard=none)(s x:Operand)
  (ho:o.op=.call { callee:=.builtin .append,args:=#[s,x],argTypes:=#[46,46] })
  (v:Value) (n:Nat) (xs:List (Nat×Nat)) (hs:a.eval s=v) (aF:w.ownsRow W0.heap.size 87 2 v n (ext xs)) (hq:Q W0 w)
  (vx:Value) (m:Nat) (ys:List (Nat×Nat)) (hx:a.eval x=vx) (hl:Sl w vx m 2 (ext ys)) (qO:n+m≤1000000000)
  (h:∀v' w',w'.ownsRow W0.heap.size 87 2 v' (n+m) (ext (xs++ys))→Q W0 w'→K (a.put o.dst v') w') :
  if Region.wanted o (yielded ops a.tmps)=true then Oper.wp prog o a w K Qx else E:=by
 obtain⟨i0,hi,bY,bB,aW⟩:=info_parts NQ;have hw:Region.wanted o (yielded ops a.tmps)=true:=by simp[Region.wanted,pQ]
 rw[Φ hw];refine wZ w s x 46 ho W0.heap.size 87 i0 (.agg #[.int .i64 0,.int .i64 0]) 2 16 underlying46 hi bY bB aW rfl Z v n (ext xs) hs aF vx m (ext ys) hx hl (BW ys) (by unfold maxLen;omega) U hq.size ?_
 ·intro v' w' h2 h3 _
  exact h v' w' (by rw[QF];exact h2) (bD hq aF h3 (Ω _) hq.size)
theorem Ha(w:World)(x y:Nat):Sl (w.alloc (.cells #[.int .i64 (x:Nat),.int .i64 (y:Nat)] 87)) (.slice (some ⟨w.heap.size,0,none⟩) 1 1) 1 2 (ext [(x,y)]) :=
 Sl.lit w #[.int .i64 (x:Nat),.int .i64 (y:Nat)] 87 1 2 rfl
theorem rm(w:World)(F:Nat→Prop)(sb b:Nat)(σ:StL)(K:Nat)(h:ce w F sb b σ K)(hn:iL σ):
  Calls prog 42 #[au sb] w fun e w'=>∃v,e=.returned v∧w'.ownsRow w.heap.size 87 2 v (mW σ.ai (ak σ.n) σ.n).length (ext (mW σ.ai (ak σ.n) σ.n))∧Q w w':=by
 have iH:=hn.max;have iU:=hn.map;have dZ:=h.hblocks;have rF:∀W,Q w W→Calls prog 39 #[au sb] W fun e w'=>e=.returned (.int .i64 (ak σ.n:Nat))∧W=w':=fun W q=>by
  obtain⟨FJ,FC,p,cb,tb,most,clock,ms,mb,m,ti,hg,_⟩:=h.keep q;exact Ew hg iH
 have hru:=fun (W:World)=>vm σ.ai (σ.n:Nat) W (by rw[iU];unfold aD;omega) U U
 rw[JX hn] at hru;obtain⟨p,cb,tb,bZ⟩:=h.boxed;obtain⟨c0,c1,c2,c3,c4,c5⟩:=Blk.c6 bZ;have hud:mW σ.ai (ak σ.n) σ.n=((aK σ.ai σ.n++[(σ.n,0)]).foldl nG ([],ak σ.n)).1:=rfl;obtain⟨RES,iQ⟩:∃RES,RES=((aK σ.ai σ.n++[(σ.n,0)]).foldl nG ([],ak σ.n)).1:=⟨_,rfl⟩;rw[hud,←iQ];have vR:=Hd iQ;clear iQ;have iV:=Hd dZ;have VU:=Hd rF;have HRU:=Hd hru;have hf1:ak σ.n≤4200:=by unfold ak aD;omega
 clear dZ rF hru bZ hud h hn iU;generalize σ.ai=m1 at *;generalize ak σ.n=lo at *;generalize σ.n=n at *;have vw:(aK m1 n).length+1≤1000000000:=by have:=oC m1 n;omega
 have FK:=Hd vw;have KK:=Hd (Q.refl w);clear vw;go_enter func42,ntmps42;go_wp2_with fail;refine(VU.out _ (Q.refl w)).mono ?_;rintro e w1 ⟨rfl,rfl⟩;go_wp2_with fail;go_region_law
  (first
   | (go_simp;go_at_call 83;with_reducible refine(iV.out _ ω).mono ?_;rintro e w5 ⟨rfl,rfl⟩)
   | (go_simp;go_at_call 89;with_reducible refine(HRU.out _).mono ?_;rintro e w6 ⟨v6,rfl,q6,o6⟩;have s':Q w w6:=Q.trans ω (Q.of q6);clear KK;have KK:=Hd s';have c2':=aI s' c2;have O6:=Hd (gT (base':=w.heap.size) o6 (Ω _));clear s' q6 o6)
   | (refine Hb w ρ _ _ ρ v6 (aK m1 n).length (aK m1 n) ρ (ownsRow_below O6.out (Q.alloc _ _)) (KK.out.trans (Q.alloc _ _)) (.slice (some ⟨w6.heap.size,0,none⟩) 1 1) 1 [(n,0)] ρ (Ha w6 n 0) FK.out ?_;intro v7 w7 h7 q7;obtain⟨a7,cap7,rfl,-⟩:=aY h7;have H7:=Hd h7;have Q7:=Hd q7;clear h7 q7))
 all_goals
  go_simp;have Cw:∀k (hk:k<(aK m1 n++[(n,0)]).length),(aK m1 n++[(n,0)])[k].1+(aK m1 n++[(n,0)])[k].2≤n:=fun k hk=>by
   have hm:=LO hk;rcases My.1 hm with hm|hm
   ·exact((GC m1 n).1 _ hm).2.2.2.1
   ·rw[Mo] at hm;rw[hm];exact Ω _
  have hlen:(aK m1 n++[(n,0)]).length=(aK m1 n).length+1:=κ;have hrn:(aK m1 n).length≤n:=oC m1 n;have Mj:=Sl.cx H7.out;have aP:∀k (hk:k<(aK m1 n++[(n,0)]).length),∃g off,a7=some ⟨g,off,none⟩∧w7.cell? ⟨g,off+k*2,none⟩=some (.int .i64 ((aK m1 n++[(n,0)])[k].1:Nat))∧w7.cell? ⟨g,off+k*2+1,none⟩=some (.int .i64 ((aK m1 n++[(n,0)])[k].2:Nat)):=fun k hk=>by
   obtain⟨_,a,cap,e,hc⟩:=Mj;simp only[Value.slice.injEq] at e;obtain⟨rfl,_,_⟩:=e;obtain⟨g,off,e,hc⟩:=hc U;have h1:=FZ (aK m1 n++[(n,0)]) k hk;exact⟨g,off,e,by have:=hc _ _ h1.1;rwa [UX] at this,by have:=hc _ _ h1.2;rwa [UX,←Ps] at this⟩
  obtain⟨i1,qG,wH,tN,hy2⟩:=info_parts NQ;have ow:=Hd Cw;have xW:=Hd aP;have uN:=Hd hlen;clear Cw aP Mj H7 c0 c1 c2 c3 c4 c5 c2' O6 KK FK hlen;generalize aK m1 n++[(n,0)]=RR at *;generalize (aK m1 n).length=rl at *;go_wp2_with fail;go_loopw [3,4,22] (fun v at_ i wr=>∃(k:Nat) (st:List (Nat×Nat)×Nat),i=.int .i64 (k:Nat)∧k≤rl+1∧at_=.int .i64 (st.2:Nat)∧st.1.length≤k∧st.2≤4200∧Hid (wr.ownsRow w7.heap.size 87 2 v st.1.length (ext st.1))∧Hid ((RR.take k).foldl nG ([],lo)=st)∧Hid (Q w7 wr)) (fun _ _ i _=>rl+1-(intOf i).toNat)
  case atStart=>exact⟨0,([],lo),rfl,L0 _,rfl,Ω _,hf1,Hd (World.ownsRow_nil _ _ _ _),Hd rfl,Hd (Q.refl _)⟩
  case round =>
   obtain⟨k,⟨acc,pos⟩,rfl,hk,rfl,jy,Ym,HOW,aX,HQ⟩:=hrel;simp only at jy Ym HOW ⊢;by_cases ay:k<rl+1
   ·have bq:(k:Int)<(rl:Int)+1:=U
    have oq:k<RR.length:=by rw[uN.out];exact ay
    obtain⟨g,off,rfl,x1,x2⟩:=xW.out k oq;have y1:=aI HQ.out x1;have y2:=aI HQ.out x2;have qp:=ow.out k oq;have aC:(RR.take (k+1)).foldl nG ([],lo)=nG (acc,pos) RR[k]:=by
     rw[Mb oq,V2,aX.out];rfl
    generalize RR[k]=r at *;obtain⟨a,c⟩:=r;simp only at y1 y2 qp;unfold nG at aC;simp only at aC;have Dv:=Hd aC;clear aC x1 x2 aX;by_cases rQ:pos<a
    ·have e1:(pos:Int)<(a:Int):=U
     have aC:=Dv.out;rw[Φ rQ] at aC;have aaE:=Hd aC;have hw:IntKind.i64.wrap ((a:Int)-(pos:Int))=(a:Int)-(pos:Int):=IntWalk.i64_in _ U;have gD:IntKind.i64.wrap ((a:Int)+(c:Int))=(a:Int)+(c:Int):=IntWalk.i64_in _ U;have cO:∀u∈#[Value.int .i64 (pos:Nat),Value.int .i64 ((a:Int)-(pos:Int))].toList,u.oneCell'=true:=by intro u hu;simp at hu;rcases hu with rfl|rfl<;>rfl
     have dI:(acc.length+1)*16≤140737488355328:=U;have qJ:=Hd cO;have uY:=Hd dI;have eH:w7.heap.size≤(wr.alloc (.cells #[.int .i64 (a:Nat),.int .i64 (c:Nat)] 87)).heap.size:=by have:=HQ.out.size;simp;omega
     have CB:=ownsRow_below HOW.out (Q.alloc wr (.cells #[.int .i64 (a:Nat),.int .i64 (c:Nat)] 87));have Ht:=Hd CB;have HVB:=Hd (fun kk hk=>(HOW.out.lt kk hk).2)
     have eG:Q w7 (wr.alloc (.cells #[.int .i64 (a:Nat),.int .i64 (c:Nat)] 87)):=HQ.out.trans (Q.alloc _ _);have bJ:=Hd eG;have z0:(wr.alloc (.cells #[.int .i64 (a:Nat),.int .i64 (c:Nat)] 87)).cell? ⟨wr.heap.size,0,none⟩=some (.int .i64 (a:Nat)):=(Blk.new wr 87 #[.int .i64 (a:Nat),.int .i64 (c:Nat)]).cell 0 _ rfl;have z1:(wr.alloc (.cells #[.int .i64 (a:Nat),.int .i64 (c:Nat)] 87)).cell? ⟨wr.heap.size,1,none⟩=some (.int .i64 (c:Nat)):=(Blk.new wr 87 #[.int .i64 (a:Nat),.int .i64 (c:Nat)]).cell 1 _ rfl;have hz:(wr.alloc (.cells #[.int .i64 (a:Nat),.int .i64 (c:Nat)] 87)).heap.size=wr.heap.size+1:=κ;have HZ:=Hd hz;clear cO dI CB aC Dv rQ eG hz;go_upto_region 7 with fail;generalize wr.alloc (.cells #[.int .i64 (a:Nat),.int .i64 (c:Nat)] 87)=wx at *;have amA:wx.heap.size≤wx.heap.size:=Ω _;go_wp2_with (at_builtin;refine bG wx ρ _ _ 46 ρ w7.heap.size 87 _ i1 (.agg #[.int .i64 0,.int .i64 0]) 2 16 underlying46 qG wH tN hy2 rfl Z Z _ _ _ ρ Ht.out #[.int .i64 (pos:Nat),.int .i64 ((a:Int)-(pos:Int))] ρ rfl qJ.out uY.out eH ?_)
     intro g11 jI w11 iB gu lQ jR iC;have qj:Q w7 w11:=bD bJ.out Ht.out gu (Ω _) eH;have gW:w11.ownsRow w7.heap.size 87 2 (.slice (some ⟨g11,0,none⟩) (acc.length+1) jI) (acc++[(pos,a-pos)]).length (ext (acc++[(pos,a-pos)])):=by
      rw[Δ,QF,show ext [(pos,a-pos)]=[.int .i64 (pos:Nat),.int .i64 ((a:Int)-(pos:Int))] by simp only[ext,NO,VS,NF];rw[show(((a-pos:Nat):Nat):Int)=(a:Int)-(pos:Int) by omega]];exact iB
     have v0:w11.cell? ⟨wr.heap.size,0,none⟩=some (.int .i64 (a:Nat)):=by
      exact gu.cell z0 (fun h=>by have:=HVB.out _ h.symm;simp at this)
     have v1:w11.cell? ⟨wr.heap.size,1,none⟩=some (.int .i64 (c:Nat)):=by
      exact gu.cell z1 (fun h=>by have:=HVB.out _ h.symm;simp at this)
     have oz:=Hd qj;have qW:=Hd gW;clear iB gu lQ jR iC gW qj;go_wp2_with fail;go_roundw;case rel=>exact⟨k+1,(acc++[(pos,a-pos)],a+c),by go_num,U,by push_cast;rfl,by simp;omega,by simp only;omega,qW,aaE,oz⟩
     case measure=>simp[intOf];omega
    ·have e1:¬(pos:Int)<(a:Int):=U
     have aC:=Dv.out;rw[η rQ] at aC;have aaE:=Hd aC;have gD:IntKind.i64.wrap ((a:Int)+(c:Int))=(a:Int)+(c:Int):=IntWalk.i64_in _ U;have CB:=ownsRow_below HOW.out (Q.alloc wr (.cells #[.int .i64 (a:Nat),.int .i64 (c:Nat)] 87));have Ht:=Hd CB;have eG:Q w7 (wr.alloc (.cells #[.int .i64 (a:Nat),.int .i64 (c:Nat)] 87)):=HQ.out.trans (Q.alloc _ _);have bJ:=Hd eG;clear CB aC Dv rQ eG;go_wp2_with fail;go_roundw;case rel=>exact⟨k+1,(acc,a+c),by go_num,U,by push_cast;rfl,by simp only;omega,by simp only;omega,Ht,aaE,bJ⟩
     case measure=>simp[intOf];omega
   ·have bq:¬(k:Int)<(rl:Int)+1:=U
    obtain rfl:k=rl+1:=U;have aC:=aX.out;rw[Mp (by rw[uN.out];exact Ω _)] at aC
    have Dv:=Hd aC;have HOO:=Hd (gT (base':=w.heap.size) HOW.out Q7.out.size);have VH:=Hd (Q7.out.trans HQ.out);clear aC aX HOW HQ;go_wp2_with fail;go_ret;rw[vR.out,Dv.out];exact⟨_,rfl,HOO.out,VH.out⟩
theorem Hh(a b:Bytes)(h:a.length+b.length≤9223372036854775807)(W:World):(Op.stringOp .add ⟨a.toArray⟩ ⟨b.toArray⟩).run prog W=.ok (ah (a++b)) W:=by
 rw[run_string_add_sum W _ _ (by simpa[ByteArray.size] using h),bytes_append]
theorem vd(l:Bytes)(n k:Nat):cnt l n≤cnt l (n+k):=by
 induction k with
 | zero=>exact Ω _
 | succ k ih =>
  refine LS ih ?_;show cnt l (n+k)≤cnt l (n+k+1);rw[cnt];omega
def xg(d:af)(k:Nat):Bytes:=((List.range k).map fun i=>d.get (63+i)).flatten
theorem NS(d:af)(k:Nat):xg d (k+1)=xg d k++d.get (63+k):=by
 unfold xg;rw[Ty,N5,Tl];simp
theorem QG(d:af)(k:Nat)(h:∀i,i<k→(d.get (63+i)).length=256):(xg d k).length=256*k:=by
 induction k with
 | zero=>rfl
 | succ k ih=>rw[NS,Δ,ih (fun i hi=>h i U),h k U];omega
theorem QH(w:World)(F:Nat→Prop)(b:Nat)(d:af)(most:Nat)(h:cF w F b d)(hF:∀k,F k→k<w.heap.size)(hd:d.Ok)(hp:d.dead=false→d.p.length≤800000)(hm:64≤most∧most≤1024)(ho:DK d):
  Calls prog 77 #[au b,.int .i64 (most:Nat)] w fun e w'=>∃sb,e=.returned (.tuple #[au sb,.int .i64 0])∧ce w' (grow F w w') sb b ⟨(aL d).1,mapD (aL d).1.d,[],false,[]⟩ 0∧ae F w w':=by
 have tZ:=NR w F b d h hF hd (by have:=ho.big;omega) hp
 have e1:¬(most:Int)<64:=U;have e2:¬(1024:Int)<(most:Int):=U;have fT:=F7 d;have iH:=hd.max;obtain⟨o1,o2,o3,o4,o5,o6,o7,o8,o9⟩:=ho;have abK:mapD (aL d).1.d=xg (aL d).1.d (aD d.l.length):=by unfold mapD xg;rw[fT]
 have pV:∀i,i<d.l.length→((aL d).1.d.get i).length=256:=fun i hi=>af.gh o6 i (by rw[fT];exact hi)
 have He:=fun (W:World) (p:Nat)=>AS W p most U hm.2
 have zX:=@run_makeMap prog;unfold IB at tZ;generalize aL d=oj at *;obtain⟨j,jc⟩:=oj;simp only at *;subst o1;have HJ:=Hd tZ;have Zg:=Hd He;have HM:=Hd hm;have HF:=Hd hF;have JE:=Hd abK;have FH:=Hd pV;clear tZ h hd hp hm He hF abK pV;go_enter func77,ntmps77;go_wp2_with fail;refine HJ.out.mono ?_;rintro e w1 ⟨t1,hh⟩;rcases hh with ⟨h0,p,rfl,DZ⟩|⟨h0,_⟩
 ·have cO:=Zg.out w1 p
  have vg:=Hd cO;have pE:=Hd DZ;have T1:=Hd t1;clear cO DZ t1 h0;go_wp2_with fail;refine vg.out.mono ?_;rintro e w2 ⟨cb,rfl,Bp,q2⟩;have VY:=Hd Bp;have Q2:=Hd q2;clear Bp q2;go_upto_region 8 with fail;clear zX;generalize zu:(w2.alloc (Obj.map #[] 0)).alloc (Obj.cells #[au p,au cb,.string ⟨#[]⟩,.string ⟨#[]⟩,.bool false,.map (some w2.heap.size)] 158)=w3;have gI:Blk w3 (w2.heap.size+1) 158 (nI p cb w2.heap.size ⟨j,[],[],false,[]⟩):=by
   rw[←zu];have:=Blk.new (w2.alloc (Obj.map #[] 0)) 158 (nI p cb w2.heap.size ⟨j,[],[],false,[]⟩);rwa [World.size_alloc] at this
  have zV:di w3 w2.heap.size []:=by
   rw[←zu];exact(di.made w2).same ((Q.alloc (w2.alloc (Obj.map #[] 0)) _).block _ κ)
  have q23:Q w2 w3:=by rw[←zu];exact(Q.alloc _ _).trans (Q.alloc _ _)
  have OL:w3.heap.size=w2.heap.size+2:=by rw[←zu];simp
  clear zu;have Tg:=fun (W:World) (t:ae (fun k=>k=w2.heap.size+1) w3 W)=>(pE.out.keep (Q2.out.trans q23)).beside t (fun k hk e=>by have h1:=pE.out.lt k hk;have h2:=Q2.out.size;omega)
  obtain⟨c0,c1,c2,c3,c4,c5⟩:=Blk.c6 gI;have f2:=gI.frozen 2;have Ti:=Tg w3 (ae.refl _ _);have k0:=Ti.box.c8.1;have vT:aD d.l.length≤2∧1≤aD d.l.length∧d.l.length≤2048*aD d.l.length∧63+aD d.l.length<d.l.length:=by unfold aD;omega
  have eu:=oL w3 _ b j.d Ti.dev;rw[fT] at eu;have Mk:=NI w3 p b j Ti.box o2.log2;rw[o4] at Mk;have eP:=fun (W:World)=>ML d.l.length W U
  have nO:=fun (W:World)=>BS d.l.length W U
  have Eb:=fun (W:World)=>Nv d.l.length W U
  have dz:=fun (W:World) (t:ae (fun k=>k=w2.heap.size+1) w3 W) (i:Nat) (hi:i<d.l.length)=>(show Calls prog 151 #[au b,.int .i64 (i:Nat)] W fun e w'=>e=.returned (.tuple #[ah (j.d.get i),.int .i64 0])∧Q W w' from by
   have hr:=AQ W _ b j.d (i:Nat) (Tg W t).dev (by rw[fT];exact iH) (fun _=>by have:=o2.eJ o3;omega)
   have e:j.d.read (i:Nat)=(j.d.get i,0):=by unfold af.read;rw[af.gC o3 i (by rw[fT];exact hi),Φ rfl];rfl
   rw[e] at hr;exact hr)
  have aaL:=dz w3 (ae.refl _ _) 62 U;rw[o7] at aaL;have ais:=Hd aaL;clear aaL;have iU:(xg j.d (aD d.l.length)).length=256*aD d.l.length:=QG _ _ (fun i hi=>FH.out _ U)
  have dQ:=fun (W:World) (i:Nat) (hi:i≤2048*aD d.l.length)=>Ny (mapD j.d) (i:Nat) W (by rw[JE.out,iU];omega) U U
  have ku:∀i,i≤2048*aD d.l.length→fA (mapD j.d) (i:Nat)=i:=fun i hi=>by unfold fA;rw[JE.out,iU];omega
  have YG:=fun (W:World)=>dQ W (2048*aD d.l.length) (Ω _)
  have M6:=fun (W:World)=>dQ W d.l.length vT.2.2.1
  have Tj:=fun (W:World)=>dQ W (ak d.l.length) (by unfold ak;omega)
  rw[ku _ (Ω _)] at YG;rw[ku _ vT.2.2.1] at M6;rw[ku _ (by unfold ak;omega),o8] at Tj
  have lK:ak d.l.length<d.l.length:=by unfold ak;omega
  have Cy:((2048*aD d.l.length:Nat):Int)=2048*(aD d.l.length:Int):=by push_cast;rfl
  rw[Cy] at YG;have abL:=vd (mapD j.d) d.l.length (2048*aD d.l.length-d.l.length);rw[show d.l.length+(2048*aD d.l.length-d.l.length)=2048*aD d.l.length by omega] at abL
  have h9:(cnt (mapD j.d) (2048*aD d.l.length):Int)-(cnt (mapD j.d) d.l.length:Int)=2048*(aD d.l.length:Int)-(d.l.length:Int):=U;have amC:cnt (mapD j.d) d.l.length≤4096:=LS (KM _ _) iH;have amo:cnt (mapD j.d) (2048*aD d.l.length)≤4096:=LS (KM _ _) U;have qI:=Hd gI;have Y5:=Hd zV;have Q23:=Hd q23;have HZ3:=Hd OL;have HJW:=Hd Tg;have rR:=Hd eu;have HHO:=Hd Mk;have iW:=Hd eP;have wP:=Hd nO;have Tk:=Hd Eb;have iO:=Hd dz;have HML:=Hd iU;have ait:=Hd YG;have Tm:=Hd M6;have aiu:=Hd Tj;have O7:=Hd o7;have O9:=Hd h9;have HFD:=Hd lK;have pX:¬(d.l.length:Int)<(ak d.l.length:Int):=U;clear gI zV q23 Tg eu Mk eP nO Eb dz iU dQ ku YG M6 Tj o8 o7 o9 Ti Cy abL h9;go_wp2_with fail;refine rR.out.mono ?_;rintro e w4 ⟨rfl,rfl⟩;go_wp2_with fail;refine HHO.out.mono ?_;rintro e w4 ⟨rfl,rfl⟩;go_wp2_with fail;refine(iW.out _).mono ?_;rintro e w4 ⟨rfl,rfl⟩;go_wp2_with fail;refine ais.out.mono ?_;rintro e w4 ⟨rfl,q4⟩;have Q4:=Hd q4;clear q4 c0 c1 c2 c3 c4 c5 f2 k0;go_wp2_with fail;refine(wP.out _).mono ?_;rintro e w5 ⟨rfl,rfl⟩;have Ko:=vT.1;have YH:∀k,k<aD d.l.length→(j.d.get (63+k)).length=256∧63+k<d.l.length:=fun k hk=>⟨FH.out _ (by have:=vT.2.2.2;omega),by have:=vT.2.2.2;omega⟩
  have aaM:=Hd YH;have hall:2048*aD d.l.length≤4096:=U;have gV:d.l.length≤2048*aD d.l.length:=vT.2.2.1;clear YH vT;generalize adN:aD d.l.length=pn at *;have sO:=Hd adN;clear adN;generalize hnE:d.l.length=n at *;have HNE:=Hd hnE;clear hnE;go_wp2_with fail;go_loopw [66] (fun v wr=>∃k:Nat,v=.int .i64 (k:Nat)∧k≤pn∧Hid (ae (fun x=>x=w2.heap.size+1) w3 wr)∧Hid (Blk wr (w2.heap.size+1) 158 (nI p cb w2.heap.size ⟨j,xg j.d k,[],false,[]⟩))) (fun v _=>pn-(intOf v).toNat)
  case atStart=>exact⟨0,rfl,L0 _,ae.br Q4.out,qI.out.stays Q4.out⟩
  case round =>
   obtain⟨k,rfl,hk,HT,HB⟩:=hrel;obtain⟨c0,c1,c2,c3,c4,c5⟩:=Blk.c6 HB.out;have f2:=HB.out.frozen 2;have hjb:=(HJW.out wr HT.out).box;have k0:=hjb.c8.1;by_cases ay:k<pn
   ·have bq:(k:Int)<(pn:Int):=U
    have hr:=iO.out wr HT.out (63+k) (aaM.out k ay).2;have Cy:(((63+k:Nat):Nat):Int)=63+(k:Int):=by push_cast;rfl
    rw[Cy] at hr;have adP:(xg j.d k).length=256*k:=QG _ _ (fun i hi=>(aaM.out i U).1)
    have hsum:=Hh (xg j.d k) (j.d.get (63+k)) (by rw[adP,(aaM.out k ay).1];omega)
    rw[←NS] at hsum;have HR:=Hd hr;clear hr Cy adP hjb;go_wp2_with fail;refine HR.out.mono ?_;rintro e w6 ⟨rfl,q6⟩;have tQ:=HB.out.stays q6;have d2:=tQ.cell 2 (ah (xg j.d k)) rfl;have g2:=tQ.frozen 2;have t6:ae (fun x=>x=w2.heap.size+1) w3 (w6.setCell ⟨w2.heap.size+1,2,none⟩ (ah (xg j.d (k+1)))):=ae.setCell (a:=⟨w2.heap.size+1,2,none⟩) (HT.out.trans (ae.br q6)) (.inl rfl) _
    have Tn:Blk (w6.setCell ⟨w2.heap.size+1,2,none⟩ (ah (xg j.d (k+1)))) (w2.heap.size+1) 158 (nI p cb w2.heap.size ⟨j,xg j.d (k+1),[],false,[]⟩):=tQ.set 2 _;have VE:=Hd t6;have ZC:=Hd Tn;clear q6 tQ t6 Tn;go_wp2_with fail;go_roundw;case rel=>exact⟨k+1,by go_num,U,VE,ZC⟩
    case measure=>simp[intOf];omega
   ·have bq:¬(k:Int)<(pn:Int):=U
    obtain rfl:k=pn:=U;rw[←JE.out] at c2 HB;have KK:=Hd (Q.refl wr);clear f2 k0 hjb;go_wp2_with fail;refine(wP.out _).mono ?_;rintro e w5 ⟨rfl,rfl⟩;go_wp2_with fail;generalize sJ:cnt (mapD j.d) (2048*k)=x1 at *;generalize mh:cnt (mapD j.d) n=x2 at *;have HX:=Hd (And.intro sJ mh);clear sJ mh;go_region_held3 (fun w'=>w'.cell? ⟨w2.heap.size+1,2,none⟩=some (ah (mapD j.d)))
     (first|exact c2|exact aI δ c2)
     (first
      | (go_at_call 91;with_reducible refine(ait.out _).mono ?_;rintro e w6 ⟨rfl,q6⟩;have s':Q wr w6:=Q.trans ω (Q.of q6);clear KK;have KK:=Hd s';clear s' q6)
      | (go_at_call 91;with_reducible refine(Tm.out _).mono ?_;rintro e w7 ⟨rfl,q7⟩;have s':Q wr w7:=Q.trans ω (Q.of q7);clear KK;have KK:=Hd s';clear s' q7))
    all_goals
     have FM:Q wr w7:=ω;have Fx:=Hd FM;have c2':=aI FM c2;clear KK FM c2 c0 c1 c3 c4 c5;have KK:=Hd (Q.refl w7);have eO:IntKind.i64.wrap ((x1:Int)-(x2:Int))=2048*(k:Int)-(n:Int):=by rw[IntWalk.i64_in _ U];exact O9.out
     have gD:IntKind.i64.wrap (2048*(k:Int)-(n:Int))=2048*(k:Int)-(n:Int):=IntWalk.i64_in _ U;go_wp2_with fail;rw[eO];clear eO;go_region_held3 (fun w'=>w'.cell? ⟨w2.heap.size+1,2,none⟩=some (ah (mapD j.d)))
      (first|exact c2'|exact aI δ c2')
      (first
       | (go_at_call 153;with_reducible refine(Tk.out _).mono ?_;rintro e w8 ⟨rfl,q8⟩;have s':Q w7 w8:=Q.trans ω q8;clear KK;have KK:=Hd s';clear s' q8)
       | (go_at_call 82;with_reducible refine(iW.out _).mono ?_;rintro e w9 ⟨rfl,rfl⟩)
       | (go_at_call 91;with_reducible refine(aiu.out _).mono ?_;rintro e w10 ⟨rfl,q10⟩;have s':Q w7 w10:=Q.trans ω (Q.of q10);clear KK;have KK:=Hd s';clear s' q10))
     all_goals
      have EX:Q w7 w10:=ω;have KC:ae (fun x=>x=w2.heap.size+1) w3 w10:=HT.out.trans (ae.br (Fx.out.trans EX))
      have OG:=Fx.out.trans EX;have bB:=T1.out.size;have aW:=Q2.out.size;have aC:ce w10 (grow F w w10) (w2.heap.size+1) b ⟨j,mapD j.d,[],false,[]⟩ 0:=by
       refine⟨grow F w w1,fun x=>w1.heap.size≤x∧x<w2.heap.size,p,cb,w2.heap.size,most,0,0,w1.heap.size,[],[],⟨HB.out.stays OG,Y5.out.same (KC.block _ (by rw[OL];omega) U),HJW.out w10 KC,(VY.out.keep Q23.out).beside KC (fun x hx e=>U),fun x hx hc=>?_,⟨fun hx=>by have:=pE.out.lt _ hx;omega,fun hx=>U⟩,⟨fun hx=>by have:=pE.out.lt _ hx;omega,fun hx=>U⟩,fun _=>cP.empty _ _ _ HM.out,fun x=>Iff.rfl,fun x hx=>by simp at hx⟩,fun x hx=>?_,fun x hx=>?_,Ω _⟩
       ·have:=pE.out.lt x hx;omega
       ·have hz:=KC.size
        rcases hx with hx|hx|hx|hx
        ·exact hx.elim .inl (fun hx=>.inr ⟨hx.1,U⟩)
        ·exact .inr ⟨U,U⟩
        ·exact .inr ⟨U,U⟩
        ·exact .inr ⟨U,U⟩
       ·have hz:=KC.size
        exact hx.elim (fun hx=>by have:=HF.out x hx;omega) (fun hx=>hx.2)
      have JF:ae F w w10:=(T1.out.q (Q2.out.trans Q23.out)).step (KC.mono (fun x hx=>.inr ⟨U,U⟩))
      have aX:=Hd aC;have nW:=Hd JF;clear aC JF KC EX OG KK;go_wp2_with fail;go_ret2;exact⟨_,rfl,aX.out,nW.out⟩
 ·exact absurd rfl h0
theorem I7(n:Nat)(hm:n≤4096):jN (2048*(aD n:Int))=if 1≤aD n then bg (256*aD n) else []:=by
 have hp:aD n≤2:=by unfold aD;omega
 unfold jN bg;by_cases h:1≤aD n
 ·rw[Φ U,Φ h]
  congr 1;omega
 ·rw[η U,η h]
theorem oA(w:World)(e:TypeId)(size:Nat)(cs:Array Value)(h:cs.size=size)(hs:size≤1000):(w.alloc (.cells cs e)).ownsRow w.heap.size e size (.slice (some ⟨w.heap.size,0,none⟩) 1 1) 1 cs.toList :=
 ⟨by simp[h],.inr ⟨w.heap.size,1,cs,rfl,Ω _,heap_alloc_new _ _,by simp[h],by unfold maxLen;omega,by simpa using h,by simpa using Mp (l:=cs.toList) (i:=size) (by simp[h])⟩⟩
def j6(n k:Nat):List WrL:=(62,jv n)::(List.range k).map fun i=>(63+i,aG (iX n) i)
theorem Gl(n k:Nat):j6 n (k+1)=j6 n k++[(63+k,aG (iX n) k)]:=by
 unfold j6;rw[Ty,N5,Of];rfl
theorem I8(n k:Nat):(j6 n k).length=k+1:=by simp[j6]
theorem UU(w:World)(F:Nat→Prop)(b n:Nat)(h:cF w F b (af.new n))(hF:∀k,F k→k<w.heap.size)(h1:128≤n)(h2:n≤4096):
  Calls prog 94 #[au b] w fun e w'=>e=.returned (.int .i64 0)∧cF w' (grow F w w') b (fH (af.new n)).1∧ae F w w':=by
 obtain⟨a,zw,D8,mg,o1,o2,xU,Fp⟩:=Ao n h1 h2;have hl:(af.new n).l.length=n:=Nx;have bQ:=af.lL n U h2;have yT:=(KS n h1 h2).1;have rF:fH (af.new n)=(((aL (aO (af.new n) 60).1).1.bj (bE n)).1.d,((aL (aO (af.new n) 60).1).1.bj (bE n)).2):=by
  unfold fH;rw[η (by rw[hl];omega),η (by rw[a];simp),η (by rw[o1];simp),hl]
 rw[rF] at yT;rw[rF];have dZ:=oL w F b (af.new n) h;rw[hl] at dZ;have Ml:=UR w F b (af.new n) 60 h hF bQ (fun _=>by simp[af.new]) Z (by rw[hl];omega)
 rw[a] at Ml;generalize aO (af.new n) 60=fj at *;obtain⟨d1,c1⟩:=fj;simp only at zw D8 mg o1 o2 xU Fp Ml yT ⊢;have tZ:=fun (W:World) (G:Nat→Prop) (hW:cF W G b d1) (hG:∀k,G k→k<W.heap.size)=>NR W G b d1 hW hG mg U (fun _=>by rw[D8];simp)
 unfold IB at tZ;have jn:=o2.num Z Z;have ju:(aL d1).1.used≤(aL d1).1.s.log:=by have:=o2.hrec.hchain.used;rw[o2.gO];omega
 have jh:(aL d1).1.home=62:=by unfold JL.home;rw[o2.cH]
 generalize aL d1=oj at *;obtain⟨j,c2⟩:=oj;simp only at o1 o2 xU Fp jn ju jh tZ yT ⊢;subst o1;obtain⟨t1,t2,t3,t4⟩:=yK n h1 h2 (fun _=>ag)
 have vT:aD n≤2∧1≤aD n∧63+aD n<n:=by unfold aD;omega
 have Aa:=fun (W:World)=>Be (2048*(aD n:Int)) W
 rw[I7 n h2,Φ vT.2.1] at Aa;have eP:=fun (W:World)=>ML n W U
 have lK:ak n=63+aD n:=rfl;have kE:=fun (W:World)=>vz (bg (256*aD n)) 0 (ak n) true W (by simp[bg];omega) (by simp[bg];omega)
 have eH:bF (bg (256*aD n)) 0 true (ak n)=iX n:=rfl;rw[eH] at kE;have Bt:(iX n).length=256*aD n:=(wV n h1 h2).len;have nO:=fun (W:World)=>BS n W U
 have Eb:=fun (W:World)=>Nv n W U
 have Tt:=fun (W:World) (i:Nat) (hi:i<aD n)=>JV (iX n) i W (by rw[Bt];omega) U
 have G9:bE n=j6 n (aD n):=rfl;have yt:=fun (W:World) (G:Nat→Prop) (p:Nat) (lv:Value) (hj:cG W G p b j) (hl:SlO W G lv (bE n).length 2 (aN (bE n)))=>I6 W G p b j lv (bE n) hj jn ⟨by simp[bE],U,fun w hw=>by have:=t3 w hw;exact⟨U,this.2.2⟩⟩ (fun w hw=>by have:=t3 w hw;rw[jh,xU];exact⟨this.1,this.2.1⟩) ⟨hl,fun w hw=>by have:=t3 w hw;exact⟨U,U⟩⟩ ju
 generalize aaN:j.bj (bE n)=cm at *;obtain⟨j2,c3⟩:=cm;simp only at yT yt ⊢;subst yT;rw[G9] at yt;obtain⟨i1,qG,wH,tN,hy2⟩:=info_parts nC;have iV:=Hd dZ;have HJF:=Hd Ml;have ZE:=Hd tZ;have JE:=Hd Aa;have iW:=Hd eP;have R3:=Hd kE;have wP:=Hd nO;have Tk:=Hd Eb;have Tv:=Hd Tt;have VT:=Hd yt;have HF:=Hd hF;have Ko:=vT.1;have pX:¬(n:Int)<128:=U;clear dZ Ml tZ Aa eP kE nO Eb Tt yt hF h G9 aaN t1 t2 t3 t4 vT jn ju jh o2 Fp xU mg D8 zw rF bQ hl lK eH Bt a;go_enter func94,ntmps94;go_wp2_with fail;refine iV.out.mono ?_;rintro e w1 ⟨rfl,rfl⟩;go_wp2_with fail;refine HJF.out.mono ?_;rintro e w1 ⟨rfl,Bu,t1⟩;have tZ:=ZE.out w1 _ Bu (fun k hk=>hk.elim (fun hk=>Ψ (HF.out k hk) t1.size) (fun hk=>hk.2))
 have HO:=Hd tZ;have T1:=Hd t1;clear tZ Bu t1;go_wp2_with fail;refine HO.out.mono ?_;rintro e w2 ⟨t2,⟨_,p,rfl,qF⟩|⟨h0,_⟩⟩
 ·have T2:=Hd t2;have rM:=Hd qF
  clear t2 qF;go_wp2_with fail;refine(wP.out _).mono ?_;rintro e w3 ⟨rfl,rfl⟩;go_wp2_with fail;refine(JE.out _).mono ?_;rintro e w3 ⟨rfl,q3⟩;have Q3:=Hd (show Q w2 w3 from q3)
  clear q3;go_wp2_with fail;refine(iW.out _).mono ?_;rintro e w4 ⟨rfl,rfl⟩;go_wp2_with fail;refine(R3.out _).mono ?_;rintro e w4 ⟨rfl,q4⟩;have Q4:=Hd (Q3.out.trans (Q.of q4));clear q4;go_wp2_with fail;refine(Tk.out _).mono ?_;rintro e w5 ⟨rfl,q5⟩;have Q5:=Hd (Q4.out.trans q5);clear q5;go_upto_region 12 with fail;have Ec:=oA w5 134 2 #[.int .i64 62,ah (jv n)] rfl Z;have q6:Q w5 (w5.alloc (.cells #[.int .i64 62,ah (jv n)] 134)):=Q.alloc _ _;have HR0:=Hd Ec;have Q6:=Hd q6;clear Ec q6;generalize w5.alloc (.cells #[.int .i64 62,ah (jv n)] 134)=w6 at *;go_wp2_with fail;refine(wP.out _).mono ?_;rintro e w7 ⟨rfl,rfl⟩;generalize aD n=pn at *;go_wp2_with fail;go_loopw [9,44] (fun v i wr=>∃k:Nat,i=.int .i64 (k:Nat)∧k≤pn∧Hid (wr.ownsRow w5.heap.size 134 2 v (j6 n k).length (aN (j6 n k)))∧Hid (Q w5 wr)) (fun _ i _=>pn-(intOf i).toNat)
  case atStart=>exact⟨0,rfl,L0 _,HR0,Q6⟩
  case round =>
   obtain⟨k,rfl,hk,HOW,HQ⟩:=hrel;by_cases ay:k<pn
   ·have bq:(k:Int)<(pn:Int):=U
    have aC:=Gl n k;have kG:=I8 n k;have aX:=Hd aC;clear aC;generalize j6 n k=acc at *;have cO:∀u∈#[Value.int .i64 (63+(k:Int)),ah (aG (iX n) k)].toList,u.oneCell'=true:=by intro u hu;simp at hu;rcases hu with rfl|rfl<;>rfl
    have dI:(acc.length+1)*24≤140737488355328:=U;have qJ:=Hd cO;have uY:=Hd dI;have eH:w5.heap.size≤wr.heap.size:=HQ.out.size;clear cO dI kG;go_wp2_with fail;refine(Tv.out _ k ay).mono ?_;rintro e w8 ⟨rfl,rfl⟩;go_wp2_with (at_builtin;refine bG wr ρ _ _ 102 ρ w5.heap.size 134 _ i1 (.agg #[.int .i64 0,ah []]) 2 24 underlying102 qG wH tN hy2 rfl Z Z _ _ _ ρ HOW.out #[.int .i64 (63+(k:Int)),ah (aG (iX n) k)] ρ rfl qJ.out uY.out eH ?_)
    intro g11 jI w11 iB gu lQ jR iC;have qj:Q w5 w11:=bD HQ.out HOW.out gu (Ω _) eH;have gW:w11.ownsRow w5.heap.size 134 2 (.slice (some ⟨g11,0,none⟩) (acc.length+1) jI) (j6 n (k+1)).length (aN (j6 n (k+1))):=by
     rw[aX.out,Δ,iF,show aN [(63+k,aG (iX n) k)]=[.int .i64 (63+(k:Int)),ah (aG (iX n) k)] by simp[aN,mX]];exact iB
    have oz:=Hd qj;have qW:=Hd gW;clear iB gu lQ jR iC gW qj;go_wp2_with fail;go_roundw;case rel=>exact⟨k+1,by go_num,U,qW,oz⟩
    case measure=>simp[intOf];omega
   ·have bq:¬(k:Int)<(pn:Int):=U
    obtain rfl:k=pn:=U;have hq:Q w2 wr:=Q5.out.trans HQ.out;have yt:=VT.out wr _ p _ (rM.out.keep hq) (SlO.owned HOW.out (fun g hg e=>by have:=rM.out.lt g e;have:=Q5.out.size;omega))
    have HJ:=Hd yt;have Fx:=Hd hq;clear yt hq;go_wp2_with fail;refine HJ.out.mono ?_;rintro e w9 ⟨rfl,h9,t9⟩;have bB:=T1.out.size;have aW:=T2.out.size;have hzq:=Fx.out.size;have hz9:=t9.size;have tt:ae F w w9:=(T1.out.step T2.out).step (((ae.br Fx.out).trans (t9.mono (own':=grow (grow F w w1) w1 w2) (fun k hk=>hk))).mono (fun k hk=>lZ bB aW hk))
    have ZF:cF w9 (grow F w w9) b j2.d:=h9.dev.mono (fun k hk=>by
     rcases hk with (hk|hk)|hk
     ·exact hk.elim .inl (fun hk=>.inr ⟨hk.1,U⟩)
     ·exact .inr ⟨U,U⟩
     ·exact .inr ⟨U,hk.2⟩)
    have HT:=Hd tt;have HD:=Hd ZF;clear tt ZF h9 t9;go_wp2_with fail;go_ret;exact⟨rfl,HD.out,HT.out⟩
 ·exact absurd rfl h0
end
section
open Go.RowKit
theorem ce.beside{w w':World}{F G:Nat→Prop}{sb b:Nat}{σ:StL}{K:Nat}(h:ce w F sb b σ K)(t:ae G w w')(hd:∀k,F k→¬G k):ce w' F sb b σ K:=by
 obtain⟨FJ,FC,p,cb,tb,most,clock,ms,mb,m,ti,hg,hF,ay,bL⟩:=h;refine⟨FJ,FC,p,cb,tb,most,clock,ms,mb,m,ti,⟨t.blk hg.box (hd _ (hF _ (.inr (.inr (.inl rfl))))),hg.tm.same (t.block _ hg.tm.lt (hd _ (hF _ (.inr (.inr (.inr rfl)))))),hg.jr.beside t (fun k hk=>hd k (hF k (.inl hk))),hg.ca.beside t (fun k hk=>hd k (hF k (.inr (.inl hk)))),hg.apart,hg.sF,hg.tF,hg.ok,hg.keys,hg.ints⟩,hF,fun k hk=>Ψ (ay k hk) t.size,bL⟩
def own(F:Nat→Prop)(fb:Nat):Nat→Prop:=fun k=>F k∨k=fb
structure FsG (w:World) (F:Nat→Prop) (fb sb b:Nat) (φ:FsL) (K:Nat) (v:Value):Prop where
 st:ce w F sb b φ.st K
 box:Blk w fb 72 #[au sb,au b,v,ah φ.packed]
 nb:¬F fb
 files:ci (fun k=>¬own F fb k) w v φ.l
def kl(w:World)(F:Nat→Prop)(fb sb b:Nat)(φ:FsL)(K:Nat):Prop:=∃v,FsG w F fb sb b φ K v
def FsR(w w':World)(F:Nat→Prop)(fb sb b:Nat)(φ:FsL)(K:Nat):Prop:=∃G:Nat→Prop,kl w' G fb sb b φ K∧(∀k,G k→grow F w w' k)∧ae (own F fb) w w'
section
variable {w w' w2:World} {F:Nat→Prop} {fb sb b:Nat} {φ:FsL} {K:Nat} {v:Value}
theorem FsG.keep(h:FsG w F fb sb b φ K v)(q:Q w w'):FsG w' F fb sb b φ K v:=⟨h.st.keep q,h.box.stays q,h.nb,h.files.q q⟩
theorem kl.keep(h:kl w F fb sb b φ K)(q:Q w w'):kl w' F fb sb b φ K:=h.imp fun v h=>h.keep q
theorem kl.mono{K':Nat}(h:kl w F fb sb b φ K)(hk:K≤K'):kl w F fb sb b φ K':=h.imp fun v h=>⟨h.st.mono (fun _ x=>x) h.st.lt hk,h.box,h.nb,h.files⟩
theorem FsG.py(h:FsG w F fb sb b φ K v){G:Nat→Prop}(t:ae (own F fb) w w')(hg:∀k,G k→grow F w w' k){v':Value}{l:List ax}(hv:ci (fun k=>¬own F fb k) w v' l):ci (fun k=>¬own G fb k) w' v' l:=by
 refine((hv.mono (R:=fun k=>¬own F fb k∧k<w.heap.size) (fun k h1 h2=>⟨h1,h2⟩)).bh t (fun k hk=>hk.1)).mono (fun k hk _ hc=>?_)
 rcases hc with hc|hc
 ·rcases hg k hc with hc|hc
  ·exact hk.1 (.inl hc)
  ·have:=hk.2;omega
 ·exact hk.1 (.inr hc)
theorem FsG.call(h:FsG w F fb sb b φ K v){σ':StL}{K':Nat}(hs:ce w' (grow F w w') sb b σ' K')(t:ae F w w'):FsG w' (grow F w w') fb sb b { φ with st:=σ' } K' v :=
 ⟨hs,t.blk h.box h.nb,fun hc=>hc.elim h.nb (fun hc=>by have:=h.box.lt;omega),h.py (t.mono fun k hk=>.inl hk) (fun k hk=>hk) h.files⟩
theorem FsR.mono{K':Nat}(h:FsR w w' F fb sb b φ K)(hk:K≤K'):FsR w w' F fb sb b φ K':=by
 obtain⟨G,h1,h2,h3⟩:=h;exact⟨G,h1.mono hk,h2,h3⟩
theorem FsR.seq{G:Nat→Prop}(hg:∀k,G k→grow F w w' k)(t:ae (own F fb) w w')(h:FsR w' w2 G fb sb b φ K):FsR w w2 F fb sb b φ K:=by
 obtain⟨H,h1,h2,h3⟩:=h;have hs:=t.size;have jm:=h3.size;refine⟨H,h1,fun k hk=>?_,⟨h3.os.trans t.os,h3.tape.trans t.tape,h3.output.trans t.output,LS hs jm,fun k hk hn=>?_⟩⟩
 ·rcases h2 k hk with hk|hk
  ·exact(hg k hk).imp id fun hk=>⟨hk.1,U⟩
  ·exact .inr ⟨U,hk.2⟩
 ·refine(h3.block k U (fun hc=>?_)).trans (t.block k hk hn)
  rcases hc with hc|hc
  ·rcases hg k hc with hc|hc
   ·exact hn (.inl hc)
   ·omega
  ·exact hn (.inr hc)
theorem FsG.put(h:FsG w F fb sb b φ K v){v':Value}{l:List ax}(hv:ci (fun k=>¬own F fb k) w v' l)(s:Bytes):
  FsG ((w.setCell ⟨fb,2,none⟩ v').setCell ⟨fb,3,none⟩ (ah s)) F fb sb b ⟨φ.st,l,s⟩ K v'∧ae (own F fb) w ((w.setCell ⟨fb,2,none⟩ v').setCell ⟨fb,3,none⟩ (ah s)):=by
 have t:ae (fun k=>k=fb) w ((w.setCell ⟨fb,2,none⟩ v').setCell ⟨fb,3,none⟩ (ah s)):=ae.setCell (a:=⟨fb,3,none⟩) (ae.setCell (a:=⟨fb,2,none⟩) (ae.refl (fun k=>k=fb) w) (.inl rfl) _) (.inl rfl) _
 refine⟨⟨h.st.beside t (fun k hk e=>h.nb (e▸hk)),(h.box.set 2 v').set 3 (ah s),h.nb,hv.bh t (fun k hk e=>hk (.inr e))⟩,t.mono fun k hk=>.inr hk⟩
end
end
end Go.Proofs.YtbkahhebmpehnaaGreatDoor
