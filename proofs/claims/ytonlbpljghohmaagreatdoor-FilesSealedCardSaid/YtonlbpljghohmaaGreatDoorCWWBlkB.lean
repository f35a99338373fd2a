/- Joined: WBlkB to FilA -/
import Derived.Test.YtonlbpljghohmaaGreatDoorCWMapI
import Derived.Lib.AppendZeros
set_option linter.all false
set_option maxRecDepth 100000
set_option maxHeartbeats 8000000
namespace Go.Proofs.YtonlbpljghohmaaGreatDoor
open Tryz
section
open Go.RowKit
theorem Gj{d:af}(i:Int)(s:Bytes)(h:d.chk i≠0):d.write i s=(d,d.chk i):=by unfold af.write;rw[Φ h]
theorem xh(w:World)(F:Nat→Prop)(b:Nat)(d:af)(i:Int)(s:Bytes)(h:cE w F b d)(hd:d.Ok)(hp:d.dead=false→d.p.length≤1000000)(hs:s.length≤9223372036854775807):
  Calls prog 262 #[au b,.int .i64 i,ah s] w fun e w'=>e=.returned (.int .i64 (d.write i s).2)∧cE w' (grow F w w') b (d.write i s).1∧ae F w w':=by
 have hc:=MG w F b d i h hd.max;obtain⟨g,cap,pv,h⟩:=h;have sK:=h.mono (fun k hk=>oJ (A:=w) (B:=w) hk)
 have dK:∀{e:Int},(d.write i s)=(d,e)→cE w (grow F w w) b (d.write i s).1:=fun he=>by rw[he];exact⟨g,cap,pv,sK⟩
 by_cases h0:d.chk i=0
 ·rw[h0] at hc
  by_cases h1:s.length=256
  ·have e1:(!((s.length:Int)==256))=false:=by rw[NX.2 U];rfl
   have ht:=Nr w F b g cap pv d h hd.b9 hd.jz;by_cases h2:d.b9=0
   ·have hw:d.write i s=(d.bh,4):=by unfold af.write;rw[η (by rw[h0];simp),η (by rw[h1];simp),Φ h2]
    rw[Φ h2] at ht;rw[hw];have HC:=Hd hc;have HT:=Hd ht;clear hc ht h sK dK hw h0 hd hp;go_enter func262,ntmps262;go_wp2_with fail;refine HC.out.mono ?_;rintro e w1 ⟨rfl,rfl⟩;go_wp2_with fail;refine HT.out.mono ?_;rintro e w1 ⟨rfl,eT,t1,bB⟩;have HG:=Hd eT;have nW:=Hd t1;clear eT t1;go_wp2_with fail;go_ret;exact⟨rfl,⟨_,_,_,HG.out.mono (fun k hk=>oJ hk)⟩,nW.out⟩
   ·rw[η h2] at ht
    have dS:d.dead=false:=by
     unfold af.chk at h0;cases hx:d.dead with
     | false=>rfl
     | true=>rw[hx] at h0;simp at h0
    have qL:0≤i:=by
     unfold af.chk at h0;rw[dS] at h0;simp only[N0,PR] at h0;split at h0
     ·rename_i hx;exact hx.1
     ·exact absurd h0 Z
    have hw:d.write i s=({ d.bh with p:=d.bh.p++[(i.toNat,s)] },0):=by unfold af.write;rw[η (by rw[h0];simp),η (by rw[h1];simp),η h2,(af.df d).2]
    have bW:d.bh.p.length≤1000000:=by rw[(af.df d).2];exact hp dS
    have hx:[Value.int .i64 i,ah s]=mX (i.toNat,s):=by unfold mX;rw[aak qL]
    rw[hw];obtain⟨i0,hi,bY,bB,aW⟩:=info_parts nC;generalize d.bh=d2 at *;have HC:=Hd hc;have HT:=Hd ht;have HX:=Hd hx;clear hc ht h sK dK hw h0 hd hp hx qL;go_enter func262,ntmps262;go_wp2_with fail;refine HC.out.mono ?_;rintro e w1 ⟨rfl,rfl⟩;go_wp2_with fail;refine HT.out.mono ?_;rintro e w1 ⟨rfl,eT,t1,Sb⟩;obtain⟨c0,c1,c2,c3,f0,f1,f2,f3⟩:=eT.box.c4;have HG:=Hd eT;have nW:=Hd t1;have HZ:=Hd Sb;clear eT t1 Sb;have dP:=HG.out.row;have cO:∀u∈#[Value.int .i64 i,ah s].toList,u.oneCell'=true:=by intro u hu;simp at hu;rcases hu with rfl|rfl<;>rfl
    have dI:(d2.p.length+1)*24≤140737488355328:=U;have vg:=Hd cO;have xI:=Hd dI;clear cO dI;go_wp2_with (at_builtin;refine bG w1 ρ _ _ 66 ρ 0 116 _ i0 (.agg #[.int .i64 0,ah []]) 2 24 underlying66 hi bY bB aW rfl Z Z pv _ _ ρ dP #[.int .i64 i,ah s] ρ rfl vg.out xI.out (MD _) ?_)
    clear dP;intro g2 cap2 w2 hr hg ho ay nX;have Zk:w2.ownsRow 0 116 2 (.slice (some ⟨g2,0,none⟩) (d2.p.length+1) cap2) (d2.p.length+1) (aN d2.p++mX (i.toNat,s)):=by rw[←HX.out];exact hr
    obtain⟨bN,hend,tend⟩:=HG.out.append (i.toNat,s) g2 cap2 Zk hg ho ay;obtain⟨d0,d1,d2',d3,e0,e1',e2,e3⟩:=bN.c4;have HE:=Hd hend;have HF:=Hd tend;clear hend tend hr hg ho Zk bN;go_wp2_with fail;go_ret;refine⟨rfl,⟨_,_,_,HE.out.mono (fun k hk=>?_)⟩,nW.out.trans HF.out⟩
    rcases hk with hk|hk
    ·exact .inl hk
    ·exact .inr ⟨by rw[←HZ.out];exact hk.1,hk.2⟩
  ·have e1:(!((s.length:Int)==256))=true:=by rw[Γ.2 U];rfl
   have hw:d.write i s=(d,3):=by unfold af.write;rw[η (by rw[h0];simp),Φ h1]
   have hend:=dK hw;rw[hw] at hend ⊢;have HC:=Hd hc;have HE:=Hd hend;clear hc hend h sK dK hw h0 hd hp;go_enter func262,ntmps262;go_wp2_with fail;refine HC.out.mono ?_;rintro e w1 ⟨rfl,rfl⟩;go_wp2_with fail;go_ret;exact⟨rfl,HE.out,ae.refl _ _⟩
 ·have e1:(d.chk i==0)=false:=Γ.2 h0
  have hw:=Gj i s h0;have hend:=dK hw;rw[hw] at hend ⊢;have HC:=Hd hc;have HE:=Hd hend;clear hc hend h sK dK hw h0 hd hp;simp only at HE ⊢;generalize d.chk i=x at *;go_enter func262,ntmps262;go_wp2_with fail;refine HC.out.mono ?_;rintro e w1 ⟨rfl,rfl⟩;go_wp2_with fail;go_ret;exact⟨rfl,HE.out,ae.refl _ _⟩
theorem NG(l:List Bytes)(p:List WrL)(k:Nat)(h:k<p.length):iw l (p.take (k+1))=(iw l (p.take k)).set p[k].1 p[k].2:=by
 rw[M2 h,Ur];rfl
theorem NH(w:World)(F:Nat→Prop)(b:Nat)(d:af)(h:cE w F b d)(hd:d.Ok)(hp:d.dead=false→d.p.length≤1000000):
  Calls prog 278 #[au b] w fun e w'=>e=.returned (.int .i64 d.bu.2)∧cE w' (grow F w w') b d.bu.1∧ae F w w':=by
 have hc:=MG w F b d 0 h hd.max;obtain⟨g,cap,pv,h⟩:=h;have sK:=h.mono (fun k hk=>oJ (A:=w) (B:=w) hk)
 cases dS:d.dead with
 | true =>
  have hw:d.bu=(d,4):=by unfold af.bu;rw[Φ dS]
  have h0:d.chk 0=4:=by unfold af.chk;rw[Φ dS]
  rw[h0] at hc;rw[hw];have HC:=Hd hc;have HG:=Hd sK;clear hc sK h hw h0 hd hp;go_enter func278,ntmps278;go_wp2_with fail;refine HC.out.mono ?_;rintro e w1 ⟨rfl,rfl⟩;go_wp2_with fail;go_ret;exact⟨rfl,⟨_,_,_,HG.out⟩,ae.refl _ _⟩
 | false =>
  have h0:d.chk 0=0:=by
   have:=hd.pos;unfold af.chk;rw[dS,η Z,Φ ⟨U,U⟩]
  rw[h0] at hc;have ht:=Nr w F b g cap pv d h hd.b9 hd.jz;by_cases h2:d.b9=0
  ·have hw:d.bu=(d.bh,4):=by unfold af.bu;rw[η (by rw[dS];decide),Φ h2]
   rw[Φ h2] at ht;rw[hw];have HC:=Hd hc;have HT:=Hd ht;clear hc ht h sK hw h0 hd hp;go_enter func278,ntmps278;go_wp2_with fail;refine HC.out.mono ?_;rintro e w1 ⟨rfl,rfl⟩;go_wp2_with fail;refine HT.out.mono ?_;rintro e w1 ⟨rfl,eT,t1,bB⟩;have HG:=Hd eT;have nW:=Hd t1;clear eT t1;go_wp2_with fail;go_ret;exact⟨rfl,⟨_,_,_,HG.out.mono (fun k hk=>oJ hk)⟩,nW.out⟩
  ·rw[η h2] at ht
   have hw:d.bu=({ d.bh with l:=iw d.bh.l d.bh.p,p:=[] },0):=by unfold af.bu;rw[η (by rw[dS];decide),η h2,(af.df d).1,(af.df d).2]
   have bW:d.bh.p.length≤1000000:=by rw[(af.df d).2];exact hp dS
   have gX:=af.gt hd;rw[hw];generalize d.bh=d2 at *;have HC:=Hd hc;have HT:=Hd ht;have fV:∀k (hk:k<d2.p.length),d2.p[k].1<d2.l.length:=fun k hk=>(gX.p _ (MA hk)).1
   have hmax:=gX.max;have kY:=Hd fV;clear hc ht h sK hw h0 hd hp gX fV;go_enter func278,ntmps278;go_wp2_with fail;refine HC.out.mono ?_;rintro e w1 ⟨rfl,rfl⟩;go_wp2_with fail;refine HT.out.mono ?_;rintro e w1 ⟨rfl,eT,t1,bB⟩;obtain⟨c0,c1,c2,c3,f0,f1,f2,f3⟩:=eT.box.c4;obtain⟨pa,pc,rfl,_⟩:=eT.jj;have HG:=Hd eT;have nW:=Hd t1;have HZ:=Hd bB;clear eT t1 bB;go_wp2_with fail;go_loopw [22] (fun v wr=>∃k:Nat,v=.int .i64 (k:Nat)∧k≤d2.p.length∧Hid (dp wr F b g cap (.slice pa d2.p.length pc) { d2 with l:=iw d2.l (d2.p.take k) })∧Hid (ae F w1 wr)) (fun v _=>d2.p.length-(intOf v).toNat)
   case atStart=>exact⟨0,rfl,MD _,HG.out,ae.refl _ _⟩
   case round =>
    obtain⟨k,rfl,kW,jU,fG⟩:=hrel;obtain⟨d0,d1,d2',d3,e0,e1,e2,e3⟩:=jU.out.box.c4;by_cases ay:k<d2.p.length
    ·have bq:(k:Int)<(d2.p.length:Int):=U
     obtain⟨pa',pc',D5,kR⟩:=jU.out.jj;simp only[Value.slice.injEq] at D5;obtain⟨rfl,_,rfl⟩:=D5;obtain⟨g2,rfl,x1,x2⟩:=kR k ay;have oZ:=kY.out k ay;have oP:(iw d2.l (d2.p.take k)).length=d2.l.length:=lY _ _;have aif:((d2.p[k].1:Nat):Int)<(d2.l.length:Int):=U;have afF:(0:Int)≤((d2.p[k].1:Nat):Int):=U;obtain⟨y1,y2⟩:=jU.out.pA d2.p[k].1 (by rw[oP];exact oZ)
     have z0:wr.cell? ⟨b,0,none⟩=some (.slice (some ⟨g,0,none⟩) d2.l.length cap):=by rw[←oP];exact d0
     have jJ:=Q.alloc wr (.cells #[.int .i64 (d2.p[k].1:Nat),ah d2.p[k].2] 116);obtain⟨m0,m1,_⟩:=(Blk.new wr 116 #[.int .i64 (d2.p[k].1:Nat),ah d2.p[k].2]).c2;have nu:=jU.out.keep jJ;have z1:=aj jJ z0;obtain⟨y3,y4⟩:=nu.pA d2.p[k].1 (by rw[oP];exact oZ)
     have kU:=NG d2.l d2.p k ay;have aX:=Hd kU;have gF:=Hd nu;have rP:=Hd (fG.out.q jJ);clear kU kR d0 d1 d2' d3 e0 e1 e2 e3 nu jJ y1 y2 c0 c1 c2 c3 f0 f1 f2 f3;generalize eu:d2.p[k].1=bk at *;generalize zC:d2.p[k].2=dk at *;generalize (iw d2.l (d2.p.take k)).getD bk []=old at *;go_wp2_with fail;generalize hwo:wr.alloc (.cells #[.int .i64 (bk:Nat),ah dk] 116)=wo at *;go_region;all_goals
      go_wp2_with fail;go_roundw;case rel =>
       refine⟨k+1,by go_num,U,?_,?_⟩
       ·rw[aX.out]
        exact Hd ((gF.out.keep (Q.drew _)).lay bk dk).1
       ·exact Hd ((rP.out.q (Q.drew _)).trans (((gF.out.keep (Q.drew _)).lay bk dk).2))
      case measure=>simp[intOf];omega
    ·have bq:¬(k:Int)<(d2.p.length:Int):=U
     have Ae:k=d2.p.length:=U;subst Ae;have nu:=jU.out;rw[N5] at nu;have hend:=nu.empty;have HE:=Hd hend;clear hend nu;go_wp2_with fail;go_ret;exact⟨rfl,⟨_,_,_,HE.out.1.mono (fun k hk=>oJ hk)⟩,nW.out.trans (fG.out.trans HE.out.2)⟩
theorem af.fi(d:af)(i:Int)(s:Bytes):(d.write i s).1.p.length≤d.p.length+1:=by
 unfold af.write;split
 ·exact ab3 _
 ·split
  ·exact ab3 _
  ·split
   ·show d.bh.p.length≤_
    rw[(af.df d).2];omega
   ·simp
theorem af.pN(d:af)(i:Int)(s:Bytes)(h:d.dead=true):(d.write i s).1.dead=true:=by
 unfold af.write;have:d.chk i=4:=by unfold af.chk;rw[Φ h]
 rw[Φ (by rw[this];decide)];exact h
theorem af.eh(d:af)(i:Int)(s:Bytes)(h:(d.write i s).1.dead=false):d.dead=false:=by
 cases hd:d.dead with
 | false=>rfl
 | true=>rw[d.pN i s hd] at h;exact absurd h Z
theorem wY(w:World)(F:Nat→Prop)(b:Nat)(d:af)(lv:Value)(ws:List WrL)(h:cE w F b d)(hd:d.Ok)(hp:d.dead=false→d.p.length+ws.length≤1000000)(hl:eC w F lv ws)(hn:ws.length≤1000000):
  Calls prog 194 #[au b,lv] w fun e w'=>e=.returned (.int .i64 (d.writes ws).2)∧cE w' (grow F w w') b (d.writes ws).1∧ae F w w':=by
 obtain⟨la,lc,rfl,lX⟩:=hl.sl.value;have aP:∀k (hk:k<ws.length),∃lb lo,la=some ⟨lb,lo,none⟩∧lb<w.heap.size∧¬F lb∧w.cell? ⟨lb,lo+k*2,none⟩=some (.int .i64 (ws[k].1:Nat))∧w.cell? ⟨lb,lo+k*2+1,none⟩=some (ah ws[k].2):=fun k hk=>by
  obtain⟨lb,lo,h1,h2,h3,h4⟩:=lX U;exact⟨lb,lo,h1,h2,h3,h4 _ _ (fQ ws k hk).1,by have:=h4 _ _ (fQ ws k hk).2;rwa [←P0] at this⟩
 have uS:∀k (hk:k<ws.length),ws[k].1≤9223372036854775807∧ws[k].2.length≤9223372036854775807:=fun k hk=>hl.num _ (MA hk)
 have HC:=Hd aP;have HN:=Hd uS;have HG:=Hd h;have HD:=Hd hd;have HP:=Hd hp;clear aP uS hl lX h hd hp;go_enter func194,ntmps194;go_wp2_with fail;go_loopw [10] (fun v wr=>∃(k:Nat) (d2:af),v=.int .i64 (k:Nat)∧k≤ws.length∧Hid (d.writes ws=d2.writes (ws.drop k))∧Hid (cE wr (grow F w wr) b d2)∧Hid (ae F w wr)∧Hid d2.Ok∧Hid (d2.dead=false→d2.p.length+(ws.length-k)≤1000000)) (fun v _=>ws.length-(intOf v).toNat)
 case atStart=>exact⟨0,d,rfl,MD _,by rw[SU];exact Hd rfl,HG.out.mono (fun _ h=>oJ h),ae.refl _ _,HD.out,by rw[adn];exact HP⟩
 case round =>
  obtain⟨k,d2,rfl,hk,HE,jU,fG,tY,kX⟩:=hrel;by_cases ay:k<ws.length
  ·have bq:(k:Int)<(ws.length:Int):=U
   obtain⟨lb,lo,rfl,OJ,qK,x1,x2⟩:=HC.out k ay;obtain⟨n1,n2⟩:=HN.out k ay;have y1:=fG.out.cell (F:=F) x1 qK;have y2:=fG.out.cell (F:=F) x2 qK;have he:=HE.out;rw[Re ay,af.writes] at he;have jJ:=Q.alloc wr (.cells #[.int .i64 (ws[k].1:Nat),ah ws[k].2] 116);have hw:=xh _ _ b d2 (ws[k].1:Nat) ws[k].2 (jU.out.keep jJ) tY.out (fun hx=>by have:=kX.out hx;omega) n2
   have bQ:=af.eJ tY.out (ws[k].1:Nat) ws[k].2;have gK:(d2.write (ws[k].1:Nat) ws[k].2).1.dead=false→(d2.write (ws[k].1:Nat) ws[k].2).1.p.length+(ws.length-(k+1))≤1000000:=fun hx=>by
    have h1:=kX.out (af.eh _ _ _ hx);have h2:=af.fi d2 (ws[k].1:Nat) ws[k].2;omega
   have HW:=Hd hw;have kI:=Hd he;have pq:=Hd bQ;have sO:=Hd gK;have zH:=Hd jJ;clear x1 x2 he hw bQ gK jJ;generalize sJ:ws[k].1=bk at *;generalize mh:ws[k].2=dk at *;generalize Hl:d2.write (bk:Nat) dk=dw at *;go_wp2_with fail;refine HW.out.mono ?_;rintro e w3 ⟨rfl,nu,Sc⟩;have G5:=(fG.out.q zH.out);have oW:∀i,grow (grow F w wr) (wr.alloc (.cells #[.int .i64 (bk:Nat),ah dk] 116)) w3 i→grow F w w3 i:=fun i hi=>by
    rcases hi with (hi|hi)|hi
    ·exact .inl hi
    ·exact .inr ⟨hi.1,by have:=Sc.size;simp at this;omega⟩
    ·exact .inr ⟨by have:=G5.size;omega,hi.2⟩
   have zF:ae F w w3:=⟨Sc.os.trans G5.os,Sc.tape.trans G5.tape,Sc.output.trans G5.output,My G5.size Sc.size,fun i h1 h2=>(Sc.block i (Ψ h1 G5.size) (fun hg=>hg.elim h2 (fun hg=>U))).trans (G5.block i h1 h2)⟩
   have gF:=Hd (nu.mono oW);have OP:=Hd zF;clear nu Sc G5 oW zF;by_cases hz:dw.2=0
   ·have hb:(dw.2==0)=true:=NX.2 hz
    have eX:=kI.out;rw[Φ hz] at eX;have tV:=Hd eX;clear eX kI hz;go_wp2_with fail;go_roundw;case rel=>exact⟨k+1,dw.1,by go_num,U,tV,gF,OP,pq,sO⟩
    case measure=>simp[intOf];omega
   ·have hb:(dw.2==0)=false:=Γ.2 hz
    have eX:=kI.out;rw[η hz] at eX;have tV:=Hd eX;clear eX kI hz;go_wp2_with fail;go_ret;exact⟨by rw[tV.out];rfl,by rw[tV.out];exact gF.out,OP.out⟩
  ·have bq:¬(k:Int)<(ws.length:Int):=U
   have Ae:k=ws.length:=U;subst Ae;have he:=HE.out;rw[Wk,af.writes] at he;have tV:=Hd he;clear he;go_wp2_with fail;go_ret;exact⟨by rw[tV.out];rfl,by rw[tV.out];exact jU.out,fG.out⟩
theorem af.j7(ws:List WrL):∀(d:af),(d.writes ws).1.p.length≤d.p.length+ws.length:=by
 induction ws with
 | nil=>intro d;exact Ω _
 | cons w ws ih =>
  intro d;have h1:=af.fi d w.1 w.2;rw[af.writes];split
  ·have:=ih (d.write w.1 w.2).1
   rw[Mu];omega
  ·rw[Mu];omega
theorem af.hS(ws:List WrL):∀(d:af),(d.writes ws).1.dead=false→d.dead=false:=by
 induction ws with
 | nil=>intro d h;exact h
 | cons w ws ih =>
  intro d h;rw[af.writes] at h;split at h
  ·exact af.eh d _ _ (ih _ h)
  ·exact af.eh d _ _ h
theorem cE.minus{w:World}{F:Nat→Prop}{b p:Nat}{d:af}{cs:Array Value}(h:cE w F b d)(hb:Blk w p 177 cs):cE w (fun k=>F k∧k≠p) b d:=by
 obtain⟨g,cap,pv,h⟩:=h;exact⟨g,cap,pv,h.box,⟨h.fb,Gb h.box hb Z⟩,h.disk,⟨h.fg,Gb h.disk hb Z⟩,h.row,fun k e=>⟨h.fp k e,kM h.row hb Z k e⟩⟩
theorem yD(w:World)(F:Nat→Prop)(p b:Nat)(j:JL)(lv:Value)(ws:List WrL)(hb:Blk w p 177 (jd b j))(h:cE w F b j.d)(hd:j.d.Ok)(hp:j.d.dead=false→j.d.p.length+ws.length≤1000000)(hl:eC w F lv ws)(hn:ws.length≤1000000)(hpF:¬F p):
  Calls prog 248 #[au p,lv] w fun e w'=>e=.returned (.int .i64 (j.d.lays ws).2)∧cE w' (grow F w w') b (j.d.lays ws).1∧ae F w w':=by
 have hw:=wY w F b j.d lv ws h hd hp hl hn;obtain⟨c0,_⟩:=hb.c8;have ade:=hb.lt;have bQ:=af.eS hd ws;have u7:(j.d.writes ws).1.dead=false→(j.d.writes ws).1.p.length≤1000000:=fun hx=>by
  have h1:=hp (af.hS ws _ hx);have h2:=af.j7 ws j.d;omega
 unfold af.lays;generalize j.d.writes ws=r at *;have HW:=Hd hw;have pq:=Hd bQ;have Zl:=Hd u7;clear hw bQ u7 h hd hp hl hb;by_cases hz:r.2=0
 ·have hb:(r.2==0)=true:=NX.2 hz
  rw[Φ hz];clear hz;go_enter func248,ntmps248;go_wp2_with fail;refine HW.out.mono ?_;rintro e w1 ⟨rfl,h1,t1⟩;have c1:=t1.cell c0 hpF;have HF:=Hd (NH w1 (grow F w w1) b r.1 h1 pq.out Zl.out);have HT:=Hd t1;clear h1 t1;go_wp2_with fail;refine HF.out.mono ?_;rintro e w2 ⟨rfl,h2,t2⟩;have HE:=Hd (h2.mono (fun k hk=>lZ HT.out.size t2.size hk));have fG:=Hd (HT.out.step t2)
  clear h2 t2;go_wp2_with fail;go_ret;exact⟨rfl,HE.out,fG.out⟩
 ·have hb:(r.2==0)=false:=Γ.2 hz
  rw[η hz];clear hz;go_enter func248,ntmps248;go_wp2_with fail;refine HW.out.mono ?_;rintro e w1 ⟨rfl,h1,t1⟩;have HE:=Hd h1;have HT:=Hd t1;clear h1 t1;go_wp2_with fail;go_ret;exact⟨rfl,HE.out,HT.out⟩
end
section
open Go.RowKit
section
variable {P:Program} (w:World)
theorem PE(base:Nat)(t ty e:TypeId)(i:TypeInfo)(size:Nat)(ht:P.underlying t=some (.slice e))(hi:P.info? e=some i)
  (v:Value) (n:Nat) (xs:List Value) (aF:w.ownsRow base e size v n xs) (c:Nat):(Builtin.append_ #[t,t] ty #[v,.slice none 0 c]).run P w=.ok v w:=by
 rcases aF.2 with ⟨rfl,rfl⟩|⟨g,cap,cur,rfl,_,_,Ho,_⟩
 ·simp[Builtin.append_,run_underlying ht,sizeOf,typeInfo,hi,Builtin.lenOf,Builtin.firstCells]
 ·simp[Builtin.append_,run_underlying ht,sizeOf,typeInfo,hi,Builtin.lenOf,Builtin.firstCells,Ho,storeCells]
theorem PG(base:Nat)(t ty e:TypeId)(i:TypeInfo)(z:Value)(size bytes:Nat)(ht:P.underlying t=some (.slice e))(hi:P.info? e=some i)(hz:i.zero=some z)
  (iE:i.size=size) (iT:i.bytes=bytes) (jl:z.cells.size=size) (bP:0<size)
  (v:Value) (n:Nat) (xs:List Value) (aF:w.ownsRow base e size v n xs)
  (vx:Value) (m:Nat) (news:List Value) (hr:Sl w vx m size news) (h1:∀u∈news,u.oneCell'=true)
  (DY:n+m≤maxLen) (nY:(n+m)*bytes≤140737488355328) (fP:base≤w.heap.size) :
  ∃v' w',(Builtin.append_ #[t,t] ty #[v,vx]).run P w=.ok v' w'∧w'.ownsRow base e size v' (n+m) (xs++news)∧w.grownBy w' v.ownBlock∧(v'.ownBlock=v.ownBlock∨v'.ownBlock=some w.heap.size):=by
 obtain⟨hl,A,c,rfl,hc⟩:=hr;rcases A with _|ad
 ·have hm:m=0:=by
   rcases UX m with h0|h0
   ·exact h0
   ·obtain⟨b,off,h,_⟩:=hc h0;cases h
  subst hm;have hn:news=[]:=OS (by simpa using hl)
  subst hn;exact⟨v,w,PE w base t ty e i size ht hi v n xs aF c,by simpa using aF,World.grownBy.refl w _,.inl rfl⟩
 ·have tO:∀j u,news[j]?=some u→w.cell? (ad.add j)=some u:=by
   intro j u hu;rcases UX m with h0|h0
   ·subst h0
    have hn:news=[]:=OS (by simpa using hl)
    subst hn;simp at hu
   ·obtain⟨b,off,h,h2⟩:=hc h0
    cases h;rw[oD];exact h2 j u hu
  obtain⟨v',w',nP,h2,h3,_,h5⟩:=run_append_own_at (P:=P) w base t ty e i z size bytes ht hi hz iE iT jl bP v n xs aF ad m c news hl tO h1 DY nY fP;exact⟨v',w',nP,h2,h3,h5⟩
theorem wZ{o:Oper}{a:Act}{K:Act→World→Prop}{Q:Exit→Act→World→Prop}(s x:Operand)(t:TypeId)
  (ho:o.op=.call { callee:=.builtin .append,args:=#[s,x],argTypes:=#[t,t] })
  (base:Nat) (e:TypeId) (i:TypeInfo) (z:Value) (size bytes:Nat) (ht:P.underlying t=some (.slice e)) (hi:P.info? e=some i) (hz:i.zero=some z)
  (iE:i.size=size) (iT:i.bytes=bytes) (jl:z.cells.size=size) (bP:0<size)
  (v:Value) (n:Nat) (xs:List Value) (hs:a.eval s=v) (aF:w.ownsRow base e size v n xs)
  (vx:Value) (m:Nat) (news:List Value) (hx:a.eval x=vx) (hr:Sl w vx m size news) (h1:∀u∈news,u.oneCell'=true)
  (DY:n+m≤maxLen) (nY:(n+m)*bytes≤140737488355328) (fP:base≤w.heap.size)
  (h:∀v' w',w'.ownsRow base e size v' (n+m) (xs++news)→w.grownBy w' v.ownBlock→(v'.ownBlock=v.ownBlock∨v'.ownBlock=some w.heap.size)→K (a.put o.dst v') w'):o.wp P a w K Q:=by
 obtain⟨v',w',nP,h2,h3,h4⟩:=PG (P:=P) w base t o.type e i z size bytes ht hi hz iE iT jl bP v n xs aF vx m news hr h1 DY nY fP;unfold Oper.wp execOp;simp only[ho,resolve,invoke,builtin,Sem.run_bind,Sem.run_pure,Result.andThen_ok,abx,On,Wg,hs,hx,nP];exact h v' w' h2 h3 h4
theorem fM{ops:Array Oper}{rest:List Oper}{o:Oper}{a:Act}{Q:Exit→Act→World→Prop}(pQ:o.guard=none)(s x:Operand)(t:TypeId)
  (ho:o.op=.call { callee:=.builtin .append,args:=#[s,x],argTypes:=#[t,t] })
  (base:Nat) (e:TypeId) (i:TypeInfo) (z:Value) (size bytes:Nat) (ht:P.underlying t=some (.slice e)) (hi:P.info? e=some i) (hz:i.zero=some z)
  (iE:i.size=size) (iT:i.bytes=bytes) (jl:z.cells.size=size) (bP:0<size)
  (v:Value) (n:Nat) (xs:List Value) (hs:a.eval s=v) (aF:w.ownsRow base e size v n xs)
  (vx:Value) (m:Nat) (news:List Value) (hx:a.eval x=vx) (hr:Sl w vx m size news) (h1:∀u∈news,u.oneCell'=true)
  (DY:n+m≤maxLen) (nY:(n+m)*bytes≤140737488355328) (fP:base≤w.heap.size)
  (h:∀v' w',w'.ownsRow base e size v' (n+m) (xs++news)→w.grownBy w' v.ownBlock→(v'.ownBlock=v.ownBlock∨v'.ownBlock=some w.heap.size)→wpList P ops Q rest (a.put o.dst v') w'):wpList P ops Q (o::rest) a w :=
 wpList_plain pQ fun _ hK=>wZ w s x t ho base e i z size bytes ht hi hz iE iT jl bP v n xs hs aF vx m news hx hr h1 DY nY fP fun v' w' h2 h3 h4=>hK _ _ (h v' w' h2 h3 h4)
end
theorem Sl.cut{w:World}{a:Option Addr}{n cap size:Nat}{xs:List Value}(h:Sl w (.slice a n cap) n size xs)(lo hi:Nat)(h1:lo≤hi)(h2:hi≤n)(h3:n≤cap):
  Sl w (.slice (if cap=lo then a else a.map (·.add (lo*size))) (hi-lo) (cap-lo)) (hi-lo) size ((xs.take (hi*size)).drop (lo*size)):=by
 obtain⟨hl,a',c',hv,hc⟩:=h;cases hv;refine⟨?_,_,_,rfl,fun hp=>?_⟩
 ·rw[MM,Mz,hl,Sx (WP _ h2),Nat.sub_mul]
 ·obtain⟨b,off,rfl,kR⟩:=hc U
  rw[η U];refine⟨b,off+lo*size,by simp[oD],fun j u hj=>?_⟩
  rw[P0];rw[VC,VM] at hj;split at hj
  ·exact kR _ u hj
  ·cases hj
end
section
open Go.RowKit
theorem Qy(W:World)(base:Nat)(e:TypeId)(v:Value)(hb:base≤W.heap.size):(W.alloc (.cells #[v] e)).ownsRow base e 1 (.slice (some ⟨W.heap.size,0,none⟩) 1 1) 1 [v]:=⟨rfl,.inr ⟨W.heap.size,1,#[v],rfl,hb,heap_alloc_new _ _,Ω _,Z,rfl,rfl⟩⟩
theorem DN:(prog.info? 9).map (fun i=>(i.zero,i.size,i.bytes))=some (some (ah []),1,16):=by kernel_rfl
theorem oc(w:World)(hd:Bytes)(dv:Value)(ds:List Bytes)(h:Strs w dv ds)(hn:ds.length≤1000000)(hh:hd.length≤1000000)(hs:∀p∈ds,p.length≤1000000):
  Calls prog 294 #[ah hd,dv] w fun e w'=>e=.returned (ah (aB (fU (hd++ds.flatten))))∧Q w w':=by
 obtain⟨i0,hi,bY,bB,aW⟩:=info_parts DN;have hq:=Q.alloc w (.cells #[ah hd] 9);have bX:Sl (w.alloc (.cells #[ah hd] 9)) dv ds.length 1 (ds.map ah):=Sl.stays h hq;have CB:=Qy w w.heap.size 9 (ah hd) (Ω _);have nU:=fun (V:World) (v:Value) (hv:Strs V v (hd::ds))=>MK v (hd::ds) V hv (by simp;omega) (fun p hp=>by
  rcases NL.1 hp with rfl|hp
  ·omega
  ·have:=hs p hp;omega)
 have xK:=fun (V:World)=>vY (fU (hd++ds.flatten)) V (yA _)
 rw[show(hd::ds).flatten=hd++ds.flatten from rfl] at nU
 have h1:∀u∈ds.map ah,u.oneCell'=true:=fun u hu=>by obtain⟨d,_,rfl⟩:=NF.1 hu;rfl
 have h2:1+ds.length≤maxLen:=by unfold maxLen;omega
 have h3:(1+ds.length)*16≤140737488355328:=U;have xG:=Hd bX;have HOW:=Hd CB;have xZ:=Hd nU;have Si:=Hd xK;have H1:=Hd h1;have H2:=Hd h2;have H3:=Hd h3;have HQ:=Hd hq;clear bX CB nU xK h1 h2 h3 hq h hs;generalize fU (hd++ds.flatten)=cr at *;go_enter func294,ntmps294;go_wp2_with (at_builtin;refine fM (w.alloc (.cells #[ah hd] 9)) ρ _ _ 64 ρ w.heap.size 9 i0 (ah []) 1 16 underlying64 hi bY bB aW rfl Z _ 1 [ah hd] ρ HOW.out _ ds.length (ds.map ah) ρ xG.out H1.out H2.out H3.out κ ?_)
 intro v' w' hr hg ho;have aC:Strs w' v' (hd::ds):=by
  have:=Sl.cy hr;unfold Strs;rw[Mu,abX];exact this
 have OQ:Q w w':=bD HQ.out HOW.out hg (Ω _) HQ.out.size;have aX:=Hd aC;have VH:=Hd OQ;clear aC OQ hr hg ho;go_wp2_with fail;refine(xZ.out _ _ aX.out).mono ?_;rintro e w1 ⟨rfl,rfl⟩;go_wp2_with fail;refine(Si.out _).mono ?_;rintro e w2 ⟨rfl,q2⟩;have bJ:=Hd (VH.out.trans q2);clear q2;go_wp2_with fail;go_ret;exact⟨rfl,bJ.out⟩
theorem yO(s:Bytes)(k:Nat)(h:k<s.length):((({ data:=s.toArray }:ByteArray)[k]'h).toNat:Int)=(bA s k:Nat):=by
 unfold bA;rw[Θ,Mp h];rfl
theorem MP(k x z:Nat)(hx:x<2 ^ k)(hz:z<256)(hk:k≤24):bits .or .u32 (x:Int) ((z:Int)%4294967296*((2 ^ k:Nat):Int)%4294967296)=((x+z*2 ^ k:Nat):Int):=by
 have hp:(2:Nat) ^ k≤2 ^ 24:=ZS U hk;have h24:(2:Nat) ^ 24=16777216:=Z;have hb:z*2 ^ k≤255*16777216:=Nat.mul_le_mul U U;have e:((z:Int)%4294967296*((2 ^ k:Nat):Int)%4294967296)=((z*2 ^ k:Nat):Int):=by
  rw[show((z:Int)%4294967296)=(z:Int) by omega,←Int.natCast_mul]
  omega
 rw[e,u32_or_nat _ _ U U,Nat.or_comm,nat_join k (z*2 ^ k) x (by rw[acn]) hx]
 congr 1;omega
theorem A5(a b c d:Nat)(ha:a<256)(hb:b<256)(hc:c<256)(hd:d<256):
  bits .or .u32 (bits .or .u32 (bits .or .u32 ((a:Int)%4294967296) ((b:Int)%4294967296*256%4294967296)) ((c:Int)%4294967296*65536%4294967296)) ((d:Int)%4294967296*16777216%4294967296)=((a+256*b+65536*c+16777216*d:Nat):Int):=by
 have h1:=MP 8 a b U hb U;have h2:=MP 16 (a+b*2 ^ 8) c U hc U;have h3:=MP 24 (a+b*2 ^ 8+c*2 ^ 16) d U hd U;rw[show((2 ^ 8:Nat):Int)=256 from rfl] at h1
 rw[show((2 ^ 16:Nat):Int)=65536 from rfl] at h2
 rw[show((2 ^ 24:Nat):Int)=16777216 from rfl] at h3
 rw[show((a:Int)%4294967296)=(a:Int) by omega,h1,h2,h3]
 congr 1;omega
theorem IX(s:Bytes)(w:World)(hs:4≤s.length)(jm:s.length≤9223372036854775807):
  Calls prog 258 #[ah s] w fun e w'=>e=.returned (.tuple #[.int .u32 (aM s:Nat),ah (s.drop 4),.bool true])∧Q w w':=by
 have e0:¬(s.length:Int)<4:=U;have h0:(0:Nat)<s.length:=U;have h1:(1:Nat)<s.length:=U;have h2:(2:Nat)<s.length:=U;have h3:(3:Nat)<s.length:=U;have i1:(1:Int)<(s.length:Int):=U;have i2:(2:Int)<(s.length:Int):=U;have i3:(3:Int)<(s.length:Int):=U;have i4:(4:Int)≤(s.length:Int):=U;go_enter func258,ntmps258;go_wp2_with fail;go_quiet (fail);simp only[yO s 0 h0,yO s 1 h1,yO s 2 h2,yO s 3 h3];rw[A5 _ _ _ _ (jW s 0) (jW s 1) (jW s 2) (jW s 3)];go_wp2_with fail;go_ret3;exact⟨by rw[fI];rfl,Q.drewN _ _⟩
end
section
theorem UW(l:List WrL)(w:WrL):(bM l w).length≤l.length+1:=by
 induction l with
 | nil=>simp[bM]
 | cons x l ih =>
  unfold bM;split
  ·simp only[Mu];omega
  ·split<;>simp only[Mu]<;>omega
theorem AV(l:List WrL):∀(tx:List WrL),(aZ tx l).length≤tx.length+l.length:=by
 unfold aZ;induction l with
 | nil=>intro tx;exact Ω _
 | cons w l ih=>intro tx;rw[Ty,Mu];have h1:=ih (bM tx w);have h2:=UW tx w;omega
theorem PN(σ:StL)(b:Bytes):(σ.turned b).length≤aD σ.n:=by
 unfold StL.turned;rw[OK];exact My (XX _ _) (by rw[Wb];exact Ω _)
theorem gt{K:Nat}{σ:StL}{fr:List (List WrL)}{C:Nat→Bytes}(h:ce K σ fr C)(ho:σ.open_=true)(hs:σ.tx.length+2≤48)(a c:Nat)(on:Bool)(h1:ak σ.n≤a)(h2:a+c≤σ.n):
  (σ.bh a c on).2=0∧(σ.bh a c on).1.ai=bF σ.ai a on c∧ce K (σ.bh a c on).1 fr C∧(σ.bh a c on).1.tx.length≤σ.tx.length+2∧(σ.bh a c on).1.open_=true∧(σ.bh a c on).1.j=σ.j∧∀w∈(σ.bh a c on).1.tx,w∈σ.tx∨w.1<ak σ.n:=by
 have hm:=h.max;have hp:=(jH σ.n h.big hm).2;have hl:=AV (σ.turned (bF σ.ai a on c)) σ.tx;have ht:=PN σ (bF σ.ai a on c);have zG:=(KP h (bF σ.ai a on c) (jL _ _ _ _)).2;have e:σ.touch (σ.turned (bF σ.ai a on c))=({ σ with tx:=aZ σ.tx (σ.turned (bF σ.ai a on c)) },0):=by
  unfold StL.touch;rw[η U]
 have e2:σ.bh a c on=({ σ with tx:=aZ σ.tx (σ.turned (bF σ.ai a on c)),ai:=bF σ.ai a on c },0):=by
  unfold StL.bh;rw[e,η κ]
 rcases zc h ho a c on h1 h2 with ⟨_,x⟩|⟨_,x,y⟩
 ·rw[e2] at x;exact absurd x κ
 ·refine⟨by rw[e2],x,y,?_,?_,?_,?_⟩
  ·rw[e2];show(aZ _ _).length≤_;omega
  ·rw[e2];exact ho
  ·rw[e2]
  ·rw[e2]
   intro w hw;rcases Nj _ _ _ hw with hw|hw
   ·exact .inr (zG w hw).2.1
   ·exact .inl hw
theorem Au{K:Nat}{σ:StL}{fr:List (List WrL)}{C:Nat→Bytes}(h:ce K σ fr C)(o:Bool):σ.state o=if σ.open_=o then 0 else 15:=by
 unfold StL.state;rw[show σ.dead=false from h.inv.live];rfl
structure ax where
 name:Bytes
 sl:Bool
 size:Nat
 ext:List (Nat×Nat)
def aT(x:List (Nat×Nat)):List Nat:=x.flatMap fun e=>List.range' e.1 e.2
def ax.bl(f:ax):List Nat:=aT f.ext
def fD(l:List ax):List Nat:=l.flatMap ax.bl
def cB(n:Nat):Nat:=(n+255) / 256
def pD:Bytes:=[97,98,99,100,101,102,103,104,105,106,107,108,109,110,111,112,113,114,115,116,117,118,119,120,121,122,48,49,50,51,52,53,54,55,56,57,46,45,95]
def iM(s:Bytes):Bool:=decide (s≠[]∧s.length≤24∧∀c∈s,c∈pD)
def Av(f:ax):Bytes:=qR f.name++dN (if f.sl then 1 else 0)++dN f.size++dN f.ext.length++f.ext.flatMap fun e=>dN e.1++dN e.2
def je(l:List ax):Bytes:=[67,68,88,73]++dN l.length++l.flatMap Av
def ix(s:Bytes):Bytes:=s++aB (fU s)
def iA(l:List ax):Bool:=decide ((ix (je l)).length≤3072)
def bR(l:List ax):Bytes:=ix (je l)++bg (3072-(ix (je l)).length)
theorem kg{l:List ax}(h:iA l=true):(bR l).length=3072:=by
 have:=Tl h;unfold bR;rw[Δ,fC];omega
structure ge (first n:Nat) (f:ax):Prop where
 name:iM f.name=true
 size:f.size≤2147483647
 few:f.ext.length≤16
 ext:∀e∈f.ext,1≤e.2∧first≤e.1∧e.1+e.2≤n
 need:f.bl.length=cB f.size
structure cL (first n:Nat) (l:List ax):Prop where
 few:l.length≤64
 rise:l.Pairwise fun a b=>a.name<b.name
 ok:∀f∈l,ge first n f
 apart:(fD l).Nodup
theorem JY{x:List (Nat×Nat)}{i:Nat}:i∈aT x↔∃e∈x,e.1≤i∧i<e.1+e.2:=by
 unfold aT;rw[PT];simp only[To]
theorem ge.mem{first n:Nat}{f:ax}(h:ge first n f){i:Nat}(hi:i∈f.bl):first≤i∧i<n:=by
 obtain⟨e,he,h1,h2⟩:=JY.1 hi;have:=h.ext e he;omega
theorem cL.mem{first n:Nat}{l:List ax}(h:cL first n l){i:Nat}(hi:i∈fD l):first≤i∧i<n:=by
 obtain⟨f,hf,hi⟩:=PT.1 hi;exact(h.ok f hf).mem hi
def aA:List ax→Bytes→Nat
 | [],_=>0
 | f::l,s=>if f.name<s then aA l s+1 else 0
def isF(l:List ax)(s:Bytes):Bool:=match l[aA l s]? with|some f=>decide (f.name=s)|none=>false
theorem Gm(l:List ax)(s:Bytes):aA l s≤l.length:=by
 induction l with
 | nil=>exact Ω _
 | cons f l ih=>rw[aA];split<;>simp only[Mu]<;>omega
theorem DR(a:Bytes):¬a<a:=List.lt_irrefl a
theorem mC{a b c:Bytes}(h:a<b)(k:b<c):a<c:=List.lt_trans h k
theorem np{a b:Bytes}(h:¬a<b)(aU:a≠b):b<a:=by
 rcases List.le_iff_lt_or_eq.1 (List.not_lt.1 h) with h2|h2
 ·exact h2
 ·exact absurd h2.symm aU
theorem zf{l:List ax}(h:l.Pairwise fun a b=>a.name<b.name)(s:Bytes)(k:Nat)(hk:k<l.length):l[k].name<s↔k<aA l s:=by
 induction l generalizing k with
 | nil=>simp at hk
 | cons f l ih =>
  obtain⟨h1,h2⟩:=Tu.1 h;rw[aA];cases k with
  | zero =>
   rw[List.getElem_cons_zero];split
   ·rename_i hf;exact⟨fun _=>Nat.succ_pos _,fun _=>hf⟩
   ·rename_i hf;exact⟨fun hx=>absurd hx hf,fun hx=>U⟩
  | succ k =>
   have Oz:k<l.length:=by simpa using hk
   rw[abj];split
   ·rw[ih h2 k Oz];omega
   ·rename_i hf
    exact⟨fun hx=>absurd (mC (h1 _ (MA Oz)) hx) hf,fun hx=>U⟩
theorem BZ{l:List ax}(h:l.Pairwise fun a b=>a.name<b.name)(s:Bytes)(k:Nat)(hk:k<l.length)(e:l[k].name=s):aA l s=k:=by
 rcases abl k (aA l s) with hx|hx|hx
 ·have:=(zf h s k hk).2 hx
  rw[e] at this;exact absurd this (DR _)
 ·exact hx.symm
 ·have hp:aA l s<l.length:=U
  have h1:=Ts.1 h _ _ hp hk hx;rw[e] at h1;have:=(zf h s _ hp).1 h1;omega
theorem IC{l:List ax}(h:l.Pairwise fun a b=>a.name<b.name)(s:Bytes):isF l s=true↔∃f∈l,f.name=s:=by
 unfold isF;constructor
 ·intro hx
  cases hg:l[aA l s]? with
  | none=>rw[hg] at hx;simp at hx
  | some f=>rw[hg] at hx;exact⟨f,adX hg,by simpa using hx⟩
 ·rintro⟨f,hf,e⟩
  obtain⟨k,hk,rfl⟩:=QR hf;rw[BZ h s k hk e,Mp hk];simpa using e
theorem nt{l:List ax}{s:Bytes}(h:isF l s=true):∃hk:aA l s<l.length,(l[aA l s]'hk).name=s:=by
 unfold isF at h;cases hg:l[aA l s]? with
 | none=>rw[hg] at h;simp at h
 | some f =>
  obtain⟨hk,e⟩:=Pi.1 hg;rw[hg] at h;exact⟨hk,by rw[e];simpa using h⟩
def jE(l:List ax)(f:ax):List ax:=l.take (aA l f.name)++f::l.drop (aA l f.name)
theorem wh(l:List ax)(f:ax):(jE l f).Perm (f::l):=by
 have:=(List.perm_middle (a:=f) (l₁:=l.take (aA l f.name)) (l₂:=l.drop (aA l f.name)));rwa [PP] at this
theorem EC{l:List ax}(h:l.Pairwise fun a b=>a.name<b.name)(f:ax)(hn:isF l f.name=false):(jE l f).Pairwise fun a b=>a.name<b.name:=by
 have qP:∀a∈l.take (aA l f.name),a.name<f.name:=fun a ha=>by
  obtain⟨k,hk,rfl⟩:=QR ha;rw[Mz] at hk;rw[abm];exact(zf h f.name k U).2 U
 have hhi:∀a∈l.drop (aA l f.name),f.name<a.name:=fun a ha=>by
  obtain⟨k,hk,rfl⟩:=QR ha;rw[MM] at hk;rw[W7];have h1:¬(l[aA l f.name+k]' U).name<f.name:=fun hx=>by have:=(zf h f.name _ U).1 hx;omega
  refine np h1 (fun e=>?_)
  have:=(IC h f.name).2 ⟨_,MA (by omega:aA l f.name+k<l.length),e⟩
  rw[hn] at this;exact absurd this Z
 unfold jE;refine aby.2 ⟨h.sublist (List.take_sublist _ _),Tu.2 ⟨hhi,h.sublist (List.drop_sublist _ _)⟩,fun a ha b hb=>?_⟩
 rcases NL.1 hb with rfl|hb
 ·exact qP a ha
 ·exact mC (qP a ha) (hhi b hb)
theorem JZ{l:List ax}(h:l.Pairwise fun a b=>a.name<b.name)(i:Nat)(hi:i<l.length)(f:ax)(e:f.name=l[i].name):(l.set i f).Pairwise fun a b=>a.name<b.name:=by
 refine Ts.2 (fun a b ha hb uU=>?_)
 rw[SP] at ha hb;have:=Ts.1 h a b ha hb uU;rw[List.getElem_set,List.getElem_set];split
 ·rename_i hx;subst hx
  rw[η U,e];exact this
 ·split
  ·rename_i hx;subst hx;rw[e];exact this
  ·exact this
theorem mZ{l:List ax}{i:Nat}(hi:i<l.length):l.Perm (l[i]::l.eraseIdx i):=by
 have h:=List.perm_middle (a:=l[i]) (l₁:=l.take i) (l₂:=l.drop (i+1));rw[←WN,List.getElem_cons_drop,PP] at h;exact h
theorem NT{l:List ax}(h:l.Pairwise fun a b=>a.name<b.name){i:Nat}(hi:i<l.length):∀f∈l.eraseIdx i,f.name≠l[i].name:=by
 intro f hf e;obtain⟨k,hk,bq,rfl⟩:=acJ.1 hf;have h1:=BZ h l[i].name k hk e;have h2:=BZ h l[i].name i hi rfl;omega
theorem jf{l m:List ax}(h:l.Perm m):(fD l).Perm (fD m):=h.flatMap_right _
theorem gJ(f:ax)(l:List ax):fD (f::l)=f.bl++fD l:=OR
theorem set_perm{l:List ax}{i:Nat}(hi:i<l.length)(f:ax):(l.set i f).Perm (f::l.eraseIdx i):=by
 have h:=mZ (l:=l.set i f) (i:=i) (by rw[SP];exact hi)
 rw[adM,List.eraseIdx_set_eq] at h;exact h
theorem cL.hQ{first n:Nat}{l m:List ax}(h:∀f∈m,ge first n f)(hr:l.Pairwise fun a b=>a.name<b.name)(hp:l.Perm m)(hm:m.length≤64)(ha:(fD m).Nodup):cL first n l :=
 ⟨by rw[hp.length_eq];exact hm,hr,fun f hf=>h f (hp.mem_iff.1 hf),(jf hp).nodup_iff.2 ha⟩
def cont(C:Nat→Bytes)(f:ax):Bytes:=(f.bl.flatMap C).take f.size
theorem QI{C D:Nat→Bytes}{f:ax}(h:∀i∈f.bl,C i=D i):cont C f=cont D f:=by
 unfold cont;rw[aai,aai,P4 h]
structure sD (n:Nat) (C:Nat→Bytes) (l:List ax):Prop where
 room:ak n+12≤n
 ok:cL (ak n+12) n l
 fits:iA l=true
 dir:∀i,i<12→C (ak n+i)=aG (bR l) i
 used:∀i,ak n≤i→i<n→(bit (kD n C) i=true↔i<ak n+12∨i∈fD l)
end
section
open Go.RowKit
abbrev oN(f:ax)(a:Value):Value:=.agg #[ah f.name,.bool f.sl,.int .i64 (f.size:Nat),a]
def dH:List Value→List ax→List Value
 | a::vs,f::l=>ah f.name::.bool f.sl::.int .i64 (f.size:Nat)::a::dH vs l
 | _,_=>[]
theorem wm(vs:List Value):∀(l:List ax) (k:Nat) (hk:k<l.length) (h:vs.length=l.length),(dH vs l)[k*4]?=some (ah l[k].name)∧(dH vs l)[k*4+1]?=some (.bool l[k].sl)∧(dH vs l)[k*4+2]?=some (.int .i64 (l[k].size:Nat))∧(dH vs l)[k*4+3]?=some (vs[k]' U):=by
 induction vs with
 | nil=>intro l k hk h;rw[←h] at hk;simp at hk
 | cons a vs ih=>intro l k hk h;cases l with
  | nil=>simp at hk
  | cons f l =>
   cases k with
   | zero=>exact⟨rfl,rfl,rfl,rfl⟩
   | succ k =>
    have:=ih l k (by simpa using hk) (by simpa using h)
    rw[show(k+1)*4=k*4+1+1+1+1 by omega]
    simp only[dH,Xs,abj];exact this
theorem zO(vs bs:List Value):∀(l m:List ax),vs.length=l.length→dH (vs++bs) (l++m)=dH vs l++dH bs m:=by
 induction vs with
 | nil=>intro l m h;cases l with
  | nil=>rfl
  | cons f l=>simp at h
 | cons a vs ih=>intro l m h;cases l with
  | nil=>simp at h
  | cons f l=>simp only[PC,dH];rw[ih l m (by simpa using h)]
def eE(w:World)(v:Value)(l:List ax):Prop:=∃vs:List Value,vs.length=l.length∧Sl w v l.length 4 (dH vs l)∧∀(i:Nat) a f,vs[i]?=some a→l[i]?=some f→Sl w a f.ext.length 2 (ext f.ext)
theorem eE.stays{w w':World}{v:Value}{l:List ax}(h:eE w v l)(q:Q w w'):eE w' v l:=by
 obtain⟨vs,h1,h2,h3⟩:=h;exact⟨vs,h1,h2.stays q,fun i a f ha hf=>(h3 i a f ha hf).stays q⟩
theorem eE.nil(w:World):eE w (.slice none 0 0) []:=⟨[],rfl,Sl.nil w 4,fun i a f ha=>by simp at ha⟩
theorem eE.value{w:World}{v:Value}{l:List ax}(h:eE w v l):∃a cap,v=.slice a l.length cap∧(0<l.length→∃b off,a=some ⟨b,off,none⟩∧∀k (hk:k<l.length),∃av,
  w.cell? ⟨b,off+k*4,none⟩=some (ah l[k].name)∧w.cell? ⟨b,off+k*4+1,none⟩=some (.bool l[k].sl)∧w.cell? ⟨b,off+k*4+2,none⟩=some (.int .i64 (l[k].size:Nat))∧w.cell? ⟨b,off+k*4+3,none⟩=some av∧Sl w av l[k].ext.length 2 (ext l[k].ext)):=by
 obtain⟨vs,h1,⟨_,a,cap,rfl,hc⟩,h3⟩:=h;refine⟨a,cap,rfl,fun hn=>?_⟩
 obtain⟨b,off,rfl,hd⟩:=hc hn;refine⟨b,off,rfl,fun k hk=>?_⟩
 obtain⟨e0,e1,e2,e3⟩:=wm vs l k hk h1;exact⟨_,hd _ _ e0,hd _ _ e1,hd _ _ e2,hd _ _ e3,h3 k _ _ (Mp U) (Mp hk)⟩
theorem jS{w:World}{v:Value}{x:List (Nat×Nat)}(h:Sl w v x.length 2 (ext x)):∃a cap,v=.slice a x.length cap∧(0<x.length→∃b off,a=some ⟨b,off,none⟩∧∀k (hk:k<x.length),w.cell? ⟨b,off+k*2,none⟩=some (.int .i64 (x[k].1:Nat))∧w.cell? ⟨b,off+k*2+1,none⟩=some (.int .i64 (x[k].2:Nat))):=by
 obtain⟨_,a,cap,rfl,hc⟩:=h;refine⟨a,cap,rfl,fun hn=>?_⟩
 obtain⟨b,off,rfl,hd⟩:=hc hn;refine⟨b,off,rfl,fun k hk=>?_⟩
 obtain⟨e1,e2⟩:=FZ x k hk;rw[We 2 k] at e1 e2;exact⟨hd _ _ e1,hd _ _ e2⟩
def SlP(P:Nat→Prop)(w:World)(v:Value)(n size:Nat)(xs:List Value):Prop:=Sl w v n size xs∧(0<n→∀b off cap,v=.slice (some ⟨b,off,none⟩) n cap→P b)
theorem SlP.bh{P F:Nat→Prop}{w w':World}{v:Value}{n size:Nat}{xs:List Value}(h:SlP P w v n size xs)(t:ae F w w')(hd:∀k,P k→¬F k):SlP P w' v n size xs:=by
 obtain⟨⟨h1,a,cap,rfl,hc⟩,h2⟩:=h;refine⟨⟨h1,a,cap,rfl,fun hn=>?_⟩,h2⟩
 obtain⟨b,off,rfl,hx⟩:=hc hn;refine⟨b,off,rfl,fun j u hj=>?_⟩
 have h0:=hx j u hj;have hb:=h2 hn b off cap rfl;rw[show w'.cell? ⟨b,off+j,none⟩=w.cell? ⟨b,off+j,none⟩ from ?_]
 ·exact h0
 ·have:=t.block b (Io h0) (hd b hb)
  simp only[World.cell?,this]
theorem SlP.mono{P R:Nat→Prop}{w:World}{v:Value}{n size:Nat}{xs:List Value}(h:SlP P w v n size xs)(k:∀i,P i→i<w.heap.size→R i)(hs:0<size):SlP R w v n size xs:=by
 refine⟨h.1,fun hn b off cap e=>?_⟩
 obtain⟨h1,a,cap',e2,hc⟩:=h.1;obtain⟨b2,off2,e3,hx⟩:=hc hn;rw[e2,e3] at e;injection e with e4;injection e4 with e4;injection e4 with e5;subst e5;have hl:0<xs.length:=by rw[h1];exact Nat.mul_pos hn hs
 exact k _ (h.2 hn _ off2 cap' (by rw[e2,e3])) (Io (hx 0 _ (Mp hl)))
theorem SlP.cy{w:World}{base:Nat}{e:TypeId}{size:Nat}{v:Value}{n:Nat}{xs:List Value}(h:w.ownsRow base e size v n xs):SlP (fun k=>base≤k∧k<w.heap.size) w v n size xs :=
 ⟨Sl.cy h,fun hn b off cap e=>by
  obtain⟨a,c,e2,hg⟩:=aY h
  obtain⟨g,rfl⟩:=hg hn
  rw[e2] at e
  injection e with e4
  injection e4 with e4
  injection e4 with e5
  subst e5
  exact h.lt g (by rw[e2];rfl)⟩
def cn(P:Nat→Prop)(w:World)(v:Value)(l:List ax):Prop:=∃vs:List Value,vs.length=l.length∧SlP P w v l.length 4 (dH vs l)∧∀(i:Nat) a f,vs[i]?=some a→l[i]?=some f→SlP P w a f.ext.length 2 (ext f.ext)
theorem cn.s{P:Nat→Prop}{w:World}{v:Value}{l:List ax}(h:cn P w v l):eE w v l:=by
 obtain⟨vs,h1,h2,h3⟩:=h;exact⟨vs,h1,h2.1,fun i a f ha hf=>(h3 i a f ha hf).1⟩
theorem cn.bh{P F:Nat→Prop}{w w':World}{v:Value}{l:List ax}(h:cn P w v l)(t:ae F w w')(hd:∀k,P k→¬F k):cn P w' v l:=by
 obtain⟨vs,h1,h2,h3⟩:=h;exact⟨vs,h1,h2.bh t hd,fun i a f ha hf=>(h3 i a f ha hf).bh t hd⟩
theorem cn.q{P:Nat→Prop}{w w':World}{v:Value}{l:List ax}(h:cn P w v l)(q:Q w w'):cn P w' v l:=h.bh (ae.br (own:=fun _=>False) q) (fun _ _ x=>x)
theorem cn.mono{P R:Nat→Prop}{w:World}{v:Value}{l:List ax}(h:cn P w v l)(k:∀i,P i→i<w.heap.size→R i):cn R w v l:=by
 obtain⟨vs,h1,h2,h3⟩:=h;exact⟨vs,h1,h2.mono k Z,fun i a f ha hf=>(h3 i a f ha hf).mono k Z⟩
theorem cn.nil(P:Nat→Prop)(w:World)(cap:Nat):cn P w (.slice none 0 cap) []:=⟨[],rfl,⟨⟨rfl,none,cap,rfl,fun h=>by simp at h⟩,fun h=>by simp at h⟩,fun i a f ha=>by simp at ha⟩
end
section
theorem As(l:List WrL):∀(a b:Nat),l8 l→(∀w∈l,a≤w.1∧w.1<b)→l.length≤b-a:=by
 induction l with
 | nil=>intro a b _ _;exact MD _
 | cons w l ih =>
  intro a b h hm;obtain⟨h1,h2⟩:=Tu.1 h;have h3:=hm w (Nm ..);have:=ih (w.1+1) b h2 (fun x hx=>⟨h1 x hx,(hm x (M1 _ hx)).2⟩)
  rw[Mu];omega
def fO(σ:StL):Prop:=∀w∈σ.tx,w.1<ak σ.n
namespace StL
def writes(σ:StL):List WrL→StL×Int
 | []=>(σ,0)
 | w::ws=>if (σ.write w.1 w.2).2≠0 then σ.write w.1 w.2 else(σ.write w.1 w.2).1.writes ws
def bo(σ:StL):List (Nat×Nat)→StL×Int
 | []=>(σ,0)
 | x::xs=>if (σ.release x.1 x.2).2≠0 then σ.release x.1 x.2 else(σ.release x.1 x.2).1.bo xs
end StL
section
variable {K:Nat} {σ:StL} {fr:List (List WrL)} {C:Nat→Bytes}
theorem qY(h:ce K σ fr C)(hm:fO σ):σ.tx.length≤2:=by
 have h1:=As σ.tx 63 (ak σ.n) h.rise (fun w hw=>⟨(h.ie w hw).1,hm w hw⟩)
 have:=(jH σ.n h.big h.max).2;unfold ak at h1;omega
theorem AX(h:fO σ)(i:Nat)(hi:ak σ.n≤i):bT C σ.tx i=C i:=by
 unfold bT;exact dM _ _ _ (fun w hw e=>by have:=h w hw;omega)
theorem fq{σ τ:StL}(h:τ.j=σ.j):τ.n=σ.n:=by unfold StL.n;rw[h]
theorem J2(h:ce K σ fr C)(ho:σ.open_=true)(hs:σ.tx.length≤47)(i:Nat)(s:Bytes)(hl:s.length=256)(h1:ak σ.n≤i)(h2:i<σ.n)(hb:bit σ.ai i=true):
  σ.write i s=({ σ with tx:=aZ σ.tx [(i,s)] },0)∧ce K { σ with tx:=aZ σ.tx [(i,s)] } fr C:=by
 have hz:¬σ.state true≠0:=by rw[Au h,Φ ho];simp
 have hd:¬σ.cP i=false:=by unfold StL.cP;simp;omega
 have ht:=AV [(i,s)] σ.tx;rw[Rr] at ht;have e:σ.write i s=({ σ with tx:=aZ σ.tx [(i,s)] },0):=by
  unfold StL.write;rw[η hz,η hd,PM,η (by rw[hb];decide),η (by simpa using hl)]
  unfold StL.touch;rw[η U]
 have hi:=xj h i s;rw[e] at hi;exact⟨e,hi⟩
def Wr(σ:StL)(ws:List WrL):Prop:=∀w∈ws,ak σ.n≤w.1∧w.1<σ.n∧bit σ.ai w.1=true∧w.2.length=256
theorem tC(ws:List WrL):∀{σ:StL},ce K σ fr C→σ.open_=true→σ.tx.length+ws.length≤48→Wr σ ws →
  (σ.writes ws).2=0∧ce K (σ.writes ws).1 fr C∧(σ.writes ws).1.open_=true∧(σ.writes ws).1.ai=σ.ai∧(σ.writes ws).1.j=σ.j∧(σ.writes ws).1.tx.length≤σ.tx.length+ws.length∧∀i,bT C (σ.writes ws).1.tx i=bH ws i (bT C σ.tx i):=by
 induction ws with
 | nil=>intro σ h ho hs hw;exact⟨rfl,h,ho,rfl,rfl,Ω _,fun i=>rfl⟩
 | cons w ws ih =>
  intro σ h ho hs hw;rw[Mu] at hs;obtain⟨a1,a2,a3,a4⟩:=hw w (Nm ..);obtain⟨e,hi⟩:=J2 h ho U w.1 w.2 a4 a1 a2 a3;rw[StL.writes,e,η κ];have ht:=AV [(w.1,w.2)] σ.tx;rw[Rr] at ht;obtain⟨b1,b2,b3,b4,b5,b6,b7⟩:=ih (σ:={ σ with tx:=aZ σ.tx [(w.1,w.2)] }) hi ho (by show(aZ _ _).length+_≤48;omega) (fun x hx=>hw x (M1 _ hx))
  refine⟨b1,b2,b3,b4,b5,by rw[Mu];exact My b6 (by show(aZ _ _).length+_≤_;omega),fun i=>?_⟩
  rw[b7];show bH ws i (bT C (aZ σ.tx [(w.1,w.2)]) i)=bH (w::ws) i _;unfold bT;rw[Df _ _ h.rise];rfl
theorem yF(h:ce K σ fr C)(ho:σ.open_=true)(hm:fO σ)(a c:Nat)(on:Bool)(h1:ak σ.n≤a)(h2:a+c≤σ.n):
  (σ.bh a c on).2=0∧(∀j,bit (σ.bh a c on).1.ai j=if a≤j∧j<a+c then on else bit σ.ai j)∧ce K (σ.bh a c on).1 fr C∧(σ.bh a c on).1.open_=true∧(σ.bh a c on).1.j=σ.j∧fO (σ.bh a c on).1:=by
 obtain⟨t0,t1,t2,t3,t4,t5,t6⟩:=gt h ho (by have:=qY h hm;omega) a c on h1 h2
 refine⟨t0,fun j=>?_,t2,t4,t5,fun w hw=>?_⟩
 ·rw[t1];exact BK σ.ai a c j on (by have:=h.bits;omega)
 ·rw[fq t5]
  rcases t6 w hw with hw|hw
  ·exact hm w hw
  ·exact hw
theorem AY(h:ce K σ fr C)(ho:σ.open_=true)(hm:fO σ)(c:Nat)(hc:1≤c):
  match fK σ.ai c σ.n with
  | none=>σ.alloc c=(σ,0,9)
  | some a=>σ.alloc c=((σ.bh a c true).1,(a:Int),0)∧ak σ.n≤a∧a+c≤σ.n∧∀j,a≤j→j<a+c→bit σ.ai j=false:=by
 have hz:¬σ.state true≠0:=by rw[Au h,Φ ho];simp
 cases hf:fK σ.ai c σ.n with
 | none =>
  unfold StL.alloc;simp only[];rw[η hz,η U,PM,hf]
 | some a =>
  obtain⟨h1,h2,h3⟩:=sL h.map c a hc h.bits hf;have t0:=(yF h ho hm a c true h1 h2).1;refine⟨?_,h1,h2,h3⟩;unfold StL.alloc;rw[η hz,η U,PM,hf];simp only[];rw[η (by rw[t0];simp)]
theorem Xj(h:ce K σ fr C)(ho:σ.open_=true)(hm:fO σ)(a c:Nat)(hc:1≤c)(h1:ak σ.n≤a)(h2:a+c≤σ.n)(hf:∀j,a≤j→j<a+c→bit σ.ai j=true):σ.release a c=σ.bh a c false:=by
 have hz:¬σ.state true≠0:=by rw[Au h,Φ ho];simp
 have hd:σ.cP a=true:=by unfold StL.cP;simp;omega
 unfold StL.release;rw[η hz,η,η,PM,PM]
 ·rintro⟨i,hi,hx⟩
  rw[PM] at hi hx;rw[hf _ U U] at hx;exact absurd hx Z
 ·rintro(x|x|x)
  ·omega
  ·rw[hd] at x;exact absurd x Z
  ·omega
theorem I9(xs:List (Nat×Nat)):∀{σ:StL},ce K σ fr C→σ.open_=true→fO σ→(∀e∈xs,1≤e.2∧ak σ.n≤e.1∧e.1+e.2≤σ.n)→(aT xs).Nodup→(∀i∈aT xs,bit σ.ai i=true) →
  (σ.bo xs).2=0∧(∀j,bit (σ.bo xs).1.ai j=if j∈aT xs then false else bit σ.ai j)∧ce K (σ.bo xs).1 fr C∧(σ.bo xs).1.open_=true∧(σ.bo xs).1.j=σ.j∧fO (σ.bo xs).1:=by
 induction xs with
 | nil=>intro σ h ho hm _ _ _;exact⟨rfl,fun j=>by simp[aT,StL.bo],h,ho,rfl,hm⟩
 | cons x xs ih =>
  intro σ h ho hm hx hn hb;obtain⟨a1,a2,a3⟩:=hx x (Nm ..);have eF:∀j,j∈aT (x::xs)↔(x.1≤j∧j<x.1+x.2)∨j∈aT xs:=fun j=>by
   unfold aT;rw[OR,No,To]
  have e:=Xj h ho hm x.1 x.2 a1 a2 a3 (fun j h1 h2=>hb j ((eF j).2 (.inl ⟨h1,h2⟩)))
  obtain⟨t0,t1,t2,t3,t4,t5⟩:=yF h ho hm x.1 x.2 false a2 a3;have kV:=fq t4;have lU:(List.range' x.1 x.2++aT xs).Nodup:=hn;obtain⟨_,n2,n3⟩:=R0.1 lU;have aaO:∀j∈aT xs,¬(x.1≤j∧j<x.1+x.2):=fun j hj hc=>n3 j (To.2 hc) j hj rfl
  obtain⟨b0,b1,b2,b3,b4,b5⟩:=ih t2 t3 t5 (fun y hy=>by rw[kV];exact hx y (M1 _ hy)) n2 (fun i hi=>by rw[t1,η (aaO i hi)];exact hb i ((eF i).2 (.inr hi)))
  rw[StL.bo,e,η (by rw[t0];simp)]
  refine⟨b0,fun j=>?_,b2,b3,b4.trans t4,b5⟩
  rw[b1,t1];by_cases h1:j∈aT xs
  ·rw[Φ h1,Φ ((eF j).2 (.inr h1))]
  ·rw[η h1]
   by_cases h2:x.1≤j∧j<x.1+x.2
   ·rw[Φ h2,Φ ((eF j).2 (.inl h2))]
   ·rw[η h2,η (fun hx=>((eF j).1 hx).elim h2 h1)]
end
def vL(n:Nat)(p t:Bytes):List WrL:=((List.range 12).filter fun i=>decide (p=[]∨aG p i≠aG t i)).map fun i=>(ak n+i,aG t i)
theorem AZ{n:Nat}{p t:Bytes}{w:WrL}(h:w∈vL n p t):∃i,i<12∧w=(ak n+i,aG t i):=by
 obtain⟨i,hi,rfl⟩:=NF.1 h;exact⟨i,Sa.1 (QP.1 hi).1,rfl⟩
theorem J3(n:Nat)(p t:Bytes):(vL n p t).length≤12:=by
 unfold vL;rw[OK];exact My (XX _ _) (by rw[Wb];exact Ω _)
theorem C6(n:Nat)(p t:Bytes)(i:Nat)(s:Bytes)(h:i<ak n∨ak n+12≤i):bH (vL n p t) i s=s :=
 dM _ _ _ (fun w hw e=>by obtain⟨j,hj,rfl⟩:=AZ hw;simp only at e;omega)
theorem Hm(n:Nat)(p t:Bytes)(i:Nat)(hi:i<12)(s:Bytes)(hs:p=[]∨s=aG p i):bH (vL n p t) (ak n+i) s=aG t i:=by
 by_cases hx:p=[]∨aG p i≠aG t i
 ·refine uz (vL n p t) (ak n+i,aG t i) _ (NF.2 ⟨i,QP.2 ⟨Sa.2 hi,NO hx⟩,rfl⟩) (fun x hx e=>?_)
  obtain⟨j,hj,rfl⟩:=AZ hx;simp only at e;rw[show j=i by omega]
 ·rw[aek,abq] at hx
  rw[dM _ _ _ (fun w hw e=>?_),hs.resolve_left hx.1,hx.2]
  obtain⟨j,hj,rfl⟩:=NF.1 hw;simp only at e;obtain rfl:j=i:=U;have:=Tl (QP.1 hj).2;rcases this with h|h
  ·exact hx.1 h
  ·exact h hx.2
theorem ni{t:Bytes}(h:t.length=3072){i:Nat}(hi:i<12):(aG t i).length=256:=by
 unfold aG;rw[Mz,MM];omega
def StL.dir(σ:StL)(p:Bytes)(l:List ax):StL×Int:=if iA l then σ.writes (vL σ.n p (bR l)) else(σ,9)
theorem sx{K:Nat}{σ:StL}{fr:List (List WrL)}{C:Nat→Bytes}(h:ce K σ fr C)(ho:σ.open_=true)(hs:σ.tx.length≤36)(hr:ak σ.n+12≤σ.n)(p:Bytes)(l:List ax)(hf:iA l=true)
  (hb:∀i,i<12→bit σ.ai (ak σ.n+i)=true) (hp:p=[]∨∀i,i<12→bT C σ.tx (ak σ.n+i)=aG p i) :
  (σ.dir p l).2=0∧ce K (σ.dir p l).1 fr C∧(σ.dir p l).1.open_=true∧(σ.dir p l).1.ai=σ.ai∧(σ.dir p l).1.j=σ.j∧(∀i,i<12→bT C (σ.dir p l).1.tx (ak σ.n+i)=aG (bR l) i)∧∀i,ak σ.n+12≤i→bT C (σ.dir p l).1.tx i=bT C σ.tx i:=by
 have hl:=J3 σ.n p (bR l);unfold StL.dir;rw[Φ hf];obtain⟨b1,b2,b3,b4,b5,b6,b7⟩:=tC (vL σ.n p (bR l)) h ho U (fun w hw=>by
  obtain⟨i,hi,rfl⟩:=AZ hw;exact⟨TC _ _,by simp only;omega,hb i hi,ni (kg hf) hi⟩)
 refine⟨b1,b2,b3,b4,b5,fun i hi=>?_,fun i hi=>?_⟩
 ·rw[b7];exact Hm _ _ _ i hi _ (hp.elim .inl (fun h=>.inr (h i hi)))
 ·rw[b7];exact C6 _ _ _ i _ (.inr hi)
end
section
structure FsL where
 st:StL
 l:List ax
 packed:Bytes
structure bz (K:Nat) (φ:FsL) (fr:List (List WrL)) (C:Nat→Bytes):Prop where
 st:ce K φ.st fr C
 closed:φ.st.open_=false
 good:sD φ.st.n C φ.l
 packed:φ.packed=bR φ.l
abbrev TxR:=StL×Int×List ax
def FsL.cx(φ:FsL)(r:StL→TxR):FsL×Int :=
 if φ.st.begin.2≠0 then({ φ with st:=φ.st.begin.1.abort },φ.st.begin.2) else
 if (r φ.st.begin.1).2.1≠0 then({ φ with st:=(r φ.st.begin.1).1.abort },(r φ.st.begin.1).2.1) else
 if (r φ.st.begin.1).1.bj.2≠0 then({ φ with st:=(r φ.st.begin.1).1.bj.1.abort },(r φ.st.begin.1).1.bj.2)
 else(⟨(r φ.st.begin.1).1.bj.1,(r φ.st.begin.1).2.2,bR (r φ.st.begin.1).2.2⟩,0)
structure TxI (K:Nat) (fr:List (List WrL)) (C:Nat→Bytes) (τ σ:StL):Prop where
 st:ce K σ fr C
 op:σ.open_=true
 j:σ.j=τ.j
theorem yG{K:Nat}{σ:StL}{fr:List (List WrL)}{C:Nat→Bytes}(h:ce K σ fr C)(hc:σ.open_=false):σ.begin.2=0∧TxI K fr C σ σ.begin.1∧σ.begin.1.tx=[]∧σ.begin.1.ai=σ.ai:=by
 have e:σ.begin=({ σ with open_:=true,was:=σ.ai },0):=by
  unfold StL.begin;rw[Au h,Φ hc,η κ]
 have hi:=so h;rw[e] at hi ⊢;exact⟨rfl,⟨hi,rfl,rfl⟩,h.closed hc,rfl⟩
section
variable {K:Nat} {φ:FsL} {fr:List (List WrL)} {C:Nat→Bytes} {r:StL→TxR}
theorem oi(aC:ce K φ.st fr C)(hc:φ.st.open_=false)(hK:K+4<18446744073709551616)(he:(r φ.st.begin.1).2.1=0)(ht:TxI K fr C φ.st (r φ.st.begin.1).1)(hg:sD φ.st.n (bT C (r φ.st.begin.1).1.tx) (r φ.st.begin.1).2.2):
  ((φ.cx r).2=0∧(∃fr',bz (K+2) (φ.cx r).1 fr' (bT C (r φ.st.begin.1).1.tx))∧(φ.cx r).1.l=(r φ.st.begin.1).2.2∧(φ.cx r).1.st.n=φ.st.n∧(φ.st.j.d.Free→(φ.cx r).1.st.j.d.Free)) ∨
  ((φ.cx r).2=4∧(φ.cx r).1.st.dead=true∧(φ.cx r).1.l=φ.l∧(φ.cx r).1.st.n=φ.st.n∧¬φ.st.j.d.Free∧Two (K+2) φ.st.n (φ.cx r).1.st.j.d C (bT C (r φ.st.begin.1).1.tx)):=by
 obtain⟨b0,_⟩:=yG aC hc;have hn:=fq ht.j;have hfree:φ.st.j.d.Free→(r φ.st.begin.1).1.bj.1.j.d.Free:=fun hf=>by
  rw[←ht.j] at hf;unfold StL.bj;split
  ·exact hf
  ·split
   ·exact hf
   ·split<;>exact JL.fX hf _
 unfold FsL.cx;rw[η (by rw[b0];simp),η (by rw[he];simp)]
 have He:=zE (r φ.st.begin.1).1;rcases UD ht.st hK with ⟨e,⟨fr',i⟩,o,_⟩|⟨e,_,o⟩|⟨e,i1,i2,i3,i4,i5,i6⟩
 ·left
  rw[η (by rw[e];simp)]
  have hN:(r φ.st.begin.1).1.bj.1.n=φ.st.n:=by rw[He,hn]
  refine⟨rfl,⟨fr',i,o,?_,rfl⟩,rfl,hN,hfree⟩;show sD (r φ.st.begin.1).1.bj.1.n _ _;rw[hN];exact hg
 ·rw[ht.op] at o;exact absurd o Z
 ·right
  rw[Φ (by rw[e];decide)]
  have ha:(r φ.st.begin.1).1.bj.1.abort.j=(r φ.st.begin.1).1.bj.1.j:=ot _;have hh:=aC.good;refine⟨e,?_,rfl,?_,?_,?_⟩
  ·show(r φ.st.begin.1).1.bj.1.abort.j.d.dead=true
   rw[ha];exact i1
  ·show(r φ.st.begin.1).1.bj.1.abort.n=_
   rw[Hb,He,hn]
  ·rw[←ht.j];exact i5
  ·show Two (K+2) φ.st.n (r φ.st.begin.1).1.bj.1.abort.j.d C _
   rw[ha];rw[hn] at i3 i4;exact⟨i2,i3,hh,i4,i6⟩
theorem Ek(h:bz K φ fr C)(he:(r φ.st.begin.1).2.1≠0)(ht:TxI K fr C φ.st (r φ.st.begin.1).1):
  (φ.cx r).2=(r φ.st.begin.1).2.1∧bz K (φ.cx r).1 fr C∧(φ.cx r).1.l=φ.l∧(φ.cx r).1.st.j=φ.st.j:=by
 obtain⟨b0,_⟩:=yG h.st h.closed;unfold FsL.cx;rw[η (by rw[b0];simp),Φ he]
 have ha:(r φ.st.begin.1).1.abort.j=φ.st.j:=(ot _).trans ht.j;refine⟨rfl,⟨wl ht.st,WE _,?_,h.packed⟩,rfl,ha⟩;show sD (r φ.st.begin.1).1.abort.n _ _;rw[fq ha];exact h.good
end
def piece(b:Bytes)(n:Nat):Nat→Option (Nat×Nat)
 | 0=>none
 | k+1=>match fK b (k+1) n with|some a=>some (a,k+1)|none=>piece b n k
def su(x:List (Nat×Nat))(a k:Nat):List (Nat×Nat) :=
 match x.getLast? with
 | some e=>if e.1+e.2=a then x.dropLast++[(e.1,e.2+k)] else x++[(a,k)]
 | none=>[(a,k)]
def StL.cY(σ:StL)(x:List (Nat×Nat)):Nat→Nat→StL×Int×List (Nat×Nat)
 | 0,_=>(σ,0,x)
 | m+1,n=>if n=0 then(σ,0,x) else match piece σ.ai σ.n n with
  | none=>(σ,9,x)
  | some (a,k)=>(σ.bh a k true).1.cY (su x a k) m (n-k)
def StL.grow(σ:StL)(x:List (Nat×Nat))(n:Nat):StL×Int×List (Nat×Nat) :=
 if (σ.cY x n n).2.1≠0 then σ.cY x n n else if 16<(σ.cY x n n).2.2.length then((σ.cY x n n).1,9,(σ.cY x n n).2.2) else σ.cY x n n
def xq(t:Bytes):Bytes:=t++bg (256-t.length)
def dU:List Nat→Bytes→List WrL
 | [],_=>[]
 | b::bs,d=>(b,xq (d.take 256))::dU bs (d.drop 256)
theorem yP(x y:List (Nat×Nat)):aT (x++y)=aT x++aT y:=Sp
theorem A8(a k:Nat):aT [(a,k)]=List.range' a k:=by simp[aT]
theorem EE(x:List (Nat×Nat))(a k:Nat):aT (su x a k)=aT x++List.range' a k:=by
 unfold su;cases hl:x.getLast? with
 | none =>
  have:x=[]:=Z2.1 hl;subst this;rw[A8];rfl
 | some e =>
  simp only[];split
  ·rename_i he
   obtain⟨ys,rfl⟩:=abQ.1 hl;rw[W4,yP,yP,A8,MY];congr 1;rw[show aT [e]=List.range' e.1 e.2 from A8 _ _,←he,List.range'_append_1]
  ·rw[yP,A8]
theorem QK{x:List (Nat×Nat)}{a k:Nat}{first n:Nat}(h:∀e∈x,1≤e.2∧first≤e.1∧e.1+e.2≤n)(hk:1≤k)(h1:first≤a)(h2:a+k≤n):∀e∈su x a k,1≤e.2∧first≤e.1∧e.1+e.2≤n:=by
 intro e he;unfold su at he;cases hl:x.getLast? with
 | none =>
  rw[hl] at he;obtain rfl:=M3.1 he;exact⟨hk,h1,h2⟩
 | some y =>
  rw[hl] at he;simp only[] at he;have hy:=h y (acz hl);split at he
  ·rcases No.1 he with he|he
   ·exact h e (adW _ he)
   ·obtain rfl:=M3.1 he
    simp only;omega
  ·rcases No.1 he with he|he
   ·exact h e he
   ·obtain rfl:=M3.1 he
    exact⟨hk,h1,h2⟩
theorem Xk{b:Bytes}{n k a c:Nat}(h:piece b n k=some (a,c)):1≤c∧c≤k∧fK b c n=some a:=by
 induction k with
 | zero=>simp[piece] at h
 | succ k ih =>
  rw[piece] at h;cases hf:fK b (k+1) n with
  | some a' =>
   rw[hf] at h;simp only[N6,SD] at h;obtain⟨rfl,rfl⟩:=h;exact⟨U,Ω _,hf⟩
  | none =>
   rw[hf] at h;obtain⟨h1,h2,h3⟩:=ih h;exact⟨h1,U,h3⟩
theorem Jn{K:Nat}{τ:StL}{fr:List (List WrL)}{C:Nat→Bytes}(m:Nat):∀{σ:StL} {x:List (Nat×Nat)} {n:Nat},TxI K fr C τ σ→fO σ→n≤m→(∀i,i<ak σ.n+12→bit σ.ai i=true) →
  (∀e∈x,1≤e.2∧ak σ.n+12≤e.1∧e.1+e.2≤σ.n) →
  TxI K fr C τ (σ.cY x m n).1∧fO (σ.cY x m n).1∧((σ.cY x m n).2.1=9∨(σ.cY x m n).2.1=0∧(∀e∈(σ.cY x m n).2.2,1≤e.2∧ak σ.n+12≤e.1∧e.1+e.2≤σ.n) ∧
   ∃new,aT (σ.cY x m n).2.2=aT x++new∧new.length=n∧new.Nodup∧(∀i∈new,ak σ.n+12≤i∧i<σ.n∧bit σ.ai i=false)∧∀j,bit (σ.cY x m n).1.ai j=if j∈new then true else bit σ.ai j):=by
 induction m with
 | zero =>
  intro σ x n h hm hn hb hx;obtain rfl:n=0:=U;exact⟨h,hm,.inr ⟨rfl,hx,[],by simp[StL.cY],rfl,acY,κ,fun j=>by simp[StL.cY]⟩⟩
 | succ m ih =>
  intro σ x n h hm hn hb hx;rw[StL.cY];by_cases hz:n=0
  ·rw[Φ hz]
   exact⟨h,hm,.inr ⟨rfl,hx,[],κ,by rw[hz];rfl,acY,κ,fun j=>κ⟩⟩
  ·rw[η hz]
   cases hp:piece σ.ai σ.n n with
   | none=>exact⟨h,hm,.inl rfl⟩
   | some ac =>
    obtain⟨a,c⟩:=ac;simp only[];obtain⟨p1,p2,p3⟩:=Xk hp;have jy:=AY h.st h.op hm c p1;rw[p3] at jy;obtain⟨_,q1,q2,q3⟩:=jy;obtain⟨t0,t1,t2,t3,t4,t5⟩:=yF h.st h.op hm a c true q1 q2;have kV:=fq t4;have qa:ak σ.n+12≤a:=by
     refine adY.1 (fun ay=>?_)
     have h1:=hb a ay;rw[q3 a (Ω _) U] at h1;exact absurd h1 Z
    obtain⟨i1,i2,i3⟩:=ih (σ:=(σ.bh a c true).1) (x:=su x a c) (n:=n-c) ⟨t2,t3,t4.trans h.j⟩ t5 U (fun i hi=>by rw[t1];rw[kV] at hi;split;rfl;exact hb i hi) (by rw[kV];exact QK hx p1 qa q2)
    refine⟨i1,i2,?_⟩;rcases i3 with i3|⟨i3,i4,new,j1,j2,j3,j4,j5⟩
    ·exact .inl i3
    ·right
     rw[kV] at i4 j4;have hfree:∀i∈new,¬(a≤i∧i<a+c):=fun i hi hc=>by
      have:=(j4 i hi).2.2;rw[t1,Φ hc] at this;exact absurd this Z
     refine⟨i3,i4,List.range' a c++new,by rw[j1,EE,MY],by rw[Δ,WF,j2];omega,?_,fun i hi=>?_,fun j=>?_⟩
     ·refine R0.2 ⟨adf,j3,fun i hi k hk e=>?_⟩
      subst e;exact hfree i hk (To.1 hi)
     ·rcases No.1 hi with hi|hi
      ·have hi:=To.1 hi
       exact⟨U,U,q3 i hi.1 hi.2⟩
      ·obtain⟨k1,k2,k3⟩:=j4 i hi
       rw[t1,η (hfree i hi)] at k3;exact⟨k1,k2,k3⟩
     ·rw[j5,t1]
      by_cases h1:j∈new
      ·rw[Φ h1,Φ (No.2 (.inr h1))]
      ·rw[η h1]
       by_cases h2:a≤j∧j<a+c
       ·rw[Φ h2,Φ (No.2 (.inl (To.2 h2)))]
       ·rw[η h2,η (fun hx=>(No.1 hx).elim (fun hx=>h2 (To.1 hx)) h1)]
end
section
def ax.sealed(f:ax):ax:={ f with sl:=true }
def ax.named(f:ax)(s:Bytes):ax:={ f with name:=s }
theorem tH{l m:List ax}(h:l.Sublist m):(fD l).Sublist (fD m):=by
 induction h with
 | slnil=>exact ZD _
 | cons a _ ih=>rw[gJ];exact ih.trans (List.sublist_append_right _ _)
 | cons_cons a _ ih=>rw[gJ,gJ];exact(ZD _).append ih
def K9(n:Nat)(b:Bytes)(l:List ax):Prop:=∀i,ak n≤i→i<n→(bit b i=true↔i<ak n+12∨i∈fD l)
def Res(K:Nat)(fr:List (List WrL))(C:Nat→Bytes)(φ:FsL)(x:FsL×Int)(l':List ax)(P:(Nat→Bytes)→Prop)(R:Prop):Prop :=
 (x.2=0∧∃fr' D,bz (K+2) x.1 fr' D∧x.1.l=l'∧x.1.st.n=φ.st.n∧(φ.st.j.d.Free→x.1.st.j.d.Free)∧P D) ∨
 (x.2=4∧x.1.st.dead=true∧x.1.l=φ.l∧x.1.st.n=φ.st.n∧¬φ.st.j.d.Free∧∃D,Two (K+2) φ.st.n x.1.st.j.d C D∧sD φ.st.n D l'∧P D) ∨
 (x.2=9∧bz K x.1 fr C∧x.1.l=φ.l∧x.1.st.j=φ.st.j∧R)
section
variable {K:Nat} {φ:FsL} {fr:List (List WrL)} {C:Nat→Bytes} {r:StL→TxR}
theorem Gn(h:bz K φ fr C)(hK:K+4<18446744073709551616)(l':List ax)(P:(Nat→Bytes)→Prop)(R:Prop)
  (hr:((r φ.st.begin.1).2.1=0∧TxI K fr C φ.st (r φ.st.begin.1).1∧sD φ.st.n (bT C (r φ.st.begin.1).1.tx) l'∧(r φ.st.begin.1).2.2=l'∧P (bT C (r φ.st.begin.1).1.tx))∨((r φ.st.begin.1).2.1=9∧TxI K fr C φ.st (r φ.st.begin.1).1∧R)) :
  Res K fr C φ (φ.cx r) l' P R:=by
 rcases hr with ⟨a,b,c,d,e⟩|⟨a,b,c⟩
 ·subst d
  rcases oi h.st h.closed hK a b c with ⟨x1,⟨fr',x2⟩,x3,x4,x5⟩|⟨x1,x2,x3,x4,x5,x6⟩
  ·exact .inl ⟨x1,fr',_,x2,x3,x4,x5,e⟩
  ·exact .inr (.inl ⟨x1,x2,x3,x4,x5,_,x6,c,e⟩)
 ·obtain⟨x1,x2,x3,x4⟩:=Ek h (by rw[a];decide) b
  exact .inr (.inr ⟨x1.trans a,x2,x3,x4,c⟩)
theorem bz.eQ(h:bz K φ fr C):K9 φ.st.n φ.st.ai φ.l:=fun i h1 h2=>by
 rw[h.st.now,h.st.closed h.closed];exact h.good.used i h1 h2
theorem bz.low(h:bz K φ fr C)(i:Nat)(hi:i<ak φ.st.n+12):bit φ.st.ai i=true:=by
 by_cases hl:i<ak φ.st.n
 ·exact h.st.map.low i hl
 ·exact(h.eQ i U (by have:=h.good.room;omega)).2 (.inl hi)
end
def qm(φ:FsL)(σ:StL)(l':List ax):TxR:=((σ.dir φ.packed l').1,(σ.dir φ.packed l').2,l')
section
variable {K:Nat} {φ:FsL} {fr:List (List WrL)} {C:Nat→Bytes} {σ:StL}
theorem A9(h:bz K φ fr C)(ht:TxI K fr C φ.st σ)(hs:σ.tx.length≤36)(l':List ax)(hd:cL (ak φ.st.n+12) φ.st.n l')(hu:K9 φ.st.n σ.ai l')
  (hc:∀i,i<12→bT C σ.tx (ak φ.st.n+i)=C (ak φ.st.n+i)) (P:(Nat→Bytes)→Prop) (hP:∀D:Nat→Bytes,(∀i,ak φ.st.n+12≤i→D i=bT C σ.tx i)→P D) :
  ((qm φ σ l').2.1=0∧TxI K fr C φ.st (qm φ σ l').1∧sD φ.st.n (bT C (qm φ σ l').1.tx) l'∧(qm φ σ l').2.2=l'∧P (bT C (qm φ σ l').1.tx))∨((qm φ σ l').2.1=9∧TxI K fr C φ.st (qm φ σ l').1∧iA l'=false):=by
 have hn:=fq ht.j;cases hf:iA l' with
 | false =>
  right;have e:σ.dir φ.packed l'=(σ,9):=by unfold StL.dir;rw[hf];rfl
  unfold qm;rw[e];exact⟨rfl,ht,rfl⟩
 | true =>
  left;obtain⟨b1,b2,b3,b4,b5,b6,b7⟩:=sx ht.st ht.op hs (by rw[hn];exact h.good.room) φ.packed l' hf
   (fun i hi=>(hu _ (by rw[hn];omega) (by have:=h.good.room;rw[hn];omega)).2 (.inl (by rw[hn];omega)))
   (.inr (fun i hi=>by rw[hn,hc i hi,h.packed];exact h.good.dir i hi))
  rw[hn] at b6 b7;have kV:(σ.dir φ.packed l').1.n=φ.st.n:=(fq b5).trans hn;refine⟨b1,⟨b2,b3,b5.trans ht.j⟩,⟨h.good.room,hd,hf,b6,fun i h1 h2=>?_⟩,rfl,hP _ b7⟩
  have hm:=b2.now;rw[kV] at hm;show bit (kD φ.st.n (bT C (σ.dir φ.packed l').1.tx)) i=true↔_;rw[←hm,b4];exact hu i h1 h2
theorem bz.start(h:bz K φ fr C):TxI K fr C φ.st φ.st.begin.1∧φ.st.begin.1.tx=[]∧φ.st.begin.1.ai=φ.st.ai:=(yG h.st h.closed).2
def wu(φ:FsL)(s:Bytes)(σ:StL):TxR:=qm φ σ (jE φ.l ⟨s,false,0,[]⟩)
def Ca(φ:FsL)(i:Nat)(f:ax)(σ:StL):TxR:=qm φ σ (φ.l.set i f.sealed)
def rZ(φ:FsL)(i:Nat)(f:ax)(σ:StL):TxR :=
 if (σ.bo f.ext).2≠0 then((σ.bo f.ext).1,(σ.bo f.ext).2,φ.l) else qm φ (σ.bo f.ext).1 (φ.l.eraseIdx i)
def eZ(l:List ax)(s:Bytes):List ax:=if isF l s then l.eraseIdx (aA l s) else l
def jg(l:List ax)(s:Bytes):List (Nat×Nat):=if isF l s then((l[aA l s]?).map ax.ext).getD [] else []
def r9(φ:FsL)(i:Nat)(f:ax)(tO:Bytes)(σ:StL):TxR :=
 if (σ.bo (jg (φ.l.eraseIdx i) tO)).2≠0 then((σ.bo (jg (φ.l.eraseIdx i) tO)).1,(σ.bo (jg (φ.l.eraseIdx i) tO)).2,φ.l)
 else qm φ (σ.bo (jg (φ.l.eraseIdx i) tO)).1 (jE (eZ (φ.l.eraseIdx i) tO) (f.named tO))
def iY(σ:StL)(f:ax):Bytes:=if f.size%256=0 then [] else(σ.get (f.bl.getD (f.size / 256) 0)).take (f.size%256)
def dW(f:ax)(d:Bytes)(x:List (Nat×Nat)):ax:={ f with size:=f.size+d.length,ext:=x }
def oF(φ:FsL)(i:Nat)(f:ax)(d:Bytes)(σ:StL):TxR :=
 if (σ.grow f.ext (cB (f.size+d.length)-f.bl.length)).2.1≠0 then((σ.grow f.ext (cB (f.size+d.length)-f.bl.length)).1,(σ.grow f.ext (cB (f.size+d.length)-f.bl.length)).2.1,φ.l) else
 if ((σ.grow f.ext (cB (f.size+d.length)-f.bl.length)).1.writes (dU ((aT (σ.grow f.ext (cB (f.size+d.length)-f.bl.length)).2.2).drop (f.size / 256)) (iY σ f++d))).2≠0
 then(((σ.grow f.ext (cB (f.size+d.length)-f.bl.length)).1.writes (dU ((aT (σ.grow f.ext (cB (f.size+d.length)-f.bl.length)).2.2).drop (f.size / 256)) (iY σ f++d))).1,((σ.grow f.ext (cB (f.size+d.length)-f.bl.length)).1.writes (dU ((aT (σ.grow f.ext (cB (f.size+d.length)-f.bl.length)).2.2).drop (f.size / 256)) (iY σ f++d))).2,φ.l)
 else qm φ ((σ.grow f.ext (cB (f.size+d.length)-f.bl.length)).1.writes (dU ((aT (σ.grow f.ext (cB (f.size+d.length)-f.bl.length)).2.2).drop (f.size / 256)) (iY σ f++d))).1 (φ.l.set i (dW f d (σ.grow f.ext (cB (f.size+d.length)-f.bl.length)).2.2))
def Same(C D:Nat→Bytes)(l:List ax):Prop:=∀i∈fD l,D i=C i
theorem IE(h:bz K φ fr C)(hm:fO σ)(hn:σ.n=φ.st.n)(D:Nat→Bytes)(hD:∀i,ak φ.st.n+12≤i→D i=bT C σ.tx i):Same C D φ.l:=fun i hi=>by
 have:=(h.good.ok.mem hi).1
 rw[hD i this,AX hm i (by rw[hn];omega)]
theorem La(h:bz K φ fr C)(hK:K+4<18446744073709551616)(s:Bytes)(hs:iM s=true)(hn:isF φ.l s=false)(hm:φ.l.length<64):
  Res K fr C φ (φ.cx (wu φ s)) (jE φ.l ⟨s,false,0,[]⟩) (fun D=>Same C D φ.l) (iA (jE φ.l ⟨s,false,0,[]⟩)=false):=by
 obtain⟨ht,h0,h1⟩:=h.start;have hp:=wh φ.l ⟨s,false,0,[]⟩;have ha:fD (⟨s,false,0,[]⟩::φ.l)=fD φ.l:=rfl;have ny:fO φ.st.begin.1:=by unfold fO;rw[h0];simp
 refine Gn h hK _ _ _ (A9 h ht (by rw[h0];simp) _ (cL.hQ (fun f hf=>?_) (EC h.good.ok.rise _ hn) hp (by rw[Mu];omega) (by rw[ha];exact h.good.ok.apart)) (fun i a b=>?_) (fun i hi=>by rw[h0];rfl) _ (fun D hD=>IE h ny (fq ht.j) D hD))
 ·rcases NL.1 hf with rfl|hf
  ·exact⟨hs,MD _,MD _,κ,(show(0:Nat)=cB 0 by decide)⟩
  ·exact h.good.ok.ok f hf
 ·rw[h1,(jf hp).mem_iff,ha];exact h.eQ i a b
theorem QL(h:bz K φ fr C)(hK:K+4<18446744073709551616)(i:Nat)(hi:i<φ.l.length):
  Res K fr C φ (φ.cx (Ca φ i φ.l[i])) (φ.l.set i φ.l[i].sealed) (fun D=>Same C D φ.l) (iA (φ.l.set i φ.l[i].sealed)=false):=by
 obtain⟨ht,h0,h1⟩:=h.start;have hp:=set_perm hi φ.l[i].sealed;have iq:=mZ hi;have ha:fD (φ.l[i].sealed::φ.l.eraseIdx i)=fD (φ.l[i]::φ.l.eraseIdx i):=rfl;have ny:fO φ.st.begin.1:=by unfold fO;rw[h0];simp
 refine Gn h hK _ _ _ (A9 h ht (by rw[h0];simp) _ (cL.hQ (fun f hf=>?_) (JZ h.good.ok.rise i hi φ.l[i].sealed rfl) hp (by have:=iq.length_eq;have:=h.good.ok.few;simp only[Mu] at *;omega) (by rw[ha];exact(jf iq).nodup_iff.1 h.good.ok.apart)) (fun k a b=>?_) (fun i hi=>by rw[h0];rfl) _ (fun D hD=>IE h ny (fq ht.j) D hD))
 ·rcases NL.1 hf with rfl|hf
  ·have:=h.good.ok.ok _ (MA hi)
   exact⟨this.name,this.size,this.few,this.ext,this.need⟩
  ·exact h.good.ok.ok f (UT hf)
 ·rw[h1,(jf hp).mem_iff,ha,←(jf iq).mem_iff];exact h.eQ k a b
theorem Dk(h:bz K φ fr C)(f:ax)(hf:f∈φ.l):
  (φ.st.begin.1.bo f.ext).2=0∧TxI K fr C φ.st (φ.st.begin.1.bo f.ext).1∧fO (φ.st.begin.1.bo f.ext).1∧∀j,bit (φ.st.begin.1.bo f.ext).1.ai j=if j∈f.bl then false else bit φ.st.ai j:=by
 obtain⟨ht,h0,h1⟩:=h.start;have ny:fO φ.st.begin.1:=by unfold fO;rw[h0];simp
 have hn:=fq ht.j;have ho:=h.good.ok.ok f hf;have oZ:∀i∈aT f.ext,i∈fD φ.l:=fun i hi=>PT.2 ⟨f,hf,hi⟩
 obtain⟨a,b,c,d,e,g⟩:=I9 f.ext ht.st ht.op ny (fun x hx=>by have:=ho.ext x hx;rw[hn];omega) (h.good.ok.apart.sublist (by have:=tH (ab5.2 hf);rwa [show fD [f]=aT f.ext from ON _] at this)) (fun i hi=>by
  have hr:=h.good.ok.mem (oZ i hi);rw[h1];exact(h.eQ i U hr.2).2 (.inr (oZ i hi)))
 exact⟨a,⟨c,d,e.trans ht.j⟩,g,fun j=>by rw[b,h1];rfl⟩
theorem J4{l:List ax}{i:Nat}(hi:i<l.length)(hn:(fD l).Nodup)(k:Nat):k∈fD (l.eraseIdx i)↔k∈fD l∧k∉l[i].bl:=by
 have hp:=jf (mZ hi);rw[hp.mem_iff,gJ,No];have lU:=hp.nodup_iff.1 hn;rw[gJ] at lU;have h3:=(R0.1 lU).2.2;exact⟨fun hk=>⟨.inr hk,fun hx=>h3 k hx k hk rfl⟩,fun hk=>hk.1.resolve_left hk.2⟩
theorem sB(h:bz K φ fr C){i:Nat}(hi:i<φ.l.length){b:Bytes}(hb:∀j,bit b j=if j∈φ.l[i].bl then false else bit φ.st.ai j):K9 φ.st.n b (φ.l.eraseIdx i):=fun k h1 h2=>by
 rw[hb,J4 hi h.good.ok.apart]
 have hu:=h.eQ k h1 h2
 by_cases hx:k∈φ.l[i].bl
 ·have:=(h.good.ok.ok _ (MA hi)).mem hx
  rw[Φ hx]
  exact⟨fun x=>absurd x Z,fun x=>x.elim (fun x=>U) (fun x=>absurd hx x.2)⟩
 ·rw[η hx,hu]
  exact⟨fun x=>x.elim .inl (fun x=>.inr ⟨x,hx⟩),fun x=>x.elim .inl (fun x=>.inr x.1)⟩
theorem cL.erase{first n:Nat}{l:List ax}(h:cL first n l)(i:Nat):cL first n (l.eraseIdx i):=by
 have hs:=SZ l i;exact⟨My hs.length_le h.few,h.rise.sublist hs,fun f hf=>h.ok f (hs.subset hf),h.apart.sublist (tH hs)⟩
theorem Lb(h:bz K φ fr C)(hK:K+4<18446744073709551616)(i:Nat)(hi:i<φ.l.length):
  Res K fr C φ (φ.cx (rZ φ i φ.l[i])) (φ.l.eraseIdx i) (fun D=>Same C D φ.l) (iA (φ.l.eraseIdx i)=false):=by
 obtain⟨a,b,c,d⟩:=Dk h φ.l[i] (MA hi);refine Gn h hK _ _ _ ?_;unfold rZ;rw[η (by rw[a];simp)]
 have hn:=fq b.j;exact A9 h b (by have:=qY b.st c;omega) _ (h.good.ok.erase i) (sB h hi d) (fun k hk=>AX c _ (by rw[hn];omega)) _ (fun D hD=>IE h c hn D hD)
theorem J5{first n:Nat}{l:List ax}(h:cL first n l)(s:Bytes):cL first n (eZ l s)∧isF (eZ l s) s=false∧(∀f∈eZ l s,f∈l)∧∀f∈l,f.name≠s→f∈eZ l s:=by
 unfold eZ;cases hx:isF l s with
 | false=>exact⟨h,hx,fun f hf=>hf,fun f hf _=>hf⟩
 | true =>
  obtain⟨hk,e⟩:=nt hx;refine⟨h.erase _,?_,fun f hf=>UT hf,fun f hf aU=>?_⟩
  ·refine Bool.eq_false_iff.2 (fun hc=>?_)
   obtain⟨f,hf,rF⟩:=(IC (h.erase _).rise s).1 hc;exact NT h.rise hk f hf (rF.trans e.symm)
  ·obtain⟨k,kW,rfl⟩:=QR hf
   exact acJ.2 ⟨k,kW,fun e2=>by subst e2;exact aU e,rfl⟩
theorem Lc(h:bz K φ fr C)(hK:K+4<18446744073709551616)(i:Nat)(hi:i<φ.l.length)(tO:Bytes)(ho:iM tO=true)(aU:φ.l[i].name≠tO):
  Res K fr C φ (φ.cx (r9 φ i φ.l[i] tO)) (jE (eZ (φ.l.eraseIdx i) tO) (φ.l[i].named tO)) (fun D=>Same C D φ.l) (iA (jE (eZ (φ.l.eraseIdx i) tO) (φ.l[i].named tO))=false):=by
 have he:=h.good.ok.erase i;obtain⟨l1,l2,l3,l4⟩:=J5 he tO;have hp:=wh (eZ (φ.l.eraseIdx i) tO) (φ.l[i].named tO);have zA:=mZ hi;have Tw:(fD ((φ.l[i].named tO)::eZ (φ.l.eraseIdx i) tO)).Nodup:=by
  have h1:=(jf zA).nodup_iff.1 h.good.ok.apart;refine h1.sublist ?_;rw[gJ,gJ];refine aea (ZD _) (tH ?_);unfold eZ;split
  ·exact SZ _ _
  ·exact ZD _
 have hd:cL (ak φ.st.n+12) φ.st.n (jE (eZ (φ.l.eraseIdx i) tO) (φ.l[i].named tO)):=by
  refine cL.hQ (fun f hf=>?_) (EC l1.rise _ l2) hp ?_ Tw
  ·rcases NL.1 hf with rfl|hf
   ·have:=h.good.ok.ok _ (MA hi)
    exact⟨ho,this.size,this.few,this.ext,this.need⟩
   ·exact l1.ok f hf
  ·have h1:=zA.length_eq;have h2:=h.good.ok.few
   have h3:(eZ (φ.l.eraseIdx i) tO).length≤(φ.l.eraseIdx i).length:=by
    unfold eZ;split
    ·exact(SZ _ _).length_le
    ·exact Ω _
   rw[Mu] at h1 ⊢;omega
 obtain⟨a,b,c,d⟩:(φ.st.begin.1.bo (jg (φ.l.eraseIdx i) tO)).2=0∧TxI K fr C φ.st (φ.st.begin.1.bo (jg (φ.l.eraseIdx i) tO)).1∧fO (φ.st.begin.1.bo (jg (φ.l.eraseIdx i) tO)).1∧K9 φ.st.n (φ.st.begin.1.bo (jg (φ.l.eraseIdx i) tO)).1.ai (jE (eZ (φ.l.eraseIdx i) tO) (φ.l[i].named tO)):=by
  have hui:∀k,k∈fD (jE (eZ (φ.l.eraseIdx i) tO) (φ.l[i].named tO))↔k∈φ.l[i].bl∨k∈fD (eZ (φ.l.eraseIdx i) tO):=fun k=>by
   rw[(jf hp).mem_iff,gJ,No];rfl
  have nk:∀k,k∈fD φ.l↔k∈φ.l[i].bl∨k∈fD (φ.l.eraseIdx i):=fun k=>by
   rw[(jf zA).mem_iff,gJ,No]
  cases hx:isF (φ.l.eraseIdx i) tO with
  | false =>
   have e1:jg (φ.l.eraseIdx i) tO=[]:=by unfold jg;rw[hx];rfl
   have e2:eZ (φ.l.eraseIdx i) tO=φ.l.eraseIdx i:=by unfold eZ;rw[hx];rfl
   obtain⟨ht,h0,h1⟩:=h.start;rw[e1];refine⟨rfl,ht,by unfold fO;show ∀w∈φ.st.begin.1.tx,_;rw[h0];simp,fun k a b=>?_⟩
   show bit φ.st.begin.1.ai k=true↔_;rw[hui,e2,←nk,h1];exact h.eQ k a b
  | true =>
   obtain⟨hk,e⟩:=nt hx;have e1:jg (φ.l.eraseIdx i) tO=((φ.l.eraseIdx i)[aA (φ.l.eraseIdx i) tO]'hk).ext:=by unfold jg;rw[hx,Φ rfl,Mp hk];rfl
   have e2:eZ (φ.l.eraseIdx i) tO=(φ.l.eraseIdx i).eraseIdx (aA (φ.l.eraseIdx i) tO):=by unfold eZ;rw[hx];rfl
   obtain⟨a,b,c,d⟩:=Dk h _ (UT (MA hk));rw[e1];refine⟨a,b,c,fun k h1 h2=>?_⟩
   rw[d,hui,e2,J4 hk he.apart];have hu:=h.eQ k h1 h2;have hu2:=nk k;have bI:k∈((φ.l.eraseIdx i)[aA (φ.l.eraseIdx i) tO]'hk).bl→k∈fD (φ.l.eraseIdx i):=fun hx=>PT.2 ⟨_,MA hk,hx⟩
   have aaO:=(J4 hi h.good.ok.apart k);by_cases hy:k∈((φ.l.eraseIdx i)[aA (φ.l.eraseIdx i) tO]'hk).bl
   ·have h3:=bI hy
    have h4:=(he.mem h3).1;have h5:=(aaO.1 h3).2;rw[Φ hy];exact⟨fun x=>absurd x Z,fun x=>x.elim (fun x=>U) (fun x=>x.elim (fun x=>absurd x h5) (fun x=>absurd hy x.2))⟩
   ·rw[η hy,hu,hu2]
    exact⟨fun x=>x.elim .inl (fun x=>.inr (x.elim .inl (fun x=>.inr ⟨x,hy⟩))),fun x=>x.elim .inl (fun x=>.inr (x.elim .inl (fun x=>.inr x.1)))⟩
 refine Gn h hK _ _ _ ?_;unfold r9;rw[η (by rw[a];simp)]
 have hn:=fq b.j;exact A9 h b (by have:=qY b.st c;omega) _ hd d (fun k hk=>AX c _ (by rw[hn];omega)) _ (fun D hD=>IE h c hn D hD)
end
end
section
theorem getD_at{α:Type}{l:List α}{k:Nat}(d:α)(h:k<l.length):l.getD k d=l[k]:=by rw[Θ,Mp h];rfl
theorem ED(t:Bytes)(h:t.length≤256):(xq t).length=256:=by unfold xq;rw[Δ,fC];omega
theorem zh{bs:List Nat}:∀{d:Bytes} {w:WrL},w∈dU bs d→w.1∈bs∧w.2.length=256:=by
 induction bs with
 | nil=>intro d w h;simp[dU] at h
 | cons b bs ih =>
  intro d w h;rw[dU] at h;rcases NL.1 h with rfl|h
  ·exact⟨Nm ..,ED _ (by rw[Mz];omega)⟩
  ·exact⟨M1 _ (ih h).1,(ih h).2⟩
theorem Cb(bs:List Nat):∀(d:Bytes),(dU bs d).length=bs.length:=by
 induction bs with
 | nil=>intro d;rfl
 | cons b bs ih=>intro d;rw[dU,Mu,ih,Mu]
theorem Xl(bs:List Nat):∀(d:Bytes) (D E:Nat→Bytes),bs.Nodup→d.length≤256*bs.length→(∀b∈bs,D b=bH (dU bs d) b (E b))→(bs.flatMap D).take d.length=d:=by
 induction bs with
 | nil=>intro d D E _ h _;have:d=[]:=OS (by simpa using h);subst this;rfl
 | cons b bs ih =>
  intro d D E hn hl hD;obtain⟨h1,h2⟩:=SR.1 hn;rw[Mu] at hl;have hb:=hD b (Nm ..);rw[dU,bH,Φ rfl,dM _ _ _ (fun w hw e=>h1 (by rw[←e];exact(zh hw).1))] at hb
  have hr:∀c∈bs,D c=bH (dU bs (d.drop 256)) c (E c):=fun c hc=>by
   have:=hD c (M1 _ hc);rw[dU,bH] at this;simp only[] at this;rw[η (fun e=>h1 (by rw[e];exact hc))] at this
   exact this
  rw[OR,hb];by_cases hs:d.length≤256
  ·rw[Se (by rw[ED _ (by rw[Mz];omega)];exact hs)]
   unfold xq;rw[NE hs,Se (Ω _),N5]
  ·have hp:xq (d.take 256)=d.take 256:=by
    unfold xq;rw[Mz,Sx U];exact ON _
   have hi:=ih (d.drop 256) D E h2 (by rw[MM];omega) hr
   rw[MM] at hi;rw[hp,ado,NE (l:=d.take 256) (by rw[Mz];omega),Mz,Sx U,hi,PP]
theorem J6(l:List Nat)(C:Nat→Bytes)(h:∀i∈l,(C i).length=256):(l.flatMap C).length=256*l.length:=by
 induction l with
 | nil=>rfl
 | cons b l ih=>rw[OR,Δ,ih (fun i hi=>h i (M1 _ hi)),h b (Nm ..),Mu];omega
theorem zg(l:List Nat)(C D:Nat→Bytes)(h:∀i∈l,C i=D i):l.flatMap C=l.flatMap D:=by
 rw[aai,aai,P4 h]
def NoRoom(σ:StL)(m:Nat):Prop:=0<m∧fK σ.ai m σ.n=none
theorem Cs{σ:StL}{m:Nat}(h:¬NoRoom σ m)(x:List (Nat×Nat)):(σ.cY x m m).2.1=0∧(σ.cY x m m).2.2.length≤x.length+1:=by
 cases m with
 | zero=>exact⟨rfl,ab3 _⟩
 | succ m =>
  cases hf:fK σ.ai (m+1) σ.n with
  | none=>exact absurd ⟨Nat.succ_pos _,hf⟩ h
  | some a =>
   have e0:∀(τ:StL) y,τ.cY y m 0=(τ,0,y):=fun τ y=>by cases m<;>simp[StL.cY]
   rw[StL.cY,η κ,piece,hf];simp only[abu];rw[e0];refine⟨rfl,?_⟩;unfold su;split
   ·split
    ·rw[Δ,acE,Rr];omega
    ·rw[Δ];exact Ω _
   ·exact Nat.succ_le_succ (MD _)
section
variable {K:Nat} {φ:FsL} {fr:List (List WrL)} {C:Nat→Bytes}
theorem bz.Ff(h:bz K φ fr C){i:Nat}(hi:i∈fD φ.l):(C i).length=256:=by
 have:=h.good.ok.mem hi;exact h.st.len i (by have h1:63≤ak φ.st.n:=TC _ _;omega) this.2
theorem qf(C:Nat→Bytes)(f:ax)(hl:∀i∈f.bl,(C i).length=256)(hn:f.bl.length=cB f.size)(t:Bytes)(ht:t=if f.size%256=0 then [] else(C (f.bl.getD (f.size / 256) 0)).take (f.size%256)):
  cont C f=(f.bl.take (f.size / 256)).flatMap C++t∧t.length=f.size%256∧((f.bl.take (f.size / 256)).flatMap C).length=256*(f.size / 256):=by
 unfold cB at hn;have h1:=J6 (f.bl.take (f.size / 256)) C (fun i hi=>hl i (Sf hi))
 rw[Mz,Sx U] at h1;refine⟨?_,?_,h1⟩
 ·unfold cont
  by_cases hz:f.size%256=0
  ·rw[ht,Φ hz,ON,NE (l:=f.bl) U,NE]
   rw[J6 f.bl C hl];omega
  ·rw[ht,η hz]
   have ay:f.size / 256<f.bl.length:=U;have e:f.bl.flatMap C=(f.bl.take (f.size / 256)).flatMap C++C (f.bl.getD (f.size / 256) 0):=by
    conv=>lhs;rw[←PP (f.size / 256) f.bl,Re ay,P3 U]
    rw[Sp,OR,V1,ON,getD_at _ ay]
   rw[e,ado,NE (by rw[h1];omega),h1]
   congr 2;omega
 ·rw[ht]
  split
  ·rename_i hz;rw[hz];rfl
  ·have ay:f.size / 256<f.bl.length:=U
   rw[Mz,getD_at _ ay,hl _ (MA ay)];omega
structure nc (K:Nat) (φ:FsL) (fr:List (List WrL)) (C:Nat→Bytes) (f:ax) (d:Bytes) (g:StL×Int×List (Nat×Nat)) (new:List Nat):Prop where
 tx:TxI K fr C φ.st g.1
 map:fO g.1
 few:g.2.2.length≤16
 ext:∀e∈g.2.2,1≤e.2∧ak φ.st.n+12≤e.1∧e.1+e.2≤φ.st.n
 run:aT g.2.2=f.bl++new
 free:∀k∈new,k∉fD φ.l
 bits:∀j,bit g.1.ai j=if j∈new then true else bit φ.st.ai j
 nodup:(f.bl++new).Nodup
 all:∀k,k∈f.bl++new→ak φ.st.n+12≤k∧k<φ.st.n∧bit g.1.ai k=true
 len:(f.bl++new).length=(f.size+d.length+255) / 256
theorem Ja(h:bz K φ fr C)(f:ax)(hf:f∈φ.l)(d:Bytes){g:StL×Int×List (Nat×Nat)}(hg:φ.st.begin.1.grow f.ext (cB (f.size+d.length)-f.bl.length)=g):
  TxI K fr C φ.st g.1∧(g.2.1=9∧(16<g.2.2.length∨NoRoom φ.st (cB (f.size+d.length)-f.bl.length))∨g.2.1=0∧∃new,nc K φ fr C f d g new)∧(g.2.2.length≤f.ext.length+1∨NoRoom φ.st (cB (f.size+d.length)-f.bl.length)):=by
 obtain⟨ht,h0,h1⟩:=h.start;have ny:fO φ.st.begin.1:=by unfold fO;rw[h0];simp
 have hn:=fq ht.j;have ZG:NoRoom φ.st.begin.1 (cB (f.size+d.length)-f.bl.length)↔NoRoom φ.st (cB (f.size+d.length)-f.bl.length):=by unfold NoRoom;rw[h1,hn]
 have kG:∀k∈f.bl,k∈fD φ.l:=fun k hk=>PT.2 ⟨_,hf,hk⟩
 have ho:=h.good.ok.ok _ hf;have lU:f.bl.Nodup:=h.good.ok.apart.sublist (by have:=tH (ab5.2 hf);rwa [show fD [f]=f.bl from ON _] at this)
 obtain⟨g1,g2,g3⟩:=Jn (cB (f.size+d.length)-f.bl.length) ht ny (x:=f.ext) (Ω _) (fun k hk=>by rw[h1];rw[hn] at hk;exact h.low k hk) (fun e he=>by rw[hn];exact ho.ext e he)
 have yJ:=fun hc=>Cs (σ:=φ.st.begin.1) (m:=cB (f.size+d.length)-f.bl.length) hc f.ext
 rw[←ZG];unfold StL.grow at hg;generalize φ.st.begin.1.cY f.ext (cB (f.size+d.length)-f.bl.length) (cB (f.size+d.length)-f.bl.length)=G at *;have YI:G.2.2.length≤f.ext.length+1∨NoRoom φ.st.begin.1 (cB (f.size+d.length)-f.bl.length):=by
  by_cases hr:NoRoom φ.st.begin.1 (cB (f.size+d.length)-f.bl.length)
  ·exact .inr hr
  ·exact .inl (yJ hr).2
 rcases g3 with g3|⟨g3,g4,new,n1,n2,n3,n4,n5⟩
 ·rw[Φ (by rw[g3];decide)] at hg
  subst hg;exact⟨g1,.inl ⟨g3,.inr (adj fun hc=>by rw[(yJ hc).1] at g3;exact absurd g3 Z)⟩,YI⟩
 ·rw[η (by rw[g3];simp)] at hg
  by_cases vM:16<G.2.2.length
  ·rw[Φ vM] at hg
   subst hg;exact⟨g1,.inl ⟨rfl,.inl vM⟩,YI⟩
  ·rw[η vM] at hg
   subst hg;rw[hn] at g4 n4;rw[h1] at n4 n5;have hfree:∀k∈new,k∉fD φ.l:=fun k hk hx=>by
    have hr:=h.good.ok.mem hx;have:=(h.eQ k U hr.2).2 (.inr hx);rw[(n4 k hk).2.2] at this;exact absurd this Z
   refine⟨g1,.inr ⟨g3,new,g1,g2,adY.1 vM,g4,n1,hfree,n5,R0.2 ⟨lU,n3,fun a ha b hb e=>hfree b hb (by rw[←e];exact kG a ha)⟩,fun k hk=>?_,?_⟩,YI⟩
   ·rw[n5]
    rcases No.1 hk with hk|hk
    ·have hr:=h.good.ok.mem (kG k hk)
     refine⟨hr.1,hr.2,?_⟩;split
     ·rfl
     ·exact(h.eQ k U hr.2).2 (.inr (kG k hk))
    ·exact⟨(n4 k hk).1,(n4 k hk).2.1,Φ hk⟩
   ·have:=ho.need
    unfold cB at *;rw[Δ,n2];omega
theorem Ld(h:bz K φ fr C)(i:Nat)(hi:i<φ.l.length)(d:Bytes)(hs:φ.l[i].size+d.length≤2147483647){g:StL×Int×List (Nat×Nat)}{new:List Nat}(hg:nc K φ fr C φ.l[i] d g new):
  cL (ak φ.st.n+12) φ.st.n (φ.l.set i (dW φ.l[i] d g.2.2)):=by
 have iq:=mZ hi;have u7:=set_perm hi (dW φ.l[i] d g.2.2);have hf:=MA hi;have kG:∀k∈φ.l[i].bl,k∈fD φ.l:=fun k hk=>PT.2 ⟨_,hf,hk⟩
 have ho:=h.good.ok.ok _ hf;have lU:=(jf iq).nodup_iff.1 h.good.ok.apart;rw[gJ] at lU;obtain⟨aiw,RV,aaP⟩:=R0.1 lU;have Bt:(dW φ.l[i] d g.2.2).bl=φ.l[i].bl++new:=hg.run;refine cL.hQ (fun f hf=>?_) (JZ h.good.ok.rise i hi (dW φ.l[i] d g.2.2) rfl) u7 (by have:=iq.length_eq;have:=h.good.ok.few;simp only[Mu] at *;omega) ?_
 ·rcases NL.1 hf with rfl|hf
  ·exact⟨ho.name,hs,hg.few,hg.ext,by rw[Bt,hg.len];rfl⟩
  ·exact h.good.ok.ok f (UT hf)
 ·rw[gJ,Bt]
  refine R0.2 ⟨hg.nodup,RV,fun a ha b hb e=>?_⟩
  rcases No.1 ha with ha|ha
  ·exact aaP a ha b hb e
  ·exact hg.free a ha (by rw[e];exact(tH (SZ _ _)).subset hb)
theorem EF(h:bz K φ fr C)(hK:K+4<18446744073709551616)(i:Nat)(hi:i<φ.l.length)(d:Bytes)(hd:d.length≤6000)(hs:φ.l[i].size+d.length≤2147483647):
  ∃x,Res K fr C φ (φ.cx (oF φ i φ.l[i] d)) (φ.l.set i (dW φ.l[i] d x)) (fun D=>Same C D (φ.l.eraseIdx i)∧cont D (dW φ.l[i] d x)=cont C φ.l[i]++d) (iA (φ.l.set i (dW φ.l[i] d x))=false∨16<x.length∨NoRoom φ.st (cB (φ.l[i].size+d.length)-φ.l[i].bl.length))∧(x.length≤φ.l[i].ext.length+1∨NoRoom φ.st (cB (φ.l[i].size+d.length)-φ.l[i].bl.length)):=by
 obtain⟨ht,h0,h1⟩:=h.start;have ny:fO φ.st.begin.1:=by unfold fO;rw[h0];simp
 have hn:=fq ht.j;have hf:=MA hi;have ZG:NoRoom φ.st.begin.1 (cB (φ.l[i].size+d.length)-φ.l[i].bl.length)↔NoRoom φ.st (cB (φ.l[i].size+d.length)-φ.l[i].bl.length):=by unfold NoRoom;rw[h1,hn]
 have iq:=mZ hi;have kG:∀k∈φ.l[i].bl,k∈fD φ.l:=fun k hk=>PT.2 ⟨_,hf,hk⟩
 have ho:=h.good.ok.ok _ hf;have lU:=(jf iq).nodup_iff.1 h.good.ok.apart;rw[gJ] at lU;obtain⟨aiw,RV,aaP⟩:=R0.1 lU;have nS:=qf C φ.l[i] (fun k hk=>h.Ff (kG k hk)) ho.need (iY φ.st.begin.1 φ.l[i]) (by
  unfold iY;split
  ·rfl
  ·have ay:φ.l[i].size / 256<φ.l[i].bl.length:=by rw[ho.need];unfold cB;omega
   have hm:=kG _ (MA ay);have hr:=h.good.ok.mem hm;rw[getD_at _ ay,ht.st.get _ (by have h1:63≤ak φ.st.n:=TC _ _;omega) (by rw[hn];exact hr.2),h0];rfl)
 obtain⟨x,hx⟩:∃x,φ.st.begin.1.grow φ.l[i].ext (cB (φ.l[i].size+d.length)-φ.l[i].bl.length)=x:=⟨_,rfl⟩;obtain⟨g1,g3,g4⟩:=Ja h _ hf d hx;refine⟨x.2.2,Gn h hK _ _ _ ?_,g4⟩;unfold oF;rw[hx];rcases g3 with ⟨g3,hr⟩|⟨g3,new,hG⟩
 ·right
  rw[Φ (by rw[g3];decide)]
  exact⟨g3,g1,.inr hr⟩
 ·have aix:=Ld h i hi d hs hG
  have g2:=hG.map;have n1:=hG.run;have n5:=hG.bits;have hfree:=hG.free;have uf:=hG.nodup;have hall:=hG.all;have LG:=hG.len;generalize iY φ.st.begin.1 φ.l[i]=tl at *;rw[η (by rw[g3];simp)]
  have V3:=fq g1.j;obtain⟨t1,t2,t3⟩:=nS;have Cc:φ.l[i].bl.length=(φ.l[i].size+255) / 256:=ho.need;have gV:((aT x.2.2).drop (φ.l[i].size / 256)).length=(φ.l[i].size+d.length+255) / 256-φ.l[i].size / 256:=by rw[n1,MM,LG]
  have mq:∀k∈(aT x.2.2).drop (φ.l[i].size / 256),k∈φ.l[i].bl++new:=fun k hk=>by rw[n1] at hk;exact Z3 hk
  have CO:=qY g1.st g2;obtain⟨w1,w2,w3,w4,w5,w6,w7⟩:=tC (dU ((aT x.2.2).drop (φ.l[i].size / 256)) (tl++d)) g1.st g1.op (by rw[Cb,gV];omega) (fun w hw=>by
   obtain⟨x1,x2⟩:=zh hw;have x3:=hall _ (mq _ x1);rw[V3];exact⟨U,x3.2.1,x3.2.2,x2⟩)
  rw[η (by rw[w1];simp)]
  have Kl:∀k,k∉φ.l[i].bl++new→ak φ.st.n≤k→bT C (x.1.writes (dU ((aT x.2.2).drop (φ.l[i].size / 256)) (tl++d))).1.tx k=C k:=fun k hk hx=>by
   rw[w7,dM _ _ _ (fun w hw e=>hk (by rw[←e];exact mq _ (zh hw).1)),AX g2 k (by rw[V3];exact hx)]
  have Bt:(dW φ.l[i] d x.2.2).bl=φ.l[i].bl++new:=n1;have u7:=set_perm hi (dW φ.l[i] d x.2.2);refine(fun x=>x.elim .inl (fun x=>.inr ⟨x.1,x.2.1,.inl x.2.2⟩)) (A9 h ⟨w2,w3,w5.trans g1.j⟩ (by rw[Cb,gV] at w6;omega) _ aix (fun k a b=>?_) (fun k hk=>Kl _ (fun hx=>by have:=(hall _ hx).1;omega) U) (fun D=>Same C D (φ.l.eraseIdx i)∧cont D (dW φ.l[i] d x.2.2)=cont C φ.l[i]++d) (fun D hD=>⟨fun k hk=>?_,?_⟩))
  ·rw[w4,n5,(jf u7).mem_iff,gJ,Bt,No,No]
   have hu:=h.eQ k a b;rw[(jf iq).mem_iff,gJ,No] at hu;by_cases hx:k∈new
   ·rw[Φ hx];exact⟨fun _=>.inr (.inl (.inr hx)),fun _=>rfl⟩
   ·rw[η hx,hu]
    exact⟨fun x=>x.elim .inl (fun x=>.inr (x.elim (fun x=>.inl (.inl x)) .inr)),fun x=>x.elim .inl (fun x=>.inr (x.elim (fun x=>.inl (x.resolve_right hx)) .inr))⟩
  ·have kW:k∈fD φ.l:=(tH (SZ _ _)).subset hk
   have hr:=h.good.ok.mem kW;rw[hD k hr.1];refine Kl k (fun hx=>?_) U
   rcases No.1 hx with hx|hx
   ·exact aaP k hx k hk rfl
   ·exact hfree k hx kW
  ·have aiy:=Xl ((aT x.2.2).drop (φ.l[i].size / 256)) (tl++d) D (bT C x.1.tx) (by rw[n1];exact uf.sublist (List.drop_sublist _ _)) (by rw[gV,Δ,t2];omega) (fun b hb=>by rw[hD b (hall b (mq b hb)).1,w7])
   have nN:(φ.l[i].bl.take (φ.l[i].size / 256)).flatMap D=(φ.l[i].bl.take (φ.l[i].size / 256)).flatMap C:=zg _ _ _ (fun k hk=>by
    have Bv:=Sf hk;have hr:=h.good.ok.mem (kG k Bv);rw[hD k hr.1,w7,dM _ _ _ (fun w hw e=>?_),AX g2 k (by rw[V3];omega)]
    have hx:=(zh hw).1;rw[e,n1] at hx;have Md:=(R0.1 (by rw[PP];exact uf:((φ.l[i].bl++new).take (φ.l[i].size / 256)++(φ.l[i].bl++new).drop (φ.l[i].size / 256)).Nodup)).2.2
    exact Md k (by rw[Se U];exact hk) k hx rfl)
   rw[t1];unfold cont;rw[Bt];have e2:(φ.l[i].bl++new).flatMap D=(φ.l[i].bl.take (φ.l[i].size / 256)).flatMap C++((aT x.2.2).drop (φ.l[i].size / 256)).flatMap D:=by
    rw[n1];conv=>lhs;rw[←PP (φ.l[i].size / 256) (φ.l[i].bl++new)]
    rw[Sp,Se U,nN]
   rw[e2,ado,NE (by rw[t3];show _≤φ.l[i].size+d.length;omega),t3,MY]
   congr 1;have:(dW φ.l[i] d x.2.2).size-256*(φ.l[i].size / 256)=(tl++d).length:=by
    show φ.l[i].size+d.length-_=_;rw[Δ,t2];omega
   rw[this];exact aiy
end
end
end Go.Proofs.YtonlbpljghohmaaGreatDoor
