/- Joined: WBlkB to FilS -/
import Derived.Lib.AppendZeros
import Derived.Test.YtbkahhebmpehnaaGreatDoorCXMapR
set_option linter.all false
set_option maxRecDepth 100000
set_option maxHeartbeats 8000000
namespace Go.Proofs.YtbkahhebmpehnaaGreatDoor
open Go.Proofs.Tryz
section
open Go.RowKit
theorem Gj{d:af}(i:Int)(s:Bytes)(h:d.chk i≠0):d.write i s=(d,d.chk i):=by unfold af.write;rw[Φ h]
theorem we(w:World)(F:Nat→Prop)(b:Nat)(d:af)(i:Int)(s:Bytes)(h:cF w F b d)(hd:d.Ok)(hp:d.dead=false→d.p.length≤1000000)(hs:s.length≤9223372036854775807):
  Calls prog 259 #[au b,.int .i64 i,ah s] w fun e w'=>e=.returned (.int .i64 (d.write i s).2)∧cF w' (grow F w w') b (d.write i s).1∧ae F w w':=by
 have hc:=MG w F b d i h hd.max;obtain⟨g,cap,pv,h⟩:=h;have sK:=h.mono (fun k hk=>oJ (A:=w) (B:=w) hk)
 have dK:∀{e:Int},(d.write i s)=(d,e)→cF w (grow F w w) b (d.write i s).1:=fun he=>by rw[he];exact⟨g,cap,pv,sK⟩
 by_cases h0:d.chk i=0
 ·rw[h0] at hc
  by_cases h1:s.length=256
  ·have e1:(!((s.length:Int)==256))=false:=by rw[MY.2 U];rfl
   have ht:=Nr w F b g cap pv d h hd.b9 hd.j9;by_cases h2:d.b9=0
   ·have hw:d.write i s=(d.bh,4):=by unfold af.write;rw[η (by rw[h0];simp),η (by rw[h1];simp),Φ h2]
    rw[Φ h2] at ht;rw[hw];have HC:=Hd hc;have HT:=Hd ht;clear hc ht h sK dK hw h0 hd hp;go_enter func259,ntmps259;go_wp2_with fail;refine HC.out.mono ?_;rintro e w1 ⟨rfl,rfl⟩;go_wp2_with fail;refine HT.out.mono ?_;rintro e w1 ⟨rfl,eT,t1,bB⟩;have HG:=Hd eT;have nW:=Hd t1;clear eT t1;go_wp2_with fail;go_ret;exact⟨rfl,⟨_,_,_,HG.out.mono (fun k hk=>oJ hk)⟩,nW.out⟩
   ·rw[η h2] at ht
    have dS:d.dead=false:=by
     unfold af.chk at h0;cases hx:d.dead with
     | false=>rfl
     | true=>rw[hx] at h0;simp at h0
    have qL:0≤i:=by
     unfold af.chk at h0;rw[dS] at h0;simp only[M2,ON] at h0;split at h0
     ·rename_i hx;exact hx.1
     ·exact absurd h0 Z
    have hw:d.write i s=({ d.bh with p:=d.bh.p++[(i.toNat,s)] },0):=by unfold af.write;rw[η (by rw[h0];simp),η (by rw[h1];simp),η h2,(af.df d).2]
    have bW:d.bh.p.length≤1000000:=by rw[(af.df d).2];exact hp dS
    have hx:[Value.int .i64 i,ah s]=mX (i.toNat,s):=by unfold mX;rw[Z2 qL]
    rw[hw];obtain⟨i0,hi,bY,bB,aW⟩:=info_parts nC;generalize d.bh=d2 at *;have HC:=Hd hc;have HT:=Hd ht;have HX:=Hd hx;clear hc ht h sK dK hw h0 hd hp hx qL;go_enter func259,ntmps259;go_wp2_with fail;refine HC.out.mono ?_;rintro e w1 ⟨rfl,rfl⟩;go_wp2_with fail;refine HT.out.mono ?_;rintro e w1 ⟨rfl,eT,t1,Sb⟩;obtain⟨c0,c1,c2,c3,f0,f1,f2,f3⟩:=eT.box.c4;have HG:=Hd eT;have nW:=Hd t1;have HZ:=Hd Sb;clear eT t1 Sb;have dP:=HG.out.row;have cO:∀u∈#[Value.int .i64 i,ah s].toList,u.oneCell'=true:=by intro u hu;simp at hu;rcases hu with rfl|rfl<;>rfl
    have dI:(d2.p.length+1)*24≤140737488355328:=U;have vg:=Hd cO;have xI:=Hd dI;clear cO dI;go_wp2_with (at_builtin;refine bG w1 ρ _ _ 102 ρ 0 134 _ i0 (.agg #[.int .i64 0,ah []]) 2 24 underlying102 hi bY bB aW rfl Z Z pv _ _ ρ dP #[.int .i64 i,ah s] ρ rfl vg.out xI.out (L0 _) ?_)
    clear dP;intro g2 cap2 w2 hr hg ho ay nX;have Zk:w2.ownsRow 0 134 2 (.slice (some ⟨g2,0,none⟩) (d2.p.length+1) cap2) (d2.p.length+1) (aN d2.p++mX (i.toNat,s)):=by rw[←HX.out];exact hr
    obtain⟨bN,hend,tend⟩:=HG.out.append (i.toNat,s) g2 cap2 Zk hg ho ay;obtain⟨d0,d1,d2',d3,e0,e1',e2,e3⟩:=bN.c4;have HE:=Hd hend;have HF:=Hd tend;clear hend tend hr hg ho Zk bN;go_wp2_with fail;go_ret;refine⟨rfl,⟨_,_,_,HE.out.mono (fun k hk=>?_)⟩,nW.out.trans HF.out⟩
    rcases hk with hk|hk
    ·exact .inl hk
    ·exact .inr ⟨by rw[←HZ.out];exact hk.1,hk.2⟩
  ·have e1:(!((s.length:Int)==256))=true:=by rw[Γ.2 U];rfl
   have hw:d.write i s=(d,3):=by unfold af.write;rw[η (by rw[h0];simp),Φ h1]
   have hend:=dK hw;rw[hw] at hend ⊢;have HC:=Hd hc;have HE:=Hd hend;clear hc hend h sK dK hw h0 hd hp;go_enter func259,ntmps259;go_wp2_with fail;refine HC.out.mono ?_;rintro e w1 ⟨rfl,rfl⟩;go_wp2_with fail;go_ret;exact⟨rfl,HE.out,ae.refl _ _⟩
 ·have e1:(d.chk i==0)=false:=Γ.2 h0
  have hw:=Gj i s h0;have hend:=dK hw;rw[hw] at hend ⊢;have HC:=Hd hc;have HE:=Hd hend;clear hc hend h sK dK hw h0 hd hp;simp only at HE ⊢;generalize d.chk i=x at *;go_enter func259,ntmps259;go_wp2_with fail;refine HC.out.mono ?_;rintro e w1 ⟨rfl,rfl⟩;go_wp2_with fail;go_ret;exact⟨rfl,HE.out,ae.refl _ _⟩
theorem NG(l:List Bytes)(p:List WrL)(k:Nat)(h:k<p.length):iw l (p.take (k+1))=(iw l (p.take k)).set p[k].1 p[k].2:=by
 rw[Mb h,Ur];rfl
theorem NH(w:World)(F:Nat→Prop)(b:Nat)(d:af)(h:cF w F b d)(hd:d.Ok)(hp:d.dead=false→d.p.length≤1000000):
  Calls prog 240 #[au b] w fun e w'=>e=.returned (.int .i64 d.bw.2)∧cF w' (grow F w w') b d.bw.1∧ae F w w':=by
 have hc:=MG w F b d 0 h hd.max;obtain⟨g,cap,pv,h⟩:=h;have sK:=h.mono (fun k hk=>oJ (A:=w) (B:=w) hk)
 cases dS:d.dead with
 | true =>
  have hw:d.bw=(d,4):=by unfold af.bw;rw[Φ dS]
  have h0:d.chk 0=4:=by unfold af.chk;rw[Φ dS]
  rw[h0] at hc;rw[hw];have HC:=Hd hc;have HG:=Hd sK;clear hc sK h hw h0 hd hp;go_enter func240,ntmps240;go_wp2_with fail;refine HC.out.mono ?_;rintro e w1 ⟨rfl,rfl⟩;go_wp2_with fail;go_ret;exact⟨rfl,⟨_,_,_,HG.out⟩,ae.refl _ _⟩
 | false =>
  have h0:d.chk 0=0:=by
   have:=hd.pos;unfold af.chk;rw[dS,η Z,Φ ⟨U,U⟩]
  rw[h0] at hc;have ht:=Nr w F b g cap pv d h hd.b9 hd.j9;by_cases h2:d.b9=0
  ·have hw:d.bw=(d.bh,4):=by unfold af.bw;rw[η (by rw[dS];decide),Φ h2]
   rw[Φ h2] at ht;rw[hw];have HC:=Hd hc;have HT:=Hd ht;clear hc ht h sK hw h0 hd hp;go_enter func240,ntmps240;go_wp2_with fail;refine HC.out.mono ?_;rintro e w1 ⟨rfl,rfl⟩;go_wp2_with fail;refine HT.out.mono ?_;rintro e w1 ⟨rfl,eT,t1,bB⟩;have HG:=Hd eT;have nW:=Hd t1;clear eT t1;go_wp2_with fail;go_ret;exact⟨rfl,⟨_,_,_,HG.out.mono (fun k hk=>oJ hk)⟩,nW.out⟩
  ·rw[η h2] at ht
   have hw:d.bw=({ d.bh with l:=iw d.bh.l d.bh.p,p:=[] },0):=by unfold af.bw;rw[η (by rw[dS];decide),η h2,(af.df d).1,(af.df d).2]
   have bW:d.bh.p.length≤1000000:=by rw[(af.df d).2];exact hp dS
   have gX:=af.gj hd;rw[hw];generalize d.bh=d2 at *;have HC:=Hd hc;have HT:=Hd ht;have fV:∀k (hk:k<d2.p.length),d2.p[k].1<d2.l.length:=fun k hk=>(gX.p _ (LO hk)).1
   have hmax:=gX.max;have kY:=Hd fV;clear hc ht h sK hw h0 hd hp gX fV;go_enter func240,ntmps240;go_wp2_with fail;refine HC.out.mono ?_;rintro e w1 ⟨rfl,rfl⟩;go_wp2_with fail;refine HT.out.mono ?_;rintro e w1 ⟨rfl,eT,t1,bB⟩;obtain⟨c0,c1,c2,c3,f0,f1,f2,f3⟩:=eT.box.c4;obtain⟨pa,pc,rfl,_⟩:=eT.js;have HG:=Hd eT;have nW:=Hd t1;have HZ:=Hd bB;clear eT t1 bB;go_wp2_with fail;go_loopw [22] (fun v wr=>∃k:Nat,v=.int .i64 (k:Nat)∧k≤d2.p.length∧Hid (dq wr F b g cap (.slice pa d2.p.length pc) { d2 with l:=iw d2.l (d2.p.take k) })∧Hid (ae F w1 wr)) (fun v _=>d2.p.length-(intOf v).toNat)
   case atStart=>exact⟨0,rfl,L0 _,HG.out,ae.refl _ _⟩
   case round =>
    obtain⟨k,rfl,kW,jU,fG⟩:=hrel;obtain⟨d0,d1,d2',d3,e0,e1,e2,e3⟩:=jU.out.box.c4;by_cases ay:k<d2.p.length
    ·have bq:(k:Int)<(d2.p.length:Int):=U
     obtain⟨pa',pc',D5,kR⟩:=jU.out.js;simp only[Value.slice.injEq] at D5;obtain⟨rfl,_,rfl⟩:=D5;obtain⟨g2,rfl,x1,x2⟩:=kR k ay;have oZ:=kY.out k ay;have oP:(iw d2.l (d2.p.take k)).length=d2.l.length:=lY _ _;have aif:((d2.p[k].1:Nat):Int)<(d2.l.length:Int):=U;have afF:(0:Int)≤((d2.p[k].1:Nat):Int):=U;obtain⟨y1,y2⟩:=jU.out.pw d2.p[k].1 (by rw[oP];exact oZ)
     have z0:wr.cell? ⟨b,0,none⟩=some (.slice (some ⟨g,0,none⟩) d2.l.length cap):=by rw[←oP];exact d0
     have jJ:=Q.alloc wr (.cells #[.int .i64 (d2.p[k].1:Nat),ah d2.p[k].2] 134);obtain⟨m0,m1,_⟩:=(Blk.new wr 134 #[.int .i64 (d2.p[k].1:Nat),ah d2.p[k].2]).c2;have nu:=jU.out.keep jJ;have z1:=aj jJ z0;obtain⟨y3,y4⟩:=nu.pw d2.p[k].1 (by rw[oP];exact oZ)
     have kU:=NG d2.l d2.p k ay;have aX:=Hd kU;have gF:=Hd nu;have rP:=Hd (fG.out.q jJ);clear kU kR d0 d1 d2' d3 e0 e1 e2 e3 nu jJ y1 y2 c0 c1 c2 c3 f0 f1 f2 f3;generalize eu:d2.p[k].1=bk at *;generalize zC:d2.p[k].2=dk at *;generalize (iw d2.l (d2.p.take k)).getD bk []=old at *;go_wp2_with fail;generalize hwo:wr.alloc (.cells #[.int .i64 (bk:Nat),ah dk] 134)=wo at *;go_region;all_goals
      go_wp2_with fail;go_roundw;case rel =>
       refine⟨k+1,by go_num,U,?_,?_⟩
       ·rw[aX.out]
        exact Hd ((gF.out.keep (Q.drew _)).lay bk dk).1
       ·exact Hd ((rP.out.q (Q.drew _)).trans (((gF.out.keep (Q.drew _)).lay bk dk).2))
      case measure=>simp[intOf];omega
    ·have bq:¬(k:Int)<(d2.p.length:Int):=U
     have Ae:k=d2.p.length:=U;subst Ae;have nu:=jU.out;rw[M1] at nu;have hend:=nu.empty;have HE:=Hd hend;clear hend nu;go_wp2_with fail;go_ret;exact⟨rfl,⟨_,_,_,HE.out.1.mono (fun k hk=>oJ hk)⟩,nW.out.trans (fG.out.trans HE.out.2)⟩
theorem af.ff(d:af)(i:Int)(s:Bytes):(d.write i s).1.p.length≤d.p.length+1:=by
 unfold af.write;split
 ·exact ab6 _
 ·split
  ·exact ab6 _
  ·split
   ·show d.bh.p.length≤_
    rw[(af.df d).2];omega
   ·simp
theorem af.po(d:af)(i:Int)(s:Bytes)(h:d.dead=true):(d.write i s).1.dead=true:=by
 unfold af.write;have:d.chk i=4:=by unfold af.chk;rw[Φ h]
 rw[Φ (by rw[this];decide)];exact h
theorem af.eh(d:af)(i:Int)(s:Bytes)(h:(d.write i s).1.dead=false):d.dead=false:=by
 cases hd:d.dead with
 | false=>rfl
 | true=>rw[d.po i s hd] at h;exact absurd h Z
theorem wY(w:World)(F:Nat→Prop)(b:Nat)(d:af)(lv:Value)(ws:List WrL)(h:cF w F b d)(hd:d.Ok)(hp:d.dead=false→d.p.length+ws.length≤1000000)(hl:eC w F lv ws)(hn:ws.length≤1000000):
  Calls prog 207 #[au b,lv] w fun e w'=>e=.returned (.int .i64 (d.writes ws).2)∧cF w' (grow F w w') b (d.writes ws).1∧ae F w w':=by
 obtain⟨la,lc,rfl,lX⟩:=hl.sl.value;have aP:∀k (hk:k<ws.length),∃lb lo,la=some ⟨lb,lo,none⟩∧lb<w.heap.size∧¬F lb∧w.cell? ⟨lb,lo+k*2,none⟩=some (.int .i64 (ws[k].1:Nat))∧w.cell? ⟨lb,lo+k*2+1,none⟩=some (ah ws[k].2):=fun k hk=>by
  obtain⟨lb,lo,h1,h2,h3,h4⟩:=lX U;exact⟨lb,lo,h1,h2,h3,h4 _ _ (fQ ws k hk).1,by have:=h4 _ _ (fQ ws k hk).2;rwa [←Ps] at this⟩
 have uS:∀k (hk:k<ws.length),ws[k].1≤9223372036854775807∧ws[k].2.length≤9223372036854775807:=fun k hk=>hl.num _ (LO hk)
 have HC:=Hd aP;have HN:=Hd uS;have HG:=Hd h;have HD:=Hd hd;have HP:=Hd hp;clear aP uS hl lX h hd hp;go_enter func207,ntmps207;go_wp2_with fail;go_loopw [10] (fun v wr=>∃(k:Nat) (d2:af),v=.int .i64 (k:Nat)∧k≤ws.length∧Hid (d.writes ws=d2.writes (ws.drop k))∧Hid (cF wr (grow F w wr) b d2)∧Hid (ae F w wr)∧Hid d2.Ok∧Hid (d2.dead=false→d2.p.length+(ws.length-k)≤1000000)) (fun v _=>ws.length-(intOf v).toNat)
 case atStart=>exact⟨0,d,rfl,L0 _,by rw[QQ];exact Hd rfl,HG.out.mono (fun _ h=>oJ h),ae.refl _ _,HD.out,by rw[adx];exact HP⟩
 case round =>
  obtain⟨k,d2,rfl,hk,HE,jU,fG,tY,kX⟩:=hrel;by_cases ay:k<ws.length
  ·have bq:(k:Int)<(ws.length:Int):=U
   obtain⟨lb,lo,rfl,OJ,qK,x1,x2⟩:=HC.out k ay;obtain⟨n1,n2⟩:=HN.out k ay;have y1:=fG.out.cell (F:=F) x1 qK;have y2:=fG.out.cell (F:=F) x2 qK;have he:=HE.out;rw[PQ ay,af.writes] at he;have jJ:=Q.alloc wr (.cells #[.int .i64 (ws[k].1:Nat),ah ws[k].2] 134);have hw:=we _ _ b d2 (ws[k].1:Nat) ws[k].2 (jU.out.keep jJ) tY.out (fun hx=>by have:=kX.out hx;omega) n2
   have bQ:=af.eI tY.out (ws[k].1:Nat) ws[k].2;have gK:(d2.write (ws[k].1:Nat) ws[k].2).1.dead=false→(d2.write (ws[k].1:Nat) ws[k].2).1.p.length+(ws.length-(k+1))≤1000000:=fun hx=>by
    have h1:=kX.out (af.eh _ _ _ hx);have h2:=af.ff d2 (ws[k].1:Nat) ws[k].2;omega
   have HW:=Hd hw;have kI:=Hd he;have pq:=Hd bQ;have sO:=Hd gK;have zH:=Hd jJ;clear x1 x2 he hw bQ gK jJ;generalize sJ:ws[k].1=bk at *;generalize mh:ws[k].2=dk at *;generalize Hl:d2.write (bk:Nat) dk=dw at *;go_wp2_with fail;refine HW.out.mono ?_;rintro e w3 ⟨rfl,nu,Sc⟩;have G5:=(fG.out.q zH.out);have oW:∀i,grow (grow F w wr) (wr.alloc (.cells #[.int .i64 (bk:Nat),ah dk] 134)) w3 i→grow F w w3 i:=fun i hi=>by
    rcases hi with (hi|hi)|hi
    ·exact .inl hi
    ·exact .inr ⟨hi.1,by have:=Sc.size;simp at this;omega⟩
    ·exact .inr ⟨by have:=G5.size;omega,hi.2⟩
   have zF:ae F w w3:=⟨Sc.os.trans G5.os,Sc.tape.trans G5.tape,Sc.output.trans G5.output,LS G5.size Sc.size,fun i h1 h2=>(Sc.block i (Ψ h1 G5.size) (fun hg=>hg.elim h2 (fun hg=>U))).trans (G5.block i h1 h2)⟩
   have gF:=Hd (nu.mono oW);have OP:=Hd zF;clear nu Sc G5 oW zF;by_cases hz:dw.2=0
   ·have hb:(dw.2==0)=true:=MY.2 hz
    have eX:=kI.out;rw[Φ hz] at eX;have tV:=Hd eX;clear eX kI hz;go_wp2_with fail;go_roundw;case rel=>exact⟨k+1,dw.1,by go_num,U,tV,gF,OP,pq,sO⟩
    case measure=>simp[intOf];omega
   ·have hb:(dw.2==0)=false:=Γ.2 hz
    have eX:=kI.out;rw[η hz] at eX;have tV:=Hd eX;clear eX kI hz;go_wp2_with fail;go_ret;exact⟨by rw[tV.out];rfl,by rw[tV.out];exact gF.out,OP.out⟩
  ·have bq:¬(k:Int)<(ws.length:Int):=U
   have Ae:k=ws.length:=U;subst Ae;have he:=HE.out;rw[VV,af.writes] at he;have tV:=Hd he;clear he;go_wp2_with fail;go_ret;exact⟨by rw[tV.out];rfl,by rw[tV.out];exact jU.out,fG.out⟩
theorem af.jz(ws:List WrL):∀(d:af),(d.writes ws).1.p.length≤d.p.length+ws.length:=by
 induction ws with
 | nil=>intro d;exact Ω _
 | cons w ws ih =>
  intro d;have h1:=af.ff d w.1 w.2;rw[af.writes];split
  ·have:=ih (d.write w.1 w.2).1
   rw[Θ];omega
  ·rw[Θ];omega
theorem af.hS(ws:List WrL):∀(d:af),(d.writes ws).1.dead=false→d.dead=false:=by
 induction ws with
 | nil=>intro d h;exact h
 | cons w ws ih =>
  intro d h;rw[af.writes] at h;split at h
  ·exact af.eh d _ _ (ih _ h)
  ·exact af.eh d _ _ h
theorem cF.minus{w:World}{F:Nat→Prop}{b p:Nat}{d:af}{cs:Array Value}(h:cF w F b d)(hb:Blk w p 216 cs):cF w (fun k=>F k∧k≠p) b d:=by
 obtain⟨g,cap,pv,h⟩:=h;exact⟨g,cap,pv,h.box,⟨h.fb,Gb h.box hb Z⟩,h.disk,⟨h.fg,Gb h.disk hb Z⟩,h.row,fun k e=>⟨h.fp k e,kM h.row hb Z k e⟩⟩
theorem yD(w:World)(F:Nat→Prop)(p b:Nat)(j:JL)(lv:Value)(ws:List WrL)(hb:Blk w p 216 (jd b j))(h:cF w F b j.d)(hd:j.d.Ok)(hp:j.d.dead=false→j.d.p.length+ws.length≤1000000)(hl:eC w F lv ws)(hn:ws.length≤1000000)(hpF:¬F p):
  Calls prog 205 #[au p,lv] w fun e w'=>e=.returned (.int .i64 (j.d.lays ws).2)∧cF w' (grow F w w') b (j.d.lays ws).1∧ae F w w':=by
 have hw:=wY w F b j.d lv ws h hd hp hl hn;obtain⟨c0,_⟩:=hb.c8;have ade:=hb.lt;have bQ:=af.eN hd ws;have u7:(j.d.writes ws).1.dead=false→(j.d.writes ws).1.p.length≤1000000:=fun hx=>by
  have h1:=hp (af.hS ws _ hx);have h2:=af.jz ws j.d;omega
 unfold af.lays;generalize j.d.writes ws=r at *;have HW:=Hd hw;have pq:=Hd bQ;have Zl:=Hd u7;clear hw bQ u7 h hd hp hl hb;by_cases hz:r.2=0
 ·have hb:(r.2==0)=true:=MY.2 hz
  rw[Φ hz];clear hz;go_enter func205,ntmps205;go_wp2_with fail;refine HW.out.mono ?_;rintro e w1 ⟨rfl,h1,t1⟩;have c1:=t1.cell c0 hpF;have HF:=Hd (NH w1 (grow F w w1) b r.1 h1 pq.out Zl.out);have HT:=Hd t1;clear h1 t1;go_wp2_with fail;refine HF.out.mono ?_;rintro e w2 ⟨rfl,h2,t2⟩;have HE:=Hd (h2.mono (fun k hk=>lZ HT.out.size t2.size hk));have fG:=Hd (HT.out.step t2)
  clear h2 t2;go_wp2_with fail;go_ret;exact⟨rfl,HE.out,fG.out⟩
 ·have hb:(r.2==0)=false:=Γ.2 hz
  rw[η hz];clear hz;go_enter func205,ntmps205;go_wp2_with fail;refine HW.out.mono ?_;rintro e w1 ⟨rfl,h1,t1⟩;have HE:=Hd h1;have HT:=Hd t1;clear h1 t1;go_wp2_with fail;go_ret;exact⟨rfl,HE.out,HT.out⟩
end
section
open Go.RowKit
section
variable {P:Program} (w:World)
theorem PE(base:Nat)(t ty e:TypeId)(i:TypeInfo)(size:Nat)(ht:P.underlying t=some (.slice e))(hi:P.info? e=some i)
  (v:Value) (n:Nat) (xs:List Value) (aF:w.ownsRow base e size v n xs) (c:Nat):(Builtin.append_ #[t,t] ty #[v,.slice none 0 c]).run P w=.ok v w:=by
 rcases aF.2 with ⟨rfl,rfl⟩|⟨g,cap,cur,rfl,_,_,Ho,_⟩
 ·simp[Builtin.append_,run_underlying ht,sizeOf,typeInfo,hi,Builtin.lenOf,Builtin.firstCells]
 ·simp[Builtin.append_,run_underlying ht,sizeOf,typeInfo,hi,Builtin.lenOf,Builtin.firstCells,Ho,storeCells]
theorem PG(base:Nat)(t ty e:TypeId)(i:TypeInfo)(z:Value)(size bytes:Nat)(ht:P.underlying t=some (.slice e))(hi:P.info? e=some i)(hz:i.zero=some z)
  (iE:i.size=size) (iT:i.bytes=bytes) (jl:z.cells.size=size) (bP:0<size)
  (v:Value) (n:Nat) (xs:List Value) (aF:w.ownsRow base e size v n xs)
  (vx:Value) (m:Nat) (news:List Value) (hr:Sl w vx m size news) (h1:∀u∈news,u.oneCell'=true)
  (DY:n+m≤maxLen) (nY:(n+m)*bytes≤140737488355328) (fP:base≤w.heap.size) :
  ∃v' w',(Builtin.append_ #[t,t] ty #[v,vx]).run P w=.ok v' w'∧w'.ownsRow base e size v' (n+m) (xs++news)∧w.grownBy w' v.ownBlock∧(v'.ownBlock=v.ownBlock∨v'.ownBlock=some w.heap.size):=by
 obtain⟨hl,A,c,rfl,hc⟩:=hr;rcases A with _|ad
 ·have hm:m=0:=by
   rcases TC m with h0|h0
   ·exact h0
   ·obtain⟨b,off,h,_⟩:=hc h0;cases h
  subst hm;have hn:news=[]:=NL (by simpa using hl)
  subst hn;exact⟨v,w,PE w base t ty e i size ht hi v n xs aF c,by simpa using aF,World.grownBy.refl w _,.inl rfl⟩
 ·have tO:∀j u,news[j]?=some u→w.cell? (ad.add j)=some u:=by
   intro j u hu;rcases TC m with h0|h0
   ·subst h0
    have hn:news=[]:=NL (by simpa using hl)
    subst hn;simp at hu
   ·obtain⟨b,off,h,h2⟩:=hc h0
    cases h;rw[oD];exact h2 j u hu
  obtain⟨v',w',nP,h2,h3,_,h5⟩:=run_append_own_at (P:=P) w base t ty e i z size bytes ht hi hz iE iT jl bP v n xs aF ad m c news hl tO h1 DY nY fP;exact⟨v',w',nP,h2,h3,h5⟩
theorem wZ{o:Oper}{a:Act}{K:Act→World→Prop}{Q:Exit→Act→World→Prop}(s x:Operand)(t:TypeId)
  (ho:o.op=.call { callee:=.builtin .append,args:=#[s,x],argTypes:=#[t,t] })
  (base:Nat) (e:TypeId) (i:TypeInfo) (z:Value) (size bytes:Nat) (ht:P.underlying t=some (.slice e)) (hi:P.info? e=some i) (hz:i.zero=some z)
  (iE:i.size=size) (iT:i.bytes=bytes) (jl:z.cells.size=size) (bP:0<size)
  (v:Value) (n:Nat) (xs:List Value) (hs:a.eval s=v) (aF:w.ownsRow base e size v n xs)
  (vx:Value) (m:Nat) (news:List Value) (hx:a.eval x=vx) (hr:Sl w vx m size news) (h1:∀u∈news,u.oneCell'=true)
  (DY:n+m≤maxLen) (nY:(n+m)*bytes≤140737488355328) (fP:base≤w.heap.size)
  (h:∀v' w',w'.ownsRow base e size v' (n+m) (xs++news)→w.grownBy w' v.ownBlock→(v'.ownBlock=v.ownBlock∨v'.ownBlock=some w.heap.size)→K (a.put o.dst v') w'):o.wp P a w K Q:=by
 obtain⟨v',w',nP,h2,h3,h4⟩:=PG (P:=P) w base t o.type e i z size bytes ht hi hz iE iT jl bP v n xs aF vx m news hr h1 DY nY fP;unfold Oper.wp execOp;simp only[ho,resolve,invoke,builtin,Sem.run_bind,Sem.run_pure,Result.andThen_ok,abC,No,VC,hs,hx,nP];exact h v' w' h2 h3 h4
theorem fM{ops:Array Oper}{rest:List Oper}{o:Oper}{a:Act}{Q:Exit→Act→World→Prop}(pQ:o.guard=none)(s x:Operand)(t:TypeId)
  (ho:o.op=.call { callee:=.builtin .append,args:=#[s,x],argTypes:=#[t,t] })
  (base:Nat) (e:TypeId) (i:TypeInfo) (z:Value) (size bytes:Nat) (ht:P.underlying t=some (.slice e)) (hi:P.info? e=some i) (hz:i.zero=some z)
  (iE:i.size=size) (iT:i.bytes=bytes) (jl:z.cells.size=size) (bP:0<size)
  (v:Value) (n:Nat) (xs:List Value) (hs:a.eval s=v) (aF:w.ownsRow base e size v n xs)
  (vx:Value) (m:Nat) (news:List Value) (hx:a.eval x=vx) (hr:Sl w vx m size news) (h1:∀u∈news,u.oneCell'=true)
  (DY:n+m≤maxLen) (nY:(n+m)*bytes≤140737488355328) (fP:base≤w.heap.size)
  (h:∀v' w',w'.ownsRow base e size v' (n+m) (xs++news)→w.grownBy w' v.ownBlock→(v'.ownBlock=v.ownBlock∨v'.ownBlock=some w.heap.size)→wpList P ops Q rest (a.put o.dst v') w'):wpList P ops Q (o::rest) a w :=
 wpList_plain pQ fun _ hK=>wZ w s x t ho base e i z size bytes ht hi hz iE iT jl bP v n xs hs aF vx m news hx hr h1 DY nY fP fun v' w' h2 h3 h4=>hK _ _ (h v' w' h2 h3 h4)
end
end
section
open Go.RowKit
theorem Qy(W:World)(base:Nat)(e:TypeId)(v:Value)(hb:base≤W.heap.size):(W.alloc (.cells #[v] e)).ownsRow base e 1 (.slice (some ⟨W.heap.size,0,none⟩) 1 1) 1 [v]:=⟨rfl,.inr ⟨W.heap.size,1,#[v],rfl,hb,heap_alloc_new _ _,Ω _,Z,rfl,rfl⟩⟩
theorem DN:(prog.info? 9).map (fun i=>(i.zero,i.size,i.bytes))=some (some (ah []),1,16):=by kernel_rfl
theorem oe(w:World)(hd:Bytes)(dv:Value)(ds:List Bytes)(h:Strs w dv ds)(hn:ds.length≤1000000)(hh:hd.length≤1000000)(hs:∀p∈ds,p.length≤1000000):
  Calls prog 258 #[ah hd,dv] w fun e w'=>e=.returned (ah (aB (fU (hd++ds.flatten))))∧Q w w':=by
 obtain⟨i0,hi,bY,bB,aW⟩:=info_parts DN;have hq:=Q.alloc w (.cells #[ah hd] 9);have bX:Sl (w.alloc (.cells #[ah hd] 9)) dv ds.length 1 (ds.map ah):=Sl.stays h hq;have CB:=Qy w w.heap.size 9 (ah hd) (Ω _);have nU:=fun (V:World) (v:Value) (hv:Strs V v (hd::ds))=>MK v (hd::ds) V hv (by simp;omega) (fun p hp=>by
  rcases MA.1 hp with rfl|hp
  ·omega
  ·have:=hs p hp;omega)
 have xK:=fun (V:World)=>vY (fU (hd++ds.flatten)) V (yA _)
 rw[show(hd::ds).flatten=hd++ds.flatten from rfl] at nU
 have h1:∀u∈ds.map ah,u.oneCell'=true:=fun u hu=>by obtain⟨d,_,rfl⟩:=MD.1 hu;rfl
 have h2:1+ds.length≤maxLen:=by unfold maxLen;omega
 have h3:(1+ds.length)*16≤140737488355328:=U;have xG:=Hd bX;have HOW:=Hd CB;have xZ:=Hd nU;have Si:=Hd xK;have H1:=Hd h1;have H2:=Hd h2;have H3:=Hd h3;have HQ:=Hd hq;clear bX CB nU xK h1 h2 h3 hq h hs;generalize fU (hd++ds.flatten)=cr at *;go_enter func258,ntmps258;go_wp2_with (at_builtin;refine fM (w.alloc (.cells #[ah hd] 9)) ρ _ _ 101 ρ w.heap.size 9 i0 (ah []) 1 16 underlying101 hi bY bB aW rfl Z _ 1 [ah hd] ρ HOW.out _ ds.length (ds.map ah) ρ xG.out H1.out H2.out H3.out κ ?_)
 intro v' w' hr hg ho;have aC:Strs w' v' (hd::ds):=by
  have:=Sl.cx hr;unfold Strs;rw[Θ,abX];exact this
 have OQ:Q w w':=bD HQ.out HOW.out hg (Ω _) HQ.out.size;have aX:=Hd aC;have VH:=Hd OQ;clear aC OQ hr hg ho;go_wp2_with fail;refine(xZ.out _ _ aX.out).mono ?_;rintro e w1 ⟨rfl,rfl⟩;go_wp2_with fail;refine(Si.out _).mono ?_;rintro e w2 ⟨rfl,q2⟩;have bJ:=Hd (VH.out.trans q2);clear q2;go_wp2_with fail;go_ret;exact⟨rfl,bJ.out⟩
theorem yO(s:Bytes)(k:Nat)(h:k<s.length):((({ data:=s.toArray }:ByteArray)[k]'h).toNat:Int)=(bA s k:Nat):=by
 unfold bA;rw[LR,LN h];rfl
theorem MP(k x z:Nat)(hx:x<2 ^ k)(hz:z<256)(hk:k≤24):bits .or .u32 (x:Int) ((z:Int)%4294967296*((2 ^ k:Nat):Int)%4294967296)=((x+z*2 ^ k:Nat):Int):=by
 have hp:(2:Nat) ^ k≤2 ^ 24:=W8 U hk;have h24:(2:Nat) ^ 24=16777216:=Z;have hb:z*2 ^ k≤255*16777216:=Nat.mul_le_mul U U;have e:((z:Int)%4294967296*((2 ^ k:Nat):Int)%4294967296)=((z*2 ^ k:Nat):Int):=by
  rw[show((z:Int)%4294967296)=(z:Int) by omega,←Int.natCast_mul]
  omega
 rw[e,u32_or_nat _ _ U U,Nat.or_comm,nat_join k (z*2 ^ k) x (by rw[acr]) hx]
 congr 1;omega
theorem zp(a b c d:Nat)(ha:a<256)(hb:b<256)(hc:c<256)(hd:d<256):
  bits .or .u32 (bits .or .u32 (bits .or .u32 ((a:Int)%4294967296) ((b:Int)%4294967296*256%4294967296)) ((c:Int)%4294967296*65536%4294967296)) ((d:Int)%4294967296*16777216%4294967296)=((a+256*b+65536*c+16777216*d:Nat):Int):=by
 have h1:=MP 8 a b U hb U;have h2:=MP 16 (a+b*2 ^ 8) c U hc U;have h3:=MP 24 (a+b*2 ^ 8+c*2 ^ 16) d U hd U;rw[show((2 ^ 8:Nat):Int)=256 from rfl] at h1
 rw[show((2 ^ 16:Nat):Int)=65536 from rfl] at h2
 rw[show((2 ^ 24:Nat):Int)=16777216 from rfl] at h3
 rw[show((a:Int)%4294967296)=(a:Int) by omega,h1,h2,h3]
 congr 1;omega
theorem IX(s:Bytes)(w:World)(hs:4≤s.length)(jm:s.length≤9223372036854775807):
  Calls prog 263 #[ah s] w fun e w'=>e=.returned (.tuple #[.int .u32 (aM s:Nat),ah (s.drop 4),.bool true])∧Q w w':=by
 have e0:¬(s.length:Int)<4:=U;have h0:(0:Nat)<s.length:=U;have h1:(1:Nat)<s.length:=U;have h2:(2:Nat)<s.length:=U;have h3:(3:Nat)<s.length:=U;have i1:(1:Int)<(s.length:Int):=U;have i2:(2:Int)<(s.length:Int):=U;have i3:(3:Int)<(s.length:Int):=U;have i4:(4:Int)≤(s.length:Int):=U;go_enter func263,ntmps263;go_wp2_with fail;go_quiet (fail);simp only[yO s 0 h0,yO s 1 h1,yO s 2 h2,yO s 3 h3];rw[zp _ _ _ _ (jW s 0) (jW s 1) (jW s 2) (jW s 3)];go_wp2_with fail;go_ret3;exact⟨by rw[fI];rfl,Q.drewN _ _⟩
end
section
theorem UW(l:List WrL)(w:WrL):(bM l w).length≤l.length+1:=by
 induction l with
 | nil=>simp[bM]
 | cons x l ih =>
  unfold bM;split
  ·simp only[Θ];omega
  ·split<;>simp only[Θ]<;>omega
theorem AV(l:List WrL):∀(tx:List WrL),(aZ tx l).length≤tx.length+l.length:=by
 unfold aZ;induction l with
 | nil=>intro tx;exact Ω _
 | cons w l ih=>intro tx;rw[Tu,Θ];have h1:=ih (bM tx w);have h2:=UW tx w;omega
theorem PN(σ:StL)(b:Bytes):(σ.turned b).length≤aD σ.n:=by
 unfold StL.turned;rw[NE];exact LS (WN _ _) (by rw[UT];exact Ω _)
theorem gj{K:Nat}{σ:StL}{fr:List (List WrL)}{C:Nat→Bytes}(h:cg K σ fr C)(ho:σ.open_=true)(hs:σ.tx.length+2≤48)(a c:Nat)(on:Bool)(h1:ak σ.n≤a)(h2:a+c≤σ.n):
  (σ.bh a c on).2=0∧(σ.bh a c on).1.ai=bF σ.ai a on c∧cg K (σ.bh a c on).1 fr C∧(σ.bh a c on).1.tx.length≤σ.tx.length+2∧(σ.bh a c on).1.open_=true∧(σ.bh a c on).1.j=σ.j∧∀w∈(σ.bh a c on).1.tx,w∈σ.tx∨w.1<ak σ.n:=by
 have hm:=h.max;have hp:=(jH σ.n h.big hm).2;have hl:=AV (σ.turned (bF σ.ai a on c)) σ.tx;have ht:=PN σ (bF σ.ai a on c);have zG:=(KP h (bF σ.ai a on c) (jL _ _ _ _)).2;have e:σ.touch (σ.turned (bF σ.ai a on c))=({ σ with tx:=aZ σ.tx (σ.turned (bF σ.ai a on c)) },0):=by
  unfold StL.touch;rw[η U]
 have e2:σ.bh a c on=({ σ with tx:=aZ σ.tx (σ.turned (bF σ.ai a on c)),ai:=bF σ.ai a on c },0):=by
  unfold StL.bh;rw[e,η κ]
 rcases Fl h ho a c on h1 h2 with ⟨_,x⟩|⟨_,x,y⟩
 ·rw[e2] at x;exact absurd x κ
 ·refine⟨by rw[e2],x,y,?_,?_,?_,?_⟩
  ·rw[e2];show(aZ _ _).length≤_;omega
  ·rw[e2];exact ho
  ·rw[e2]
  ·rw[e2]
   intro w hw;rcases Nj _ _ _ hw with hw|hw
   ·exact .inr (zG w hw).2.1
   ·exact .inl hw
theorem Au{K:Nat}{σ:StL}{fr:List (List WrL)}{C:Nat→Bytes}(h:cg K σ fr C)(o:Bool):σ.state o=if σ.open_=o then 0 else 15:=by
 unfold StL.state;rw[show σ.dead=false from h.inv.live];rfl
structure ax where
 name:Bytes
 sl:Bool
 size:Nat
 ext:List (Nat×Nat)
def aT(x:List (Nat×Nat)):List Nat:=x.flatMap fun e=>List.range' e.1 e.2
def ax.bl(f:ax):List Nat:=aT f.ext
def fD(l:List ax):List Nat:=l.flatMap ax.bl
def cB(n:Nat):Nat:=(n+255) / 256
def pD:Bytes:=[97,98,99,100,101,102,103,104,105,106,107,108,109,110,111,112,113,114,115,116,117,118,119,120,121,122,48,49,50,51,52,53,54,55,56,57,46,45,95]
def iM(s:Bytes):Bool:=decide (s≠[]∧s.length≤24∧∀c∈s,c∈pD)
def Av(f:ax):Bytes:=qR f.name++dN (if f.sl then 1 else 0)++dN f.size++dN f.ext.length++f.ext.flatMap fun e=>dN e.1++dN e.2
def je(l:List ax):Bytes:=[67,68,88,73]++dN l.length++l.flatMap Av
def ir(s:Bytes):Bytes:=s++aB (fU s)
def iA(l:List ax):Bool:=decide ((ir (je l)).length≤3072)
def bR(l:List ax):Bytes:=ir (je l)++bg (3072-(ir (je l)).length)
theorem kg{l:List ax}(h:iA l=true):(bR l).length=3072:=by
 have:=Re h;unfold bR;rw[Δ,fC];omega
structure ge (first n:Nat) (f:ax):Prop where
 name:iM f.name=true
 size:f.size≤2147483647
 few:f.ext.length≤16
 ext:∀e∈f.ext,1≤e.2∧first≤e.1∧e.1+e.2≤n
 need:f.bl.length=cB f.size
structure cN (first n:Nat) (l:List ax):Prop where
 few:l.length≤64
 rise:l.Pairwise fun a b=>a.name<b.name
 ok:∀f∈l,ge first n f
 apart:(fD l).Nodup
theorem JY{x:List (Nat×Nat)}{i:Nat}:i∈aT x↔∃e∈x,e.1≤i∧i<e.1+e.2:=by
 unfold aT;rw[Pi];simp only[Su]
theorem ge.mem{first n:Nat}{f:ax}(h:ge first n f){i:Nat}(hi:i∈f.bl):first≤i∧i<n:=by
 obtain⟨e,he,h1,h2⟩:=JY.1 hi;have:=h.ext e he;omega
theorem cN.mem{first n:Nat}{l:List ax}(h:cN first n l){i:Nat}(hi:i∈fD l):first≤i∧i<n:=by
 obtain⟨f,hf,hi⟩:=Pi.1 hi;exact(h.ok f hf).mem hi
def aA:List ax→Bytes→Nat
 | [],_=>0
 | f::l,s=>if f.name<s then aA l s+1 else 0
def isF(l:List ax)(s:Bytes):Bool:=match l[aA l s]? with|some f=>decide (f.name=s)|none=>false
theorem Gm(l:List ax)(s:Bytes):aA l s≤l.length:=by
 induction l with
 | nil=>exact Ω _
 | cons f l ih=>rw[aA];split<;>simp only[Θ]<;>omega
theorem DR(a:Bytes):¬a<a:=List.lt_irrefl a
theorem mr{a b c:Bytes}(h:a<b)(k:b<c):a<c:=List.lt_trans h k
theorem mA{a b:Bytes}(h:¬a<b)(aU:a≠b):b<a:=by
 rcases List.le_iff_lt_or_eq.1 (List.not_lt.1 h) with h2|h2
 ·exact h2
 ·exact absurd h2.symm aU
theorem zf{l:List ax}(h:l.Pairwise fun a b=>a.name<b.name)(s:Bytes)(k:Nat)(hk:k<l.length):l[k].name<s↔k<aA l s:=by
 induction l generalizing k with
 | nil=>simp at hk
 | cons f l ih =>
  obtain⟨h1,h2⟩:=SJ.1 h;rw[aA];cases k with
  | zero =>
   rw[List.getElem_cons_zero];split
   ·rename_i hf;exact⟨fun _=>Nat.succ_pos _,fun _=>hf⟩
   ·rename_i hf;exact⟨fun hx=>absurd hx hf,fun hx=>U⟩
  | succ k =>
   have Oz:k<l.length:=by simpa using hk
   rw[abp];split
   ·rw[ih h2 k Oz];omega
   ·rename_i hf
    exact⟨fun hx=>absurd (mr (h1 _ (LO Oz)) hx) hf,fun hx=>U⟩
theorem BZ{l:List ax}(h:l.Pairwise fun a b=>a.name<b.name)(s:Bytes)(k:Nat)(hk:k<l.length)(e:l[k].name=s):aA l s=k:=by
 rcases abr k (aA l s) with hx|hx|hx
 ·have:=(zf h s k hk).2 hx
  rw[e] at this;exact absurd this (DR _)
 ·exact hx.symm
 ·have hp:aA l s<l.length:=U
  have h1:=SD.1 h _ _ hp hk hx;rw[e] at h1;have:=(zf h s _ hp).1 h1;omega
theorem IC{l:List ax}(h:l.Pairwise fun a b=>a.name<b.name)(s:Bytes):isF l s=true↔∃f∈l,f.name=s:=by
 unfold isF;constructor
 ·intro hx
  cases hg:l[aA l s]? with
  | none=>rw[hg] at hx;simp at hx
  | some f=>rw[hg] at hx;exact⟨f,ad4 hg,by simpa using hx⟩
 ·rintro⟨f,hf,e⟩
  obtain⟨k,hk,rfl⟩:=PH hf;rw[BZ h s k hk e,LN hk];simpa using e
theorem aaf{l:List ax}{s:Bytes}(h:isF l s=true):∃hk:aA l s<l.length,(l[aA l s]'hk).name=s:=by
 unfold isF at h;cases hg:l[aA l s]? with
 | none=>rw[hg] at h;simp at h
 | some f =>
  obtain⟨hk,e⟩:=NX.1 hg;rw[hg] at h;exact⟨hk,by rw[e];simpa using h⟩
def jE(l:List ax)(f:ax):List ax:=l.take (aA l f.name)++f::l.drop (aA l f.name)
theorem wh(l:List ax)(f:ax):(jE l f).Perm (f::l):=by
 have:=(List.perm_middle (a:=f) (l₁:=l.take (aA l f.name)) (l₂:=l.drop (aA l f.name)));rwa [OR] at this
theorem EC{l:List ax}(h:l.Pairwise fun a b=>a.name<b.name)(f:ax)(hn:isF l f.name=false):(jE l f).Pairwise fun a b=>a.name<b.name:=by
 have qP:∀a∈l.take (aA l f.name),a.name<f.name:=fun a ha=>by
  obtain⟨k,hk,rfl⟩:=PH ha;rw[L4] at hk;rw[abt];exact(zf h f.name k U).2 U
 have hhi:∀a∈l.drop (aA l f.name),f.name<a.name:=fun a ha=>by
  obtain⟨k,hk,rfl⟩:=PH ha;rw[L5] at hk;rw[Wc];have h1:¬(l[aA l f.name+k]' U).name<f.name:=fun hx=>by have:=(zf h f.name _ U).1 hx;omega
  refine mA h1 (fun e=>?_)
  have:=(IC h f.name).2 ⟨_,LO (by omega:aA l f.name+k<l.length),e⟩
  rw[hn] at this;exact absurd this Z
 unfold jE;refine abE.2 ⟨h.sublist (List.take_sublist _ _),SJ.2 ⟨hhi,h.sublist (List.drop_sublist _ _)⟩,fun a ha b hb=>?_⟩
 rcases MA.1 hb with rfl|hb
 ·exact qP a ha
 ·exact mr (qP a ha) (hhi b hb)
theorem JZ{l:List ax}(h:l.Pairwise fun a b=>a.name<b.name)(i:Nat)(hi:i<l.length)(f:ax)(e:f.name=l[i].name):(l.set i f).Pairwise fun a b=>a.name<b.name:=by
 refine SD.2 (fun a b ha hb uU=>?_)
 rw[Rx] at ha hb;have:=SD.1 h a b ha hb uU;rw[List.getElem_set,List.getElem_set];split
 ·rename_i hx;subst hx
  rw[η U,e];exact this
 ·split
  ·rename_i hx;subst hx;rw[e];exact this
  ·exact this
theorem mZ{l:List ax}{i:Nat}(hi:i<l.length):l.Perm (l[i]::l.eraseIdx i):=by
 have h:=List.perm_middle (a:=l[i]) (l₁:=l.take i) (l₂:=l.drop (i+1));rw[←V1,List.getElem_cons_drop,OR] at h;exact h
theorem NT{l:List ax}(h:l.Pairwise fun a b=>a.name<b.name){i:Nat}(hi:i<l.length):∀f∈l.eraseIdx i,f.name≠l[i].name:=by
 intro f hf e;obtain⟨k,hk,bq,rfl⟩:=acK.1 hf;have h1:=BZ h l[i].name k hk e;have h2:=BZ h l[i].name i hi rfl;omega
theorem jf{l m:List ax}(h:l.Perm m):(fD l).Perm (fD m):=h.flatMap_right _
theorem gJ(f:ax)(l:List ax):fD (f::l)=f.bl++fD l:=NO
theorem set_perm{l:List ax}{i:Nat}(hi:i<l.length)(f:ax):(l.set i f).Perm (f::l.eraseIdx i):=by
 have h:=mZ (l:=l.set i f) (i:=i) (by rw[Rx];exact hi)
 rw[adU,List.eraseIdx_set_eq] at h;exact h
theorem cN.gR{first n:Nat}{l m:List ax}(h:∀f∈m,ge first n f)(hr:l.Pairwise fun a b=>a.name<b.name)(hp:l.Perm m)(hm:m.length≤64)(ha:(fD m).Nodup):cN first n l :=
 ⟨by rw[hp.length_eq];exact hm,hr,fun f hf=>h f (hp.mem_iff.1 hf),(jf hp).nodup_iff.2 ha⟩
def cont(C:Nat→Bytes)(f:ax):Bytes:=(f.bl.flatMap C).take f.size
theorem QI{C D:Nat→Bytes}{f:ax}(h:∀i∈f.bl,C i=D i):cont C f=cont D f:=by
 unfold cont;rw[acu,acu,PC h]
structure sD (n:Nat) (C:Nat→Bytes) (l:List ax):Prop where
 room:ak n+12≤n
 ok:cN (ak n+12) n l
 fits:iA l=true
 dir:∀i,i<12→C (ak n+i)=aG (bR l) i
 used:∀i,ak n≤i→i<n→(bit (kD n C) i=true↔i<ak n+12∨i∈fD l)
end
section
open Go.RowKit
abbrev oN(f:ax)(a:Value):Value:=.agg #[ah f.name,.bool f.sl,.int .i64 (f.size:Nat),a]
def dH:List Value→List ax→List Value
 | a::vs,f::l=>ah f.name::.bool f.sl::.int .i64 (f.size:Nat)::a::dH vs l
 | _,_=>[]
theorem wm(vs:List Value):∀(l:List ax) (k:Nat) (hk:k<l.length) (h:vs.length=l.length),(dH vs l)[k*4]?=some (ah l[k].name)∧(dH vs l)[k*4+1]?=some (.bool l[k].sl)∧(dH vs l)[k*4+2]?=some (.int .i64 (l[k].size:Nat))∧(dH vs l)[k*4+3]?=some (vs[k]' U):=by
 induction vs with
 | nil=>intro l k hk h;rw[←h] at hk;simp at hk
 | cons a vs ih=>intro l k hk h;cases l with
  | nil=>simp at hk
  | cons f l =>
   cases k with
   | zero=>exact⟨rfl,rfl,rfl,rfl⟩
   | succ k =>
    have:=ih l k (by simpa using hk) (by simpa using h)
    rw[show(k+1)*4=k*4+1+1+1+1 by omega]
    simp only[dH,Wg,abp];exact this
theorem zO(vs bs:List Value):∀(l m:List ax),vs.length=l.length→dH (vs++bs) (l++m)=dH vs l++dH bs m:=by
 induction vs with
 | nil=>intro l m h;cases l with
  | nil=>rfl
  | cons f l=>simp at h
 | cons a vs ih=>intro l m h;cases l with
  | nil=>simp at h
  | cons f l=>simp only[Of,dH];rw[ih l m (by simpa using h)]
def eQ(w:World)(v:Value)(l:List ax):Prop:=∃vs:List Value,vs.length=l.length∧Sl w v l.length 4 (dH vs l)∧∀(i:Nat) a f,vs[i]?=some a→l[i]?=some f→Sl w a f.ext.length 2 (ext f.ext)
theorem eQ.stays{w w':World}{v:Value}{l:List ax}(h:eQ w v l)(q:Q w w'):eQ w' v l:=by
 obtain⟨vs,h1,h2,h3⟩:=h;exact⟨vs,h1,h2.stays q,fun i a f ha hf=>(h3 i a f ha hf).stays q⟩
theorem eQ.value{w:World}{v:Value}{l:List ax}(h:eQ w v l):∃a cap,v=.slice a l.length cap∧(0<l.length→∃b off,a=some ⟨b,off,none⟩∧∀k (hk:k<l.length),∃av,
  w.cell? ⟨b,off+k*4,none⟩=some (ah l[k].name)∧w.cell? ⟨b,off+k*4+1,none⟩=some (.bool l[k].sl)∧w.cell? ⟨b,off+k*4+2,none⟩=some (.int .i64 (l[k].size:Nat))∧w.cell? ⟨b,off+k*4+3,none⟩=some av∧Sl w av l[k].ext.length 2 (ext l[k].ext)):=by
 obtain⟨vs,h1,⟨_,a,cap,rfl,hc⟩,h3⟩:=h;refine⟨a,cap,rfl,fun hn=>?_⟩
 obtain⟨b,off,rfl,hd⟩:=hc hn;refine⟨b,off,rfl,fun k hk=>?_⟩
 obtain⟨e0,e1,e2,e3⟩:=wm vs l k hk h1;exact⟨_,hd _ _ e0,hd _ _ e1,hd _ _ e2,hd _ _ e3,h3 k _ _ (LN U) (LN hk)⟩
theorem jS{w:World}{v:Value}{x:List (Nat×Nat)}(h:Sl w v x.length 2 (ext x)):∃a cap,v=.slice a x.length cap∧(0<x.length→∃b off,a=some ⟨b,off,none⟩∧∀k (hk:k<x.length),w.cell? ⟨b,off+k*2,none⟩=some (.int .i64 (x[k].1:Nat))∧w.cell? ⟨b,off+k*2+1,none⟩=some (.int .i64 (x[k].2:Nat))):=by
 obtain⟨_,a,cap,rfl,hc⟩:=h;refine⟨a,cap,rfl,fun hn=>?_⟩
 obtain⟨b,off,rfl,hd⟩:=hc hn;refine⟨b,off,rfl,fun k hk=>?_⟩
 obtain⟨e1,e2⟩:=FZ x k hk;rw[UX 2 k] at e1 e2;exact⟨hd _ _ e1,hd _ _ e2⟩
def SlP(P:Nat→Prop)(w:World)(v:Value)(n size:Nat)(xs:List Value):Prop:=Sl w v n size xs∧(0<n→∀b off cap,v=.slice (some ⟨b,off,none⟩) n cap→P b)
theorem SlP.bh{P F:Nat→Prop}{w w':World}{v:Value}{n size:Nat}{xs:List Value}(h:SlP P w v n size xs)(t:ae F w w')(hd:∀k,P k→¬F k):SlP P w' v n size xs:=by
 obtain⟨⟨h1,a,cap,rfl,hc⟩,h2⟩:=h;refine⟨⟨h1,a,cap,rfl,fun hn=>?_⟩,h2⟩
 obtain⟨b,off,rfl,hx⟩:=hc hn;refine⟨b,off,rfl,fun j u hj=>?_⟩
 have h0:=hx j u hj;have hb:=h2 hn b off cap rfl;rw[show w'.cell? ⟨b,off+j,none⟩=w.cell? ⟨b,off+j,none⟩ from ?_]
 ·exact h0
 ·have:=t.block b (Io h0) (hd b hb)
  simp only[World.cell?,this]
theorem SlP.mono{P R:Nat→Prop}{w:World}{v:Value}{n size:Nat}{xs:List Value}(h:SlP P w v n size xs)(k:∀i,P i→i<w.heap.size→R i)(hs:0<size):SlP R w v n size xs:=by
 refine⟨h.1,fun hn b off cap e=>?_⟩
 obtain⟨h1,a,cap',e2,hc⟩:=h.1;obtain⟨b2,off2,e3,hx⟩:=hc hn;rw[e2,e3] at e;injection e with e4;injection e4 with e4;injection e4 with e5;subst e5;have hl:0<xs.length:=by rw[h1];exact Nat.mul_pos hn hs
 exact k _ (h.2 hn _ off2 cap' (by rw[e2,e3])) (Io (hx 0 _ (LN hl)))
theorem SlP.cx{w:World}{base:Nat}{e:TypeId}{size:Nat}{v:Value}{n:Nat}{xs:List Value}(h:w.ownsRow base e size v n xs):SlP (fun k=>base≤k∧k<w.heap.size) w v n size xs :=
 ⟨Sl.cx h,fun hn b off cap e=>by
  obtain⟨a,c,e2,hg⟩:=aY h
  obtain⟨g,rfl⟩:=hg hn
  rw[e2] at e
  injection e with e4
  injection e4 with e4
  injection e4 with e5
  subst e5
  exact h.lt g (by rw[e2];rfl)⟩
def ci(P:Nat→Prop)(w:World)(v:Value)(l:List ax):Prop:=∃vs:List Value,vs.length=l.length∧SlP P w v l.length 4 (dH vs l)∧∀(i:Nat) a f,vs[i]?=some a→l[i]?=some f→SlP P w a f.ext.length 2 (ext f.ext)
theorem ci.s{P:Nat→Prop}{w:World}{v:Value}{l:List ax}(h:ci P w v l):eQ w v l:=by
 obtain⟨vs,h1,h2,h3⟩:=h;exact⟨vs,h1,h2.1,fun i a f ha hf=>(h3 i a f ha hf).1⟩
theorem ci.bh{P F:Nat→Prop}{w w':World}{v:Value}{l:List ax}(h:ci P w v l)(t:ae F w w')(hd:∀k,P k→¬F k):ci P w' v l:=by
 obtain⟨vs,h1,h2,h3⟩:=h;exact⟨vs,h1,h2.bh t hd,fun i a f ha hf=>(h3 i a f ha hf).bh t hd⟩
theorem ci.q{P:Nat→Prop}{w w':World}{v:Value}{l:List ax}(h:ci P w v l)(q:Q w w'):ci P w' v l:=h.bh (ae.br (own:=fun _=>False) q) (fun _ _ x=>x)
theorem ci.mono{P R:Nat→Prop}{w:World}{v:Value}{l:List ax}(h:ci P w v l)(k:∀i,P i→i<w.heap.size→R i):ci R w v l:=by
 obtain⟨vs,h1,h2,h3⟩:=h;exact⟨vs,h1,h2.mono k Z,fun i a f ha hf=>(h3 i a f ha hf).mono k Z⟩
theorem ci.nil(P:Nat→Prop)(w:World)(cap:Nat):ci P w (.slice none 0 cap) []:=⟨[],rfl,⟨⟨rfl,none,cap,rfl,fun h=>by simp at h⟩,fun h=>by simp at h⟩,fun i a f ha=>by simp at ha⟩
end
section
theorem CM(l:List WrL):∀(a b:Nat),l8 l→(∀w∈l,a≤w.1∧w.1<b)→l.length≤b-a:=by
 induction l with
 | nil=>intro a b _ _;exact L0 _
 | cons w l ih =>
  intro a b h hm;obtain⟨h1,h2⟩:=SJ.1 h;have h3:=hm w (Mu ..);have:=ih (w.1+1) b h2 (fun x hx=>⟨h1 x hx,(hm x (Mn _ hx)).2⟩)
  rw[Θ];omega
def fO(σ:StL):Prop:=∀w∈σ.tx,w.1<ak σ.n
namespace StL
def writes(σ:StL):List WrL→StL×Int
 | []=>(σ,0)
 | w::ws=>if (σ.write w.1 w.2).2≠0 then σ.write w.1 w.2 else(σ.write w.1 w.2).1.writes ws
def bo(σ:StL):List (Nat×Nat)→StL×Int
 | []=>(σ,0)
 | x::xs=>if (σ.release x.1 x.2).2≠0 then σ.release x.1 x.2 else(σ.release x.1 x.2).1.bo xs
end StL
section
variable {K:Nat} {σ:StL} {fr:List (List WrL)} {C:Nat→Bytes}
theorem qY(h:cg K σ fr C)(hm:fO σ):σ.tx.length≤2:=by
 have h1:=CM σ.tx 63 (ak σ.n) h.rise (fun w hw=>⟨(h.ic w hw).1,hm w hw⟩)
 have:=(jH σ.n h.big h.max).2;unfold ak at h1;omega
theorem AX(h:fO σ)(i:Nat)(hi:ak σ.n≤i):bT C σ.tx i=C i:=by
 unfold bT;exact dM _ _ _ (fun w hw e=>by have:=h w hw;omega)
theorem fq{σ τ:StL}(h:τ.j=σ.j):τ.n=σ.n:=by unfold StL.n;rw[h]
theorem J2(h:cg K σ fr C)(ho:σ.open_=true)(hs:σ.tx.length≤47)(i:Nat)(s:Bytes)(hl:s.length=256)(h1:ak σ.n≤i)(h2:i<σ.n)(hb:bit σ.ai i=true):
  σ.write i s=({ σ with tx:=aZ σ.tx [(i,s)] },0)∧cg K { σ with tx:=aZ σ.tx [(i,s)] } fr C:=by
 have hz:¬σ.state true≠0:=by rw[Au h,Φ ho];simp
 have hd:¬σ.cQ i=false:=by unfold StL.cQ;simp;omega
 have ht:=AV [(i,s)] σ.tx;rw[PR] at ht;have e:σ.write i s=({ σ with tx:=aZ σ.tx [(i,s)] },0):=by
  unfold StL.write;rw[η hz,η hd,OK,η (by rw[hb];decide),η (by simpa using hl)]
  unfold StL.touch;rw[η U]
 have hi:=tM h i s;rw[e] at hi;exact⟨e,hi⟩
def Wr(σ:StL)(ws:List WrL):Prop:=∀w∈ws,ak σ.n≤w.1∧w.1<σ.n∧bit σ.ai w.1=true∧w.2.length=256
theorem tC(ws:List WrL):∀{σ:StL},cg K σ fr C→σ.open_=true→σ.tx.length+ws.length≤48→Wr σ ws →
  (σ.writes ws).2=0∧cg K (σ.writes ws).1 fr C∧(σ.writes ws).1.open_=true∧(σ.writes ws).1.ai=σ.ai∧(σ.writes ws).1.j=σ.j∧(σ.writes ws).1.tx.length≤σ.tx.length+ws.length∧∀i,bT C (σ.writes ws).1.tx i=bH ws i (bT C σ.tx i):=by
 induction ws with
 | nil=>intro σ h ho hs hw;exact⟨rfl,h,ho,rfl,rfl,Ω _,fun i=>rfl⟩
 | cons w ws ih =>
  intro σ h ho hs hw;rw[Θ] at hs;obtain⟨a1,a2,a3,a4⟩:=hw w (Mu ..);obtain⟨e,hi⟩:=J2 h ho U w.1 w.2 a4 a1 a2 a3;rw[StL.writes,e,η κ];have ht:=AV [(w.1,w.2)] σ.tx;rw[PR] at ht;obtain⟨b1,b2,b3,b4,b5,b6,b7⟩:=ih (σ:={ σ with tx:=aZ σ.tx [(w.1,w.2)] }) hi ho (by show(aZ _ _).length+_≤48;omega) (fun x hx=>hw x (Mn _ hx))
  refine⟨b1,b2,b3,b4,b5,by rw[Θ];exact LS b6 (by show(aZ _ _).length+_≤_;omega),fun i=>?_⟩
  rw[b7];show bH ws i (bT C (aZ σ.tx [(w.1,w.2)]) i)=bH (w::ws) i _;unfold bT;rw[Df _ _ h.rise];rfl
theorem yF(h:cg K σ fr C)(ho:σ.open_=true)(hm:fO σ)(a c:Nat)(on:Bool)(h1:ak σ.n≤a)(h2:a+c≤σ.n):
  (σ.bh a c on).2=0∧(∀j,bit (σ.bh a c on).1.ai j=if a≤j∧j<a+c then on else bit σ.ai j)∧cg K (σ.bh a c on).1 fr C∧(σ.bh a c on).1.open_=true∧(σ.bh a c on).1.j=σ.j∧fO (σ.bh a c on).1:=by
 obtain⟨t0,t1,t2,t3,t4,t5,t6⟩:=gj h ho (by have:=qY h hm;omega) a c on h1 h2
 refine⟨t0,fun j=>?_,t2,t4,t5,fun w hw=>?_⟩
 ·rw[t1];exact BK σ.ai a c j on (by have:=h.bits;omega)
 ·rw[fq t5]
  rcases t6 w hw with hw|hw
  ·exact hm w hw
  ·exact hw
theorem AY(h:cg K σ fr C)(ho:σ.open_=true)(hm:fO σ)(c:Nat)(hc:1≤c):
  match fK σ.ai c σ.n with
  | none=>σ.alloc c=(σ,0,9)
  | some a=>σ.alloc c=((σ.bh a c true).1,(a:Int),0)∧ak σ.n≤a∧a+c≤σ.n∧∀j,a≤j→j<a+c→bit σ.ai j=false:=by
 have hz:¬σ.state true≠0:=by rw[Au h,Φ ho];simp
 cases hf:fK σ.ai c σ.n with
 | none =>
  unfold StL.alloc;simp only[];rw[η hz,η U,OK,hf]
 | some a =>
  obtain⟨h1,h2,h3⟩:=xy h.map c a hc h.bits hf;have t0:=(yF h ho hm a c true h1 h2).1;refine⟨?_,h1,h2,h3⟩;unfold StL.alloc;rw[η hz,η U,OK,hf];simp only[];rw[η (by rw[t0];simp)]
theorem Xj(h:cg K σ fr C)(ho:σ.open_=true)(hm:fO σ)(a c:Nat)(hc:1≤c)(h1:ak σ.n≤a)(h2:a+c≤σ.n)(hf:∀j,a≤j→j<a+c→bit σ.ai j=true):σ.release a c=σ.bh a c false:=by
 have hz:¬σ.state true≠0:=by rw[Au h,Φ ho];simp
 have hd:σ.cQ a=true:=by unfold StL.cQ;simp;omega
 unfold StL.release;rw[η hz,η,η,OK,OK]
 ·rintro⟨i,hi,hx⟩
  rw[OK] at hi hx;rw[hf _ U U] at hx;exact absurd hx Z
 ·rintro(x|x|x)
  ·omega
  ·rw[hd] at x;exact absurd x Z
  ·omega
theorem I9(xs:List (Nat×Nat)):∀{σ:StL},cg K σ fr C→σ.open_=true→fO σ→(∀e∈xs,1≤e.2∧ak σ.n≤e.1∧e.1+e.2≤σ.n)→(aT xs).Nodup→(∀i∈aT xs,bit σ.ai i=true) →
  (σ.bo xs).2=0∧(∀j,bit (σ.bo xs).1.ai j=if j∈aT xs then false else bit σ.ai j)∧cg K (σ.bo xs).1 fr C∧(σ.bo xs).1.open_=true∧(σ.bo xs).1.j=σ.j∧fO (σ.bo xs).1:=by
 induction xs with
 | nil=>intro σ h ho hm _ _ _;exact⟨rfl,fun j=>by simp[aT,StL.bo],h,ho,rfl,hm⟩
 | cons x xs ih =>
  intro σ h ho hm hx hn hb;obtain⟨a1,a2,a3⟩:=hx x (Mu ..);have eF:∀j,j∈aT (x::xs)↔(x.1≤j∧j<x.1+x.2)∨j∈aT xs:=fun j=>by
   unfold aT;rw[NO,My,Su]
  have e:=Xj h ho hm x.1 x.2 a1 a2 a3 (fun j h1 h2=>hb j ((eF j).2 (.inl ⟨h1,h2⟩)))
  obtain⟨t0,t1,t2,t3,t4,t5⟩:=yF h ho hm x.1 x.2 false a2 a3;have kV:=fq t4;have lU:(List.range' x.1 x.2++aT xs).Nodup:=hn;obtain⟨_,n2,n3⟩:=PT.1 lU;have aaO:∀j∈aT xs,¬(x.1≤j∧j<x.1+x.2):=fun j hj hc=>n3 j (Su.2 hc) j hj rfl
  obtain⟨b0,b1,b2,b3,b4,b5⟩:=ih t2 t3 t5 (fun y hy=>by rw[kV];exact hx y (Mn _ hy)) n2 (fun i hi=>by rw[t1,η (aaO i hi)];exact hb i ((eF i).2 (.inr hi)))
  rw[StL.bo,e,η (by rw[t0];simp)]
  refine⟨b0,fun j=>?_,b2,b3,b4.trans t4,b5⟩
  rw[b1,t1];by_cases h1:j∈aT xs
  ·rw[Φ h1,Φ ((eF j).2 (.inr h1))]
  ·rw[η h1]
   by_cases h2:x.1≤j∧j<x.1+x.2
   ·rw[Φ h2,Φ ((eF j).2 (.inl h2))]
   ·rw[η h2,η (fun hx=>((eF j).1 hx).elim h2 h1)]
end
def vL(n:Nat)(p t:Bytes):List WrL:=((List.range 12).filter fun i=>decide (p=[]∨aG p i≠aG t i)).map fun i=>(ak n+i,aG t i)
theorem AZ{n:Nat}{p t:Bytes}{w:WrL}(h:w∈vL n p t):∃i,i<12∧w=(ak n+i,aG t i):=by
 obtain⟨i,hi,rfl⟩:=MD.1 h;exact⟨i,P4.1 (PF.1 hi).1,rfl⟩
theorem J3(n:Nat)(p t:Bytes):(vL n p t).length≤12:=by
 unfold vL;rw[NE];exact LS (WN _ _) (by rw[UT];exact Ω _)
theorem BE(n:Nat)(p t:Bytes)(i:Nat)(s:Bytes)(h:i<ak n∨ak n+12≤i):bH (vL n p t) i s=s :=
 dM _ _ _ (fun w hw e=>by obtain⟨j,hj,rfl⟩:=AZ hw;simp only at e;omega)
theorem IF(n:Nat)(p t:Bytes)(i:Nat)(hi:i<12)(s:Bytes)(hs:p=[]∨s=aG p i):bH (vL n p t) (ak n+i) s=aG t i:=by
 by_cases hx:p=[]∨aG p i≠aG t i
 ·refine uz (vL n p t) (ak n+i,aG t i) _ (MD.2 ⟨i,PF.2 ⟨P4.2 hi,MM hx⟩,rfl⟩) (fun x hx e=>?_)
  obtain⟨j,hj,rfl⟩:=AZ hx;simp only at e;rw[show j=i by omega]
 ·rw[not_or,abw] at hx
  rw[dM _ _ _ (fun w hw e=>?_),hs.resolve_left hx.1,hx.2]
  obtain⟨j,hj,rfl⟩:=MD.1 hw;simp only at e;obtain rfl:j=i:=U;have:=Re (PF.1 hj).2;rcases this with h|h
  ·exact hx.1 h
  ·exact h hx.2
theorem ni{t:Bytes}(h:t.length=3072){i:Nat}(hi:i<12):(aG t i).length=256:=by
 unfold aG;rw[L4,L5];omega
def StL.dir(σ:StL)(p:Bytes)(l:List ax):StL×Int:=if iA l then σ.writes (vL σ.n p (bR l)) else(σ,9)
theorem ui{K:Nat}{σ:StL}{fr:List (List WrL)}{C:Nat→Bytes}(h:cg K σ fr C)(ho:σ.open_=true)(hs:σ.tx.length≤36)(hr:ak σ.n+12≤σ.n)(p:Bytes)(l:List ax)(hf:iA l=true)
  (hb:∀i,i<12→bit σ.ai (ak σ.n+i)=true) (hp:p=[]∨∀i,i<12→bT C σ.tx (ak σ.n+i)=aG p i) :
  (σ.dir p l).2=0∧cg K (σ.dir p l).1 fr C∧(σ.dir p l).1.open_=true∧(σ.dir p l).1.ai=σ.ai∧(σ.dir p l).1.j=σ.j∧(∀i,i<12→bT C (σ.dir p l).1.tx (ak σ.n+i)=aG (bR l) i)∧∀i,ak σ.n+12≤i→bT C (σ.dir p l).1.tx i=bT C σ.tx i:=by
 have hl:=J3 σ.n p (bR l);unfold StL.dir;rw[Φ hf];obtain⟨b1,b2,b3,b4,b5,b6,b7⟩:=tC (vL σ.n p (bR l)) h ho U (fun w hw=>by
  obtain⟨i,hi,rfl⟩:=AZ hw;exact⟨SP _ _,by simp only;omega,hb i hi,ni (kg hf) hi⟩)
 refine⟨b1,b2,b3,b4,b5,fun i hi=>?_,fun i hi=>?_⟩
 ·rw[b7];exact IF _ _ _ i hi _ (hp.elim .inl (fun h=>.inr (h i hi)))
 ·rw[b7];exact BE _ _ _ i _ (.inr hi)
end
end Go.Proofs.YtbkahhebmpehnaaGreatDoor
