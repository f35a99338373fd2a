/- Joined: WRDevA to WRef3a -/
import Derived.Test.YtbkahhebmpehnaaGreatDoorCXWVar
import Derived.Deep.Cut
set_option linter.all false
set_option maxRecDepth 100000
set_option maxHeartbeats 8000000
namespace Go.Proofs.YtbkahhebmpehnaaGreatDoor
open Go.Proofs.Tryz
section
open Go.RowKit
theorem Oe(w:World)(F:Nat→Prop)(b:Nat)(lv pv:Value)(d:af)(h:db w F b lv pv d)(hf : -1≤d.b9)(hf1:d.b9≤9223372036854775807):
  Calls prog 241 #[au b] w fun e w'=>e=.returned (.bool (!decide (d.b9=0)))∧db w' F b lv pv d.bh∧ae F w w'∧w'.heap.size=w.heap.size:=by
 obtain⟨c0,c1,c2,c3,f0,f1,f2,f3⟩:=h.box.c4;by_cases h0:d.b9=0
 ·have e1:(d.b9==0)=true:=MY.2 h0
  have hd:d.bh={ d with dead:=true }:=by unfold af.bh;rw[Φ h0]
  have hend:=h.dead true;rw[MM h0,hd];have bP:=bO w ⟨b,3,none⟩ (.bool true);have HE:=Hd hend;have HS:=Hd bP;clear h hend hd bP;go_enter func241,ntmps241;go_wp2;go_ret;exact⟨rfl,HE.out.1,HE.out.2,HS.out⟩
 ·have e1:(d.b9==0)=false:=Γ.2 h0
  by_cases h1:0<d.b9
  ·have hd:d.bh={ d with b9:=d.b9-1 }:=by unfold af.bh;rw[η h0,show max (d.b9-1) (-1)=d.b9-1 by omega]
   have hend:=h.b9 (d.b9-1);rw[Mz h0,hd];have bP:=bO w ⟨b,2,none⟩ (.int .i64 (d.b9-1));have HE:=Hd hend;have HS:=Hd bP;clear h hend hd bP;go_enter func241,ntmps241;go_wp2;go_ret;exact⟨rfl,HE.out.1,HE.out.2,HS.out⟩
  ·have hd:d.bh=d:=by
    unfold af.bh;rw[η h0];have:max (d.b9-1) (-1)=d.b9:=U;rw[this]
   rw[Mz h0,hd];have HE:=Hd h;clear h hd;go_enter func241,ntmps241;go_wp2;go_ret;exact⟨rfl,HE.out,ae.refl _ _,rfl⟩
theorem EK{d:af}(h:d.dead=false)(i:Int):d.chk i=if 0≤i∧i<d.l.length then 0 else 2:=by unfold af.chk;rw[h];rfl
theorem Rl{d:af}(h:d.dead=false)(i:Int)(hi:¬(0≤i∧i<d.l.length)):d.read i=([],2):=by
 unfold af.read;rw[EK h,η hi,η Z]
theorem GT{d:af}(h:d.dead=false)(i:Nat)(hi:i<d.l.length):d.read i=(bH d.p i (d.l.getD i []),0):=by
 unfold af.read;have hc:d.chk (i:Int)=0:=by rw[EK h,Φ ⟨U,U⟩]
 rw[Φ hc];rfl
theorem GD(w:World)(F:Nat→Prop)(b:Nat)(d:af)(i:Int)(h:cn w F b d)(hm:d.l.length≤4096)(hp:d.dead=false→d.p.length≤1000000):
  Calls prog 173 #[au b,.int .i64 i] w fun e w'=>e=.returned (.tuple #[ah (d.read i).1,.int .i64 (d.read i).2])∧Q w w':=by
 obtain⟨lv,pv,hg⟩:=h;obtain⟨c0,c1,c2,c3,_⟩:=hg.box.c4;obtain⟨la,lc,rfl,lX⟩:=hg.gt;obtain⟨pa,pc,rfl,Jr⟩:=hg.js;cases dS:d.dead with
 | true =>
  have dz:d.read i=([],4):=by unfold af.read af.chk;rw[Φ dS,η Z]
  rw[dz];rw[dS] at c3;clear hg lX Jr hp dz;go_enter func173,ntmps173;go_wp2_with fail;go_ret2;exact⟨rfl,Q.refl _⟩
 | false =>
  rw[dS] at c3;by_cases h0:i<0
  ·have dz:d.read i=([],2):=Rl dS _ U
   rw[dz];have e1:decide (i<0)=true:=MM h0;clear hg lX Jr hp dz;go_enter func173,ntmps173;go_wp2_with fail;go_ret2;exact⟨rfl,Q.refl _⟩
  ·obtain⟨i,rfl⟩:∃n:Nat,i=n:=⟨i.toNat,U⟩
   by_cases h1:i<d.l.length
   ·have dz:d.read i=(bH d.p i (d.l.getD i []),0):=GT dS i h1
    rw[dz];have bW:=hp dS;obtain⟨g2,rfl,x0,_⟩:=lX i h1;have hge:d.l[i]=d.l.getD i []:=by rw[LR,LN h1];rfl
    rw[hge] at x0;have e1:(i:Int)<(d.l.length:Int):=U;clear lX hg hge;generalize d.l.getD i []=s0 at *;have hcut:=Gc d.p i s0;have kr:∀k (hk:k<d.p.length),bH (d.p.take (k+1)) i s0=if d.p[k].1=i then d.p[k].2 else bH (d.p.take k) i s0:=fun k hk=>by rw[Mb hk,uo]
    generalize u7:d.p=p at *;generalize d.l.length=n at *;have RL:=Hd Jr;have ZW:=Hd kr;clear Jr hcut kr hp dz;go_enter func173,ntmps173;go_wp2_with fail;go_loop [6,7] (fun sv v=>∃k:Nat,v=.int .i64 (k:Nat)∧k≤p.length∧sv=ah (bH (p.take k) i s0)) (fun _ v=>p.length-(intOf v).toNat)
    case atStart=>exact⟨0,rfl,L0 _,rfl⟩
    case round =>
     obtain⟨k,rfl,hk,rfl⟩:=hrel;by_cases ay:k<p.length
     ·have bq:(k:Int)<(p.length:Int):=U
      obtain⟨g3,rfl,y1,y2⟩:=RL.out k ay;have kr:=ZW.out k ay;by_cases hit:p[k].1=i
      ·have hb:(((p[k].1:Nat):Int)==(i:Nat))=true:=MY.2 U
       rw[Φ hit] at kr;have HS:=Hd kr;clear kr;go_wp2_with fail;exact⟨⟨k+1,by go_num,U,by rw[HS.out]⟩,by simp[intOf];omega⟩
      ·have hb:(((p[k].1:Nat):Int)==(i:Nat))=false:=Γ.2 U
       rw[η hit] at kr;have HS:=Hd kr;clear kr;go_wp2_with fail;exact⟨⟨k+1,by go_num,U,by rw[HS.out]⟩,by simp[intOf];omega⟩
     ·have bq:¬(k:Int)<(p.length:Int):=U
      obtain rfl:k=p.length:=U;rw[M1] at *;go_wp2_with fail;go_ret2;exact⟨rfl,Q.refl _⟩
   ·have dz:d.read i=([],2):=Rl dS _ U
    rw[dz];have e1:decide ((d.l.length:Int)≤(i:Int))=true:=MM U;clear hg lX Jr hp dz;generalize d.l.length=n at *;go_enter func173,ntmps173;go_wp2_with fail;go_ret2;exact⟨rfl,Q.refl _⟩
theorem ww(l:List WrL):∀u∈aN l,u.oneCell'=true:=by
 intro u hu;obtain⟨d,_,hd⟩:=Pi.1 hu;simp[mX] at hd;rcases hd with rfl|rfl<;>rfl
theorem Hc(W:World)(base:Nat)(hb:base≤W.heap.size):(W.alloc (.cells #[] 134)).ownsRow base 134 2 (.slice (some ⟨W.heap.size,0,none⟩) 0 0) 0 (aN []):=⟨rfl,.inr ⟨W.heap.size,0,#[],rfl,hb,heap_alloc_new _ _,Ω _,Z,rfl,rfl⟩⟩
theorem db.pend{w w2:World}{F:Nat→Prop}{b:Nat}{lv pv:Value}{d:af}(h:db w F b lv pv d)(q:Q w w2)(v:Value)(ps:List WrL)(hr:w2.ownsRow w.heap.size 134 2 v ps.length (aN ps)):
  db (w2.setCell ⟨b,1,none⟩ v) (grow F w (w2.setCell ⟨b,1,none⟩ v)) b lv v { d with p:=ps }∧ae F w (w2.setCell ⟨b,1,none⟩ v):=by
 have hk:=h.keep q;obtain⟨h1,h2,h3,h4⟩:=hk.ia 1 v;have hb:=hk.box;have t:ae (fun k=>k=b) w2 (w2.setCell ⟨b,1,none⟩ v):=ae.setCell (a:=⟨b,1,none⟩) (ae.refl (fun k=>k=b) w2) (.inl rfl) _
 refine⟨⟨h4,.inl h.fb,h2,fun k e=>.inl (h.fl k e),t.owns (gT hr (L0 _)) (fun k e=>kM hr hb Z k e),fun k e=>.inr ?_⟩,(ae.br q).trans h1⟩
 have:=hr.lt k e;exact⟨this.1,by rw[bO];exact this.2⟩
theorem EL(w:World)(F:Nat→Prop)(b:Nat)(d:af)(i:Int)(s:Bytes)(h:cn w F b d)(hd:d.Ok)(hp:d.dead=false→d.p.length≤1000000)(hs:s.length≤9223372036854775807):
  Calls prog 170 #[au b,.int .i64 i,ah s] w fun e w'=>e=.returned (.int .i64 (d.write i s).2)∧cn w' (grow F w w') b (d.write i s).1∧ae F w w':=by
 obtain⟨lv,pv,hg⟩:=h;obtain⟨c0,c1,c2,c3,_⟩:=hg.box.c4;obtain⟨la,lc,rfl,lX⟩:=hg.gt;clear lX;have sK:=hg.mono (fun k hk=>oJ (A:=w) (B:=w) hk)
 have hm:=hd.max;have dK:∀{e:Int},(d.write i s)=(d,e)→cn w (grow F w w) b (d.write i s).1:=fun he=>by rw[he];exact⟨_,pv,sK⟩
 cases dS:d.dead with
 | true =>
  have hc:d.chk i=4:=by unfold af.chk;rw[Φ dS]
  have hw:d.write i s=(d,4):=by rw[Gj i s (by rw[hc];decide),hc]
  have hend:=dK hw;rw[hw] at hend ⊢;rw[dS] at c3;have HE:=Hd hend;clear hend hg sK dK hw hd hp hc;go_enter func170,ntmps170;go_wp2_with fail;go_ret;exact⟨rfl,HE.out,ae.refl _ _⟩
 | false =>
  rw[dS] at c3;by_cases oZ:0≤i∧i<d.l.length
  ·have hc:d.chk i=0:=by rw[EK dS,Φ oZ]
   obtain⟨qL,qG⟩:=oZ;have e1:decide (i<0)=false:=Mz U;have e2:decide ((d.l.length:Int)≤i)=false:=Mz U;by_cases h1:s.length=256
   ·have e3:(!((s.length:Int)==256))=false:=by rw[MY.2 U];rfl
    have ht:=Oe w F b _ pv d hg hd.b9 hd.j9;by_cases h2:d.b9=0
    ·have hw:d.write i s=(d.bh,4):=by unfold af.write;rw[η (by rw[hc];simp),η (by rw[h1];simp),Φ h2]
     rw[MM h2] at ht;rw[hw];have HT:=Hd ht;clear ht hg sK dK hw hd hp hc;generalize d.l.length=n at *;go_enter func170,ntmps170;go_wp2_with fail;refine HT.out.mono ?_;rintro e w1 ⟨rfl,eT,t1,bB⟩;have HG:=Hd eT;have nW:=Hd t1;clear eT t1;go_wp2_with fail;go_ret;exact⟨rfl,⟨_,_,HG.out.mono (fun k hk=>oJ hk)⟩,nW.out⟩
    ·rw[Mz h2] at ht
     have hw:d.write i s=({ d.bh with p:=d.bh.p++[(i.toNat,s)] },0):=by unfold af.write;rw[η (by rw[hc];simp),η (by rw[h1];simp),η h2,(af.df d).2]
     have bW:d.bh.p.length≤1000000:=by rw[(af.df d).2];exact hp dS
     have hx:[Value.int .i64 i,ah s]=mX (i.toNat,s):=by unfold mX;rw[Z2 qL]
     rw[hw];obtain⟨i0,hi,bY,bB,aW⟩:=info_parts nC;generalize d.bh=d2 at *;have HT:=Hd ht;have HX:=Hd hx;clear hg sK dK hw hd hp hx ht hc;generalize d.l.length=n at *;go_enter func170,ntmps170;go_wp2_with fail;refine HT.out.mono ?_;rintro e w1 ⟨rfl,eT,t1,Sb⟩;obtain⟨a0,a1,a2,a3,f0,f1,f2,f3⟩:=eT.box.c4;have jJ:=Q.alloc w1 (.cells #[] 134);have bX:=(Sl.cx eT.il).stays jJ;have b1:=aI jJ a1;have CB:=Hc w1 w1.heap.size (Ω _);have h5:0+d2.p.length≤maxLen:=by unfold maxLen;omega
     have h6:(0+d2.p.length)*24≤140737488355328:=U;have HG:=Hd eT;have nW:=Hd t1;have HZ:=Hd Sb;have xG:=Hd bX;have HOW:=Hd CB;have H5:=Hd h5;have H6:=Hd h6;have zH:=Hd jJ;have H1:=Hd (ww d2.p);clear eT t1 Sb bX CB h5 h6 jJ;go_wp2_with (at_builtin;refine fM (w1.alloc (.cells #[] 134)) ρ _ _ 102 ρ w1.heap.size 134 i0 (.agg #[.int .i64 0,ah []]) 2 24 underlying102 hi bY bB aW rfl Z _ 0 (aN []) ρ HOW.out pv d2.p.length (aN d2.p) ρ xG.out H1.out H5.out H6.out κ ?_)
     intro v' w' hr oW ho;have Wl:Q w1 w':=bD zH.out HOW.out oW (Ω _) zH.out.size;have pW:w'.ownsRow w1.heap.size 134 2 v' d2.p.length (aN d2.p):=hr;have cO:∀u∈#[Value.int .i64 i,ah s].toList,u.oneCell'=true:=by intro u hu;simp at hu;rcases hu with rfl|rfl<;>rfl
     have dI:(d2.p.length+1)*24≤140737488355328:=U;have HQ':=Hd Wl;have Ct:=Hd pW;have vg:=Hd cO;have xI:=Hd dI;have x0:=aI Wl a0;have x1:=aI Wl a1;have x2:=aI Wl a2;have x3:=aI Wl a3;clear Wl pW cO dI hr oW ho;go_wp2_with (at_builtin;refine bG w' ρ _ _ 102 ρ w1.heap.size 134 _ i0 (.agg #[.int .i64 0,ah []]) 2 24 underlying102 hi bY bB aW rfl Z Z _ _ _ ρ Ct.out #[.int .i64 i,ah s] ρ rfl vg.out xI.out HQ'.out.size ?_)
     intro g2 cap2 w3 Zn nu Zw aaX Kn;have Cr:Q w1 w3:=bD HQ'.out Ct.out nu (Ω _) HQ'.out.size;have OI:w3.ownsRow w1.heap.size 134 2 (.slice (some ⟨g2,0,none⟩) (d2.p.length+1) cap2) (d2.p++[(i.toNat,s)]).length (aN (d2.p++[(i.toNat,s)])):=by
      rw[iF,show(d2.p++[(i.toNat,s)]).length=d2.p.length+1 by simp,show aN [(i.toNat,s)]=mX (i.toNat,s) by simp[aN],←HX.out]
      exact Zn
     have hend:=HG.out.pend Cr _ _ OI;have y1:=aI Cr a1;have z1:=(HG.out.keep Cr).box.frozen 1;have HE:=Hd hend;clear hend OI Cr Zn nu Zw;go_wp2_with fail;go_ret;refine⟨rfl,⟨_,_,HE.out.1.mono (fun k hk=>?_)⟩,nW.out.trans HE.out.2⟩
     rcases hk with hk|hk
     ·exact .inl hk
     ·exact .inr ⟨by rw[←HZ.out];exact hk.1,hk.2⟩
   ·have e3:(!((s.length:Int)==256))=true:=by rw[Γ.2 U];rfl
    have hw:d.write i s=(d,3):=by unfold af.write;rw[η (by rw[hc];simp),Φ h1]
    have hend:=dK hw;rw[hw] at hend ⊢;have HE:=Hd hend;clear hend hg sK dK hw hd hp hc;generalize d.l.length=n at *;go_enter func170,ntmps170;go_wp2_with fail;go_ret;exact⟨rfl,HE.out,ae.refl _ _⟩
  ·have hc:d.chk i=2:=by rw[EK dS,η oZ]
   have hw:d.write i s=(d,2):=by rw[Gj i s (by rw[hc];decide),hc]
   have hend:=dK hw;rw[hw] at hend ⊢;have HE:=Hd hend;clear hend hg sK dK hw hd hp hc;by_cases h0:i<0
   ·have e1:decide (i<0)=true:=MM h0
    go_enter func170,ntmps170;go_wp2_with fail;go_ret;exact⟨rfl,HE.out,ae.refl _ _⟩
   ·have e1:decide (i<0)=false:=Mz h0
    have e2:decide ((d.l.length:Int)≤i)=true:=MM U;generalize d.l.length=n at *;go_enter func170,ntmps170;go_wp2_with fail;go_ret;exact⟨rfl,HE.out,ae.refl _ _⟩
theorem Lu(w:World)(F:Nat→Prop)(b:Nat)(d:af)(h:cn w F b d)(hd:d.Ok)(hp:d.dead=false→d.p.length≤1000000):
  Calls prog 172 #[au b] w fun e w'=>e=.returned (.int .i64 d.bw.2)∧cn w' F b d.bw.1∧ae F w w':=by
 obtain⟨lv,pv,hg⟩:=h;obtain⟨c0,c1,c2,c3,_⟩:=hg.box.c4;cases dS:d.dead with
 | true =>
  have hw:d.bw=(d,4):=by unfold af.bw;rw[Φ dS]
  rw[hw];rw[dS] at c3;have HG:=Hd hg;clear hg hw hd hp;go_enter func172,ntmps172;go_wp2_with fail;go_ret;exact⟨rfl,⟨_,_,HG.out⟩,ae.refl _ _⟩
 | false =>
  rw[dS] at c3;have ht:=Oe w F b lv pv d hg hd.b9 hd.j9;by_cases h2:d.b9=0
  ·have hw:d.bw=(d.bh,4):=by unfold af.bw;rw[η (by rw[dS];decide),Φ h2]
   rw[MM h2] at ht;rw[hw];have HT:=Hd ht;clear ht hg hw hd hp;go_enter func172,ntmps172;go_wp2_with fail;refine HT.out.mono ?_;rintro e w1 ⟨rfl,eT,t1,bB⟩;have HG:=Hd eT;have nW:=Hd t1;clear eT t1;go_wp2_with fail;go_ret;exact⟨rfl,⟨_,_,HG.out⟩,nW.out⟩
  ·rw[Mz h2] at ht
   have hw:d.bw=({ d.bh with l:=iw d.bh.l d.bh.p,p:=[] },0):=by unfold af.bw;rw[η (by rw[dS];decide),η h2,(af.df d).1,(af.df d).2]
   have bW:d.bh.p.length≤1000000:=by rw[(af.df d).2];exact hp dS
   have gX:=af.gj hd;rw[hw];generalize d.bh=d2 at *;have HT:=Hd ht;have fV:∀k (hk:k<d2.p.length),d2.p[k].1<d2.l.length:=fun k hk=>(gX.p _ (LO hk)).1
   have hmax:=gX.max;have kY:=Hd fV;clear ht hg hw hd hp gX fV;go_enter func172,ntmps172;go_wp2_with fail;refine HT.out.mono ?_;rintro e w1 ⟨rfl,eT,t1,bB⟩;obtain⟨la,lc,rfl,lX⟩:=eT.gt;obtain⟨pa,pc,rfl,Jr⟩:=eT.js;clear lX Jr;have HG:=Hd eT;have nW:=Hd t1;clear eT t1 bB c0 c1 c2 c3;go_wp2_with fail;go_loopw [4] (fun v wr=>∃k:Nat,v=.int .i64 (k:Nat)∧k≤d2.p.length∧Hid (db wr F b (.slice la d2.l.length lc) (.slice pa d2.p.length pc) { d2 with l:=iw d2.l (d2.p.take k) })∧Hid (ae F w1 wr)) (fun v _=>d2.p.length-(intOf v).toNat)
   case atStart=>exact⟨0,rfl,L0 _,HG.out,ae.refl _ _⟩
   case round =>
    obtain⟨k,rfl,kW,jU,fG⟩:=hrel;obtain⟨d0,d1,d2',d3,e0,e1,e2,e3⟩:=jU.out.box.c4;by_cases ay:k<d2.p.length
    ·have bq:(k:Int)<(d2.p.length:Int):=U
     have EP:(0:Int)≤(k:Int):=U;have oZ:=kY.out k ay;have oP:(iw d2.l (d2.p.take k)).length=d2.l.length:=lY _ _;obtain⟨pa',pc',D5,kR⟩:=jU.out.js;obtain⟨la',lc',lI,lX⟩:=jU.out.gt;simp only[Value.slice.injEq] at D5 lI;obtain⟨rfl,DZ,rfl⟩:=D5;obtain⟨rfl,qF,rfl⟩:=lI;clear DZ qF;obtain⟨g2,rfl,xx1,xx2⟩:=kR k ay;obtain⟨gl,rfl,yy1,y2⟩:=lX d2.p[k].1 (by show _<(iw d2.l (d2.p.take k)).length;omega)
     obtain⟨old,y1⟩:∃s,wr.cell? ⟨gl,d2.p[k].1,none⟩=some (ah s):=⟨_,yy1⟩;have x1:wr.cell? ⟨g2,k*2,none⟩=some (.int .i64 (d2.p[k].1:Nat)):=xx1;have x2:wr.cell? ⟨g2,k*2+1,none⟩=some (ah d2.p[k].2):=xx2;clear yy1 xx1 xx2;have aif:((d2.p[k].1:Nat):Int)<(d2.l.length:Int):=U;have afF:(0:Int)≤((d2.p[k].1:Nat):Int):=U;have kU:=NG d2.l d2.p k ay;have aX:=Hd kU;have nu:=jU.out;rw[show d2.l.length=({ d2 with l:=iw d2.l (d2.p.take k) }:af).l.length from oP.symm] at nu
     have hend:=fun (W:World) (q:Q wr W)=>(nu.keep q).lay d2.p[k].1 d2.p[k].2
     have Dy:=Hd hend;have z0:wr.cell? ⟨b,0,none⟩=some (.slice (some ⟨gl,0,none⟩) d2.l.length lc):=jU.out.box.c4.1;have z1:wr.cell? ⟨b,1,none⟩=some (.slice (some ⟨g2,0,none⟩) d2.p.length pc):=jU.out.box.c4.2.1;clear kU kR lX nu hend d0 d1 d2' d3 e0 e1 e2 e3;generalize eu:d2.p[k].1=bk at *;generalize zC:d2.p[k].2=dk at *;go_wp2_with fail;go_region;all_goals
      go_wp2_with fail;go_roundw;case rel =>
       refine⟨k+1,by go_num,U,?_,?_⟩
       ·rw[aX.out]
        have h:=(Dy.out _ (Q.drew _)).1;rw[show({ d2 with l:=iw d2.l (d2.p.take k) }:af).l.length=d2.l.length from oP] at h
        exact Hd h
       ·exact Hd ((fG.out.q (Q.drew _)).trans (Dy.out _ (Q.drew _)).2)
      case measure=>simp[intOf];omega
    ·have bq:¬(k:Int)<(d2.p.length:Int):=U
     have Ae:k=d2.p.length:=U;subst Ae;have nu:=jU.out;rw[M1] at nu;have hend:=nu.empty;have HE:=Hd hend;clear hend nu;go_wp2_with fail;go_ret;exact⟨rfl,⟨_,_,HE.out.1⟩,nW.out.trans (fG.out.trans HE.out.2)⟩
theorem l9(s:Bytes)(w:World)(hs:4≤s.length)(jm:s.length≤9223372036854775807):
  Calls prog 242 #[ah s] w fun e w'=>e=.returned (.tuple #[.int .u32 (aM s:Nat),ah (s.drop 4),.bool true])∧Q w w':=by
 have e0:¬(s.length:Int)<4:=U;have h0:(0:Nat)<s.length:=U;have h1:(1:Nat)<s.length:=U;have h2:(2:Nat)<s.length:=U;have h3:(3:Nat)<s.length:=U;have i1:(1:Int)<(s.length:Int):=U;have i2:(2:Int)<(s.length:Int):=U;have i3:(3:Int)<(s.length:Int):=U;have i4:(4:Int)≤(s.length:Int):=U;go_enter func242,ntmps242;go_wp2_with fail;go_quiet (fail);simp only[yO s 0 h0,yO s 1 h1,yO s 2 h2,yO s 3 h3];have b0:=jW s 0;have b1:=jW s 1;have b2:=jW s 2;have b3:=jW s 3;have hv:((((bA s 0:Nat):Int)+256*(((bA s 1:Nat):Int)%4294967296)+65536*(((bA s 2:Nat):Int)%4294967296))%4294967296+16777216*(((bA s 3:Nat):Int)%4294967296)%4294967296)%4294967296=((aM s:Nat):Int):=by unfold aM;omega
 rw[hv];go_wp2_with fail;go_ret3;exact⟨by rw[fI];rfl,Q.drewN _ _⟩
def Cj(s:Bytes):Nat:=aM (s.drop 4)*4294967296+aM s
theorem Oh(s:Bytes)(w:World)(hs:8≤s.length)(jm:s.length≤1000000):
  Calls prog 243 #[ah s] w fun e w'=>e=.returned (.int .u64 (Cj s:Nat))∧Q w w':=by
 have c1:=fun (W:World)=>l9 s W U U
 have c2:=fun (W:World)=>l9 (s.drop 4) W (by rw[L5];omega) (by rw[L5];omega)
 have i4:(4:Int)≤(s.length:Int):=U;have hd:({ data:=s.toArray }:ByteArray).extract 4 s.length=⟨(s.drop 4).toArray⟩:=fI s 4;have u1:=eU s;have u2:=eU (s.drop 4);have hv:((Cj s:Nat):Int)=(aM (s.drop 4):Int)*4294967296+(aM s:Int):=by unfold Cj;omega
 rw[hv];generalize aM s=a at *;generalize aM (s.drop 4)=b at *;have C1:=Hd c1;have C2:=Hd c2;clear c1 c2 hv;go_enter func243,ntmps243;go_wp2_with fail;refine(C1.out _).mono ?_;rintro e w1 ⟨rfl,q1⟩;go_wp2_with fail;refine(C2.out _).mono ?_;rintro e w2 ⟨rfl,q2⟩;have Q2:=Hd (q1.trans q2);clear q1 q2;go_wp2_with fail;go_ret;exact⟨rfl,Q2.out⟩
theorem Ve(x:Int)(w:World):Calls prog 115 #[.int .u32 (IntKind.u32.wrap x)] w fun e w'=>e=.returned (ah (aB (x%4294967296).toNat))∧Q w w':=by
 have h:IntKind.u32.wrap x=((x%4294967296).toNat:Nat):=by simp[IntKind.wrap,IntKind.bits,IntKind.signed];omega
 rw[h];exact ru _ w U
theorem EM(s:bu)(hs:s.Ok)(w:World):
  Calls prog 171 #[.agg #[.int .u64 (s.e:Nat),.int .u64 (s.s:Nat),.int .i64 (s.log:Nat),.int .i64 (s.place:Nat)]] w fun e w'=>e=.returned (ah (aQ s))∧Q w w':=by
 have cf:=fun (x:Int) (W:World)=>Ve x W
 have hlf:∀v,(aB v).length=4:=aH;have CF:=Hd cf;have HS:=Hd hs;have qa:=(Q.alloc w (.cells #[.int .u64 (s.e:Nat),.int .u64 (s.s:Nat),.int .i64 (s.log:Nat),.int .i64 (s.place:Nat)] 172));clear cf;obtain⟨h1,h2,h3,h4⟩:=hs;go_enter func171,ntmps171;go_upto_region 1 with fail;obtain⟨b0,b1,b2,b3,_⟩:=(Blk.new w 172 #[.int .u64 (s.e:Nat),.int .u64 (s.s:Nat),.int .i64 (s.log:Nat),.int .i64 (s.place:Nat)]).c4;generalize eO:w.alloc (.cells #[.int .u64 (s.e:Nat),.int .u64 (s.s:Nat),.int .i64 (s.log:Nat),.int .i64 (s.place:Nat)] 172)=w1 at *;clear eO;have KQ:=Hd (Q.refl w1);go_region_held3 (fun w'=>w'.cell? ⟨w.heap.size,0,none⟩=some (.int .u64 (s.e:Nat))∧w'.cell? ⟨w.heap.size,1,none⟩=some (.int .u64 (s.s:Nat))∧w'.cell? ⟨w.heap.size,2,none⟩=some (.int .i64 (s.log:Nat))∧w'.cell? ⟨w.heap.size,3,none⟩=some (.int .i64 (s.place:Nat)))
  (first|exact⟨b0,b1,b2,b3⟩|exact⟨aI ε b0,aI ε b1,aI ε b2,aI ε b3⟩)
  (first
   | (go_at_call 115;with_reducible refine(CF.out _ _).mono ?_;rintro e w3 ⟨rfl,q3⟩;have s':Q w1 w3:=Q.trans ε q3;clear KQ;have KQ:=Hd s';clear s' q3))
 all_goals
  have Cr:Q w w3:=qa.trans KQ.out;have fu:=Hd Cr;have x1:(((s.e:Int).tmod 4294967296)%4294967296).toNat=s.e%4294967296:=by rw[W5 U];omega
  have x2:((s.e:Int) / 4294967296%4294967296).toNat=s.e / 4294967296:=U;have x3:(((s.s:Int).tmod 4294967296)%4294967296).toNat=s.s%4294967296:=by rw[W5 U];omega
  have x4:((s.s:Int) / 4294967296%4294967296).toNat=s.s / 4294967296:=U;have x5:((s.log:Int)%4294967296).toNat=s.log:=U;have x6:((s.place:Int)%4294967296).toNat=s.place:=U;have Z9:(#[67,68,88,83]:Array UInt8)=fL.toArray:=rfl;simp only[x1,x2,x3,x4,x5,x6,uq,Z9,bytes_append];have nS:(fL++aB s.e++aB (s.e / 4294967296)++aB s.s++aB (s.s / 4294967296)++aB s.log++aB s.place).length=28:=by simp only[Δ,aH];rfl
  have hend:(fL++aB s.e++aB (s.e / 4294967296)++aB s.s++aB (s.s / 4294967296)++aB s.log++aB s.place)++bg 100=gN s:=by simp only[gN,Mm]
  have amZ:=nE s;have aC:aQ s=gN s++gN s:=rfl;have aiZ:=Hd aC;clear aC;generalize fL++aB s.e++aB (s.e / 4294967296)++aB s.s++aB (s.s / 4294967296)++aB s.log++aB s.place=tt at *;generalize gN s=sh at *;obtain⟨i,hi,bY,bB,aW⟩:=info_parts ze;have km:=run_make (P:=prog) w3 92 5 _ _ underlying92 hi bY .i64 .i64 100 100 U (XX _) (by rw[aW];omega) U
  have hb:=(cA.zeros w3 (100:Int).toNat 5).back (P:=prog) 92 9 5 (100:Int).toNat underlying92 underlying5 underlying9;rw[Nx] at hb;rw[show List.replicate (100:Int).toNat (0:UInt8)=bg 100 from rfl] at hb
  rw[bB,abq,show(Value.int IntKind.u8 0).cells=#[.int .u8 0] from rfl] at km
  have hq:=Q.alloc w3 (.cells (madeCells #[.int .u8 0] (100:Int).toNat) 5);have TG:(tt.length:Int)=28:=U;have xX:(bg 100).length=100:=rfl;generalize (100:Int).toNat=mm at *;generalize w3.alloc (.cells (madeCells #[.int .u8 0] mm) 5)=w4 at *;generalize bg 100=z at *;have lH:=Hd (Cr.trans hq);have Dy:=Hd hend;clear Cr hq bY bB aW x1 x2 x3 x4 x5 x6 Z9 hend KQ qa;go_wp2_with fail;go_ret;exact⟨by rw[aiZ.out,←Dy.out];simp only[bytes_append];rfl,lH.out⟩
end
section
theorem DG(t:Bytes)(m:Nat)(h:4≤m):aM (t.take m)=aM t:=by
 have e:∀k,k<4→bA (t.take m) k=bA t k:=fun k hk=>by
  unfold bA;rw[LR,LR,adz U]
 unfold aM;rw[e 0 U,e 1 U,e 2 U,e 3 U]
def iz(s:Bytes)(k:Nat):Nat:=aM (s.drop (16+4*k))
def xC(s:Bytes)(k:Nat):List Nat:=(List.range k).map (iz s)
theorem XV(s:Bytes)(k:Nat):xC s (k+1)=xC s k++[iz s k]:=by unfold xC;rw[Ty,N5];rfl
theorem GH(s:Bytes)(k:Nat):(xC s k).length=k:=by simp[xC]
theorem Oi(n:Nat):∀(t:Bytes),(∀k,k<n→aM (t.drop (4*k))<4096)→numsL n t=some ((List.range n).map (fun k=>aM (t.drop (4*k))),t.drop (4*n)):=by
 induction n with
 | zero=>intro t h;rfl
 | succ n ih =>
  intro t h;have h0:=h 0 U;rw[acI,QQ] at h0;have h1:=ih (t.drop 4) (fun k hk=>by have:=h (k+1) U;rw[N6];rwa [show 4+4*k=4*(k+1) by omega])
  rw[numsL,Φ h0,h1,abm];simp only[acz,No,Rr,acI,QQ,N6];congr 2
  ·congr 1
   refine PC (fun k _=>?_)
   simp only[Function.comp];rw[show 4+4*k=4*(k+1) by omega]
  ·rw[show 4+4*n=4*(n+1) by omega]
theorem Rm(n:Nat):∀(t:Bytes) (k:Nat),k<n→¬aM (t.drop (4*k))<4096→numsL n t=none:=by
 induction n with
 | zero=>intro t k h;omega
 | succ n ih =>
  intro t k hk hb;rw[numsL];by_cases h0:aM t<4096
  ·rw[Φ h0]
   cases k with
   | zero=>rw[acI,QQ] at hb;exact absurd h0 hb
   | succ k =>
    rw[ih (t.drop 4) k U (by rw[N6,show 4+4*k=4*(k+1) by omega];exact hb)]
    rfl
  ·rw[η h0]
theorem Bd(s:Bytes)(k:Nat)(h:k<48):aM (((s.drop 16).take 232).drop (4*k))=iz s k:=by
 unfold iz;rw[Ys,N6,DG _ _ U]
theorem Vf(s:Bytes)(hl:s.length=256)(h1:s.take 4=ek)(h2:s.drop 252=du)(h3:1≤aM (s.drop 12))(h4:aM (s.drop 12)≤48)(h5:∀k,k<aM (s.drop 12)→iz s k<4096)(h6:∀i,16+4*aM (s.drop 12)≤i→i<248→bA s i=0):
  dV s=some (aM (s.drop 8)*4294967296+aM (s.drop 4),xC s (aM (s.drop 12))):=by
 unfold dV;rw[Φ ⟨hl,h1,h2⟩];simp only[];rw[Φ ⟨h3,h4⟩,Oi _ _ (fun k hk=>by rw[Bd s k U];exact h5 k hk)]
 simp only[];rw[Φ]
 ·congr 2
  unfold xC;refine PC (fun k hk=>?_)
  exact Bd s k (by have:=P4.1 hk;omega)
 ·rw[abH]
  intro x hx;obtain⟨i,hi,rfl⟩:=PH hx;rw[L5,L4,L5,hl] at hi;have hb:=h6 (16+(4*aM (s.drop 12)+i)) U U;rw[Wc,abt,Wc];unfold bA at hb;rw[LR,LN U] at hb;simp only[ZD] at hb;rw[MY];exact UInt8.toNat_inj.1 (by simpa using hb)
theorem XW(s:Bytes)(h:¬(1≤aM (s.drop 12)∧aM (s.drop 12)≤48)):dV s=none:=by
 unfold dV;split
 ·simp only[];rw[η h]
 ·rfl
theorem XY(s:Bytes)(k:Nat)(hk:k<aM (s.drop 12))(h4:aM (s.drop 12)≤48)(hb:¬iz s k<4096):dV s=none:=by
 unfold dV;split
 ·simp only[]
  split
  ·rw[Rm _ _ k hk (by rw[Bd s k U];exact hb)]
  ·rfl
 ·rfl
theorem Vg(s:Bytes)(hl:s.length=256)(h4:aM (s.drop 12)≤48)(i:Nat)(h1:16+4*aM (s.drop 12)≤i)(h2:i<248)(hb:bA s i≠0):dV s=none:=by
 unfold dV;split
 ·simp only[]
  split
  ·by_cases hg:∀k,k<aM (s.drop 12)→iz s k<4096
   ·rw[Oi _ _ (fun k hk=>by rw[Bd s k U];exact hg k hk)]
    simp only[];rw[η];intro hall;rw[abH] at hall;have hm:s[i]' U∈(List.take 232 (List.drop 16 s)).drop (4*aM (List.drop 12 s)):=by
     refine List.mem_iff_getElem.2 ⟨i-16-4*aM (s.drop 12),by rw[L5,L4,L5,hl];omega,?_⟩
     rw[Wc,abt,Wc];congr 1;omega
    have:=hall _ hm;rw[MY] at this;apply hb;unfold bA;rw[LR,LN U];simp only[ZD];rw[this];rfl
   ·obtain⟨k,hk⟩:=Classical.not_forall.1 hg
    obtain⟨Bv,kW⟩:=Classical.not_imp.1 hk;rw[Rm _ _ k Bv (by rw[Bd s k U];exact kW)]
  ·rfl
 ·rfl
theorem Rn(s:Bytes)(h:¬(s.length=256∧s.take 4=ek∧s.drop 252=du)):dV s=none:=by
 unfold dV;rw[η h]
end
section
open Go.RowKit
def rz(seq:Nat)(ws:List WrL)(k:Nat):Bytes:=ek++aB seq++aB (seq / 4294967296)++aB ws.length++iR ((ws.take k).map (·.1))
theorem XZ(seq:Nat)(ws:List WrL)(k:Nat)(h:k<ws.length):rz seq ws (k+1)=rz seq ws k++aB ws[k].1:=by
 unfold rz;rw[Mb h,N5];simp[iR,Mm]
theorem uC(seq:Nat)(ws:List WrL)(k:Nat)(h:k≤ws.length):(rz seq ws k).length=16+4*k:=by
 unfold rz;simp only[Δ,aH,uw,NE,L4];have:ek.length=4:=rfl;omega
theorem xT(seq:Nat)(ws:List WrL):rz seq ws ws.length++bg (232-4*ws.length)=jo seq ws:=by
 unfold rz jo;rw[M1];simp only[Mm]
theorem vh(w:World)(seq:Nat)(hs:seq<18446744073709551616)(lv:Value)(ws:List WrL)(hl:Sl w lv ws.length 2 (aN ws))(hn:ws.length≤48)(hw:∀x∈ws,x.1<4096):
  Calls prog 246 #[.int .u64 (seq:Nat),lv] w fun e w'=>e=.returned (ah (jo seq ws))∧Q w w':=by
 obtain⟨la,lc,rfl,lX⟩:=hl.value;have aP:∀k (hk:k<ws.length),∃lb lo,la=some ⟨lb,lo,none⟩∧w.cell? ⟨lb,lo+k*2,none⟩=some (.int .i64 (ws[k].1:Nat))∧ws[k].1<4096:=fun k hk=>by
  obtain⟨lb,lo,h1,h4⟩:=lX U;exact⟨lb,lo,h1,h4 _ _ (fQ ws k hk).1,hw _ (LO hk)⟩
 have cf:=fun (v:Nat) (hv:v<4294967296) (W:World)=>ru v W hv
 have CF:=Hd cf;have HC:=Hd aP;have f1:(aB (seq%4294967296))=aB seq:=uq seq;have F1:=Hd f1;clear cf aP lX hl f1;go_enter func246,ntmps246;go_wp2_with fail;rw[show((seq:Int)%4294967296)=((seq%4294967296:Nat):Int) by omega]
 refine(CF.out _ U _).mono ?_;rintro e w1 ⟨rfl,q1⟩;rw[F1.out];have l1:=aH seq;have l2:=aH (seq / 4294967296);have l3:=aH ws.length;have dF:=Hd q1;clear q1;go_wp2_with fail;rw[show((seq:Int) / 4294967296)=((seq / 4294967296:Nat):Int) by omega]
 refine(CF.out _ U _).mono ?_;rintro e w2 ⟨rfl,q2⟩;have bJ:=Hd (dF.out.trans q2);clear q2;go_wp2_with fail;refine(CF.out _ U _).mono ?_;rintro e w3 ⟨rfl,q3⟩;have fu:=Hd (bJ.out.trans q3);clear q3;go_wp2_with fail;have Z9:(#[67,68,88,84]:Array UInt8)=ek.toArray:=rfl;simp only[Z9,bytes_append,Mm];have sK:ek++(aB seq++(aB (seq / 4294967296)++aB ws.length))=rz seq ws 0:=by unfold rz;simp[iR]
 rw[sK];clear sK Z9 l1 l2 l3 hs;go_loopw [5,6] (fun tv v wr=>∃k:Nat,v=.int .i64 (k:Nat)∧k≤ws.length∧tv=ah (rz seq ws k)∧Hid (Q w wr)) (fun _ v _=>ws.length-(intOf v).toNat)
 case atStart=>exact⟨0,rfl,L0 _,rfl,fu.out⟩
 case round =>
  obtain⟨k,rfl,hk,rfl,HQ⟩:=hrel;have pV:=uC seq ws k hk;by_cases ay:k<ws.length
  ·have bq:(k:Int)<(ws.length:Int):=U
   obtain⟨lb,lo,rfl,x1,hx⟩:=HC.out k ay;have y1:=aI HQ.out x1;have aC:=XZ seq ws k ay;have aX:=Hd aC;have l1:=aH ws[k].1;clear aC x1;generalize ws[k].1=bk at *;have YH:(rz seq ws k).length≤1000:=U;clear pV;generalize rz seq ws k=hg at *;go_wp2_with fail;refine(CF.out bk U _).mono ?_;rintro e w4 ⟨rfl,q4⟩;have lH:=Hd (HQ.out.trans q4);clear q4;go_wp2_with fail;go_roundw;case rel=>exact⟨k+1,by go_num,U,by rw[aX.out];simp only[bytes_append],lH⟩
   case measure=>simp[intOf];omega
  ·have bq:¬(k:Int)<(ws.length:Int):=U
   obtain rfl:k=ws.length:=U;have hend:=xT seq ws;have ai7:((rz seq ws ws.length).length:Int)=16+4*(ws.length:Int):=U;obtain⟨zn,hzn⟩:∃zn,zn=232-4*ws.length:=⟨_,rfl⟩;have hzi:(248:Int)-(16+4*(ws.length:Int))=(zn:Int):=U;rw[←hzn] at hend;obtain⟨i,hi,bY,bB,aW⟩:=info_parts ze;have km:=run_make (P:=prog) wr 92 5 _ _ underlying92 hi bY .i64 .i64 (zn:Int) (zn:Int) U (XX _) (by rw[aW];omega) U
   have hb:=(cA.zeros wr zn 5).back (P:=prog) 92 9 5 zn underlying92 underlying5 underlying9;rw[Nx] at hb;rw[show List.replicate zn (0:UInt8)=bg zn from rfl] at hb
   rw[OK,bB,abq,show(Value.int IntKind.u8 0).cells=#[.int .u8 0] from rfl] at km
   have hq:=Q.alloc wr (.cells (madeCells #[.int .u8 0] zn) 5);have xX:(bg zn).length≤1000:=by rw[fC];omega
   have YH:(rz seq ws ws.length).length≤1000:=U;generalize wr.alloc (.cells (madeCells #[.int .u8 0] zn) 5)=w5 at *;generalize bg zn=z at *;generalize rz seq ws ws.length=hg at *;have afL:IntKind.i64.wrap ((248:Int)-(hg.length:Int))=(zn:Int):=by rw[IntWalk.i64_in _ U];omega
   have acg:(248:Int)-(hg.length:Int)=(zn:Int):=U;rw[←acg] at km;have Dy:=Hd hend;have jK:=Hd (HQ.out.trans hq);clear hend hq hzn pV bY bB aW hzi ai7 afL acg;go_wp2_with fail;go_ret;exact⟨by rw[←Dy.out];simp only[bytes_append];rfl,jK.out⟩
end
end Go.Proofs.YtbkahhebmpehnaaGreatDoor
