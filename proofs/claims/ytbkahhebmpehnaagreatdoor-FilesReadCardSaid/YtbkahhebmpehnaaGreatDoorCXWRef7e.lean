/- Joined: WRef7e to WBlkF -/
import Derived.Test.YtbkahhebmpehnaaGreatDoorCXWRef4d
set_option linter.all false
set_option maxRecDepth 100000
set_option maxHeartbeats 8000000
namespace Go.Proofs.YtbkahhebmpehnaaGreatDoor
open Go.Proofs.Tryz
section
open Go.RowKit
structure fY (σ:StL):Prop where
 num:iL σ
 bits:σ.dead=false→σ.gm (aD σ.n)=σ.ai
theorem cg.know{K:Nat}{σ:StL}{fr:List (List WrL)}{C:Nat→Bytes}(h:cg K σ fr C)(hK:K<18446744073709551616):fY σ:=⟨h.num hK,fun _=>h.gm⟩
theorem Sl.set{w:World}{v:Value}{n size:Nat}{xs:List Value}(h:Sl w v n size xs){k i:Nat}(u:Value)(aU:∀g off cap,v=.slice (some ⟨g,off,none⟩) n cap→0<n→g≠k):Sl (w.setCell ⟨k,i,none⟩ u) v n size xs:=by
 have t:ae (fun x=>x=k) w (w.setCell ⟨k,i,none⟩ u):=(ae.refl (fun x=>x=k) w).setCell (a:=⟨k,i,none⟩) (.inl rfl) u
 obtain⟨hl,a',cap,rfl,hc⟩:=h;refine⟨hl,a',cap,rfl,fun hn=>?_⟩
 obtain⟨b,off,rfl,aP⟩:=hc hn;exact⟨b,off,rfl,fun j u hj=>t.cell (aP j u hj) (aU b off cap rfl hn)⟩
theorem Dr{w:World}{v:Value}{l:List WrL}{sb p:Nat}{o:Bool}{tv:Value}(h:Sl w v l.length 2 (aN l))(hb:Blk w sb 169 #[au p,.bool o,tv])(ht:∃a n c,tv=.slice a n c):∀g off cap,v=.slice (some ⟨g,off,none⟩) l.length cap→0<l.length→g≠sb:=by
 rintro g off cap rfl hn rfl;obtain⟨hl,a',cap',he,hc⟩:=h;obtain⟨b,off',rfl,aP⟩:=hc hn;simp only[Value.slice.injEq,M3,Addr.mk.injEq] at he;obtain⟨⟨rfl,rfl,_⟩,_,_⟩:=he;obtain⟨ta,tn,tc,rfl⟩:=ht;cases l with
 | nil=>simp at hn
 | cons x l =>
  have h0:=aP 0 (.int .i64 (x.1:Nat)) rfl;rw[show w.cell? ⟨g,off+0,none⟩=(#[au p,.bool o,.slice ta tn tc]:Array Value)[off+0]? by simp only[World.cell?,show w.heap[g]?=_ from hb];rfl] at h0
  match off with
  | 0=>simp[au] at h0
  | 1=>simp at h0
  | 2=>simp at h0
  | k+3=>simp at h0
section
variable {w:World} {FJ:Nat→Prop} {sb b p:Nat} {tv:Value} {σ:StL}
theorem dp.slice(h:dp w FJ sb b p tv σ):∃a n c,tv=.slice a n c:=by
 obtain⟨a,cap,e,_⟩:=h.tx.value;exact⟨a,_,cap,e⟩
theorem dp.congr{τ:StL}(h:dp w FJ sb b p tv σ)(h1:τ.open_=σ.open_)(h2:τ.tx=σ.tx)(h3:τ.j=σ.j):dp w FJ sb b p tv τ :=
 ⟨by rw[h1];exact h.box,by rw[h3];exact h.jr,h.sF,by rw[h2];exact h.tx⟩
theorem dp.Ft(h:dp w FJ sb b p tv σ)(lv:Value)(l:List WrL)(hs:SlO w FJ lv l.length 2 (aN l)):dp (w.setCell ⟨sb,2,none⟩ lv) FJ sb b p lv { σ with tx:=l }:=by
 have t:ae (fun x=>x=sb) w (w.setCell ⟨sb,2,none⟩ lv):=(ae.refl (fun x=>x=sb) w).setCell (a:=⟨sb,2,none⟩) (.inl rfl) lv
 have hn:=Dr hs.1 h.box h.slice;refine⟨?_,?_,h.sF,⟨hs.1.set lv hn,fun hl=>?_⟩⟩
 ·have:=h.box.set 2 lv
  exact this
 ·exact h.jr.beside t (fun k hk e=>h.sF (by rw[←e];exact hk))
 ·obtain⟨g,off,e,h1,h2⟩:=hs.2 hl
  exact⟨g,off,e,Ψ h1 t.size,h2⟩
theorem dp.mi(h:dp w FJ sb b p tv σ)(o:Bool):dp (w.setCell ⟨sb,1,none⟩ (.bool o)) FJ sb b p tv { σ with open_:=o }:=by
 have t:ae (fun x=>x=sb) w (w.setCell ⟨sb,1,none⟩ (.bool o)):=(ae.refl (fun x=>x=sb) w).setCell (a:=⟨sb,1,none⟩) (.inl rfl) _
 have hn:=Dr h.tx.1 h.box h.slice;refine⟨?_,?_,h.sF,⟨h.tx.1.set _ hn,fun hl=>?_⟩⟩
 ·have:=h.box.set 1 (.bool o)
  exact this
 ·exact h.jr.beside t (fun k hk e=>h.sF (by rw[←e];exact hk))
 ·obtain⟨g,off,e,h1,h2⟩:=h.tx.2 hl
  exact⟨g,off,e,Ψ h1 t.size,h2⟩
theorem EO(h:dp w FJ sb b p tv σ):
  Calls prog 106 #[au sb] w fun e w'=>e=.returned (.int .i64 (σ.state true))∧w=w':=by
 obtain⟨c0,c1,_⟩:=h.box.c3f;obtain⟨j0,_⟩:=h.jr.box.c8;obtain⟨lv,pv,hd⟩:=h.jr.dev;obtain⟨d0,d1,d2,d3,_⟩:=hd.box.c4;have hs:σ.state true=if σ.j.d.dead=true then 4 else if σ.open_=true then 0 else 15:=rfl
 rw[hs];clear h hd hs;generalize σ.j.d.dead=dd at *;generalize σ.open_=oo at *;cases dd with
 | true =>
  go_enter func106,ntmps106;go_wp2;go_ret;exact⟨rfl,rfl⟩
 | false =>
  cases oo with
  | true =>
   go_enter func106,ntmps106;go_wp2;go_ret;exact⟨rfl,rfl⟩
  | false =>
   go_enter func106,ntmps106;go_wp2;go_ret;exact⟨rfl,rfl⟩
theorem Oq(h:dp w FJ sb b p tv σ)(hn:σ.n≤4096)(i:Int):
  Calls prog 184 #[au sb,.int .i64 i] w fun e w'=>e=.returned (.bool (σ.cQ i))∧w=w':=by
 have hb:=nK h;have hf:=yR h hn;have hd:σ.cQ i=decide ((ak σ.n:Int)≤i∧i<(σ.n:Int)):=rfl;rw[hd];have HB:=Hd hb;have HF:=Hd hf;clear hb hf h hd;generalize ak σ.n=fd at *;generalize σ.n=n at *;by_cases h1:(fd:Int)≤i
 ·by_cases h2:i<(n:Int)
  ·rw[MM ⟨h1,h2⟩]
   go_enter func184,ntmps184;go_wp2_with fail;refine HF.out.mono ?_;rintro e w1 ⟨rfl,rfl⟩;go_wp2_with fail;refine HB.out.mono ?_;rintro e w1 ⟨rfl,rfl⟩;go_wp2_with fail;go_ret;exact⟨rfl,rfl⟩
  ·rw[Mz (fun hc=>h2 hc.2)]
   go_enter func184,ntmps184;go_wp2_with fail;refine HF.out.mono ?_;rintro e w1 ⟨rfl,rfl⟩;go_wp2_with fail;refine HB.out.mono ?_;rintro e w1 ⟨rfl,rfl⟩;go_wp2_with fail;go_ret;refine⟨?_,rfl⟩;show Ending.returned (Value.bool (decide (i<(n:Int))))=_;rw[Mz (show ¬(i<(n:Int)) by omega)]
 ·rw[Mz (fun hc=>h1 hc.1)]
  go_enter func184,ntmps184;go_wp2_with fail;refine HF.out.mono ?_;rintro e w1 ⟨rfl,rfl⟩;go_wp2_with fail;go_ret;exact⟨rfl,rfl⟩
theorem X9(h:dp w FJ sb b p tv σ)(lv:Value)(l:List WrL)(hl:l.length≤100000)(hs:SlO w FJ lv l.length 2 (aN l)):
  Calls prog 183 #[au sb,lv] w fun e w'=>e=.returned (.int .i64 (if l.length>48 then 6 else 0)) ∧
   w'=(if l.length>48 then w else w.setCell ⟨sb,2,none⟩ lv):=by
 obtain⟨a,cap,rfl,_⟩:=hs.value;obtain⟨c0,c1,c2,f0,f1,f2⟩:=h.box.c3f;clear h hs;by_cases h1:l.length>48
 ·rw[Φ h1,Φ h1]
  have hi:(48:Int)<(l.length:Int):=U;go_enter func183,ntmps183;go_wp2;go_ret;exact⟨rfl,rfl⟩
 ·rw[η h1,η h1]
  have hi:¬(48:Int)<(l.length:Int):=U;go_enter func183,ntmps183;go_wp2;go_ret;exact⟨rfl,rfl⟩
theorem Vl(h:dp w FJ sb b p tv σ):
  Calls prog 54 #[au sb] w fun e w'=>e=.returned (.int .i64 σ.begin.2)∧dp w' FJ sb b p tv σ.begin.1∧(w'=w∨∃v,w'=w.setCell ⟨sb,1,none⟩ v):=by
 obtain⟨c0,c1,c2,f0,f1,f2⟩:=h.box.c3f;obtain⟨j0,_⟩:=h.jr.box.c8;obtain⟨lv,pv,hd⟩:=h.jr.dev;obtain⟨d0,d1,d2,d3,_⟩:=hd.box.c4;have lW:σ.dead=σ.j.d.dead:=rfl;have hs:σ.state false=if σ.j.d.dead=true then 4 else if σ.open_=false then 0 else 15:=rfl
 cases qE:σ.j.d.dead with
 | true =>
  rw[qE,Φ rfl] at hs;have hb:σ.begin=(σ,4):=by unfold StL.begin;rw[hs,Φ Z]
  rw[hb];rw[qE] at d3;have H:=Hd h;clear h hd hs hb lW qE;go_enter func54,ntmps54;go_wp2;go_ret;exact⟨rfl,H.out,.inl rfl⟩
 | false =>
  rw[qE,η Z] at hs;rw[qE] at d3;cases Pk:σ.open_ with
  | true =>
   rw[Pk,η Z] at hs;have hb:σ.begin=(σ,15):=by unfold StL.begin;rw[hs,Φ Z]
   rw[hb];rw[Pk] at c1;have H:=Hd h;clear h hd hs hb lW qE Pk;go_enter func54,ntmps54;go_wp2;go_ret;exact⟨rfl,H.out,.inl rfl⟩
  | false =>
   rw[Pk,Φ rfl] at hs;have hb:σ.begin=({ σ with open_:=true,was:=σ.ai },0):=by unfold StL.begin;rw[hs,η Z]
   rw[hb];rw[Pk] at c1;have H:=Hd ((h.mi true).congr (τ:={ σ with open_:=true,was:=σ.ai }) rfl rfl rfl);clear h hd hs hb lW qE Pk;go_enter func54,ntmps54;go_wp2;go_ret;exact⟨rfl,H.out,.inr ⟨_,rfl⟩⟩
theorem Jo(h:dp w FJ sb b p tv σ):
  Calls prog 111 #[au sb] w fun e w'=>e=.returned (.tuple #[])∧w'=(w.setCell ⟨sb,1,none⟩ (.bool false)).setCell ⟨sb,2,none⟩ (.slice none 0 0):=by
 obtain⟨c0,c1,c2,f0,f1,f2⟩:=h.box.c3f;have h1:=(h.mi false).box.c3f;obtain⟨e0,e1,e2,g0,g1,g2⟩:=h1;clear h;go_enter func111,ntmps111;go_wp2;go_end0;exact⟨rfl,rfl⟩
theorem dp.shut(h:dp w FJ sb b p tv σ):dp ((w.setCell ⟨sb,1,none⟩ (.bool false)).setCell ⟨sb,2,none⟩ (.slice none 0 0)) FJ sb b p (.slice none 0 0) { σ with open_:=false,tx:=[] } :=
 ((h.mi false).Ft (.slice none 0 0) [] ⟨Sl.nil _ _,fun hn=>absurd hn (TE 0)⟩)
theorem fY.data(hk:fY σ)(hd:σ.dead=false):(∀i,i<σ.n→(σ.get i).length=256)∧σ.j.d.p.length≤1000000∧l8 σ.tx∧σ.tx.length≤1000:=by
 obtain⟨jn,ju,jh,ht,hl,hr,hg⟩:=hk.num.num hd;refine⟨fun i hi=>?_,LS (jn.eJ hd) Z,hr,U⟩
 unfold StL.get;by_cases hx:∃x∈σ.tx,x.1=i
 ·obtain⟨x,sJ,mh,hx3⟩:=sQ σ.tx i (σ.j.d.get i) hx
  rw[hx3];exact(ht x sJ).2.2
 ·rw[dM _ _ _ (fun x mh e=>hx ⟨x,mh,e⟩)]
  exact hg i hi
theorem AA(h:dp w FJ sb b p tv σ)(hk:fY σ)(hd:σ.dead=false):
  Calls prog 103 #[au sb] w fun e w'=>e=.returned (ah σ.ai)∧Q w w':=by
 obtain⟨h1,h2,h3,h4⟩:=hk.data hd;have:=Lx h hk.num.big hk.num.max hd h2 h3 h4 h1;rw[hk.bits hd] at this;exact this
theorem Ya(h:dp w FJ sb b p tv σ)(hk:fY σ)(i:Int):
  Calls prog 117 #[au sb,.int .i64 i] w fun e w'=>e=.returned (.tuple #[ah (σ.read i).1,.int .i64 (σ.read i).2])∧Q w w':=by
 obtain⟨c0,c1,c2,f0,f1,f2⟩:=h.box.c3f;obtain⟨j0,_⟩:=h.jr.box.c8;obtain⟨lv,pv,hd⟩:=h.jr.dev;obtain⟨d0,d1,d2,d3,_⟩:=hd.box.c4;have ho:=Oq h hk.num.max i;have HO:=Hd ho;cases qE:σ.j.d.dead with
 | true =>
  have hr:σ.read i=([],4):=by unfold StL.read;exact Φ qE
  rw[hr];rw[qE] at d3;clear h hd hr ho qE hk;go_enter func117,ntmps117;go_wp2_with fail;go_ret2;exact⟨rfl,Q.refl _⟩
 | false =>
  rw[qE] at d3;obtain⟨k1,k2,k3,k4⟩:=hk.data qE;cases gX:σ.cQ i with
  | false =>
   have hr:σ.read i=([],2):=by unfold StL.read;rw[η (by rw[show σ.dead=false from qE];decide),gX,η Z]
   rw[hr];rw[gX] at HO;clear h hd hr ho qE gX hk k1 k2 k3 k4;go_enter func117,ntmps117;go_wp2_with fail;refine HO.out.mono ?_;rintro e w1 ⟨rfl,rfl⟩;go_wp2_with fail;go_ret2;exact⟨rfl,Q.refl _⟩
  | true =>
   have hr:σ.read i=(σ.get i.toNat,0):=by unfold StL.read;rw[η (by rw[show σ.dead=false from qE];decide),gX,Φ rfl]
   rw[hr];rw[gX] at HO;have CX:(ak σ.n:Int)≤i∧i<(σ.n:Int):=Re gX;have iG:=EN h hk.num.max qE k2 k3 k4 i.toNat U;rw[show((i.toNat:Nat):Int)=i by omega] at iG
   have rJ:=Hd iG;clear h hd hr ho qE gX hk k1 k2 k3 k4 iG;generalize σ.get i.toNat=res at *;go_enter func117,ntmps117;go_wp2_with fail;refine HO.out.mono ?_;rintro e w1 ⟨rfl,rfl⟩;go_wp2_with fail;refine rJ.out.mono ?_;rintro e w1 ⟨rfl,q1⟩;have Q1:=Hd q1;clear q1;go_wp2_with fail;go_ret2;exact⟨rfl,Q1.out⟩
end
end
section
open Go.RowKit
theorem Yb(w:World)(F:Nat→Prop)(p b:Nat)(j:JL)(h:bp w F p b j)(hn:fW j)(lI:j.d.dead=false)(oP:2+j.s.log≤j.d.l.length)(hu:j.used≤j.s.log)(bQ:∀sq ws,eD (j.ahead (min (j.s.log-j.used) 49))=some (sq,ws)→sq=j.next→∀x∈ws,j.home≤x.1):
  Calls prog 175 #[au p] w fun e w'=>(∃v x,e=.returned (.tuple #[v,.int .i64 x,.bool j.frame.isSome])∧∀ws,j.frame=some ws→x=1+(ws.length:Int)∧w'.ownsRow w.heap.size 134 2 v ws.length (aN ws))∧Q w w':=by
 obtain⟨i0,hi,bY,bB,aW⟩:=info_parts NM;obtain⟨n,kT⟩:∃n:Nat,n=min (j.s.log-j.used) 49:=⟨_,rfl⟩;rw[←kT] at bQ;have ajh:=Hd bQ;clear bQ;have bW:∀k,2≤j.place k∧j.place k<j.d.l.length:=fun k=>by
  have:=gG j.s (j.used+k) hn.log;unfold JL.place;omega
 have dz:∀k,j.d.read ((j.place k:Nat):Int)=(j.d.get (j.place k),0):=fun k=>by
  unfold af.read;rw[af.gC lI _ (bW k).2,Φ rfl];rfl
 have ET:∀s∈j.ahead n,s.length=256:=fun s hs=>by
  obtain⟨i,_,rfl⟩:=MD.1 hs;exact af.gh hn.ok _ (bW i).2
 have dQ:j.frame=match eD (j.ahead n) with
   | some (seq,ws)=>if seq=j.next∧∀w∈ws,j.home≤w.1∧w.1<j.d.l.length then some ws else none
   | none=>none:=by unfold JL.frame JL.ahead;rw[kT];rfl
 have cpl:=fun (W:World) (hq:Q w W) (k:Nat) (hk:k≤100)=>(show Calls prog 244 #[au p,.int .i64 (IntKind.i64.wrap ((j.used:Int)+(k:Int)))] W fun e w'=>e=.returned (.int .i64 (j.place k:Nat))∧Q W w' from by
  rw[IntWalk.i64_in _ (by have:=hn.used;omega),show(j.used:Int)+(k:Int)=((j.used+k:Nat):Int) by omega]
  exact Ay W p b j (j.used+k) (h.keep hq).box hn.log hn.log2 hn.place (by have:=hn.used;omega))
 have crd:=fun (W:World) (hq:Q w W) (k:Nat)=>GD W F b j.d (j.place k:Nat) (h.keep hq).dev hn.ok.max (fun hx=>by have:=hn.eJ hx;omega)
 have chm:=fun (W:World) (hq:Q w W)=>Og W p b j (h.keep hq).box hn.log2
 have cun:=fun (W:World) (base:Nat) (lv:Value) (hv:W.ownsRow base 9 1 lv n ((j.ahead n).map ah))=>Vi W base lv (j.ahead n) (by rw[j.gA];exact hv) (by rw[j.gA];omega) ET
 have has:=j.lm;obtain⟨c0,c1,c2,c3,c4,c5,c6,c7⟩:=h.box.c8;have Sk:=Hd cpl;have CRD:=Hd crd;have CHM:=Hd chm;have Zo:=Hd cun;have HAS:=Hd has;have pY:=Hd dQ;have iO:=Hd dz;have HJ:=Hd h;have HN:=Hd hn;have cH:=hn.log2;have pO:=hn.used;obtain⟨lf,hlf⟩:∃lf:Nat,lf=j.s.log-j.used:=⟨_,rfl⟩;have jB:IntKind.i64.wrap ((j.s.log:Int)-(j.used:Int))=(lf:Int):=by rw[IntWalk.i64_in _ U];omega
 have afe:(j.s.log:Int)-(j.used:Int)=(lf:Int):=U;have aik:n≤49:=U;have am7:n≤lf:=U;have am8:n=lf∨n=49:=U;have aji:=Hd afe;clear cpl crd chm cun has dQ dz bW ET h hn kT afe hlf;go_enter func175,ntmps175;go_upto_region 1 with fail;go_region;all_goals
  (try rw[jB])
  (try rw[aji.out])
  clear jB c1 c2 c4 c5;have ji:Q w w.drew:=Q.drew w;have AJ:w.drew.ownsRow w.heap.size 9 1 (.slice none 0 0) 0 ((j.ahead 0).map ah):=World.ownsRow_nil _ _ _ _;go_wp2_with fail;go_loopw [6,7] (fun lv i wr=>∃k:Nat,i=.int .i64 (k:Nat)∧k≤n∧Hid (wr.ownsRow w.heap.size 9 1 lv k ((j.ahead k).map ah))∧Hid (Q w wr)) (fun _ i _=>n-(intOf i).toNat)
  case atStart=>exact⟨0,rfl,L0 _,AJ,ji⟩
  case round =>
   obtain⟨k,rfl,hk,HOW,HQ⟩:=hrel;by_cases ay:k<n
   ·have bq:(k:Int)<(lf:Int):=U
    have Dw:(k:Int)<49:=U;have x0:=aI HQ.out c0;have x7:=aI HQ.out c7;have Ag:=iO.out k;have Fu:=HAS.out k;have hc:=CRD.out;have Zp:=Hd (fun (W:World) (hq:Q w W)=>hc W hq k)
    rw[Ag] at Zp;have LZ:=Sk.out;have CPK:=Hd (fun (W:World) (hq:Q w W)=>LZ W hq k U)
    have HS:=Hd Fu;have KK:=Hd (Q.refl wr);clear Ag Fu hc LZ;generalize j.place k=plk at *;generalize j.d.get plk=gk at *;go_wp2_with fail;go_region_held3 (fun w'=>w'.cell? ⟨p,0,none⟩=some (au b)∧w'.cell? ⟨p,7,none⟩=some (.int .i64 (j.used:Nat)))
     (first|exact⟨x0,x7⟩|exact two δ x0 x7)
     (first
      | (go_at_call 244;with_reducible refine(CPK.out _ (HQ.out.trans ω)).mono ?_;rintro e w5 ⟨rfl,q5⟩;have s':Q wr w5:=Q.trans ω q5;clear KK;have KK:=Hd s';clear s' q5)
      | (go_at_call 173;with_reducible refine(Zp.out _ (HQ.out.trans ω)).mono ?_;rintro e w6 ⟨rfl,q6⟩;have s':Q wr w6:=Q.trans ω q6;clear KK;have KK:=Hd s';clear s' q6))
    all_goals
     have yh:=ownsRow_below HOW.out KK.out;have kJ:=HQ.out.trans KK.out;have cO:∀u∈#[ah gk].toList,u.oneCell'=true:=by intro u hu;simp at hu;subst hu;rfl
     have dI:(k+1)*16≤140737488355328:=U;have Af:=Hd yh;have jK:=Hd kJ;have vg:=Hd cO;have xI:=Hd dI;clear yh kJ cO dI x0 x7;go_wp2_with (at_builtin;refine bG w6 ρ _ _ 101 ρ w.heap.size 9 _ i0 (ah []) 1 16 underlying101 hi bY bB aW rfl Z Z _ _ _ ρ Af.out #[ah gk] ρ rfl vg.out xI.out jK.out.size ?_)
     intro g cap w7 hr hg ho nR nX;have wK:Q w w7:=bD jK.out Af.out hg (Ω _) jK.out.size;have nZ:w7.ownsRow w.heap.size 9 1 (.slice (some ⟨g,0,none⟩) (k+1) cap) (k+1) ((j.ahead (k+1)).map ah):=by rw[HS.out,N5];exact hr
     have OW:=Hd nZ;have lJ:=Hd wK;clear hr hg ho nZ wK;go_wp2_with fail;go_roundw;case rel=>exact⟨k+1,by go_num,U,OW,lJ⟩
     case measure=>simp[intOf];omega
   ·obtain rfl:k=n:=U
    have cun:=Zo.out wr w.heap.size u6 HOW.out;have CU:=Hd cun;clear cun;have y6:=aI HQ.out c6;have afN:(¬(k:Int)<(lf:Int))∨((k:Int)<(lf:Int)∧¬(k:Int)<49):=U;rcases afN with cO|⟨cO,dI⟩;all_goals
     go_wp2_with fail;refine CU.out.mono ?_;rintro e w1 ⟨⟨a,v,x,rfl,sJ,mh⟩,q1⟩;have pR:=HQ.out.trans q1;have z6:=aI q1 y6;have dF:=Hd pR;have xX:wr.heap.size≥w.heap.size:=HQ.out.size;have HZL:=Hd xX;clear q1 pR y6 xX;cases nk:eD (j.ahead k) with
     | none =>
      have hx:=sJ nk;have bI:j.frame=none:=by rw[pY.out,nk]
      have ex:(x==0)=false:=Γ.2 hx;have dY:=Hd bI;have hx0:¬x=0:=hx;clear sJ mh nk hx bI;go_wp2_with fail;go_ret3;exact⟨⟨_,_,by rw[dY.out];rfl,fun ws hw=>by rw[dY.out] at hw;exact absurd hw κ⟩,dF.out⟩
     | some r =>
      obtain⟨sq,ws⟩:=r;obtain⟨rfl,rfl,dP⟩:=mh sq ws nk;have qP:=ajh.out sq ws nk;have BH:=Hd qP;clear qP;have dQ:=pY.out;rw[nk] at dQ;simp only at dQ;have D9:=(IZ nk).1;obtain⟨va,vc,rfl,Hu⟩:=aY dP;have Tm:=Hd dQ;have lu:=Hd dP;clear sJ mh nk dQ dP;by_cases Sj:sq=j.next;case neg =>
       have bI:j.frame=none:=by rw[Tm.out,η (fun h=>Sj h.1)]
       have es:((sq:Int)==(j.next:Int))=false:=Γ.2 U;have dY:=Hd bI;clear bI Sj;go_wp2_with fail;go_ret3;exact⟨⟨_,_,by rw[dY.out];rfl,fun ws hw=>by rw[dY.out] at hw;exact absurd hw κ⟩,dF.out⟩
      subst Sj;have aP:∀m (hm:m<ws.length),∃g,va=some ⟨g,0,none⟩∧w1.cell? ⟨g,m*2,none⟩=some (.int .i64 (ws[m].1:Nat)):=fun m hm=>by
       obtain⟨g,rfl⟩:=Hu U;exact⟨g,rfl,iy (Sl.cx lu.out) U (m*2) _ (fQ ws m hm).1⟩
      have HC:=Hd aP;clear aP Hu;go_wp2_with fail;go_loopw [13] (fun iv wr2=>∃m:Nat,iv=.int .i64 (m:Nat)∧m≤ws.length∧Hid (∀i (hi:i<ws.length),i<m→j.home≤ws[i].1∧ws[i].1<j.d.l.length)∧Hid (Q w1 wr2)) (fun iv _=>ws.length-(intOf iv).toNat)
      case atStart=>exact⟨0,rfl,L0 _,Hd (fun i hi h=>U),Hd (Q.refl _)⟩
      case round =>
       obtain⟨m,rfl,hm,aff,Pt⟩:=hrel;have El:=HJ.out.keep (dF.out.trans Pt.out);obtain⟨d0,_⟩:=El.box.c8;by_cases nX:m<ws.length
       ·have Tz:(m:Int)<(ws.length:Int):=U
        obtain⟨g,rfl,x1⟩:=HC.out m nX;have y1:=aI Pt.out x1;obtain⟨dlv,dpv,Ai⟩:=El.dev;obtain⟨dla,dlc,rfl,-⟩:=Ai.gt;obtain⟨z0,_⟩:=Ai.box.c4;have KK:=Hd (Q.refl wr);have nM:∀(hb1:j.home≤ws[m].1) (bN:ws[m].1<j.d.l.length),∀i (hi:i<ws.length),i<m+1→j.home≤ws[i].1∧ws[i].1<j.d.l.length:=fun hb1 bN i hi h=>by
         by_cases he:i=m
         ·subst he;exact⟨hb1,bN⟩
         ·exact aff.out i hi U
        have acp:¬(j.home≤ws[m].1∧ws[m].1<j.d.l.length)→j.frame=none:=fun hb=>by
         rw[Tm.out,η];exact fun h=>hb (h.2 _ (LO nX))
        have vU:=Hd nM;have YW:=Hd acp;clear Ai El x1 nM acp;have afg:=BH.out (by first|rfl|trivial) _ (LO nX)
        have ajj:=Hd afg;clear afg;generalize ws[m].1=bk at *;generalize hdn:j.d.l.length=dn at *;generalize hhm:j.home=hm at *;by_cases hb1:bk<hm
        ·exact absurd hb1 (by have:=ajj.out;omega)
        ·have e1:decide ((bk:Int)<(hm:Int))=false:=Mz U
         have e1n:decide (bk<hm)=false:=Mz hb1;by_cases bN:bk<dn
         ·have e2:decide ((dn:Int)≤(bk:Int))=false:=Mz U
          have e2n:decide (dn≤bk)=false:=Mz U;have rT:=vU.out U bN;have zK:=Hd rT;clear rT;go_wp2_with fail
          (go_region_held3 (fun w'=>w'.cell? ⟨p,0,none⟩=some (au b)∧w'.cell? ⟨b,0,none⟩=some (.slice dla dn dlc)∧w'.cell? ⟨g,m*2,none⟩=some (.int .i64 (bk:Nat)))
           (first|exact⟨d0,z0,y1⟩|exact three δ d0 z0 y1)
           (first
           | (go_at_call 178;with_reducible refine(CHM.out _ (dF.out.trans (Pt.out.trans ω))).mono ?_;rintro e w2 ⟨rfl,rfl⟩)))
          all_goals
           have HQD:=Hd (Pt.out.trans (show Q wr _ from(by repeat (first|with_reducible exact KK.out|with_reducible exact Q.refl _|with_reducible apply Qs.dr|with_reducible apply Qs.al):Q wr wr.drew)))
           clear y1 z0 d0 vU YW;go_wp2_with fail;go_roundw;case rel=>exact⟨m+1,by go_num,U,zK,HQD⟩
           case measure=>simp[intOf];omega
         ·have e2:decide ((dn:Int)≤(bk:Int))=true:=MM U
          have e2n:decide (dn≤bk)=true:=MM U;have bI:=YW.out (fun h=>U)
          go_wp2_with fail
          (go_region_held3 (fun w'=>w'.cell? ⟨p,0,none⟩=some (au b)∧w'.cell? ⟨b,0,none⟩=some (.slice dla dn dlc)∧w'.cell? ⟨g,m*2,none⟩=some (.int .i64 (bk:Nat)))
           (first|exact⟨d0,z0,y1⟩|exact three δ d0 z0 y1)
           (first
           | (go_at_call 178;with_reducible refine(CHM.out _ (dF.out.trans (Pt.out.trans ω))).mono ?_;rintro e w2 ⟨rfl,rfl⟩)))
          all_goals
           have dY:=Hd bI;clear bI y1 z0 d0 vU YW;go_wp2_with fail;go_ret3;exact⟨⟨_,_,by rw[dY.out];rfl,fun ws hw=>by rw[dY.out] at hw;exact absurd hw κ⟩,dF.out.trans (Pt.out.trans δ)⟩
       ·have Tz:¬(m:Int)<(ws.length:Int):=U
        obtain rfl:m=ws.length:=U;have Sm:j.frame=some ws:=by
         rw[Tm.out,Φ];exact⟨by first|rfl|trivial,fun w hw=>by
          obtain⟨i,hi,rfl⟩:=PH hw;exact aff.out i hi hi⟩
        have hrw:=ownsRow_below lu.out Pt.out;have lq:=gT (base':=w.heap.size) hrw HZL.out;have afh:=Hd Sm;have ajk:=Hd lq;clear Sm hrw lq El d0;go_wp2_with fail;go_ret3;refine⟨⟨_,_,by rw[afh.out];rfl,fun ws' hw=>?_⟩,dF.out.trans Pt.out⟩
        rw[afh.out] at hw;injection hw with hw;subst hw;exact⟨rfl,ajk.out⟩
theorem qS{j:JL}{fr:List (List WrL)}(hl:50≤j.s.log)(hc:Chain j.d.l j.s j.used j.next fr)(hn:j.next<18446744073709551616)(hp:∀w∈j.d.p,2+j.s.log≤w.1):
  ∀sq ws,eD (j.ahead (min (j.s.log-j.used) 49))=some (sq,ws)→sq=j.next→∀x∈ws,j.home≤x.1:=by
 intro sq ws hu _;cases fr with
 | nil =>
  obtain⟨h1,h2⟩:=hc;obtain⟨m,hm⟩:∃m,min (j.s.log-j.used) 49=m+1:=⟨min (j.s.log-j.used) 49-1,U⟩;have e:eD (j.ahead (min (j.s.log-j.used) 49))=none:=by
   unfold JL.ahead;rw[hm,abm,No];refine IJ _ _ ?_;show(j.d.get (cV j.s (j.used+0))).drop 252≠du;rw[vW hp _ (gG j.s _ U).2];exact h2
  rw[e] at hu;exact absurd hu κ
 | cons ws0 fr =>
  obtain⟨h1,h2,h3,h4,_⟩:=hc;have hlen:(jG j.next ws0).length=ws0.length+1:=by simp[jG]
  obtain⟨r,hr⟩:=KH (fun i=>j.d.get (j.place i)) (jG j.next ws0) (min (j.s.log-j.used) 49) (by rw[hlen];have:=h1.2.1;omega) (fun i hi=>by
   show j.d.get (cV j.s (j.used+i))=_;rw[hlen] at hi;rw[vW hp _ (gG j.s _ U).2];exact h4 i U)
  unfold JL.ahead at hu;rw[hr,unpack_pack _ hn _ h1] at hu;simp only[M3,QR] at hu;obtain⟨_,rfl⟩:=hu;exact fun x hx=>(h2 x hx).1
theorem Mid.pend{lg K:Nat}{d:af}{j:JL}{s:bu}{k:Nat}{fr fr1 fr2:List (List WrL)}{C:Nat→Bytes}(h:jZ lg K d s k fr C)(dQ:fr=fr1++fr2)(M:Mid lg K d j s k fr1 fr2):∀w∈j.d.p,2+j.s.log≤w.1:=fun w hw=>by
 have hr:=h.hrec
 have cH:=h.cH
 rw[M.hs,cH]
 rw[M.hp] at hw
 rcases My.1 hw with hw|hw
 ·exact(h.pend w hw).1
 ·obtain⟨ws,hws,RB⟩:=List.mem_flatten.1 hw
  have:=(hr.hchain.ok ws (by rw[dQ];exact Xs _ hws)).2 w RB
  omega
theorem Mid.step{lg K:Nat}{d:af}{j:JL}{s:bu}{k:Nat}{fr fr1 fr2:List (List WrL)}{C:Nat→Bytes}{ws:List WrL}(h:jZ lg K d s k fr C)(hK:K+3<18446744073709551616)(dQ:fr=fr1++ws::fr2)(M:Mid lg K d j s k fr1 (ws::fr2))(hz:(j.d.writes ws).2=0):Mid lg K d ({ j with d:=(j.d.writes ws).1 }.advance ws.length) s k (fr1++[ws]) fr2:=by
 have hc:=M.hc;have kr:=h.hs;have hlen:fr.length=fr1.length+(fr2.length+1):=by rw[dQ,Δ,Θ]
 have hw:∀w∈ws,w.1<j.d.l.length∧w.2.length=256:=fun w hx=>⟨by rw[M.hl];exact(hc.2.1 w hx).2,(hc.1.2.2 w hx).2⟩
 rcases af.gE ws j.d M.live hw with ⟨a,b,c,e⟩|⟨a,_⟩
 ·refine⟨af.eN M.ok ws,b,c.trans M.hl,?_,M.hs,M.hk,?_,?_,?_,fun hf=>(af.hQ ws j.d M.live (M.hf hf) hw).2⟩
  ·show(j.d.writes ws).1.p=_
   rw[e,M.hp,sU,Mm]
  ·show(j.next+1)%_=_
   rw[M.hn,Δ,PR,OS U];omega
  ·show j.used+ws.length+1=_
   rw[wT,M.hu]
  ·rw[wT,Δ,PR]
   exact hc.2.2.2.2
 ·rw[a] at hz;exact absurd hz Z
theorem Mid.frame{lg K:Nat}{d:af}{j:JL}{s:bu}{k:Nat}{fr fr1 fr2:List (List WrL)}{C:Nat→Bytes}(h:jZ lg K d s k fr C)(hK:K+3<18446744073709551616)(dQ:fr=fr1++fr2)(M:Mid lg K d j s k fr1 fr2){ws:List WrL}(hf:j.frame=some ws):∃fr3,fr2=ws::fr3:=by
 have hp:=Mid.pend h dQ M;have hl:50≤j.s.log:=by rw[M.hs];exact h.hrec.ef
 have hc:Chain j.d.l j.s j.used j.next fr2:=by rw[M.hl,M.hs,M.hu,M.hn];exact M.hc
 have kr:=h.hs;have hlen:fr.length=fr1.length+fr2.length:=by rw[dQ,Δ]
 cases fr2 with
 | nil=>rw[Nc hl hc hp] at hf;exact absurd hf κ
 | cons x fr3 =>
  rw[KJ hl hc (by rw[M.hn];rw[Θ] at hlen;omega) hp] at hf
  injection hf with hf;exact⟨fr3,by rw[hf]⟩
def AB(d:af):Nat→Option (bu×Nat)
 | 0=>none
 | 1=>(aR (d.get 1) d.l.length).map fun s=>(s,1)
 | _+2=>match aR (d.get 0) d.l.length with
  | none=>(aR (d.get 1) d.l.length).map fun s=>(s,1)
  | some s=>match aR (d.get 1) d.l.length with
   | none=>some (s,0)
   | some r=>if r.e≤s.e then some (s,0) else some (r,1)
theorem Rt(d:af):AB d 2=Eo (aR (d.get 0) d.l.length) (aR (d.get 1) d.l.length):=by
 show(match aR (d.get 0) d.l.length with
  | none=>(aR (d.get 1) d.l.length).map fun s=>(s,1)
  | some s=>match aR (d.get 1) d.l.length with
   | none=>some (s,0)
   | some r=>if r.e≤s.e then some (s,0) else some (r,1))=_
 cases aR (d.get 0) d.l.length with
 | none=>cases aR (d.get 1) d.l.length<;>rfl
 | some a =>
  cases aR (d.get 1) d.l.length with
  | none=>rfl
  | some c =>
   simp only[Eo];by_cases h:c.e≤a.e
   ·rw[Φ h,η U]
   ·rw[η h,Φ U]
theorem Yc(d:af)(k m:Nat)(h:m+k=1):AB d (k+1)=match aR (d.get m) d.l.length with
  | none=>AB d k
  | some s=>match AB d k with
   | none=>some (s,m)
   | some (r,i)=>if r.e≤s.e then some (s,m) else some (r,i):=by
 rcases (by omega:(k=0∧m=1)∨(k=1∧m=0)) with ⟨rfl,rfl⟩|⟨rfl,rfl⟩
 ·show(aR (d.get 1) d.l.length).map (fun s=>(s,1))=_
  cases aR (d.get 1) d.l.length<;>rfl
 ·show(match aR (d.get 0) d.l.length with
   | none=>(aR (d.get 1) d.l.length).map fun s=>(s,1)
   | some s=>match aR (d.get 1) d.l.length with
    | none=>some (s,0)
    | some r=>if r.e≤s.e then some (s,0) else some (r,1))=_
  have e1:AB d 1=(aR (d.get 1) d.l.length).map fun s=>(s,1):=rfl
  rw[e1];cases aR (d.get 0) d.l.length<;>cases aR (d.get 1) d.l.length<;>rfl
def Kk(w:World)(F:Nat→Prop)(b:Nat)(d:af)(e:Ending)(w':World):Prop :=
 ae F w w'∧(((aL d).2=0∧∃p,e=.returned (.tuple #[au p,.int .i64 0])∧bp w' (grow F w w') p b (aL d).1) ∨
  ((aL d).2≠0∧e=.returned (.tuple #[.pointer none,.int .i64 (aL d).2])∧cn w' (grow F w w') b (aL d).1.d))
theorem wn(cs:Array Value)(b:Nat)(s1:bu)(k:Nat)(h0:cs.size=8)(h1:cs[0]?=some (au b))(h2:cs[6]?=some (.int .u64 0))(h3:cs[7]?=some (.int .i64 0)):((((cs.setIfInBounds 1 (.int .u64 (s1.e:Nat))).setIfInBounds 2 (.int .u64 (s1.s:Nat))).setIfInBounds 3 (.int .i64 (s1.log:Nat))).setIfInBounds 4 (.int .i64 (s1.place:Nat))).setIfInBounds 5 (.int .i64 (k:Nat))=sj b (some (s1,k)):=by
 obtain⟨l⟩:=cs;match l,h0,h1,h2,h3 with
 | [a0,a1,a2,a3,a4,a5,a6,a7],_,h2,h3,h4 =>
  simp at h2 h3 h4;subst h2 h3 h4;rfl
theorem LB(w:World)(F:Nat→Prop)(b:Nat)(d:af)(h:cn w F b d)(hF:∀k,F k→k<w.heap.size){K:Nat}{s:bu}{kk:Nat}{fr:List (List WrL)}{C:Nat→Bytes}(fB:jZ 60 K d s kk fr C)(hK:K+3<18446744073709551616)(hp:d.p.length≤800000)(h2:2≤d.l.length):
  Calls prog 97 #[au b] w fun e w'=>Kk w F b d e w':=by
 have dS:=fB.live;have hd:=fB.ok;have hr:=fun (W:World) (hq:Q w W) (k:Nat)=>GD W F b d (k:Nat) (h.keep hq) hd.max (fun _=>U)
 have he:∀k:Nat,k<2→d.read (k:Nat)=(d.get k,0):=fun k hk=>by unfold af.read;rw[af.gC dS k U,Φ rfl];rfl
 have pV:∀k:Nat,k<2→(d.get k).length=256:=fun k hk=>af.gh hd k U
 have mR:=fun (k:Nat) (hk:k<2) (W:World)=>X6 (d.get k) d.l.length (pV k hk) hd.max W
 obtain⟨lv,pv,Ai⟩:=h;obtain⟨la,lc,rfl,_⟩:=Ai.gt;obtain⟨d0,d1,d2,d3,_⟩:=Ai.box.c4;rw[dS] at d3;have HR:=Hd hr;have HE:=Hd he;have wL:=Hd mR;have HD:=Hd (And.intro (show cn w F b d from⟨_,_,Ai⟩) (And.intro hF (And.intro fB hK)))
 have mG:¬(d.l.length:Int)≤1:=U;have uX:¬(d.l.length:Int)≤0:=U;clear hr he pV mR hF hd fB hK Ai dS d1 d2;go_enter func97,ntmps97;go_wp2_with fail;have KA:Blk (w.alloc (.cells (sj b none) 174)) w.heap.size 174 (sj b none):=Blk.new w _ _;have ji:Q w (w.alloc (.cells (sj b none) 174)):=Q.alloc _ _;simp only[sj] at KA ji;have Tc:=Hd KA;have mF:=Hd ji;clear KA ji;go_loopw [5] (fun v wr=>∃k:Nat,v=.int .i64 (1-(k:Int))∧k≤2∧Hid (Blk wr w.heap.size 174 (sj b (AB d k)))∧Hid (Q w wr)) (fun v _=>(intOf v+1).toNat)
 case atStart=>exact⟨0,by go_num,U,Tc,mF⟩
 case round =>
  obtain⟨k,rfl,hk,ou,HQ⟩:=hrel;by_cases ay:k<2
  ·obtain⟨m,hm⟩:∃m:Nat,m+k=1:=⟨1-k,U⟩
   have Tz:(1:Int)-(k:Int)=(m:Int):=U;have hmn:1-((k+1:Nat):Int)=(m:Int)-1:=U;have HMN:=Hd hmn;have kF:m≤1:=U;have eO:IntKind.i64.wrap ((m:Int)-1)=(m:Int)-1:=IntWalk.i64_in _ U;rw[Tz];have JH:(0:Int)≤(m:Int):=U;have iU:¬(d.l.length:Int)≤(m:Int):=U;have Ag:=HR.out wr HQ.out m;rw[HE.out m U] at Ag;have kH:=wL.out m U;have Zz:=Hd Ag;have Ad:=Hd kH;have gU:=Yc d k m hm;have qB:=Hd gU;have z0:=aI HQ.out d0;clear Ag kH gU Tz hmn hm;generalize d.get m=tk at *;generalize aR tk d.l.length=rk at *;generalize fV:AB d k=pk at *;generalize Td:AB d (k+1)=pk1 at *;have kY:=Hd Td;clear Td;go_wp2_with fail;refine Zz.out.mono ?_;rintro e w3 ⟨rfl,q3⟩;have fu:=Hd (HQ.out.trans q3);have aaG:=Hd (ou.out.stays q3);have z3:=aI q3 z0;clear q3;go_wp2_with fail;refine(Ad.out _).mono ?_;rintro e w4 ⟨⟨s0,rfl,wO⟩,q4⟩;have lH:=Hd (fu.out.trans q4);have Te:=Hd (aaG.out.stays q4);have CJ:=Hd wO;have z4:=aI q4 z3;clear q4 wO;cases rk with
   | none =>
    have gU:=qB.out;simp only[] at gU;subst gU;go_wp2_with fail;go_quiet (fail);go_wp2_with fail;go_roundw;case rel=>exact⟨k+1,by rw[HMN.out],U,Hd (by rw[kY.out];exact Te.out.stays ((Q.alloc _ _).trans (Q.drewN _ _))),Hd ((Qs.al lH.out _).trans (Q.drewN _ _))⟩
    case measure=>simp[intOf]
   | some s1 =>
    obtain rfl:=CJ.out s1 rfl;have gU:=qB.out;simp only[] at gU;have sN:=Te.out;have bX:=Blk.new w4 172 #[.int .u64 (s1.e:Nat),.int .u64 (s1.s:Nat),.int .i64 (s1.log:Nat),.int .i64 (s1.place:Nat)];have kJ:Q w4 (w4.alloc (.cells #[.int .u64 (s1.e:Nat),.int .u64 (s1.s:Nat),.int .i64 (s1.log:Nat),.int .i64 (s1.place:Nat)] 172)):=Q.alloc _ _;have gY:=sN.stays kJ;have jK:=Hd (lH.out.trans kJ);have wM:=Hd gY;cases pk with
    | none =>
     obtain⟨x0,x1,x2,x3,_⟩:=bX.c4;obtain⟨c0,c1,c2,c3,c4,c5,c6,c7⟩:=Blk.c8 gY;have f1:=gY.frozen 1;have f2:=gY.frozen 2;have f3:=gY.frozen 3;have f4:=gY.frozen 4;have f5:=gY.frozen 5;simp only[] at gU;subst gU;go_wp2_with fail;generalize wJ:(w4.alloc (.cells #[.int .u64 (s1.e:Nat),.int .u64 (s1.s:Nat),.int .i64 (s1.log:Nat),.int .i64 (s1.place:Nat)] 172))=w5 at *;clear bX wJ sN kJ gY;go_quiet (fail);go_wp2_with fail;go_roundw;case rel =>
      refine⟨k+1,by rw[HMN.out],U,Hd ?_,Hd (Qs.st (Qs.st (Qs.st (Qs.st (Qs.st (jK.out.trans (Q.drewN _ _)) _ _ (Ω _)) _ _ (Ω _)) _ _ (Ω _)) _ _ (Ω _)) _ _ (Ω _))⟩
      rw[kY.out,←wn (sj b none) b s1 m rfl rfl rfl rfl];exact(((((wM.out.stays (Q.drewN _ _):Blk _ w.heap.size 174 (sj b none)).set 1 _).set 2 _).set 3 _).set 4 _).set 5 _
     case measure=>simp[intOf]
    | some ri =>
     obtain⟨r,i⟩:=ri;simp only[] at gU;obtain⟨x0,x1,x2,x3,_⟩:=bX.c4;obtain⟨c0,c1,c2,c3,c4,c5,c6,c7⟩:=Blk.c8 gY;have f1:=gY.frozen 1;have f2:=gY.frozen 2;have f3:=gY.frozen 3;have f4:=gY.frozen 4;have f5:=gY.frozen 5;have qL:¬((i:Nat):Int)<0:=U;have am9:decide (((i:Nat):Int)<0)=false:=Mz qL;go_wp2_with fail;generalize wJ:(w4.alloc (.cells #[.int .u64 (s1.e:Nat),.int .u64 (s1.s:Nat),.int .i64 (s1.log:Nat),.int .i64 (s1.place:Nat)] 172))=w5 at *;clear bX wJ sN kJ gY;by_cases nX:r.e≤s1.e
     ·have fF:decide (((r.e:Nat):Int)≤((s1.e:Nat):Int))=true:=MM U
      have nL:decide (r.e≤s1.e)=true:=MM nX;rw[Φ nX] at gU;subst gU;go_quiet (fail);go_wp2_with fail;go_roundw;case rel =>
       refine⟨k+1,by rw[HMN.out],U,Hd ?_,Hd (Qs.st (Qs.st (Qs.st (Qs.st (Qs.st (jK.out.trans (Q.drewN _ _)) _ _ (Ω _)) _ _ (Ω _)) _ _ (Ω _)) _ _ (Ω _)) _ _ (Ω _))⟩
       rw[kY.out,←wn (sj b (some (r,i))) b s1 m rfl rfl rfl rfl];exact(((((wM.out.stays (Q.drewN _ _):Blk _ w.heap.size 174 (sj b (some (r,i)))).set 1 _).set 2 _).set 3 _).set 4 _).set 5 _
      case measure=>simp[intOf]
     ·have fF:decide (((r.e:Nat):Int)≤((s1.e:Nat):Int))=false:=Mz U
      have nL:decide (r.e≤s1.e)=false:=Mz nX;rw[η nX] at gU;subst gU;go_quiet (fail);go_wp2_with fail;go_roundw;case rel=>exact⟨k+1,by rw[HMN.out],U,Hd (by rw[kY.out];exact wM.out.stays (Q.drewN _ _)),Hd (jK.out.trans (Q.drewN _ _))⟩
      case measure=>simp[intOf]
  ·obtain rfl:k=2:=U
   have TA:(1:Int)-((2:Nat):Int) = -1:=Z;rw[TA];clear TA ay hk HE wL HR Tc mF mG uX d0 d3;obtain⟨xJ,hF,fB,hK⟩:=HD.out;have hr:=fB.hrec;have cH:=fB.cH;have fV:AB d 2=some (s,kk):=by
    rw[Rt,vW (fun w hw=>(fB.pend w hw).1) 0 U,vW (fun w hw=>(fB.pend w hw).1) 1 U]
    exact hr.pick
   have aa6:aL d=if (JL.cY (s.log+1) ⟨d,s,kk,s.s,0⟩).2=0 then(JL.cY (s.log+1) ⟨d,s,kk,s.s,0⟩).1.cz else JL.cY (s.log+1) ⟨d,s,kk,s.s,0⟩:=by
    unfold aL;rw[fB.live,η Z,←Rt,fV]
   have hb:=ou.out;rw[fV] at hb;obtain⟨c0,c1,c2,c3,c4,c5,c6,c7⟩:=Blk.c8 hb;have f6:=hb.frozen 6;have yx:=hr.ef;have fT:=hr.cH;have bW:=hr.eV;have ig:=hr.ok.1;obtain⟨j0,Bn⟩:∃j0:JL,j0=⟨d,s,kk,s.s,0⟩:=⟨_,rfl⟩;rw[←Bn] at aa6;have bN:Blk (wr.setCell ⟨w.heap.size,6,none⟩ (.int .u64 (s.s:Nat))) w.heap.size 174 (jd b j0):=by rw[Bn];exact hb.set 6 _
   have eG:Q w (wr.setCell ⟨w.heap.size,6,none⟩ (.int .u64 (s.s:Nat))):=Qs.st HQ.out _ _ (Ω _);have hj:bp (wr.setCell ⟨w.heap.size,6,none⟩ (.int .u64 (s.s:Nat))) (grow F w (wr.setCell ⟨w.heap.size,6,none⟩ (.int .u64 (s.s:Nat)))) w.heap.size b j0:=by
    refine⟨bN,.inr ⟨Ω _,bN.lt⟩,by rw[Bn];exact(xJ.keep eG).mono (fun k hk=>.inl hk),fun k hk=>?_⟩
    rcases hk with hk|hk
    ·have:=hF k hk;have:=eG.size;omega
    ·exact hk.2
   have bQ:JOk s d.l.length 800000 j0:=by
    subst Bn;exact⟨rfl,fB.ok,fB.live,rfl,L0 _,by show s.s<_;have:=fB.hs;omega,hr.hk,by show d.p.length≤_;omega⟩
   have pO:mM (wr.setCell ⟨w.heap.size,6,none⟩ (.int .u64 (s.s:Nat))) w.heap.size=j0.used:=by
    unfold mM;rw[bN.cell 7 (.int .i64 (j0.used:Nat)) rfl];simp
   have afi:Mid 60 K d j0 s kk [] fr:=by
    subst Bn;exact⟨fB.ok,fB.live,rfl,κ,rfl,rfl,κ,rfl,hr.hchain,fun h=>h⟩
   have qL:¬((kk:Nat):Int)<0:=U;have vB:=Hd aa6;have HJ:=Hd hj;have pq:=Hd bQ;have HT:=Hd (ae.br (own:=F) eG);have aaH:=Hd (And.intro yx (And.intro fT (And.intro bW ig)));have YX:=Hd fB;have Zd:=Hd hK;have ajl:=Hd afi;have xM:=Hd hF;have Tf:=Hd (show mM _ _=j0.used from pO)
   clear aa6 fV xJ hF fB hr cH hK yx fT bW ig hj bQ pO hb HD ou HQ afi h2 hp;go_wp2_with fail;generalize hwj:wr.setCell ⟨w.heap.size,6,none⟩ (.int .u64 (s.s:Nat))=wj at *;clear hwj bN eG c0 c1 c2 c3 c4 c5 c6 c7 f6 Bn;go_loopw [10] (fun _ wr=>∃(m:Nat) (j2:JL) (fr1 fr2:List (List WrL)),Hid (fr=fr1++fr2)∧Hid (Mid 60 K d j2 s kk fr1 fr2)∧Hid (JL.cY (s.log+1) j0=JL.cY m j2)∧Hid (s.log+1≤m+j2.used)∧Hid (bp wr (grow F w wr) w.heap.size b j2)∧Hid (ae F w wr)∧Hid (JOk s d.l.length 800000 j2)∧Hid (mM wr w.heap.size=j2.used)) (fun _ wr=>s.log+1-mM wr w.heap.size)
   case atStart=>exact⟨s.log+1,j0,[],fr,Hd rfl,ajl,Hd rfl,Hd U,HJ,HT,pq,Tf⟩
   case round =>
    obtain⟨m,j2,fr1,fr2,MC,Wp,Hw,LY,rM,fG,jY,VL⟩:=hrel;obtain⟨wo,rfl⟩:∃wo:World,wo=wr:=⟨_,rfl⟩;obtain⟨yx,fT,bW,ig⟩:=aaH.out;have uS:=jY.out.num yx fT bW ig (Ω _);have lI:=jY.out.live;have oP:2+j2.s.log≤j2.d.l.length:=by rw[jY.out.sl,jY.out.len];omega
    have pO:j2.used≤j2.s.log:=by rw[jY.out.sl];exact jY.out.used
    have hch:Chain j2.d.l j2.s j2.used j2.next fr2:=by have M:=Wp.out;rw[M.hl,M.hs,M.hu,M.hn];exact M.hc
    have lq:=qS (by rw[jY.out.sl];exact yx) hch jY.out.next (Mid.pend YX.out MC.out Wp.out)
    have dQ:=Yb wo (grow F w wo) w.heap.size b j2 rM.out uS lI oP pO lq;obtain⟨m',rfl⟩:∃m',m=m'+1:=⟨m-1,by have:=LY.out;have:=jY.out.used;omega⟩
    have pY:=Hd dQ;have FL:=Hd uS;clear yx fT bW ig uS lI oP pO dQ hch lq;cases hf:j2.frame with
    | none =>
     have iP:=Hw.out;rw[I4 hf] at iP;have fB:=vB.out;rw[iP,Φ rfl] at fB;have ck:=fun (W:World) (q:Q wo W)=>Om W (grow F w wo) w.heap.size b j2 (rM.out.keep q) FL.out
     have rA:=Hd fB;have CK:=Hd ck;rw[hf] at pY;clear iP fB ck hf;go_wp2_with fail;refine pY.out.mono ?_;rintro e w3 ⟨⟨v,x,rfl,-⟩,q3⟩;have fu:=Hd q3;clear q3;go_wp2_with fail;refine(CK.out _ fu.out).mono ?_;rintro e w4 ⟨rfl,h4,t4⟩;have ht:=fG.out.step ((ae.br fu.out).trans t4);have ZA:bp w4 (grow F w w4) w.heap.size b j2.cz.1:=h4.mono (fun k hk=>hk.elim (fun hk=>hk.elim .inl (fun hk=>.inr ⟨hk.1,Ψ hk.2 (LS fu.out.size t4.size)⟩)) (fun hk=>.inr ⟨LS fG.out.size (LS fu.out.size hk.1),hk.2⟩)) (fun k hk=>hk.elim (fun hk=>by have:=xM.out k hk;have:=ht.size;omega) (fun hk=>hk.2))
     have H4:=Hd ZA;have G8:=Hd ht;clear h4 t4 ht ZA;by_cases hz:j2.cz.2=0
     ·have hb:(j2.cz.2==0)=true:=MY.2 hz
      have HZ:=Hd hz;clear hz;go_wp2_with fail;go_ret2;refine⟨G8.out,.inl ⟨by rw[rA.out];exact HZ.out,_,rfl,?_⟩⟩
      rw[rA.out];exact H4.out
     ·have hb:(j2.cz.2==0)=false:=Γ.2 hz
      have HZ:=Hd hz;clear hz;go_wp2_with fail;go_ret2;refine⟨G8.out,.inr ⟨by rw[rA.out];exact HZ.out,by rw[rA.out];rfl,?_⟩⟩
      rw[rA.out];exact H4.out.dev
    | some ws =>
     obtain⟨fr3,Tj⟩:=Mid.frame YX.out Zd.out MC.out Wp.out hf;subst Tj;have iP:=Hw.out;rw[I5 hf] at iP;obtain⟨f1,f2,f3⟩:=EA hf;have Hy:=fun hz=>jY.out.adv hf hz
     have afj:=fun hz=>Mid.step YX.out Zd.out MC.out Wp.out hz
     have MW:fr=(fr1++[ws])++fr3:=by rw[MC.out,Mm];rfl
     have u7:j2.d.p.length≤900000:=FL.out.eJ jY.out.live;rw[hf] at pY;have nk:j2.used+ws.length+1≤s.log:=by have h1:=jY.out.sl;have:=jY.out.used;rw[h1] at f1;omega
     have cH:=FL.out.log2;have bX:=jY.out.sl;have D9:ws.length≤48:=Wp.out.hc.1.2.1;have qp:∀k (hk:k<ws.length),ws[k].2.length≤1000000:=fun k hk=>by have:=(f3 _ (LO hk)).2;omega
     have Hz:=Hd iP;have aaI:=Hd Hy;have VX:=Hd nk;have ajm:=Hd afj;have ajn:=Hd MW;have FE:=Hd qp;have Zl:=Hd u7;have FH:=Hd (show ∀k,grow F w wo k→k<wo.heap.size from rM.out.lt)
     clear hf iP f1 f2 f3 Hy u7 nk afj MW qp cH bX;go_wp2_with fail;refine pY.out.mono ?_;rintro e w3 ⟨⟨v,x,rfl,hv⟩,q3⟩;obtain⟨rfl,wQ⟩:=hv ws rfl;clear hv;obtain⟨va,vc,rfl,Hu⟩:=aY wQ;have aP:∀k (hk:k<ws.length),∃g,va=some ⟨g,0,none⟩∧g<w3.heap.size∧¬grow F w wo g∧w3.cell? ⟨g,k*2,none⟩=some (.int .i64 (ws[k].1:Nat))∧w3.cell? ⟨g,k*2+1,none⟩=some (ah ws[k].2):=fun k hk=>by
      obtain⟨g,rfl⟩:=Hu U;have hg:=wQ.lt g rfl;exact⟨g,rfl,hg.2,fun hc=>by have:=FH.out g hc;omega,iy (Sl.cx wQ) U (k*2) _ (fQ ws k hk).1,iy (Sl.cx wQ) U (k*2+1) _ (fQ ws k hk).2⟩
     have HC:=Hd aP;have fu:=Hd q3;have Ti:bp w3 (grow (grow F w wo) w3 w3) w.heap.size b { j2 with d:=j2.d }:=(rM.out.keep q3).mono (fun k hk=>.inl hk) (fun k hk=>hk.elim (fun hk=>(rM.out.keep q3).lt k hk) (fun hk=>hk.2))
     have Y9:=Hd Ti;have aaX:∀k,grow F w wo k→k<w3.heap.size:=fun k hk=>Ψ (FH.out k hk) q3.size
     have HL3:=Hd aaX;have ajo:=Hd FL.out.ok;clear aP wQ Hu q3 Ti aaX;go_wp2_with fail;go_loopw [13] (fun v wr2=>∃(k:Nat) (d2:af),v=.int .i64 (k:Nat)∧k≤ws.length∧Hid (j2.d.writes ws=d2.writes (ws.drop k))∧Hid (bp wr2 (grow (grow F w wo) w3 wr2) w.heap.size b { j2 with d:=d2 })∧Hid (ae (grow F w wo) w3 wr2)∧Hid d2.Ok∧Hid (d2.dead=false→d2.p.length≤900000+k)) (fun v _=>ws.length-(intOf v).toNat)
     case atStart=>exact⟨0,j2.d,rfl,L0 _,by rw[QQ];exact Hd rfl,Y9,Hd (ae.refl _ _),ajo,Hd (fun _=>Zl.out)⟩
     case round =>
      obtain⟨k,d2,rfl,hk,HE,jU,nW,tY,kX⟩:=hrel;by_cases ay:k<ws.length
      ·have bq:(k:Int)<(ws.length:Int):=U
       obtain⟨lb,rfl,OJ,qK,x1,x2⟩:=HC.out k ay;have y1:=nW.out.cell x1 qK;have y2:=nW.out.cell x2 qK;have he:=HE.out;rw[PQ ay,af.writes] at he;have eO:=jU.out.write tY.out (fun hx=>by have h1:=kX.out hx;show d2.p.length≤_;omega) (ws[k].1:Nat) ws[k].2 (FE.out k ay)
       simp only at eO;have bQ:=af.eI tY.out (ws[k].1:Nat) ws[k].2;have gK:(d2.write (ws[k].1:Nat) ws[k].2).1.dead=false→(d2.write (ws[k].1:Nat) ws[k].2).1.p.length≤900000+(k+1):=fun hx=>by
        have h1:=kX.out (af.eh _ _ _ hx);have h2:=af.ff d2 (ws[k].1:Nat) ws[k].2;omega
       have C9:¬grow (grow F w wo) w3 wr lb:=fun hc=>hc.elim qK (fun hc=>U)
       have lT:(0:Int)≤(k:Int):=U;generalize Hl:d2.write (ws[k].1:Nat) ws[k].2=dw at *;generalize ws[k].1=bk at *;generalize ws[k].2=dk at *;have BD:=Hd eO;have kI:=Hd he;have aaK:=Hd bQ;have sO:=Hd gK;have rW:=Hd C9;have KK:=Hd (Q.refl wr);clear eO he bQ gK Hl x1 x2 C9;go_wp2_with fail;go_region_held3 (fun w'=>w'.cell? ⟨lb,k*2,none⟩=some (.int .i64 (bk:Nat))∧w'.cell? ⟨lb,k*2+1,none⟩=some (ah dk))
        (first|exact g0|exact⟨y1,y2⟩|exact two δ y1 y2)
        (first
         | (go_at_call 170;with_reducible refine(BD.out _ ω).mono ?_;rintro e w4 ⟨rfl,h4,t4⟩;have g0:=And.intro (ae.cell t4 y1 rW.out) (ae.cell t4 y2 rW.out);have H4:=Hd h4;have T4:=Hd t4;clear h4 t4))
       all_goals
        have kZ:=bp.next HL3.out nW.out H4.out T4.out;have HG4:=Hd kZ.1;have G8:=Hd kZ.2;clear kZ y1 y2;try clear g0
        by_cases hz:dw.2=0
        ·have hb:(dw.2==0)=true:=MY.2 hz
         have eX:=kI.out;rw[Φ hz] at eX;have tV:=Hd eX;clear eX kI hz;go_wp2_with fail;go_roundw;case rel=>exact⟨k+1,dw.1,by go_num,U,tV,HG4,G8,aaK,sO⟩
         case measure=>simp[intOf];omega
        ·have hb:(dw.2==0)=false:=Γ.2 hz
         have eX:=kI.out;rw[η hz] at eX;have iP:=Hz.out;rw[eX,η hz] at iP;have fB:=vB.out;rw[iP,η hz] at fB;have um:ae F w w4:=fG.out.step ((ae.br fu.out).trans G8.out);have qE:cn w4 (grow F w w4) b dw.1:=HG4.out.dev.mono (fun k hk=>hk.elim (fun hk=>hk.elim .inl (fun hk=>.inr ⟨hk.1,by have:=fu.out.size;have:=G8.out.size;omega⟩)) (fun hk=>.inr ⟨by have:=fu.out.size;have:=fG.out.size;omega,hk.2⟩))
         have rA:=Hd fB;have HZ:=Hd hz;have yw:=Hd um;have VW:=Hd qE;clear hz iP fB eX kI um qE;go_wp2_with fail;go_ret2;refine⟨yw.out,.inr ⟨by rw[rA.out];exact HZ.out,by rw[rA.out];rfl,?_⟩⟩
         rw[rA.out];exact VW.out
      ·have bq:¬(k:Int)<(ws.length:Int):=U
       obtain rfl:k=ws.length:=U;have he:=HE.out;rw[VV,af.writes] at he;have hz:(j2.d.writes ws).2=0:=by rw[he]
       have iP:=Hz.out;rw[Φ hz] at iP;have EZ:=aaI.out hz;have M9:=ajm.out hz;have Bu:(j2.d.writes ws).1=d2:=by rw[he]
       rw[Bu] at iP EZ M9;have bZ:=jU.out.box;obtain⟨c0,c1,c2,c3,c4,c5,c6,c7⟩:=bZ.c8;have f6:=bZ.frozen 6;have f7:=bZ.frozen 7;have hu1:=VX.out;have wF:=FL.out.log2;have afk:=jY.out.sl;have afl:j2.next+1<18446744073709551616:=by
        have h1:=Wp.out.hn;have h2:=YX.out.hs;have h3:=Zd.out;have h4:=Pu List.length MC.out;rw[Δ,Θ] at h4;omega
       have hw7:IntKind.i64.wrap ((j2.used:Int)+(1+(ws.length:Int)))=((j2.used+ws.length+1:Nat):Int):=by rw[IntWalk.i64_in _ (by rw[afk] at wF;omega)];omega
       have Ui:IntKind.u64.wrap ((j2.next:Int)+1)=((j2.next+1:Nat):Int):=by simp[IntKind.wrap,IntKind.bits,IntKind.signed];omega
       have Yw:(j2.next+1)%18446744073709551616=j2.next+1:=OS afl;have Hy:({ j2 with d:=d2 }:JL).advance ws.length={ d:=d2,s:=j2.s,k:=j2.k,next:=j2.next+1,used:=j2.used+ws.length+1 }:=by unfold JL.advance;simp only[Yw]
       have aaJ:=Hd iP;have ajp:=Hd EZ;have ajq:=Hd M9;have afO:=Hd Hy;have ajr:=Hd bZ;have HW6:=Hd Ui;have HW7:=Hd hw7;clear he hz iP EZ M9 Bu bZ hu1 wF afk afl Yw Hy c0 c1 c2 c3 c4 c5;go_wp2_with fail;have e7:(j2.used:Int)+(ws.length:Int)+1=((j2.used+ws.length+1:Nat):Int):=U;have e6:(j2.next:Int)+1=((j2.next+1:Nat):Int):=U;rw[e7,e6];have iP:=aaJ.out;have EZ:=ajp.out;have M9:=ajq.out;rw[afO.out] at iP EZ M9;have Tn:Blk ((wr.setCell ⟨w.heap.size,7,none⟩ (.int .i64 ((j2.used+ws.length+1:Nat):Int))).setCell ⟨w.heap.size,6,none⟩ (.int .u64 ((j2.next+1:Nat):Int))) w.heap.size 174 (jd b { d:=d2,s:=j2.s,k:=j2.k,next:=j2.next+1,used:=j2.used+ws.length+1 }):=(ajr.out.set 7 _).set 6 _;have t7:ae (fun k=>k=w.heap.size) wr ((wr.setCell ⟨w.heap.size,7,none⟩ (.int .i64 ((j2.used+ws.length+1:Nat):Int))).setCell ⟨w.heap.size,6,none⟩ (.int .u64 ((j2.next+1:Nat):Int))):=((ae.refl (fun k=>k=w.heap.size) wr).setCell (a:=⟨w.heap.size,7,none⟩) (.inl rfl) _).setCell (a:=⟨w.heap.size,6,none⟩) (.inl rfl) _
       have hz7:((wr.setCell ⟨w.heap.size,7,none⟩ (.int .i64 ((j2.used+ws.length+1:Nat):Int))).setCell ⟨w.heap.size,6,none⟩ (.int .u64 ((j2.next+1:Nat):Int))).heap.size=wr.heap.size:=by rw[bO,bO]
       generalize ((wr.setCell ⟨w.heap.size,7,none⟩ (.int .i64 ((j2.used+ws.length+1:Nat):Int))).setCell ⟨w.heap.size,6,none⟩ (.int .u64 ((j2.next+1:Nat):Int)))=wz at *;have hjz:=jU.out.turned Tn rfl t7;have Oy:w.heap.size<wo.heap.size:=rM.out.box.lt;have htz:ae F w wz:=fG.out.step ((ae.br fu.out).trans (nW.out.trans (t7.mono (fun k hk=>by subst hk;exact .inr ⟨Ω _,Oy⟩))))
       have oV:=fu.out.size;have jm:=nW.out.size;have huz:mM wz w.heap.size=j2.used+ws.length+1:=by unfold mM;rw[Tn.cell 7 (.int .i64 ((j2.used+ws.length+1:Nat):Int)) rfl];exact OK _
       refine⟨⟨m',_,fr1++[ws],fr3,ajn,Hd M9,Hd iP,Hd (by show s.log+1≤m'+(j2.used+ws.length+1);have:=LY.out;omega),Hd (hjz.mono (fun k hk=>?_) (fun k hk=>?_)),Hd htz,Hd EZ,Hd huz⟩,by rw[huz,VL.out];have:=VX.out;omega⟩
       ·rcases hk with (hk|hk)|hk
        ·exact .inl hk
        ·exact .inr ⟨hk.1,U⟩
        ·exact .inr ⟨U,U⟩
       ·rcases hk with hk|hk
        ·have:=xM.out k hk;omega
        ·exact hk.2
def tL(n k:Nat):List Bytes:=List.replicate k ag++List.replicate (n-k) []
theorem Jp(n k:Nat)(h:k≤n):(tL n k).length=n:=by simp[tL];omega
theorem qv(n k:Nat)(h:k<n):(tL n k).set k ag=tL n (k+1):=by
 unfold tL;obtain⟨m,hm⟩:∃m,n-k=m+1:=⟨n-k-1,U⟩;rw[hm,aeg,show n-(k+1)=m by omega,ad9,Mm]
 rw[abB _ _ κ];simp
theorem FO(n:Nat):madeCells #[ah []] n=sw (tL n 0):=by
 unfold tL sw;refine Array.ext (by simp[madeCells]) (fun i h1 h2=>?_)
 simp[madeCells,Nat.mod_one]
theorem s9:(prog.info? 9).map (fun i=>(i.zero,i.size,i.bytes))=some (some (ah []),1,16):=by kernel_rfl
theorem Hm(w:World)(n:Nat)(h1:1≤n)(h2:n≤4096):
  Calls prog 47 #[.int .i64 (n:Nat)] w fun e w'=>e=.returned (.tuple #[au (w.heap.size+1),.int .i64 0])∧cF w' (fun k=>w.heap.size≤k∧k<w'.heap.size) (w.heap.size+1) (af.new n)∧Q w w':=by
 have iP:=fun (W:World)=>Tryz.strings_Repeat_main ⟨#[0]⟩ 256 W Z Z Z Z
 have he:(Lib.repeatL [(0:UInt8)] 256)=ag:=by decide +kernel
 obtain⟨i0,hi,bY,bB,aW⟩:=info_parts s9;have km:=run_make (P:=prog) w 101 9 _ _ underlying101 hi bY .i64 .i64 (n:Int) (n:Int) U (XX _) (by rw[aW];omega) U
 rw[OK,bB,abq,show(ah []).cells=#[ah []] from rfl,FO] at km
 have rU:=Blk.new w 9 (sw (tL n 0));have ji:=Q.alloc w (.cells (sw (tL n 0)) 9);have ajx:(w.alloc (.cells (sw (tL n 0)) 9)).heap.size=w.heap.size+1:=κ;generalize eO:w.alloc (.cells (sw (tL n 0)) 9)=w1 at *;have hb1:=Blk.new w1 132 #[.slice (some ⟨w.heap.size,0,none⟩) n n,.slice none 0 0,.int .i64 (-1),.bool false];have pR:=Q.alloc w1 (.cells #[.slice (some ⟨w.heap.size,0,none⟩) n n,.slice none 0 0,.int .i64 (-1),.bool false] 132);have xJ:dq (w1.alloc (.cells #[.slice (some ⟨w.heap.size,0,none⟩) n n,.slice none 0 0,.int .i64 (-1),.bool false] 132)) (fun k=>k=w.heap.size∨k=w.heap.size+1) (w.heap.size+1) w.heap.size n (.slice none 0 0) ⟨tL n 0,[],-1,false⟩:=by
  refine⟨?_,.inr rfl,rU.stays pR,.inl rfl,⟨rfl,.inl ⟨rfl,rfl⟩⟩,fun k e=>by simp[Value.ownBlock] at e⟩
  rw[←ajx,show({ l:=tL n 0,p:=[],b9 := -1,dead:=false }:af).l.length=n from Jp n 0 U]
  exact hb1
 have Hw:=Hd iP;have HE:=Hd he;have ajy:=Hd xJ;have HQ:=Hd (ji.trans pR);have e1:¬(n:Int)<1:=U;have e2:¬(4096:Int)<(n:Int):=U;clear iP he rU hb1 ji pR xJ bB aW;go_enter func47,ntmps47;go_wp2_with fail;generalize gD:w1.alloc (.cells #[.slice (some ⟨w.heap.size,0,none⟩) n n,.slice none 0 0,.int .i64 (-1),.bool false] 132)=w2 at *;go_loopw [17] (fun v wr=>∃k:Nat,v=.int .i64 (k:Nat)∧k≤n∧Hid (dq wr (fun k=>k=w.heap.size∨k=w.heap.size+1) (w.heap.size+1) w.heap.size n (.slice none 0 0) ⟨tL n k,[],-1,false⟩)∧Hid (Q w wr)) (fun v _=>n-(intOf v).toNat)
 case atStart=>exact⟨0,rfl,L0 _,ajy.out,HQ.out⟩
 case round =>
  obtain⟨k,rfl,hk,HG,bJ⟩:=hrel;by_cases ay:k<n
  ·have bq:(k:Int)<(n:Int):=U
   have wI:=Jp n k hk;obtain⟨b0,_,_,_,_⟩:=HG.out.box.c4;have c0:wr.cell? ⟨w.heap.size+1,0,none⟩=some (.slice (some ⟨w.heap.size,0,none⟩) n n):=by have h:=b0;simp only[wI] at h;exact h
   have hdc:=fun (V:World) (q:Q wr V)=>(HG.out.keep q).pw k (by show k<(tL n k).length;omega)
   have aC:=qv n k ay;have HDC:=Hd hdc;have aX:=Hd aC;have EP:(0:Int)≤(k:Int):=U;have y:=hdc wr (Q.refl _);obtain⟨y1,y2⟩:=y;clear hdc aC b0;go_wp2_with fail;go_region_law
    (first
     | (go_simp;go_at_call 76;refine(Hw.out _).mono ?_;rintro e w3 ⟨rfl,q3⟩;have s':Q wr w3:=(by first|exact(Q.drew _).trans q3|exact q3);have x0:=aI s' c0;obtain⟨x1,x2⟩:=HDC.out _ s';have S':=Hd s';clear s' q3))
   all_goals
    rw[HE.out];go_wp2_with fail;go_roundw;case rel =>
     refine⟨k+1,by go_num,U,?_,?_⟩
     ·rw[←aX.out]
      exact Hd ((HG.out.keep (by repeat (first|with_reducible exact S'.out|with_reducible exact Q.refl _|with_reducible apply Qs.dr))).lay k ag).1
     ·exact Hd (Qs.st (bJ.out.trans (by repeat (first|with_reducible exact S'.out|with_reducible exact Q.refl _|with_reducible apply Qs.dr))) _ _ (Ω _))
    case measure=>simp[intOf];omega
  ·have bq:¬(k:Int)<(n:Int):=U
   obtain rfl:k=n:=U;have rT:tL k k=List.replicate k ag:=by unfold tL;simp
   have hg:=HG.out;rw[rT] at hg;have Vz:=Hd hg;clear hg;go_wp2_with fail;go_ret2;exact⟨rfl,⟨_,_,_,Vz.out.mono (fun i hi=>by have:=Vz.out.box.lt;omega)⟩,bJ.out⟩
end
end Go.Proofs.YtbkahhebmpehnaaGreatDoor
