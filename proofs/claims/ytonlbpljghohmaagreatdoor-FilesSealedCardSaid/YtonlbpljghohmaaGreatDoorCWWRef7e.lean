/- Joined: WRef7e to WRef7e -/
import Derived.Test.YtonlbpljghohmaaGreatDoorCWWCacF
import Derived.Test.YtonlbpljghohmaaGreatDoorCWWRef4e
set_option linter.all false
set_option maxRecDepth 100000
set_option maxHeartbeats 8000000
namespace Go.Proofs.YtonlbpljghohmaaGreatDoor
open Go.Proofs.Tryz
section
open Go.RowKit
structure gd (σ:StL):Prop where
 num:iL σ
 bits:σ.dead=false→σ.gh (aD σ.n)=σ.ai
theorem ce.know{K:Nat}{σ:StL}{fr:List (List WrL)}{C:Nat→Bytes}(h:ce K σ fr C)(hK:K<18446744073709551616):gd σ:=⟨h.num hK,fun _=>h.gh⟩
theorem Sl.set{w:World}{v:Value}{n size:Nat}{xs:List Value}(h:Sl w v n size xs){k i:Nat}(u:Value)(aU:∀g off cap,v=.slice (some ⟨g,off,none⟩) n cap→0<n→g≠k):Sl (w.setCell ⟨k,i,none⟩ u) v n size xs:=by
 have t:ae (fun x=>x=k) w (w.setCell ⟨k,i,none⟩ u):=(ae.refl (fun x=>x=k) w).setCell (a:=⟨k,i,none⟩) (.inl rfl) u
 obtain⟨hl,a',cap,rfl,hc⟩:=h;refine⟨hl,a',cap,rfl,fun hn=>?_⟩
 obtain⟨b,off,rfl,aP⟩:=hc hn;exact⟨b,off,rfl,fun j u hj=>t.cell (aP j u hj) (aU b off cap rfl hn)⟩
theorem Dr{w:World}{v:Value}{l:List WrL}{sb p:Nat}{o:Bool}{tv:Value}(h:Sl w v l.length 2 (aN l))(hb:Blk w sb 141 #[au p,.bool o,tv])(ht:∃a n c,tv=.slice a n c):∀g off cap,v=.slice (some ⟨g,off,none⟩) l.length cap→0<l.length→g≠sb:=by
 rintro g off cap rfl hn rfl;obtain⟨hl,a',cap',he,hc⟩:=h;obtain⟨b,off',rfl,aP⟩:=hc hn;simp only[Value.slice.injEq,N6,Addr.mk.injEq] at he;obtain⟨⟨rfl,rfl,_⟩,_,_⟩:=he;obtain⟨ta,tn,tc,rfl⟩:=ht;cases l with
 | nil=>simp at hn
 | cons x l =>
  have h0:=aP 0 (.int .i64 (x.1:Nat)) rfl;rw[show w.cell? ⟨g,off+0,none⟩=(#[au p,.bool o,.slice ta tn tc]:Array Value)[off+0]? by simp only[World.cell?,show w.heap[g]?=_ from hb];rfl] at h0
  match off with
  | 0=>simp[au] at h0
  | 1=>simp at h0
  | 2=>simp at h0
  | k+3=>simp at h0
section
variable {w:World} {FJ:Nat→Prop} {sb b p:Nat} {tv:Value} {σ:StL}
theorem dm.slice(h:dm w FJ sb b p tv σ):∃a n c,tv=.slice a n c:=by
 obtain⟨a,cap,e,_⟩:=h.tx.value;exact⟨a,_,cap,e⟩
theorem dm.congr{τ:StL}(h:dm w FJ sb b p tv σ)(h1:τ.open_=σ.open_)(h2:τ.tx=σ.tx)(h3:τ.j=σ.j):dm w FJ sb b p tv τ :=
 ⟨by rw[h1];exact h.box,by rw[h3];exact h.jr,h.sF,by rw[h2];exact h.tx⟩
theorem dm.Gk(h:dm w FJ sb b p tv σ)(lv:Value)(l:List WrL)(hs:SlO w FJ lv l.length 2 (aN l)):dm (w.setCell ⟨sb,2,none⟩ lv) FJ sb b p lv { σ with tx:=l }:=by
 have t:ae (fun x=>x=sb) w (w.setCell ⟨sb,2,none⟩ lv):=(ae.refl (fun x=>x=sb) w).setCell (a:=⟨sb,2,none⟩) (.inl rfl) lv
 have hn:=Dr hs.1 h.box h.slice;refine⟨?_,?_,h.sF,⟨hs.1.set lv hn,fun hl=>?_⟩⟩
 ·have:=h.box.set 2 lv
  exact this
 ·exact h.jr.beside t (fun k hk e=>h.sF (by rw[←e];exact hk))
 ·obtain⟨g,off,e,h1,h2⟩:=hs.2 hl
  exact⟨g,off,e,Ψ h1 t.size,h2⟩
theorem dm.mi(h:dm w FJ sb b p tv σ)(o:Bool):dm (w.setCell ⟨sb,1,none⟩ (.bool o)) FJ sb b p tv { σ with open_:=o }:=by
 have t:ae (fun x=>x=sb) w (w.setCell ⟨sb,1,none⟩ (.bool o)):=(ae.refl (fun x=>x=sb) w).setCell (a:=⟨sb,1,none⟩) (.inl rfl) _
 have hn:=Dr h.tx.1 h.box h.slice;refine⟨?_,?_,h.sF,⟨h.tx.1.set _ hn,fun hl=>?_⟩⟩
 ·have:=h.box.set 1 (.bool o)
  exact this
 ·exact h.jr.beside t (fun k hk e=>h.sF (by rw[←e];exact hk))
 ·obtain⟨g,off,e,h1,h2⟩:=h.tx.2 hl
  exact⟨g,off,e,Ψ h1 t.size,h2⟩
theorem EO(h:dm w FJ sb b p tv σ):
  Calls prog 160 #[au sb] w fun e w'=>e=.returned (.int .i64 (σ.state true))∧w=w':=by
 obtain⟨c0,c1,_⟩:=h.box.c3f;obtain⟨j0,_⟩:=h.jr.box.c8;obtain⟨lv,pv,hd⟩:=h.jr.dev;obtain⟨d0,d1,d2,d3,_⟩:=hd.box.c4;have hs:σ.state true=if σ.j.d.dead=true then 4 else if σ.open_=true then 0 else 15:=rfl
 rw[hs];clear h hd hs;generalize σ.j.d.dead=dd at *;generalize σ.open_=oo at *;cases dd with
 | true =>
  go_enter func160,ntmps160;go_wp2;go_ret;exact⟨rfl,rfl⟩
 | false =>
  cases oo with
  | true =>
   go_enter func160,ntmps160;go_wp2;go_ret;exact⟨rfl,rfl⟩
  | false =>
   go_enter func160,ntmps160;go_wp2;go_ret;exact⟨rfl,rfl⟩
theorem Oq(h:dm w FJ sb b p tv σ)(hn:σ.n≤4096)(i:Int):
  Calls prog 211 #[au sb,.int .i64 i] w fun e w'=>e=.returned (.bool (σ.cP i))∧w=w':=by
 have hb:=nK h;have hf:=yR h hn;have hd:σ.cP i=decide ((ak σ.n:Int)≤i∧i<(σ.n:Int)):=rfl;rw[hd];have HB:=Hd hb;have HF:=Hd hf;clear hb hf h hd;generalize ak σ.n=fd at *;generalize σ.n=n at *;by_cases h1:(fd:Int)≤i
 ·by_cases h2:i<(n:Int)
  ·rw[NO ⟨h1,h2⟩]
   go_enter func211,ntmps211;go_wp2_with fail;refine HF.out.mono ?_;rintro e w1 ⟨rfl,rfl⟩;go_wp2_with fail;refine HB.out.mono ?_;rintro e w1 ⟨rfl,rfl⟩;go_wp2_with fail;go_ret;exact⟨rfl,rfl⟩
  ·rw[Nx (fun hc=>h2 hc.2)]
   go_enter func211,ntmps211;go_wp2_with fail;refine HF.out.mono ?_;rintro e w1 ⟨rfl,rfl⟩;go_wp2_with fail;refine HB.out.mono ?_;rintro e w1 ⟨rfl,rfl⟩;go_wp2_with fail;go_ret;refine⟨?_,rfl⟩;show Ending.returned (Value.bool (decide (i<(n:Int))))=_;rw[Nx (show ¬(i<(n:Int)) by omega)]
 ·rw[Nx (fun hc=>h1 hc.1)]
  go_enter func211,ntmps211;go_wp2_with fail;refine HF.out.mono ?_;rintro e w1 ⟨rfl,rfl⟩;go_wp2_with fail;go_ret;exact⟨rfl,rfl⟩
theorem X9(h:dm w FJ sb b p tv σ)(lv:Value)(l:List WrL)(hl:l.length≤100000)(hs:SlO w FJ lv l.length 2 (aN l)):
  Calls prog 212 #[au sb,lv] w fun e w'=>e=.returned (.int .i64 (if l.length>48 then 6 else 0)) ∧
   w'=(if l.length>48 then w else w.setCell ⟨sb,2,none⟩ lv):=by
 obtain⟨a,cap,rfl,_⟩:=hs.value;obtain⟨c0,c1,c2,f0,f1,f2⟩:=h.box.c3f;clear h hs;by_cases h1:l.length>48
 ·rw[Φ h1,Φ h1]
  have hi:(48:Int)<(l.length:Int):=U;go_enter func212,ntmps212;go_wp2;go_ret;exact⟨rfl,rfl⟩
 ·rw[η h1,η h1]
  have hi:¬(48:Int)<(l.length:Int):=U;go_enter func212,ntmps212;go_wp2;go_ret;exact⟨rfl,rfl⟩
theorem Vl(h:dm w FJ sb b p tv σ):
  Calls prog 83 #[au sb] w fun e w'=>e=.returned (.int .i64 σ.begin.2)∧dm w' FJ sb b p tv σ.begin.1∧(w'=w∨∃v,w'=w.setCell ⟨sb,1,none⟩ v):=by
 obtain⟨c0,c1,c2,f0,f1,f2⟩:=h.box.c3f;obtain⟨j0,_⟩:=h.jr.box.c8;obtain⟨lv,pv,hd⟩:=h.jr.dev;obtain⟨d0,d1,d2,d3,_⟩:=hd.box.c4;have lW:σ.dead=σ.j.d.dead:=rfl;have hs:σ.state false=if σ.j.d.dead=true then 4 else if σ.open_=false then 0 else 15:=rfl
 cases qE:σ.j.d.dead with
 | true =>
  rw[qE,Φ rfl] at hs;have hb:σ.begin=(σ,4):=by unfold StL.begin;rw[hs,Φ Z]
  rw[hb];rw[qE] at d3;have H:=Hd h;clear h hd hs hb lW qE;go_enter func83,ntmps83;go_wp2;go_ret;exact⟨rfl,H.out,.inl rfl⟩
 | false =>
  rw[qE,η Z] at hs;rw[qE] at d3;cases Pk:σ.open_ with
  | true =>
   rw[Pk,η Z] at hs;have hb:σ.begin=(σ,15):=by unfold StL.begin;rw[hs,Φ Z]
   rw[hb];rw[Pk] at c1;have H:=Hd h;clear h hd hs hb lW qE Pk;go_enter func83,ntmps83;go_wp2;go_ret;exact⟨rfl,H.out,.inl rfl⟩
  | false =>
   rw[Pk,Φ rfl] at hs;have hb:σ.begin=({ σ with open_:=true,was:=σ.ai },0):=by unfold StL.begin;rw[hs,η Z]
   rw[hb];rw[Pk] at c1;have H:=Hd ((h.mi true).congr (τ:={ σ with open_:=true,was:=σ.ai }) rfl rfl rfl);clear h hd hs hb lW qE Pk;go_enter func83,ntmps83;go_wp2;go_ret;exact⟨rfl,H.out,.inr ⟨_,rfl⟩⟩
theorem Jo(h:dm w FJ sb b p tv σ):
  Calls prog 140 #[au sb] w fun e w'=>e=.returned (.tuple #[])∧w'=(w.setCell ⟨sb,1,none⟩ (.bool false)).setCell ⟨sb,2,none⟩ (.slice none 0 0):=by
 obtain⟨c0,c1,c2,f0,f1,f2⟩:=h.box.c3f;have h1:=(h.mi false).box.c3f;obtain⟨e0,e1,e2,g0,g1,g2⟩:=h1;clear h;go_enter func140,ntmps140;go_wp2;go_end0;exact⟨rfl,rfl⟩
theorem dm.shut(h:dm w FJ sb b p tv σ):dm ((w.setCell ⟨sb,1,none⟩ (.bool false)).setCell ⟨sb,2,none⟩ (.slice none 0 0)) FJ sb b p (.slice none 0 0) { σ with open_:=false,tx:=[] } :=
 ((h.mi false).Gk (.slice none 0 0) [] ⟨Sl.nil _ _,fun hn=>absurd hn (US 0)⟩)
theorem gd.data(hk:gd σ)(hd:σ.dead=false):(∀i,i<σ.n→(σ.get i).length=256)∧σ.j.d.p.length≤1000000∧l8 σ.tx∧σ.tx.length≤1000:=by
 obtain⟨jn,ju,jh,ht,hl,hr,hg⟩:=hk.num.num hd;refine⟨fun i hi=>?_,My (jn.eK hd) Z,hr,U⟩
 unfold StL.get;by_cases hx:∃x∈σ.tx,x.1=i
 ·obtain⟨x,sJ,mh,hx3⟩:=sQ σ.tx i (σ.j.d.get i) hx
  rw[hx3];exact(ht x sJ).2.2
 ·rw[dM _ _ _ (fun x mh e=>hx ⟨x,mh,e⟩)]
  exact hg i hi
theorem AA(h:dm w FJ sb b p tv σ)(hk:gd σ)(hd:σ.dead=false):
  Calls prog 149 #[au sb] w fun e w'=>e=.returned (ah σ.ai)∧Q w w':=by
 obtain⟨h1,h2,h3,h4⟩:=hk.data hd;have:=Lx h hk.num.big hk.num.max hd h2 h3 h4 h1;rw[hk.bits hd] at this;exact this
theorem Ya(h:dm w FJ sb b p tv σ)(hk:gd σ)(i:Int):
  Calls prog 147 #[au sb,.int .i64 i] w fun e w'=>e=.returned (.tuple #[ah (σ.read i).1,.int .i64 (σ.read i).2])∧Q w w':=by
 obtain⟨c0,c1,c2,f0,f1,f2⟩:=h.box.c3f;obtain⟨j0,_⟩:=h.jr.box.c8;obtain⟨lv,pv,hd⟩:=h.jr.dev;obtain⟨d0,d1,d2,d3,_⟩:=hd.box.c4;have ho:=Oq h hk.num.max i;have HO:=Hd ho;cases qE:σ.j.d.dead with
 | true =>
  have hr:σ.read i=([],4):=by unfold StL.read;exact Φ qE
  rw[hr];rw[qE] at d3;clear h hd hr ho qE hk;go_enter func147,ntmps147;go_wp2_with fail;go_ret2;exact⟨rfl,Q.refl _⟩
 | false =>
  rw[qE] at d3;obtain⟨k1,k2,k3,k4⟩:=hk.data qE;cases gX:σ.cP i with
  | false =>
   have hr:σ.read i=([],2):=by unfold StL.read;rw[η (by rw[show σ.dead=false from qE];decide),gX,η Z]
   rw[hr];rw[gX] at HO;clear h hd hr ho qE gX hk k1 k2 k3 k4;go_enter func147,ntmps147;go_wp2_with fail;refine HO.out.mono ?_;rintro e w1 ⟨rfl,rfl⟩;go_wp2_with fail;go_ret2;exact⟨rfl,Q.refl _⟩
  | true =>
   have hr:σ.read i=(σ.get i.toNat,0):=by unfold StL.read;rw[η (by rw[show σ.dead=false from qE];decide),gX,Φ rfl]
   rw[hr];rw[gX] at HO;have CX:(ak σ.n:Int)≤i∧i<(σ.n:Int):=Tl gX;have iG:=EN h hk.num.max qE k2 k3 k4 i.toNat U;rw[show((i.toNat:Nat):Int)=i by omega] at iG
   have rJ:=Hd iG;clear h hd hr ho qE gX hk k1 k2 k3 k4 iG;generalize σ.get i.toNat=res at *;go_enter func147,ntmps147;go_wp2_with fail;refine HO.out.mono ?_;rintro e w1 ⟨rfl,rfl⟩;go_wp2_with fail;refine rJ.out.mono ?_;rintro e w1 ⟨rfl,q1⟩;have Q1:=Hd q1;clear q1;go_wp2_with fail;go_ret2;exact⟨rfl,Q1.out⟩
end
end
end Go.Proofs.YtonlbpljghohmaaGreatDoor
