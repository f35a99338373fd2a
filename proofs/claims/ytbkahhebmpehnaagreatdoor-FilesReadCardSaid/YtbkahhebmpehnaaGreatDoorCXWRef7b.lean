/- Joined: WRef7b to WRef7c -/
import Derived.Test.YtbkahhebmpehnaaGreatDoorCXWRef7e
import Derived.Test.YtbkahhebmpehnaaGreatDoorCXWStoK
import Derived.Test.YtbkahhebmpehnaaGreatDoorCXBitH
set_option linter.all false
set_option maxRecDepth 100000
set_option maxHeartbeats 8000000
namespace Go.Proofs.YtbkahhebmpehnaaGreatDoor
open Go.Proofs.Tryz
section
open Go.RowKit
theorem Ru(w:World)(F:Nat→Prop)(b n:Nat)(h:cn w F b (af.new n))(hF:∀k,F k→k<w.heap.size)(h1:128≤n)(h2:n≤4096):
  Calls prog 52 #[au b] w fun e w'=>e=.returned (.int .i64 0)∧cn w' (grow F w w') b (fH (af.new n)).1∧ae F w w':=by
 obtain⟨a,zw,D8,mg,o1,o2,xU,Fp⟩:=Ao n h1 h2;have nN:=WC n h1 h2;have hl:(af.new n).l.length=n:=Nx;have bQ:=af.lL n U h2;have yT:=(KS n h1 h2).1;have rF:fH (af.new n)=(((aL (aO (af.new n) 60).1).1.bj (bE n)).1.d,((aL (aO (af.new n) 60).1).1.bj (bE n)).2):=by
  unfold fH;rw[η (by rw[hl];omega),η (by rw[a];simp),η (by rw[o1];simp),hl]
 rw[rF] at yT;rw[rF];have Ml:=Rq w F b (af.new n) 60 h bQ (fun _=>by simp[af.new]) Z (by rw[hl];omega)
 rw[a] at Ml;obtain⟨lv,pv,Ai⟩:=h;obtain⟨la,lc,rfl,_⟩:=Ai.gt;obtain⟨d0,_⟩:=Ai.box.c4;rw[hl] at d0;clear Ai;have tZ:=fun (W:World) (G:Nat→Prop) (hW:cn W G b (aO (af.new n) 60).1) (hG:∀k,G k→k<W.heap.size)=>LB W G b (aO (af.new n) 60).1 hW hG nN Z (by rw[D8];simp) U
 unfold Kk at tZ;have jn:=o2.num Z Z;have ju:(aL (aO (af.new n) 60).1).1.used≤(aL (aO (af.new n) 60).1).1.s.log:=by have:=o2.hrec.hchain.used;rw[o2.gO];omega
 have jh:(aL (aO (af.new n) 60).1).1.home=62:=by unfold JL.home;rw[o2.cH]
 clear nN;generalize aL (aO (af.new n) 60).1=oj at *;generalize aO (af.new n) 60=fj at *;obtain⟨d1,c1⟩:=fj;obtain⟨j,c2⟩:=oj;simp only at o1 o2 xU Fp jn ju jh tZ yT zw D8 mg Ml ⊢;subst o1;obtain⟨t1,t2,t3,t4⟩:=yK n h1 h2 (fun _=>ag)
 have vT:aD n≤2∧1≤aD n∧63+aD n<n:=by unfold aD;omega
 have Aa:=fun (W:World)=>Nw (2048*(aD n:Int)) W
 rw[I7 n h2,Φ vT.2.1] at Aa;have lK:ak n=63+aD n:=rfl;have kE:=fun (W:World)=>MO (bg (256*aD n)) 0 (ak n) true W (by simp[bg];omega) (by simp[bg];omega)
 have eH:bF (bg (256*aD n)) 0 true (ak n)=iX n:=rfl;rw[eH] at kE;rw[show((0:Nat):Int)=0 from rfl,show((ak n:Nat):Int)=63+((aD n:Nat):Int) by rw[lK];omega] at kE
 have Bt:(iX n).length=256*aD n:=(wV n h1 h2).len;have nO:=fun (W:World)=>Az n W U
 have Eb:=fun (W:World)=>Lv n W U
 have Tt:=fun (i:Nat) (hi:i<aD n)=>(show({ data:=(iX n).toArray }:ByteArray).extract (256*i) (256*i+256)=⟨(aG (iX n) i).toArray⟩ from by
  rw[eY,show 256*i+256-256*i=256 by omega,UX 256 i];rfl)
 have G9:bE n=j6 n (aD n):=rfl;have yt:=fun (W:World) (G:Nat→Prop) (p:Nat) (lv:Value) (hj:bp W G p b j) (hl:SlO W G lv (bE n).length 2 (aN (bE n)))=>Jm W G p b j lv (bE n) hj jn ⟨by simp[bE],U,fun w hw=>by have:=t3 w hw;exact⟨U,this.2.2⟩⟩ (fun w hw=>by have:=t3 w hw;rw[jh,xU];exact⟨this.1,this.2.1⟩) hl ju
 generalize aaN:j.bj (bE n)=cm at *;obtain⟨j2,c3⟩:=cm;simp only at yT yt ⊢;subst yT;rw[G9] at yt;obtain⟨i1,qG,wH,tN,hy2⟩:=info_parts nC;have HJF:=Hd Ml;have ZE:=Hd tZ;have JE:=Hd Aa;have R3:=Hd kE;have wP:=Hd nO;have Tk:=Hd Eb;have Tv:=Hd Tt;have VT:=Hd yt;have HF:=Hd hF;have Ko:=vT.1;have pX:¬(n:Int)<128:=U;have ajs:=Hd Bt;clear Ml tZ Aa kE nO Eb Tt yt hF G9 aaN t1 t2 t3 t4 vT jn ju jh o2 Fp xU mg D8 zw rF bQ hl lK eH Bt a;go_enter func52,ntmps52;go_wp2_with fail;refine HJF.out.mono ?_;rintro e w1 ⟨rfl,Bu,t1⟩;have tZ:=ZE.out w1 _ Bu (fun k hk=>hk.elim (fun hk=>Ψ (HF.out k hk) t1.size) (fun hk=>hk.2))
 have HO:=Hd tZ;have T1:=Hd t1;clear tZ Bu t1 d0;go_wp2_with fail;refine HO.out.mono ?_;rintro e w2 ⟨t2,⟨_,p,rfl,qF⟩|⟨h0,_⟩⟩
 ·have T2:=Hd t2;have rM:=Hd qF
  clear t2 qF;go_wp2_with fail;refine(wP.out _).mono ?_;rintro e w3 ⟨rfl,rfl⟩;go_wp2_with fail;refine(wP.out _).mono ?_;rintro e w3 ⟨rfl,rfl⟩;go_wp2_with fail;refine(JE.out _).mono ?_;rintro e w3 ⟨rfl,q3⟩;have Q3:=Hd (show Q w2 w3 from q3)
  clear q3;go_wp2_with fail;refine(R3.out _).mono ?_;rintro e w4 ⟨rfl,q4⟩;have Q4:=Hd (Q3.out.trans (Q.of q4));clear q4;go_wp2_with fail;refine(Tk.out _).mono ?_;rintro e w5 ⟨rfl,q5⟩;have Q5:=Hd (Q4.out.trans q5);clear q5;go_wp2_with fail;have Ec:=oA w5 134 2 #[.int .i64 62,ah (jv n)] rfl Z;have q6:Q w5 (w5.alloc (.cells #[.int .i64 62,ah (jv n)] 134)):=Q.alloc _ _;have HR0:=Hd Ec;have Q6:=Hd q6;clear Ec q6;generalize w5.alloc (.cells #[.int .i64 62,ah (jv n)] 134)=w6 at *;generalize aD n=pn at *;generalize JB:iX n=bb at *;go_loopw [10,11] (fun v i wr=>∃k:Nat,i=.int .i64 (k:Nat)∧k≤pn∧Hid (wr.ownsRow w5.heap.size 134 2 v (j6 n k).length (aN (j6 n k)))∧Hid (Q w5 wr)) (fun _ i _=>pn-(intOf i).toNat)
  case atStart=>exact⟨0,rfl,L0 _,HR0,Q6⟩
  case round =>
   obtain⟨k,rfl,hk,HOW,HQ⟩:=hrel;by_cases ay:k<pn
   ·have bq:(k:Int)<(pn:Int):=U
    have aC:=Gl n k;rw[JB] at aC;have kG:=I8 n k;have aX:=Hd aC;clear aC;generalize j6 n k=acc at *;have hx:=Tv.out k ay;have dZ:=ajs.out;have w1:IntKind.i64.wrap (256*(k:Int))=256*(k:Int):=IntWalk.i64_in _ U;have w2:IntKind.i64.wrap (256*(k:Int)+256)=256*(k:Int)+256:=IntWalk.i64_in _ U;have n1:(256*(k:Int)).toNat=256*k:=U;have n2:(256*(k:Int)+256).toNat=256*k+256:=U;have l1:(0:Int)≤256*(k:Int):=U;have l2:256*(k:Int)≤256*(k:Int)+256:=U;have l3:256*(k:Int)+256≤(bb.length:Int):=U;have cO:∀u∈#[Value.int .i64 (63+(k:Int)),ah (aG bb k)].toList,u.oneCell'=true:=by intro u hu;simp at hu;rcases hu with rfl|rfl<;>rfl
    have dI:(acc.length+1)*24≤140737488355328:=U;have qJ:=Hd cO;have uY:=Hd dI;have eH:w5.heap.size≤wr.heap.size:=HQ.out.size;clear cO dI kG dZ;go_wp2_with fail;refine(wP.out _).mono ?_;rintro e w8 ⟨rfl,rfl⟩;go_wp2_with (at_builtin;refine bG wr ρ _ _ 102 ρ w5.heap.size 134 _ i1 (.agg #[.int .i64 0,ah []]) 2 24 underlying102 qG wH tN hy2 rfl Z Z _ _ _ ρ HOW.out #[.int .i64 (63+(k:Int)),ah (aG bb k)] ρ rfl qJ.out uY.out eH ?_)
    intro g11 jI w11 iB gu lQ jR iC;have qj:Q w5 w11:=bD HQ.out HOW.out gu (Ω _) eH;have gW:w11.ownsRow w5.heap.size 134 2 (.slice (some ⟨g11,0,none⟩) (acc.length+1) jI) (j6 n (k+1)).length (aN (j6 n (k+1))):=by
     rw[aX.out,Δ,iF,show aN [(63+k,aG bb k)]=[.int .i64 (63+(k:Int)),ah (aG bb k)] by simp[aN,mX]];exact iB
    have oz:=Hd qj;have qW:=Hd gW;clear iB gu lQ jR iC gW qj;go_wp2_with fail;go_roundw;case rel=>exact⟨k+1,by go_num,U,qW,oz⟩
    case measure=>simp[intOf];omega
   ·have bq:¬(k:Int)<(pn:Int):=U
    obtain rfl:k=pn:=U;have hq:Q w2 wr:=Q5.out.trans HQ.out;have yt:=VT.out wr _ p _ (rM.out.keep hq) (SlO.owned HOW.out (fun g hg e=>by have:=rM.out.lt g e;have:=Q5.out.size;omega))
    have HJ:=Hd yt;have Fx:=Hd hq;clear yt hq;go_wp2_with fail;refine(wP.out _).mono ?_;rintro e w8 ⟨rfl,rfl⟩;go_wp2_with fail;refine HJ.out.mono ?_;rintro e w9 ⟨rfl,h9,t9⟩;have bB:=T1.out.size;have aW:=T2.out.size;have hzq:=Fx.out.size;have hz9:=t9.size;have tt:ae F w w9:=(T1.out.step T2.out).step (((ae.br Fx.out).trans (t9.mono (own':=grow (grow F w w1) w1 w2) (fun k hk=>hk))).mono (fun k hk=>lZ bB aW hk))
    have ZF:cn w9 (grow F w w9) b j2.d:=h9.dev.mono (fun k hk=>by
     rcases hk with (hk|hk)|hk
     ·exact hk.elim .inl (fun hk=>.inr ⟨hk.1,U⟩)
     ·exact .inr ⟨U,U⟩
     ·exact .inr ⟨U,hk.2⟩)
    have HT:=Hd tt;have HD:=Hd ZF;clear tt ZF h9 t9;go_wp2_with fail;go_ret;exact⟨rfl,HD.out,HT.out⟩
 ·exact absurd rfl h0
end
section
open Go.RowKit
theorem Ot(l:List WrL)(w:WrL):(bM l w).length≤l.length+1:=by
 induction l with
 | nil=>exact Ω _
 | cons y l ih =>
  rw[bM];split
  ·simp only[Θ];omega
  ·split<;>simp only[Θ]<;>omega
theorem tW(tx:List WrL)(x:WrL):aZ tx [x]=bM tx x:=rfl
theorem Yd(tx l:List WrL)(x:WrL):aZ tx (l++[x])=bM (aZ tx l) x:=by unfold aZ;rw[V2];rfl
theorem LC(l tx:List WrL):(aZ tx l).length≤tx.length+l.length:=by
 unfold aZ;induction l generalizing tx with
 | nil=>exact Ω _
 | cons w l ih=>rw[Tu];have:=ih (bM tx w);have:=Ot tx w;simp only[Θ];omega
section
variable {w0 w:World} {F FJ:Nat→Prop} {sb b p:Nat} {tv:Value} {σ:StL}
def gw(w0 w:World)(F FJ:Nat→Prop)(lv:Value)(l:List WrL):Prop :=
 SlO w FJ lv l.length 2 (aN l)∧∀g off n cap,lv=.slice (some ⟨g,off,none⟩) n cap→0<l.length→F g∨w0.heap.size≤g
theorem gw.keep{w':World}{lv:Value}{l:List WrL}(h:gw w0 w F FJ lv l)(q:Q w w'):gw w0 w' F FJ lv l:=⟨h.1.stay q,h.2⟩
theorem gw.owned{lv:Value}{l:List WrL}{base:Nat}(h:w.ownsRow base 134 2 lv l.length (aN l))(hb:w0.heap.size≤base)(hF:∀k,FJ k→k<w0.heap.size):gw w0 w F FJ lv l:=by
 refine⟨SlO.owned h (fun g hg e=>by have:=hF g e;omega),?_⟩
 rintro g off n cap rfl hn;have h1:=aY h;obtain⟨a,cap',e,h2⟩:=h1;obtain⟨g',rfl⟩:=h2 hn;simp only[Value.slice.injEq,M3,Addr.mk.injEq] at e;obtain⟨⟨rfl,rfl,_⟩,_,_⟩:=e;have:=h.lt g rfl;exact .inr U
theorem GI(h:dp w0 FJ sb b p tv σ)(hF:∀k,FJ k∨k=sb→F k)(hT:∀g off n cap,tv=.slice (some ⟨g,off,none⟩) n cap→0<σ.tx.length→F g)(ay:∀k,F k→k<w0.heap.size)(q:Q w0 w)(lv:Value)(l:List WrL)(hl:l.length≤100000)(hr:gw w0 w F FJ lv l):
  Calls prog 183 #[au sb,lv] w fun e w'=>e=.returned (.int .i64 (if l.length>48 then 6 else 0))∧cT w' (grow F w0 w') sb b (if l.length>48 then σ else { σ with tx:=l })∧ae F w0 w':=by
 refine(X9 (h.keep q) lv l hl hr.1).mono ?_;rintro e w' ⟨rfl,hw⟩;refine⟨rfl,?_⟩;by_cases h1:l.length>48
 ·rw[Φ h1] at hw ⊢
  subst hw;exact⟨⟨FJ,p,tv,h.keep q,fun k hk=>.inl (hF k hk),fun g off n cap e hn=>.inl (hT g off n cap e hn),fun k hk=>hk.elim (fun hk=>Ψ (ay k hk) q.size) (fun hk=>hk.2)⟩,ae.br q⟩
 ·rw[η h1] at hw ⊢
  subst hw;have hs:=h.keep q;have vk:=hs.box.lt;have t:ae F w (w.setCell ⟨sb,2,none⟩ lv):=(ae.refl F w).setCell (a:=⟨sb,2,none⟩) (.inl (hF sb (.inr rfl))) lv;have hz:=t.size;have hq:=q.size;refine⟨⟨FJ,p,lv,hs.Ft lv l hr.1,fun k hk=>.inl (hF k hk),fun g off n cap e hn=>?_,fun k hk=>hk.elim (fun hk=>Ψ (ay k hk) (LS hq hz)) (fun hk=>hk.2)⟩,(ae.br q).trans t⟩
  rcases hr.2 g off n cap e hn with hg|hg
  ·exact .inl hg
  ·refine .inr ⟨hg,?_⟩
   obtain⟨g',off',⟨cap',e'⟩,h2,_⟩:=hr.1.2 hn;rw[e] at e';simp only[Value.slice.injEq,M3,Addr.mk.injEq] at e';obtain⟨⟨rfl,_,_⟩,_,_⟩:=e';omega
theorem Ye(h:dp w0 FJ sb b p tv σ)(hF:∀k,FJ k∨k=sb→F k)(hT:∀g off n cap,tv=.slice (some ⟨g,off,none⟩) n cap→0<σ.tx.length→F g)(ay:∀k,F k→k<w0.heap.size)(q:Q w0 w)(hk:fY σ)(hd:σ.dead=false)(a c:Nat)(on:Bool)(L8:a+c≤σ.n):
  Calls prog 108 #[au sb,.int .i64 (a:Nat),.int .i64 (c:Nat),.bool on] w fun e w'=>e=.returned (.int .i64 (σ.bh a c on).2)∧cT w' (grow F w0 w') sb b (σ.bh a c on).1∧ae F w0 w':=by
 have uQ:=fun (W:World) (q:Q w0 W)=>AA (h.keep q) hk hd
 have dZ:=fun (W:World) (q:Q w0 W)=>nK (h.keep q)
 have iH:=hk.num.max;have lF:=hk.num.big;have nO:=fun (W:World)=>Az σ.n W U
 have iU:=hk.num.map;have u7:=jQ σ.n U;have iq:=(jH σ.n lF iH).2;have rD:=fun (W:World)=>MO σ.ai a c on W U U
 have Ck:∀k,FJ k→k<w0.heap.size:=fun k hk=>ay k (hF k (.inl hk))
 have qN:=fun (W:World) (q:Q w0 W) (lv:Value) (l:List WrL) (hl:l.length≤100000) (hr:gw w0 W F FJ lv l)=>GI h hF hT ay q lv l hl hr
 obtain⟨k1,k2,k3,k4⟩:=hk.data hd;have hlen:=fun (k:Nat)=>(show(aZ σ.tx (bV σ.ai (bF σ.ai a on c) k)).length≤1000+k from by
  have:=LC (bV σ.ai (bF σ.ai a on c) k) σ.tx;have:=pG σ.ai (bF σ.ai a on c) k;omega)
 have afm:=fun (k:Nat)=>Eu (bV σ.ai (bF σ.ai a on c) k) σ.tx k3
 have Wq:=fun (W:World) (lv:Value) (k:Nat) (s:Bytes) (i:Nat) (hi:i≤1000000) (hs:Sl W lv (aZ σ.tx (bV σ.ai (bF σ.ai a on c) k)).length 2 (aN (aZ σ.tx (bV σ.ai (bF σ.ai a on c) k)))) (kW:k≤2) =>
  Ol W lv _ i s hs (afm k) (by have:=LC (bV σ.ai (bF σ.ai a on c) k) σ.tx;have:=pG σ.ai (bF σ.ai a on c) k;have:=(hk.num.num hd).2.2.2.2.1;omega) hi
 have afn:(bF σ.ai a on c).length=σ.ai.length:=jL _ _ _ _;have OT:∀k,aZ σ.tx (bV σ.ai (bF σ.ai a on c) (k+1))=if aG (bF σ.ai a on c) k=aG σ.ai k then aZ σ.tx (bV σ.ai (bF σ.ai a on c) k) else bM (aZ σ.tx (bV σ.ai (bF σ.ai a on c) k)) (63+k,aG (bF σ.ai a on c) k):=fun k=>by
  rw[Gi];split
  ·rw[NF]
  ·rw[Yd]
 have hex:∀(b:Bytes) (i:Nat),({ data:=b.toArray }:ByteArray).extract (256*i) (256*i+256)=⟨(aG b i).toArray⟩:=fun b i=>by
  rw[eY,show 256*i+256-256*i=256 by omega,UX 256 i];rfl
 have iQ:(σ.bh a c on).2=(if (aZ σ.tx (bV σ.ai (bF σ.ai a on c) (aD σ.n))).length>48 then 6 else 0)∧∀w',cT w' (grow F w0 w') sb b (if (aZ σ.tx (bV σ.ai (bF σ.ai a on c) (aD σ.n))).length>48 then σ else { σ with tx:=aZ σ.tx (bV σ.ai (bF σ.ai a on c) (aD σ.n)) })→cT w' (grow F w0 w') sb b (σ.bh a c on).1:=by
  have e:σ.turned (bF σ.ai a on c)=bV σ.ai (bF σ.ai a on c) (aD σ.n):=rfl;unfold StL.bh StL.touch;rw[e];by_cases hl:(aZ σ.tx (bV σ.ai (bF σ.ai a on c) (aD σ.n))).length>48
  ·rw[Φ hl,Φ hl]
   exact⟨rfl,fun w' h=>by rw[Φ hl] at h;exact h⟩
  ·rw[η hl,η hl]
   refine⟨rfl,fun w' h=>?_⟩
   rw[η hl] at h;obtain⟨FJ',p',tv',h1,h2,h3,h4⟩:=h;exact⟨FJ',p',tv',h1.congr rfl rfl rfl,h2,h3,h4⟩
 have Iz:gw w0 w0 F FJ tv (aZ σ.tx (bV σ.ai (bF σ.ai a on c) 0)):=⟨h.tx,fun g off n cap e hn=>.inl (hT g off n cap e hn)⟩
 have kU:=fun (W W':World) (v:Value) (l:List WrL) (q:Q w0 W) (hr:W'.ownsRow W.heap.size 134 2 v l.length (aN l))=>(gw.owned hr q.size Ck:gw w0 W' F FJ v l)
 obtain⟨c0,c1,c2,f0,f1,f2⟩:=h.box.c3f;rw[iQ.1];have Ie:=Hd iQ.2;have Ak:=Hd uQ;have iV:=Hd dZ;have wP:=Hd nO;have Mv:=Hd rD;have FD:=Hd qN;have HWI:=Hd Wq;have HSX:=Hd OT;have BF:=Hd hex;have lu:=Hd Iz;have Sd:=Hd kU;have ajt:=Hd hlen;have C2:=Hd c2;have QQ0:=Hd q;have Vx:w0.cell? ⟨sb,2,none⟩=some tv:=c2;have ana:(bF σ.ai a on c).length=256*aD σ.n:=by rw[afn,iU]
 clear iQ uQ dZ nO rD qN Wq OT hex Iz kU hlen afm Ck h hF hT ay q hk hd k1 k2 k3 k4 c0 c1 c2 f0 f1 f2 afn L8 u7;generalize bF σ.ai a on c=bb at *;generalize σ.ai=mm at *;generalize aD σ.n=pn at *;generalize Wi:(if (aZ σ.tx (bV mm bb pn)).length>48 then(6:Int) else 0)=ev
 have HEV:=Hd Wi;clear Wi;have dI:=aI QQ0.out Vx;go_enter func108,ntmps108;go_wp2_with fail;refine(Ak.out _ QQ0.out).mono ?_;rintro e w1 ⟨rfl,q1⟩;have Q1:=Hd (QQ0.out.trans q1);clear q1;go_wp2_with fail;refine(Mv.out _).mono ?_;rintro e w2 ⟨rfl,q2⟩;have Q2:=Hd (Q1.out.trans (show Q w1 w2 from q2))
 clear q2;have dI:=aI Q2.out Vx;go_wp2_with fail;go_loopw [12,13] (fun lv iv wr=>∃k:Nat,iv=.int .i64 (k:Nat)∧k≤pn∧Hid (gw w0 wr F FJ lv (aZ σ.tx (bV mm bb k)))∧Hid (Q w0 wr)) (fun _ iv _=>pn-(intOf iv).toNat)
 case atStart=>exact⟨0,rfl,L0 _,Hd (lu.out.keep Q2.out),Q2⟩
 case round =>
  obtain⟨k,rfl,hk,HR,HQ⟩:=hrel;by_cases ay:k<pn
  ·have bq:(k:Int)<(pn:Int):=U
   have OT:=HSX.out k;have sJ:=BF.out bb k;have mh:=BF.out mm k;have w1':IntKind.i64.wrap (256*(k:Int))=256*(k:Int):=IntWalk.i64_in _ U;have w2':IntKind.i64.wrap (256*(k:Int)+256)=256*(k:Int)+256:=IntWalk.i64_in _ U;have w3':IntKind.i64.wrap (63+(k:Int))=63+(k:Int):=IntWalk.i64_in _ U;have n1:(256*(k:Int)).toNat=256*k:=U;have n2:(256*(k:Int)+256).toNat=256*k+256:=U;have l1:(0:Int)≤256*(k:Int):=U;have l2:256*(k:Int)≤256*(k:Int)+256:=U;have l3:256*(k:Int)+256≤(bb.length:Int):=U;have l4:256*(k:Int)+256≤(mm.length:Int):=U;have Cz:=fun (W:World) (lv:Value) (hs:Sl W lv (aZ σ.tx (bV mm bb k)).length 2 (aN (aZ σ.tx (bV mm bb k))))=>HWI.out W lv k (aG bb k) (63+k) U hs U
   rw[show((63+k:Nat):Int)=63+(k:Int) by omega] at Cz
   obtain⟨la,lc,rfl,_⟩:=HR.out.1.value;have HWK:=Hd Cz;have HS:=Hd OT;clear Cz OT;generalize aZ σ.tx (bV mm bb k)=lk at *;generalize hpb:aG bb k=pb at *;generalize qH:aG mm k=pm at *;clear hpb qH;by_cases jT:pb=pm
   ·have jm:=HS.out
    rw[Φ jT] at jm;have qD:=Hd jm;have aeS:(pb==pm)=true:=MY.2 jT;clear jm HS jT;go_wp2_with fail;refine(iV.out _ HQ.out).mono ?_;rintro e w3 ⟨rfl,rfl⟩;go_wp2_with fail;refine(wP.out _).mono ?_;rintro e w3 ⟨rfl,rfl⟩;go_wp2_with fail;go_roundw;case rel=>exact⟨k+1,by go_num,U,by rw[qD.out];exact HR,HQ⟩
    case measure=>simp[intOf];omega
   ·have jm:=HS.out
    rw[η jT] at jm;have qD:=Hd jm;have aeS:(pb==pm)=false:=SZ jT;clear jm HS jT;go_wp2_with fail;refine(iV.out _ HQ.out).mono ?_;rintro e w3 ⟨rfl,rfl⟩;go_wp2_with fail;refine(wP.out _).mono ?_;rintro e w3 ⟨rfl,rfl⟩;go_wp2_with fail;refine(HWK.out _ _ HR.out.1.1).mono ?_;rintro e w4 ⟨v4,rfl,h4,q4⟩;have RZ:=Hd (Sd.out wr w4 v4 _ HQ.out h4);have lH:=Hd (HQ.out.trans q4);clear h4 q4;go_wp2_with fail;go_roundw;case rel=>exact⟨k+1,by go_num,U,by rw[qD.out];exact RZ,lH⟩
    case measure=>simp[intOf];omega
  ·have bq:¬(k:Int)<(pn:Int):=U
   obtain rfl:k=pn:=U;have qN:=FD.out wr HQ.out _ _ (by have:=ajt.out k;omega) HR.out
   rw[HEV.out] at qN;have fG:=Hd qN;clear qN;go_wp2_with fail;refine(iV.out _ HQ.out).mono ?_;rintro e w3 ⟨rfl,rfl⟩;go_wp2_with fail;refine(wP.out _).mono ?_;rintro e w3 ⟨rfl,rfl⟩;go_wp2_with fail;refine fG.out.mono ?_;rintro e w5 ⟨rfl,h5,t5⟩;have H5:=Hd h5;have T5:=Hd t5;clear h5 t5;go_wp2_with fail;go_ret;exact⟨rfl,Ie.out _ H5.out,T5.out⟩
end
end
section
open Go.RowKit
section
variable {w:World} {F:Nat→Prop} {sb b:Nat} {σ:StL}
theorem cT.same{w':World}(h:cT w F sb b σ)(q:Q w w'):cT w' (grow F w w') sb b σ∧ae F w w':=by
 obtain⟨FJ,p,tv,h1,h2,h3,h4⟩:=h;exact⟨⟨FJ,p,tv,h1.keep q,fun k hk=>.inl (h2 k hk),fun g off n cap e hn=>.inl (h3 g off n cap e hn),fun k hk=>hk.elim (fun hk=>Ψ (h4 k hk) q.size) (fun hk=>hk.2)⟩,ae.br q⟩
theorem StL.lR(hs:σ.state true=0):σ.dead=false∧σ.open_=true:=by
 unfold StL.state at hs;cases hd:σ.dead with
 | true=>rw[hd,Φ rfl] at hs;exact absurd hs Z
 | false =>
  rw[hd,η Z] at hs;cases ho:σ.open_ with
  | true=>exact⟨rfl,rfl⟩
  | false=>rw[ho,η Z] at hs;exact absurd hs Z
theorem Vm(h:cT w F sb b σ)(hk:fY σ)(i:Int)(s:Bytes)(xH:s.length≤1000000000000):
  Calls prog 110 #[au sb,.int .i64 i,ah s] w fun e w'=>e=.returned (.int .i64 (σ.write i s).2)∧cT w' (grow F w w') sb b (σ.write i s).1∧ae F w w':=by
 have dG:=fun (W:World) (q:Q w W)=>h.same q
 obtain⟨FJ,p,tv,h1,h2,h3,h4⟩:=h;have dz:=EO h1;have Ik:=Oq h1 hk.num.max i;by_cases hs:σ.state true=0
 ·obtain⟨hd,ho⟩:=StL.lR hs
  rw[hs] at dz;cases gX:σ.cQ i with
  | false =>
   have hw:σ.write i s=(σ,2):=by unfold StL.write;rw[η (by rw[hs];decide),gX,Φ rfl]
   rw[gX] at Ik;rw[hw];have iO:=Hd dz;have Um:=Hd Ik;have HS:=Hd dG;clear dz Ik dG h1 h2 h3 h4 hk hs hd ho gX hw;go_enter func110,ntmps110;go_wp2_with fail;refine iO.out.mono ?_;rintro e w1 ⟨rfl,rfl⟩;go_wp2_with fail;refine Um.out.mono ?_;rintro e w1 ⟨rfl,rfl⟩;go_wp2_with fail;go_ret;exact⟨rfl,HS.out _ (Q.refl _)⟩
  | true =>
   have CX:(ak σ.n:Int)≤i∧i<(σ.n:Int):=Re gX;have iH:=hk.num.max;have uQ:=AA h1 hk hd;have hge:=fun (W:World)=>sW σ.ai i W (by have:=hk.num.map;have:=jQ σ.n (by have:=hk.num.big;omega);omega) U
   have uP:mH σ.ai i=bit σ.ai i.toNat:=by unfold mH;rw[MM (by omega:0≤i),acd]
   rw[uP] at hge;rw[gX] at Ik;cases hb:bit σ.ai i.toNat with
   | false =>
    have hw:σ.write i s=(σ,10):=by unfold StL.write;rw[η (by rw[hs];decide),gX,η Z,hb,Φ rfl]
    rw[hb] at hge;rw[hw];have iO:=Hd dz;have Um:=Hd Ik;have HS:=Hd dG;have Ak:=Hd uQ;have wN:=Hd hge;clear dz Ik dG uQ hge h1 h2 h3 h4 hk hs hd ho gX hw hb uP;generalize σ.ai=mm at *;go_enter func110,ntmps110;go_wp2_with fail;refine iO.out.mono ?_;rintro e w1 ⟨rfl,rfl⟩;go_wp2_with fail;refine Um.out.mono ?_;rintro e w1 ⟨rfl,rfl⟩;go_wp2_with fail;refine Ak.out.mono ?_;rintro e w1 ⟨rfl,q1⟩;have Q1:=Hd q1;clear q1;go_wp2_with fail;refine(wN.out _).mono ?_;rintro e w2 ⟨rfl,rfl⟩;go_wp2_with fail;go_ret;exact⟨rfl,HS.out _ Q1.out⟩
   | true =>
    rw[hb] at hge;by_cases hl:s.length=256
    ·have hw:σ.write i s=σ.touch [(i.toNat,s)]:=by unfold StL.write;rw[η (by rw[hs];decide),gX,η Z,hb,η Z,η U]
     obtain⟨k1,k2,k3,k4⟩:=hk.data hd;have aju:=(hk.num.num hd).2.2.2.2.1;have Ck:∀k,FJ k→k<w.heap.size:=fun k hk=>h4 k (h2 k (.inl hk))
     have Wq:=fun (W:World) (q:Q w W)=>Ol W tv σ.tx i.toNat s (h1.tx.1.stays q) k3 k4 U
     rw[show((i.toNat:Nat):Int)=i by omega] at Wq
     have hlw:=Ot σ.tx (i.toNat,s);have qN:=fun (W W':World) (v:Value) (q:Q w W) (q':Q w W') (hr:W'.ownsRow W.heap.size 134 2 v (bM σ.tx (i.toNat,s)).length (aN (bM σ.tx (i.toNat,s))))=>GI h1 h2 h3 h4 q' v (bM σ.tx (i.toNat,s)) U (gw.owned hr q.size Ck)
     have iQ:(σ.touch [(i.toNat,s)]).2=(if (bM σ.tx (i.toNat,s)).length>48 then 6 else 0)∧(σ.touch [(i.toNat,s)]).1=(if (bM σ.tx (i.toNat,s)).length>48 then σ else { σ with tx:=bM σ.tx (i.toNat,s) }):=by
      unfold StL.touch;rw[tW];split<;>exact⟨rfl,rfl⟩
     obtain⟨a0,cap0,hv,_⟩:=h1.tx.value;subst hv;obtain⟨c0,c1,c2,f0,f1,f2⟩:=h1.box.c3f;have hli:((s.length:Int) != 256)=false:=by rw[bne,MY.2 U];rfl
     have hl5:s.length≤256:=U;rw[hw,iQ.1,iQ.2];have iO:=Hd dz;have Um:=Hd Ik;have Ak:=Hd uQ;have wN:=Hd hge;have HWI:=Hd Wq;have FD:=Hd qN;clear dz Ik dG uQ hge h1 h2 h3 h4 hk hs hd ho gX hw hb uP iQ Wq qN Ck k1 k2 k3 k4 c0 c1 f0 f1 f2 hlw aju xH;generalize Wi:(if (bM σ.tx (i.toNat,s)).length>48 then(6:Int) else 0)=ev at *
     generalize hsv:(if (bM σ.tx (i.toNat,s)).length>48 then σ else { σ with tx:=bM σ.tx (i.toNat,s) })=sv at *
     generalize bM σ.tx (i.toNat,s)=lw at *;clear Wi hsv;generalize σ.ai=mm at *;go_enter func110,ntmps110;go_wp2_with fail;refine iO.out.mono ?_;rintro e w1 ⟨rfl,rfl⟩;go_wp2_with fail;refine Um.out.mono ?_;rintro e w1 ⟨rfl,rfl⟩;go_wp2_with fail;refine Ak.out.mono ?_;rintro e w1 ⟨rfl,q1⟩;have Q1:=Hd q1;clear q1;have y2:=aI Q1.out c2;go_wp2_with fail;refine(wN.out _).mono ?_;rintro e w2 ⟨rfl,rfl⟩;go_wp2_with fail;refine(HWI.out _ Q1.out).mono ?_;rintro e w3 ⟨v3,rfl,h3,q3⟩;have qN:=FD.out _ _ v3 Q1.out (Q1.out.trans q3) h3;have fG:=Hd qN;clear qN h3 q3;go_wp2_with fail;refine fG.out.mono ?_;rintro e w4 ⟨rfl,h5,t5⟩;have H5:=Hd h5;have T5:=Hd t5;clear h5 t5;go_wp2_with fail;go_ret;exact⟨rfl,H5.out,T5.out⟩
    ·have hw:σ.write i s=(σ,3):=by unfold StL.write;rw[η (by rw[hs];decide),gX,η Z,hb,η Z,Φ hl]
     have hli:((s.length:Int) != 256)=true:=by rw[bne,Γ.2 U];rfl
     rw[hw];have iO:=Hd dz;have Um:=Hd Ik;have HS:=Hd dG;have Ak:=Hd uQ;have wN:=Hd hge;clear dz Ik dG uQ hge h1 h2 h3 h4 hk hs hd ho gX hw hb uP hl;generalize σ.ai=mm at *;go_enter func110,ntmps110;go_wp2_with fail;refine iO.out.mono ?_;rintro e w1 ⟨rfl,rfl⟩;go_wp2_with fail;refine Um.out.mono ?_;rintro e w1 ⟨rfl,rfl⟩;go_wp2_with fail;refine Ak.out.mono ?_;rintro e w1 ⟨rfl,q1⟩;have Q1:=Hd q1;clear q1;go_wp2_with fail;refine(wN.out _).mono ?_;rintro e w2 ⟨rfl,rfl⟩;go_wp2_with fail;go_ret;exact⟨rfl,HS.out _ Q1.out⟩
 ·have hw:σ.write i s=(σ,σ.state true):=by unfold StL.write;rw[Φ hs]
  rw[hw];simp only;have aU:(σ.state true==0)=false:=Γ.2 hs;have Du:(σ.state true != 0)=true:=by rw[bne,aU];rfl
  have iO:=Hd dz;have HS:=Hd dG;clear dz Ik dG h1 h2 h3 h4 hk hw hs;generalize σ.state true=st at *;go_enter func110,ntmps110;go_wp2_with fail;refine iO.out.mono ?_;rintro e w1 ⟨rfl,rfl⟩;go_wp2_with fail;go_ret;exact⟨rfl,HS.out _ (Q.refl _)⟩
end
end
section
open Go.RowKit
section
variable {w:World} {F:Nat→Prop} {sb b:Nat} {σ:StL}
theorem Vn(h:cT w F sb b σ)(hk:fY σ)(c:Int)(hc0 : -9223372036854775808≤c)(cO:c≤9223372036854775807):
  Calls prog 55 #[au sb,.int .i64 c] w fun e w'=>e=.returned (.tuple #[.int .i64 (σ.alloc c).2.1,.int .i64 (σ.alloc c).2.2])∧cT w' (grow F w w') sb b (σ.alloc c).1∧ae F w w':=by
 have dG:=fun (W:World) (q:Q w W)=>h.same q
 obtain⟨FJ,p,tv,h1,h2,h3,h4⟩:=h;have dz:=EO h1;by_cases hs:σ.state true=0
 ·obtain⟨hd,ho⟩:=StL.lR hs
  rw[hs] at dz;by_cases hc:c<1
  ·have hw:σ.alloc c=(σ,0,1):=by unfold StL.alloc;rw[η (by rw[hs];decide),Φ hc]
   rw[hw];have iO:=Hd dz;have HS:=Hd dG;clear dz dG h1 h2 h3 h4 hk hs hd ho hw;go_enter func55,ntmps55;go_wp2_with fail;refine iO.out.mono ?_;rintro e w1 ⟨rfl,rfl⟩;go_wp2_with fail;go_ret2;exact⟨rfl,HS.out _ (Q.refl _)⟩
  ·have uQ:=AA h1 hk hd
   have dZ:=fun (W:World) (q:Q w W)=>nK (h1.keep q)
   have iH:=hk.num.max;have eP:=fun (W:World)=>A7 σ.ai (σ.n:Nat) c W (by have:=hk.num.map;have:=jQ σ.n (by have:=hk.num.big;omega);omega) U U
   have dQ:qh σ.ai (σ.n:Nat) c=i7 (fK σ.ai c.toNat σ.n):=by unfold qh;rw[η hc,JX hk.num]
   rw[dQ] at eP;cases hf:fK σ.ai c.toNat σ.n with
   | none =>
    have hw:σ.alloc c=(σ,0,9):=by unfold StL.alloc;rw[η (by rw[hs];decide),η hc,hf]
    rw[hf] at eP;rw[hw];simp only[i7] at eP;have iO:=Hd dz;have HS:=Hd dG;have Ak:=Hd uQ;have iV:=Hd dZ;have iW:=Hd eP;clear dz dG uQ dZ eP h1 h2 h3 h4 hk hs hd ho hw hf dQ;generalize σ.ai=mm at *;generalize σ.n=n at *;go_enter func55,ntmps55;go_wp2_with fail;refine iO.out.mono ?_;rintro e w1 ⟨rfl,rfl⟩;go_wp2_with fail;refine Ak.out.mono ?_;rintro e w1 ⟨rfl,q1⟩;have Q1:=Hd q1;clear q1;go_wp2_with fail;refine(iV.out _ Q1.out).mono ?_;rintro e w2 ⟨rfl,rfl⟩;go_wp2_with fail;refine(iW.out _).mono ?_;rintro e w2 ⟨rfl,q2⟩;have Q2:=Hd (Q1.out.trans (show Q w1 w2 from q2))
    clear q2;go_wp2_with fail;go_ret2;exact⟨rfl,HS.out _ Q2.out⟩
   | some a =>
    have L8:=(Es _ _ _ _ hf).2.1;have yg:=fun (W:World) (q:Q w W)=>Ye h1 h2 h3 h4 q hk hd a c.toNat true U
    rw[show((c.toNat:Nat):Int)=c by omega] at yg
    have hw:σ.alloc c=if (σ.bh a c.toNat true).2≠0 then((σ.bh a c.toNat true).1,0,(σ.bh a c.toNat true).2) else((σ.bh a c.toNat true).1,((a:Nat):Int),0):=by unfold StL.alloc;rw[η (by rw[hs];decide),η hc,hf]
    rw[hf] at eP;simp only[i7] at eP;rw[hw];have iO:=Hd dz;have Ak:=Hd uQ;have iV:=Hd dZ;have iW:=Hd eP;have Hg:=Hd yg;clear dz dG uQ dZ eP yg h1 h2 h3 h4 hk hs hd ho hw hf dQ L8;generalize σ.bh a c.toNat true=tr at *;obtain⟨σ2,te⟩:=tr;simp only at Hg ⊢;generalize σ.ai=mm at *;generalize σ.n=n at *;by_cases ht:te=0
    ·subst ht
     rw[η κ];go_enter func55,ntmps55;go_wp2_with fail;refine iO.out.mono ?_;rintro e w1 ⟨rfl,rfl⟩;go_wp2_with fail;refine Ak.out.mono ?_;rintro e w1 ⟨rfl,q1⟩;have Q1:=Hd q1;clear q1;go_wp2_with fail;refine(iV.out _ Q1.out).mono ?_;rintro e w2 ⟨rfl,rfl⟩;go_wp2_with fail;refine(iW.out _).mono ?_;rintro e w2 ⟨rfl,q2⟩;have Q2:=Hd (Q1.out.trans (show Q w1 w2 from q2))
     clear q2;go_wp2_with fail;refine(Hg.out _ Q2.out).mono ?_;rintro e w3 ⟨rfl,h3,t3⟩;have H3:=Hd h3;have T3:=Hd t3;clear h3 t3;go_wp2_with fail;go_ret2;exact⟨rfl,H3.out,T3.out⟩
    ·rw[Φ ht]
     have aU:(te==0)=false:=Γ.2 ht;have Du:(te != 0)=true:=by rw[bne,aU];rfl
     clear ht;go_enter func55,ntmps55;go_wp2_with fail;refine iO.out.mono ?_;rintro e w1 ⟨rfl,rfl⟩;go_wp2_with fail;refine Ak.out.mono ?_;rintro e w1 ⟨rfl,q1⟩;have Q1:=Hd q1;clear q1;go_wp2_with fail;refine(iV.out _ Q1.out).mono ?_;rintro e w2 ⟨rfl,rfl⟩;go_wp2_with fail;refine(iW.out _).mono ?_;rintro e w2 ⟨rfl,q2⟩;have Q2:=Hd (Q1.out.trans (show Q w1 w2 from q2))
     clear q2;go_wp2_with fail;refine(Hg.out _ Q2.out).mono ?_;rintro e w3 ⟨rfl,h3,t3⟩;have H3:=Hd h3;have T3:=Hd t3;clear h3 t3;go_wp2_with fail;go_ret2;exact⟨rfl,H3.out,T3.out⟩
 ·have hw:σ.alloc c=(σ,0,σ.state true):=by unfold StL.alloc;rw[Φ hs]
  rw[hw];simp only;have aU:(σ.state true==0)=false:=Γ.2 hs;have Du:(σ.state true != 0)=true:=by rw[bne,aU];rfl
  have iO:=Hd dz;have HS:=Hd dG;clear dz dG h1 h2 h3 h4 hk hw hs;generalize σ.state true=st at *;go_enter func55,ntmps55;go_wp2_with fail;refine iO.out.mono ?_;rintro e w1 ⟨rfl,rfl⟩;go_wp2_with fail;go_ret2;exact⟨rfl,HS.out _ (Q.refl _)⟩
theorem cT.lh(h:cT w F sb b σ):∃FJ p tv,dp w FJ sb b p tv σ∧cT ((w.setCell ⟨sb,1,none⟩ (.bool false)).setCell ⟨sb,2,none⟩ (.slice none 0 0)) (grow F w ((w.setCell ⟨sb,1,none⟩ (.bool false)).setCell ⟨sb,2,none⟩ (.slice none 0 0))) sb b σ.close∧ae F w ((w.setCell ⟨sb,1,none⟩ (.bool false)).setCell ⟨sb,2,none⟩ (.slice none 0 0)):=by
 obtain⟨FJ,p,tv,h1,h2,h3,h4⟩:=h;have t:ae F w ((w.setCell ⟨sb,1,none⟩ (.bool false)).setCell ⟨sb,2,none⟩ (.slice none 0 0)):=((ae.refl F w).setCell (a:=⟨sb,1,none⟩) (.inl (h2 sb (.inr rfl))) _).setCell (a:=⟨sb,2,none⟩) (.inl (h2 sb (.inr rfl))) _;exact⟨FJ,p,tv,h1,⟨FJ,p,_,h1.shut,fun k hk=>.inl (h2 k hk),fun g off n cap e hn=>absurd hn (TE 0),fun k hk=>hk.elim (fun hk=>Ψ (h4 k hk) t.size) (fun hk=>hk.2)⟩,t⟩
theorem cT.ends(h:cT w F sb b σ)(τ:StL)(h1:τ.open_=σ.open_)(h2:τ.tx=σ.tx)(h3:τ.j=σ.j):cT w F sb b τ:=by
 obtain⟨FJ,p,tv,a,c,d,e⟩:=h;exact⟨FJ,p,tv,a.congr h1 h2 h3,c,fun g off n cap x hn=>d g off n cap x (by rw[←h2];exact hn),e⟩
theorem Vo(h:cT w F sb b σ):
  Calls prog 111 #[au sb] w fun e w'=>e=.returned (.tuple #[])∧cT w' (grow F w w') sb b σ.close∧ae F w w':=by
 obtain⟨FJ,p,tv,h1,h2,t⟩:=h.lh;refine(Jo h1).mono ?_;rintro e w' ⟨rfl,rfl⟩;exact⟨rfl,h2,t⟩
theorem Vp(h:cT w F sb b σ):
  Calls prog 54 #[au sb] w fun e w'=>e=.returned (.int .i64 σ.begin.2)∧cT w' (grow F w w') sb b σ.begin.1∧ae F w w':=by
 obtain⟨FJ,p,tv,h1,h2,h3,h4⟩:=h;refine(Vl h1).mono ?_;rintro e w' ⟨rfl,h5,hw⟩;have t:ae F w w':=by
  rcases hw with rfl|⟨v,rfl⟩
  ·exact ae.refl _ _
  ·exact(ae.refl F w).setCell (a:=⟨sb,1,none⟩) (.inl (h2 sb (.inr rfl))) _
 have mO:σ.begin.1.tx=σ.tx:=by unfold StL.begin;split<;>rfl
 exact⟨rfl,⟨FJ,p,tv,h5,fun k hk=>.inl (h2 k hk),fun g off n cap e hn=>.inl (h3 g off n cap e (by rw[←mO];exact hn)),fun k hk=>hk.elim (fun hk=>Ψ (h4 k hk) t.size) (fun hk=>hk.2)⟩,t⟩
theorem Yf(h:cT w F sb b σ)(hk:fY σ)(i:Int):
  Calls prog 117 #[au sb,.int .i64 i] w fun e w'=>e=.returned (.tuple #[ah (σ.read i).1,.int .i64 (σ.read i).2])∧cT w' (grow F w w') sb b σ∧ae F w w':=by
 have dG:=fun (W:World) (q:Q w W)=>h.same q
 obtain⟨FJ,p,tv,h1,h2,h3,h4⟩:=h;refine(Ya h1 hk i).mono ?_;rintro e w' ⟨rfl,q⟩;exact⟨rfl,dG _ q⟩
end
end
section
open Go.RowKit
section
variable {w:World} {F:Nat→Prop} {sb b:Nat} {σ:StL}
theorem cT.parts(h:cT w F sb b σ):∃FJ p tv,dp w FJ sb b p tv σ∧(∀k,FJ k∨k=sb→F k)∧(∀k,F k→k<w.heap.size):=by
 obtain⟨FJ,p,tv,h1,h2,h3,h4⟩:=h;exact⟨FJ,p,tv,h1,h2,h4⟩
theorem Rv(h:cT w F sb b σ)(hk:fY σ):
  Calls prog 57 #[au sb] w fun e w'=>e=.returned (.int .i64 σ.bj.2)∧cT w' (grow F w w') sb b σ.bj.1∧ae F w w':=by
 have dG:=fun (W:World) (q:Q w W)=>h.same q
 have aa7:=Vo h;have YZ:=h.lh;obtain⟨FJ,p,tv,h1,h2,h3,h4⟩:=h;have dz:=EO h1;by_cases hs:σ.state true=0
 ·obtain⟨hd,ho⟩:=StL.lR hs
  rw[hs] at dz;obtain⟨jn,ju,jh,ht,hl,hr,hg⟩:=hk.num.num hd;have iH:=hk.num.max;obtain⟨ta,tc,rfl,_⟩:=h1.tx.value;obtain⟨c0,c1,c2,f0,f1,f2⟩:=h1.box.c3f;have uU:=Jo h1;have t:ae F w ((w.setCell ⟨sb,1,none⟩ (.bool false)).setCell ⟨sb,2,none⟩ (.slice none 0 0)):=((ae.refl F w).setCell (a:=⟨sb,1,none⟩) (.inl (h2 sb (.inr rfl))) _).setCell (a:=⟨sb,2,none⟩) (.inl (h2 sb (.inr rfl))) _;have Ee:=h1.shut;have dP:SlO ((w.setCell ⟨sb,1,none⟩ (.bool false)).setCell ⟨sb,2,none⟩ (.slice none 0 0)) FJ (.slice ta σ.tx.length tc) σ.tx.length 2 (aN σ.tx):=by
   have hn:=Dr h1.tx.1 h1.box h1.slice;refine⟨(h1.tx.1.set _ hn).set _ hn,fun hx=>?_⟩
   obtain⟨g,off,e,y1,y2⟩:=h1.tx.2 hx;exact⟨g,off,e,Ψ y1 t.size,y2⟩
  generalize (w.setCell ⟨sb,1,none⟩ (.bool false)).setCell ⟨sb,2,none⟩ (.slice none 0 0)=w2 at *;obtain⟨e0,_⟩:=Ee.box.c3f;by_cases hx:σ.tx=[]
  ·have hw:σ.bj=(σ.close,0):=by unfold StL.bj;rw[η (by rw[hs];decide),Φ hx]
   have uX:(σ.tx.length:Int)=0:=by rw[hx];rfl
   have hend:cT w2 (grow F w w2) sb b σ.close:=⟨FJ,p,_,Ee,fun k hk=>.inl (h2 k hk),fun g off n cap e hn=>absurd hn (TE 0),fun k hk=>hk.elim (fun hk=>Ψ (h4 k hk) t.size) (fun hk=>hk.2)⟩
   rw[hw];have iO:=Hd dz;have Hf:=Hd uU;have HE:=Hd hend;have HT:=Hd t;have mG:((σ.tx.length:Int)==0)=true:=by rw[uX];rfl
   clear dz uU hend t h1 h2 h3 h4 hk hs hd ho hw jn ju jh ht hl hr hg Ee dP dG aa7 YZ hx;go_enter func57,ntmps57;go_wp2_with fail;refine iO.out.mono ?_;rintro e w1 ⟨rfl,rfl⟩;go_wp2_with fail;refine Hf.out.mono ?_;rintro e w3 ⟨rfl,rfl⟩;go_wp2_with fail;go_ret;exact⟨rfl,HE.out,HT.out⟩
  ·have Ym:0<σ.tx.length:=UV.2 hx
   have hj:=Jm w2 FJ p b σ.j (.slice ta σ.tx.length tc) σ.tx Ee.jr jn ⟨Ym,hl,fun x hx=>⟨by have:=(ht x hx).2.1;omega,(ht x hx).2.2⟩⟩ (fun x hx=>⟨by rw[jh];have:=(ht x hx).1;omega,(ht x hx).2.1⟩) dP ju
   have zD:=fun (w3:World) (qF:bp w3 (grow FJ w2 w3) p b (σ.j.bj σ.tx).1) (t3:ae FJ w2 w3)=>(show cT w3 (grow F w w3) sb b { σ.close with j:=(σ.j.bj σ.tx).1 }∧ae F w w3 from by
    have z1:=t.size;have z2:=t3.size;have zs:=Ee.box.lt;refine⟨⟨grow FJ w2 w3,p,.slice none 0 0,⟨t3.blk Ee.box h1.sF,qF,fun hk=>hk.elim h1.sF (fun hk=>U),⟨Sl.nil _ _,fun hn=>absurd hn (TE 0)⟩⟩,fun k hk=>?_,fun g off n cap e hn=>absurd hn (TE 0),fun k hk=>hk.elim (fun hk=>by have:=h4 k hk;omega) (fun hk=>hk.2)⟩,t.trans (t3.mono (fun k hk=>h2 k (.inl hk)))⟩
    rcases hk with (hk|hk)|hk
    ·exact .inl (h2 k (.inl hk))
    ·exact .inr ⟨U,hk.2⟩
    ·exact .inl (h2 k (.inr hk)))
   have hw:σ.bj.2=(σ.j.bj σ.tx).2∧∀w3,cT w3 (grow F w w3) sb b { σ.close with j:=(σ.j.bj σ.tx).1 }→cT w3 (grow F w w3) sb b σ.bj.1:=by
    unfold StL.bj;rw[η (by rw[hs];decide),η hx]
    split
    ·rename_i h0
     exact⟨h0.symm,fun w3 h=>h⟩
    ·exact⟨rfl,fun w3 h=>h.ends _ rfl rfl rfl⟩
   have mG:((σ.tx.length:Int)==0)=false:=Γ.2 U;have fF:¬((σ.tx.length:Int)=0):=U;rw[hw.1];have HW:=Hd hw.2;have iO:=Hd dz;have Hf:=Hd uU;have HJ:=Hd hj;have HJL:=Hd zD;clear dz uU hj zD hw t h1 h2 h3 h4 hk hs hd ho jn ju jh ht hl hr hg Ee dP dG aa7 YZ hx;generalize σ.j.bj σ.tx=jc at *;generalize oP:σ.tx.length=ln at *;go_enter func57,ntmps57;go_wp2_with fail;refine iO.out.mono ?_;rintro e w1 ⟨rfl,rfl⟩;go_wp2_with fail;refine Hf.out.mono ?_;rintro e w3 ⟨rfl,rfl⟩;go_wp2_with fail;refine HJ.out.mono ?_;rintro e w4 ⟨rfl,h4,t4⟩;have H4:=Hd (HJL.out _ h4 t4);clear h4 t4;go_wp2_with fail;go_ret;exact⟨rfl,HW.out _ H4.out.1,H4.out.2⟩
 ·have hw:σ.bj=(σ,σ.state true):=by unfold StL.bj;rw[Φ hs]
  rw[hw];simp only;have aU:(σ.state true==0)=false:=Γ.2 hs;have Du:(σ.state true != 0)=true:=by rw[bne,aU];rfl
  have iO:=Hd dz;have HS:=Hd dG;clear dz dG h1 h2 h3 h4 hk hw hs aa7 YZ;generalize σ.state true=st at *;go_enter func57,ntmps57;go_wp2_with fail;refine iO.out.mono ?_;rintro e w1 ⟨rfl,rfl⟩;go_wp2_with fail;go_ret;exact⟨rfl,HS.out _ (Q.refl _)⟩
end
end
section
open Go.RowKit
theorem GJ(b:Bytes)(lo k:Nat):(dR b lo k).length≤k:=by
 induction k with
 | zero=>exact Ω _
 | succ k ih =>
  rw[dR];split
  ·split
   ·rename_i r hr
    split
    ·have:dR b lo k≠[]:=fun e=>by rw[e] at hr;simp at hr
     have h2:=UV.2 this;simp only[Δ,acF,Θ,Nm];omega
    ·simp only[Δ,Θ,Nm];omega
   ·simp only[Δ,Θ,Nm];omega
  ·omega
section
variable {w:World} {F:Nat→Prop} {sb b:Nat} {σ:StL}
theorem Yg(h:cT w F sb b σ)(hk:fY σ)(hd:σ.dead=false)(lq:∀i,i<ak σ.n→bit σ.ai i=true):
  Calls prog 64 #[au sb] w fun e w'=>∃v,e=.returned v∧w'.ownsRow w.heap.size 87 2 v (mW σ.ai (ak σ.n) σ.n).length (ext (mW σ.ai (ak σ.n) σ.n))∧Q w w':=by
 obtain⟨FJ,p,tv,h1,h2,h3,h4⟩:=h;have iH:=hk.num.max;have lF:=hk.num.big;have lK:=(jH σ.n lF iH).1;rw[yC _ _ _ lq U];have uQ:=AA h1 hk hd;have eP:=fun (W:World) (q:Q w W)=>yR (h1.keep q) iH
 have dZ:=fun (W:World) (q:Q w W)=>nK (h1.keep q)
 have iU:σ.ai.length≤1000000:=by have:=hk.num.map;have:=jQ σ.n U;omega
 have hge:=fun (W:World) (i:Nat) (hi:i≤1000000)=>(show Calls prog 105 #[ah σ.ai,.int .i64 (i:Nat)] W (fun e w'=>e=.returned (.bool (bit σ.ai i))∧W=w') from by
  rw[←gQ];exact sW σ.ai (i:Nat) W U U)
 have Ak:=Hd uQ;have iW:=Hd eP;have iV:=Hd dZ;have wN:=Hd hge;clear uQ eP dZ hge h1 h2 h3 h4 hk hd lq iU;generalize σ.ai=mm at *;generalize ak σ.n=fd at *;generalize σ.n=n at *;obtain⟨i0,hi,bY,bB,aW⟩:=info_parts aaj;go_enter func64,ntmps64;go_wp2_with fail;refine Ak.out.mono ?_;rintro e w1 ⟨rfl,q1⟩;have Q1:=Hd q1;clear q1;go_wp2_with fail;refine(iW.out _ Q1.out).mono ?_;rintro e w2 ⟨rfl,rfl⟩;go_wp2_with fail;go_loopw [3,5] (fun ov iv wr=>∃m:Nat,iv=.int .i64 (fd+m:Nat)∧m≤n-fd∧Hid (wr.ownsRow w.heap.size 87 2 ov (dR mm fd m).length (ext (dR mm fd m)))∧Hid (Q w wr)) (fun _ iv _=>n-(intOf iv).toNat)
 case atStart=>exact⟨0,rfl,L0 _,Hd (World.ownsRow_nil _ _ _ _),Q1⟩
 case round =>
  obtain⟨m,rfl,hm,HO,HQ⟩:=hrel;have fT:=GJ mm fd m;have vw:=BN mm fd m;have aC:dR mm fd (m+1)=if bit mm (fd+m) then(match (dR mm fd m).getLast? with
   | some r=>if r.1+r.2=fd+m then(dR mm fd m).dropLast++[(r.1,r.2+1)] else dR mm fd m++[(fd+m,1)]
   | none=>[(fd+m,1)]) else dR mm fd m:=rfl
  by_cases ay:m<n-fd
  ·have bq:((fd+m:Nat):Int)<(n:Int):=U
   have Jy:=fun (W:World)=>wN.out W (fd+m) U
   have Ws:=Hd Jy;clear Jy;cases hb:bit mm (fd+m) with
   | false =>
    rw[hb] at aC Ws;rw[η Z] at aC;have aX:=Hd aC;clear aC hb vw;generalize dR mm fd m=rs at *;generalize CX:fd+m=ii at *;go_wp2_with fail;refine(iV.out _ HQ.out).mono ?_;rintro e w2 ⟨rfl,rfl⟩;go_wp2_with fail;refine(Ws.out _).mono ?_;rintro e w2 ⟨rfl,rfl⟩;go_wp2_with fail;go_roundw;case rel=>exact⟨m+1,by rw[show fd+(m+1)=ii+1 by omega];go_num,U,by rw[aX.out];exact HO,HQ⟩
    case measure=>simp[intOf];omega
   | true =>
    rw[hb] at aC Ws;rw[Φ rfl] at aC;rcases List.eq_nil_or_concat (dR mm fd m) with YK|⟨rs,r,kS⟩
    ·rw[YK] at aC HO
     simp only[List.getLast?_nil] at aC;have aX:=Hd aC;have aF:=HO.out;simp only[Nm] at aF;clear aC hb vw fT YK HO;generalize CX:fd+m=ii at *;go_wp2_with fail;refine(iV.out _ HQ.out).mono ?_;rintro e w2 ⟨rfl,rfl⟩;go_wp2_with fail;refine(Ws.out _).mono ?_;rintro e w2 ⟨rfl,rfl⟩;obtain⟨ra,rcap,rfl,_⟩:=aY aF;go_wp2_with fail;go_quiet (fail);have hq:=HQ.out.trans (Q.drewN wr nq);have aF:=ownsRow_below aF (Q.drewN wr nq);go_wp2_with (at_builtin;go_must (refine bG _ ρ _ _ 46 ρ w.heap.size 87 _ i0 (.agg #[.int .i64 0,.int .i64 0]) 2 16 underlying46 hi bY bB aW rfl Z Z _ _ _ ρ aF #[.int .i64 (ii:Nat),.int .i64 1] ρ rfl (by intro u hu;simp at hu;rcases hu with rfl|rfl<;>rfl) U hq.size ?_))
     intro g7 cap7 w7 nZ uh Eh vP uL;have q7:Q w w7:=bD hq aF uh (Ω _) hq.size;have CZ:=Hd nZ;have lJ:=Hd q7;clear nZ q7 aF hq uh Eh vP uL;go_wp2_with fail;go_roundw;case rel=>exact⟨m+1,by rw[show fd+(m+1)=ii+1 by omega];go_num,U,by rw[aX.out];exact CZ,lJ⟩
     case measure=>simp[intOf];omega
    ·rw[List.concat_eq_append] at kS
     have hr9:=vw r (by rw[kS];simp)
     rw[kS] at aC HO fT;simp only[acB,ab1,adW,XN] at aC;have aF:=HO.out;simp only[Δ,Θ,Nm,On,jP] at aF fT;obtain⟨g,cap,rfl,eT,jM⟩:=aF.form U;obtain⟨r1,r2⟩:=r;simp only at hr9 aC;have c0:wr.cell? ⟨g,rs.length*2,none⟩=some (.int .i64 r1):=by
      rw[aF.cellAt _ U,OF (by rw[jO];omega),jO,show rs.length*2-rs.length*2=0 by omega];rfl
     have c1:wr.cell? ⟨g,rs.length*2+1,none⟩=some (.int .i64 r2):=by
      rw[aF.cellAt _ U,OF (by rw[jO];omega),jO,show rs.length*2+1-rs.length*2=1 by omega];rfl
     have dQ:=aF.frozenAt (rs.length*2+1);have gl:IntKind.i64.wrap ((rs.length:Int)+1-1)=(rs.length:Int):=by rw[IntWalk.i64_in _ U];omega
     have gl2:(rs.length:Int)+1-1=(rs.length:Int):=U;have gi0:(0:Int)≤(rs.length:Int):=U;have gi1:(rs.length:Int)<(rs.length:Int)+1:=U;have gs:IntKind.i64.wrap ((r1:Int)+(r2:Int))=(r1:Int)+(r2:Int):=IntWalk.i64_in _ U;have gp:IntKind.i64.wrap ((r2:Int)+1)=(r2:Int)+1:=IntWalk.i64_in _ U;have HOW:=Hd aF;clear aF HO vw kS hb;generalize CX:fd+m=ii at *;by_cases he:r1+r2=ii
     ·rw[Φ he] at aC
      have heb:((r1:Int)+(r2:Int)==(ii:Int))=true:=MY.2 U;have aX:=Hd aC;clear aC he;go_wp2_with fail;refine(iV.out _ HQ.out).mono ?_;rintro e w2 ⟨rfl,rfl⟩;go_wp2_with fail;refine(Ws.out _).mono ?_;rintro e w2 ⟨rfl,rfl⟩;go_wp2_with fail;go_quiet (fail);go_wp2_with fail;have aC:=(ownsRow_below HOW.out (Q.drewN wr nq)).stored (rs.length*2+1) (.int .i64 ((r2:Int)+1));rw[ob] at aC;obtain⟨M0,zR⟩:=aC;have hq:Q w ((wr.drewN nq).setCell ⟨g,rs.length*2+1,none⟩ (.int .i64 ((r2:Int)+1))):=(HQ.out.trans (Q.drewN wr nq)).setCell eT _;go_roundw;case rel=>exact⟨m+1,by rw[show fd+(m+1)=ii+1 by omega];go_num,U,by rw[aX.out,Δ];exact Hd M0,Hd hq⟩
      case measure=>simp[intOf];omega
     ·rw[η he] at aC
      have heb:((r1:Int)+(r2:Int)==(ii:Int))=false:=Γ.2 U;have aX:=Hd aC;clear aC he;go_wp2_with fail;refine(iV.out _ HQ.out).mono ?_;rintro e w2 ⟨rfl,rfl⟩;go_wp2_with fail;refine(Ws.out _).mono ?_;rintro e w2 ⟨rfl,rfl⟩;go_wp2_with fail;go_quiet (fail);have hq:=HQ.out.trans (Q.drewN wr nq);have aF:=ownsRow_below HOW.out (Q.drewN wr nq);go_wp2_with (at_builtin;go_must (refine bG _ ρ _ _ 46 ρ w.heap.size 87 _ i0 (.agg #[.int .i64 0,.int .i64 0]) 2 16 underlying46 hi bY bB aW rfl Z Z _ _ _ ρ aF #[.int .i64 (ii:Nat),.int .i64 1] ρ rfl (by intro u hu;simp at hu;rcases hu with rfl|rfl<;>rfl) U hq.size ?_))
      intro g7 cap7 w7 nZ uh Eh vP uL;have q7:Q w w7:=bD hq aF uh (Ω _) hq.size;have CZ:=Hd nZ;have lJ:=Hd q7;clear nZ q7 aF hq uh Eh vP uL;go_wp2_with fail;go_roundw;case rel =>
       have fF:List.length (rs++[(r1,r2)]++[(ii,1)])=rs.length+1+1:=κ;have he2:ext (rs++[(r1,r2)]++[(ii,1)])=ext rs++(ext [(r1,r2)]++[Value.int .i64 (ii:Nat),.int .i64 1]):=by simp[ext]
       exact⟨m+1,by rw[show fd+(m+1)=ii+1 by omega];go_num,U,by rw[aX.out,he2,fF];exact CZ,lJ⟩
      case measure=>simp[intOf];omega
  ·have bq:¬((fd+m:Nat):Int)<(n:Int):=U
   obtain rfl:m=n-fd:=U;clear aC vw;obtain⟨ra,rcap,rfl,_⟩:=aY HO.out;go_wp2_with fail;refine(iV.out _ HQ.out).mono ?_;rintro e w2 ⟨rfl,rfl⟩;go_wp2_with fail;go_ret;exact⟨_,rfl,HO.out,HQ.out⟩
end
end
section
open Go.RowKit
theorem Ow(w:World)(F:Nat→Prop)(b:Nat)(d:af)(h:cn w F b d)(hF:∀k,F k→k<w.heap.size){K:Nat}{s:bu}{kk:Nat}{fr:List (List WrL)}{C:Nat→Bytes}(fB:jZ 60 K d s kk fr C)(hg:uG d.l.length C)(hn:128≤d.l.length)(hK:K+3<18446744073709551616)(hp:d.p.length≤800000)(he:(aL d).2=0):
  Calls prog 53 #[au b,.int .i64 64] w fun e w'=>∃sb,e=.returned (.tuple #[au sb,.int .i64 0])∧cT w' (grow F w w') sb b (aV d)∧ae F w w':=by
 obtain⟨bQ,zT,kT⟩:=Ga fB hg hn hK he;have tZ:=LB w F b d h hF fB hK hp U;unfold Kk at tZ;have iH:=fB.ok.max;have uS:=zT.num U;have Pj:=zT.gm;have hjp:(aL d).1.d.p.length≤1000000:=LS zT.inv.eJ Z;have aft:(aL d).1.s.log=60:=zT.inv.cH;have h62:(aV d).get 62=jv d.l.length:=by
  rw[zT.get 62 U (by rw[kT];omega)]
  show bT C [] 62=_;rw[show bT C [] 62=C 62 from rfl,hg.title]
 have pV:∀i,i<(aV d).n→((aV d).get i).length=256:=fun i hi=>af.gh zT.inv.ok i hi
 have lW:(aV d).dead=false:=bQ.live;have kF:(aV d).ai.length=256*aD (aV d).n:=uS.map;have Y0:=zT.map.high;have lq:=zT.map.low;have aC:∀(W:World) (FJ:Nat→Prop) (p sb:Nat),bp W FJ p b (aL d).1→Blk W sb 169 #[au p,.bool false,.slice none 0 0]→¬FJ sb→dp W FJ sb b p (.slice none 0 0) (aV d):=fun W FJ p sb h1 h2 h3 =>
  ⟨h2,h1,h3,⟨Sl.nil _ _,fun hx=>absurd hx (TE 0)⟩⟩
 have lK:=jH d.l.length hn iH;rw[kT] at Pj kF Y0 lq;have dZ:=fun (W:World) (FJ:Nat→Prop) (p sb:Nat) (hr:dp W FJ sb b p (.slice none 0 0) (aV d))=>nK hr
 have rF:=fun (W:World) (FJ:Nat→Prop) (p sb:Nat) (hr:dp W FJ sb b p (.slice none 0 0) (aV d))=>yR hr (by rw[kT];exact iH)
 have iG:=fun (W:World) (FJ:Nat→Prop) (p sb:Nat) (hr:dp W FJ sb b p (.slice none 0 0) (aV d))=>EN hr (by rw[kT];exact iH) lW hjp List.Pairwise.nil (L0 1000) 62 (by rw[kT];omega)
 have uQ:=fun (W:World) (FJ:Nat→Prop) (p sb:Nat) (hr:dp W FJ sb b p (.slice none 0 0) (aV d))=>Lx hr (by rw[kT];exact hn) (by rw[kT];exact iH) lW hjp List.Pairwise.nil (L0 1000) pV
 rw[kT] at dZ rF uQ;rw[h62] at iG;rw[Pj] at uQ;have Eb:=fun (W:World)=>Lv d.l.length W U
 have ku:fA (aV d).ai (ak d.l.length:Nat)=ak d.l.length:=by unfold fA;rw[kF];have:=jQ d.l.length U;omega
 have dQ:=fun (W:World)=>vl (aV d).ai (ak d.l.length:Nat) W (by rw[kF];omega) U U
 rw[ku,JO _ _ lq] at dQ;have hge:=fun (W:World) (i:Nat) (h1:d.l.length≤i) (h2:i≤100000)=>sW (aV d).ai (i:Int) W (by rw[kF];omega) U
 have hgf:∀i:Nat,d.l.length≤i→mH (aV d).ai (i:Int)=false:=fun i hi=>by rw[gQ];exact Y0 i hi
 have gK:aD d.l.length≤2:=lK.2;have u7:=jQ d.l.length U;have nX:ak d.l.length<d.l.length:=lK.1;have ZE:=Hd tZ;have aX:=Hd aC;have iV:=Hd dZ;have VU:=Hd rF;have rJ:=Hd iG;have Ak:=Hd uQ;have Tk:=Hd Eb;have pY:=Hd dQ;have wN:=Hd hge;have HGF:=Hd hgf;have HF:=Hd hF;have HE:=Hd he;have Zl:=Hd u7;have ajw:=Hd aft;have al9:=Fe d.l.length;clear tZ aC dZ rF iG uQ Eb dQ hge hgf hF he u7 aft ku lq Y0 lW pV h62 hjp Pj uS zT bQ fB hg h hK hp lK kT;generalize sI:(aV d).ai=mp at *;generalize jv d.l.length=tl at *;generalize ak d.l.length=fd at *;generalize aD d.l.length=pn at *;have Bu:decide (d.l.length<fd)=false:=Mz U;have anb:decide ((d.l.length:Int)<(fd:Int))=false:=Mz U;go_enter func53,ntmps53;go_wp2_with fail;refine ZE.out.mono ?_;rintro e w2 ⟨t2,⟨_,p,rfl,qF⟩|⟨h0,_⟩⟩
 ·obtain⟨wa,dO⟩:∃wa,wa=w2.alloc (.cells #[au p,.bool false,.slice none 0 0] 169):=⟨_,rfl⟩
  have qa:Q w2 wa:=by rw[dO];exact Q.alloc _ _
  have bZ:Blk wa w2.heap.size 169 #[au p,.bool false,.slice none 0 0]:=by rw[dO];exact Blk.new w2 _ _
  have uZ:¬grow F w w2 w2.heap.size:=fun hc=>by have:=qF.lt _ hc;omega
  have hr:=aX.out wa _ p w2.heap.size (qF.keep qa) bZ uZ;obtain⟨j0,j1,j2,j3,_⟩:=(qF.keep qa).box.c8;rw[ajw.out] at j3;have HR:=Hd hr;have T2:=Hd t2;have QA:=Hd qa;have bP:w2.heap.size<wa.heap.size:=bZ.lt;have ay:∀k,grow F w w2 k→k<w2.heap.size:=qF.lt;have iI:=Hd ay;clear hr bZ uZ qF t2 qa j1 j2 j0 ay;go_wp2_with fail;rw[←dO];clear dO;refine(iV.out _ _ _ _ HR.out).mono ?_;rintro e w3 ⟨rfl,rfl⟩;go_wp2_with fail;refine(VU.out _ _ _ _ HR.out).mono ?_;rintro e w3 ⟨rfl,rfl⟩;go_wp2_with fail;refine(rJ.out _ _ _ _ HR.out).mono ?_;rintro e w3 ⟨rfl,q3⟩;have VK:=Hd (HR.out.keep q3);have QA3:=Hd (QA.out.trans q3);have OL:=q3.size;clear q3 HR j3;go_wp2_with fail;refine(Tk.out _).mono ?_;rintro e w4 ⟨rfl,q4⟩;have RZ:=Hd (VK.out.keep q4);have QA4:=Hd (QA3.out.trans q4);have zY:=q4.size;clear q4 VK QA3;go_wp2_with fail;refine(Ak.out _ _ _ _ RZ.out).mono ?_;rintro e w5 ⟨rfl,q5⟩;have Af:=Hd (RZ.out.keep q5);have QA5:=Hd (QA4.out.trans q5);have Me:=q5.size;clear q5 RZ QA4;go_wp2_with fail;refine(VU.out _ _ _ _ Af.out).mono ?_;rintro e w6 ⟨rfl,rfl⟩;go_wp2_with fail;refine(pY.out _).mono ?_;rintro e w6 ⟨rfl,rfl⟩;go_wp2_with fail;have hb8:(8:Int)*(mp.length:Int)≤100000:=U;have afu:d.l.length≤8*mp.length:=by have:=Zl.out;omega
  have HB8:=Hd afu;clear afu;go_loop [11] (fun v=>∃k:Nat,v=.int .i64 (k:Nat)∧d.l.length≤k∧k≤8*mp.length) (fun v=>8*mp.length-(intOf v).toNat)
  case atStart=>exact⟨d.l.length,rfl,Ω _,HB8.out⟩
  case round =>
   obtain⟨k,rfl,Bv,kW⟩:=hrel;by_cases ay:k<8*mp.length
   ·have bq:(k:Int)<8*(mp.length:Int):=U
    have eT:=fun (W:World)=>wN.out W k Bv U
    rw[HGF.out k Bv] at eT;have HG1:=Hd eT;clear eT;go_wp2_with fail;refine(HG1.out _).mono ?_;rintro e w7 ⟨rfl,rfl⟩;go_wp2_with fail;go_round;case rel=>exact⟨k+1,by go_num,U,U⟩
    case measure=>simp[intOf];omega
   ·have bq:¬(k:Int)<8*(mp.length:Int):=U
    go_wp2_with fail;go_ret2;have gD:=T2.out.size;have jJ:=QA5.out.size;refine⟨_,rfl,⟨grow F w w2,p,.slice none 0 0,Af.out,fun k hk=>?_,fun g off n cap e=>by simp at e,fun k hk=>?_⟩,T2.out.trans (ae.br QA5.out)⟩
    ·rcases hk with (hk|hk)|hk
     ·exact .inl hk
     ·exact .inr ⟨hk.1,U⟩
     ·subst hk;exact .inr ⟨U,U⟩
    ·rcases hk with hk|hk
     ·have:=HF.out k hk;omega
     ·exact hk.2
 ·exact absurd HE.out h0
end
end Go.Proofs.YtbkahhebmpehnaaGreatDoor
