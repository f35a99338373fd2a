/- Joined: FilN to CpyS -/
import Derived.Test.YtbkahhebmpehnaaGreatDoorCXFilT
import Derived.Lib.FrozenHead2
import Derived.Laws.CopyOwn
import Derived.Lib.AppendZerosOnto
import Derived.Shelf.Spec.SlicesInsert
set_option linter.all false
set_option maxRecDepth 100000
set_option maxHeartbeats 8000000
namespace Go.Proofs.YtbkahhebmpehnaaGreatDoor
open Go.Proofs.Tryz
section
structure cS (k n:Nat) (φ:FsL) (C:Nat→Bytes):Prop where
 inv:∃fr,bz (20+2*k) φ fr C
 free:φ.st.j.d.Free
 n:φ.st.n=n
def Has(s:Bytes)(b:Bool)(t:Bytes)(φ:FsL)(C:Nat→Bytes):Prop:=∃f∈φ.l,f.name=s∧f.sl=b∧cont C f=t
section
variable {k n:Nat} {φ:FsL} {C:Nat→Bytes}
theorem cS.more(h:cS k n φ C):cS (k+1) n φ C:=⟨h.inv.imp fun fr hi=>hi.mono U,h.free,h.n⟩
theorem cS.cq(h:cS k n φ C)(kW:k≤1000000)(a:cL)(hk:a.k<9):
  ∃D,cS (k+1) n (fJ a φ).1 D∧Eff a φ.l C (fJ a φ).1.l D∧(fJ a φ).2≠4∧((fJ a φ).2≠0→(fJ a φ).1.l=φ.l∧D=C):=by
 obtain⟨⟨fr,hi⟩,hf,hn⟩:=h;rcases yW hi U a hk with ⟨e,fr',D,i,kV,Ry,he,hs⟩|⟨_,_,_,x,_⟩
 ·exact⟨D,⟨⟨fr',by rw[show 20+2*(k+1)=20+2*k+2 by omega];exact i⟩,Ry hf,by rw[kV];exact hn⟩,he,e,hs⟩
 ·exact absurd hf x
theorem kw{fr:List (List WrL)}(hi:bz (20+2*k) φ fr C)(hf:φ.st.j.d.Free)(hn:φ.st.n=n){x:FsL×Int}{l':List ax}{P:(Nat→Bytes)→Prop}{R:Prop}(hr:Res (20+2*k) fr C φ x l' P R):
  (x.2=0∧∃D,cS (k+1) n x.1 D∧x.1.l=l'∧P D)∨(x.2=9∧cS (k+1) n x.1 C∧x.1.l=φ.l∧R):=by
 rcases hr with ⟨e,fr',D,i,hl,kV,Ry,hp⟩|⟨_,_,_,_,x,_⟩|⟨e,i,hl,hj,hR⟩
 ·exact .inl ⟨e,D,⟨⟨fr',by rw[show 20+2*(k+1)=20+2*k+2 by omega];exact i⟩,Ry hf,by rw[kV];exact hn⟩,hl,hp⟩
 ·exact absurd hf x
 ·exact .inr ⟨e,⟨⟨fr,i.mono U⟩,by rw[hj];exact hf,by rw[fq hj];exact hn⟩,hl,hR⟩
theorem Ba(f:ax)(h1:f.name.length≤24)(h2:f.ext.length≤1):iA [f]=true:=by
 have a:=FT f.name;have b:=iJ (if f.sl then 1 else 0);have c:=iJ f.size;have d:=iJ f.ext.length
 have e:(f.ext.flatMap fun e=>dN e.1++dN e.2).length≤20:=by
  match hx:f.ext with
  | []=>simp
  | [y]=>have:=iJ y.1;have:=iJ y.2;simp only[NO,VS,Δ,Nm];omega
  | _::_::_=>rw[hx] at h2;simp at h2
 have g:=iJ (0+1);unfold iA ir je Av;refine MM ?_;simp only[NO,VS,Δ,Θ,Nm,aH] at *;omega
theorem Has.isF(h:cS k n φ C){s:Bytes}{b:Bool}{t:Bytes}(x:Has s b t φ C):isF φ.l s=true∧(φ.at9 s).sl=b∧cont C (φ.at9 s)=t∧φ.dj s=0∧(φ.at9 s).size=t.length:=by
 obtain⟨⟨fr,hi⟩,_⟩:=h;obtain⟨f,hf,rfl,hb,ht⟩:=x;obtain⟨e1,e2⟩:=hi.at_eq hf;rw[e2];exact⟨e1,hb,ht,by rw[hi.find,e1];rfl,by rw[←ht];exact(hi.px hf).symm⟩
theorem Has.read(h:cS k n φ C){s:Bytes}{b:Bool}{t:Bytes}(x:Has s b t φ C)(a m:Int)(ha:0≤a)(ht:a≤t.length)(hm:0≤m):φ.cC s a m=((t.drop a.toNat).take m.toNat,0):=by
 obtain⟨e1,e2,e3,e4,e5⟩:=Has.isF h x;obtain⟨⟨fr,hi⟩,_⟩:=h;obtain⟨_,_,_,xD⟩:=hi.at e1;unfold FsL.cC;rw[η (by rw[e4];simp),η (by rw[e5];omega),hi.holds xD,e3]
theorem Has.kept{a:cL}{s:Bytes}{b:Bool}{t:Bytes}{l':FsL}{D:Nat→Bytes}(x:Has s b t φ C)(he:Eff a φ.l C l'.l D)(h1:a.name≠s)(h2:a.k=7→a.tO≠s):Has s b t l' D:=by
 obtain⟨f,hf,rfl,hb,rfl⟩:=x;obtain⟨h3,h4⟩:=he.kept f hf (Z3 h1) (fun hk=>Z3 (h2 hk))
 exact⟨f,h3,rfl,hb,h4⟩
theorem Has.pA(h:cS k n φ C){s t:Bytes}(x:Has s true t φ C)(d:Bytes):φ.append s d=(φ,13):=by
 obtain⟨e1,e2,e3,e4,e5⟩:=Has.isF h x;unfold FsL.append;rw[η (by rw[e4];simp),Φ e2]
theorem Has.append(h:cS k n φ C)(kW:k≤1000000){s t:Bytes}(x:Has s false t φ C)(d:Bytes):
  ∃D,cS (k+1) n (φ.append s d).1 D∧(φ.append s d).2≠4∧Has s false (if (φ.append s d).2=0 then t++d else t) (φ.append s d).1 D ∧
   (d.length≤6000→t.length+d.length≤2147483647→(φ.append s d).2=0∨(φ.append s d).2=9) ∧
   (∀m,(φ.append s d).2=9→(∃f,φ.l=[f]∧f.ext=[]∧f.name.length≤24)→t=[]→cB d.length=m→NoRoom φ.st m):=by
 obtain⟨e1,e2,e3,e4,e5⟩:=Has.isF h x;have hg:=h;obtain⟨⟨fr,hi⟩,hf,hn⟩:=h;obtain⟨hp,p1,p2,p3⟩:=hi.at e1;unfold FsL.append;rw[η (by rw[e4];simp),η (by rw[e2];decide),e5]
 by_cases c2:6000<d.length∨2147483647<t.length+d.length
 ·rw[Φ c2]
  exact⟨C,hg.more,κ,x,fun h1 h2=>U,fun m h9=>absurd h9 κ⟩
 ·rw[η c2]
  by_cases c3:d=[]
  ·rw[Φ c3]
   refine⟨C,hg.more,κ,?_,fun _ _=>.inl rfl,fun m h9=>absurd h9 κ⟩
   rw[Φ rfl,c3,NF];exact x
  ·rw[η c3,p1]
   rw[p1] at e2 e3 e5;obtain⟨y,hy,hy2⟩:=EF hi U _ hp d U U;have eF:dW φ.l[aA φ.l s] d y∈φ.l.set (aA φ.l s) (dW φ.l[aA φ.l s] d y):=(set_perm hp _).mem_iff.2 (Mu ..);rw[p1] at p2;rcases kw hi hf hn hy with ⟨r0,D,r1,r2,r3⟩|⟨r0,r1,r2,r3⟩
   ·refine⟨D,r1,by rw[r0];decide,?_,fun _ _=>.inl r0,fun m h9=>absurd h9 (by rw[r0];decide)⟩
    rw[Φ r0];exact⟨dW φ.l[aA φ.l s] d y,by rw[r2];exact eF,p2,e2,by rw[r3.2,e3]⟩
   ·refine⟨C,r1,by rw[r0];decide,?_,fun _ _=>.inr r0,fun m h9 hz ht hm=>?_⟩
    ·rw[η (by rw[r0];decide)]
     obtain⟨f,hf,x1⟩:=x;exact⟨f,by rw[r2];exact hf,x1⟩
    ·obtain⟨f,z1,z2,z3⟩:=hz
     have Pb:aA φ.l s=0:=by rw[z1] at hp;simp at hp;rw[z1];exact hp
     have pF:φ.l[aA φ.l s]=f:=acG (by rw[←LN hp,Pb,z1];rfl)
     have dZ:φ.l[aA φ.l s].bl.length=0:=by rw[pF];unfold ax.bl;rw[z2];rfl
     have lD:cB (φ.l[aA φ.l s].size+d.length)-φ.l[aA φ.l s].bl.length=m:=by rw[e5,ht,dZ,←hm,Nm,On,adx]
     rw[lD] at r3 hy2;rcases r3 with r3|r3|r3
     ·rcases hy2 with hy2|hy2
      ·rw[pF,z2] at hy2
       have Mq:=Ba (dW f d y) z3 hy2;have:φ.l.set (aA φ.l s) (dW φ.l[aA φ.l s] d y)=[dW f d y]:=by rw[pF,Pb,z1];rfl
       rw[this,Mq] at r3;exact absurd r3 Z
      ·exact hy2
     ·rcases hy2 with hy2|hy2
      ·rw[pF,z2] at hy2
       have:y.length≤1:=hy2;omega
      ·exact hy2
     ·exact r3
end
end
section
theorem GW(b:Bytes)(f k:Nat)(h:∀i,f≤i→i<f+k→bit b i=false):k≤tail b (f+k):=by
 induction k with
 | zero=>exact L0 _
 | succ k ih =>
  rw[←Ps,tail,h (f+k) U U,η Z];have:=ih (fun i h1 h2=>h i h1 U)
  omega
theorem Ce(b:Bytes)(f n c:Nat)(hc:1≤c)(hn:f+c≤n)(hl:∀i,i<f→bit b i=true)(hf:∀i,f≤i→i<n→bit b i=false):fK b c n=some f:=by
 have ht:=GW b f c (fun i h1 h2=>hf i h1 U)
 cases hx:fK b c n with
 | none=>have:=Qd b c n hc hx (f+c) hn;omega
 | some s =>
  obtain⟨h1,h2,h3⟩:=Es b c n s hx;rcases abr s f with h|h|h
  ·have:=Ni b (s+c) s U U
   rw[hl s h] at this;exact absurd this Z
  ·rw[h]
  ·have:=Qd b c (s+c-1) hc (h3 hc) (f+c) U;omega
theorem tJ(n:Nat)(h:128≤n)(hm:n≤4096)(i:Nat):bit (iX n) i=decide (i<ak n):=by
 have hp:=jQ n U;have hf:=jH n h hm;unfold iX;rw[BK _ _ _ _ _ (by rw[fC];omega)]
 by_cases hi:i<ak n
 ·rw[Φ U,MM hi]
 ·rw[η U,Mz hi]
  unfold bit bg;rw[LR,Ss];split<;>simp
def φ0(n:Nat):FsL:=⟨bf n,[],[]⟩
def xw(φ:FsL)(σ:StL):TxR:=if (σ.alloc 12).2.2≠0 then((σ.alloc 12).1,(σ.alloc 12).2.2,[]) else qm φ (σ.alloc 12).1 []
def fE(n:Nat):FsL:=((φ0 n).cq (xw (φ0 n))).1
theorem qZ:iA []=true:=by
 have h:=iJ 0;refine MM ?_;unfold ir je;simp only[VS,Δ,Θ,Nm,aH] at *;omega
theorem MS(n:Nat)(h:128≤n)(hm:n≤4096):
  ((φ0 n).cq (xw (φ0 n))).2=0∧(fE n).l=[]∧(fE n).st.n=n∧(fE n).st.j.d.Free∧(∃fr C,bz 7 (fE n) fr C) ∧
  (bf n).begin.2=0∧(∀i,bit (fE n).st.ai i=decide (i<ak n+12)) ∧
  ∃σ2,(bf n).begin.1.alloc 12=(σ2,(ak n:Int),0):=by
 obtain⟨_,_,hi,hn,hf,hb⟩:=BO n h hm;have lK:ak n+12≤n:=by unfold ak aD;omega
 obtain⟨b0,ht,h0,h1⟩:=yG hi rfl;have uf:(bf n).begin.1.n=n:=(fq ht.j).trans hn;have ny:fO (bf n).begin.1:=by unfold fO;rw[h0];simp
 have lS:fK (bf n).begin.1.ai 12 (bf n).begin.1.n=some (ak n):=by
  rw[h1,hb,uf];exact Ce _ _ _ _ Z lK (fun i hi=>by rw[tJ n h hm];exact MM hi) (fun i hi _=>by rw[tJ n h hm];exact Mz U)
 have jy:=AY ht.st ht.op ny 12 Z;rw[lS] at jy;obtain⟨a1,a2,a3,a4⟩:=jy;obtain⟨t0,t1,t2,t3,t4,t5⟩:=yF ht.st ht.op ny (ak n) 12 true a2 a3;have GK:∀i,bit ((bf n).begin.1.bh (ak n) 12 true).1.ai i=decide (i<ak n+12):=fun i=>by
  rw[t1,h1,hb,tJ n h hm];by_cases hx:i<ak n+12
  ·rw[MM hx];split
   ·rfl
   ·exact MM U
  ·rw[Mz hx,η U];exact Mz U
 have tX:((bf n).begin.1.bh (ak n) 12 true).1.n=n:=(fq t4).trans uf;obtain⟨d1,d2,d3,d4,d5,d6,d7⟩:=ui t2 t3 (by have:=qY t2 t5;omega) (by rw[tX];exact lK) [] [] qZ (fun i hi=>by rw[GK,tX];exact MM U) (.inl rfl)
 have hr:xw (φ0 n) (φ0 n).st.begin.1=((((bf n).begin.1.bh (ak n) 12 true).1.dir [] []).1,(((bf n).begin.1.bh (ak n) 12 true).1.dir [] []).2,[]):=by
  show xw (φ0 n) (bf n).begin.1=_;unfold xw;rw[show((12:Nat):Int)=12 from rfl] at a1
  rw[a1,η κ];rfl
 have kV:(((bf n).begin.1.bh (ak n) 12 true).1.dir [] []).1.n=n:=(fq d5).trans tX;rw[tX] at d6;have hg:sD n (bT (bT (fun _=>ag) (bE n)) (((bf n).begin.1.bh (ak n) 12 true).1.dir [] []).1.tx) []:=by
  refine⟨lK,⟨L0 _,List.Pairwise.nil,fun f hf=>by simp at hf,ac1⟩,qZ,d6,fun i h1 h2=>?_⟩
  have lD:=d2.now;rw[kV] at lD;rw[←lD,d4,GK];simp[fD]
 have aiz:∀x,xw (φ0 n) (φ0 n).st.begin.1=x→x.2.1=0→TxI 5 [] (bT (fun _=>ag) (bE n)) (φ0 n).st x.1→sD n (bT (bT (fun _=>ag) (bE n)) x.1.tx) x.2.2 →
   ((φ0 n).cq (xw (φ0 n))).2=0∧(fE n).l=x.2.2∧(fE n).st.n=n∧(fE n).st.j.d.Free∧(∃fr,bz 7 (fE n) fr (bT (bT (fun _=>ag) (bE n)) x.1.tx))∧(fE n).st.ai=kD n (bT (bT (fun _=>ag) (bE n)) x.1.tx):=fun x e e0 hx hgx=>by
  subst e;rcases oS (φ:=φ0 n) (r:=xw (φ0 n)) hi rfl Z e0 hx (by rw[show(φ0 n).st.n=n from hn];exact hgx) with ⟨x1,⟨fr',x2⟩,x3,x4,x5⟩|⟨_,_,_,_,x5,_⟩
  ·refine⟨x1,x3,x4.trans hn,x5 hf,⟨fr',x2⟩,?_⟩
   have:=x2.st.now;rw[x2.st.closed x2.closed] at this;rw[show(fE n).st.ai=_ from this,x4,show(φ0 n).st.n=n from hn];rfl
  ·exact absurd hf x5
 obtain⟨r1,r2,r3,r4,⟨fr,r5⟩,r6⟩:=aiz _ hr d1 ⟨d2,d3,d5.trans (t4.trans ht.j)⟩ hg;refine⟨r1,r2,r3,r4,⟨fr,_,r5⟩,b0,fun i=>?_,_,a1⟩
 have lD:=d2.now;rw[kV] at lD;rw[r6];show bit (kD n (bT _ (((bf n).begin.1.bh (ak n) 12 true).1.dir [] []).1.tx)) i=_;rw[←lD,d4,GK]
def ng(d:af)(l:List ax):FsL:=⟨aV d,l,bR l⟩
theorem Lt{K:Nat}{d:af}{s:bu}{k:Nat}{fr:List (List WrL)}{C:Nat→Bytes}{l:List ax}(h:jZ 60 K d s k fr C)(hg:uG d.l.length C)(hf:sD d.l.length C l)(hn:128≤d.l.length)(hK:K+3<18446744073709551616)(he:(aL d).2=0):
  DK d∧bz (K+1) (ng d l) [] C∧(ng d l).st.n=d.l.length∧(d.b9 = -1→(ng d l).st.j.d.Free):=by
 obtain⟨o1,o2,o3⟩:=Ga h hg hn hK he;refine⟨o1,⟨o2,rfl,?_,rfl⟩,o3,fun Ed=>?_⟩
 ·show sD (aV d).n C l
  rw[o3];exact hf
 ·rcases AP h hK with ⟨_,x,_,y⟩|⟨e,_⟩
  ·exact⟨y Ed,x.live⟩
  ·rw[e] at he;exact absurd he Z
theorem DT{K n:Nat}{φ:FsL}{C:Nat→Bytes}(h:cS K n φ C)(hK:K≤1000000):
  (∃s k fr,jZ 60 (20+2*K) φ.st.j.d s k fr C)∧uG φ.st.j.d.l.length C∧sD φ.st.j.d.l.length C φ.l∧φ.st.j.d.l.length=n∧φ.st.j.d.Ok∧128≤n∧n≤4096∧φ.st.j.d.p.length≤48 ∧
  (aL φ.st.j.d).2=0∧DK φ.st.j.d∧cS (K+1) n (ng φ.st.j.d φ.l) C∧(ng φ.st.j.d φ.l).st.ai=φ.st.ai:=by
 obtain⟨⟨fr,hi⟩,hf,hn⟩:=h;have Zv:φ.st.j.d.l.length=n:=hn;have hp:=hi.st.inv.toJPre.open;have hb:=hi.st.big;have hm:=hi.st.max;have hz:(aL φ.st.j.d).2=0:=by
  rcases Nn hp U with e|⟨_,_,_,_,e⟩
  ·exact e
  ·exact absurd hf.1 e
 obtain⟨o1,o2,o3,o4⟩:=Lt hp hi.st.good hi.good hb U hz;refine⟨⟨_,_,_,hp⟩,hi.st.good,hi.good,Zv,hi.st.inv.ok,U,U,hi.st.inv.eJ,hz,o1,⟨⟨_,o2.mono U⟩,o4 hf.1,o3.trans Zv⟩,?_⟩;have h1:=o2.st.now;have h2:=hi.st.now;rw[o2.st.closed o2.closed,o3] at h1;rw[hi.st.closed hi.closed] at h2;exact h1.trans h2.symm
def iZ(n:Nat)(p t:Bytes)(k:Nat):List WrL:=((List.range k).filter fun i=>decide (p=[]∨aG p i≠aG t i)).map fun i=>(ak n+i,aG t i)
theorem Lf(n:Nat)(p t:Bytes)(k:Nat):iZ n p t (k+1)=iZ n p t k++if p=[]∨aG p k≠aG t k then [(ak n+k,aG t k)] else []:=by
 unfold iZ;rw[Ty,ac3,N5];congr 1;by_cases h:p=[]∨aG p k≠aG t k
 ·rw[Φ h,adt,Φ (MM h)];rfl
 ·rw[η h,adt,η (by simpa using h)];rfl
theorem Fg(a b:List WrL):∀σ:StL,(σ.writes a).2=0→σ.writes (a++b)=(σ.writes a).1.writes b:=by
 induction a with
 | nil=>intro σ _;rfl
 | cons x a ih =>
  intro σ h;rw[StL.writes] at h;by_cases hx:(σ.write x.1 x.2).2≠0
  ·rw[Φ hx] at h;exact absurd h hx
  ·rw[η hx] at h
   rw[Of,StL.writes,η hx,ih _ h,StL.writes,η hx]
theorem Lg(σ:StL)(i:Nat)(s:Bytes)(h:(σ.write i s).2=0):σ.writes [(i,s)]=((σ.write i s).1,0):=by
 rw[StL.writes,η (by simpa using h)];rfl
structure eE (KI:Nat) (σ:StL) (fr:List (List WrL)) (C:Nat→Bytes):Prop where
 st:cg KI σ fr C
 op:σ.open_=true
 few:σ.tx.length≤36
 room:ak σ.n+12≤σ.n
 on:∀i,i<12→bit σ.ai (ak σ.n+i)=true
theorem NU{KI:Nat}{σ:StL}{fr:List (List WrL)}{C:Nat→Bytes}(h:eE KI σ fr C)(hK:KI<18446744073709551616)(p t:Bytes)(ht:t.length=3072)(k:Nat)(hk:k<12):
  (σ.writes (iZ σ.n p t k)).2=0∧iL (σ.writes (iZ σ.n p t k)).1∧(σ.writes (iZ σ.n p t k)).1.n=σ.n∧(¬(p=[]∨aG p k≠aG t k)→σ.writes (iZ σ.n p t (k+1))=σ.writes (iZ σ.n p t k)) ∧
  ((p=[]∨aG p k≠aG t k)→((σ.writes (iZ σ.n p t k)).1.write (ak σ.n+k:Nat) (aG t k)).2=0∧σ.writes (iZ σ.n p t (k+1))=(((σ.writes (iZ σ.n p t k)).1.write (ak σ.n+k:Nat) (aG t k)).1,0)):=by
 have hlen:(iZ σ.n p t k).length≤k:=by
  unfold iZ;rw[NE];exact LS (WN _ _) (by rw[UT];exact Ω _)
 have vM:=h.few;obtain⟨a1,a2,a3,a4,a5,a6,_⟩:=tC (iZ σ.n p t k) h.st h.op U (fun x hx=>by
  obtain⟨i,hi,rfl⟩:=MD.1 hx;have hi:=P4.1 (PF.1 hi).1;have hr:=h.room;exact⟨SP _ _,by simp only;omega,h.on i U,ni ht U⟩)
 have hn:=fq a5;have hr:=h.room;obtain⟨b1,_⟩:=J2 a2 a3 U (ak σ.n+k) (aG t k) (ni ht hk) (by rw[hn];omega) (by rw[hn];omega) (by rw[a4];exact h.on k hk)
 have hw:((σ.writes (iZ σ.n p t k)).1.write (ak σ.n+k:Nat) (aG t k)).2=0:=by rw[b1]
 refine⟨a1,a2.num hK,hn,fun hc=>?_,fun hc=>⟨hw,?_⟩⟩
 ·rw[Lf,η hc,NF]
 ·rw[Lf,Φ hc,Fg _ _ _ a1,Lg _ _ _ hw]
theorem Gq{KI:Nat}{σ:StL}{fr:List (List WrL)}{C:Nat→Bytes}(h:eE KI σ fr C)(p t:Bytes)(ht:t.length=3072):(σ.writes (vL σ.n p t)).2=0:=by
 have hr:=h.room;have vM:=h.few;have hlen:=J3 σ.n p t;exact(tC (vL σ.n p t) h.st h.op U (fun x hx=>by
  obtain⟨i,hi,rfl⟩:=AZ hx;exact⟨SP _ _,by simp only;omega,h.on i hi,ni ht hi⟩)).1
theorem NV(t:Bytes)(k:Nat):t.take (256*k)++aG t k=t.take (256*(k+1)):=by
 show _++(t.drop (k*256)).take 256=_;rw[UX k 256,←aeb];congr 1
end
section
open Go.RowKit
abbrev iD(l:Bytes):List Value:=Lib.byteCells l
def Bld(w:World)(B b:Nat)(r:Option Nat)(l:Bytes):Prop :=
 B≤b∧∃p v,w.heap[b]?=some (.cells #[p,v] 139 (0,0))∧(p=.pointer none∨p=.pointer (some ⟨b,0,none⟩))∧w.ownsRowF B 5 1 v l.length (iD l)∧v.ownBlock=r∧r≠some b∧(l=[]→r=none)
structure fy (w w':World) (b:Nat) (r:Option Nat):Prop where
 os:w'.os=w.os
 tape:w'.tape=w.tape
 output:w'.output=w.output
 size:w.heap.size≤w'.heap.size
 block:∀k,k<w.heap.size→k≠b→some k≠r→w'.heap[k]?=w.heap[k]?
theorem fy.refl(w:World)(b:Nat)(r:Option Nat):fy w w b r:=⟨rfl,rfl,rfl,Ω _,fun _ _ _ _=>rfl⟩
theorem fy.below{w w':World}{b:Nat}{r:Option Nat}{B:Nat}(h:fy w w' b r)(hb:B≤b)(hr:∀k,r=some k→B≤k)(hB:B≤w.heap.size):Below B w w' :=
 ⟨h.os,h.tape,h.output,h.size,fun k hk=>h.block k U U (fun e=>by have:=hr k e.symm;omega)⟩
theorem Bld.lt{w:World}{B b:Nat}{r:Option Nat}{l:Bytes}(h:Bld w B b r l):b<w.heap.size:=by
 obtain⟨_,p,v,hb,_⟩:=h;exact(Sp.1 hb).1
theorem Bld.row{w:World}{B b:Nat}{r:Option Nat}{l:Bytes}(h:Bld w B b r l):∀k,r=some k→B≤k∧k<w.heap.size:=by
 obtain⟨_,p,v,hb,_,ho,hr,_,_⟩:=h;intro k hk;exact ho.lt k (hr.trans hk)
theorem Bld.below{w w':World}{B b:Nat}{r:Option Nat}{l:Bytes}(h:Bld w B b r l)(hs:fy w w' b r)(hB:B≤w.heap.size):Below B w w' :=
 hs.below h.1 (fun k hk=>(h.row k hk).1) hB
theorem Bld.stays{w w':World}{B b:Nat}{r:Option Nat}{l:Bytes}(h:Bld w B b r l)(hb:w'.heap[b]?=w.heap[b]?)(hr:∀k,r=some k→w'.heap[k]?=w.heap[k]?)(bP:w.heap.size≤w'.heap.size):Bld w' B b r l:=by
 obtain⟨h1,p,v,h2,h3,ho,h4,h5⟩:=h;refine⟨h1,p,v,hb.trans h2,h3,⟨ho.1,?_⟩,h4,h5⟩;rcases ho.2 with hn|⟨g,cap,cur,fz,rfl,lF,hg,rest⟩
 ·exact .inl hn
 ·exact .inr ⟨g,cap,cur,fz,rfl,lF,(hr g (by rw[←h4];rfl)).trans hg,rest⟩
theorem Bld.new(w:World)(B:Nat)(hB:B≤w.heap.size):Bld (w.alloc (.cells #[.pointer none,.slice none 0 0] 139)) B w.heap.size none [] :=
 ⟨hB,_,_,heap_alloc_new w _,.inl rfl,World.ownsRowF_nil _ _ _ _,rfl,κ,fun _=>rfl⟩
theorem sizeBuilder:(prog.info? 139).map (·.size)=some 2:=by kernel_rfl
theorem liesBuilder:liesAt prog prog.depth 139 (2 / prog.cellsOf 139) 0 139 1=true:=by kernel_rfl
theorem infoByte:(prog.info? 5).map (fun i=>(i.zero,i.size,i.bytes))=some (some (.int .u8 0),1,1):=by kernel_rfl
theorem Li(b:Nat)(w:World)(h0:w.cell? ⟨b,0,none⟩=some (.pointer none))(Ee:w.shape? b=some (139,2))(Ef:w.frozen? ⟨b,0,none⟩=false):
  Calls prog 155 #[.pointer (some ⟨b,0,none⟩)] w fun e w'=>e=.returned (.tuple #[])∧w'=w.setCell ⟨b,0,none⟩ (.pointer (some ⟨b,0,none⟩)):=by
 obtain⟨j,hj,hjs⟩:=adS.1 sizeBuilder;go_enter func155,ntmps155;go_wp2;rw[Lib.run_to_unsafe w ⟨b,0,none⟩ underlying137 underlying277 hj (by rw[hjs];decide) Ee (Nat.zero_lt_succ 1)]
 simp only[Result.andThen];rw[Oper.upon_value];go_wp2;rw[run_callFunc_extern func222 (by kernel_rfl) (by kernel_rfl) (by kernel_rfl) (e:=Extern.AbiNoEscape.same) (by kernel_rfl)]
 rw[Lib.run_noEscape];simp only[Result.andThen];rw[Oper.upon_value];go_wp2;rw[Lib.run_from_unsafe w ⟨b,0,none⟩ underlying277 underlying137 hj Ee liesBuilder];simp only[Result.andThen];rw[Oper.upon_value];go_wp2;go_end0;exact⟨rfl,rfl⟩
theorem MU(b:Nat)(w:World)(h0:w.cell? ⟨b,0,none⟩=some (.pointer (some ⟨b,0,none⟩))):
  Calls prog 155 #[.pointer (some ⟨b,0,none⟩)] w fun e w'=>e=.returned (.tuple #[])∧w'=w:=by
 obtain⟨j,hj,_⟩:=adS.1 sizeBuilder;go_enter func155,ntmps155;go_wp2;rw[Lib.run_neq_ptr_same w _ underlying137 hj];go_wp2;go_end0;exact⟨rfl,rfl⟩
theorem Fh(B b:Nat)(r:Option Nat)(l:Bytes)(w:World)(h:Bld w B b r l):
  Calls prog 155 #[.pointer (some ⟨b,0,none⟩)] w fun e w'=>e=.returned (.tuple #[])∧fy w w' b none ∧
   ∃v,w'.heap[b]?=some (.cells #[.pointer (some ⟨b,0,none⟩),v] 139 (0,0))∧w'.ownsRowF B 5 1 v l.length (iD l)∧v.ownBlock=r:=by
 obtain⟨h1,p,v,h2,h3,ho,h4,h5,h6⟩:=h;rcases h3 with rfl|rfl
 ·refine(Li b w (by simp[World.cell?,h2]) (by simp[World.shape?,h2]) (by simp[World.frozen?,h2])).mono ?_
  rintro e w' ⟨rfl,rfl⟩;refine⟨rfl,⟨rfl,rfl,rfl,by simp[World.setCell],fun k hk hb _=>Below.heap_setCell _ _ _ _ (by simpa using hb)⟩,v,?_,?_,h4⟩
  ·simp[World.setCell,T0,h2]
  ·refine⟨ho.1,?_⟩
   rcases ho.2 with hn|⟨g,cap,cur,fz,rfl,lF,hg,rest⟩
   ·exact .inl hn
   ·refine .inr ⟨g,cap,cur,fz,rfl,lF,?_,rest⟩
    have aU:g≠b:=by rintro rfl;exact h5 (by rw[←h4];rfl)
    rw[Below.heap_setCell _ _ _ _ (by simpa using aU)]
    exact hg
 ·refine(MU b w (by simp[World.cell?,h2])).mono ?_
  rintro e w' ⟨rfl,rfl⟩;exact⟨rfl,fy.refl _ _ _,v,h2,ho,h4⟩
def IG(w:World)(r r':Option Nat):Prop:=r'=r∨∃g,r'=some g∧w.heap.size≤g
theorem QS{P:Program}(W:World)(base:Nat)(t u ty e:TypeId)(i:TypeInfo)(ht:P.underlying t=some (.slice e))(hu:P.underlying u=some .string)(hi:P.info? e=some i)(hz:i.zero=some (.int .u8 0))
  (iE:i.size=1) (iT:i.bytes=1) (v:Value) (n:Nat) (xs:List Value) (aF:W.ownsRowF base e 1 v n xs) (s:ByteArray) (nY:n+s.size≤140737488355328) (fP:base≤W.heap.size) :
  ∃v' w',(Builtin.append_ #[t,u] ty #[v,.string s]).run P W=.ok v' w'∧w'.ownsRowF base e 1 v' (n+s.size) (xs++Lib.strCells s)∧W.grownBy w' v.ownBlock∧IG W v.ownBlock v'.ownBlock∧(v'=.slice none 0 0↔v=.slice none 0 0∧s.size=0):=by
 obtain⟨v',w',hr,ho,hg,hn⟩:=Lib.run_append_own_stringF (P:=P) W base t u ty e i ht hu hi hz iE iT v n xs aF s (by unfold maxLen;omega) nY fP
 refine⟨v',w',hr,ho,hg,?_,hn⟩;rcases aF.2 with ⟨rfl,rfl⟩|⟨g,cap,cur,fz,rfl,lF,GL,Ef,Ho,dJ,mQ,Mr⟩
 ·obtain⟨v2,w2,pW,DX,_⟩:=Lib.run_append_own_string (P:=P) W W.heap.size t u ty e i ht hu hi hz iE iT (.slice none 0 0) 0 [] (World.ownsRow_nil _ _ _ _) s (by unfold maxLen;omega) nY (Ω _)
  rw[hr] at pW;simp only[Result.ok.injEq] at pW;obtain⟨rfl,rfl⟩:=pW;cases hk:v'.ownBlock with
  | none=>exact Or.inl rfl
  | some g=>exact Or.inr ⟨g,rfl,(DX.lt g hk).1⟩
 ·by_cases hroom:n+s.size≤cap
  ·have h2:=Lib.run_append_room_stringF (P:=P) W t u ty e i ht hu hi iE g n cap cur fz GL U s hroom U
   rw[hr] at h2;simp only[Result.ok.injEq] at h2;rw[h2.1];exact Or.inl rfl
  ·have holds:∀j x,xs[j]?=some x→W.cell? ((⟨g,0,none⟩:Addr).add j)=some x:=aF.cells (g:=g) rfl
   have h2:=Lib.run_append_grow_string (P:=P) W t u ty e i (.int .u8 0) ht hu hi hz ⟨g,0,none⟩ n cap xs (by rw[iE];exact aF.1) holds s U U (by rw[iT];exact growslice_fits U U)
   rw[hr] at h2;simp only[Result.ok.injEq] at h2;rw[h2.1];exact Or.inr ⟨_,rfl,Ω _⟩
theorem PO{P:Program}(W:World)(base:Nat)(t ty e:TypeId)(i:TypeInfo)(ht:P.underlying t=some (.slice e))(hi:P.info? e=some i)(hz:i.zero=some (.int .u8 0))
  (iE:i.size=1) (iT:i.bytes=1) (v:Value) (n:Nat) (xs:List Value) (aF:W.ownsRowF base e 1 v n xs) (e':TypeId) (c:Int) (nY:n+1≤140737488355328) (fP:base≤W.heap.size) :
  ∃v' w',(Builtin.append_ #[t,t] ty #[v,.slice (some ⟨W.heap.size,0,none⟩) 1 1]).run P (W.alloc (.cells #[.int .u8 c] e'))=.ok v' w'∧w'.ownsRowF base e 1 v' (n+1) (xs++[.int .u8 c])∧W.grownBy w' v.ownBlock∧IG W v.ownBlock v'.ownBlock:=by
 have PX:∀j u,([.int .u8 c]:List Value)[j]?=some u→(W.alloc (.cells #[.int .u8 c] e')).cell? ((⟨W.heap.size,0,none⟩:Addr).add j)=some u:=by
  intro j u hj;rw[Ep];simp only[World.cell?,heap_alloc_new];simpa using hj
 have h1:∀u∈([.int .u8 c]:List Value),u.oneCell'=true:=by intro u hu;simp at hu;subst hu;rfl
 obtain⟨v',w',hr,ho,hg,hn⟩:=run_append_ownF (P:=P) (W.alloc (.cells #[.int .u8 c] e')) base t ty e i (.int .u8 0) 1 1 ht hi hz iE iT rfl Z v n xs (aF.alloc _) ⟨W.heap.size,0,none⟩ 1 1 [.int .u8 c] rfl PX h1 (by unfold maxLen;omega) U (by simp;omega)
 refine⟨v',w',hr,ho,⟨hg.os.trans rfl,hg.tape.trans rfl,hg.output.trans rfl,by have:=hg.size;simp at this;omega,fun k hk aU=>?_⟩,?_⟩
 ·rw[hg.block k (by simp;omega) aU,Below.heap_alloc _ _ _ hk]
 ·rcases (aF.alloc (.cells #[.int .u8 c] e')).2 with ⟨rfl,rfl⟩|⟨g,cap,cur,fz,rfl,lF,GL,Ef,Ho,dJ,mQ,Mr⟩
  ·obtain⟨v2,w2,pW,DX,_⟩:=run_append_own (P:=P) (W.alloc (.cells #[.int .u8 c] e')) W.heap.size t ty e i (.int .u8 0) 1 1 ht hi hz iE iT rfl Z (.slice none 0 0) 0 [] (World.ownsRow_nil _ _ _ _) ⟨W.heap.size,0,none⟩ 1 1 [.int .u8 c] rfl PX h1 Z Z κ
   rw[hr] at pW;simp only[Result.ok.injEq] at pW;obtain⟨rfl,rfl⟩:=pW;cases hk:v'.ownBlock with
   | none=>exact Or.inl rfl
   | some g=>exact Or.inr ⟨g,rfl,(DX.lt g hk).1⟩
  ·by_cases hroom:n+1≤cap
   ·have h2:=run_append_roomF (P:=P) (W.alloc (.cells #[.int .u8 c] e')) t ty e i ht hi g n cap cur fz GL (by rw[iE];exact Ef) ⟨W.heap.size,0,none⟩ 1 1 [.int .u8 c] (by rw[iE];rfl) PX h1 hroom (by rw[iE];simp;omega)
    rw[hr] at h2;simp only[Result.ok.injEq] at h2;rw[h2.1];exact Or.inl rfl
   ·have holds:∀j x,xs[j]?=some x→(W.alloc (.cells #[.int .u8 c] e')).cell? ((⟨g,0,none⟩:Addr).add j)=some x:=(aF.alloc _).cells (g:=g) rfl
    have h2:=run_append_grow (P:=P) (W.alloc (.cells #[.int .u8 c] e')) t ty e i (.int .u8 0) ht hi hz ⟨g,0,none⟩ n cap xs (by rw[iE];exact aF.1) holds ⟨W.heap.size,0,none⟩ 1 1 [.int .u8 c] (by rw[iE];rfl) PX U U (by rw[iT];exact growslice_fits U U)
    rw[hr] at h2;simp only[Result.ok.injEq] at h2;rw[h2.1];exact Or.inr ⟨_,rfl,κ⟩
theorem Kg{P:Program}(W:World){ops:Array Oper}{rest:List Oper}{o:Oper}{a:Act}{Q:Exit→Act→World→Prop}(pQ:o.guard=none)(s x:Operand)(t:TypeId)
  (ho:o.op=.call { callee:=.builtin .append,args:=#[s,x],argTypes:=#[t,t] })
  (base:Nat) (e e':TypeId) (i:TypeInfo) (ht:P.underlying t=some (.slice e)) (hi:P.info? e=some i) (hz:i.zero=some (.int .u8 0)) (iE:i.size=1) (iT:i.bytes=1)
  (v:Value) (n:Nat) (xs:List Value) (hs:a.eval s=v) (aF:W.ownsRowF base e 1 v n xs) (c:Int) (hx:a.eval x=.slice (some ⟨W.heap.size,0,none⟩) 1 1) (nY:n+1≤140737488355328) (fP:base≤W.heap.size)
  (h:∀v' w',w'.ownsRowF base e 1 v' (n+1) (xs++[.int .u8 c])→W.grownBy w' v.ownBlock→IG W v.ownBlock v'.ownBlock→wpList P ops Q rest (a.put o.dst v') w'):wpList P ops Q (o::rest) a (W.alloc (.cells #[.int .u8 c] e')):=by
 obtain⟨v',w',hr,h2,h3,h4⟩:=PO (P:=P) W base t o.type e i ht hi hz iE iT v n xs aF e' c nY fP;refine wpList_plain pQ fun _ hK=>?_
 unfold Oper.wp execOp;simp only[ho,resolve,invoke,builtin,Sem.run_bind,Sem.run_pure,Result.andThen_ok,abC,No,VC,hs,hx,hr];exact hK _ _ (h v' w' h2 h3 h4)
theorem Lj{P:Program}(W:World){ops:Array Oper}{rest:List Oper}{o:Oper}{a:Act}{Q:Exit→Act→World→Prop}(pQ:o.guard=none)(sl x:Operand)(t u:TypeId)
  (ho:o.op=.call { callee:=.builtin .append,args:=#[sl,x],argTypes:=#[t,u] })
  (base:Nat) (e:TypeId) (i:TypeInfo) (ht:P.underlying t=some (.slice e)) (hu:P.underlying u=some .string) (hi:P.info? e=some i) (hz:i.zero=some (.int .u8 0)) (iE:i.size=1) (iT:i.bytes=1)
  (v:Value) (n:Nat) (xs:List Value) (hs:a.eval sl=v) (aF:W.ownsRowF base e 1 v n xs) (s:ByteArray) (hx:a.eval x=.string s) (nY:n+s.size≤140737488355328) (fP:base≤W.heap.size)
  (h:∀v' w',w'.ownsRowF base e 1 v' (n+s.size) (xs++Lib.strCells s)→W.grownBy w' v.ownBlock→IG W v.ownBlock v'.ownBlock→(v'=.slice none 0 0↔v=.slice none 0 0∧s.size=0)→wpList P ops Q rest (a.put o.dst v') w'):wpList P ops Q (o::rest) a W:=by
 obtain⟨v',w',hr,h2,h3,h4,h5⟩:=QS (P:=P) W base t u o.type e i ht hu hi hz iE iT v n xs aF s nY fP;refine wpList_plain pQ fun _ hK=>?_
 unfold Oper.wp execOp;simp only[ho,resolve,invoke,builtin,Sem.run_bind,Sem.run_pure,Result.andThen_ok,abC,No,VC,hs,hx,hr];exact hK _ _ (h v' w' h2 h3 h4 h5)
theorem vG(a b:Bytes):iD (a++b)=iD a++iD b:=by simp[iD,Lib.byteCells]
theorem DU(l:Bytes):Lib.strCells ⟨l.toArray⟩=iD l:=by simp[Lib.strCells,iD,Lib.byteCells]
theorem Bld.put{w1 w2:World}{B b:Nat}{r:Option Nat}{l l':Bytes}{v v':Value}(hB:B≤b)(bN:w2.heap[b]?=some (.cells #[.pointer (some ⟨b,0,none⟩),v] 139 (0,0)))
  (yU:w2.ownsRowF B 5 1 v' l'.length (iD l')) (hr:v'.ownBlock≠some b) (YK:l'=[]→v'.ownBlock=none):Bld (w2.setCell ⟨b,1,none⟩ v') B b v'.ownBlock l':=by
 refine⟨hB,_,v',?_,.inr rfl,⟨yU.1,?_⟩,rfl,hr,YK⟩
 ·simp[World.setCell,T0,bN]
 ·rcases yU.2 with hn|⟨g,cap,cur,fz,rfl,lF,hg,rest⟩
  ·exact .inl hn
  ·refine .inr ⟨g,cap,cur,fz,rfl,lF,?_,rest⟩
   have aU:g≠b:=by rintro rfl;exact hr rfl
   rw[Below.heap_setCell _ _ _ _ (by simpa using aU)]
   exact hg
theorem fy.append{w w1 w2:World}{b:Nat}{r:Option Nat}{v v':Value}(oV:fy w w1 b none)(hg:w1.grownBy w2 v.ownBlock)(hv:v.ownBlock=r):fy w (w2.setCell ⟨b,1,none⟩ v') b r:=by
 refine⟨hg.os.trans oV.os,hg.tape.trans oV.tape,hg.output.trans oV.output,by have:=hg.size;have:=oV.size;simp[World.setCell];omega,fun k hk mP OH=>?_⟩
 rw[Below.heap_setCell _ _ _ _ (by simpa using mP),hg.block k (by have:=oV.size;omega) (by rw[hv];exact OH),oV.block k hk mP κ]
theorem Fj(B b:Nat)(r:Option Nat)(l:Bytes)(x:UInt8)(c:Int)(w:World)(h:Bld w B b r l)(hc:c=x.toNat)(hlen:l.length+1≤140737488355328)(hB:B≤w.heap.size):
  Calls prog 285 #[.pointer (some ⟨b,0,none⟩),.int .u8 c] w fun e w'=>e=.returned .nilIface∧fy w w' b r∧∃r',Bld w' B b r' (l++[x])∧IG w r r':=by
 obtain⟨i0,hi,bY,bB,aW⟩:=info_parts infoByte;have hBb:=h.1;have aiA:=h.lt;have yh:r≠some b:=by obtain⟨_,_,_,_,_,_,_,h5,_⟩:=h;exact h5
 have C:=Fh B b r l w h;have aU:some b≠r:=fun e=>yh e.symm
 have HC:=Hd C;have HN:=Hd yh;have HX:=Hd hc;clear C yh aU hc h;go_enter func285,ntmps285;go_wp2_with (go_at_call 155;refine HC.out.mono ?_);rintro e w1 ⟨rfl,oV,v,eu,aF,wQ⟩;have c0:w1.cell? ⟨b,0,none⟩=some (.pointer (some ⟨b,0,none⟩)):=by simp[World.cell?,eu]
 have c1:w1.cell? ⟨b,1,none⟩=some v:=by simp[World.cell?,eu]
 have M4:=oV.size;have Ab:=Hd oV;have Pg:=Hd wQ;have rR:=Hd eu;clear oV wQ eu;go_wp2_with (at_builtin;refine Kg w1 ρ _ _ 92 ρ B 5 _ i0 underlying92 hi bY bB aW v l.length (iD l) ρ aF c ρ ?c4 ?c5 ?_)
 case c4=>omega
 case c5=>omega
 intro v' w2 yU E8 dQ;have YL:b<w1.heap.size:=U;have Bz:v.ownBlock≠some b:=by rw[Pg.out];exact HN.out
 have bN:w2.heap[b]?=some (.cells #[.pointer (some ⟨b,0,none⟩),v] 139 (0,0)):=by
  rw[E8.block b YL (fun e=>Bz e.symm)];exact rR.out
 have d1:w2.cell? ⟨b,1,none⟩=some v:=by simp[World.cell?,bN]
 have f1:w2.frozen? ⟨b,1,none⟩=false:=by simp[World.frozen?,bN]
 have ZI:v'.ownBlock≠some b:=by
  rcases dQ with dQ|⟨g,hg,pV⟩
  ·rw[dQ];exact Bz
  ·rw[hg];intro e;simp at e;omega
 obtain⟨ao,n',cap,rfl⟩:∃ao n' cap,v'=.slice ao n' cap:=by
  rcases yU.2 with ⟨hv,_⟩|⟨g,cap,cur,fz,hv,_⟩
  ·exact⟨_,_,_,hv⟩
  ·exact⟨_,_,_,hv⟩
 have HOW:=Hd yU;have HG:=Hd E8;have pY:=Hd dQ;have qC:=Hd bN;have HV:=Hd ZI;clear yU E8 dQ bN ZI Bz aF;go_wp2;go_ret;refine⟨rfl,Ab.out.append HG.out Pg.out,_,Bld.put (w1:=w1) (l:=l) (r:=r) hBb qC.out ?_ HV.out (fun e=>by simp at e),?_⟩
 ·rw[Δ,vG]
  have:=HOW.out;rw[HX.out] at this;exact this
 ·rcases pY.out with e|⟨g,e1,e2⟩
  ·exact Or.inl (e.trans Pg.out)
  ·exact Or.inr ⟨g,e1,U⟩
theorem xA(B b:Nat)(r:Option Nat)(l s:Bytes)(w:World)(h:Bld w B b r l)(hlen:l.length+s.length≤140737488355328)(hB:B≤w.heap.size):
  Calls prog 79 #[.pointer (some ⟨b,0,none⟩),.string ⟨s.toArray⟩] w fun e w'=>e=.returned (.tuple #[.int .i64 s.length,.nilIface])∧fy w w' b r∧∃r',Bld w' B b r' (l++s)∧IG w r r':=by
 obtain⟨i0,hi,bY,bB,aW⟩:=info_parts infoByte;have hBb:=h.1;have aiA:=h.lt;have yh:r≠some b:=by obtain⟨_,_,_,_,_,_,_,h5,_⟩:=h;exact h5
 have wI:l=[]→r=none:=by obtain⟨_,_,_,_,_,_,_,_,h6⟩:=h;exact h6
 have HNL:=Hd wI;clear wI;have C:=Fh B b r l w h;have HC:=Hd C;have HN:=Hd yh;clear C yh h;go_enter func79,ntmps79;go_wp2_with (go_at_call 155;refine HC.out.mono ?_);rintro e w1 ⟨rfl,oV,v,eu,aF,wQ⟩;have c0:w1.cell? ⟨b,0,none⟩=some (.pointer (some ⟨b,0,none⟩)):=by simp[World.cell?,eu]
 have c1:w1.cell? ⟨b,1,none⟩=some v:=by simp[World.cell?,eu]
 have M4:=oV.size;have O3:({ data:=s.toArray }:ByteArray).size=s.length:=by simp[ByteArray.size]
 have HSS:=Hd O3;have Ab:=Hd oV;have Pg:=Hd wQ;have rR:=Hd eu;clear oV wQ eu O3;go_wp2_with (at_builtin;refine Lj w1 ρ _ _ 92 9 ρ B 5 i0 underlying92 underlying9 hi bY bB aW v l.length (iD l) ρ aF ⟨s.toArray⟩ ρ ?c4 ?c5 ?_)
 case c4=>rw[HSS.out];omega
 case c5=>omega
 intro v' w2 yU E8 dQ adZ;have abV:l++s=[]→v'.ownBlock=none:=fun e=>by
  have hl:l=[]:=by cases l with|nil=>rfl|cons a l=>simp at e
  have hs:s=[]:=by subst hl;simpa using e
  have Ta:v=.slice none 0 0:=by
   rcases aF.2 with ⟨hv,_⟩|⟨g,cap,cur,fz,hv,_⟩
   ·exact hv
   ·exfalso;have:=Pg.out;rw[HNL.out hl,hv] at this;cases this
  rw[adZ.2 ⟨Ta,hs⟩];rfl
 have aiB:=Hd abV;clear abV adZ;have YL:b<w1.heap.size:=U;have Bz:v.ownBlock≠some b:=by rw[Pg.out];exact HN.out
 have bN:w2.heap[b]?=some (.cells #[.pointer (some ⟨b,0,none⟩),v] 139 (0,0)):=by
  rw[E8.block b YL (fun e=>Bz e.symm)];exact rR.out
 have d1:w2.cell? ⟨b,1,none⟩=some v:=by simp[World.cell?,bN]
 have f1:w2.frozen? ⟨b,1,none⟩=false:=by simp[World.frozen?,bN]
 have ZI:v'.ownBlock≠some b:=by
  rcases dQ with dQ|⟨g,hg,pV⟩
  ·rw[dQ];exact Bz
  ·rw[hg];intro e;simp at e;omega
 obtain⟨ao,n',cap,rfl⟩:∃ao n' cap,v'=.slice ao n' cap:=by
  rcases yU.2 with ⟨hv,_⟩|⟨g,cap,cur,fz,hv,_⟩
  ·exact⟨_,_,_,hv⟩
  ·exact⟨_,_,_,hv⟩
 have HOW:=Hd yU;have HG:=Hd E8;have pY:=Hd dQ;have qC:=Hd bN;have HV:=Hd ZI;clear yU E8 dQ bN ZI Bz aF;go_wp2;go_ret2;refine⟨rfl,Ab.out.append HG.out Pg.out,_,Bld.put (w1:=w1) (l:=l) (r:=r) hBb qC.out ?_ HV.out aiB.out,?_⟩
 ·rw[Δ,vG]
  have:=HOW.out;rw[DU] at this;exact this
 ·rcases pY.out with e|⟨g,e1,e2⟩
  ·exact Or.inl (e.trans Pg.out)
  ·exact Or.inr ⟨g,e1,U⟩
theorem cellsByte:prog.cellsOf 5=1:=by kernel_rfl
theorem Gs(w:World)(g n k:Nat)(h:k≠g):(w.freeze ⟨g,0,none⟩ n).heap[k]?=w.heap[k]?:=by
 unfold World.freeze;split
 ·rfl
 ·simp only[T0]
  rw[η U]
theorem U1(w:World)(g n:Nat):(w.freeze ⟨g,0,none⟩ n).heap.size=w.heap.size:=by
 unfold World.freeze;split
 ·rfl
 ·simp
theorem U2(w:World)(g n:Nat):(w.freeze ⟨g,0,none⟩ n).os=w.os∧(w.freeze ⟨g,0,none⟩ n).tape=w.tape∧(w.freeze ⟨g,0,none⟩ n).output=w.output:=by
 unfold World.freeze;split<;>exact⟨rfl,rfl,rfl⟩
theorem Jb(B b:Nat)(r:Option Nat)(l:Bytes)(w:World)(h:Bld w B b r l)(h0:l≠[]):
  Calls prog 80 #[.pointer (some ⟨b,0,none⟩)] w fun e w'=>e=.returned (.string ⟨l.toArray⟩)∧fy w w' b r∧Bld w' B b r l:=by
 obtain⟨hB,p,v,eu,hp,aF,wQ,aU,wI⟩:=h;have uX:l.length≠0:=by simpa using h0
 obtain⟨g,cap,cur,fz,rfl,lF,hg,Ef,Ho,dJ,mQ,Mr⟩:∃g cap cur fz,v=.slice (some ⟨g,0,none⟩) l.length cap∧B≤g∧w.heap[g]?=some (.cells cur 5 fz)∧fz.2≤l.length*1∧l.length≤cap∧cap≤maxLen∧cur.size=cap*1∧cur.toList.take (l.length*1)=iD l:=by
  rcases aF.2 with ⟨_,hz⟩|⟨g,cap,cur,fz,hv,rest⟩
  ·exact absurd hz uX
  ·exact⟨g,cap,cur,fz,hv,rest⟩
 have LW:r=some g:=wQ.symm;have hgb:g≠b:=by rintro rfl;exact aU LW
 have c1:w.drew.cell? ⟨b,1,none⟩=some (.slice (some ⟨g,0,none⟩) l.length cap):=by
  have:w.drew.heap[b]?=some (.cells #[p,.slice (some ⟨g,0,none⟩) l.length cap] 139 (0,0)):=eu;simp[World.cell?,this]
 have hSD:(Builtin.unsafeSliceData_ #[92] 217 #[.slice (some ⟨g,0,none⟩) l.length cap]).run prog w.drew=.ok (.pointer (some ⟨g,0,none⟩)) w.drew :=
  Lib.run_unsafeSliceData_row _ _ _ _ _ _ U
 have hUS:(Builtin.unsafeString_ #[217,3] 9 #[.pointer (some ⟨g,0,none⟩),.int .i64 l.length]).run prog w.drew=.ok (.string ⟨l.toArray⟩) (w.drew.freeze ⟨g,0,none⟩ l.length):=by
  refine Lib.run_unsafeString_row w.drew 217 3 9 5 underlying217 cellsByte g cur.size (by have Ph:w.drew.heap[g]?=some (.cells cur 5 fz):=hg;simp[World.shape?,Ph]) l h0 U (by unfold maxLen at dJ;omega) ?_
  intro j x hx;have:=aF.cells (g:=g) rfl j (.int .u8 x.toNat) (by simp[iD,Lib.byteCells,hx])
  exact this
 have hA:Lib.BuilderAtF 139 5 B b p (Lib.byteCells l) w.drew:=⟨hB,_,eu,by rw[Lib.byteCells_length];exact aF,by rw[wQ];exact aU⟩
 have hF:=hA.froze (g:=g) (cap:=cap) (by rw[Lib.byteCells_length];exact c1)
 rw[Lib.byteCells_length] at hF;have sM:Bld (w.drew.freeze ⟨g,0,none⟩ l.length) B b r l:=by
  obtain⟨k1,v2,k2,k3,k4⟩:=hF;have e2:(w.drew.freeze ⟨g,0,none⟩ l.length).heap[b]?=some (.cells #[p,.slice (some ⟨g,0,none⟩) l.length cap] 139 (0,0)):=by
   rw[Gs _ _ _ _ (fun e=>hgb e.symm)];exact eu
  rw[e2] at k2;simp only[M3,Obj.cells.injEq] at k2;have e3:v2=.slice (some ⟨g,0,none⟩) l.length cap:=by have:=k2.1;simp at this;exact this.symm
  subst e3;rw[Lib.byteCells_length] at k3;exact⟨hB,p,_,e2,hp,k3,wQ,aU,wI⟩
 have kU:fy w (w.drew.freeze ⟨g,0,none⟩ l.length) b r:=by
  obtain⟨f1,f2,f3⟩:=U2 w.drew g l.length;exact⟨f1,f2,f3,by rw[U1];exact Ω _,fun k hk mP OH=>by rw[Gs _ _ _ _ (fun e=>OH (by rw[LW,e]))];rfl⟩
 have HK:=Hd sM;have aX:=Hd kU;clear sM kU hF hA aU LW hgb wQ wI;go_enter func80,ntmps80;go_wp2;go_region;all_goals (go_wp2;go_ret;exact⟨rfl,aX.out,HK.out⟩)
theorem Ll(B b:Nat)(r:Option Nat)(w:World)(h:Bld w B b r []):
  Calls prog 80 #[.pointer (some ⟨b,0,none⟩)] w fun e w'=>e=.returned (.string ⟨([]:Bytes).toArray⟩)∧Q w w':=by
 obtain⟨hB,p,v,eu,hp,aF,wQ,aU,wI⟩:=h;have Ta:v=.slice none 0 0:=by
  rcases aF.2 with ⟨hv,_⟩|⟨g,cap,cur,fz,hv,_⟩
  ·exact hv
  ·exfalso;rw[wI rfl,hv] at wQ;cases wQ
 subst Ta;have c1:w.drew.cell? ⟨b,1,none⟩=some (.slice none 0 0):=by
  have:w.drew.heap[b]?=some (.cells #[p,.slice none 0 0] 139 (0,0)):=eu;simp[World.cell?,this]
 have hSD:(Builtin.unsafeSliceData_ #[92] 217 #[.slice none 0 0]).run prog w.drew=.ok (.pointer none) w.drew:=rfl;have hUS:(Builtin.unsafeString_ #[217,3] 9 #[.pointer none,.int .i64 0]).run prog w.drew=.ok (.string ⟨#[]⟩) w.drew:=by kernel_rfl
 clear aF wI wQ aU;go_enter func80,ntmps80;go_wp2;go_region;all_goals (go_wp2;go_ret;exact⟨rfl,Q.drew _⟩)
theorem EI(B b:Nat)(r:Option Nat)(l:Bytes)(w:World)(h:Bld w B b r l)(hB:B≤w.heap.size):
  Calls prog 80 #[.pointer (some ⟨b,0,none⟩)] w fun e w'=>e=.returned (.string ⟨l.toArray⟩)∧Below B w w':=by
 cases l with
 | nil=>exact(Ll B b r w h).mono fun e w' ⟨h1,h2⟩=>⟨h1,Below.mono h2 hB⟩
 | cons x l=>exact(Jb B b r (x::l) w h κ).mono fun e w' ⟨h1,h2,_⟩=>⟨h1,h.below h2 hB⟩
theorem Bld.De{w:World}{B b:Nat}{r:Option Nat}{l:Bytes}(h:Bld w B b r l):∀g,r=some g→∃cs fz,w.heap[g]?=some (.cells cs 5 fz):=by
 obtain⟨_,p,v,_,_,ho,hr,_,_⟩:=h;intro g hg;rcases ho.2 with ⟨hv,_⟩|⟨g',cap,cur,fz,hv,_,GL,_⟩
 ·rw[hv,hg] at hr;cases hr
 ·rw[hv,hg] at hr
  simp only[Value.ownBlock,M3] at hr;subst hr;exact⟨_,_,GL⟩
theorem Bld.sL{w:World}{B b:Nat}{r:Option Nat}{l:Bytes}(h:Bld w B b r l){k:Nat}{cs:Array Value}{t:TypeId}{fz:Nat×Nat}(hk:w.heap[k]?=some (.cells cs t fz))(h1:t≠5)(h2:t≠139):k≠b∧some k≠r:=by
 refine⟨fun e'=>?_,fun e'=>?_⟩
 ·obtain⟨_,p,v',h3,_⟩:=h
  rw[←e',hk] at h3;injection h3 with h3;injection h3 with _ h3 _;exact h2 h3
 ·obtain⟨cs',fz',GN⟩:=h.De k e'.symm
  rw[hk] at GN;injection GN with h3;injection h3 with _ h3 _;exact h1 h3
theorem fy.cells{w w':World}{B b:Nat}{r:Option Nat}{l:Bytes}(hs:fy w w' b r)(h:Bld w B b r l){k:Nat}{cs:Array Value}{t:TypeId}{fz:Nat×Nat}(hk:w.heap[k]?=some (.cells cs t fz))(h1:t≠5)(h2:t≠139):w'.heap[k]?=some (.cells cs t fz):=by
 obtain⟨a,b'⟩:=h.sL hk h1 h2;exact(hs.block k (aJ hk) a b').trans hk
end
section
open Go.RowKit
def BL(w0 w:World)(b:Nat)(l:Bytes):Prop:=(∃r,Bld w w0.heap.size b r l)∧Q w0 w
section
variable {w0 w w':World} {b:Nat} {l:Bytes}
theorem BL.q(h:BL w0 w b l)(q:Q w w'):BL w0 w' b l:=by
 obtain⟨⟨r,h⟩,q0⟩:=h;exact⟨⟨r,h.stays (q.block _ h.lt) (fun k hk=>q.block _ (h.row k hk).2) q.size⟩,q0.trans q⟩
theorem BL.new(w0 w:World)(q:Q w0 w):BL w0 (w.alloc (.cells #[.pointer none,.slice none 0 0] 139)) w.heap.size []:=⟨⟨none,Bld.new w _ q.size⟩,q.trans (Q.alloc _ _)⟩
theorem BL.write(h:BL w0 w b l)(s:Bytes)(hl:l.length+s.length≤140737488355328):Calls prog 79 #[.pointer (some ⟨b,0,none⟩),.string ⟨s.toArray⟩] w fun e w' =>
  e=.returned (.tuple #[.int .i64 s.length,.nilIface])∧BL w0 w' b (l++s)∧∀k t cs,Blk w k t cs→t≠5→t≠139→Blk w' k t cs:=by
 obtain⟨⟨r,h⟩,q0⟩:=h;refine(xA _ b r l s w h hl q0.size).mono ?_;rintro e w' ⟨rfl,hs,r',h',_⟩;exact⟨rfl,⟨⟨r',h'⟩,Below.trans q0 (h.below hs q0.size)⟩,fun k t cs hb h1 h2=>hs.cells h hb h1 h2⟩
theorem BL.str(h:BL w0 w b l):Calls prog 80 #[.pointer (some ⟨b,0,none⟩)] w fun e w'=>e=.returned (ah l)∧Q w0 w':=by
 obtain⟨⟨r,h⟩,q0⟩:=h;refine(EI _ b r l w h q0.size).mono ?_;rintro e w' ⟨rfl,hb⟩;exact⟨rfl,Below.trans q0 hb⟩
end
end
section
open Go.RowKit
theorem xN(x:Nat):bits .or .u8 ((x:Int)%256) 128=((UInt8.ofNat (x%128+128)).toNat:Int):=by
 have h:=u8_or_nat (x%256) 128 U Z;rw[Lq] at h;rw[toNat_ofNat _ U];rw[←h];rfl
theorem nt(v:Value)(ns:List Nat)(w:World)(hv:yy w v ns)(hn:ns.length≤1000000000000)(TF:∀n∈ns,n<18446744073709551616):
  Calls prog 267 #[v] w fun e w'=>e=.returned (.string ⟨(qU ns).toArray⟩)∧Q w w':=by
 obtain⟨a,cap,rfl,aP⟩:=hv.value;have HC:=Hd aP;have H64:=Hd TF;clear aP hv TF;go_enter func267,ntmps267;go_wp2_with fail;go_loopw [8,5] (fun i _ wr=>∃k:Nat,k≤ns.length∧i=.int .i64 k∧Hid (∃r,Bld wr w.heap.size w.heap.size r (qU (ns.take k)))∧Hid (Below w.heap.size w wr)) (fun i _ _=>ns.length-(intOf i).toNat)
 case atStart=>exact⟨0,U,rfl,⟨none,Bld.new w _ (Ω _)⟩,(Below.refl _ _).alloc (Ω _) _⟩
 case round =>
  obtain⟨k,hk,rfl,HB,HW⟩:=hrel;obtain⟨wo,rfl⟩:∃wo:World,wo=wr:=⟨_,rfl⟩;by_cases ay:k<ns.length
  ·obtain⟨b,off,rfl,hc⟩:=HC.out U
   have gL:=hc k ay;have hcw:wo.cell? ⟨b,off+k,none⟩=some (.int .u64 (ns[k]:Nat)):=aj HW.out gL;have ad1:=H64.out _ (LO ay);have ZJ:=Wt ns k ay;have hvl:=rB (ns.take k);have nS:(ns.take k).length≤k:=acW _ _;generalize ns[k]=n at *;generalize qU (ns.take k)=pre at *;have HVT:=Hd ZJ;have Cv:=Hd hc;clear ZJ hc gL;go_wp2_with fail;go_loopw [5] (fun x wr=>∃(y m:Nat),x=.int .u64 y∧y<18446744073709551616∧m≤10∧Hid (0<m∧y<128 ^ m)∧Hid (∃r l,Bld wr w.heap.size w.heap.size r l∧l++jC m y=pre++dN n)∧Hid (Below w.heap.size w wr)) (fun x _=>(intOf x).toNat)
   case atStart =>
    obtain⟨r,hr⟩:=HB.out;exact⟨n,10,rfl,ad1,U,⟨U,nf n ad1⟩,⟨r,pre,hr,rfl⟩,HW⟩
   case round =>
    obtain⟨wo2,rfl⟩:∃wo2:World,wo2=wr:=⟨_,rfl⟩;obtain⟨y,m,rfl,hy,hm,HM,HL,Ms⟩:=hrel;obtain⟨r,l,vN,hl⟩:=HL.out;obtain⟨JH,ZK⟩:=HM.out;have hlen:l.length≤10*k+10:=by
     have e:=Pu List.length hl;rw[Δ,Δ] at e;have:=iJ n;omega
    have mE:=Ms.out;have bP:=mE.size;by_cases ES:128≤y
    ·obtain⟨kF,Bz,Ib⟩:=PZ m y ES ZK
     have rV:=xN y;have c:=Fj w.heap.size w.heap.size r l (UInt8.ofNat (y%128+128)) _ wo2 vN rV U U;have aC:l++jC m y=(l++[UInt8.ofNat (y%128+128)])++jC (m-1) (y / 128):=by rw[Bz];simp
     have C:=Hd c;have aX:=Hd aC;have HHL:=Hd hl;have ZL:=Hd vN;clear c aC hl vN rV Bz;go_wp2_with fail;refine C.out.mono ?_;rintro e w3 ⟨rfl,jm,r',Cg,dQ⟩;have qC:=Hd (Ms.out.trans (ZL.out.below jm U));have iV:=Hd Cg;clear jm Cg dQ mE;go_wp2_with fail;go_roundw;case rel=>exact⟨y / 128,m-1,by go_num,U,U,⟨U,Ib⟩,⟨r',_,iV.out,by rw[←aX.out];exact HHL.out⟩,qC⟩
     case measure=>simp[intOf];omega
    ·have Br:=KG m y JH U
     have c:=Fj w.heap.size w.heap.size r l (UInt8.ofNat y) (y:Int) wo2 vN (by rw[toNat_ofNat _ U]) U U
     have hend:l++[UInt8.ofNat y]=qU (ns.take (k+1)):=by rw[HVT.out,←hl,Br]
     have C:=Hd c;have HE:=Hd hend;have ZL:=Hd vN;clear c hend hl vN Br;go_wp2_with fail
     ((with_reducible refine C.out.mono ?_);rintro e w3 ⟨rfl,jm,r',Cg,dQ⟩)
     have qC:=Hd (Ms.out.trans (ZL.out.below jm U));have iV:=Hd Cg;clear jm Cg dQ mE;go_wp2_with fail;go_roundw;case rel=>exact⟨k+1,U,by go_num,⟨r',by rw[←HE.out];exact iV.out⟩,qC⟩
     case measure=>simp[intOf];omega
  ·have iN:k=ns.length:=U
   subst iN;rw[M1] at HB;obtain⟨r,vN⟩:=HB.out;have hW:=HW.out;have bP:=hW.size;have c:=EI w.heap.size w.heap.size r (qU ns) wo vN U;have C:=Hd c;clear c vN hW;go_wp2_with fail;refine C.out.mono ?_;rintro e w3 ⟨rfl,gI⟩;have qI:=Hd (HW.out.trans gI);clear gI;go_wp2_with fail;go_ret;exact⟨rfl,qI.out⟩
theorem Bld.q{w w':World}{B b:Nat}{r:Option Nat}{l:Bytes}(h:Bld w B b r l)(hq:Q w w'):Bld w' B b r l :=
 h.stays (hq.block _ h.lt) (fun k hk=>hq.block _ (h.row k hk).2) hq.size
theorem AK(v:Value)(ps:List Bytes)(w:World)(hv:Strs w v ps)(hn:ps.length≤1000)(hp:∀p∈ps,p.length≤100000000000):
  Calls prog 227 #[v] w fun e w'=>e=.returned (.string ⟨(oG ps).toArray⟩)∧Q w w':=by
 obtain⟨a,cap,rfl,aP⟩:=hv.value;have HC:=Hd aP;have HP:=Hd hp;clear aP hv hp;go_enter func227,ntmps227;go_wp2_with fail;go_loopw [8,5] (fun i _ wr=>∃k:Nat,k≤ps.length∧i=.int .i64 k∧Hid (∃r,Bld wr w.heap.size w.heap.size r (oG (ps.take k)))∧Hid (Below w.heap.size w wr)) (fun i _ _=>ps.length-(intOf i).toNat)
 case atStart=>exact⟨0,U,rfl,⟨none,Bld.new w _ (Ω _)⟩,(Below.refl _ _).alloc (Ω _) _⟩
 case round =>
  obtain⟨k,hk,rfl,HB,HW⟩:=hrel;obtain⟨wo,rfl⟩:∃wo:World,wo=wr:=⟨_,rfl⟩;by_cases ay:k<ps.length
  ·obtain⟨b,off,rfl,hc⟩:=HC.out U
   have gL:=hc k ay;have hcw:wo.cell? ⟨b,off+k,none⟩=some (.string ⟨ps[k].toArray⟩):=aj HW.out gL;have bW:=HP.out _ (LO ay);have ZJ:=Uo ps k ay;have hvl:=Wu (ps.take k) 100000000000 (fun s hs=>HP.out s (P3 hs))
   have nS:(ps.take k).length≤k:=acW _ _;have amD:(oG (ps.take k)).length≤100000000010000:=LS hvl (LS (W7 _ (show _≤1000 by omega)) Z)
   generalize ps[k]=p at *;generalize oG (ps.take k)=pre at *;clear hvl nS;have amE:=iJ p.length;have hW:=HW.out;have bP:=hW.size;obtain⟨r,vN⟩:=HB.out;have cv:=nt (.slice (some ⟨wo.heap.size,0,none⟩) 1 1) [p.length] (wo.alloc (.cells #[.int .u64 (p.length:Nat)] 170)) (Sl.lit wo #[.int .u64 (p.length:Nat)] 170 1 1 rfl) κ (by intro n hn;simp at hn;omega)
   have VP:qU [p.length]=dN p.length:=by simp[qU]
   rw[VP] at cv;have HVT:=Hd ZJ;have Cv:=Hd hc;have CV:=Hd cv;have ZL:=Hd vN;clear ZJ hc gL cv VP vN hW;go_wp2_with fail;refine CV.out.mono ?_;rintro e w2 ⟨rfl,q2⟩;have eG:Q wo w2:=(Q.alloc _ _).trans q2;have bN:=ZL.out.q eG;have mE:Below w.heap.size w w2:=HW.out.trans (Below.mono eG U);have Km:=mE.size;have cw:=xA w.heap.size w.heap.size r pre (dN p.length++p) w2 bN (by rw[Δ];omega) U
   have aC:pre++(dN p.length++p)=oG (ps.take (k+1)):=by rw[HVT.out];rfl
   rw[aC] at cw;have CW:=Hd cw;have Ms:=Hd mE;have qC:=Hd bN;clear q2 eG bN mE cw aC;go_wp2_with fail;rw[bytes_append];refine CW.out.mono ?_;rintro e w3 ⟨rfl,mV,r',Cg,dQ⟩;have qI:=Hd (Ms.out.trans (qC.out.below mV U));have iV:=Hd Cg;clear mV Cg dQ;go_wp2_with fail;go_roundw;case rel=>exact⟨k+1,U,by go_num,⟨r',iV.out⟩,qI⟩
   case measure=>simp[intOf];omega
  ·have iN:k=ps.length:=U
   subst iN;rw[M1] at HB;obtain⟨r,vN⟩:=HB.out;have hW:=HW.out;have bP:=hW.size;have c:=EI w.heap.size w.heap.size r (oG ps) wo vN U;have C:=Hd c;clear c vN hW;go_wp2_with fail;refine C.out.mono ?_;rintro e w3 ⟨rfl,gI⟩;have qI:=Hd (HW.out.trans gI);clear gI;go_wp2_with fail;go_ret;exact⟨rfl,qI.out⟩
end
section
open Go.RowKit
section
variable {P:Program}
theorem vH(w:World)(dT sT ty elem:TypeId)(sz g o dLen dCap:Nat)(a:Addr)(sLen sCap:Nat)(cur:Array Value)(t:TypeId)(cs:List Value)
  (hu:P.underlying dT=some (.slice elem)) (hs:(P.info? elem).map (·.size)=some sz)
  (hg:w.heap[g]?=some (.cells cur t (0,0))) (hn:cs.length=Nat.min sLen dLen*sz)
  (aiE:∀j v,cs[j]?=some v→w.cell? (a.add j)=some v) (lS:o+cs.length≤cur.size) (h1:∀v∈cs,v.oneCell'=true) :
  (Builtin.copy_ #[dT,sT] ty #[.slice (some ⟨g,o,none⟩) dLen dCap,.slice (some a) sLen sCap]).run P w =
   .ok (goInt (Nat.min sLen dLen)) (w.setRow g (splice cur.toList o cs).toArray):=by
 have hl:=run_loadCells_list (P:=P) w a cs aiE;have aC:=run_storeCells_at P g o t cs 0 cur w hg (by simpa using lS) h1
 cases hq:P.info? elem with
 | none=>simp[hq] at hs
 | some i =>
  have hi:i.size=sz:=by simpa[hq] using hs
  simp[Builtin.copy_,run_underlying hu,Builtin.lenOf,Builtin.firstCells,sizeOf,typeInfo,hq,hi,←hn,hl,aC,splice]
theorem MV(w:World)(t e ty:TypeId)(z:Value)(ht:P.underlying t=some (.slice e))(hv:∀w,(zeroValue e).run P w=.ok z w)(g o n c:Nat)(hn:0<n)(cur:Array Value)(et:TypeId)
  (hg:w.heap[g]?=some (.cells cur et (0,0))) (lS:o+n*z.cells.size≤cur.size) (h1:∀v∈z.cells.toList,v.oneCell'=true) :
  (Builtin.clear_ #[t] ty #[.slice (some ⟨g,o,none⟩) n c]).run P w=.ok (.tuple #[]) (w.setRow g (splice cur.toList o (Builtin.zeroCells z.cells n).toList).toArray):=by
 have bP:=size_zeroCells z.cells n;have aC:=run_storeCells_at P g o et (Builtin.zeroCells z.cells n).toList 0 cur w hg (by simpa[bP] using lS) (fun v hv=>by
  obtain⟨j,hj,rfl⟩:=Array.mem_map.1 (ad7.1 hv);have hj:=Array.mem_range.1 hj;have hp:0<z.cells.size:=by
   rcases TC z.cells.size with h0|h0
   ·rw[h0] at hj;omega
   ·exact h0
  rw[ZZ z.cells _ (Sx _ hp)];exact h1 _ (ad7.2 (Array.getElem_mem _)))
 obtain⟨m,rfl⟩:∃m,n=m+1:=⟨n-1,U⟩;simp[Builtin.clear_,run_underlying ht,hv,aC,splice]
end
section
variable {α:Type}
theorem Xt(L xs ys:List α)(o n m:Nat)(hx:L.take n=xs)(hl:xs.length=n)(ho:o≤n)(hy:ys.length=m)(hr:n+m≤L.length):
  (splice (splice L (o+m) (xs.drop o)) o ys).take (n+m)=xs.take o++ys++xs.drop o:=by
 have hd:(xs.drop o).length=n-o:=by rw[L5,hl]
 have h1:splice L (o+m) (xs.drop o)=L.take (o+m)++(xs.drop o++L.drop (n+m)):=by unfold splice;rw[hd,show o+m+(n-o)=n+m by omega]
 have ht:(L.take (o+m)).length=o+m:=by rw[L4];omega
 have hxo:L.take o=xs.take o:=by rw[←hx,aby,RE ho]
 have h2:splice (splice L (o+m) (xs.drop o)) o ys=xs.take o++(ys++(xs.drop o++L.drop (n+m))):=by
  rw[h1];unfold splice;rw[hy,P0 U,aby,RE U,hxo];congr 2;rw[Zs,Wk U,N0,ht,abz,QQ]
 rw[h2,←Mm,←Mm];exact SU (by simp only[Δ,L4,hd,hy];omega)
theorem Xu(L xs ys:List α)(o n m:Nat)(hx:L.take o=xs.take o)(hl:xs.length=n)(ho:o≤n)(hy:ys.length=m)(hr:n+m≤L.length):
  (splice (splice L o ys) (o+m) (xs.drop o)).take (n+m)=xs.take o++ys++xs.drop o:=by
 have hd:(xs.drop o).length=n-o:=by rw[L5,hl]
 have h1:splice L o ys=(xs.take o++ys)++L.drop (o+m):=by unfold splice;rw[hy,hx,Mm]
 have ht:(xs.take o++ys).length=o+m:=by rw[Δ,L4,hy];omega
 have h2:splice (splice L o ys) (o+m) (xs.drop o)=(xs.take o++ys++xs.drop o)++L.drop (n+m):=by
  rw[h1];unfold splice;have h3:((xs.take o++ys)++L.drop (o+m)).drop (o+m+(n-o))=L.drop (n+m):=by
   rw[Zs (l₁:=xs.take o++ys),Wk (by rw[ht];omega),N0,N6,ht]
   congr 1;omega
  rw[hd,SU ht,h3,Mm (xs.take o++ys)]
 rw[h2];exact SU (by rw[Δ,ht,hd];omega)
theorem Xv(L xs zs:List α)(o m n:Nat)(hx:L.take n=xs)(hl:xs.length=n)(ho:o+m≤n)(hz:zs.length=m)(hr:n≤L.length):
  (splice (L.take o++xs.drop (o+m)++L.drop (o+(xs.drop (o+m)).length)) (n-m) zs).take (n-m)=xs.take o++xs.drop (o+m):=by
 have hd:(xs.drop (o+m)).length=n-(o+m):=by rw[L5,hl]
 have hxo:L.take o=xs.take o:=by rw[←hx,aby,RE U]
 have ht:(xs.take o++xs.drop (o+m)).length=n-m:=by rw[Δ,L4,hd];omega
 unfold splice;rw[hxo,SU ht];exact SU ht
end
end
end Go.Proofs.YtbkahhebmpehnaaGreatDoor
