/- Joined: FilL to WRDevD -/
import Derived.Test.YtonlbpljghohmaaGreatDoorCWWBlkB
import Derived.Lib.FrozenHead2
import Derived.Laws.CopyOwn
import Derived.Lib.AppendZerosOnto
import Derived.Shelf.Spec.SlicesInsert
import Derived.Test.YtonlbpljghohmaaGreatDoorCWBitA
set_option linter.all false
set_option maxRecDepth 100000
set_option maxHeartbeats 8000000
namespace Go.Proofs.YtonlbpljghohmaaGreatDoor
open Tryz
section
instance:Inhabited ax:=⟨⟨[],false,0,[]⟩⟩
namespace FsL
def at9(φ:FsL)(s:Bytes):ax:=φ.l.getD (aA φ.l s) default
def di(φ:FsL)(s:Bytes):Int:=if φ.st.dead then 4 else if isF φ.l s then 0 else 10
def create(φ:FsL)(s:Bytes):FsL×Int :=
 if φ.st.dead then(φ,4) else if iM s=false then(φ,12) else if isF φ.l s then(φ,11) else if φ.l.length=64 then(φ,6) else φ.cx (wu φ s)
def fW(φ:FsL)(s:Bytes):FsL×Int:=if φ.di s≠0 then(φ,φ.di s) else φ.cx (Ca φ (aA φ.l s) (φ.at9 s))
def delete(φ:FsL)(s:Bytes):FsL×Int:=if φ.di s≠0 then(φ,φ.di s) else φ.cx (rZ φ (aA φ.l s) (φ.at9 s))
def rename(φ:FsL)(s t:Bytes):FsL×Int :=
 if φ.di s≠0 then(φ,φ.di s) else if iM t=false then(φ,12) else if s=t then(φ,0) else φ.cx (r9 φ (aA φ.l s) (φ.at9 s) t)
def append(φ:FsL)(s d:Bytes):FsL×Int :=
 if φ.di s≠0 then(φ,φ.di s) else if (φ.at9 s).sl then(φ,13) else if 6000<d.length∨2147483647<(φ.at9 s).size+d.length then(φ,5) else if d=[] then(φ,0) else φ.cx (oF φ (aA φ.l s) (φ.at9 s) d)
def holds(φ:FsL)(f:ax):Bytes:=cont φ.st.get f
def d8(φ:FsL)(s:Bytes)(a n:Int):Bytes×Int :=
 if φ.di s≠0 then([],φ.di s) else if a<0∨((φ.at9 s).size:Int)<a∨n<0 then([],2) else(((φ.holds (φ.at9 s)).drop a.toNat).take n.toNat,0)
def free(φ:FsL):Nat:=φ.st.free
def used(φ:FsL):Nat:=φ.st.n-ak φ.st.n-φ.st.free
def tell(φ:FsL):Bytes:=φ.l.flatMap fun f=>f.name++[47]++(if f.sl then [33] else [])++φ.holds f++[47]
end FsL
def GB(C:Nat→Bytes)(l:List ax):Bytes:=l.flatMap fun f=>f.name++[47]++(if f.sl then [33] else [])++cont C f++[47]
section
variable {K:Nat} {φ:FsL} {fr:List (List WrL)} {C:Nat→Bytes}
theorem bz.live(h:bz K φ fr C):φ.st.dead=false:=h.st.inv.live
theorem bz.get(h:bz K φ fr C){i:Nat}(hi:i∈fD φ.l):φ.st.get i=C i:=by
 have hr:=h.good.ok.mem hi;rw[h.st.get i (by have h1:63≤ak φ.st.n:=TC _ _;omega) hr.2,h.st.closed h.closed];rfl
theorem EG{l:List ax}{f:ax}(hf:f∈l){k:Nat}(hk:k∈f.bl):k∈fD l:=PT.2 ⟨f,hf,hk⟩
theorem bz.holds(h:bz K φ fr C){f:ax}(hf:f∈φ.l):φ.holds f=cont C f:=QI (fun i hi=>h.get (EG hf hi))
theorem bz.tell(h:bz K φ fr C):φ.tell=GB C φ.l:=by
 unfold FsL.tell GB;rw[aai,aai];congr 1;exact P4 (fun f hf=>by rw[h.holds hf])
theorem bz.Mb(h:bz K φ fr C){f:ax}(hf:f∈φ.l):(cont C f).length=f.size:=by
 have hn:=(h.good.ok.ok f hf).need;unfold cB at hn;unfold cont;rw[Mz,J6 f.bl C (fun i hi=>h.Ff (EG hf hi)),hn];omega
theorem bz.find(h:bz K φ fr C)(s:Bytes):φ.di s=if isF φ.l s then 0 else 10:=by unfold FsL.di;rw[h.live];rfl
theorem bz.at(h:bz K φ fr C){s:Bytes}(hs:isF φ.l s=true):∃hk:aA φ.l s<φ.l.length,φ.at9 s=φ.l[aA φ.l s]∧(φ.at9 s).name=s∧φ.at9 s∈φ.l:=by
 obtain⟨hk,e⟩:=nt hs;have e2:φ.at9 s=φ.l[aA φ.l s]:=getD_at _ hk;exact⟨hk,e2,by rw[e2];exact e,by rw[e2];exact MA hk⟩
theorem bz.at_eq(h:bz K φ fr C){f:ax}(hf:f∈φ.l):isF φ.l f.name=true∧φ.at9 f.name=f:=by
 obtain⟨k,hk,rfl⟩:=QR hf;have e:=BZ h.good.ok.rise _ k hk rfl;refine⟨(IC h.good.ok.rise _).2 ⟨_,hf,rfl⟩,?_⟩;unfold FsL.at9;rw[e];exact getD_at _ hk
theorem bz.mono{K':Nat}(h:bz K φ fr C)(hk:K≤K'):bz K' φ fr C:=⟨WH h.st hk,h.closed,h.good,h.packed⟩
theorem bz.none(h:bz K φ fr C):∃fr' D,bz (K+2) φ fr' D∧φ.l=φ.l∧φ.st.n=φ.st.n∧(φ.st.j.d.Free→φ.st.j.d.Free)∧Same C D φ.l :=
 ⟨fr,C,h.mono U,rfl,rfl,id,fun i hi=>rfl⟩
structure cJ where
 op:Int
 at_:Int
 n:Int
 name:Bytes
 tO:Bytes
 keep:List Bool
 byte:UInt8
def cJ.k(a:cJ):Nat:=lC a.op 11
def cJ.data(a:cJ):Bytes:=List.replicate (lC a.n 6003) a.byte
def fJ(a:cJ)(φ:FsL):FsL×Int :=
 if a.k=0 then φ.create a.name else if a.k=5 then(φ,(φ.d8 a.name a.at_ a.n).2) else if a.k=6 then φ.fW a.name else if a.k=7 then φ.rename a.name a.tO else if a.k=8 then φ.delete a.name else φ.append a.name a.data
def zi(a:cJ)(φ:FsL):Bytes:=if a.k=5 then(φ.d8 a.name a.at_ a.n).1 else []
structure Eff (a:cJ) (l:List ax) (C:Nat→Bytes) (l':List ax) (D:Nat→Bytes):Prop where
 kept:∀f∈l,f.name≠a.name→(a.k=7→f.name≠a.tO)→f∈l'∧cont D f=cont C f
 back:∀f∈l',f.name≠a.name→(a.k=7→f.name≠a.tO)→f∈l
 own:∀f∈l,f.name=a.name→f.sl=true→a.k<7→f∈l'∧cont D f=cont C f
theorem Eff.same(a:cJ)(l:List ax)(C:Nat→Bytes):Eff a l C l C:=⟨fun f hf _ _=>⟨hf,rfl⟩,fun f hf _ _=>hf,fun f hf _ _ _=>⟨hf,rfl⟩⟩
def Out(K:Nat)(fr:List (List WrL))(C:Nat→Bytes)(φ:FsL)(a:cJ)(x:FsL×Int):Prop :=
 (x.2≠4∧∃fr' D,bz (K+2) x.1 fr' D∧x.1.st.n=φ.st.n∧(φ.st.j.d.Free→x.1.st.j.d.Free)∧Eff a φ.l C x.1.l D∧(x.2≠0→x.1.l=φ.l∧D=C)) ∨
 (x.2=4∧x.1.st.dead=true∧x.1.st.n=φ.st.n∧¬φ.st.j.d.Free∧∃l' D,Two (K+2) φ.st.n x.1.st.j.d C D∧sD φ.st.n C φ.l∧sD φ.st.n D l'∧Eff a φ.l C l' D)
theorem pI(h:bz K φ fr C)(a:cJ)(e:Int)(he:e≠4):Out K fr C φ a (φ,e) :=
 .inl ⟨he,fr,C,h.mono U,rfl,id,Eff.same a φ.l C,fun _=>⟨rfl,rfl⟩⟩
theorem Gp(h:bz K φ fr C)(a:cJ){x:FsL×Int}{l':List ax}{P:(Nat→Bytes)→Prop}{R:Prop}(hr:Res K fr C φ x l' P R)(he:∀D,P D→Eff a φ.l C l' D):Out K fr C φ a x:=by
 rcases hr with ⟨e,fr',D,i,rfl,hn,hf,hp⟩|⟨e,hd,_,hn,hf,D,ht,hg,hp⟩|⟨e,i,hl,hj,_⟩
 ·exact .inl ⟨by rw[e];decide,fr',D,i,hn,hf,he D hp,fun hx=>absurd e hx⟩
 ·exact .inr ⟨e,hd,hn,hf,l',D,ht,h.good,hg,he D hp⟩
 ·exact .inl ⟨by rw[e];decide,fr,C,i.mono U,fq hj,fun hf=>by rw[hj];exact hf,by rw[hl];exact Eff.same a φ.l C,fun _=>⟨hl,rfl⟩⟩
theorem Same.cont{C D:Nat→Bytes}{l:List ax}(h:Same C D l){f:ax}(hf:f∈l):cont D f=cont C f:=QI (fun i hi=>h i (EG hf hi))
theorem E6(h:bz K φ fr C)(hK:K+4<18446744073709551616)(a:cJ)(hk:a.k<9):Out K fr C φ a (fJ a φ):=by
 have hl:=h.live;have lK:=h.find a.name;unfold fJ;by_cases k0:a.k=0
 ·rw[Φ k0]
  unfold FsL.create;rw[hl,η Z];by_cases c1:iM a.name=false
  ·rw[Φ c1];exact pI h a 12 Z
  ·rw[η c1]
   by_cases c2:isF φ.l a.name=true
   ·rw[Φ c2];exact pI h a 11 Z
   ·rw[η c2]
    by_cases c3:φ.l.length=64
    ·rw[Φ c3];exact pI h a 6 Z
    ·rw[η c3]
     have hm:∀f,f∈jE φ.l ⟨a.name,false,0,[]⟩↔f=⟨a.name,false,0,[]⟩∨f∈φ.l:=fun f=>by rw[(wh φ.l ⟨a.name,false,0,[]⟩).mem_iff,NL]
     refine Gp h a (La h hK a.name (by simpa using c1) (by simpa using c2) (by have:=h.good.ok.few;omega)) (fun D hD=>⟨fun f hf _ _=>⟨(hm f).2 (.inr hf),hD.cont hf⟩,fun f hf hn _=>?_,fun f hf _ _ _=>⟨(hm f).2 (.inr hf),hD.cont hf⟩⟩)
     rcases (hm f).1 hf with rfl|hf
     ·exact absurd rfl hn
     ·exact hf
 ·rw[η k0]
  by_cases k5:a.k=5
  ·rw[Φ k5]
   refine pI h a _ ?_;unfold FsL.d8;rw[lK];repeat' split
   all_goals first|decide|simp_all
  ·rw[η k5]
   cases hx:isF φ.l a.name with
   | false =>
    rw[hx] at lK;have e:φ.di a.name=10:=lK;have:(if a.k=6 then φ.fW a.name else if a.k=7 then φ.rename a.name a.tO else if a.k=8 then φ.delete a.name else φ.append a.name a.data)=(φ,10):=by
     unfold FsL.fW FsL.rename FsL.delete FsL.append;rw[e];simp
    rw[this];exact pI h a 10 Z
   | true =>
    rw[hx] at lK;have e:φ.di a.name=0:=lK;obtain⟨hi,e2,e3,e4⟩:=h.at hx;have O8:=set_perm hi;have JG:∀f,f∈φ.l↔f=φ.l[aA φ.l a.name]∨f∈φ.l.eraseIdx (aA φ.l a.name):=fun f=>by rw[(mZ hi).mem_iff,NL]
    rw[e2] at e3;have hon:=NT h.good.ok.rise hi;rw[e3] at hon;by_cases k6:a.k=6
    ·rw[Φ k6]
     unfold FsL.fW;rw[η (by rw[e];simp),e2]
     have hm:∀f,f∈φ.l.set (aA φ.l a.name) φ.l[aA φ.l a.name].sealed↔f=φ.l[aA φ.l a.name].sealed∨f∈φ.l.eraseIdx (aA φ.l a.name):=fun f=>by rw[(O8 _).mem_iff,NL]
     refine Gp h a (QL h hK _ hi) (fun D hD=>⟨fun f hf hn _=>⟨?_,hD.cont hf⟩,fun f hf hn _=>?_,fun f hf hn hs _=>⟨?_,hD.cont hf⟩⟩)
     ·rcases (JG f).1 hf with rfl|hf
      ·exact absurd e3 hn
      ·exact(hm f).2 (.inr hf)
     ·rcases (hm f).1 hf with rfl|hf
      ·exact absurd e3 hn
      ·exact(JG f).2 (.inr hf)
     ·rcases (JG f).1 hf with rfl|hf
      ·refine(hm _).2 (.inl ?_)
       unfold ax.sealed;rw[←hs]
      ·exact absurd hn (hon f hf)
    ·rw[η k6]
     by_cases k7:a.k=7
     ·rw[Φ k7]
      unfold FsL.rename;rw[η (by rw[e];simp),e2]
      by_cases c1:iM a.tO=false
      ·rw[Φ c1];exact pI h a 12 Z
      ·rw[η c1]
       by_cases c2:a.name=a.tO
       ·rw[Φ c2];exact pI h a 0 Z
       ·rw[η c2]
        obtain⟨l1,l2,l3,l4⟩:=J5 (h.good.ok.erase (aA φ.l a.name)) a.tO;have hm:∀f,f∈jE (eZ (φ.l.eraseIdx (aA φ.l a.name)) a.tO) (φ.l[aA φ.l a.name].named a.tO)↔f=φ.l[aA φ.l a.name].named a.tO∨f∈eZ (φ.l.eraseIdx (aA φ.l a.name)) a.tO:=fun f=>by rw[(wh _ _).mem_iff,NL]
        refine Gp h a (Lc h hK _ hi a.tO (by simpa using c1) (by rw[e3];exact c2)) (fun D hD=>⟨fun f hf hn ht=>⟨?_,hD.cont hf⟩,fun f hf hn ht=>?_,fun f hf hn hs hk=>U⟩)
        ·rcases (JG f).1 hf with rfl|hf
         ·exact absurd e3 hn
         ·exact(hm f).2 (.inr (l4 f hf (ht k7)))
        ·rcases (hm f).1 hf with rfl|hf
         ·exact absurd rfl (ht k7)
         ·exact(JG f).2 (.inr (l3 f hf))
     ·rw[η k7]
      by_cases k8:a.k=8
      ·rw[Φ k8]
       unfold FsL.delete;rw[η (by rw[e];simp),e2]
       refine Gp h a (Lb h hK _ hi) (fun D hD=>⟨fun f hf hn _=>⟨?_,hD.cont hf⟩,fun f hf hn _=>(JG f).2 (.inr hf),fun f hf hn hs hk=>U⟩)
       rcases (JG f).1 hf with rfl|hf
       ·exact absurd e3 hn
       ·exact hf
      ·rw[η k8]
       unfold FsL.append;rw[η (by rw[e];simp),e2]
       by_cases c1:φ.l[aA φ.l a.name].sl=true
       ·rw[Φ c1];exact pI h a 13 Z
       ·rw[η c1]
        by_cases c2:6000<a.data.length∨2147483647<φ.l[aA φ.l a.name].size+a.data.length
        ·rw[Φ c2];exact pI h a 5 Z
        ·rw[η c2]
         by_cases c3:a.data=[]
         ·rw[Φ c3];exact pI h a 0 Z
         ·rw[η c3]
          obtain⟨x,hx,_⟩:=EF h hK _ hi a.data U U;have hm:∀f,f∈φ.l.set (aA φ.l a.name) (dW φ.l[aA φ.l a.name] a.data x)↔f=dW φ.l[aA φ.l a.name] a.data x∨f∈φ.l.eraseIdx (aA φ.l a.name):=fun f=>by rw[(O8 _).mem_iff,NL]
          refine Gp h a hx (fun D hD=>⟨fun f hf hn _=>?_,fun f hf hn _=>?_,fun f hf hn hs hk=>?_⟩)
          ·rcases (JG f).1 hf with rfl|hf
           ·exact absurd e3 hn
           ·exact⟨(hm f).2 (.inr hf),hD.1.cont hf⟩
          ·rcases (hm f).1 hf with rfl|hf
           ·exact absurd e3 hn
           ·exact(JG f).2 (.inr hf)
          ·rcases (JG f).1 hf with rfl|hf
           ·exact absurd hs c1
           ·exact absurd hn (hon f hf)
end
end
section
theorem uB(b:Bytes)(lo a:Nat)(ha:lo≤a)(k:Nat):a<lo+k→(∀i,a≤i→i<lo+k→bit b i=true)→∃ys q,dR b lo k=ys++[q]∧q.1≤a∧q.1+q.2=lo+k:=by
 induction k with
 | zero=>intro h _;omega
 | succ k ih =>
  intro h hb;rw[dR,hb (lo+k) U U,Φ rfl];by_cases hk:a<lo+k
  ·obtain⟨ys,q,e,q1,q2⟩:=ih hk (fun i h1 h2=>hb i h1 U)
   rw[e,acA,ab1,adT];simp only[];rw[Φ q2,W4];exact⟨ys,_,rfl,q1,by simp only;omega⟩
  ·obtain rfl:a=lo+k:=U
   cases hl:(dR b lo k).getLast? with
   | none=>exact⟨[],_,rfl,Ω _,by simp only;omega⟩
   | some r =>
    simp only[];split
    ·exact⟨_,_,rfl,by simp only;omega,by simp only;omega⟩
    ·exact⟨_,_,rfl,Ω _,by simp only;omega⟩
theorem qv(b:Bytes)(lo k t:Nat){r:Nat×Nat}(h:r∈dR b lo k):∃q∈dR b lo (k+t),q.1=r.1∧r.2≤q.2:=by
 induction t with
 | zero=>exact⟨r,h,rfl,Ω _⟩
 | succ t ih =>
  obtain⟨q,hq,q1,q2⟩:=ih;rw[←P0,dR];split
  ·cases hl:(dR b lo (k+t)).getLast? with
   | none=>rw[Z2.1 hl] at hq;simp at hq
   | some x =>
    obtain⟨ys,RG⟩:=abQ.1 hl;simp only[];split
    ·rw[RG,W4]
     rw[RG] at hq;rcases No.1 hq with hq|hq
     ·exact⟨q,No.2 (.inl hq),q1,q2⟩
     ·obtain rfl:=M3.1 hq
      exact⟨_,No.2 (.inr (M3.2 rfl)),q1,by simp only;omega⟩
    ·exact⟨q,No.2 (.inl hq),q1,q2⟩
  ·exact⟨q,hq,q1,q2⟩
theorem Le(b:Bytes)(lo k a c:Nat)(ha:lo≤a)(hc:1≤c)(hk:a+c≤lo+k)(h:∀i,a≤i→i<a+c→bit b i=true):∃r∈dR b lo k,r.1≤a∧a+c≤r.1+r.2:=by
 obtain⟨ys,q,e,q1,q2⟩:=uB b lo a ha (a+c-lo) U (fun i h1 h2=>h i h1 U)
 obtain⟨r,hr,r1,r2⟩:=qv b lo (a+c-lo) (lo+k-(a+c)) (r:=q) (by rw[e];exact No.2 (.inr (M3.2 rfl)))
 rw[show a+c-lo+(lo+k-(a+c))=k by omega] at hr
 exact⟨r,hr,U,U⟩
def CI(l:List ax):Nat:=(l.map fun f=>cB f.size).sum
section
variable {K:Nat} {φ:FsL} {fr:List (List WrL)} {C:Nat→Bytes}
theorem QM{first n:Nat}{l:List ax}(h:∀f∈l,ge first n f):(fD l).length=CI l:=by
 unfold CI;induction l with
 | nil=>rfl
 | cons f l ih=>rw[gJ,Δ,ih (fun g hg=>h g (M1 _ hg)),(h f (Nm ..)).need,On,ad7]
theorem bz.count(h:bz K φ fr C):φ.used=12+CI φ.l∧φ.used+φ.free=φ.st.n-ak φ.st.n:=by
 have hm:=Qh φ.st.ai (ak φ.st.n) (φ.st.n-ak φ.st.n) h.st.map.low;have hr:=h.good.room;rw[show ak φ.st.n+(φ.st.n-ak φ.st.n)=φ.st.n by omega] at hm
 have hp:((List.range' (ak φ.st.n) (φ.st.n-ak φ.st.n)).filter fun i=>bit φ.st.ai i).Perm (List.range' (ak φ.st.n) 12++fD φ.l):=by
  refine(YY (List.Nodup.sublist abM adf) (R0.2 ⟨adf,h.good.ok.apart,fun a ha b hb e=>?_⟩)).2 (fun i=>?_)
  ·have h1:=(To.1 ha).2;have h2:=(h.good.ok.mem hb).1;omega
  ·rw[QP,To,No,To]
   constructor
   ·rintro⟨⟨h1,h2⟩,h3⟩
    exact((h.eQ i h1 U).1 h3).imp (fun h=>⟨h1,h⟩) id
   ·rintro(⟨h1,h2⟩|h1)
    ·exact⟨⟨h1,U⟩,(h.eQ i h1 U).2 (.inl h2)⟩
    ·have h2:=h.good.ok.mem h1
     exact⟨⟨U,U⟩,(h.eQ i U U).2 (.inr h1)⟩
 have hl:=hp.length_eq;rw[Δ,WF,QM h.good.ok.ok] at hl;unfold FsL.used FsL.free StL.free;omega
theorem bz.cover(h:bz K φ fr C){e:Nat×Nat}(he:e=(ak φ.st.n,12)∨∃f∈φ.l,e∈f.ext):∃r∈mW φ.st.ai (ak φ.st.n) φ.st.n,r.1≤e.1∧e.1+e.2≤r.1+r.2:=by
 have hr:=h.good.room;rw[yC _ _ _ h.st.map.low U];rcases he with rfl|⟨f,hf,he⟩
 ·exact Le _ _ _ _ _ (Ω _) κ (by simp only;omega) (fun i h1 h2=>h.low i h2)
 ·obtain⟨e1,e2,e3⟩:=(h.good.ok.ok f hf).ext e he
  refine Le _ _ _ _ _ U e1 U (fun i h1 h2=>?_)
  exact(h.eQ i U U).2 (.inr (EG hf (JY.2 ⟨e,he,h1,h2⟩)))
end
end
section
structure cW (k n:Nat) (φ:FsL) (C:Nat→Bytes):Prop where
 inv:∃fr,bz (20+2*k) φ fr C
 free:φ.st.j.d.Free
 n:φ.st.n=n
def jF:Bytes:=[111,119,110]
def Has(s:Bytes)(b:Bool)(t:Bytes)(φ:FsL)(C:Nat→Bytes):Prop:=∃f∈φ.l,f.name=s∧f.sl=b∧cont C f=t
section
variable {k n:Nat} {φ:FsL} {C:Nat→Bytes}
theorem cW.more(h:cW k n φ C):cW (k+1) n φ C:=⟨h.inv.imp fun fr hi=>hi.mono U,h.free,h.n⟩
theorem cW.cx(h:cW k n φ C)(kW:k≤1000000)(a:cJ)(hk:a.k<9):
  ∃D,cW (k+1) n (fJ a φ).1 D∧Eff a φ.l C (fJ a φ).1.l D∧(fJ a φ).2≠4∧((fJ a φ).2≠0→(fJ a φ).1.l=φ.l∧D=C):=by
 obtain⟨⟨fr,hi⟩,hf,hn⟩:=h;rcases E6 hi U a hk with ⟨e,fr',D,i,kV,Ry,he,hs⟩|⟨_,_,_,x,_⟩
 ·exact⟨D,⟨⟨fr',by rw[show 20+2*(k+1)=20+2*k+2 by omega];exact i⟩,Ry hf,by rw[kV];exact hn⟩,he,e,hs⟩
 ·exact absurd hf x
theorem mj{fr:List (List WrL)}(hi:bz (20+2*k) φ fr C)(hf:φ.st.j.d.Free)(hn:φ.st.n=n){x:FsL×Int}{l':List ax}{P:(Nat→Bytes)→Prop}{R:Prop}(hr:Res (20+2*k) fr C φ x l' P R):
  (x.2=0∧∃D,cW (k+1) n x.1 D∧x.1.l=l'∧P D)∨(x.2=9∧cW (k+1) n x.1 C∧x.1.l=φ.l∧R):=by
 rcases hr with ⟨e,fr',D,i,hl,kV,Ry,hp⟩|⟨_,_,_,_,x,_⟩|⟨e,i,hl,hj,hR⟩
 ·exact .inl ⟨e,D,⟨⟨fr',by rw[show 20+2*(k+1)=20+2*k+2 by omega];exact i⟩,Ry hf,by rw[kV];exact hn⟩,hl,hp⟩
 ·exact absurd hf x
 ·exact .inr ⟨e,⟨⟨fr,i.mono U⟩,by rw[hj];exact hf,by rw[fq hj];exact hn⟩,hl,hR⟩
theorem Ba(f:ax)(h1:f.name.length≤24)(h2:f.ext.length≤1):iA [f]=true:=by
 have a:=FT f.name;have b:=iJ (if f.sl then 1 else 0);have c:=iJ f.size;have d:=iJ f.ext.length
 have e:(f.ext.flatMap fun e=>dN e.1++dN e.2).length≤20:=by
  match hx:f.ext with
  | []=>simp
  | [y]=>have:=iJ y.1;have:=iJ y.2;simp only[OR,V1,Δ,OF];omega
  | _::_::_=>rw[hx] at h2;simp at h2
 have g:=iJ (0+1);unfold iA ix je Av;refine NO ?_;simp only[OR,V1,Δ,Mu,OF,aH] at *;omega
theorem Has.isF(h:cW k n φ C){s:Bytes}{b:Bool}{t:Bytes}(x:Has s b t φ C):isF φ.l s=true∧(φ.at9 s).sl=b∧cont C (φ.at9 s)=t∧φ.di s=0∧(φ.at9 s).size=t.length:=by
 obtain⟨⟨fr,hi⟩,_⟩:=h;obtain⟨f,hf,rfl,hb,ht⟩:=x;obtain⟨e1,e2⟩:=hi.at_eq hf;rw[e2];exact⟨e1,hb,ht,by rw[hi.find,e1];rfl,by rw[←ht];exact(hi.Mb hf).symm⟩
theorem Has.read(h:cW k n φ C){s:Bytes}{b:Bool}{t:Bytes}(x:Has s b t φ C)(a m:Int)(ha:0≤a)(ht:a≤t.length)(hm:0≤m):φ.d8 s a m=((t.drop a.toNat).take m.toNat,0):=by
 obtain⟨e1,e2,e3,e4,e5⟩:=Has.isF h x;obtain⟨⟨fr,hi⟩,_⟩:=h;obtain⟨_,_,_,xD⟩:=hi.at e1;unfold FsL.d8;rw[η (by rw[e4];simp),η (by rw[e5];omega),hi.holds xD,e3]
theorem Has.kept{a:cJ}{s:Bytes}{b:Bool}{t:Bytes}{l':FsL}{D:Nat→Bytes}(x:Has s b t φ C)(he:Eff a φ.l C l'.l D)(h1:a.name≠s)(h2:a.k=7→a.tO≠s):Has s b t l' D:=by
 obtain⟨f,hf,rfl,hb,rfl⟩:=x;obtain⟨h3,h4⟩:=he.kept f hf (abH h1) (fun hk=>abH (h2 hk))
 exact⟨f,h3,rfl,hb,h4⟩
theorem Has.seal{a:cJ}{s:Bytes}{t:Bytes}{l':FsL}{D:Nat→Bytes}(x:Has s true t φ C)(he:Eff a φ.l C l'.l D)(h:¬(7≤a.k∧(a.name=s∨a.tO=s))):Has s true t l' D:=by
 by_cases h1:a.name=s
 ·obtain⟨f,hf,rfl,hb,rfl⟩:=x
  obtain⟨h3,h4⟩:=he.own f hf h1.symm hb (Nat.not_le.1 fun hk=>h ⟨hk,.inl h1⟩)
  exact⟨f,h3,rfl,hb,h4⟩
 ·exact x.kept he h1 (fun hk e=>h ⟨U,.inr e⟩)
theorem Has.j8(h:cW k n φ C){s t:Bytes}(x:Has s true t φ C)(d:Bytes):φ.append s d=(φ,13):=by
 obtain⟨e1,e2,e3,e4,e5⟩:=Has.isF h x;unfold FsL.append;rw[η (by rw[e4];simp),Φ e2]
theorem Has.append(h:cW k n φ C)(kW:k≤1000000){s t:Bytes}(x:Has s false t φ C)(d:Bytes):
  ∃D,cW (k+1) n (φ.append s d).1 D∧(φ.append s d).2≠4∧Has s false (if (φ.append s d).2=0 then t++d else t) (φ.append s d).1 D ∧
   (d.length≤6000→t.length+d.length≤2147483647→(φ.append s d).2=0∨(φ.append s d).2=9) ∧
   (∀m,(φ.append s d).2=9→(∃f,φ.l=[f]∧f.ext=[]∧f.name.length≤24)→t=[]→cB d.length=m→NoRoom φ.st m):=by
 obtain⟨e1,e2,e3,e4,e5⟩:=Has.isF h x;have hg:=h;obtain⟨⟨fr,hi⟩,hf,hn⟩:=h;obtain⟨hp,p1,p2,p3⟩:=hi.at e1;unfold FsL.append;rw[η (by rw[e4];simp),η (by rw[e2];decide),e5]
 by_cases c2:6000<d.length∨2147483647<t.length+d.length
 ·rw[Φ c2]
  exact⟨C,hg.more,κ,x,fun h1 h2=>U,fun m h9=>absurd h9 κ⟩
 ·rw[η c2]
  by_cases c3:d=[]
  ·rw[Φ c3]
   refine⟨C,hg.more,κ,?_,fun _ _=>.inl rfl,fun m h9=>absurd h9 κ⟩
   rw[Φ rfl,c3,ON];exact x
  ·rw[η c3,p1]
   rw[p1] at e2 e3 e5;obtain⟨y,hy,hy2⟩:=EF hi U _ hp d U U;have eF:dW φ.l[aA φ.l s] d y∈φ.l.set (aA φ.l s) (dW φ.l[aA φ.l s] d y):=(set_perm hp _).mem_iff.2 (Nm ..);rw[p1] at p2;rcases mj hi hf hn hy with ⟨r0,D,r1,r2,r3⟩|⟨r0,r1,r2,r3⟩
   ·refine⟨D,r1,by rw[r0];decide,?_,fun _ _=>.inl r0,fun m h9=>absurd h9 (by rw[r0];decide)⟩
    rw[Φ r0];exact⟨dW φ.l[aA φ.l s] d y,by rw[r2];exact eF,p2,e2,by rw[r3.2,e3]⟩
   ·refine⟨C,r1,by rw[r0];decide,?_,fun _ _=>.inr r0,fun m h9 hz ht hm=>?_⟩
    ·rw[η (by rw[r0];decide)]
     obtain⟨f,hf,x1⟩:=x;exact⟨f,by rw[r2];exact hf,x1⟩
    ·obtain⟨f,z1,z2,z3⟩:=hz
     have Pb:aA φ.l s=0:=by rw[z1] at hp;simp at hp;rw[z1];exact hp
     have pF:φ.l[aA φ.l s]=f:=acF (by rw[←Mp hp,Pb,z1];rfl)
     have dZ:φ.l[aA φ.l s].bl.length=0:=by rw[pF];unfold ax.bl;rw[z2];rfl
     have lD:cB (φ.l[aA φ.l s].size+d.length)-φ.l[aA φ.l s].bl.length=m:=by rw[e5,ht,dZ,←hm,OF,PF,adn]
     rw[lD] at r3 hy2;rcases r3 with r3|r3|r3
     ·rcases hy2 with hy2|hy2
      ·rw[pF,z2] at hy2
       have Mq:=Ba (dW f d y) z3 hy2;have:φ.l.set (aA φ.l s) (dW φ.l[aA φ.l s] d y)=[dW f d y]:=by rw[pF,Pb,z1];rfl
       rw[this,Mq] at r3;exact absurd r3 Z
      ·exact hy2
     ·rcases hy2 with hy2|hy2
      ·rw[pF,z2] at hy2
       have:y.length≤1:=hy2;omega
      ·exact hy2
     ·exact r3
end
end
section
theorem IT(b:Bytes)(f k:Nat)(h:∀i,f≤i→i<f+k→bit b i=false):k≤tail b (f+k):=by
 induction k with
 | zero=>exact MD _
 | succ k ih =>
  rw[←P0,tail,h (f+k) U U,η Z];have:=ih (fun i h1 h2=>h i h1 U)
  omega
theorem Ce(b:Bytes)(f n c:Nat)(hc:1≤c)(hn:f+c≤n)(hl:∀i,i<f→bit b i=true)(hf:∀i,f≤i→i<n→bit b i=false):fK b c n=some f:=by
 have ht:=IT b f c (fun i h1 h2=>hf i h1 U)
 cases hx:fK b c n with
 | none=>have:=Qd b c n hc hx (f+c) hn;omega
 | some s =>
  obtain⟨h1,h2,h3⟩:=Es b c n s hx;rcases abl s f with h|h|h
  ·have:=Ni b (s+c) s U U
   rw[hl s h] at this;exact absurd this Z
  ·rw[h]
  ·have:=Qd b c (s+c-1) hc (h3 hc) (f+c) U;omega
theorem tJ(n:Nat)(h:128≤n)(hm:n≤4096)(i:Nat):bit (iX n) i=decide (i<ak n):=by
 have hp:=jQ n U;have hf:=jH n h hm;unfold iX;rw[BK _ _ _ _ _ (by rw[fC];omega)]
 by_cases hi:i<ak n
 ·rw[Φ U,NO hi]
 ·rw[η U,Nx hi]
  unfold bit bg;rw[Θ,Tb];split<;>simp
def φ0(n:Nat):FsL:=⟨bf n,[],[]⟩
def xw(φ:FsL)(σ:StL):TxR:=if (σ.alloc 12).2.2≠0 then((σ.alloc 12).1,(σ.alloc 12).2.2,[]) else qm φ (σ.alloc 12).1 []
def fE(n:Nat):FsL:=((φ0 n).cx (xw (φ0 n))).1
theorem qZ:iA []=true:=by
 have h:=iJ 0;refine NO ?_;unfold ix je;simp only[V1,Δ,Mu,OF,aH] at *;omega
theorem MS(n:Nat)(h:128≤n)(hm:n≤4096):
  ((φ0 n).cx (xw (φ0 n))).2=0∧(fE n).l=[]∧(fE n).st.n=n∧(fE n).st.j.d.Free∧(∃fr C,bz 7 (fE n) fr C) ∧
  (bf n).begin.2=0∧(∀i,bit (fE n).st.ai i=decide (i<ak n+12)) ∧
  ∃σ2,(bf n).begin.1.alloc 12=(σ2,(ak n:Int),0):=by
 obtain⟨_,_,hi,hn,hf,hb⟩:=BO n h hm;have lK:ak n+12≤n:=by unfold ak aD;omega
 obtain⟨b0,ht,h0,h1⟩:=yG hi rfl;have uf:(bf n).begin.1.n=n:=(fq ht.j).trans hn;have ny:fO (bf n).begin.1:=by unfold fO;rw[h0];simp
 have lS:fK (bf n).begin.1.ai 12 (bf n).begin.1.n=some (ak n):=by
  rw[h1,hb,uf];exact Ce _ _ _ _ Z lK (fun i hi=>by rw[tJ n h hm];exact NO hi) (fun i hi _=>by rw[tJ n h hm];exact Nx U)
 have jy:=AY ht.st ht.op ny 12 Z;rw[lS] at jy;obtain⟨a1,a2,a3,a4⟩:=jy;obtain⟨t0,t1,t2,t3,t4,t5⟩:=yF ht.st ht.op ny (ak n) 12 true a2 a3;have GK:∀i,bit ((bf n).begin.1.bh (ak n) 12 true).1.ai i=decide (i<ak n+12):=fun i=>by
  rw[t1,h1,hb,tJ n h hm];by_cases hx:i<ak n+12
  ·rw[NO hx];split
   ·rfl
   ·exact NO U
  ·rw[Nx hx,η U];exact Nx U
 have tX:((bf n).begin.1.bh (ak n) 12 true).1.n=n:=(fq t4).trans uf;obtain⟨d1,d2,d3,d4,d5,d6,d7⟩:=sx t2 t3 (by have:=qY t2 t5;omega) (by rw[tX];exact lK) [] [] qZ (fun i hi=>by rw[GK,tX];exact NO U) (.inl rfl)
 have hr:xw (φ0 n) (φ0 n).st.begin.1=((((bf n).begin.1.bh (ak n) 12 true).1.dir [] []).1,(((bf n).begin.1.bh (ak n) 12 true).1.dir [] []).2,[]):=by
  show xw (φ0 n) (bf n).begin.1=_;unfold xw;rw[show((12:Nat):Int)=12 from rfl] at a1
  rw[a1,η κ];rfl
 have kV:(((bf n).begin.1.bh (ak n) 12 true).1.dir [] []).1.n=n:=(fq d5).trans tX;rw[tX] at d6;have hg:sD n (bT (bT (fun _=>ag) (bE n)) (((bf n).begin.1.bh (ak n) 12 true).1.dir [] []).1.tx) []:=by
  refine⟨lK,⟨MD _,List.Pairwise.nil,fun f hf=>by simp at hf,acY⟩,qZ,d6,fun i h1 h2=>?_⟩
  have lD:=d2.now;rw[kV] at lD;rw[←lD,d4,GK];simp[fD]
 have aiz:∀x,xw (φ0 n) (φ0 n).st.begin.1=x→x.2.1=0→TxI 5 [] (bT (fun _=>ag) (bE n)) (φ0 n).st x.1→sD n (bT (bT (fun _=>ag) (bE n)) x.1.tx) x.2.2 →
   ((φ0 n).cx (xw (φ0 n))).2=0∧(fE n).l=x.2.2∧(fE n).st.n=n∧(fE n).st.j.d.Free∧(∃fr,bz 7 (fE n) fr (bT (bT (fun _=>ag) (bE n)) x.1.tx))∧(fE n).st.ai=kD n (bT (bT (fun _=>ag) (bE n)) x.1.tx):=fun x e e0 hx hgx=>by
  subst e;rcases oi (φ:=φ0 n) (r:=xw (φ0 n)) hi rfl Z e0 hx (by rw[show(φ0 n).st.n=n from hn];exact hgx) with ⟨x1,⟨fr',x2⟩,x3,x4,x5⟩|⟨_,_,_,_,x5,_⟩
  ·refine⟨x1,x3,x4.trans hn,x5 hf,⟨fr',x2⟩,?_⟩
   have:=x2.st.now;rw[x2.st.closed x2.closed] at this;rw[show(fE n).st.ai=_ from this,x4,show(φ0 n).st.n=n from hn];rfl
  ·exact absurd hf x5
 obtain⟨r1,r2,r3,r4,⟨fr,r5⟩,r6⟩:=aiz _ hr d1 ⟨d2,d3,d5.trans (t4.trans ht.j)⟩ hg;refine⟨r1,r2,r3,r4,⟨fr,_,r5⟩,b0,fun i=>?_,_,a1⟩
 have lD:=d2.now;rw[kV] at lD;rw[r6];show bit (kD n (bT _ (((bf n).begin.1.bh (ak n) 12 true).1.dir [] []).1.tx)) i=_;rw[←lD,d4,GK]
def ng(d:af)(l:List ax):FsL:=⟨aV d,l,bR l⟩
theorem Mn{K:Nat}{d:af}{s:bw}{k:Nat}{fr:List (List WrL)}{C:Nat→Bytes}{l:List ax}(h:jZ 60 K d s k fr C)(hg:uG d.l.length C)(hf:sD d.l.length C l)(hn:128≤d.l.length)(hK:K+3<18446744073709551616)(he:(aL d).2=0):
  DK d∧bz (K+1) (ng d l) [] C∧(ng d l).st.n=d.l.length∧(d.b9 = -1→(ng d l).st.j.d.Free):=by
 obtain⟨o1,o2,o3⟩:=Ga h hg hn hK he;refine⟨o1,⟨o2,rfl,?_,rfl⟩,o3,fun Ed=>?_⟩
 ·show sD (aV d).n C l
  rw[o3];exact hf
 ·rcases AP h hK with ⟨_,x,_,y⟩|⟨e,_⟩
  ·exact⟨y Ed,x.live⟩
  ·rw[e] at he;exact absurd he Z
theorem DT{K n:Nat}{φ:FsL}{C:Nat→Bytes}(h:cW K n φ C)(hK:K≤1000000):
  (∃s k fr,jZ 60 (20+2*K) φ.st.j.d s k fr C)∧uG φ.st.j.d.l.length C∧sD φ.st.j.d.l.length C φ.l∧φ.st.j.d.l.length=n∧φ.st.j.d.Ok∧128≤n∧n≤4096∧φ.st.j.d.p.length≤48 ∧
  (aL φ.st.j.d).2=0∧DK φ.st.j.d∧cW (K+1) n (ng φ.st.j.d φ.l) C∧(ng φ.st.j.d φ.l).st.ai=φ.st.ai:=by
 obtain⟨⟨fr,hi⟩,hf,hn⟩:=h;have Zv:φ.st.j.d.l.length=n:=hn;have hp:=hi.st.inv.toJPre.open;have hb:=hi.st.big;have hm:=hi.st.max;have hz:(aL φ.st.j.d).2=0:=by
  rcases Nn hp U with e|⟨_,_,_,_,e⟩
  ·exact e
  ·exact absurd hf.1 e
 obtain⟨o1,o2,o3,o4⟩:=Mn hp hi.st.good hi.good hb U hz;refine⟨⟨_,_,_,hp⟩,hi.st.good,hi.good,Zv,hi.st.inv.ok,U,U,hi.st.inv.eK,hz,o1,⟨⟨_,o2.mono U⟩,o4 hf.1,o3.trans Zv⟩,?_⟩;have h1:=o2.st.now;have h2:=hi.st.now;rw[o2.st.closed o2.closed,o3] at h1;rw[hi.st.closed hi.closed] at h2;exact h1.trans h2.symm
def iZ(n:Nat)(p t:Bytes)(k:Nat):List WrL:=((List.range k).filter fun i=>decide (p=[]∨aG p i≠aG t i)).map fun i=>(ak n+i,aG t i)
theorem Lf(n:Nat)(p t:Bytes)(k:Nat):iZ n p t (k+1)=iZ n p t k++if p=[]∨aG p k≠aG t k then [(ak n+k,aG t k)] else []:=by
 unfold iZ;rw[UV,abW,Pu];congr 1;by_cases h:p=[]∨aG p k≠aG t k
 ·rw[Φ h,ach,Φ (NO h)];rfl
 ·rw[η h,ach,η (by simpa using h)];rfl
theorem Fg(a b:List WrL):∀σ:StL,(σ.writes a).2=0→σ.writes (a++b)=(σ.writes a).1.writes b:=by
 induction a with
 | nil=>intro σ _;rfl
 | cons x a ih =>
  intro σ h;rw[StL.writes] at h;by_cases hx:(σ.write x.1 x.2).2≠0
  ·rw[Φ hx] at h;exact absurd h hx
  ·rw[η hx] at h
   rw[PC,StL.writes,η hx,ih _ h,StL.writes,η hx]
theorem Lg(σ:StL)(i:Nat)(s:Bytes)(h:(σ.write i s).2=0):σ.writes [(i,s)]=((σ.write i s).1,0):=by
 rw[StL.writes,η (by simpa using h)];rfl
structure eI (KI:Nat) (σ:StL) (fr:List (List WrL)) (C:Nat→Bytes):Prop where
 st:ce KI σ fr C
 op:σ.open_=true
 few:σ.tx.length≤36
 room:ak σ.n+12≤σ.n
 on:∀i,i<12→bit σ.ai (ak σ.n+i)=true
theorem NU{KI:Nat}{σ:StL}{fr:List (List WrL)}{C:Nat→Bytes}(h:eI KI σ fr C)(hK:KI<18446744073709551616)(p t:Bytes)(ht:t.length=3072)(k:Nat)(hk:k<12):
  (σ.writes (iZ σ.n p t k)).2=0∧iL (σ.writes (iZ σ.n p t k)).1∧(σ.writes (iZ σ.n p t k)).1.n=σ.n∧(¬(p=[]∨aG p k≠aG t k)→σ.writes (iZ σ.n p t (k+1))=σ.writes (iZ σ.n p t k)) ∧
  ((p=[]∨aG p k≠aG t k)→((σ.writes (iZ σ.n p t k)).1.write (ak σ.n+k:Nat) (aG t k)).2=0∧σ.writes (iZ σ.n p t (k+1))=(((σ.writes (iZ σ.n p t k)).1.write (ak σ.n+k:Nat) (aG t k)).1,0)):=by
 have hlen:(iZ σ.n p t k).length≤k:=by
  unfold iZ;rw[OK];exact My (XX _ _) (by rw[Wb];exact Ω _)
 have vM:=h.few;obtain⟨a1,a2,a3,a4,a5,a6,_⟩:=tC (iZ σ.n p t k) h.st h.op U (fun x hx=>by
  obtain⟨i,hi,rfl⟩:=NF.1 hx;have hi:=Sa.1 (QP.1 hi).1;have hr:=h.room;exact⟨TC _ _,by simp only;omega,h.on i U,ni ht U⟩)
 have hn:=fq a5;have hr:=h.room;obtain⟨b1,_⟩:=J2 a2 a3 U (ak σ.n+k) (aG t k) (ni ht hk) (by rw[hn];omega) (by rw[hn];omega) (by rw[a4];exact h.on k hk)
 have hw:((σ.writes (iZ σ.n p t k)).1.write (ak σ.n+k:Nat) (aG t k)).2=0:=by rw[b1]
 refine⟨a1,a2.num hK,hn,fun hc=>?_,fun hc=>⟨hw,?_⟩⟩
 ·rw[Lf,η hc,ON]
 ·rw[Lf,Φ hc,Fg _ _ _ a1,Lg _ _ _ hw]
theorem Gq{KI:Nat}{σ:StL}{fr:List (List WrL)}{C:Nat→Bytes}(h:eI KI σ fr C)(p t:Bytes)(ht:t.length=3072):(σ.writes (vL σ.n p t)).2=0:=by
 have hr:=h.room;have vM:=h.few;have hlen:=J3 σ.n p t;exact(tC (vL σ.n p t) h.st h.op U (fun x hx=>by
  obtain⟨i,hi,rfl⟩:=AZ hx;exact⟨TC _ _,by simp only;omega,h.on i hi,ni ht hi⟩)).1
theorem NV(t:Bytes)(k:Nat):t.take (256*k)++aG t k=t.take (256*(k+1)):=by
 show _++(t.drop (k*256)).take 256=_;rw[We k 256,←ad5];congr 1
end
section
open Go.RowKit
abbrev iD(l:Bytes):List Value:=Lib.byteCells l
def Bld(w:World)(B b:Nat)(r:Option Nat)(l:Bytes):Prop :=
 B≤b∧∃p v,w.heap[b]?=some (.cells #[p,v] 104 (0,0))∧(p=.pointer none∨p=.pointer (some ⟨b,0,none⟩))∧w.ownsRowF B 5 1 v l.length (iD l)∧v.ownBlock=r∧r≠some b∧(l=[]→r=none)
structure fL (w w':World) (b:Nat) (r:Option Nat):Prop where
 os:w'.os=w.os
 tape:w'.tape=w.tape
 output:w'.output=w.output
 size:w.heap.size≤w'.heap.size
 block:∀k,k<w.heap.size→k≠b→some k≠r→w'.heap[k]?=w.heap[k]?
theorem fL.refl(w:World)(b:Nat)(r:Option Nat):fL w w b r:=⟨rfl,rfl,rfl,Ω _,fun _ _ _ _=>rfl⟩
theorem fL.below{w w':World}{b:Nat}{r:Option Nat}{B:Nat}(h:fL w w' b r)(hb:B≤b)(hr:∀k,r=some k→B≤k)(hB:B≤w.heap.size):Below B w w' :=
 ⟨h.os,h.tape,h.output,h.size,fun k hk=>h.block k U U (fun e=>by have:=hr k e.symm;omega)⟩
theorem Bld.lt{w:World}{B b:Nat}{r:Option Nat}{l:Bytes}(h:Bld w B b r l):b<w.heap.size:=by
 obtain⟨_,p,v,hb,_⟩:=h;exact(Ss.1 hb).1
theorem Bld.row{w:World}{B b:Nat}{r:Option Nat}{l:Bytes}(h:Bld w B b r l):∀k,r=some k→B≤k∧k<w.heap.size:=by
 obtain⟨_,p,v,hb,_,ho,hr,_,_⟩:=h;intro k hk;exact ho.lt k (hr.trans hk)
theorem Bld.below{w w':World}{B b:Nat}{r:Option Nat}{l:Bytes}(h:Bld w B b r l)(hs:fL w w' b r)(hB:B≤w.heap.size):Below B w w' :=
 hs.below h.1 (fun k hk=>(h.row k hk).1) hB
theorem Bld.stays{w w':World}{B b:Nat}{r:Option Nat}{l:Bytes}(h:Bld w B b r l)(hb:w'.heap[b]?=w.heap[b]?)(hr:∀k,r=some k→w'.heap[k]?=w.heap[k]?)(bP:w.heap.size≤w'.heap.size):Bld w' B b r l:=by
 obtain⟨h1,p,v,h2,h3,ho,h4,h5⟩:=h;refine⟨h1,p,v,hb.trans h2,h3,⟨ho.1,?_⟩,h4,h5⟩;rcases ho.2 with hn|⟨g,cap,cur,fz,rfl,lF,hg,rest⟩
 ·exact .inl hn
 ·exact .inr ⟨g,cap,cur,fz,rfl,lF,(hr g (by rw[←h4];rfl)).trans hg,rest⟩
theorem Bld.alloc{w:World}{B b:Nat}{r:Option Nat}{l:Bytes}(h:Bld w B b r l)(o:Obj):Bld (w.alloc o) B b r l :=
 h.stays (Below.heap_alloc _ _ _ h.lt) (fun k hk=>Below.heap_alloc _ _ _ (h.row k hk).2) κ
theorem Bld.step{w w':World}{B b b2:Nat}{r r2:Option Nat}{l:Bytes}(h:Bld w B b r l)(hs:fL w w' b2 r2)(h1:b≠b2)(h2:some b≠r2)(h3:r≠some b2)(h4:r=none∨r≠r2):Bld w' B b r l :=
 h.stays (hs.block b h.lt h1 h2) (fun k hk=>hs.block k (h.row k hk).2 (fun e=>h3 (by rw[hk,e])) (fun e=>by
  rcases h4 with h4|h4
  ·rw[h4] at hk;cases hk
  ·exact h4 (hk.trans e))) hs.size
theorem Bld.new(w:World)(B:Nat)(hB:B≤w.heap.size):Bld (w.alloc (.cells #[.pointer none,.slice none 0 0] 104)) B w.heap.size none [] :=
 ⟨hB,_,_,heap_alloc_new w _,.inl rfl,World.ownsRowF_nil _ _ _ _,rfl,κ,fun _=>rfl⟩
theorem sizeBuilder:(prog.info? 104).map (·.size)=some 2:=by kernel_rfl
theorem liesBuilder:liesAt prog prog.depth 104 (2 / prog.cellsOf 104) 0 104 1=true:=by kernel_rfl
theorem infoByte:(prog.info? 5).map (fun i=>(i.zero,i.size,i.bytes))=some (some (.int .u8 0),1,1):=by kernel_rfl
theorem Li(b:Nat)(w:World)(h0:w.cell? ⟨b,0,none⟩=some (.pointer none))(Ee:w.shape? b=some (104,2))(Ef:w.frozen? ⟨b,0,none⟩=false):
  Calls prog 113 #[.pointer (some ⟨b,0,none⟩)] w fun e w'=>e=.returned (.tuple #[])∧w'=w.setCell ⟨b,0,none⟩ (.pointer (some ⟨b,0,none⟩)):=by
 obtain⟨j,hj,hjs⟩:=adK.1 sizeBuilder;go_enter func113,ntmps113;go_wp2;rw[Lib.run_to_unsafe w ⟨b,0,none⟩ underlying102 underlying261 hj (by rw[hjs];decide) Ee (Nat.zero_lt_succ 1)]
 simp only[Result.andThen];rw[Oper.upon_value];go_wp2;rw[run_callFunc_extern func201 (by kernel_rfl) (by kernel_rfl) (by kernel_rfl) (e:=Extern.AbiNoEscape.same) (by kernel_rfl)]
 rw[Lib.run_noEscape];simp only[Result.andThen];rw[Oper.upon_value];go_wp2;rw[Lib.run_from_unsafe w ⟨b,0,none⟩ underlying261 underlying102 hj Ee liesBuilder];simp only[Result.andThen];rw[Oper.upon_value];go_wp2;go_end0;exact⟨rfl,rfl⟩
theorem MU(b:Nat)(w:World)(h0:w.cell? ⟨b,0,none⟩=some (.pointer (some ⟨b,0,none⟩))):
  Calls prog 113 #[.pointer (some ⟨b,0,none⟩)] w fun e w'=>e=.returned (.tuple #[])∧w'=w:=by
 obtain⟨j,hj,_⟩:=adK.1 sizeBuilder;go_enter func113,ntmps113;go_wp2;rw[Lib.run_neq_ptr_same w _ underlying102 hj];go_wp2;go_end0;exact⟨rfl,rfl⟩
theorem Fh(B b:Nat)(r:Option Nat)(l:Bytes)(w:World)(h:Bld w B b r l):
  Calls prog 113 #[.pointer (some ⟨b,0,none⟩)] w fun e w'=>e=.returned (.tuple #[])∧fL w w' b none ∧
   ∃v,w'.heap[b]?=some (.cells #[.pointer (some ⟨b,0,none⟩),v] 104 (0,0))∧w'.ownsRowF B 5 1 v l.length (iD l)∧v.ownBlock=r:=by
 obtain⟨h1,p,v,h2,h3,ho,h4,h5,h6⟩:=h;rcases h3 with rfl|rfl
 ·refine(Li b w (by simp[World.cell?,h2]) (by simp[World.shape?,h2]) (by simp[World.frozen?,h2])).mono ?_
  rintro e w' ⟨rfl,rfl⟩;refine⟨rfl,⟨rfl,rfl,rfl,by simp[World.setCell],fun k hk hb _=>Below.heap_setCell _ _ _ _ (by simpa using hb)⟩,v,?_,?_,h4⟩
  ·simp[World.setCell,VV,h2]
  ·refine⟨ho.1,?_⟩
   rcases ho.2 with hn|⟨g,cap,cur,fz,rfl,lF,hg,rest⟩
   ·exact .inl hn
   ·refine .inr ⟨g,cap,cur,fz,rfl,lF,?_,rest⟩
    have aU:g≠b:=by rintro rfl;exact h5 (by rw[←h4];rfl)
    rw[Below.heap_setCell _ _ _ _ (by simpa using aU)]
    exact hg
 ·refine(MU b w (by simp[World.cell?,h2])).mono ?_
  rintro e w' ⟨rfl,rfl⟩;exact⟨rfl,fL.refl _ _ _,v,h2,ho,h4⟩
def IG(w:World)(r r':Option Nat):Prop:=r'=r∨∃g,r'=some g∧w.heap.size≤g
theorem QS{P:Program}(W:World)(base:Nat)(t u ty e:TypeId)(i:TypeInfo)(ht:P.underlying t=some (.slice e))(hu:P.underlying u=some .string)(hi:P.info? e=some i)(hz:i.zero=some (.int .u8 0))
  (iE:i.size=1) (iT:i.bytes=1) (v:Value) (n:Nat) (xs:List Value) (aF:W.ownsRowF base e 1 v n xs) (s:ByteArray) (nY:n+s.size≤140737488355328) (fP:base≤W.heap.size) :
  ∃v' w',(Builtin.append_ #[t,u] ty #[v,.string s]).run P W=.ok v' w'∧w'.ownsRowF base e 1 v' (n+s.size) (xs++Lib.strCells s)∧W.grownBy w' v.ownBlock∧IG W v.ownBlock v'.ownBlock∧(v'=.slice none 0 0↔v=.slice none 0 0∧s.size=0):=by
 obtain⟨v',w',hr,ho,hg,hn⟩:=Lib.run_append_own_stringF (P:=P) W base t u ty e i ht hu hi hz iE iT v n xs aF s (by unfold maxLen;omega) nY fP
 refine⟨v',w',hr,ho,hg,?_,hn⟩;rcases aF.2 with ⟨rfl,rfl⟩|⟨g,cap,cur,fz,rfl,lF,GL,Ef,Ho,dJ,mQ,Mr⟩
 ·obtain⟨v2,w2,pW,DX,_⟩:=Lib.run_append_own_string (P:=P) W W.heap.size t u ty e i ht hu hi hz iE iT (.slice none 0 0) 0 [] (World.ownsRow_nil _ _ _ _) s (by unfold maxLen;omega) nY (Ω _)
  rw[hr] at pW;simp only[Result.ok.injEq] at pW;obtain⟨rfl,rfl⟩:=pW;cases hk:v'.ownBlock with
  | none=>exact Or.inl rfl
  | some g=>exact Or.inr ⟨g,rfl,(DX.lt g hk).1⟩
 ·by_cases hroom:n+s.size≤cap
  ·have h2:=Lib.run_append_room_stringF (P:=P) W t u ty e i ht hu hi iE g n cap cur fz GL U s hroom U
   rw[hr] at h2;simp only[Result.ok.injEq] at h2;rw[h2.1];exact Or.inl rfl
  ·have holds:∀j x,xs[j]?=some x→W.cell? ((⟨g,0,none⟩:Addr).add j)=some x:=aF.cells (g:=g) rfl
   have h2:=Lib.run_append_grow_string (P:=P) W t u ty e i (.int .u8 0) ht hu hi hz ⟨g,0,none⟩ n cap xs (by rw[iE];exact aF.1) holds s U U (by rw[iT];exact growslice_fits U U)
   rw[hr] at h2;simp only[Result.ok.injEq] at h2;rw[h2.1];exact Or.inr ⟨_,rfl,Ω _⟩
theorem PO{P:Program}(W:World)(base:Nat)(t ty e:TypeId)(i:TypeInfo)(ht:P.underlying t=some (.slice e))(hi:P.info? e=some i)(hz:i.zero=some (.int .u8 0))
  (iE:i.size=1) (iT:i.bytes=1) (v:Value) (n:Nat) (xs:List Value) (aF:W.ownsRowF base e 1 v n xs) (e':TypeId) (c:Int) (nY:n+1≤140737488355328) (fP:base≤W.heap.size) :
  ∃v' w',(Builtin.append_ #[t,t] ty #[v,.slice (some ⟨W.heap.size,0,none⟩) 1 1]).run P (W.alloc (.cells #[.int .u8 c] e'))=.ok v' w'∧w'.ownsRowF base e 1 v' (n+1) (xs++[.int .u8 c])∧W.grownBy w' v.ownBlock∧IG W v.ownBlock v'.ownBlock:=by
 have PX:∀j u,([.int .u8 c]:List Value)[j]?=some u→(W.alloc (.cells #[.int .u8 c] e')).cell? ((⟨W.heap.size,0,none⟩:Addr).add j)=some u:=by
  intro j u hj;rw[Ep];simp only[World.cell?,heap_alloc_new];simpa using hj
 have h1:∀u∈([.int .u8 c]:List Value),u.oneCell'=true:=by intro u hu;simp at hu;subst hu;rfl
 obtain⟨v',w',hr,ho,hg,hn⟩:=run_append_ownF (P:=P) (W.alloc (.cells #[.int .u8 c] e')) base t ty e i (.int .u8 0) 1 1 ht hi hz iE iT rfl Z v n xs (aF.alloc _) ⟨W.heap.size,0,none⟩ 1 1 [.int .u8 c] rfl PX h1 (by unfold maxLen;omega) U (by simp;omega)
 refine⟨v',w',hr,ho,⟨hg.os.trans rfl,hg.tape.trans rfl,hg.output.trans rfl,by have:=hg.size;simp at this;omega,fun k hk aU=>?_⟩,?_⟩
 ·rw[hg.block k (by simp;omega) aU,Below.heap_alloc _ _ _ hk]
 ·rcases (aF.alloc (.cells #[.int .u8 c] e')).2 with ⟨rfl,rfl⟩|⟨g,cap,cur,fz,rfl,lF,GL,Ef,Ho,dJ,mQ,Mr⟩
  ·obtain⟨v2,w2,pW,DX,_⟩:=run_append_own (P:=P) (W.alloc (.cells #[.int .u8 c] e')) W.heap.size t ty e i (.int .u8 0) 1 1 ht hi hz iE iT rfl Z (.slice none 0 0) 0 [] (World.ownsRow_nil _ _ _ _) ⟨W.heap.size,0,none⟩ 1 1 [.int .u8 c] rfl PX h1 Z Z κ
   rw[hr] at pW;simp only[Result.ok.injEq] at pW;obtain⟨rfl,rfl⟩:=pW;cases hk:v'.ownBlock with
   | none=>exact Or.inl rfl
   | some g=>exact Or.inr ⟨g,rfl,(DX.lt g hk).1⟩
  ·by_cases hroom:n+1≤cap
   ·have h2:=run_append_roomF (P:=P) (W.alloc (.cells #[.int .u8 c] e')) t ty e i ht hi g n cap cur fz GL (by rw[iE];exact Ef) ⟨W.heap.size,0,none⟩ 1 1 [.int .u8 c] (by rw[iE];rfl) PX h1 hroom (by rw[iE];simp;omega)
    rw[hr] at h2;simp only[Result.ok.injEq] at h2;rw[h2.1];exact Or.inl rfl
   ·have holds:∀j x,xs[j]?=some x→(W.alloc (.cells #[.int .u8 c] e')).cell? ((⟨g,0,none⟩:Addr).add j)=some x:=(aF.alloc _).cells (g:=g) rfl
    have h2:=run_append_grow (P:=P) (W.alloc (.cells #[.int .u8 c] e')) t ty e i (.int .u8 0) ht hi hz ⟨g,0,none⟩ n cap xs (by rw[iE];exact aF.1) holds ⟨W.heap.size,0,none⟩ 1 1 [.int .u8 c] (by rw[iE];rfl) PX U U (by rw[iT];exact growslice_fits U U)
    rw[hr] at h2;simp only[Result.ok.injEq] at h2;rw[h2.1];exact Or.inr ⟨_,rfl,κ⟩
theorem Kg{P:Program}(W:World){ops:Array Oper}{rest:List Oper}{o:Oper}{a:Act}{Q:Exit→Act→World→Prop}(pQ:o.guard=none)(s x:Operand)(t:TypeId)
  (ho:o.op=.call { callee:=.builtin .append,args:=#[s,x],argTypes:=#[t,t] })
  (base:Nat) (e e':TypeId) (i:TypeInfo) (ht:P.underlying t=some (.slice e)) (hi:P.info? e=some i) (hz:i.zero=some (.int .u8 0)) (iE:i.size=1) (iT:i.bytes=1)
  (v:Value) (n:Nat) (xs:List Value) (hs:a.eval s=v) (aF:W.ownsRowF base e 1 v n xs) (c:Int) (hx:a.eval x=.slice (some ⟨W.heap.size,0,none⟩) 1 1) (nY:n+1≤140737488355328) (fP:base≤W.heap.size)
  (h:∀v' w',w'.ownsRowF base e 1 v' (n+1) (xs++[.int .u8 c])→W.grownBy w' v.ownBlock→IG W v.ownBlock v'.ownBlock→wpList P ops Q rest (a.put o.dst v') w'):wpList P ops Q (o::rest) a (W.alloc (.cells #[.int .u8 c] e')):=by
 obtain⟨v',w',hr,h2,h3,h4⟩:=PO (P:=P) W base t o.type e i ht hi hz iE iT v n xs aF e' c nY fP;refine wpList_plain pQ fun _ hK=>?_
 unfold Oper.wp execOp;simp only[ho,resolve,invoke,builtin,Sem.run_bind,Sem.run_pure,Result.andThen_ok,abx,On,Wg,hs,hx,hr];exact hK _ _ (h v' w' h2 h3 h4)
theorem Lj{P:Program}(W:World){ops:Array Oper}{rest:List Oper}{o:Oper}{a:Act}{Q:Exit→Act→World→Prop}(pQ:o.guard=none)(sl x:Operand)(t u:TypeId)
  (ho:o.op=.call { callee:=.builtin .append,args:=#[sl,x],argTypes:=#[t,u] })
  (base:Nat) (e:TypeId) (i:TypeInfo) (ht:P.underlying t=some (.slice e)) (hu:P.underlying u=some .string) (hi:P.info? e=some i) (hz:i.zero=some (.int .u8 0)) (iE:i.size=1) (iT:i.bytes=1)
  (v:Value) (n:Nat) (xs:List Value) (hs:a.eval sl=v) (aF:W.ownsRowF base e 1 v n xs) (s:ByteArray) (hx:a.eval x=.string s) (nY:n+s.size≤140737488355328) (fP:base≤W.heap.size)
  (h:∀v' w',w'.ownsRowF base e 1 v' (n+s.size) (xs++Lib.strCells s)→W.grownBy w' v.ownBlock→IG W v.ownBlock v'.ownBlock→(v'=.slice none 0 0↔v=.slice none 0 0∧s.size=0)→wpList P ops Q rest (a.put o.dst v') w'):wpList P ops Q (o::rest) a W:=by
 obtain⟨v',w',hr,h2,h3,h4,h5⟩:=QS (P:=P) W base t u o.type e i ht hu hi hz iE iT v n xs aF s nY fP;refine wpList_plain pQ fun _ hK=>?_
 unfold Oper.wp execOp;simp only[ho,resolve,invoke,builtin,Sem.run_bind,Sem.run_pure,Result.andThen_ok,abx,On,Wg,hs,hx,hr];exact hK _ _ (h v' w' h2 h3 h4 h5)
theorem vG(a b:Bytes):iD (a++b)=iD a++iD b:=by simp[iD,Lib.byteCells]
theorem DU(l:Bytes):Lib.strCells ⟨l.toArray⟩=iD l:=by simp[Lib.strCells,iD,Lib.byteCells]
theorem Bld.put{w1 w2:World}{B b:Nat}{r:Option Nat}{l l':Bytes}{v v':Value}(hB:B≤b)(bN:w2.heap[b]?=some (.cells #[.pointer (some ⟨b,0,none⟩),v] 104 (0,0)))
  (yU:w2.ownsRowF B 5 1 v' l'.length (iD l')) (hr:v'.ownBlock≠some b) (YK:l'=[]→v'.ownBlock=none):Bld (w2.setCell ⟨b,1,none⟩ v') B b v'.ownBlock l':=by
 refine⟨hB,_,v',?_,.inr rfl,⟨yU.1,?_⟩,rfl,hr,YK⟩
 ·simp[World.setCell,VV,bN]
 ·rcases yU.2 with hn|⟨g,cap,cur,fz,rfl,lF,hg,rest⟩
  ·exact .inl hn
  ·refine .inr ⟨g,cap,cur,fz,rfl,lF,?_,rest⟩
   have aU:g≠b:=by rintro rfl;exact hr rfl
   rw[Below.heap_setCell _ _ _ _ (by simpa using aU)]
   exact hg
theorem fL.append{w w1 w2:World}{b:Nat}{r:Option Nat}{v v':Value}(oV:fL w w1 b none)(hg:w1.grownBy w2 v.ownBlock)(hv:v.ownBlock=r):fL w (w2.setCell ⟨b,1,none⟩ v') b r:=by
 refine⟨hg.os.trans oV.os,hg.tape.trans oV.tape,hg.output.trans oV.output,by have:=hg.size;have:=oV.size;simp[World.setCell];omega,fun k hk mP OH=>?_⟩
 rw[Below.heap_setCell _ _ _ _ (by simpa using mP),hg.block k (by have:=oV.size;omega) (by rw[hv];exact OH),oV.block k hk mP κ]
theorem Fj(B b:Nat)(r:Option Nat)(l:Bytes)(x:UInt8)(c:Int)(w:World)(h:Bld w B b r l)(hc:c=x.toNat)(hlen:l.length+1≤140737488355328)(hB:B≤w.heap.size):
  Calls prog 303 #[.pointer (some ⟨b,0,none⟩),.int .u8 c] w fun e w'=>e=.returned .nilIface∧fL w w' b r∧∃r',Bld w' B b r' (l++[x])∧IG w r r':=by
 obtain⟨i0,hi,bY,bB,aW⟩:=info_parts infoByte;have hBb:=h.1;have aiA:=h.lt;have yh:r≠some b:=by obtain⟨_,_,_,_,_,_,_,h5,_⟩:=h;exact h5
 have C:=Fh B b r l w h;have aU:some b≠r:=fun e=>yh e.symm
 have HC:=Hd C;have HN:=Hd yh;have HX:=Hd hc;clear C yh aU hc h;go_enter func303,ntmps303;go_wp2_with (go_at_call 113;refine HC.out.mono ?_);rintro e w1 ⟨rfl,oV,v,eu,aF,wQ⟩;have c0:w1.cell? ⟨b,0,none⟩=some (.pointer (some ⟨b,0,none⟩)):=by simp[World.cell?,eu]
 have c1:w1.cell? ⟨b,1,none⟩=some v:=by simp[World.cell?,eu]
 have M4:=oV.size;have Ab:=Hd oV;have Pg:=Hd wQ;have rR:=Hd eu;clear oV wQ eu;go_wp2_with (at_builtin;refine Kg w1 ρ _ _ 84 ρ B 5 _ i0 underlying84 hi bY bB aW v l.length (iD l) ρ aF c ρ ?c4 ?c5 ?_)
 case c4=>omega
 case c5=>omega
 intro v' w2 yU E8 dQ;have YL:b<w1.heap.size:=U;have Bz:v.ownBlock≠some b:=by rw[Pg.out];exact HN.out
 have bN:w2.heap[b]?=some (.cells #[.pointer (some ⟨b,0,none⟩),v] 104 (0,0)):=by
  rw[E8.block b YL (fun e=>Bz e.symm)];exact rR.out
 have d1:w2.cell? ⟨b,1,none⟩=some v:=by simp[World.cell?,bN]
 have f1:w2.frozen? ⟨b,1,none⟩=false:=by simp[World.frozen?,bN]
 have ZI:v'.ownBlock≠some b:=by
  rcases dQ with dQ|⟨g,hg,pV⟩
  ·rw[dQ];exact Bz
  ·rw[hg];intro e;simp at e;omega
 obtain⟨ao,n',cap,rfl⟩:∃ao n' cap,v'=.slice ao n' cap:=by
  rcases yU.2 with ⟨hv,_⟩|⟨g,cap,cur,fz,hv,_⟩
  ·exact⟨_,_,_,hv⟩
  ·exact⟨_,_,_,hv⟩
 have HOW:=Hd yU;have HG:=Hd E8;have pY:=Hd dQ;have qC:=Hd bN;have HV:=Hd ZI;clear yU E8 dQ bN ZI Bz aF;go_wp2;go_ret;refine⟨rfl,Ab.out.append HG.out Pg.out,_,Bld.put (w1:=w1) (l:=l) (r:=r) hBb qC.out ?_ HV.out (fun e=>by simp at e),?_⟩
 ·rw[Δ,vG]
  have:=HOW.out;rw[HX.out] at this;exact this
 ·rcases pY.out with e|⟨g,e1,e2⟩
  ·exact Or.inl (e.trans Pg.out)
  ·exact Or.inr ⟨g,e1,U⟩
theorem xA(B b:Nat)(r:Option Nat)(l s:Bytes)(w:World)(h:Bld w B b r l)(hlen:l.length+s.length≤140737488355328)(hB:B≤w.heap.size):
  Calls prog 52 #[.pointer (some ⟨b,0,none⟩),.string ⟨s.toArray⟩] w fun e w'=>e=.returned (.tuple #[.int .i64 s.length,.nilIface])∧fL w w' b r∧∃r',Bld w' B b r' (l++s)∧IG w r r':=by
 obtain⟨i0,hi,bY,bB,aW⟩:=info_parts infoByte;have hBb:=h.1;have aiA:=h.lt;have yh:r≠some b:=by obtain⟨_,_,_,_,_,_,_,h5,_⟩:=h;exact h5
 have wI:l=[]→r=none:=by obtain⟨_,_,_,_,_,_,_,_,h6⟩:=h;exact h6
 have HNL:=Hd wI;clear wI;have C:=Fh B b r l w h;have HC:=Hd C;have HN:=Hd yh;clear C yh h;go_enter func52,ntmps52;go_wp2_with (go_at_call 113;refine HC.out.mono ?_);rintro e w1 ⟨rfl,oV,v,eu,aF,wQ⟩;have c0:w1.cell? ⟨b,0,none⟩=some (.pointer (some ⟨b,0,none⟩)):=by simp[World.cell?,eu]
 have c1:w1.cell? ⟨b,1,none⟩=some v:=by simp[World.cell?,eu]
 have M4:=oV.size;have O3:({ data:=s.toArray }:ByteArray).size=s.length:=by simp[ByteArray.size]
 have HSS:=Hd O3;have Ab:=Hd oV;have Pg:=Hd wQ;have rR:=Hd eu;clear oV wQ eu O3;go_wp2_with (at_builtin;refine Lj w1 ρ _ _ 84 9 ρ B 5 i0 underlying84 underlying9 hi bY bB aW v l.length (iD l) ρ aF ⟨s.toArray⟩ ρ ?c4 ?c5 ?_)
 case c4=>rw[HSS.out];omega
 case c5=>omega
 intro v' w2 yU E8 dQ adZ;have abV:l++s=[]→v'.ownBlock=none:=fun e=>by
  have hl:l=[]:=by cases l with|nil=>rfl|cons a l=>simp at e
  have hs:s=[]:=by subst hl;simpa using e
  have Ta:v=.slice none 0 0:=by
   rcases aF.2 with ⟨hv,_⟩|⟨g,cap,cur,fz,hv,_⟩
   ·exact hv
   ·exfalso;have:=Pg.out;rw[HNL.out hl,hv] at this;cases this
  rw[adZ.2 ⟨Ta,hs⟩];rfl
 have aiB:=Hd abV;clear abV adZ;have YL:b<w1.heap.size:=U;have Bz:v.ownBlock≠some b:=by rw[Pg.out];exact HN.out
 have bN:w2.heap[b]?=some (.cells #[.pointer (some ⟨b,0,none⟩),v] 104 (0,0)):=by
  rw[E8.block b YL (fun e=>Bz e.symm)];exact rR.out
 have d1:w2.cell? ⟨b,1,none⟩=some v:=by simp[World.cell?,bN]
 have f1:w2.frozen? ⟨b,1,none⟩=false:=by simp[World.frozen?,bN]
 have ZI:v'.ownBlock≠some b:=by
  rcases dQ with dQ|⟨g,hg,pV⟩
  ·rw[dQ];exact Bz
  ·rw[hg];intro e;simp at e;omega
 obtain⟨ao,n',cap,rfl⟩:∃ao n' cap,v'=.slice ao n' cap:=by
  rcases yU.2 with ⟨hv,_⟩|⟨g,cap,cur,fz,hv,_⟩
  ·exact⟨_,_,_,hv⟩
  ·exact⟨_,_,_,hv⟩
 have HOW:=Hd yU;have HG:=Hd E8;have pY:=Hd dQ;have qC:=Hd bN;have HV:=Hd ZI;clear yU E8 dQ bN ZI Bz aF;go_wp2;go_ret2;refine⟨rfl,Ab.out.append HG.out Pg.out,_,Bld.put (w1:=w1) (l:=l) (r:=r) hBb qC.out ?_ HV.out aiB.out,?_⟩
 ·rw[Δ,vG]
  have:=HOW.out;rw[DU] at this;exact this
 ·rcases pY.out with e|⟨g,e1,e2⟩
  ·exact Or.inl (e.trans Pg.out)
  ·exact Or.inr ⟨g,e1,U⟩
theorem cellsByte:prog.cellsOf 5=1:=by kernel_rfl
theorem Gs(w:World)(g n k:Nat)(h:k≠g):(w.freeze ⟨g,0,none⟩ n).heap[k]?=w.heap[k]?:=by
 unfold World.freeze;split
 ·rfl
 ·simp only[VV]
  rw[η U]
theorem U1(w:World)(g n:Nat):(w.freeze ⟨g,0,none⟩ n).heap.size=w.heap.size:=by
 unfold World.freeze;split
 ·rfl
 ·simp
theorem U2(w:World)(g n:Nat):(w.freeze ⟨g,0,none⟩ n).os=w.os∧(w.freeze ⟨g,0,none⟩ n).tape=w.tape∧(w.freeze ⟨g,0,none⟩ n).output=w.output:=by
 unfold World.freeze;split<;>exact⟨rfl,rfl,rfl⟩
theorem Jb(B b:Nat)(r:Option Nat)(l:Bytes)(w:World)(h:Bld w B b r l)(h0:l≠[]):
  Calls prog 53 #[.pointer (some ⟨b,0,none⟩)] w fun e w'=>e=.returned (.string ⟨l.toArray⟩)∧fL w w' b r∧Bld w' B b r l:=by
 obtain⟨hB,p,v,eu,hp,aF,wQ,aU,wI⟩:=h;have uX:l.length≠0:=by simpa using h0
 obtain⟨g,cap,cur,fz,rfl,lF,hg,Ef,Ho,dJ,mQ,Mr⟩:∃g cap cur fz,v=.slice (some ⟨g,0,none⟩) l.length cap∧B≤g∧w.heap[g]?=some (.cells cur 5 fz)∧fz.2≤l.length*1∧l.length≤cap∧cap≤maxLen∧cur.size=cap*1∧cur.toList.take (l.length*1)=iD l:=by
  rcases aF.2 with ⟨_,hz⟩|⟨g,cap,cur,fz,hv,rest⟩
  ·exact absurd hz uX
  ·exact⟨g,cap,cur,fz,hv,rest⟩
 have LW:r=some g:=wQ.symm;have hgb:g≠b:=by rintro rfl;exact aU LW
 have c1:w.drew.cell? ⟨b,1,none⟩=some (.slice (some ⟨g,0,none⟩) l.length cap):=by
  have:w.drew.heap[b]?=some (.cells #[p,.slice (some ⟨g,0,none⟩) l.length cap] 104 (0,0)):=eu;simp[World.cell?,this]
 have hSD:(Builtin.unsafeSliceData_ #[84] 180 #[.slice (some ⟨g,0,none⟩) l.length cap]).run prog w.drew=.ok (.pointer (some ⟨g,0,none⟩)) w.drew :=
  Lib.run_unsafeSliceData_row _ _ _ _ _ _ U
 have hUS:(Builtin.unsafeString_ #[180,3] 9 #[.pointer (some ⟨g,0,none⟩),.int .i64 l.length]).run prog w.drew=.ok (.string ⟨l.toArray⟩) (w.drew.freeze ⟨g,0,none⟩ l.length):=by
  refine Lib.run_unsafeString_row w.drew 180 3 9 5 underlying180 cellsByte g cur.size (by have Ph:w.drew.heap[g]?=some (.cells cur 5 fz):=hg;simp[World.shape?,Ph]) l h0 U (by unfold maxLen at dJ;omega) ?_
  intro j x hx;have:=aF.cells (g:=g) rfl j (.int .u8 x.toNat) (by simp[iD,Lib.byteCells,hx])
  exact this
 have hA:Lib.BuilderAtF 104 5 B b p (Lib.byteCells l) w.drew:=⟨hB,_,eu,by rw[Lib.byteCells_length];exact aF,by rw[wQ];exact aU⟩
 have hF:=hA.froze (g:=g) (cap:=cap) (by rw[Lib.byteCells_length];exact c1)
 rw[Lib.byteCells_length] at hF;have sM:Bld (w.drew.freeze ⟨g,0,none⟩ l.length) B b r l:=by
  obtain⟨k1,v2,k2,k3,k4⟩:=hF;have e2:(w.drew.freeze ⟨g,0,none⟩ l.length).heap[b]?=some (.cells #[p,.slice (some ⟨g,0,none⟩) l.length cap] 104 (0,0)):=by
   rw[Gs _ _ _ _ (fun e=>hgb e.symm)];exact eu
  rw[e2] at k2;simp only[N6,Obj.cells.injEq] at k2;have e3:v2=.slice (some ⟨g,0,none⟩) l.length cap:=by have:=k2.1;simp at this;exact this.symm
  subst e3;rw[Lib.byteCells_length] at k3;exact⟨hB,p,_,e2,hp,k3,wQ,aU,wI⟩
 have kU:fL w (w.drew.freeze ⟨g,0,none⟩ l.length) b r:=by
  obtain⟨f1,f2,f3⟩:=U2 w.drew g l.length;exact⟨f1,f2,f3,by rw[U1];exact Ω _,fun k hk mP OH=>by rw[Gs _ _ _ _ (fun e=>OH (by rw[LW,e]))];rfl⟩
 have HK:=Hd sM;have aX:=Hd kU;clear sM kU hF hA aU LW hgb wQ wI;go_enter func53,ntmps53;go_wp2;go_region;all_goals (go_wp2;go_ret;exact⟨rfl,aX.out,HK.out⟩)
theorem Ll(B b:Nat)(r:Option Nat)(w:World)(h:Bld w B b r []):
  Calls prog 53 #[.pointer (some ⟨b,0,none⟩)] w fun e w'=>e=.returned (.string ⟨([]:Bytes).toArray⟩)∧Q w w':=by
 obtain⟨hB,p,v,eu,hp,aF,wQ,aU,wI⟩:=h;have Ta:v=.slice none 0 0:=by
  rcases aF.2 with ⟨hv,_⟩|⟨g,cap,cur,fz,hv,_⟩
  ·exact hv
  ·exfalso;rw[wI rfl,hv] at wQ;cases wQ
 subst Ta;have c1:w.drew.cell? ⟨b,1,none⟩=some (.slice none 0 0):=by
  have:w.drew.heap[b]?=some (.cells #[p,.slice none 0 0] 104 (0,0)):=eu;simp[World.cell?,this]
 have hSD:(Builtin.unsafeSliceData_ #[84] 180 #[.slice none 0 0]).run prog w.drew=.ok (.pointer none) w.drew:=rfl;have hUS:(Builtin.unsafeString_ #[180,3] 9 #[.pointer none,.int .i64 0]).run prog w.drew=.ok (.string ⟨#[]⟩) w.drew:=by kernel_rfl
 clear aF wI wQ aU;go_enter func53,ntmps53;go_wp2;go_region;all_goals (go_wp2;go_ret;exact⟨rfl,Q.drew _⟩)
theorem EI(B b:Nat)(r:Option Nat)(l:Bytes)(w:World)(h:Bld w B b r l)(hB:B≤w.heap.size):
  Calls prog 53 #[.pointer (some ⟨b,0,none⟩)] w fun e w'=>e=.returned (.string ⟨l.toArray⟩)∧Below B w w':=by
 cases l with
 | nil=>exact(Ll B b r w h).mono fun e w' ⟨h1,h2⟩=>⟨h1,Below.mono h2 hB⟩
 | cons x l=>exact(Jb B b r (x::l) w h κ).mono fun e w' ⟨h1,h2,_⟩=>⟨h1,h.below h2 hB⟩
theorem Bld.B5{w:World}{B b:Nat}{r:Option Nat}{l:Bytes}(h:Bld w B b r l):∀g,r=some g→∃cs fz,w.heap[g]?=some (.cells cs 5 fz):=by
 obtain⟨_,p,v,_,_,ho,hr,_,_⟩:=h;intro g hg;rcases ho.2 with ⟨hv,_⟩|⟨g',cap,cur,fz,hv,_,GL,_⟩
 ·rw[hv,hg] at hr;cases hr
 ·rw[hv,hg] at hr
  simp only[Value.ownBlock,N6] at hr;subst hr;exact⟨_,_,GL⟩
theorem Bld.tE{w:World}{B b:Nat}{r:Option Nat}{l:Bytes}(h:Bld w B b r l){k:Nat}{cs:Array Value}{t:TypeId}{fz:Nat×Nat}(hk:w.heap[k]?=some (.cells cs t fz))(h1:t≠5)(h2:t≠104):k≠b∧some k≠r:=by
 refine⟨fun e'=>?_,fun e'=>?_⟩
 ·obtain⟨_,p,v',h3,_⟩:=h
  rw[←e',hk] at h3;injection h3 with h3;injection h3 with _ h3 _;exact h2 h3
 ·obtain⟨cs',fz',GN⟩:=h.B5 k e'.symm
  rw[hk] at GN;injection GN with h3;injection h3 with _ h3 _;exact h1 h3
theorem fL.cells{w w':World}{B b:Nat}{r:Option Nat}{l:Bytes}(hs:fL w w' b r)(h:Bld w B b r l){k:Nat}{cs:Array Value}{t:TypeId}{fz:Nat×Nat}(hk:w.heap[k]?=some (.cells cs t fz))(h1:t≠5)(h2:t≠104):w'.heap[k]?=some (.cells cs t fz):=by
 obtain⟨a,b'⟩:=h.tE hk h1 h2;exact(hs.block k (aJ hk) a b').trans hk
end
section
open Go.RowKit
def BL(w0 w:World)(b:Nat)(l:Bytes):Prop:=(∃r,Bld w w0.heap.size b r l)∧Q w0 w
section
variable {w0 w w':World} {b:Nat} {l:Bytes}
theorem BL.q(h:BL w0 w b l)(q:Q w w'):BL w0 w' b l:=by
 obtain⟨⟨r,h⟩,q0⟩:=h;exact⟨⟨r,h.stays (q.block _ h.lt) (fun k hk=>q.block _ (h.row k hk).2) q.size⟩,q0.trans q⟩
theorem BL.new(w0 w:World)(q:Q w0 w):BL w0 (w.alloc (.cells #[.pointer none,.slice none 0 0] 104)) w.heap.size []:=⟨⟨none,Bld.new w _ q.size⟩,q.trans (Q.alloc _ _)⟩
theorem BL.write(h:BL w0 w b l)(s:Bytes)(hl:l.length+s.length≤140737488355328):Calls prog 52 #[.pointer (some ⟨b,0,none⟩),.string ⟨s.toArray⟩] w fun e w' =>
  e=.returned (.tuple #[.int .i64 s.length,.nilIface])∧BL w0 w' b (l++s)∧∀k t cs,Blk w k t cs→t≠5→t≠104→Blk w' k t cs:=by
 obtain⟨⟨r,h⟩,q0⟩:=h;refine(xA _ b r l s w h hl q0.size).mono ?_;rintro e w' ⟨rfl,hs,r',h',_⟩;exact⟨rfl,⟨⟨r',h'⟩,Below.trans q0 (h.below hs q0.size)⟩,fun k t cs hb h1 h2=>hs.cells h hb h1 h2⟩
theorem BL.str(h:BL w0 w b l):Calls prog 53 #[.pointer (some ⟨b,0,none⟩)] w fun e w'=>e=.returned (ah l)∧Q w0 w':=by
 obtain⟨⟨r,h⟩,q0⟩:=h;refine(EI _ b r l w h q0.size).mono ?_;rintro e w' ⟨rfl,hb⟩;exact⟨rfl,Below.trans q0 hb⟩
end
end
section
open Go.RowKit
theorem sy(x:Nat):bits .or .u8 ((x:Int)%256) 128=((UInt8.ofNat (x%128+128)).toNat:Int):=by
 have h:=u8_or_nat (x%256) 128 U Z;rw[L5] at h;rw[toNat_ofNat _ U];rw[←h];rfl
theorem nB(v:Value)(ns:List Nat)(w:World)(hv:mr w v ns)(hn:ns.length≤1000000000000)(TF:∀n∈ns,n<18446744073709551616):
  Calls prog 266 #[v] w fun e w'=>e=.returned (.string ⟨(qU ns).toArray⟩)∧Q w w':=by
 obtain⟨a,cap,rfl,aP⟩:=hv.value;have HC:=Hd aP;have H64:=Hd TF;clear aP hv TF;go_enter func266,ntmps266;go_wp2_with fail;go_loopw [8,5] (fun i _ wr=>∃k:Nat,k≤ns.length∧i=.int .i64 k∧Hid (∃r,Bld wr w.heap.size w.heap.size r (qU (ns.take k)))∧Hid (Below w.heap.size w wr)) (fun i _ _=>ns.length-(intOf i).toNat)
 case atStart=>exact⟨0,U,rfl,⟨none,Bld.new w _ (Ω _)⟩,(Below.refl _ _).alloc (Ω _) _⟩
 case round =>
  obtain⟨k,hk,rfl,HB,HW⟩:=hrel;obtain⟨wo,rfl⟩:∃wo:World,wo=wr:=⟨_,rfl⟩;by_cases ay:k<ns.length
  ·obtain⟨b,off,rfl,hc⟩:=HC.out U
   have gL:=hc k ay;have hcw:wo.cell? ⟨b,off+k,none⟩=some (.int .u64 (ns[k]:Nat)):=aj HW.out gL;have ad1:=H64.out _ (MA ay);have ZJ:=Wt ns k ay;have hvl:=vf (ns.take k);have nS:(ns.take k).length≤k:=acU _ _;generalize ns[k]=n at *;generalize qU (ns.take k)=pre at *;have HVT:=Hd ZJ;have Cv:=Hd hc;clear ZJ hc gL;go_wp2_with fail;go_loopw [5] (fun x wr=>∃(y m:Nat),x=.int .u64 y∧y<18446744073709551616∧m≤10∧Hid (0<m∧y<128 ^ m)∧Hid (∃r l,Bld wr w.heap.size w.heap.size r l∧l++jC m y=pre++dN n)∧Hid (Below w.heap.size w wr)) (fun x _=>(intOf x).toNat)
   case atStart =>
    obtain⟨r,hr⟩:=HB.out;exact⟨n,10,rfl,ad1,U,⟨U,nf n ad1⟩,⟨r,pre,hr,rfl⟩,HW⟩
   case round =>
    obtain⟨wo2,rfl⟩:∃wo2:World,wo2=wr:=⟨_,rfl⟩;obtain⟨y,m,rfl,hy,hm,HM,HL,Ms⟩:=hrel;obtain⟨r,l,vN,hl⟩:=HL.out;obtain⟨JH,ZK⟩:=HM.out;have hlen:l.length≤10*k+10:=by
     have e:=RE List.length hl;rw[Δ,Δ] at e;have:=iJ n;omega
    have mE:=Ms.out;have bP:=mE.size;by_cases ES:128≤y
    ·obtain⟨kF,Bz,Ib⟩:=PZ m y ES ZK
     have rV:=sy y;have c:=Fj w.heap.size w.heap.size r l (UInt8.ofNat (y%128+128)) _ wo2 vN rV U U;have aC:l++jC m y=(l++[UInt8.ofNat (y%128+128)])++jC (m-1) (y / 128):=by rw[Bz];simp
     have C:=Hd c;have aX:=Hd aC;have HHL:=Hd hl;have ZL:=Hd vN;clear c aC hl vN rV Bz;go_wp2_with fail;refine C.out.mono ?_;rintro e w3 ⟨rfl,jm,r',Cg,dQ⟩;have qC:=Hd (Ms.out.trans (ZL.out.below jm U));have iV:=Hd Cg;clear jm Cg dQ mE;go_wp2_with fail;go_roundw;case rel=>exact⟨y / 128,m-1,by go_num,U,U,⟨U,Ib⟩,⟨r',_,iV.out,by rw[←aX.out];exact HHL.out⟩,qC⟩
     case measure=>simp[intOf];omega
    ·have Br:=KG m y JH U
     have c:=Fj w.heap.size w.heap.size r l (UInt8.ofNat y) (y:Int) wo2 vN (by rw[toNat_ofNat _ U]) U U
     have hend:l++[UInt8.ofNat y]=qU (ns.take (k+1)):=by rw[HVT.out,←hl,Br]
     have C:=Hd c;have HE:=Hd hend;have ZL:=Hd vN;clear c hend hl vN Br;go_wp2_with fail
     ((with_reducible refine C.out.mono ?_);rintro e w3 ⟨rfl,jm,r',Cg,dQ⟩)
     have qC:=Hd (Ms.out.trans (ZL.out.below jm U));have iV:=Hd Cg;clear jm Cg dQ mE;go_wp2_with fail;go_roundw;case rel=>exact⟨k+1,U,by go_num,⟨r',by rw[←HE.out];exact iV.out⟩,qC⟩
     case measure=>simp[intOf];omega
  ·have iN:k=ns.length:=U
   subst iN;rw[N5] at HB;obtain⟨r,vN⟩:=HB.out;have hW:=HW.out;have bP:=hW.size;have c:=EI w.heap.size w.heap.size r (qU ns) wo vN U;have C:=Hd c;clear c vN hW;go_wp2_with fail;refine C.out.mono ?_;rintro e w3 ⟨rfl,gI⟩;have qI:=Hd (HW.out.trans gI);clear gI;go_wp2_with fail;go_ret;exact⟨rfl,qI.out⟩
theorem Bld.q{w w':World}{B b:Nat}{r:Option Nat}{l:Bytes}(h:Bld w B b r l)(hq:Q w w'):Bld w' B b r l :=
 h.stays (hq.block _ h.lt) (fun k hk=>hq.block _ (h.row k hk).2) hq.size
theorem Cl(v:Value)(ps:List Bytes)(w:World)(hv:Strs w v ps)(hn:ps.length≤1000)(hp:∀p∈ps,p.length≤100000000000):
  Calls prog 206 #[v] w fun e w'=>e=.returned (.string ⟨(oG ps).toArray⟩)∧Q w w':=by
 obtain⟨a,cap,rfl,aP⟩:=hv.value;have HC:=Hd aP;have HP:=Hd hp;clear aP hv hp;go_enter func206,ntmps206;go_wp2_with fail;go_loopw [8,5] (fun i _ wr=>∃k:Nat,k≤ps.length∧i=.int .i64 k∧Hid (∃r,Bld wr w.heap.size w.heap.size r (oG (ps.take k)))∧Hid (Below w.heap.size w wr)) (fun i _ _=>ps.length-(intOf i).toNat)
 case atStart=>exact⟨0,U,rfl,⟨none,Bld.new w _ (Ω _)⟩,(Below.refl _ _).alloc (Ω _) _⟩
 case round =>
  obtain⟨k,hk,rfl,HB,HW⟩:=hrel;obtain⟨wo,rfl⟩:∃wo:World,wo=wr:=⟨_,rfl⟩;by_cases ay:k<ps.length
  ·obtain⟨b,off,rfl,hc⟩:=HC.out U
   have gL:=hc k ay;have hcw:wo.cell? ⟨b,off+k,none⟩=some (.string ⟨ps[k].toArray⟩):=aj HW.out gL;have bW:=HP.out _ (MA ay);have ZJ:=Uo ps k ay;have hvl:=Wu (ps.take k) 100000000000 (fun s hs=>HP.out s (Sf hs))
   have nS:(ps.take k).length≤k:=acU _ _;have amD:(oG (ps.take k)).length≤100000000010000:=My hvl (My (WP _ (show _≤1000 by omega)) Z)
   generalize ps[k]=p at *;generalize oG (ps.take k)=pre at *;clear hvl nS;have amE:=iJ p.length;have hW:=HW.out;have bP:=hW.size;obtain⟨r,vN⟩:=HB.out;have cv:=nB (.slice (some ⟨wo.heap.size,0,none⟩) 1 1) [p.length] (wo.alloc (.cells #[.int .u64 (p.length:Nat)] 134)) (Sl.lit wo #[.int .u64 (p.length:Nat)] 134 1 1 rfl) κ (by intro n hn;simp at hn;omega)
   have VP:qU [p.length]=dN p.length:=by simp[qU]
   rw[VP] at cv;have HVT:=Hd ZJ;have Cv:=Hd hc;have CV:=Hd cv;have ZL:=Hd vN;clear ZJ hc gL cv VP vN hW;go_wp2_with fail;refine CV.out.mono ?_;rintro e w2 ⟨rfl,q2⟩;have eG:Q wo w2:=(Q.alloc _ _).trans q2;have bN:=ZL.out.q eG;have mE:Below w.heap.size w w2:=HW.out.trans (Below.mono eG U);have Km:=mE.size;have cw:=xA w.heap.size w.heap.size r pre (dN p.length++p) w2 bN (by rw[Δ];omega) U
   have aC:pre++(dN p.length++p)=oG (ps.take (k+1)):=by rw[HVT.out];rfl
   rw[aC] at cw;have CW:=Hd cw;have Ms:=Hd mE;have qC:=Hd bN;clear q2 eG bN mE cw aC;go_wp2_with fail;rw[bytes_append];refine CW.out.mono ?_;rintro e w3 ⟨rfl,mV,r',Cg,dQ⟩;have qI:=Hd (Ms.out.trans (qC.out.below mV U));have iV:=Hd Cg;clear mV Cg dQ;go_wp2_with fail;go_roundw;case rel=>exact⟨k+1,U,by go_num,⟨r',iV.out⟩,qI⟩
   case measure=>simp[intOf];omega
  ·have iN:k=ps.length:=U
   subst iN;rw[N5] at HB;obtain⟨r,vN⟩:=HB.out;have hW:=HW.out;have bP:=hW.size;have c:=EI w.heap.size w.heap.size r (oG ps) wo vN U;have C:=Hd c;clear c vN hW;go_wp2_with fail;refine C.out.mono ?_;rintro e w3 ⟨rfl,gI⟩;have qI:=Hd (HW.out.trans gI);clear gI;go_wp2_with fail;go_ret;exact⟨rfl,qI.out⟩
end
section
open Go.RowKit
section
variable {P:Program}
theorem vH(w:World)(dT sT ty elem:TypeId)(sz g o dLen dCap:Nat)(a:Addr)(sLen sCap:Nat)(cur:Array Value)(t:TypeId)(cs:List Value)
  (hu:P.underlying dT=some (.slice elem)) (hs:(P.info? elem).map (·.size)=some sz)
  (hg:w.heap[g]?=some (.cells cur t (0,0))) (hn:cs.length=Nat.min sLen dLen*sz)
  (aiE:∀j v,cs[j]?=some v→w.cell? (a.add j)=some v) (lS:o+cs.length≤cur.size) (h1:∀v∈cs,v.oneCell'=true) :
  (Builtin.copy_ #[dT,sT] ty #[.slice (some ⟨g,o,none⟩) dLen dCap,.slice (some a) sLen sCap]).run P w =
   .ok (goInt (Nat.min sLen dLen)) (w.setRow g (splice cur.toList o cs).toArray):=by
 have hl:=run_loadCells_list (P:=P) w a cs aiE;have aC:=run_storeCells_at P g o t cs 0 cur w hg (by simpa using lS) h1
 cases hq:P.info? elem with
 | none=>simp[hq] at hs
 | some i =>
  have hi:i.size=sz:=by simpa[hq] using hs
  simp[Builtin.copy_,run_underlying hu,Builtin.lenOf,Builtin.firstCells,sizeOf,typeInfo,hq,hi,←hn,hl,aC,splice]
theorem MV(w:World)(t e ty:TypeId)(z:Value)(ht:P.underlying t=some (.slice e))(hv:∀w,(zeroValue e).run P w=.ok z w)(g o n c:Nat)(hn:0<n)(cur:Array Value)(et:TypeId)
  (hg:w.heap[g]?=some (.cells cur et (0,0))) (lS:o+n*z.cells.size≤cur.size) (h1:∀v∈z.cells.toList,v.oneCell'=true) :
  (Builtin.clear_ #[t] ty #[.slice (some ⟨g,o,none⟩) n c]).run P w=.ok (.tuple #[]) (w.setRow g (splice cur.toList o (Builtin.zeroCells z.cells n).toList).toArray):=by
 have bP:=size_zeroCells z.cells n;have aC:=run_storeCells_at P g o et (Builtin.zeroCells z.cells n).toList 0 cur w hg (by simpa[bP] using lS) (fun v hv=>by
  obtain⟨j,hj,rfl⟩:=Array.mem_map.1 (ad2.1 hv);have hj:=Array.mem_range.1 hj;have hp:0<z.cells.size:=by
   rcases UX z.cells.size with h0|h0
   ·rw[h0] at hj;omega
   ·exact h0
  rw[aaj z.cells _ (Tr _ hp)];exact h1 _ (ad2.2 (Array.getElem_mem _)))
 obtain⟨m,rfl⟩:∃m,n=m+1:=⟨n-1,U⟩;simp[Builtin.clear_,run_underlying ht,hv,aC,splice]
end
section
variable {α:Type}
theorem Xt(L xs ys:List α)(o n m:Nat)(hx:L.take n=xs)(hl:xs.length=n)(ho:o≤n)(hy:ys.length=m)(hr:n+m≤L.length):
  (splice (splice L (o+m) (xs.drop o)) o ys).take (n+m)=xs.take o++ys++xs.drop o:=by
 have hd:(xs.drop o).length=n-o:=by rw[MM,hl]
 have h1:splice L (o+m) (xs.drop o)=L.take (o+m)++(xs.drop o++L.drop (n+m)):=by unfold splice;rw[hd,show o+m+(n-o)=n+m by omega]
 have ht:(L.take (o+m)).length=o+m:=by rw[Mz];omega
 have hxo:L.take o=xs.take o:=by rw[←hx,abt,Sx ho]
 have h2:splice (splice L (o+m) (xs.drop o)) o ys=xs.take o++(ys++(xs.drop o++L.drop (n+m))):=by
  rw[h1];unfold splice;rw[hy,Se U,abt,Sx U,hxo];congr 2;rw[aaf,XN U,Pr,ht,abu,SU]
 rw[h2,←MY,←MY];exact TO (by simp only[Δ,Mz,hd,hy];omega)
theorem Xu(L xs ys:List α)(o n m:Nat)(hx:L.take o=xs.take o)(hl:xs.length=n)(ho:o≤n)(hy:ys.length=m)(hr:n+m≤L.length):
  (splice (splice L o ys) (o+m) (xs.drop o)).take (n+m)=xs.take o++ys++xs.drop o:=by
 have hd:(xs.drop o).length=n-o:=by rw[MM,hl]
 have h1:splice L o ys=(xs.take o++ys)++L.drop (o+m):=by unfold splice;rw[hy,hx,MY]
 have ht:(xs.take o++ys).length=o+m:=by rw[Δ,Mz,hy];omega
 have h2:splice (splice L o ys) (o+m) (xs.drop o)=(xs.take o++ys++xs.drop o)++L.drop (n+m):=by
  rw[h1];unfold splice;have h3:((xs.take o++ys)++L.drop (o+m)).drop (o+m+(n-o))=L.drop (n+m):=by
   rw[aaf (l₁:=xs.take o++ys),XN (by rw[ht];omega),Pr,Ps,ht]
   congr 1;omega
  rw[hd,TO ht,h3,MY (xs.take o++ys)]
 rw[h2];exact TO (by rw[Δ,ht,hd];omega)
theorem Xv(L xs zs:List α)(o m n:Nat)(hx:L.take n=xs)(hl:xs.length=n)(ho:o+m≤n)(hz:zs.length=m)(hr:n≤L.length):
  (splice (L.take o++xs.drop (o+m)++L.drop (o+(xs.drop (o+m)).length)) (n-m) zs).take (n-m)=xs.take o++xs.drop (o+m):=by
 have hd:(xs.drop (o+m)).length=n-(o+m):=by rw[MM,hl]
 have hxo:L.take o=xs.take o:=by rw[←hx,abt,Sx U]
 have ht:(xs.take o++xs.drop (o+m)).length=n-m:=by rw[Δ,Mz,hd];omega
 unfold splice;rw[hxo,TO ht];exact TO ht
end
end
section
open Go.RowKit
theorem nd(s:Bytes)(k:Nat)(h:k<s.length):((({ data:=s.toArray }:ByteArray)[k]'h).toNat:Int)=(bA s k:Nat):=by
 unfold bA;rw[Θ,Mp h];rfl
theorem po(s:Bytes)(k b:Nat)(hb:bA s k=b)(hk:k<10)(h9:k=9→b≤1):
  bits .or .u64 ((gZ s k:Nat):Int) (IntKind.u64.wrap (IntKind.u64.wrap (bits .and .u8 (b:Int) 127)*2 ^ (7*k)))=((gZ s (k+1):Nat):Int):=by
 have ay:b<256:=by rw[←hb];exact jW s k
 have h1:bits .and .u8 (b:Int) ((127:Nat):Int)=((b &&& 127:Nat):Int):=u8_and_nat b 127 ay Z;rw[show((127:Nat):Int)=127 from rfl,nat_mask7] at h1
 rw[h1];have hp:(128:Nat) ^ k=2 ^ (7*k):=by rw[show 128=2 ^ 7 from rfl,←Nat.pow_mul]
 have amF:(2:Nat) ^ (7*k)≤2 ^ 63:=ZS U U;have ER:=DC s k;rw[hp] at ER;have h2:b%128*2 ^ (7*k)<18446744073709551616:=by
  by_cases e:k=9
  ·subst e
   have:=h9 rfl;have h3:b%128≤1:=U;have:=WP (2 ^ (7*9)) h3;have h4:(2:Nat) ^ (7*9)=9223372036854775808:=Z;omega
  ·have h3:(2:Nat) ^ (7*k)≤2 ^ 56:=ZS U U
   have h4:b%128≤127:=U;have:=Nat.mul_le_mul h4 h3;have h5:(127:Nat)*2 ^ 56<18446744073709551616:=Z;omega
 have w1:IntKind.u64.wrap ((b%128:Nat):Int)=((b%128:Nat):Int):=by
  simp only[IntKind.wrap,IntKind.bits,IntKind.signed];simp;omega
 have w2:IntKind.u64.wrap ((b%128*2 ^ (7*k):Nat):Int)=((b%128*2 ^ (7*k):Nat):Int):=by
  generalize b%128*2 ^ (7*k)=z at *;simp only[IntKind.wrap,IntKind.bits,IntKind.signed];simp;omega
 rw[w1,show(((b%128:Nat):Int)*2 ^ (7*k))=((b%128*2 ^ (7*k):Nat):Int) by simp,w2]
 have DY:(2:Nat) ^ 63=9223372036854775808:=Z;rw[u64_or_nat _ _ U h2];have hj:=nat_join (7*k) (b%128*2 ^ (7*k)) (gZ s k) (by rw[acn]) ER
 rw[Nat.or_comm,hj,gZ,hb,hp];congr 1;omega
theorem Lm(s:Bytes)(v:Nat)(r:Bytes)(w:World)(hs:s.length≤9223372036854775807)(h:fY s v r):
  Calls prog 203 #[.string ⟨s.toArray⟩] w fun e w'=>e=.returned (.tuple #[.int .u64 v,.string ⟨r.toArray⟩,.bool true])∧Q w w':=by
 obtain⟨k0,ad8,abY,h9⟩:=zN s v r h;obtain⟨rfl,rfl⟩:=fY.one h (Fb s k0 abY ad8 h9);clear h;obtain⟨e1,e2,e3,e4⟩:=abY;have E2:=Hd e2;have E4:=Hd e4;have H9:=Hd h9;clear e2 e4 h9;by_cases hl:s.length≤10;all_goals
  go_enter func203,ntmps203;go_wp2_with fail;go_loop [11,5,6,7] (fun i x _ _=>∃k:Nat,k≤k0∧i=.int .i64 k∧x=.int .u64 (gZ s k:Nat)) (fun i _ _ _=>10-(intOf i).toNat)
  case atStart=>exact⟨0,U,rfl,rfl⟩
  case round =>
   obtain⟨k,hk,rfl,rfl⟩:=hrel;have hb:=jW s k;have ER:=DC s k;have bX:k<s.length:=U;have eu:((({ data:=s.toArray }:ByteArray)[k]'bX).toNat:Int)=(bA s k:Nat):=nd s k bX;by_cases ay:k<k0
   ·have bN:=E2.out k ay
    have hw:=po s k (bA s k) rfl U (fun h=>U)
    have sJ:(127:Int)<(({ data:=s.toArray }:ByteArray)[k]'bX).toNat:=by rw[eu];omega
    rw[←eu] at hw;have HW:=Hd hw;clear hw eu;go_wp2_with fail;go_round;case rel=>exact⟨k+1,U,by go_num,int_eq (by rw[←HW.out])⟩
    case measure=>simp[intOf];omega
   ·have iN:k=k0:=U
    subst iN;have hw:=po s k (bA s k) rfl ad8 H9.out;rw[←eu] at hw;have sJ:(({ data:=s.toArray }:ByteArray)[k]'bX).toNat≤(127:Int):=by rw[eu];omega
    have hx0:(0:Int)≤(({ data:=s.toArray }:ByteArray)[k]'bX).toNat:=U;have h9b:k=9→((({ data:=s.toArray }:ByteArray)[k]'bX).toNat:Int)≤1:=fun h=>by rw[eu];have:=H9.out h;omega
    have h0b:0<k→((((({ data:=s.toArray }:ByteArray)[k]'bX).toNat:Int))==0)=false:=fun h=>by
     rw[Γ,eu];have:=E4.out h;omega
    have afJ:s.drop (k+1)=(s.drop (k+1)):=rfl;have HW:=Hd hw;have H9B:=Hd h9b;have H0B:=Hd h0b;clear hw eu h9b h0b afJ;by_cases h9:k=9
    ·have q9:((k:Int)==9)=true:=by rw[NX];omega
     have q1:=H9B.out h9;have q0:=H0B.out U;have lT:0<k:=U;clear h9;go_wp2_with fail;have z1:IntKind.i64.wrap ((k:Int)+1)=(k:Int)+1:=IntWalk.i64_in _ U;have z2:(0:Int)≤(k:Int)+1:=U;have z3:((k:Int)+1).toNat=k+1:=U;go_quiet (fail);clear z1 z2 z3;go_wp2_with fail;go_ret3;exact⟨Dc HW.out (fI s (k+1)),Q.drewN _ _⟩
    ·have q9:((k:Int)==9)=false:=by rw[Γ];omega
     clear h9;by_cases lT:0<k
     ·have q0:=H0B.out lT
      go_wp2_with fail;have z1:IntKind.i64.wrap ((k:Int)+1)=(k:Int)+1:=IntWalk.i64_in _ U;have z2:(0:Int)≤(k:Int)+1:=U;have z3:((k:Int)+1).toNat=k+1:=U;go_quiet (fail);clear z1 z2 z3;go_wp2_with fail;go_ret3;exact⟨Dc HW.out (fI s (k+1)),Q.drewN _ _⟩
     ·have lT:k=0:=U
      subst lT;have ZN:=HW.out;rw[show((2:Int) ^ (7*0))=1 from rfl,Int.mul_one] at ZN
      have HW:=Hd ZN;clear ZN;go_wp2_with fail;have z1:IntKind.i64.wrap 1=1:=IntWalk.i64_in _ U;go_quiet (fail);clear z1;go_wp2_with fail;go_ret3;exact⟨Dc HW.out (fI s (0+1)),Q.drewN _ _⟩
theorem jp.var{s t r:Bytes}(h:jp s t r):fY s t.length (t++r):=by
 refine⟨h.1,?_⟩;rw[h.2,qR,MY]
theorem U3(s t r:Bytes)(w:World)(hs:s.length≤9223372036854775807)(h:jp s t r):
  Calls prog 204 #[.string ⟨s.toArray⟩] w fun e w'=>e=.returned (.tuple #[.string ⟨t.toArray⟩,.string ⟨r.toArray⟩,.bool true])∧Q w w':=by
 have hv:=h.var;have hlen:s.length=(dN t.length).length+(t.length+r.length):=by rw[hv.2,Δ,Δ]
 have c:=Lm s t.length (t++r) w hs hv;obtain⟨rr,Cw⟩:∃rr,rr=t++r:=⟨_,rfl⟩;have vw:rr.length=t.length+r.length:=by rw[Cw,Δ]
 rw[←Cw] at c;have qp:t.length≤rr.length:=U;have amG:rr.length≤9223372036854775807:=U;have e1:rr.take t.length=t:=by rw[Cw,TO];rfl
 have e2:rr.drop t.length=r:=by rw[Cw,abO];rfl
 generalize t.length=n at *;have C:=Hd c;have E1:=Hd e1;have E2:=Hd e2;clear c e1 e2 vw hlen hv Cw h;go_enter func204,ntmps204;go_wp2_with fail;refine C.out.mono ?_;rintro e w1 ⟨rfl,q1⟩;go_wp2_with fail;go_quiet (fail);go_wp2_with fail;go_ret3;exact⟨Uv (by rw[uD,E1.out]) (by rw[fI,E2.out]),q1.trans (Q.drewN _ _)⟩
theorem yH{F:Nat→Prop}{w0 w w':World}(h:∀k,F k→w0.heap.size≤k)(q:w0.heap.size≤w.heap.size):∀k,grow F w w' k→w0.heap.size≤k:=fun k hk=>hk.elim (h k) (fun hk=>My q hk.1)
theorem ae.low{F:Nat→Prop}{w0 w w':World}(t:ae F w w')(h:∀k,F k→w0.heap.size≤k)(q:Q w0 w):Q w0 w':=t.below q q.size h
end
section
def st9(n:Nat):FsL:=ng (fE n).st.j.d []
theorem Kj(n:Nat)(h:128≤n)(hm:n≤4096):∃C,cW 0 n (fE n) C∧(fE n).l=[]:=by
 obtain⟨r1,r2,r3,r4,⟨fr,C,r5⟩,_⟩:=MS n h hm;exact⟨C,⟨⟨fr,r5.mono U⟩,r4,r3⟩,r2⟩
def mn(k n:Nat)(φ:FsL)(C:Nat→Bytes):Prop:=cW k n φ C∧φ.l=[]
def eR(k n:Nat)(φ:FsL)(C:Nat→Bytes)(s:Bytes)(b:Bool)(t:Bytes):Prop:=cW k n φ C∧∃f,φ.l=[f]∧f.name=s∧f.sl=b∧f.ext.length≤1∧cont C f=t
theorem nF(n:Nat)(h:128≤n)(hm:n≤4096):∃C,mn 1 n (st9 n) C:=by
 obtain⟨C,hg,hl⟩:=Kj n h hm;obtain⟨_,_,_,_,_,_,_,_,_,_,h1,_⟩:=DT hg Z;rw[hl] at h1;exact⟨C,h1,rfl⟩
theorem Kb(n:Nat)(h1:128≤n)(h2:n≤4096):∃C,ce 5 (bf n) [] C∧ce 5 (bf n).begin.1 [] C∧(bf n).begin.2=0∧eI 5 ((bf n).begin.1.alloc 12).1 [] C∧((bf n).begin.1.alloc 12).2.2=0∧((bf n).begin.1.alloc 12).1.n=n ∧
  (((bf n).begin.1.alloc 12).1.dir [] []).2=0∧(fE n).st=(((bf n).begin.1.alloc 12).1.dir [] []).1.bj.1:=by
 obtain⟨hz,L6,hi,kr,_,vk⟩:=BO n h1 h2;obtain⟨b0,ht,h0,kF⟩:=yG hi rfl;have uf:(bf n).begin.1.n=n:=(fq ht.j).trans kr;have ny:fO (bf n).begin.1:=by unfold fO;rw[h0];simp
 have lK:ak n+12≤n:=by unfold ak aD;omega
 have lS:fK (bf n).begin.1.ai 12 (bf n).begin.1.n=some (ak n):=by
  rw[kF,vk,uf];exact Ce _ _ _ _ Z lK (fun i hi=>by rw[tJ n h1 h2];exact NO hi) (fun i hi _=>by rw[tJ n h1 h2];exact Nx U)
 have jy:=AY ht.st ht.op ny 12 Z;rw[lS] at jy;obtain⟨a1,a2,a3,a4⟩:=jy;obtain⟨t0,t1,t2,t3,t4,t5⟩:=yF ht.st ht.op ny (ak n) 12 true a2 a3;have tX:((bf n).begin.1.bh (ak n) 12 true).1.n=n:=(fq t4).trans uf;have a1':(bf n).begin.1.alloc 12=(((bf n).begin.1.bh (ak n) 12 true).1,(ak n:Int),0):=a1;have hs:eI 5 ((bf n).begin.1.alloc 12).1 [] (bT (fun _=>ag) (bE n)):=by
  rw[a1'];exact⟨t2,t3,My (qY t2 t5) Z,by rw[tX];exact lK,fun i hi=>by rw[tX,t1,Φ U]⟩
 have hc:(((bf n).begin.1.alloc 12).1.dir [] []).2=0:=by
  unfold StL.dir;rw[Φ qZ];exact Gq hs _ _ (kg qZ)
 refine⟨_,hi,ht.st,b0,hs,by rw[a1'],by rw[a1'];exact tX,hc,?_⟩
 have aW:((bf n).begin.1.alloc 12).2.2=0:=by rw[a1']
 have hd:=(MS n h1 h2).1;unfold fE;unfold FsL.cx at hd ⊢;rw[η (by show ¬(bf n).begin.2≠0;rw[b0];simp)] at hd ⊢
 have hr:xw (φ0 n) (φ0 n).st.begin.1=qm (φ0 n) ((bf n).begin.1.alloc 12).1 []:=by show xw (φ0 n) (bf n).begin.1=_;unfold xw;rw[η (by rw[aW];decide)]
 rw[hr] at hd ⊢;rw[η (by show ¬(((bf n).begin.1.alloc 12).1.dir [] []).2≠0;rw[hc];simp)] at hd ⊢
 by_cases hx:(qm (φ0 n) ((bf n).begin.1.alloc 12).1 []).1.bj.2≠0
 ·rw[Φ hx] at hd;exact absurd hd hx
 ·rw[η hx];rfl
theorem L0{K:Nat}{φ:FsL}{fr:List (List WrL)}{C:Nat→Bytes}(h:bz K φ fr C)(hb:fD φ.l=[])(c:Nat)(hn:ak φ.st.n+12+c≤φ.st.n):¬NoRoom φ.st c:=by
 rintro⟨hc,e⟩;rw[Ce φ.st.ai (ak φ.st.n+12) φ.st.n c hc hn (fun i hi=>h.low i hi) (fun i h1 h2=>?_)] at e
 ·exact absurd e κ
 ·cases hx:bit φ.st.ai i with
  | false=>rfl
  | true =>
   rcases (h.eQ i U h2).1 hx with h3|h3
   ·omega
   ·rw[hb] at h3;simp at h3
section
variable {k n:Nat} {φ:FsL} {C:Nat→Bytes} {s t:Bytes} {b:Bool}
theorem mn.create(h:mn k n φ C)(hk:k≤1000000)(hs:iM s=true):(φ.create s).2=0∧∃D,eR (k+1) n (φ.create s).1 D s false []:=by
 obtain⟨⟨⟨fr,hi⟩,hf,hn⟩,hl⟩:=h;have hx:isF φ.l s=false:=by rw[hl];rfl
 have hlen:s.length≤24:=(Tl hs).2.1;have e:φ.create s=φ.cx (wu φ s):=by
  unfold FsL.create;rw[hi.live,η Z,η (by rw[hs];decide),hx,η Z,η (by rw[hl];simp)]
 have aeP:jE φ.l ⟨s,false,0,[]⟩=[⟨s,false,0,[]⟩]:=by rw[hl];rfl
 rw[e];rcases mj hi hf hn (La hi U s hs hx (by rw[hl];simp)) with ⟨r0,D,r1,r2,r3⟩|⟨r0,r1,r2,r3⟩
 ·exact⟨r0,D,r1,_,r2.trans aeP,rfl,rfl,MD _,rfl⟩
 ·rw[aeP,Ba _ hlen (MD _)] at r3;exact absurd r3 Z
theorem eR.has(h:eR k n φ C s b t):Has s b t φ C:=by
 obtain⟨_,f,hl,h1,h2,_,h3⟩:=h;exact⟨f,by rw[hl];exact M3.2 rfl,h1,h2,h3⟩
theorem eR.at(h:eR k n φ C s b t):isF φ.l s=true∧aA φ.l s=0∧φ.di s=0∧∃hp:0<φ.l.length,φ.at9 s=φ.l[0]∧φ.l[0].name=s∧φ.l[0].sl=b∧φ.l[0].ext.length≤1∧cont C φ.l[0]=t∧φ.l=[φ.l[0]]∧s.length≤24:=by
 obtain⟨e1,e2,e3,e4,e5⟩:=h.has.isF h.1;obtain⟨⟨⟨fr,hi⟩,_⟩,f,hl,h1,h2,h3,h4⟩:=h;obtain⟨hp,p1,p2,p3⟩:=hi.at e1;have h0:aA φ.l s=0:=by rw[hl] at hp;simp at hp;rw[hl];exact hp
 have hz:0<φ.l.length:=by rw[hl];simp
 have pF:φ.l[0]=f:=by simp only[hl];rfl
 have bQ:=(hi.good.ok.ok f (by rw[hl];exact M3.2 rfl)).name
 have D8:φ.at9 s=φ.l[0]:=by rw[p1];simp only[h0]
 refine⟨e1,h0,e4,hz,D8,?_⟩;rw[pF];exact⟨h1,h2,h3,h4,hl,by rw[←h1];exact(Tl bQ).2.1⟩
theorem eR.again(h:eR k n φ C s b t)(hs:iM s=true):φ.create s=(φ,11):=by
 obtain⟨e1,_⟩:=h.at;obtain⟨⟨⟨fr,hi⟩,_⟩,_⟩:=h;unfold FsL.create;rw[hi.live,η Z,η (by rw[hs];decide),e1,Φ rfl]
theorem eR.append(h:eR k n φ C s false [])(hk:k≤1000000)(d:Bytes)(hd:d.length≤6000)(hr:ak n+12+cB d.length≤n):(φ.append s d).2=0∧∃D,eR (k+1) n (φ.append s d).1 D s false d:=by
 obtain⟨e1,e2,e3,hp,e4,e5,e6,e7,e8,e9,e10⟩:=h.at;have hz:=(h.has.isF h.1).2.2.2.2;obtain⟨⟨⟨fr,hi⟩,hf,hn⟩,hx⟩:=h;have bP:φ.l[0].size=0:=by rw[←e4];exact hz
 have dZ:φ.l[0].bl.length=0:=by
  rw[(hi.good.ok.ok _ (MA hp)).need,bP];rfl
 have hall:fD φ.l=[]:=by
  rw[e9,gJ,adz.1 dZ];rfl
 by_cases rU:d=[]
 ·subst rU
  have e:φ.append s []=(φ,0):=by
   unfold FsL.append;rw[η (by rw[e3];simp),e4,η (by rw[e6];decide),η (by rw[bP];simp),Φ rfl]
  rw[e];exact⟨rfl,C,(show cW k n φ C from⟨⟨fr,hi⟩,hf,hn⟩).more,hx⟩
 ·have e:φ.append s d=φ.cx (oF φ 0 φ.l[0] d):=by
   unfold FsL.append;rw[η (by rw[e3];simp),e4,η (by rw[e6];decide),η (by rw[bP];omega),η rU,e2]
  rw[e];obtain⟨y,hy,hy2⟩:=EF hi U 0 hp d U (by rw[bP];omega)
  have lD:cB (φ.l[0].size+d.length)-φ.l[0].bl.length=cB d.length:=by rw[bP,dZ,PF,adn]
  have ZG:¬NoRoom φ.st (cB d.length):=L0 hi hall _ (by rw[hn];exact hr)
  rw[lD] at hy hy2;have kE:φ.l.set 0 (dW φ.l[0] d y)=[dW φ.l[0] d y]:=by
   generalize φ.l[0]=f at *;rw[e9];rfl
  have Ib:y.length≤1:=by
   rcases hy2 with hy2|hy2
   ·have hx0:φ.l[0].ext=[]:=by
     cases sH:φ.l[0].ext with
     | nil=>rfl
     | cons x l =>
      have:=(hi.good.ok.ok _ (MA hp)).ext x (by rw[sH];exact Nm ..)
      have hb:x.1∈φ.l[0].bl:=JY.2 ⟨x,by rw[sH];exact Nm ..,Ω _,U⟩
      rw[adz.1 dZ] at hb;simp at hb
    rw[hx0] at hy2;exact hy2
   ·exact absurd hy2 ZG
  rcases mj hi hf hn hy with ⟨r0,D,r1,r2,r3⟩|⟨r0,r1,r2,r3⟩
  ·exact⟨r0,D,r1,_,r2.trans kE,e5,e6,Ib,by rw[r3.2,e8];rfl⟩
  ·rw[kE,Ba _ (by rw[show(dW φ.l[0] d y).name=φ.l[0].name from rfl,e5];exact e10) Ib] at r3
   rcases r3 with r3|r3|r3
   ·exact absurd r3 Z
   ·omega
   ·exact absurd r3 ZG
theorem Ri{D:Nat→Bytes}{f:ax}(h:Same C D [f]):cont D f=cont C f:=h.cont (M3.2 rfl)
theorem eR.seal(h:eR k n φ C s b t)(hk:k≤1000000):(φ.fW s).2=0∧∃D,eR (k+1) n (φ.fW s).1 D s true t:=by
 obtain⟨e1,e2,e3,hp,e4,e5,e6,e7,e8,e9,e10⟩:=h.at;obtain⟨⟨⟨fr,hi⟩,hf,hn⟩,_⟩:=h;have e:φ.fW s=φ.cx (Ca φ 0 φ.l[0]):=by unfold FsL.fW;rw[η (by rw[e3];simp),e4,e2]
 have hy:=QL hi U 0 hp;rw[e];generalize φ.l[0]=f at *;have kE:φ.l.set 0 f.sealed=[f.sealed]:=by rw[e9];rfl
 rw[kE] at hy;rcases mj hi hf hn hy with ⟨r0,D,r1,r2,r3⟩|⟨r0,r1,r2,r3⟩
 ·rw[e9] at r3
  exact⟨r0,D,r1,_,r2,e5,rfl,e7,by rw[←e8];exact Ri r3⟩
 ·rw[Ba f.sealed (by rw[show f.sealed.name=f.name from rfl,e5];exact e10) e7] at r3;exact absurd r3 Z
theorem eR.delete(h:eR k n φ C s b t)(hk:k≤1000000):(φ.delete s).2=0∧∃D,mn (k+1) n (φ.delete s).1 D:=by
 obtain⟨e1,e2,e3,hp,e4,e5,e6,e7,e8,e9,e10⟩:=h.at;obtain⟨⟨⟨fr,hi⟩,hf,hn⟩,_⟩:=h;have e:φ.delete s=φ.cx (rZ φ 0 φ.l[0]):=by unfold FsL.delete;rw[η (by rw[e3];simp),e4,e2]
 have hy:=Lb hi U 0 hp;rw[e];generalize φ.l[0]=f at *;have kE:φ.l.eraseIdx 0=[]:=by rw[e9];rfl
 rw[kE] at hy;rcases mj hi hf hn hy with ⟨r0,D,r1,r2,r3⟩|⟨r0,r1,r2,r3⟩
 ·exact⟨r0,D,r1,r2⟩
 ·rw[qZ] at r3;exact absurd r3 Z
theorem eR.rename(h:eR k n φ C s b t)(hk:k≤1000000)(u:Bytes)(hu:iM u=true)(aU:s≠u):(φ.rename s u).2=0∧∃D,eR (k+1) n (φ.rename s u).1 D u b t:=by
 obtain⟨e1,e2,e3,hp,e4,e5,e6,e7,e8,e9,e10⟩:=h.at;obtain⟨⟨⟨fr,hi⟩,hf,hn⟩,_⟩:=h;have e:φ.rename s u=φ.cx (r9 φ 0 φ.l[0] u):=by unfold FsL.rename;rw[η (by rw[e3];simp),η (by rw[hu];decide),η aU,e4,e2]
 have hy:=Lc hi U 0 hp u hu (by rw[e5];exact aU)
 have hlen:u.length≤24:=(Tl hu).2.1;rw[e];generalize φ.l[0]=f at *;have kE:jE (eZ (φ.l.eraseIdx 0) u) (f.named u)=[f.named u]:=by rw[e9];rfl
 rw[kE] at hy;rcases mj hi hf hn hy with ⟨r0,D,r1,r2,r3⟩|⟨r0,r1,r2,r3⟩
 ·rw[e9] at r3
  exact⟨r0,D,r1,_,r2,rfl,e6,e7,by rw[←e8];exact Ri r3⟩
 ·rw[Ba (f.named u) hlen e7] at r3;exact absurd r3 Z
theorem eR.none(h:eR k n φ C s b t)(u v:Bytes)(aU:u≠s):φ.rename u v=(φ,10):=by
 obtain⟨⟨⟨fr,hi⟩,hf,hn⟩,f,hl,h1,_⟩:=h;have hx:isF φ.l u=false:=by
  cases hx:isF φ.l u with
  | false=>rfl
  | true =>
   obtain⟨g,hg,e⟩:=(IC hi.good.ok.rise u).1 hx;rw[hl] at hg;obtain rfl:=M3.1 hg;exact absurd (e.symm.trans h1) aU
 unfold FsL.rename;rw[hi.find,hx,Φ Z];rfl
theorem eR.count(h:eR k n φ C s b t):φ.used=12+cB t.length∧φ.used+φ.free=n-ak n:=by
 have hz:=(h.has.isF h.1).2.2.2.2;obtain⟨e1,e2,e3,hp,e4,e5,e6,e7,e8,e9,e10⟩:=h.at;obtain⟨⟨⟨fr,hi⟩,hf,hn⟩,_⟩:=h;obtain⟨c1,c2⟩:=hi.count;rw[hn] at c2;refine⟨?_,c2⟩;rw[c1,←hz,e4];generalize φ.l[0]=f at *;rw[e9];rfl
theorem mn.count(h:mn k n φ C):φ.used=12∧φ.used+φ.free=n-ak n:=by
 obtain⟨⟨⟨fr,hi⟩,hf,hn⟩,hl⟩:=h;obtain⟨c1,c2⟩:=hi.count;rw[hn] at c2;exact⟨by rw[c1,hl];rfl,c2⟩
end
theorem cW.fok{k n:Nat}{φ:FsL}{C:Nat→Bytes}(h:cW k n φ C)(hk:k≤1000000):φ.st.dead=false∧∃KI fr C,bz KI φ fr C∧KI+4<18446744073709551616:=by
 obtain⟨⟨fr,hi⟩,_⟩:=h;exact⟨hi.live,_,fr,C,hi,U⟩
def aS:Bytes:=[97]
def bS:Bytes:=[98]
def xS:Bytes:=List.replicate 300 120
theorem wC{α β:Type}{x:α×β}{b:β}(h:x.2=b):x=(x.1,b):=by rw[←h]
theorem KB(n:Nat)(h:128≤n)(hm:n≤128):∃s1 s2 s3 s4 s5:FsL,∃C0 C1 C2 C3 C4 C5,cW 1 n (st9 n) C0∧cW 2 n s1 C1∧cW 3 n s2 C2∧cW 4 n s3 C3∧cW 5 n s4 C4∧cW 6 n s5 C5 ∧
  (st9 n).create aS=(s1,0)∧s1.create aS=(s1,11)∧s1.append aS xS=(s2,0)∧s2.d8 aS 250 100=(List.replicate 50 120,0)∧s2.d8 aS 300 1=([],0)∧s2.d8 aS 301 1=([],2) ∧
  s2.fW aS=(s3,0)∧s3.append aS [120]=(s3,13)∧s3.rename aS bS=(s4,0)∧s4.rename aS [99]=(s4,10)∧s4.delete bS=(s5,0) ∧
  (st9 n).free=52∧(st9 n).used=12∧s2.free=50∧s5.free=52:=by
 obtain rfl:n=128:=U;have lK:ak 128=64:=Z;have hx:xS.length=300:=Of;have hn:cB xS.length=2:=by rw[hx];decide
 obtain⟨C0,h0⟩:=nF 128 Z Z;obtain⟨a0,C1,h1⟩:=h0.create (s:=aS) Z Z;have a1:=h1.again Z;obtain⟨a2,C2,h2⟩:=h1.append Z xS (by rw[hx];decide) (by rw[lK,hn];decide)
 have r1:=h2.has.read h2.1 250 100 Z (by rw[hx];decide) Z
 have r2:=h2.has.read h2.1 300 1 Z (by rw[hx];decide) Z
 have r3:((st9 128).create aS).1.append aS xS |>.1.d8 aS 301 1=([],2):=by
  obtain⟨_,_,_,e4,e5⟩:=h2.has.isF h2.1;unfold FsL.d8;rw[η (by rw[e4];simp),Φ (by rw[e5,hx];decide)]
 have mh:=hx;generalize xL:xS=xs at *;obtain⟨a3,C3,h3⟩:=h2.seal Z;have a4:=h3.has.j8 h3.1 [120];obtain⟨a5,C4,h4⟩:=h3.rename Z bS Z Z;have a6:=h4.none aS [99] Z;obtain⟨a7,C5,h5⟩:=h4.delete Z;obtain⟨u0,f0⟩:=h0.count;obtain⟨u2,f2⟩:=h2.count;obtain⟨u5,f5⟩:=h5.count;rw[lK] at f0 f2 f5;refine⟨_,_,_,_,_,C0,C1,C2,C3,C4,C5,h0.1,h1.1,h2.1,h3.1,h4.1,h5.1,wC a0,a1,wC a2,?_,?_,r3,wC a3,a4,wC a5,a6,wC a7,U,u0,U,U⟩
 ·rw[r1,←xL];unfold xS;rw[acL,List.take_replicate];rfl
 ·rw[r2,←xL];unfold xS;rw[acL];rfl
end
section
open Go.RowKit
theorem xB(w:World):Calls prog 80 #[] w fun e w'=>e=.returned (ah ag)∧Q w w':=by
 obtain⟨i,hi,bY,bB,aW⟩:=info_parts ze;have km:=run_make (P:=prog) w 84 5 _ _ underlying84 hi bY .i64 .i64 256 256 U (aac _) (by rw[aW];omega) U
 have hb:=(ci.zeros w (256:Int).toNat 5).back (P:=prog) 84 9 5 (256:Int).toNat underlying84 underlying5 underlying9;rw[Of] at hb;rw[show List.replicate (256:Int).toNat (0:UInt8)=ag from rfl] at hb
 rw[bB,abk,show(Value.int IntKind.u8 0).cells=#[.int .u8 0] from rfl] at km
 have hq:=Q.alloc w (.cells (madeCells #[.int .u8 0] (256:Int).toNat) 5);generalize ag=nl at *;generalize (256:Int).toNat=m at *;generalize w.alloc (.cells (madeCells #[.int .u8 0] m) 5)=w2 at *;have HQ:=Hd hq;clear hq bY bB aW;go_enter func80,ntmps80;go_wp2;go_ret;exact⟨rfl,HQ.out⟩
end
end Go.Proofs.YtonlbpljghohmaaGreatDoor
