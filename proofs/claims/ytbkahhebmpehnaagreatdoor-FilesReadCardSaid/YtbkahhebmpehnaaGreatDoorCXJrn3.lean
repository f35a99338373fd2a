/- Joined: Jrn3 to Base -/
import Derived.Test.YtbkahhebmpehnaaGreatDoorCXWire
import Derived.WalkKit
import Derived.Lib.Hide
import Derived.BigQuiet
import Derived.Deep.Onto
import Derived.Deep.AppendLies
set_option linter.all false
set_option maxRecDepth 100000
set_option maxHeartbeats 8000000
namespace Go.Proofs.YtbkahhebmpehnaaGreatDoor
section
namespace af
theorem gC{d:af}(hd:d.dead=false)(i:Nat)(h:i<d.l.length):d.chk i=0:=by
 unfold chk;rw[hd,η Z,Φ ⟨U,U⟩]
theorem gE(ws:List WrL):∀(d:af),d.dead=false→(∀w∈ws,w.1<d.l.length∧w.2.length=256) →
  ((d.writes ws).2=0∧(d.writes ws).1.dead=false∧(d.writes ws).1.l=d.l∧(d.writes ws).1.p=d.p++ws) ∨
  ((d.writes ws).2=4∧(d.writes ws).1.dead=true∧(d.writes ws).1.l=d.l∧∃k,(d.writes ws).1.p=d.p++ws.take k):=by
 induction ws with
 | nil=>intro d hd _;exact .inl ⟨rfl,hd,rfl,by simp[writes]⟩
 | cons w ws ih =>
  intro d hd hw;have h1:=hw w (Mu ..);have hc:=gC hd w.1 h1.1;by_cases hf:d.b9=0
  ·right
   have e:d.write w.1 w.2=(d.bh,4):=by
    unfold write;rw[η (by rw[hc];simp),η (by rw[h1.2];simp),Φ hf]
   rw[writes,e,η κ];refine⟨rfl,by unfold bh;rw[Φ hf],(df d).1,0,?_⟩
   rw[R0,NF];exact(df d).2
  ·have e:d.write w.1 w.2=({ d.bh with p:=d.p++[w] },0):=by
    unfold write;rw[η (by rw[hc];simp),η (by rw[h1.2];simp),η hf];rfl
   have ht:d.bh.dead=false:=by unfold bh;rw[η hf];exact hd
   rw[writes,e,Φ rfl];have:=ih { d.bh with p:=d.p++[w] } ht (fun x hx=>by show x.1<d.bh.l.length∧_;rw[(df d).1];exact hw x (Mn _ hx))
   rw[show({ d.bh with p:=d.p++[w] }:af).l=d.l from(df d).1] at this
   rcases this with ⟨a,b,c,e⟩|⟨a,b,c,k,e⟩
   ·exact .inl ⟨a,b,c,by rw[e,Mm];rfl⟩
   ·exact .inr ⟨a,b,c,k+1,by rw[e,Mm];rfl⟩
theorem pT(d:af)(hd:d.dead=false):
  (d.bw.2=0∧d.bw.1.dead=false∧d.bw.1.l=iw d.l d.p∧d.bw.1.p=[])∨(d.bw.2=4∧d.bw.1.dead=true∧d.bw.1.l=d.l∧d.bw.1.p=d.p):=by
 by_cases hf:d.b9=0
 ·right
  have e:d.bw=(d.bh,4):=by unfold bw;rw[hd,η Z,Φ hf]
  rw[e];exact⟨rfl,by unfold bh;rw[Φ hf],(df d).1,(df d).2⟩
 ·left
  have e:d.bw=({ d.bh with l:=iw d.l d.p,p:=[] },0):=by unfold bw;rw[hd,η Z,η hf]
  rw[e];exact⟨rfl,by show d.bh.dead=_;unfold bh;rw[η hf];exact hd,rfl,rfl⟩
def lays(d:af)(ws:List WrL):af×Int:=if (d.writes ws).2=0 then(d.writes ws).1.bw else d.writes ws
theorem dm{d:af}(h:d.Ok)(ws:List WrL):(d.lays ws).1.Ok:=by
 unfold lays;split
 ·exact li (eN h ws)
 ·exact eN h ws
theorem hM(ws:List WrL)(d:af)(hd:d.dead=false)(hw:∀w∈ws,w.1<d.l.length∧w.2.length=256):
  ((d.lays ws).2=0∧(d.lays ws).1.dead=false∧(d.lays ws).1.l=iw d.l (d.p++ws)∧(d.lays ws).1.p=[]) ∨
  ((d.lays ws).2=4∧(d.lays ws).1.dead=true∧(d.lays ws).1.l=d.l∧∃k,(d.lays ws).1.p=d.p++ws.take k):=by
 unfold lays;rcases gE ws d hd hw with ⟨a,b,c,e⟩|⟨a,b,c,k,e⟩
 ·rw[Φ a]
  rcases pT _ b with ⟨a2,b2,c2,e2⟩|⟨a2,b2,c2,e2⟩
  ·exact .inl ⟨a2,b2,by rw[c2,c,e],e2⟩
  ·exact .inr ⟨a2,b2,by rw[c2,c],ws.length,by rw[e2,e,M1]⟩
 ·rw[η (by rw[a];decide)]
  exact .inr ⟨a,b,c,k,e⟩
theorem hQ(ws:List WrL):∀(d:af),d.dead=false→d.b9 = -1→(∀w∈ws,w.1<d.l.length∧w.2.length=256)→(d.writes ws).2=0∧(d.writes ws).1.b9 = -1:=by
 induction ws with
 | nil=>intro d _ hf _;exact⟨rfl,hf⟩
 | cons w ws ih =>
  intro d hd hf hw;have h1:=hw w (Mu ..);have hc:=gC hd w.1 h1.1;have Rz:d.b9≠0:=U;have e:d.write w.1 w.2=({ d.bh with p:=d.p++[w] },0):=by
   unfold write;rw[η (by rw[hc];simp),η (by rw[h1.2];simp),η Rz];rfl
  have ht:d.bh.dead=false∧d.bh.b9 = -1:=by
   unfold bh;rw[η Rz];refine⟨hd,?_⟩;simp only[hf];decide
  rw[writes,e,Φ rfl];exact ih { d.bh with p:=d.p++[w] } ht.1 ht.2 (fun x hx=>by show x.1<d.bh.l.length∧_;rw[(df d).1];exact hw x (Mn _ hx))
theorem Wy(d:af)(hd:d.dead=false)(hf:d.b9 = -1):d.bw.2=0∧d.bw.1.b9 = -1:=by
 have Rz:d.b9≠0:=U;have e:d.bw=({ d.bh with l:=iw d.l d.p,p:=[] },0):=by unfold bw;rw[hd,η Z,η Rz]
 rw[e];refine⟨rfl,?_⟩;show d.bh.b9 = -1;unfold bh;rw[η Rz];simp only[hf];decide
theorem ib(ws:List WrL)(d:af)(hd:d.dead=false)(hf:d.b9 = -1)(hw:∀w∈ws,w.1<d.l.length∧w.2.length=256):(d.lays ws).2=0∧(d.lays ws).1.b9 = -1:=by
 have h1:=hQ ws d hd hf hw;unfold lays;rw[Φ h1.1];refine Wy _ ?_ h1.2;rcases gE ws d hd hw with ⟨a,b,_⟩|⟨a,_⟩
 ·exact b
 ·rw[a] at h1;exact absurd h1.1 Z
end af
theorem oT(p:List WrL):∀(l:List Bytes),(∀s∈l,s.length=256)→(∀w∈p,w.1<l.length∧w.2.length=256)→Img l p (iw l p):=by
 induction p with
 | nil=>intro l _ _;exact .nil l
 | cons w p ih =>
  intro l hl hp;have hw:=hp w (Mu ..);have e:iK l w 256=l.set w.1 w.2:=by
   unfold iK;rw[Mp U,Pr (by rw[af.d8 hl hw.1];exact Ω _),NF]
  refine .cons 256 ?_;rw[e];exact ih _ (by rw[←e];exact vV _ _ _ hl hw.1 hw.2) (fun x hx=>by rw[Rx];exact hp x (Mn _ hx))
theorem DI(l:List Bytes)(p:List WrL)(i:Nat)(h:i<l.length):at' (iw l p) i=bH p i (at' l i):=A5 l p i h
structure JL where
 d:af
 s:bu
 k:Nat
 next:Nat
 used:Nat
namespace JL
def place(j:JL)(n:Nat):Nat:=cV j.s (j.used+n)
def home(j:JL):Nat:=2+j.s.log
def frame(j:JL):Option (List WrL) :=
 match eD ((List.range (min (j.s.log-j.used) 49)).map fun i=>j.d.get (j.place i)) with
 | some (seq,ws)=>if seq=j.next∧∀w∈ws,j.home≤w.1∧w.1<j.d.l.length then some ws else none
 | none=>none
def advance(j:JL)(n:Nat):JL:={ j with used:=j.used+n+1,next:=(j.next+1)%18446744073709551616 }
def cY:Nat→JL→JL×Int
 | 0,j=>(j,0)
 | n+1,j =>
  match j.frame with
  | none=>(j,0)
  | some ws=>if (j.d.writes ws).2=0 then cY n ({ j with d:=(j.d.writes ws).1 }.advance ws.length) else({ j with d:=(j.d.writes ws).1 },(j.d.writes ws).2)
def aE(j:JL):bu:=⟨(j.s.e+1)%18446744073709551616,j.next,j.s.log,(j.s.place+j.used)%j.s.log⟩
def cM(j:JL):af×Int:=j.d.lays [(j.place 0,ag)]
def cW(j:JL):af×Int:=j.cM.1.lays [(1-j.k,aQ j.aE)]
def cz(j:JL):JL×Int :=
 if j.cM.2≠0 then({ j with d:=j.cM.1 },j.cM.2) else if j.cW.2≠0 then({ j with d:=j.cW.1 },j.cW.2) else(⟨j.cW.1,j.aE,1-j.k,j.next,0⟩,0)
def ed(j:JL)(ws:List WrL):List WrL:=(ws.map (·.2)++[ag]).zipIdx.map fun x=>(j.place (x.2+1),x.1)
def cj(j:JL)(ws:List WrL):af×Int:=j.d.lays (j.ed ws)
def cJ(j:JL)(ws:List WrL):af×Int:=(j.cj ws).1.lays [(j.place 0,bK j.next ws)]
def eS(j:JL)(ws:List WrL):af×Int:=(j.cJ ws).1.writes ws
def com(j:JL)(ws:List WrL):JL×Int :=
 if (j.cj ws).2≠0 then({ j with d:=(j.cj ws).1 },(j.cj ws).2) else if (j.cJ ws).2≠0 then({ j with d:=(j.cJ ws).1 },(j.cJ ws).2) else
 ({ j with d:=(j.eS ws).1 }.advance ws.length,(j.eS ws).2)
def bj(j:JL)(ws:List WrL):JL×Int :=
 if ws.length+2>j.s.log-j.used then(if j.cz.2≠0 then j.cz else j.cz.1.com ws) else j.com ws
end JL
def aL(d:af):JL×Int :=
 if d.dead then(⟨d,⟨0,0,0,0⟩,0,0,0⟩,4) else
 match Eo (aR (d.get 0) d.l.length) (aR (d.get 1) d.l.length) with
 | none=>(⟨d,⟨0,0,0,0⟩,0,0,0⟩,10)
 | some (s,k)=>if (JL.cY (s.log+1) ⟨d,s,k,s.s,0⟩).2=0 then(JL.cY (s.log+1) ⟨d,s,k,s.s,0⟩).1.cz else JL.cY (s.log+1) ⟨d,s,k,s.s,0⟩
def pj(lg K:Nat)(l:List Bytes)(C:Nat→Bytes):Prop:=∃s k fr,eR l s k fr C∧s.log=lg∧s.e≤K∧s.s+fr.length≤K
theorem pj.mono{lg K K':Nat}{l:List Bytes}{C:Nat→Bytes}(h:pj lg K l C)(hk:K≤K'):pj lg K' l C:=by
 obtain⟨s,k,fr,h1,h2,h3,h4⟩:=h;exact⟨s,k,fr,h1,h2,U,U⟩
def Safe(lg K:Nat)(d:af)(S:(Nat→Bytes)→Prop):Prop:=∀l',Img d.l d.p l'→∃C,S C∧pj lg K l' C
theorem Safe.mono{lg K K':Nat}{d:af}{S S':(Nat→Bytes)→Prop}(h:Safe lg K d S)(hk:K≤K')(hs:∀C,S C→S' C):Safe lg K' d S':=fun l' hi=>by
 obtain⟨C,h1,h2⟩:=h l' hi
 exact⟨C,hs C h1,h2.mono hk⟩
theorem JM(s:bu):ag≠aQ s:=by
 intro h;have:=Pu (fun t:Bytes=>t[0]?) h
 simp only[ag,aQ,gN,fL,Ss,Of,We] at this;exact absurd this Z
theorem iu.other{X:Bytes}{s s':bu}(h:iu X s)(ho:s'.Ok)(he:s.e≤s'.e):kB X s s':=by
 refine⟨0,X,h,κ,?_⟩;rcases h with rfl|⟨r,hr,rfl,hl⟩
 ·exact JM s'
 ·intro e
  have:=FX hr ho e;subst this;omega
structure JPre (lg K:Nat) (j:JL) (fr:List (List WrL)) (C:Nat→Bytes):Prop where
 ok:j.d.Ok
 live:j.d.dead=false
 hrec:eR j.d.l j.s j.k fr C
 cH:j.s.log=lg
 he:j.s.e≤K
 hnext:j.next=j.s.s+fr.length
 im:j.next≤K
 gO:j.used=d9 0 fr
 pend:∀w∈j.d.p,2+lg≤w.1∧∃x∈fr.flatten,x.1=w.1
 get:∀i,2+lg≤i→i<j.d.l.length→j.d.get i=C i
structure JInv (lg K:Nat) (j:JL) (fr:List (List WrL)) (C:Nat→Bytes):Prop extends JPre lg K j fr C where
 old:iu (at' j.d.l (1-j.k)) j.s
 hend:at' j.d.l (cV j.s j.used)=ag
 eJ:j.d.p.length≤48
theorem JPre.allowed{lg K:Nat}{j:JL}{fr:List (List WrL)}{C:Nat→Bytes}(h:JPre lg K j fr C):∀w∈j.d.p,Allowed j.s fr w:=fun w hw=>.inl (by rw[h.cH];exact h.pend w hw)
theorem JPre.mn{lg K:Nat}{j:JL}{fr:List (List WrL)}{C:Nat→Bytes}(h:JPre lg K j fr C)(q:List WrL)(hq:∀w∈q,(w.1<j.d.l.length∧w.2.length=256)∧Allowed j.s fr w)(d:af)(hl:d.l=j.d.l)(hp:d.p=j.d.p++q):Safe lg K d (·=C):=by
 intro l' hi;rw[hl,hp] at hi;refine⟨C,rfl,j.s,j.k,fr,h.hrec.img (fun w hw=>?_) (fun w hw=>?_) hi,h.cH,h.he,by rw[←h.hnext];exact h.im⟩
 ·rcases My.1 hw with hw|hw
  ·exact h.ok.p w hw
  ·exact(hq w hw).1
 ·rcases My.1 hw with hw|hw
  ·exact h.allowed w hw
  ·exact(hq w hw).2
theorem JPre.mC{lg K:Nat}{j:JL}{fr:List (List WrL)}{C:Nat→Bytes}(h:JPre lg K j fr C)(n:Nat):j.place n=cV j.s (d9 0 fr+n):=by rw[JL.place,h.gO]
theorem vJ{α:Type}{l:List α}{k:Nat}{x:α}(h:x∈l.take k):x∈l:=P3 h
theorem Qa(l:List Bytes)(w:WrL)(h:w.1<l.length)(hl:∀s∈l,s.length=256)(hw:w.2.length=256):iw l [w]=iK l w 256:=by
 unfold iK iw;rw[Mp U,Pr (by rw[af.d8 hl h];exact Ω _),NF]
 rfl
theorem jk:ag.length=256:=Nx
theorem FY{l l':List Bytes}{w:WrL}{k:Nat}(h:Img l ([w].take k) l'):l'=l∨∃c,l'=iK l w c:=by
 cases k with
 | zero=>left;simp only[R0] at h;cases h;rfl
 | succ k=>right;simp only[acP,List.take_nil] at h;exact h.one
theorem Qb{lg K:Nat}{j:JL}{fr:List (List WrL)}{C:Nat→Bytes}(h:JPre lg K j fr C)(hK:K+2<18446744073709551616):
  (j.cz.2=0∧JInv lg (K+1) j.cz.1 [] C∧j.cz.1.d.p=[]∧(j.d.b9 = -1→j.cz.1.d.b9 = -1)) ∨
  (j.cz.2=4∧j.cz.1.d.dead=true∧j.cz.1.d.Ok∧Safe lg (K+1) j.cz.1.d (·=C)∧j.d.b9 ≠ -1):=by
 have hr:=h.hrec;have cH:=hr.cH;have ef:=hr.ef;have hk:=hr.hk;have hu:=hr.hchain.used;have bW:j.place 0=cV j.s (d9 0 fr):=h.mC 0;have om:=gG j.s (d9 0 fr) U;have sI:j.aE=jq j.s fr:=by
  unfold JL.aE jq;rw[h.hnext,h.gO,OS (by have:=h.he;omega)]
 have eO:∀w∈[(j.place 0,ag)],w.1<j.d.l.length∧w.2.length=256:=by
  intro w hw;rw[Mo] at hw;subst hw;exact⟨by show j.place 0<_;rw[bW];omega,jk⟩
 have LD:∀w∈[(j.place 0,ag)],(w.1<j.d.l.length∧w.2.length=256)∧Allowed j.s fr w:=fun w hw=>⟨eO w hw,by
  rw[Mo] at hw;subst hw;exact .inr ⟨d9 0 fr,Ω _,hu,bW,fun _=>rfl⟩⟩
 unfold JL.cz;rcases af.hM _ j.d h.live eO with ⟨a,b,c,e⟩|⟨a,b,c,k,e⟩
 ·have a':j.cM.2=0:=a
  rw[η (by rw[a'];simp)]
  have mg:j.cM.1.Ok:=af.dm h.ok _;have hb:j.cM.1.dead=false:=b;have hl:j.cM.1.l=iw j.d.l (j.d.p++[(j.place 0,ag)]):=c;have hp:j.cM.1.p=[]:=e;have hlen:j.cM.1.l.length=j.d.l.length:=by rw[hl,lY]
  have Y2:∀w∈j.d.p++[(j.place 0,ag)],w.1<j.d.l.length∧w.2.length=256:=fun w hw=>by
   rcases My.1 hw with hw|hw
   ·exact h.ok.p w hw
   ·exact eO w hw
  have oQ:eR j.cM.1.l j.s j.k fr C:=by
   rw[hl];refine hr.img Y2 (fun w hw=>?_) (oT _ _ h.ok.l Y2)
   rcases My.1 hw with hw|hw
   ·exact h.allowed w hw
   ·exact(LD w hw).2
  have hhome:∀i,2+j.s.log≤i→i<j.cM.1.l.length→at' j.cM.1.l i=C i:=fun i h1 h2=>by
   rw[hlen] at h2;rw[hl,DI _ _ _ h2,uo,η (by show j.place 0≠i;rw[bW];omega)]
   exact h.get i (by rw[←h.cH];exact h1) h2
  have hend:at' j.cM.1.l (cV j.s (d9 0 fr))=ag:=by
   rw[hl,DI _ _ _ U,uo,Φ bW]
  have gD:∀w∈[(1-j.k,aQ j.aE)],w.1<j.cM.1.l.length∧w.2.length=256:=by
   intro w hw;rw[Mo] at hw;subst hw;exact⟨by show 1-j.k<_;rw[hlen];omega,gB _⟩
  have Oy:=fun c=>oQ.Lw hhome (by have:=h.he;omega) c
  rw[←sI] at Oy;rcases af.hM _ j.cM.1 hb gD with ⟨a2,b2,c2,e2⟩|⟨a2,b2,c2,k2,e2⟩
  ·left
   have a2':j.cW.2=0:=a2;rw[η (by rw[a2'];simp)]
   have fF:j.cW.1.l=iK j.cM.1.l (1-j.k,aQ j.aE) 256:=by
    have:j.cW.1.l=iw j.cM.1.l (j.cM.1.p++[(1-j.k,aQ j.aE)]):=c2;rw[this,hp,N0,Qa _ _ (gD _ (Mo.2 rfl)).1 mg.l (gD _ (Mo.2 rfl)).2]
   have iq:j.cW.1.p=[]:=e2;have jM:∀i,at' j.cW.1.l i=if 1-j.k=i then aQ j.aE else at' j.cM.1.l i:=fun i=>by
    rw[fF,yX _ _ _ _ (gD _ (Mo.2 rfl)).1];by_cases hi:1-j.k=i
    ·subst hi
     rw[Φ rfl,Φ rfl,Mp (by rw[gB];exact Ω _),Pr (by rw[af.d8 mg.l (by rw[hlen];omega)];exact Ω _),NF]
    ·rw[η hi,η hi]
   have PV:eR j.cW.1.l j.aE (1-j.k) [] C:=by
    rcases Oy 256 with hb1|hb1
    ·exfalso
     obtain⟨_,_,_,_,aU⟩:=hb1.hother;rw[←fF,jM,Φ rfl,sI] at aU;exact aU rfl
    ·rw[fF];exact hb1.1
   have LG:j.cW.1.l.length=j.d.l.length:=by rw[fF,dh,hlen]
   have hg:∀i,2+lg≤i→i<j.cW.1.l.length→j.cW.1.get i=C i:=fun i h1 h2=>by
    unfold af.get;rw[iq];show at' j.cW.1.l i=C i;have:=h.cH;rw[jM,η U];exact hhome i U U
   have rD:j.aE.e=j.s.e+1:=by rw[sI];rfl
   refine⟨rfl,⟨⟨af.dm mg _,b2,PV,?_,by show j.aE.e≤_;rw[rD];have:=h.he;omega,?_,by show j.next≤_;have:=h.im;omega,rfl,fun w hw=>by rw[show(JL.d _:af).p=[] from iq] at hw;simp at hw,hg⟩,?_,?_,by rw[show(JL.d _:af).p=[] from iq];simp⟩,iq,?_⟩
   ·show j.aE.log=lg
    rw[sI];exact h.cH
   ·show j.next=j.aE.s+0
    rfl
   ·show iu (at' j.cW.1.l (1-(1-j.k))) j.aE
    rw[jM,η U,show 1-(1-j.k)=j.k by omega,oQ.kO]
    exact .inr ⟨j.s,oQ.ok.1,rfl,by rw[rD];omega⟩
   ·show at' j.cW.1.l (cV j.aE 0)=ag
    have e:cV j.aE 0=cV j.s (d9 0 fr):=by
     rw[sI];show 2+((j.s.place+d9 0 fr)%j.s.log+0)%j.s.log=2+(j.s.place+d9 0 fr)%j.s.log;rw[UI,Nat.mod_mod]
    rw[e,jM,η U];exact hend
   ·intro hf
    have h1:=(af.ib _ j.d h.live hf eO).2;exact(af.ib _ j.cM.1 hb h1 gD).2
  ·right
   have a2':j.cW.2=4:=a2;rw[Φ (by rw[a2'];decide)]
   refine⟨a2',b2,af.dm mg _,?_,?_⟩
   ·intro l' hi
    have fF:j.cW.1.l=j.cM.1.l:=c2;have iq:j.cW.1.p=[(1-j.k,aQ j.aE)].take k2:=by
     have:j.cW.1.p=j.cM.1.p++[(1-j.k,aQ j.aE)].take k2:=e2;rw[this,hp,N0]
    have pK:Img j.cM.1.l ([(1-j.k,aQ j.aE)].take k2) l':=by rw[←fF,←iq];exact hi
    have hnK:=h.im;have hn:=h.hnext;have heK:=h.he;rcases FY pK with rfl|⟨c,rfl⟩
    ·exact⟨C,rfl,j.s,j.k,fr,oQ,h.cH,U,U⟩
    ·rcases Oy c with hb1|hb1
     ·exact⟨C,rfl,j.s,j.k,fr,hb1,h.cH,U,U⟩
     ·refine⟨C,rfl,_,_,_,hb1.1,h.cH,?_,?_⟩
      ·rw[sI];show j.s.e+1≤_;omega
      ·rw[sI];show j.s.s+fr.length+0≤_;omega
   ·intro hf
    have h1:=(af.ib _ j.d h.live hf eO).2;have h2:=(af.ib _ j.cM.1 hb h1 gD).1;have:j.cW.2=0:=h2;rw[this] at a2';exact absurd a2' Z
 ·right
  have a':j.cM.2=4:=a;rw[Φ (by rw[a'];decide)]
  refine⟨a',b,af.dm h.ok _,(h.mn _ (fun w hw=>LD w (vJ hw)) j.cM.1 c e).mono U (fun _ h=>h),fun hf=>?_⟩
  have:=(af.ib _ j.d h.live hf eO).1;have h2:j.cM.2=0:=this;rw[h2] at a';exact absurd a' Z
def bT(C:Nat→Bytes)(ws:List WrL):Nat→Bytes:=fun i=>bH ws i (C i)
theorem uz(p:List WrL)(w:WrL)(s:Bytes)(hw:w∈p)(h:∀x∈p,x.1=w.1→x.2=w.2):bH p w.1 s=w.2:=by
 obtain⟨x,hx,h1,h2⟩:=sQ p w.1 s ⟨w,hw,rfl⟩;rw[h2];exact h x hx h1
theorem vK(j:JL)(ws:List WrL)(w:WrL):w∈j.ed ws↔∃i,i≤ws.length∧w=(j.place (i+1),(ws.map (·.2)++[ag]).getD i []):=by
 unfold JL.ed;constructor
 ·intro h
  obtain⟨x,hx,rfl⟩:=MD.1 h;have Jq:=acX.1 hx;have ay:x.2<ws.length+1:=by
   have:=(NX.1 Jq).1;simpa using this
  exact⟨x.2,U,by rw[LR,Jq];rfl⟩
 ·rintro⟨i,hi,rfl⟩
  refine MD.2 ⟨((ws.map (·.2)++[ag]).getD i [],i),?_,rfl⟩
  rw[acX];have ay:i<(ws.map (·.2)++[ag]).length:=by simp;omega
  show(ws.map (·.2)++[ag])[i]?=some ((ws.map (·.2)++[ag]).getD i [])
  rw[LR,LN ay];rfl
theorem A3(s:Bytes)(hs:s.length=256)(c:Nat)(hc:c<256):(s.take c++ag.drop c).drop 252≠du:=by
 intro h;have h3:((s.take c++ag.drop c).drop 252)[3]?=some 69:=by rw[h];rfl
 rw[Up,OF (by simp[hs];omega)] at h3
 simp only[L4,hs,Up,ag,Ss] at h3;rw[Φ U] at h3;exact absurd h3 Z
theorem Db:ag.drop 252≠du:=by unfold ag;decide +kernel
theorem sU{α:Type}(l:List (List α))(x:List α):(l++[x]).flatten=l.flatten++x:=κ
theorem np{lg K:Nat}{j:JL}{fr:List (List WrL)}{C:Nat→Bytes}(h:JInv lg K j fr C)(ws:List WrL)(hw:sS ws)(hh:∀w∈ws,2+lg≤w.1∧w.1<j.d.l.length)(hroom:ws.length+2≤lg-j.used)(hK:K+3<18446744073709551616):
  ((j.com ws).2=0∧JInv lg (K+1) (j.com ws).1 (fr++[ws]) (bT C ws)∧(j.com ws).1.d.l.length=j.d.l.length) ∨
  ((j.com ws).2=4∧(j.com ws).1.d.dead=true∧(j.com ws).1.d.Ok∧Safe lg (K+1) (j.com ws).1.d (fun D=>D=C∨D=bT C ws)):=by
 have hr:=h.hrec;have wF:=h.cH;have cH:=hr.cH;have ef:=hr.ef;have hk:=hr.hk;have hu:=hr.hchain.used;have pO:=h.gO;have hnK:=h.im;have hn:=h.hnext;have heK:=h.he;have bW:∀m,j.place m=cV j.s (d9 0 fr+m):=h.mC;have om:∀m,2≤j.place m∧j.place m<2+j.s.log:=fun m=>by rw[bW];exact gG j.s _ U
 have RA:∀a b,d9 0 fr+a<j.s.log→d9 0 fr+b<j.s.log→j.place a=j.place b→a=b:=fun a b ha hb e=>by
  rw[bW,bW] at e;have:=yY j.s hr.eV _ _ ha hb e;omega
 have eO:∀w∈j.ed ws,w.1<j.d.l.length∧w.2.length=256:=by
  intro w hx;obtain⟨i,hi,rfl⟩:=(vK j ws w).1 hx;refine⟨by have:=(om (i+1)).2;show j.place (i+1)<_;omega,?_⟩
  show((ws.map (·.2)++[ag]).getD i []).length=256
  refine af.d8 (fun s hs=>?_) (by simp;omega)
  rcases My.1 hs with hs|hs
  ·obtain⟨x,hx,rfl⟩:=MD.1 hs
   exact(hw.2.2 x hx).2
  ·rw[Mo.1 hs];exact jk
 have LD:∀w∈j.ed ws,(w.1<j.d.l.length∧w.2.length=256)∧Allowed j.s fr w:=fun w hx=>⟨eO w hx,by
  obtain⟨i,hi,rfl⟩:=(vK j ws w).1 hx;exact .inr ⟨d9 0 fr+(i+1),U,U,bW _,fun e=>U⟩⟩
 have hlw:∀i,i≤ws.length→∀s,bH (j.ed ws) (j.place (i+1)) s=(ws.map (·.2)++[ag]).getD i []:=fun i hi s=>by
  refine uz (j.ed ws) (j.place (i+1),(ws.map (·.2)++[ag]).getD i []) s ((vK j ws _).2 ⟨i,hi,rfl⟩) (fun x hx e=>?_)
  obtain⟨i2,zq,rfl⟩:=(vK j ws x).1 hx;have:=RA (i2+1) (i+1) U U e;rw[show i2=i by omega]
 have bI:∀i,(i<2∨2+j.s.log≤i∨i=j.place 0)→∀w∈j.ed ws,w.1≠i:=fun i hi w hx e=>by
  obtain⟨m,hm,rfl⟩:=(vK j ws w).1 hx;have:=om (m+1);rcases hi with hi|hi|hi
  ·simp only at e;omega
  ·simp only at e;omega
  ·have:=RA (m+1) 0 U U (by rw[←hi];exact e)
   omega
 unfold JL.com;rcases af.hM _ j.d h.live eO with ⟨a,b,c,e⟩|⟨a,b,c,k,e⟩
 ·have a':(j.cj ws).2=0:=a
  rw[η (by rw[a'];simp)]
  have mg:(j.cj ws).1.Ok:=af.dm h.ok _;have hb:(j.cj ws).1.dead=false:=b;have hl:(j.cj ws).1.l=iw j.d.l (j.d.p++j.ed ws):=c;have hp:(j.cj ws).1.p=[]:=e;have hlen:(j.cj ws).1.l.length=j.d.l.length:=by rw[hl,lY]
  have Y2:∀w∈j.d.p++j.ed ws,w.1<j.d.l.length∧w.2.length=256:=fun w hx=>by
   rcases My.1 hx with hx|hx
   ·exact h.ok.p w hx
   ·exact eO w hx
  have oQ:eR (j.cj ws).1.l j.s j.k fr C:=by
   rw[hl];refine hr.img Y2 (fun w hx=>?_) (oT _ _ h.ok.l Y2)
   rcases My.1 hx with hx|hx
   ·exact h.allowed w hx
   ·exact(LD w hx).2
  have eT:∀i,i<j.d.l.length→at' (j.cj ws).1.l i=bH (j.ed ws) i (bH j.d.p i (at' j.d.l i)):=fun i hi=>by
   rw[hl,DI _ _ _ hi,sP]
  have aa9:∀i,i<2+j.s.log→∀s,bH j.d.p i s=s:=fun i hi s=>dM _ _ _ (fun w hx e=>by have:=(h.pend w hx).1;omega)
  have hhome:∀i,2+j.s.log≤i→i<(j.cj ws).1.l.length→at' (j.cj ws).1.l i=C i:=fun i h1 h2=>by
   rw[hlen] at h2;rw[eT i h2,dM _ _ _ (bI i (.inr (.inl h1)))];exact h.get i U h2
  have abb:at' (j.cj ws).1.l (j.place 0)=ag:=by
   rw[eT _ (by have:=(om 0).2;omega),dM _ _ _ (bI _ (.inr (.inr rfl))),aa9 _ (om 0).2]
   have:=h.hend;rw[pO] at this;rw[bW];exact this
  have LH:∀i,i≤ws.length→at' (j.cj ws).1.l (j.place (i+1))=(ws.map (·.2)++[ag]).getD i []:=fun i hi=>by
   rw[eT _ (by have:=(om (i+1)).2;omega)]
   exact hlw i hi _
  have abd:iu (at' (j.cj ws).1.l (1-j.k)) j.s:=by
   rw[eT _ U,dM _ _ _ (bI _ (.inl U)),aa9 _ U];exact h.old
  have gD:∀w∈[(j.place 0,bK j.next ws)],w.1<(j.cj ws).1.l.length∧w.2.length=256:=by
   intro w hx;rw[Mo] at hx;subst hx;exact⟨by have:=(om 0).2;show j.place 0<_;omega,nD _ _ hw.2.1⟩
  have jM:∀cc i,at' (iK (j.cj ws).1.l (j.place 0,bK j.next ws) cc) i=if j.place 0=i then(bK j.next ws).take cc++(at' (j.cj ws).1.l i).drop cc else at' (j.cj ws).1.l i:=fun cc i=>yX _ _ _ _ (gD _ (Mo.2 rfl)).1
  have ig:=oQ.ok.1;have abe:∀cc,256≤cc→eR (iK (j.cj ws).1.l (j.place 0,bK j.next ws) cc) j.s j.k (fr++[ws]) (bT C ws):=fun cc kR=>by
   have hnext:(jq j.s (fr++[ws])).Ok:=by
    have:=oQ.hmax;have:=Sx (j.s.place+d9 0 (fr++[ws])) (show 0<j.s.log by omega)
    refine⟨?_,?_,?_,?_⟩
    ·show j.s.e+1<_;omega
    ·show j.s.s+(fr++[ws]).length<_;rw[Δ,PR];omega
    ·show j.s.log<_;omega
    ·show(j.s.place+d9 0 (fr++[ws]))%j.s.log<_;omega
   have vQ:∀i,i≠j.place 0→at' (iK (j.cj ws).1.l (j.place 0,bK j.next ws) cc) i=at' (j.cj ws).1.l i:=fun i hi=>by rw[jM,η (Z3 hi)]
   have afy:at' (iK (j.cj ws).1.l (j.place 0,bK j.next ws) cc) (j.place 0)=bK j.next ws:=by
    rw[jM,Φ rfl,Mp (by rw[nD _ _ hw.2.1];exact kR),Pr (by rw[abb,jk];exact kR),NF]
   refine⟨by rw[dh];exact oQ.hmax,vV _ _ _ mg.l (gD _ (Mo.2 rfl)).1 (gD _ (Mo.2 rfl)).2,ef,by rw[dh];omega,hr.eV,hr.he,by rw[Δ,PR];omega,hk,?_,?_,?_,?_⟩
   ·rw[vQ _ (by have:=(om 0).1;omega)];exact oQ.kO
   ·rw[vQ _ (by have:=(om 0).1;omega)]
    exact abd.other hnext (by show j.s.e≤j.s.e+1;omega)
   ·refine Chain.snoc (dh _ _ _) ws hw (fun w hx=>by rw[hlen,wF];exact hh w hx) oQ.hchain (fun m hm=>vQ _ (fun e=>?_)) U (fun i hi=>?_) ?_
    ·rw[bW] at e
     have:=yY j.s hr.eV m (d9 0 fr+0) U U e;omega
    ·rw[←bW,←hn]
     cases i with
     | zero=>rw[afy];rfl
     | succ i =>
      rw[vQ _ (fun e=>by have:=RA (i+1) 0 U U e;omega),LH i U]
      unfold jG;rw[abM,LR,LR,Tb (by simp;omega)]
    ·have:=bW (ws.length+1)
     rw[←Ps] at this;rw[←this,vQ _ (fun e=>by have:=RA (ws.length+1) 0 U U e;omega),LH ws.length (Ω _)]
     rw[LR,OF κ];simp only[NE,abz,We,ZD];exact Db
   ·intro i h1 h2
    rw[dh] at h2;rw[vQ i (by have:=(om 0).2;omega),hhome i h1 h2,sU,sP]
    unfold bT;by_cases hx:∃w∈fr.flatten,w.1=i
    ·congr 1
     rw[Em _ _ _ (at' (j.cj ws).1.l i) hx];exact oQ.hhome i h1 h2
    ·rw[dM _ _ _ (fun w hw e=>hx ⟨w,hw,e⟩)]
  have afz:∀cc,cc<256→eR (iK (j.cj ws).1.l (j.place 0,bK j.next ws) cc) j.s j.k fr C:=fun cc kR=>by
   have vQ:∀i,i≠j.place 0→at' (iK (j.cj ws).1.l (j.place 0,bK j.next ws) cc) i=at' (j.cj ws).1.l i:=fun i hi=>by rw[jM,η (Z3 hi)]
   refine⟨by rw[dh];exact oQ.hmax,vV _ _ _ mg.l (gD _ (Mo.2 rfl)).1 (gD _ (Mo.2 rfl)).2,ef,by rw[dh];omega,hr.eV,hr.he,hr.hs,hk,?_,?_,?_,?_⟩
   ·rw[vQ _ (by have:=(om 0).1;omega)];exact oQ.kO
   ·rw[vQ _ (by have:=(om 0).1;omega)];exact oQ.hother
   ·refine oQ.hchain.ext (dh _ _ _) (fun m hm=>vQ _ (fun e=>?_)) ?_
    ·rw[bW] at e
     have:=yY j.s hr.eV m (d9 0 fr+0) U U e;omega
    ·have:=bW 0
     rw[UI] at this;rw[←this,jM,Φ rfl,abb];exact A3 _ (nD _ _ hw.2.1) cc kR
   ·intro i h1 h2
    rw[dh] at h2;rw[vQ i (by have:=(om 0).2;omega)]
    exact oQ.hhome i h1 h2
  rcases af.hM _ (j.cj ws).1 hb gD with ⟨a2,b2,c2,e2⟩|⟨a2,b2,c2,k2,e2⟩
  ·have a2':(j.cJ ws).2=0:=a2
   rw[η (by rw[a2'];simp)]
   have Bg:(j.cJ ws).1.Ok:=af.dm mg _;have bN:(j.cJ ws).1.dead=false:=b2;have fF:(j.cJ ws).1.l=iK (j.cj ws).1.l (j.place 0,bK j.next ws) 256:=by
    have:(j.cJ ws).1.l=iw (j.cj ws).1.l ((j.cj ws).1.p++[(j.place 0,bK j.next ws)]):=c2;rw[this,hp,N0,Qa _ _ (gD _ (Mo.2 rfl)).1 mg.l (gD _ (Mo.2 rfl)).2]
   have iq:(j.cJ ws).1.p=[]:=e2;have LG:(j.cJ ws).1.l.length=j.d.l.length:=by rw[fF,dh,hlen]
   have PV:eR (j.cJ ws).1.l j.s j.k (fr++[ws]) (bT C ws):=by rw[fF];exact abe 256 (Ω _)
   have vQ:∀i,i≠j.place 0→at' (j.cJ ws).1.l i=at' (j.cj ws).1.l i:=fun i hi=>by rw[fF,jM,η (Z3 hi)]
   have zu:∀w∈ws,w.1<(j.cJ ws).1.l.length∧w.2.length=256:=fun w hx=>⟨by rw[LG];exact(hh w hx).2,(hw.2.2 w hx).2⟩
   have afA:∀w∈ws,Allowed j.s (fr++[ws]) w:=fun w hx=>.inl ⟨by have:=(hh w hx).1;omega,w,by rw[sU];exact abA _ hx,rfl⟩
   rcases af.gE ws (j.cJ ws).1 bN zu with ⟨a3,b3,c3,e3⟩|⟨a3,b3,c3,k3,e3⟩
   ·left
    have nL:(j.eS ws).1.l=(j.cJ ws).1.l:=c3;have Vt:(j.eS ws).1.p=ws:=by
     have:(j.eS ws).1.p=(j.cJ ws).1.p++ws:=e3;rw[this,iq,N0]
    refine⟨a3,⟨⟨af.eN Bg ws,b3,?_,wF,by show j.s.e≤_;omega,?_,?_,?_,?_,?_⟩,?_,?_,by show(j.eS ws).1.p.length≤48;rw[Vt];exact hw.2.1⟩,?_⟩
    ·show eR (j.eS ws).1.l j.s j.k (fr++[ws]) (bT C ws)
     rw[nL];exact PV
    ·show(j.next+1)%_=j.s.s+(fr++[ws]).length
     rw[Δ,PR,OS U];omega
    ·show(j.next+1)%_≤_
     rw[OS U];omega
    ·show j.used+ws.length+1=_
     rw[wT,pO]
    ·intro w hx
     have Jq:w∈ws:=by rw[←Vt];exact hx
     exact⟨(hh w Jq).1,w,by rw[sU];exact abA _ Jq,rfl⟩
    ·intro i h1 h2
     show(j.eS ws).1.get i=_;unfold af.get;rw[Vt,nL];show bH ws i (at' (j.cJ ws).1.l i)=bT C ws i;have zW:i<(j.cJ ws).1.l.length:=by rw[←nL];exact h2
     rw[vQ i (by have:=(om 0).2;omega),hhome i U U]
     rfl
    ·show iu (at' (j.eS ws).1.l (1-j.k)) j.s
     rw[nL,vQ _ (by have:=(om 0).1;omega)];exact abd
    ·show at' (j.eS ws).1.l (cV j.s (j.used+ws.length+1))=ag
     have:=bW (ws.length+1);rw[pO,nL,Ps,←this,vQ _ (fun e=>by have:=RA (ws.length+1) 0 U U e;omega),LH ws.length (Ω _)]
     rw[LR,OF κ];simp
    ·show(j.eS ws).1.l.length=_
     rw[nL,LG]
   ·right
    refine⟨a3,b3,af.eN Bg ws,?_⟩;intro l' hi;have nL:(j.eS ws).1.l=(j.cJ ws).1.l:=c3;have Vt:(j.eS ws).1.p=ws.take k3:=by
     have:(j.eS ws).1.p=(j.cJ ws).1.p++ws.take k3:=e3;rw[this,iq,N0]
    have pK:Img (j.cJ ws).1.l (ws.take k3) l':=by rw[←nL,←Vt];exact hi
    refine⟨_,.inr rfl,j.s,j.k,fr++[ws],PV.img (fun w hx=>zu w (vJ hx)) (fun w hx=>afA w (vJ hx)) pK,wF,U,?_⟩
    rw[Δ,PR];omega
  ·right
   have a2':(j.cJ ws).2=4:=a2;rw[Φ (by rw[a2'];decide)]
   refine⟨a2',b2,af.dm mg _,?_⟩;intro l' hi;have fF:(j.cJ ws).1.l=(j.cj ws).1.l:=c2;have iq:(j.cJ ws).1.p=[(j.place 0,bK j.next ws)].take k2:=by
    have:(j.cJ ws).1.p=(j.cj ws).1.p++[(j.place 0,bK j.next ws)].take k2:=e2;rw[this,hp,N0]
   have pK:Img (j.cj ws).1.l ([(j.place 0,bK j.next ws)].take k2) l':=by rw[←fF,←iq];exact hi
   rcases FY pK with rfl|⟨cc,rfl⟩
   ·exact⟨_,.inl rfl,j.s,j.k,fr,oQ,wF,U,U⟩
   ·by_cases kR:cc<256
    ·exact⟨_,.inl rfl,j.s,j.k,fr,afz cc kR,wF,U,U⟩
    ·exact⟨_,.inr rfl,j.s,j.k,fr++[ws],abe cc U,wF,U,by rw[Δ,PR];omega⟩
 ·right
  have a':(j.cj ws).2=4:=a;rw[Φ (by rw[a'];decide)]
  exact⟨a',b,af.dm h.ok _,(h.toJPre.mn _ (fun w hx=>LD w (vJ hx)) (j.cj ws).1 c e).mono U (fun _ h=>.inl h)⟩
theorem JPre.mono{lg K K':Nat}{j:JL}{fr:List (List WrL)}{C:Nat→Bytes}(h:JPre lg K j fr C)(hk:K≤K'):JPre lg K' j fr C :=
 ⟨h.ok,h.live,h.hrec,h.cH,LS h.he hk,h.hnext,LS h.im hk,h.gO,h.pend,h.get⟩
theorem JInv.mono{lg K K':Nat}{j:JL}{fr:List (List WrL)}{C:Nat→Bytes}(h:JInv lg K j fr C)(hk:K≤K'):JInv lg K' j fr C :=
 ⟨h.toJPre.mono hk,h.old,h.hend,h.eJ⟩
theorem af.fw(d:af)(ws:List WrL):(d.lays ws).1.l.length=d.l.length:=by
 unfold af.lays;split
 ·rw[af.qu,af.gg]
 ·exact af.gg _ _
theorem JL.ki(j:JL):j.cz.1.d.l.length=j.d.l.length:=by
 unfold JL.cz JL.cW JL.cM;split
 ·exact af.fw _ _
 ·split
  ·show(af.lays _ _).1.l.length=_
   rw[af.fw,af.fw]
  ·show(af.lays _ _).1.l.length=_
   rw[af.fw,af.fw]
theorem JL.nj(j:JL)(ws:List WrL):(j.com ws).1.d.l.length=j.d.l.length:=by
 unfold JL.com JL.eS JL.cJ JL.cj;split
 ·exact af.fw _ _
 ·split
  ·show(af.lays _ _).1.l.length=_
   rw[af.fw,af.fw]
  ·show(af.writes _ _).1.l.length=_
   rw[af.gg,af.fw,af.fw]
theorem JL.fh(j:JL)(ws:List WrL):(j.bj ws).1.d.l.length=j.d.l.length:=by
 unfold JL.bj;split
 ·split
  ·exact j.ki
  ·rw[JL.nj,j.ki]
 ·exact j.nj ws
theorem Al{lg K:Nat}{j:JL}{fr:List (List WrL)}{C:Nat→Bytes}(h:JInv lg K j fr C)(ws:List WrL)(hw:sS ws)(hh:∀w∈ws,2+lg≤w.1∧w.1<j.d.l.length)(hK:K+4<18446744073709551616):
  ((j.bj ws).2=0∧∃fr',JInv lg (K+2) (j.bj ws).1 fr' (bT C ws)) ∨
  ((j.bj ws).2=4∧(j.bj ws).1.d.dead=true∧(j.bj ws).1.d.Ok∧Safe lg (K+2) (j.bj ws).1.d (fun D=>D=C∨D=bT C ws)):=by
 have wF:=h.cH;have ef:=h.hrec.ef;unfold JL.bj;by_cases hroom:ws.length+2>j.s.log-j.used
 ·rw[Φ hroom]
  rcases Qb h.toJPre U with ⟨a,b,c,_⟩|⟨a,b,c,e,_⟩
  ·rw[η (by rw[a];simp)]
   have hl:=j.ki;have hu:=b.gO;rcases np b ws hw (fun w hx=>by rw[hl];exact hh w hx) (by rw[hu];show _≤lg-0;have:=hw.2.1;omega) U with ⟨a2,b2,_⟩|⟨a2,b2,c2,e2⟩
   ·exact .inl ⟨a2,_,b2⟩
   ·exact .inr ⟨a2,b2,c2,e2⟩
  ·rw[Φ (by rw[a];decide)]
   exact .inr ⟨a,b,c,e.mono U (fun _ h=>.inl h)⟩
 ·rw[η hroom]
  rcases np h ws hw hh U U with ⟨a2,b2,_⟩|⟨a2,b2,c2,e2⟩
  ·exact .inl ⟨a2,_,b2.mono U⟩
  ·exact .inr ⟨a2,b2,c2,e2.mono U (fun _ h=>h)⟩
theorem KH(f:Nat→Bytes)(P:List Bytes)(m:Nat)(h:P.length≤m)(hf:∀i,i<P.length→f i=P.getD i []):∃r,(List.range m).map f=P++r:=by
 refine⟨((List.range m).map f).drop P.length,?_⟩;have e:P=((List.range m).map f).take P.length:=by
  refine List.ext_getElem (by simp;omega) (fun i h1 h2=>?_)
  simp only[abt,ace,ac2];rw[hf i h1,LR,LN h1];rfl
 conv=>rhs;rw[e]
 rw[L4,NE,UT,RE h,OR]
theorem vW{d:af}{lo:Nat}(hp:∀w∈d.p,lo≤w.1)(i:Nat)(hi:i<lo):d.get i=at' d.l i:=dM _ _ _ (fun w hw e=>by have:=hp w hw;omega)
theorem KJ{j:JL}{ws:List WrL}{fr:List (List WrL)}(hl:50≤j.s.log)(hc:Chain j.d.l j.s j.used j.next (ws::fr))(hn:j.next<18446744073709551616)(hp:∀w∈j.d.p,2+j.s.log≤w.1):j.frame=some ws:=by
 obtain⟨h1,h2,h3,h4,_⟩:=hc;have hlen:(jG j.next ws).length=ws.length+1:=by simp[jG]
 obtain⟨r,hr⟩:=KH (fun i=>j.d.get (j.place i)) (jG j.next ws) (min (j.s.log-j.used) 49) (by rw[hlen];have:=h1.2.1;omega) (fun i hi=>by
  show j.d.get (cV j.s (j.used+i))=_;rw[hlen] at hi;rw[vW hp _ (gG j.s _ U).2];exact h4 i U)
 unfold JL.frame;rw[hr,unpack_pack _ hn _ h1];simp only[];rw[Φ ⟨trivial,fun w hw=>h2 w hw⟩]
theorem Nc{j:JL}(hl:50≤j.s.log)(hc:Chain j.d.l j.s j.used j.next [])(hp:∀w∈j.d.p,2+j.s.log≤w.1):j.frame=none:=by
 obtain⟨h1,h2⟩:=hc;obtain⟨m,hm⟩:∃m,min (j.s.log-j.used) 49=m+1:=⟨min (j.s.log-j.used) 49-1,U⟩;have e:eD ((List.range (min (j.s.log-j.used) 49)).map fun i=>j.d.get (j.place i))=none:=by
  rw[hm,abm,No];refine IJ _ _ ?_;show(j.d.get (cV j.s (j.used+0))).drop 252≠du;rw[vW hp _ (gG j.s _ U).2];exact h2
 unfold JL.frame;rw[e]
theorem sg(u:Nat)(fr:List (List WrL)):u+fr.length≤d9 u fr:=by
 induction fr generalizing u with
 | nil=>exact Ω _
 | cons ws fr ih=>rw[qV,Θ];have:=ih (u+ws.length+1);omega
structure jZ (lg K:Nat) (d:af) (s:bu) (k:Nat) (fr:List (List WrL)) (C:Nat→Bytes):Prop where
 ok:d.Ok
 live:d.dead=false
 hrec:eR d.l s k fr C
 cH:s.log=lg
 he:s.e≤K
 hs:s.s+fr.length≤K
 pend:∀w∈d.p,2+lg≤w.1∧∃x∈fr.flatten,x.1=w.1
structure Mid (lg K:Nat) (d:af) (j:JL) (s:bu) (k:Nat) (fr1 fr2:List (List WrL)):Prop where
 ok:j.d.Ok
 live:j.d.dead=false
 hl:j.d.l=d.l
 hp:j.d.p=d.p++fr1.flatten
 hs:j.s=s
 hk:j.k=k
 hn:j.next=s.s+fr1.length
 hu:j.used=d9 0 fr1
 hc:Chain d.l s (d9 0 fr1) (s.s+fr1.length) fr2
 hf:d.b9 = -1→j.d.b9 = -1
theorem Wz{lg K:Nat}{d:af}{s:bu}{k:Nat}{fr:List (List WrL)}{C:Nat→Bytes}(h:jZ lg K d s k fr C)(hK:K+3<18446744073709551616)(m:Nat):
  ∀(fr2 fr1:List (List WrL)) (j:JL),fr=fr1++fr2→Mid lg K d j s k fr1 fr2→fr2.length<m →
   ((JL.cY m j).2=0∧JPre lg K (JL.cY m j).1 fr C∧(d.b9 = -1→(JL.cY m j).1.d.b9 = -1)) ∨
   ((JL.cY m j).2=4∧(JL.cY m j).1.d.dead=true∧(JL.cY m j).1.d.Ok∧Safe lg K (JL.cY m j).1.d (·=C)∧d.b9 ≠ -1):=by
 induction m with
 | zero=>intro fr2 fr1 j _ _ ay;omega
 | succ m ih =>
  intro fr2 fr1 j dQ M ay;have hr:=h.hrec;have cH:=h.cH;have Yn:∀w∈j.d.p,2+lg≤w.1∧∃x∈fr.flatten,x.1=w.1:=fun w hw=>by
   rw[M.hp] at hw;rcases My.1 hw with hw|hw
   ·exact h.pend w hw
   ·obtain⟨ws,hws,RB⟩:=List.mem_flatten.1 hw
    have:=(hr.hchain.ok ws (by rw[dQ];exact Xs _ hws)).2 w RB
    exact⟨U,w,by rw[dQ,Tl];exact Xs _ hw,rfl⟩
  have bW:∀w∈j.d.p,2+j.s.log≤w.1:=fun w hw=>by rw[M.hs,cH];exact(Yn w hw).1
  have kr:=h.hs;have hlen:fr.length=fr1.length+fr2.length:=by rw[dQ,Δ]
  cases fr2 with
  | nil =>
   have MW:fr=fr1:=by rw[dQ,NF]
   rw[JL.cY,Nc (by rw[M.hs];exact hr.ef) (by rw[M.hl,M.hs,M.hu,M.hn];exact M.hc) bW]
   left;refine⟨rfl,⟨M.ok,M.live,?_,by rw[M.hs];exact cH,by rw[M.hs];exact h.he,by rw[M.hn,M.hs,MW],by rw[M.hn];rw[hlen] at kr;omega,by rw[M.hu,MW],Yn,?_⟩,M.hf⟩
   ·rw[M.hl,M.hs,M.hk];exact hr
   ·intro i h1 h2
    rw[M.hl] at h2;unfold af.get;rw[M.hl,M.hp,sP,←MW];by_cases hx:∃x∈fr.flatten,x.1=i
    ·rw[Em _ _ _ (at' d.l i) hx]
     exact hr.hhome i U h2
    ·rw[dM d.p i _ (fun w hw e=>by
      obtain⟨x,sJ,mh⟩:=(h.pend w hw).2;exact hx ⟨x,sJ,mh.trans e⟩)]
     exact hr.hhome i U h2
  | cons ws fr2 =>
   have hc:=M.hc;have kR:Chain j.d.l j.s j.used j.next (ws::fr2):=by rw[M.hl,M.hs,M.hu,M.hn];exact hc
   rw[Θ] at hlen ay;rw[JL.cY,KJ (by rw[M.hs];exact hr.ef) kR (by rw[M.hn];omega) bW]
   simp only[];have hw:∀w∈ws,w.1<j.d.l.length∧w.2.length=256:=fun w hx=>⟨by rw[M.hl];exact(hc.2.1 w hx).2,(hc.1.2.2 w hx).2⟩
   rcases af.gE ws j.d M.live hw with ⟨a,b,c,e⟩|⟨a,b,c,q,e⟩
   ·rw[Φ a]
    refine ih fr2 (fr1++[ws]) _ (by rw[dQ,Mm];rfl) ⟨af.eN M.ok ws,b,c.trans M.hl,?_,M.hs,M.hk,?_,?_,?_,fun hf=>(af.hQ ws j.d M.live (M.hf hf) hw).2⟩ U
    ·show(j.d.writes ws).1.p=_
     rw[e,M.hp,sU,Mm]
    ·show(j.next+1)%_=_
     rw[M.hn,Δ,PR,OS U];omega
    ·show j.used+ws.length+1=_
     rw[wT,M.hu]
    ·rw[wT,Δ,PR]
     exact hc.2.2.2.2
   ·rw[η (by rw[a];decide)]
    right;refine⟨a,b,af.eN M.ok ws,?_,fun hf=>?_⟩
    ·intro l' hi
     have hl:(j.d.writes ws).1.l=d.l:=c.trans M.hl;have pK:Img d.l (j.d.p++ws.take q) l':=by rw[←hl,←e];exact hi
     refine⟨C,rfl,s,k,fr,hr.img (fun w hx=>?_) (fun w hx=>?_) pK,cH,h.he,h.hs⟩
     ·rcases My.1 hx with hx|hx
      ·rw[←M.hl];exact M.ok.p w hx
      ·rw[←M.hl];exact hw w (vJ hx)
     ·rcases My.1 hx with hx|hx
      ·exact .inl (by rw[cH];exact Yn w hx)
      ·refine .inl ⟨(hc.2.1 w (vJ hx)).1,w,?_,rfl⟩
       rw[dQ,Tl,To];exact abA _ (Xs _ (vJ hx))
    ·have:=(af.hQ ws j.d M.live (M.hf hf) hw).1
     rw[this] at a;exact absurd a Z
theorem AP{lg K:Nat}{d:af}{s:bu}{k:Nat}{fr:List (List WrL)}{C:Nat→Bytes}(h:jZ lg K d s k fr C)(hK:K+3<18446744073709551616):
  ((aL d).2=0∧JInv lg (K+1) (aL d).1 [] C∧(aL d).1.d.p=[]∧(d.b9 = -1→(aL d).1.d.b9 = -1)) ∨
  ((aL d).2=4∧(aL d).1.d.dead=true∧(aL d).1.d.Ok∧Safe lg (K+1) (aL d).1.d (·=C)∧d.b9 ≠ -1):=by
 have hr:=h.hrec;have cH:=hr.cH;have ef:=hr.ef;have afB:=hr.pick;have sK:d.get 0=at' d.l 0:=vW (fun w hw=>(h.pend w hw).1) 0 U
 have eT:d.get 1=at' d.l 1:=vW (fun w hw=>(h.pend w hw).1) 1 (by have:=h.cH;omega)
 have hu:=hr.hchain.used;have nk:=sg 0 fr;unfold aL;rw[h.live,η Z,sK,eT,afB];simp only[];have M:Mid lg K d ⟨d,s,k,s.s,0⟩ s k [] fr:=⟨h.ok,h.live,rfl,κ,rfl,rfl,κ,rfl,hr.hchain,fun h=>h⟩
 rcases Wz h hK (s.log+1) fr [] _ rfl M U with ⟨a,b,c⟩|⟨a,b,c,e,f⟩
 ·rw[Φ a]
  rcases Qb b U with ⟨a2,b2,c2,e2⟩|⟨a2,b2,c2,e2,f2⟩
  ·exact .inl ⟨a2,b2,c2,fun hf=>e2 (c hf)⟩
  ·exact .inr ⟨a2,b2,c2,e2,fun hf=>f2 (c hf)⟩
 ·rw[η (by rw[a];decide)]
  exact .inr ⟨a,b,c,e.mono U (fun _ h=>h),f⟩
theorem JPre.open{lg K:Nat}{j:JL}{fr:List (List WrL)}{C:Nat→Bytes}(h:JPre lg K j fr C):jZ lg K j.d j.s j.k fr C :=
 ⟨h.ok,h.live,h.hrec,h.cH,h.he,by rw[←h.hnext];exact h.im,h.pend⟩
end
section
open Go.RowKit
theorem o0{k:IntKind}{a b:Int}(h:a=b):Ending.returned (.int k a)=.returned (.int k b):=by rw[h]
theorem JN{a b:Bool}(h:a=b):Ending.returned (.bool a)=.returned (.bool b):=by rw[h]
theorem GB{a b:List UInt8}(h:a=b):Ending.returned (.string ⟨a.toArray⟩)=.returned (.string ⟨b.toArray⟩):=by rw[h]
theorem int_eq{k:IntKind}{a b:Int}(h:a=b):Value.int k a=.int k b:=by rw[h]
theorem w64b(b:UInt8):wrap64 (b.toNat:Int)=b.toNat:=by
 have:=US b;exact IntWalk.wrap64_in _ U
theorem Ep(b j:Nat):(⟨b,0,none⟩:Addr).add j=⟨b,j,none⟩:=by unfold Addr.add;split<;>simp_all
theorem Hn{P:Program}(W:World)(t ty:TypeId)(base:Nat)(e e':TypeId)(i:TypeInfo)(z:Value)(size bytes:Nat)(ht:P.underlying t=some (.slice e))(hi:P.info? e=some i)(hz:i.zero=some z)
  (iE:i.size=size) (iT:i.bytes=bytes) (jl:z.cells.size=size) (bP:0<size) (rE:0<bytes)
  (v:Value) (n:Nat) (xs:List Value) (aF:W.ownsRow base e size v n xs)
  (news:Array Value) (hl:news.size=size) (h1:∀u∈news.toList,u.oneCell'=true) (hb:(n+1)*bytes≤140737488355328) (fP:base≤W.heap.size) :
  ∃g cap w',(Builtin.append_ #[t,t] ty #[v,.slice (some ⟨W.heap.size,0,none⟩) 1 1]).run P (W.alloc (.cells news e'))=.ok (.slice (some ⟨g,0,none⟩) (n+1) cap) w' ∧
   w'.ownsRow base e size (.slice (some ⟨g,0,none⟩) (n+1) cap) (n+1) (xs++news.toList)∧W.grownBy w' v.ownBlock∧(v.ownBlock=some g∨W.heap.size<g)∧g<w'.heap.size∧W.heap.size<w'.heap.size:=by
 have DY:n+1≤maxLen:=by
  have:=adA (n+1) rE;simp only[maxLen];omega
 obtain⟨g,cap,w',hr,h2,h3,h4,h5⟩:=run_append_lies (P:=P) (W.alloc (.cells news e')) t ty base e i z size bytes ht hi hz iE iT jl bP v n xs (aF.alloc _) ⟨W.heap.size,0,none⟩ 1 1 news.toList (by simpa using hl)
  (fun j u hj=>by
   rw[Ep];simp only[World.cell?,heap_alloc_new];simpa using hj) h1 U DY hb (by simp;omega) (W.heap.size+1) κ
 refine⟨g,cap,w',hr,h2,⟨h3.os.trans rfl,h3.tape.trans rfl,h3.output.trans rfl,by have:=h3.size;simp at this;omega,fun k hk aU=>?_⟩,h4.imp id (fun h=>U),h5,by have:=h3.size;simp at this;omega⟩
 rw[h3.block k (by simp;omega) aU,Below.heap_alloc _ _ _ hk]
theorem bG{P:Program}(W:World){ops:Array Oper}{rest:List Oper}{o:Oper}{a:Act}{Q:Exit→Act→World→Prop}(pQ:o.guard=none)(s x:Operand)(t:TypeId)
  (ho:o.op=.call { callee:=.builtin .append,args:=#[s,x],argTypes:=#[t,t] })
  (base:Nat) (e e':TypeId) (i:TypeInfo) (z:Value) (size bytes:Nat) (ht:P.underlying t=some (.slice e)) (hi:P.info? e=some i) (hz:i.zero=some z)
  (iE:i.size=size) (iT:i.bytes=bytes) (jl:z.cells.size=size) (bP:0<size) (rE:0<bytes)
  (v:Value) (n:Nat) (xs:List Value) (hs:a.eval s=v) (aF:W.ownsRow base e size v n xs)
  (news:Array Value) (hx:a.eval x=.slice (some ⟨W.heap.size,0,none⟩) 1 1) (hl:news.size=size) (h1:∀u∈news.toList,u.oneCell'=true)
  (hb:(n+1)*bytes≤140737488355328) (fP:base≤W.heap.size)
  (h:∀g cap w',w'.ownsRow base e size (.slice (some ⟨g,0,none⟩) (n+1) cap) (n+1) (xs++news.toList)→W.grownBy w' v.ownBlock→(v.ownBlock=some g∨W.heap.size<g)→g<w'.heap.size→W.heap.size<w'.heap.size →
   wpList P ops Q rest (a.put o.dst (.slice (some ⟨g,0,none⟩) (n+1) cap)) w'):wpList P ops Q (o::rest) a (W.alloc (.cells news e')):=by
 obtain⟨g,cap,w',hr,h2,h3,h4,h5,h6⟩:=Hn (P:=P) W t o.type base e e' i z size bytes ht hi hz iE iT jl bP rE v n xs aF news hl h1 hb fP;refine wpList_plain pQ fun _ hK=>?_
 unfold Oper.wp execOp;simp only[ho,resolve,invoke,builtin,Sem.run_bind,Sem.run_pure,Result.andThen_ok,abC,No,VC,hs,hx,hr];exact hK _ _ (h g cap w' h2 h3 h4 h5 h6)
theorem bD{B base:Nat}{w0 W w':World}{v:Value}{e:TypeId}{size n:Nat}{xs:List Value}(hb:Below B w0 W)(aF:W.ownsRow base e size v n xs)(hg:W.grownBy w' v.ownBlock)(hB:B≤base)(hW:B≤W.heap.size):Below B w0 w' :=
 hb.grown hg hW (fun k hk=>by have:=(aF.lt k hk).1;omega)
theorem Am{base:Nat}{W w':World}{v:Value}{e:TypeId}{size n:Nat}{xs:List Value}(aF:W.ownsRow base e size v n xs)(hg:W.grownBy w' v.ownBlock){p:Addr}{u:Value}(hp:p.block<base)(hc:W.cell? p=some u):w'.cell? p=some u :=
 hg.cell hc (fun h=>by have:=(aF.lt p.block h.symm).1;omega)
theorem aY{w:World}{base:Nat}{e:TypeId}{size:Nat}{v:Value}{n:Nat}{xs:List Value}(h:w.ownsRow base e size v n xs):∃a cap,v=.slice a n cap∧(0<n→∃g,a=some ⟨g,0,none⟩):=by
 rcases h.2 with ⟨rfl,rfl⟩|⟨g,cap,cur,rfl,_⟩
 ·exact⟨none,0,rfl,fun h=>U⟩
 ·exact⟨_,cap,rfl,fun _=>⟨g,rfl⟩⟩
theorem ownsRow_below{w w':World}{base:Nat}{e:TypeId}{size:Nat}{v:Value}{n:Nat}{xs:List Value}(h:w.ownsRow base e size v n xs)(hb:Below w.heap.size w w'):w'.ownsRow base e size v n xs :=
 h.kept (row:=none) ⟨hb.os,hb.tape,hb.output,hb.size,fun k hk _=>hb.block k hk⟩ (by cases v.ownBlock<;>simp)
theorem eY(s:List UInt8)(a b:Nat):({ data:=s.toArray }:ByteArray).extract a b=⟨((s.drop a).take (b-a)).toArray⟩:=by
 apply ByteArray.ext;rw[ByteArray.data_extract];simp[List.take_drop]
theorem fI(s:List UInt8)(a:Nat):({ data:=s.toArray }:ByteArray).extract a s.length=⟨(s.drop a).toArray⟩:=by
 rw[eY,Mp (by rw[L5];omega)]
theorem uD(s:List UInt8)(a:Nat):({ data:=s.toArray }:ByteArray).extract 0 a=⟨(s.take a).toArray⟩:=by
 rw[eY];simp
theorem Dc{k:IntKind}{x v:Int}{y:ByteArray}{r:List UInt8}{b:Bool}(h1:x=v)(h2:y=⟨r.toArray⟩):
  Ending.returned (.tuple #[.int k x,.string y,.bool b])=.returned (.tuple #[.int k v,.string ⟨r.toArray⟩,.bool b]):=by rw[h1,h2]
theorem Uv{x y:ByteArray}{q r:List UInt8}{b:Bool}(h1:x=⟨q.toArray⟩)(h2:y=⟨r.toArray⟩):
  Ending.returned (.tuple #[.string x,.string y,.bool b])=.returned (.tuple #[.string ⟨q.toArray⟩,.string ⟨r.toArray⟩,.bool b]):=by rw[h1,h2]
theorem bytes_append(a b:List UInt8):({ data:=a.toArray }:ByteArray)++{ data:=b.toArray }=⟨(a++b).toArray⟩:=by
 apply ByteArray.ext;simp
theorem Hd{p:Prop}(h:p):RowKit.Hid p:=Lib.hid h
def bit(l:List UInt8)(i:Nat):Bool:=(l.getD (i / 8) 0).toNat.testBit (i%8)
def mH(l:List UInt8)(i:Int):Bool:=decide (0≤i)&&bit l i.toNat
theorem xj(l:List UInt8)(i:Nat)(h:8*l.length≤i):bit l i=false:=by
 unfold bit;rw[LR,adV U];simp
theorem Qc(l:List UInt8)(i:Int)(h:i<0):mH l i=false:=by
 simp[mH];omega
theorem oX(l:List UInt8)(i:Int)(h:8*l.length≤i):mH l i=false:=by
 unfold mH;rw[xj _ _ U];simp
theorem gQ(l:List UInt8)(i:Nat):mH l i=bit l i:=by simp[mH]
theorem CI(x k:Nat)(hx:x<256):(bits BinOp.and IntKind.u8 ((x:Int) / 2 ^ k) 1==1)=x.testBit k:=by
 have h1:((x:Int) / 2 ^ k)=((x / 2 ^ k:Nat):Int):=κ;have h2:x / 2 ^ k<256:=aem (Nat.div_le_self _ _) hx;rw[h1];have:=u8_and_nat (x / 2 ^ k) 1 h2 U;rw[show((1:Nat):Int)=1 from rfl] at this
 rw[this,aer,ach];by_cases h:x / 2 ^ k%2=1
 ·simp[h]
 ·have:x / 2 ^ k%2=0:=U
  rw[this];simp
theorem oi(l:List UInt8)(i:Int)(hi:0≤i)(h:(i / 8).toNat<l.length):
  mH l i=(l[(i / 8).toNat]).toNat.testBit (i%8).toNat:=by
 unfold mH bit;have e1:i.toNat / 8=(i / 8).toNat:=U;have e2:i.toNat%8=(i%8).toNat:=U;rw[e1,e2,LR,LN h];simp[hi]
theorem Uw(x k:Nat):((x / 2 ^ k:Nat):Int) / 2=((x / 2 ^ (k+1):Nat):Int):=by
 rw[YY,←Nat.div_div_eq_div_mul];rfl
theorem Ux(x k:Nat):(((x / 2 ^ k:Nat):Int)%2==1)=x.testBit k:=by
 rw[ach,abR];generalize x / 2 ^ k=y;rw[MY,decide_eq_true_iff];omega
def cA(w:World)(B:Nat)(l:List UInt8):Prop :=
 ∃cur e lo hi,w.heap[B]?=some (.cells cur e (lo,hi))∧(hi≤lo∨l.length≤lo)∧∀j (_:j<l.length),cur[j]?=some (.int .u8 l[j].toNat)
theorem cA.cell{w:World}{B:Nat}{l:List UInt8}(h:cA w B l)(j:Nat)(hj:j<l.length):w.cell? ⟨B,j,none⟩=some (.int .u8 l[j].toNat):=by
 obtain⟨cur,e,lo,hi,h1,h2,h3⟩:=h;simp[World.cell?,h1,h3 j hj]
theorem cA.frozen{w:World}{B:Nat}{l:List UInt8}(h:cA w B l)(j:Nat)(hj:j<l.length):w.frozen? ⟨B,j,none⟩=false:=by
 obtain⟨cur,e,lo,hi,h1,h2,h3⟩:=h;simp[World.frozen?,h1];omega
theorem cA.at{w:World}{B:Nat}{l:List UInt8}(h:cA w B l)(j:Nat)(hj:j<l.length):∃x:Nat,x<256∧Hid ((l.getD j 0).toNat=x)∧w.cell? ⟨B,j,none⟩=some (.int .u8 x)∧w.frozen? ⟨B,j,none⟩=false :=
 ⟨l[j].toNat,US _,by unfold Hid;rw[LR,LN hj];rfl,h.cell j hj,h.frozen j hj⟩
theorem cA.set{w:World}{B:Nat}{l:List UInt8}(h:cA w B l)(j:Nat)(v:Int)(x:UInt8)(hv:v=x.toNat):cA (w.setCell ⟨B,j,none⟩ (.int .u8 v)) B (l.set j x):=by
 obtain⟨cur,e,lo,hi,h1,h2,h3⟩:=h;subst hv;refine⟨cur.setIfInBounds j (.int .u8 x.toNat),e,lo,hi,?_,by simpa using h2,?_⟩
 ·simp[World.setCell,T0,h1]
 ·intro k hk
  have Oz:k<l.length:=by simpa using hk
  rw[Array.getElem?_setIfInBounds];have:=h3 k Oz;have hs:k<cur.size:=(Sp.1 this).1;by_cases e:j=k
  ·subst e;simp[hs]
  ·simp[e,this]
theorem cA.made(w:World)(l:List UInt8)(cap:Nat)(e:TypeId):cA (w.alloc (.cells (bytesRow ⟨l.toArray⟩ cap) e ((bytesRow ⟨l.toArray⟩ cap).size,(bytesRow ⟨l.toArray⟩ cap).size+1))) w.heap.size l:=by
 refine⟨_,_,_,_,heap_alloc_new w _,Or.inr (by simp[bytesRow]),?_⟩
 intro j hj;have:=bytesRow_at ⟨l.toArray⟩ cap j (by simpa using hj)
 simpa using this
theorem cA.back{P:Program}{w:World}{B:Nat}{l:List UInt8}(h:cA w B l)(src dst e:TypeId)(cap:Nat)(hs:P.underlying src=some (.slice e))(he:P.underlying e=some (.int .u8))(hd:P.underlying dst=some .string):
  (convert src dst (.slice (some ⟨B,0,none⟩) l.length cap)).run P w=.ok (.string ⟨l.toArray⟩) w :=
 run_convert_bytes_back w src dst e _ cap l hs he hd (fun j hj=>by
  have:(⟨B,0,none⟩:Addr).add j=⟨B,j,none⟩:=by unfold Addr.add;split<;>simp_all
  rw[this];exact h.cell j hj)
def lN(x k:Nat)(on:Bool):Nat:=if on then x ||| 2 ^ k else x &&& (255-2 ^ k)
def qg(l:List UInt8)(i:Nat)(on:Bool):List UInt8:=l.set (i / 8) (UInt8.ofNat (lN (l.getD (i / 8) 0).toNat (i%8) on))
def bF(l:List UInt8)(start:Nat)(on:Bool):Nat→List UInt8
 | 0=>l
 | k+1=>qg (bF l start on k) (start+k) on
theorem Pv(l:List UInt8)(i:Nat)(on:Bool):(qg l i on).length=l.length:=by simp[qg]
theorem jL(l:List UInt8)(s:Nat)(on:Bool)(k:Nat):(bF l s on k).length=l.length:=by
 induction k with
 | zero=>rfl
 | succ k ih=>rw[bF,Pv,ih]
theorem IL(k:Nat)(hk:k<8):((2:Int) ^ k%256)=((2 ^ k:Nat):Int):=by
 have h:∀k:Fin 8,((2:Int) ^ k.val%256)=((2 ^ k.val:Nat):Int):=Z;exact h ⟨k,hk⟩
theorem uE(k:Nat)(hk:k<8):2 ^ k<256:=by
 have h:∀k:Fin 8,2 ^ k.val<256:=Z;exact h ⟨k,hk⟩
theorem uF(x k:Nat)(on:Bool)(hx:x<256)(hk:k<8):lN x k on<256:=by
 unfold lN;split
 ·exact Nat.or_lt_two_pow (n:=8) hx (uE k hk)
 ·exact aem Nat.and_le_left hx
theorem zj(x k:Nat)(hx:x<256)(hk:k<8):(x &&& (255-2 ^ k)) ||| 2 ^ k=x ||| 2 ^ k:=by
 have h:∀(x:Fin 256) (k:Fin 8),(x.val &&& (255-2 ^ k.val)) ||| 2 ^ k.val=x.val ||| 2 ^ k.val:=by decide +kernel
 exact h ⟨x,hx⟩ ⟨k,hk⟩
theorem Er(x k:Nat)(hx:x<256)(hk:k<8):bits BinOp.andNot IntKind.u8 (x:Int) (2 ^ k%256)=((lN x k false:Nat):Int):=by
 rw[IL k hk,u8_andNot_nat _ _ hx (uE k hk)];rfl
theorem xF(x k:Nat)(hx:x<256)(hk:k<8):bits BinOp.or IntKind.u8 (bits BinOp.andNot IntKind.u8 (x:Int) (2 ^ k%256)) (2 ^ k%256)=((lN x k true:Nat):Int):=by
 rw[Er x k hx hk,IL k hk,u8_or_nat _ _ (uF x k false hx hk) (uE k hk)];unfold lN;simp[zj x k hx hk]
theorem set_set(l:List UInt8)(i:Nat)(a b:UInt8):(l.set i a).set i b=l.set i b:=κ
theorem ofNat_toNat(n:Nat)(h:n<256):((UInt8.ofNat n).toNat:Int)=n:=by
 rw[aai];omega
def fA(l:List UInt8)(n:Int):Nat:=(max 0 (min n (8*l.length))).toNat
theorem vX(l:List UInt8)(n:Int):fA l n≤8*l.length:=by unfold fA;omega
theorem KL(l:List UInt8)(n:Int):((fA l n:Nat):Int)=max 0 (min n (8*l.length)):=by unfold fA;omega
def cnt(l:List UInt8):Nat→Nat
 | 0=>0
 | k+1=>cnt l k+if bit l k then 0 else 1
theorem KM(l:List UInt8)(k:Nat):cnt l k≤k:=by
 induction k with
 | zero=>exact Ω _
 | succ k ih=>rw[cnt];split<;>omega
def jN(n:Int):List UInt8:=if 1≤n∧n≤32768 then List.replicate ((n+7) / 8).toNat 0 else []
theorem cA.zeros(w:World)(n:Nat)(e:TypeId):cA (w.alloc (.cells (madeCells #[.int .u8 0] n) e)) w.heap.size (List.replicate n 0):=by
 refine⟨_,_,_,_,heap_alloc_new w _,Or.inl (Ω _),?_⟩;intro j hj;have xR:j<n:=by simpa using hj
 simp[madeCells,xR,Nat.mod_one]
theorem If(x k:Nat)(on:Bool)(hx:x<256)(hk:k<8)(h:(x.testBit k==on)=false):x ^^^ 2 ^ k=lN x k on:=by
 have h':∀(x:Fin 256) (k:Fin 8) (on:Bool),(x.val.testBit k.val==on)=false→x.val ^^^ 2 ^ k.val=lN x.val k.val on:=by decide +kernel
 exact h' ⟨x,hx⟩ ⟨k,hk⟩ on h
theorem AF(x k:Nat)(on:Bool)(hx:x<256)(hk:k<8)(h:(x.testBit k==on)=true):x=lN x k on:=by
 have h':∀(x:Fin 256) (k:Fin 8) (on:Bool),(x.val.testBit k.val==on)=true→x.val=lN x.val k.val on:=by decide +kernel
 exact h' ⟨x,hx⟩ ⟨k,hk⟩ on h
def bump:List (Nat×Nat)→List (Nat×Nat)
 | []=>[]
 | [r]=>[(r.1,r.2+1)]
 | r::rs=>r::bump rs
def aK(l:List UInt8):Nat→List (Nat×Nat)
 | 0=>[]
 | k+1=>if bit l k then aK l k else if 0<k∧bit l (k-1)=false then bump (aK l k) else aK l k++[(k,1)]
def ext(rs:List (Nat×Nat)):List Value:=rs.flatMap fun r=>[.int .i64 r.1,.int .i64 r.2]
theorem jO(rs:List (Nat×Nat)):(ext rs).length=rs.length*2:=by
 induction rs with
 | nil=>rfl
 | cons r rs ih=>simp only[ext,NO,Δ] at ih ⊢;simp at ih ⊢;omega
theorem jP(a b:List (Nat×Nat)):ext (a++b)=ext a++ext b:=by simp[ext]
theorem FZ(rs:List (Nat×Nat))(j:Nat)(h:j<rs.length):(ext rs)[2*j]?=some (.int .i64 rs[j].1)∧(ext rs)[2*j+1]?=some (.int .i64 rs[j].2):=by
 induction rs generalizing j with
 | nil=>simp at h
 | cons r rs ih =>
  cases j with
  | zero=>simp[ext]
  | succ j =>
   have:=ih j (by simpa using h)
   have e:ext (r::rs)=.int .i64 r.1::.int .i64 r.2::ext rs:=by simp[ext]
   rw[e];have e2:2*(j+1)=2*j+1+1:=U;rw[e2];simpa using this
theorem Uy(rs:List (Nat×Nat)):(bump rs).length=rs.length:=by
 induction rs with
 | nil=>rfl
 | cons r rs ih=>cases rs with
  | nil=>rfl
  | cons q qs=>simp only[bump,Θ] at ih ⊢;omega
theorem oC(l:List UInt8)(k:Nat):(aK l k).length≤k:=by
 induction k with
 | zero=>exact Ω _
 | succ k ih =>
  rw[aK];split
  ·omega
  ·split
   ·rw[Uy];omega
   ·simp;omega
theorem sV(rs:List (Nat×Nat))(r:Nat×Nat):bump (rs++[r])=rs++[(r.1,r.2+1)]:=by
 induction rs with
 | nil=>rfl
 | cons q qs ih =>
  rw[Of];cases h:qs++[r] with
  | nil=>simp at h
  | cons a az =>
   rw[h] at ih;simp only[bump,ih,Of]
theorem Uz(l:List UInt8)(k:Nat)(h:bit l k=false):∃rs r,aK l (k+1)=rs++[r]∧r.1+r.2=k+1∧1≤r.2:=by
 induction k with
 | zero=>exact⟨[],(0,1),by simp[aK,h],U,U⟩
 | succ k ih =>
  rw[aK,h];by_cases hk:bit l k=false
  ·obtain⟨rs,r,e,h1,h2⟩:=ih hk
   rw[e];refine⟨rs,(r.1,r.2+1),?_,by simp;omega,κ⟩
   simp[hk,sV]
  ·exact⟨aK l (k+1),(k+1,1),by simp[hk],U,U⟩
theorem ob(rs:List (Nat×Nat))(r1 r2:Nat):(ext rs++ext [(r1,r2)]).set (rs.length*2+1) (.int .i64 ((r2:Int)+1))=ext (rs++[(r1,r2+1)]):=by
 rw[jP,abB _ _ (by rw[jO];omega),jO]
 have:rs.length*2+1-rs.length*2=1:=U;rw[this];simp[ext]
end
end Go.Proofs.YtbkahhebmpehnaaGreatDoor
