/- Joined: FilT to FilM -/
import Derived.Test.YtbkahhebmpehnaaGreatDoorCXWBlkB
set_option linter.all false
set_option maxRecDepth 100000
set_option maxHeartbeats 8000000
namespace Go.Proofs.YtbkahhebmpehnaaGreatDoor
section
structure FsL where
 st:StL
 l:List ax
 packed:Bytes
structure bz (K:Nat) (φ:FsL) (fr:List (List WrL)) (C:Nat→Bytes):Prop where
 st:cg K φ.st fr C
 closed:φ.st.open_=false
 good:sD φ.st.n C φ.l
 packed:φ.packed=bR φ.l
abbrev TxR:=StL×Int×List ax
def FsL.cq(φ:FsL)(r:StL→TxR):FsL×Int :=
 if φ.st.begin.2≠0 then({ φ with st:=φ.st.begin.1.abort },φ.st.begin.2) else
 if (r φ.st.begin.1).2.1≠0 then({ φ with st:=(r φ.st.begin.1).1.abort },(r φ.st.begin.1).2.1) else
 if (r φ.st.begin.1).1.bj.2≠0 then({ φ with st:=(r φ.st.begin.1).1.bj.1.abort },(r φ.st.begin.1).1.bj.2)
 else(⟨(r φ.st.begin.1).1.bj.1,(r φ.st.begin.1).2.2,bR (r φ.st.begin.1).2.2⟩,0)
structure TxI (K:Nat) (fr:List (List WrL)) (C:Nat→Bytes) (τ σ:StL):Prop where
 st:cg K σ fr C
 op:σ.open_=true
 j:σ.j=τ.j
theorem yG{K:Nat}{σ:StL}{fr:List (List WrL)}{C:Nat→Bytes}(h:cg K σ fr C)(hc:σ.open_=false):σ.begin.2=0∧TxI K fr C σ σ.begin.1∧σ.begin.1.tx=[]∧σ.begin.1.ai=σ.ai:=by
 have e:σ.begin=({ σ with open_:=true,was:=σ.ai },0):=by
  unfold StL.begin;rw[Au h,Φ hc,η κ]
 have hi:=xf h;rw[e] at hi ⊢;exact⟨rfl,⟨hi,rfl,rfl⟩,h.closed hc,rfl⟩
section
variable {K:Nat} {φ:FsL} {fr:List (List WrL)} {C:Nat→Bytes} {r:StL→TxR}
theorem oS(aC:cg K φ.st fr C)(hc:φ.st.open_=false)(hK:K+4<18446744073709551616)(he:(r φ.st.begin.1).2.1=0)(ht:TxI K fr C φ.st (r φ.st.begin.1).1)(hg:sD φ.st.n (bT C (r φ.st.begin.1).1.tx) (r φ.st.begin.1).2.2):
  ((φ.cq r).2=0∧(∃fr',bz (K+2) (φ.cq r).1 fr' (bT C (r φ.st.begin.1).1.tx))∧(φ.cq r).1.l=(r φ.st.begin.1).2.2∧(φ.cq r).1.st.n=φ.st.n∧(φ.st.j.d.Free→(φ.cq r).1.st.j.d.Free)) ∨
  ((φ.cq r).2=4∧(φ.cq r).1.st.dead=true∧(φ.cq r).1.l=φ.l∧(φ.cq r).1.st.n=φ.st.n∧¬φ.st.j.d.Free∧Two (K+2) φ.st.n (φ.cq r).1.st.j.d C (bT C (r φ.st.begin.1).1.tx)):=by
 obtain⟨b0,_⟩:=yG aC hc;have hn:=fq ht.j;have hfree:φ.st.j.d.Free→(r φ.st.begin.1).1.bj.1.j.d.Free:=fun hf=>by
  rw[←ht.j] at hf;unfold StL.bj;split
  ·exact hf
  ·split
   ·exact hf
   ·split<;>exact JL.fS hf _
 unfold FsL.cq;rw[η (by rw[b0];simp),η (by rw[he];simp)]
 have He:=AM (r φ.st.begin.1).1;rcases UD ht.st hK with ⟨e,⟨fr',i⟩,o,_⟩|⟨e,_,o⟩|⟨e,i1,i2,i3,i4,i5,i6⟩
 ·left
  rw[η (by rw[e];simp)]
  have hN:(r φ.st.begin.1).1.bj.1.n=φ.st.n:=by rw[He,hn]
  refine⟨rfl,⟨fr',i,o,?_,rfl⟩,rfl,hN,hfree⟩;show sD (r φ.st.begin.1).1.bj.1.n _ _;rw[hN];exact hg
 ·rw[ht.op] at o;exact absurd o Z
 ·right
  rw[Φ (by rw[e];decide)]
  have ha:(r φ.st.begin.1).1.bj.1.abort.j=(r φ.st.begin.1).1.bj.1.j:=oR _;have hh:=aC.good;refine⟨e,?_,rfl,?_,?_,?_⟩
  ·show(r φ.st.begin.1).1.bj.1.abort.j.d.dead=true
   rw[ha];exact i1
  ·show(r φ.st.begin.1).1.bj.1.abort.n=_
   rw[IP,He,hn]
  ·rw[←ht.j];exact i5
  ·show Two (K+2) φ.st.n (r φ.st.begin.1).1.bj.1.abort.j.d C _
   rw[ha];rw[hn] at i3 i4;exact⟨i2,i3,hh,i4,i6⟩
theorem An(h:bz K φ fr C)(he:(r φ.st.begin.1).2.1≠0)(ht:TxI K fr C φ.st (r φ.st.begin.1).1):
  (φ.cq r).2=(r φ.st.begin.1).2.1∧bz K (φ.cq r).1 fr C∧(φ.cq r).1.l=φ.l∧(φ.cq r).1.st.j=φ.st.j:=by
 obtain⟨b0,_⟩:=yG h.st h.closed;unfold FsL.cq;rw[η (by rw[b0];simp),Φ he]
 have ha:(r φ.st.begin.1).1.abort.j=φ.st.j:=(oR _).trans ht.j;refine⟨rfl,⟨sE ht.st,WE _,?_,h.packed⟩,rfl,ha⟩;show sD (r φ.st.begin.1).1.abort.n _ _;rw[fq ha];exact h.good
end
def piece(b:Bytes)(n:Nat):Nat→Option (Nat×Nat)
 | 0=>none
 | k+1=>match fK b (k+1) n with|some a=>some (a,k+1)|none=>piece b n k
def su(x:List (Nat×Nat))(a k:Nat):List (Nat×Nat) :=
 match x.getLast? with
 | some e=>if e.1+e.2=a then x.dropLast++[(e.1,e.2+k)] else x++[(a,k)]
 | none=>[(a,k)]
def StL.de(σ:StL)(x:List (Nat×Nat)):Nat→Nat→StL×Int×List (Nat×Nat)
 | 0,_=>(σ,0,x)
 | m+1,n=>if n=0 then(σ,0,x) else match piece σ.ai σ.n n with
  | none=>(σ,9,x)
  | some (a,k)=>(σ.bh a k true).1.de (su x a k) m (n-k)
def StL.grow(σ:StL)(x:List (Nat×Nat))(n:Nat):StL×Int×List (Nat×Nat) :=
 if (σ.de x n n).2.1≠0 then σ.de x n n else if 16<(σ.de x n n).2.2.length then((σ.de x n n).1,9,(σ.de x n n).2.2) else σ.de x n n
def xq(t:Bytes):Bytes:=t++bg (256-t.length)
def dU:List Nat→Bytes→List WrL
 | [],_=>[]
 | b::bs,d=>(b,xq (d.take 256))::dU bs (d.drop 256)
theorem yP(x y:List (Nat×Nat)):aT (x++y)=aT x++aT y:=Sf
theorem A8(a k:Nat):aT [(a,k)]=List.range' a k:=by simp[aT]
theorem B8(x:List (Nat×Nat))(a k:Nat):aT (su x a k)=aT x++List.range' a k:=by
 unfold su;cases hl:x.getLast? with
 | none =>
  have:x=[]:=abW.1 hl;subst this;rw[A8];rfl
 | some e =>
  simp only[];split
  ·rename_i he
   obtain⟨ys,rfl⟩:=adk.1 hl;rw[XN,yP,yP,A8,Mm];congr 1;rw[show aT [e]=List.range' e.1 e.2 from A8 _ _,←he,List.range'_append_1]
  ·rw[yP,A8]
theorem QK{x:List (Nat×Nat)}{a k:Nat}{first n:Nat}(h:∀e∈x,1≤e.2∧first≤e.1∧e.1+e.2≤n)(hk:1≤k)(h1:first≤a)(h2:a+k≤n):∀e∈su x a k,1≤e.2∧first≤e.1∧e.1+e.2≤n:=by
 intro e he;unfold su at he;cases hl:x.getLast? with
 | none =>
  rw[hl] at he;obtain rfl:=Mo.1 he;exact⟨hk,h1,h2⟩
 | some y =>
  rw[hl] at he;simp only[] at he;have hy:=h y (acA hl);split at he
  ·rcases My.1 he with he|he
   ·exact h e (ad3 _ he)
   ·obtain rfl:=Mo.1 he
    simp only;omega
  ·rcases My.1 he with he|he
   ·exact h e he
   ·obtain rfl:=Mo.1 he
    exact⟨hk,h1,h2⟩
theorem Xk{b:Bytes}{n k a c:Nat}(h:piece b n k=some (a,c)):1≤c∧c≤k∧fK b c n=some a:=by
 induction k with
 | zero=>simp[piece] at h
 | succ k ih =>
  rw[piece] at h;cases hf:fK b (k+1) n with
  | some a' =>
   rw[hf] at h;simp only[M3,QR] at h;obtain⟨rfl,rfl⟩:=h;exact⟨U,Ω _,hf⟩
  | none =>
   rw[hf] at h;obtain⟨h1,h2,h3⟩:=ih h;exact⟨h1,U,h3⟩
theorem GM{K:Nat}{τ:StL}{fr:List (List WrL)}{C:Nat→Bytes}(m:Nat):∀{σ:StL} {x:List (Nat×Nat)} {n:Nat},TxI K fr C τ σ→fO σ→n≤m→(∀i,i<ak σ.n+12→bit σ.ai i=true) →
  (∀e∈x,1≤e.2∧ak σ.n+12≤e.1∧e.1+e.2≤σ.n) →
  TxI K fr C τ (σ.de x m n).1∧fO (σ.de x m n).1∧((σ.de x m n).2.1=9∨(σ.de x m n).2.1=0∧(∀e∈(σ.de x m n).2.2,1≤e.2∧ak σ.n+12≤e.1∧e.1+e.2≤σ.n) ∧
   ∃new,aT (σ.de x m n).2.2=aT x++new∧new.length=n∧new.Nodup∧(∀i∈new,ak σ.n+12≤i∧i<σ.n∧bit σ.ai i=false)∧∀j,bit (σ.de x m n).1.ai j=if j∈new then true else bit σ.ai j):=by
 induction m with
 | zero =>
  intro σ x n h hm hn hb hx;obtain rfl:n=0:=U;exact⟨h,hm,.inr ⟨rfl,hx,[],by simp[StL.de],rfl,ac1,κ,fun j=>by simp[StL.de]⟩⟩
 | succ m ih =>
  intro σ x n h hm hn hb hx;rw[StL.de];by_cases hz:n=0
  ·rw[Φ hz]
   exact⟨h,hm,.inr ⟨rfl,hx,[],κ,by rw[hz];rfl,ac1,κ,fun j=>κ⟩⟩
  ·rw[η hz]
   cases hp:piece σ.ai σ.n n with
   | none=>exact⟨h,hm,.inl rfl⟩
   | some ac =>
    obtain⟨a,c⟩:=ac;simp only[];obtain⟨p1,p2,p3⟩:=Xk hp;have jy:=AY h.st h.op hm c p1;rw[p3] at jy;obtain⟨_,q1,q2,q3⟩:=jy;obtain⟨t0,t1,t2,t3,t4,t5⟩:=yF h.st h.op hm a c true q1 q2;have kV:=fq t4;have qa:ak σ.n+12≤a:=by
     refine ad5.1 (fun ay=>?_)
     have h1:=hb a ay;rw[q3 a (Ω _) U] at h1;exact absurd h1 Z
    obtain⟨i1,i2,i3⟩:=ih (σ:=(σ.bh a c true).1) (x:=su x a c) (n:=n-c) ⟨t2,t3,t4.trans h.j⟩ t5 U (fun i hi=>by rw[t1];rw[kV] at hi;split;rfl;exact hb i hi) (by rw[kV];exact QK hx p1 qa q2)
    refine⟨i1,i2,?_⟩;rcases i3 with i3|⟨i3,i4,new,j1,j2,j3,j4,j5⟩
    ·exact .inl i3
    ·right
     rw[kV] at i4 j4;have hfree:∀i∈new,¬(a≤i∧i<a+c):=fun i hi hc=>by
      have:=(j4 i hi).2.2;rw[t1,Φ hc] at this;exact absurd this Z
     refine⟨i3,i4,List.range' a c++new,by rw[j1,B8,Mm],by rw[Δ,WF,j2];omega,?_,fun i hi=>?_,fun j=>?_⟩
     ·refine PT.2 ⟨adh,j3,fun i hi k hk e=>?_⟩
      subst e;exact hfree i hk (Su.1 hi)
     ·rcases My.1 hi with hi|hi
      ·have hi:=Su.1 hi
       exact⟨U,U,q3 i hi.1 hi.2⟩
      ·obtain⟨k1,k2,k3⟩:=j4 i hi
       rw[t1,η (hfree i hi)] at k3;exact⟨k1,k2,k3⟩
     ·rw[j5,t1]
      by_cases h1:j∈new
      ·rw[Φ h1,Φ (My.2 (.inr h1))]
      ·rw[η h1]
       by_cases h2:a≤j∧j<a+c
       ·rw[Φ h2,Φ (My.2 (.inl (Su.2 h2)))]
       ·rw[η h2,η (fun hx=>(My.1 hx).elim (fun hx=>h2 (Su.1 hx)) h1)]
end
section
def ax.sealed(f:ax):ax:={ f with sl:=true }
def ax.named(f:ax)(s:Bytes):ax:={ f with name:=s }
theorem tH{l m:List ax}(h:l.Sublist m):(fD l).Sublist (fD m):=by
 induction h with
 | slnil=>exact W6 _
 | cons a _ ih=>rw[gJ];exact ih.trans (List.sublist_append_right _ _)
 | cons_cons a _ ih=>rw[gJ,gJ];exact(W6 _).append ih
def K9(n:Nat)(b:Bytes)(l:List ax):Prop:=∀i,ak n≤i→i<n→(bit b i=true↔i<ak n+12∨i∈fD l)
def Res(K:Nat)(fr:List (List WrL))(C:Nat→Bytes)(φ:FsL)(x:FsL×Int)(l':List ax)(P:(Nat→Bytes)→Prop)(R:Prop):Prop :=
 (x.2=0∧∃fr' D,bz (K+2) x.1 fr' D∧x.1.l=l'∧x.1.st.n=φ.st.n∧(φ.st.j.d.Free→x.1.st.j.d.Free)∧P D) ∨
 (x.2=4∧x.1.st.dead=true∧x.1.l=φ.l∧x.1.st.n=φ.st.n∧¬φ.st.j.d.Free∧∃D,Two (K+2) φ.st.n x.1.st.j.d C D∧sD φ.st.n D l'∧P D) ∨
 (x.2=9∧bz K x.1 fr C∧x.1.l=φ.l∧x.1.st.j=φ.st.j∧R)
section
variable {K:Nat} {φ:FsL} {fr:List (List WrL)} {C:Nat→Bytes} {r:StL→TxR}
theorem Gn(h:bz K φ fr C)(hK:K+4<18446744073709551616)(l':List ax)(P:(Nat→Bytes)→Prop)(R:Prop)
  (hr:((r φ.st.begin.1).2.1=0∧TxI K fr C φ.st (r φ.st.begin.1).1∧sD φ.st.n (bT C (r φ.st.begin.1).1.tx) l'∧(r φ.st.begin.1).2.2=l'∧P (bT C (r φ.st.begin.1).1.tx))∨((r φ.st.begin.1).2.1=9∧TxI K fr C φ.st (r φ.st.begin.1).1∧R)) :
  Res K fr C φ (φ.cq r) l' P R:=by
 rcases hr with ⟨a,b,c,d,e⟩|⟨a,b,c⟩
 ·subst d
  rcases oS h.st h.closed hK a b c with ⟨x1,⟨fr',x2⟩,x3,x4,x5⟩|⟨x1,x2,x3,x4,x5,x6⟩
  ·exact .inl ⟨x1,fr',_,x2,x3,x4,x5,e⟩
  ·exact .inr (.inl ⟨x1,x2,x3,x4,x5,_,x6,c,e⟩)
 ·obtain⟨x1,x2,x3,x4⟩:=An h (by rw[a];decide) b
  exact .inr (.inr ⟨x1.trans a,x2,x3,x4,c⟩)
theorem bz.eM(h:bz K φ fr C):K9 φ.st.n φ.st.ai φ.l:=fun i h1 h2=>by
 rw[h.st.now,h.st.closed h.closed];exact h.good.used i h1 h2
theorem bz.low(h:bz K φ fr C)(i:Nat)(hi:i<ak φ.st.n+12):bit φ.st.ai i=true:=by
 by_cases hl:i<ak φ.st.n
 ·exact h.st.map.low i hl
 ·exact(h.eM i U (by have:=h.good.room;omega)).2 (.inl hi)
end
def qm(φ:FsL)(σ:StL)(l':List ax):TxR:=((σ.dir φ.packed l').1,(σ.dir φ.packed l').2,l')
section
variable {K:Nat} {φ:FsL} {fr:List (List WrL)} {C:Nat→Bytes} {σ:StL}
theorem A9(h:bz K φ fr C)(ht:TxI K fr C φ.st σ)(hs:σ.tx.length≤36)(l':List ax)(hd:cN (ak φ.st.n+12) φ.st.n l')(hu:K9 φ.st.n σ.ai l')
  (hc:∀i,i<12→bT C σ.tx (ak φ.st.n+i)=C (ak φ.st.n+i)) (P:(Nat→Bytes)→Prop) (hP:∀D:Nat→Bytes,(∀i,ak φ.st.n+12≤i→D i=bT C σ.tx i)→P D) :
  ((qm φ σ l').2.1=0∧TxI K fr C φ.st (qm φ σ l').1∧sD φ.st.n (bT C (qm φ σ l').1.tx) l'∧(qm φ σ l').2.2=l'∧P (bT C (qm φ σ l').1.tx))∨((qm φ σ l').2.1=9∧TxI K fr C φ.st (qm φ σ l').1∧iA l'=false):=by
 have hn:=fq ht.j;cases hf:iA l' with
 | false =>
  right;have e:σ.dir φ.packed l'=(σ,9):=by unfold StL.dir;rw[hf];rfl
  unfold qm;rw[e];exact⟨rfl,ht,rfl⟩
 | true =>
  left;obtain⟨b1,b2,b3,b4,b5,b6,b7⟩:=ui ht.st ht.op hs (by rw[hn];exact h.good.room) φ.packed l' hf
   (fun i hi=>(hu _ (by rw[hn];omega) (by have:=h.good.room;rw[hn];omega)).2 (.inl (by rw[hn];omega)))
   (.inr (fun i hi=>by rw[hn,hc i hi,h.packed];exact h.good.dir i hi))
  rw[hn] at b6 b7;have kV:(σ.dir φ.packed l').1.n=φ.st.n:=(fq b5).trans hn;refine⟨b1,⟨b2,b3,b5.trans ht.j⟩,⟨h.good.room,hd,hf,b6,fun i h1 h2=>?_⟩,rfl,hP _ b7⟩
  have hm:=b2.now;rw[kV] at hm;show bit (kD φ.st.n (bT C (σ.dir φ.packed l').1.tx)) i=true↔_;rw[←hm,b4];exact hu i h1 h2
theorem bz.start(h:bz K φ fr C):TxI K fr C φ.st φ.st.begin.1∧φ.st.begin.1.tx=[]∧φ.st.begin.1.ai=φ.st.ai:=(yG h.st h.closed).2
def wu(φ:FsL)(s:Bytes)(σ:StL):TxR:=qm φ σ (jE φ.l ⟨s,false,0,[]⟩)
def Ca(φ:FsL)(i:Nat)(f:ax)(σ:StL):TxR:=qm φ σ (φ.l.set i f.sealed)
def rZ(φ:FsL)(i:Nat)(f:ax)(σ:StL):TxR :=
 if (σ.bo f.ext).2≠0 then((σ.bo f.ext).1,(σ.bo f.ext).2,φ.l) else qm φ (σ.bo f.ext).1 (φ.l.eraseIdx i)
def eZ(l:List ax)(s:Bytes):List ax:=if isF l s then l.eraseIdx (aA l s) else l
def jg(l:List ax)(s:Bytes):List (Nat×Nat):=if isF l s then((l[aA l s]?).map ax.ext).getD [] else []
def r9(φ:FsL)(i:Nat)(f:ax)(tO:Bytes)(σ:StL):TxR :=
 if (σ.bo (jg (φ.l.eraseIdx i) tO)).2≠0 then((σ.bo (jg (φ.l.eraseIdx i) tO)).1,(σ.bo (jg (φ.l.eraseIdx i) tO)).2,φ.l)
 else qm φ (σ.bo (jg (φ.l.eraseIdx i) tO)).1 (jE (eZ (φ.l.eraseIdx i) tO) (f.named tO))
def iY(σ:StL)(f:ax):Bytes:=if f.size%256=0 then [] else(σ.get (f.bl.getD (f.size / 256) 0)).take (f.size%256)
def dW(f:ax)(d:Bytes)(x:List (Nat×Nat)):ax:={ f with size:=f.size+d.length,ext:=x }
def oF(φ:FsL)(i:Nat)(f:ax)(d:Bytes)(σ:StL):TxR :=
 if (σ.grow f.ext (cB (f.size+d.length)-f.bl.length)).2.1≠0 then((σ.grow f.ext (cB (f.size+d.length)-f.bl.length)).1,(σ.grow f.ext (cB (f.size+d.length)-f.bl.length)).2.1,φ.l) else
 if ((σ.grow f.ext (cB (f.size+d.length)-f.bl.length)).1.writes (dU ((aT (σ.grow f.ext (cB (f.size+d.length)-f.bl.length)).2.2).drop (f.size / 256)) (iY σ f++d))).2≠0
 then(((σ.grow f.ext (cB (f.size+d.length)-f.bl.length)).1.writes (dU ((aT (σ.grow f.ext (cB (f.size+d.length)-f.bl.length)).2.2).drop (f.size / 256)) (iY σ f++d))).1,((σ.grow f.ext (cB (f.size+d.length)-f.bl.length)).1.writes (dU ((aT (σ.grow f.ext (cB (f.size+d.length)-f.bl.length)).2.2).drop (f.size / 256)) (iY σ f++d))).2,φ.l)
 else qm φ ((σ.grow f.ext (cB (f.size+d.length)-f.bl.length)).1.writes (dU ((aT (σ.grow f.ext (cB (f.size+d.length)-f.bl.length)).2.2).drop (f.size / 256)) (iY σ f++d))).1 (φ.l.set i (dW f d (σ.grow f.ext (cB (f.size+d.length)-f.bl.length)).2.2))
def Same(C D:Nat→Bytes)(l:List ax):Prop:=∀i∈fD l,D i=C i
theorem IE(h:bz K φ fr C)(hm:fO σ)(hn:σ.n=φ.st.n)(D:Nat→Bytes)(hD:∀i,ak φ.st.n+12≤i→D i=bT C σ.tx i):Same C D φ.l:=fun i hi=>by
 have:=(h.good.ok.mem hi).1
 rw[hD i this,AX hm i (by rw[hn];omega)]
theorem La(h:bz K φ fr C)(hK:K+4<18446744073709551616)(s:Bytes)(hs:iM s=true)(hn:isF φ.l s=false)(hm:φ.l.length<64):
  Res K fr C φ (φ.cq (wu φ s)) (jE φ.l ⟨s,false,0,[]⟩) (fun D=>Same C D φ.l) (iA (jE φ.l ⟨s,false,0,[]⟩)=false):=by
 obtain⟨ht,h0,h1⟩:=h.start;have hp:=wh φ.l ⟨s,false,0,[]⟩;have ha:fD (⟨s,false,0,[]⟩::φ.l)=fD φ.l:=rfl;have ny:fO φ.st.begin.1:=by unfold fO;rw[h0];simp
 refine Gn h hK _ _ _ (A9 h ht (by rw[h0];simp) _ (cN.gR (fun f hf=>?_) (EC h.good.ok.rise _ hn) hp (by rw[Θ];omega) (by rw[ha];exact h.good.ok.apart)) (fun i a b=>?_) (fun i hi=>by rw[h0];rfl) _ (fun D hD=>IE h ny (fq ht.j) D hD))
 ·rcases MA.1 hf with rfl|hf
  ·exact⟨hs,L0 _,L0 _,κ,(show(0:Nat)=cB 0 by decide)⟩
  ·exact h.good.ok.ok f hf
 ·rw[h1,(jf hp).mem_iff,ha];exact h.eM i a b
theorem QL(h:bz K φ fr C)(hK:K+4<18446744073709551616)(i:Nat)(hi:i<φ.l.length):
  Res K fr C φ (φ.cq (Ca φ i φ.l[i])) (φ.l.set i φ.l[i].sealed) (fun D=>Same C D φ.l) (iA (φ.l.set i φ.l[i].sealed)=false):=by
 obtain⟨ht,h0,h1⟩:=h.start;have hp:=set_perm hi φ.l[i].sealed;have iq:=mZ hi;have ha:fD (φ.l[i].sealed::φ.l.eraseIdx i)=fD (φ.l[i]::φ.l.eraseIdx i):=rfl;have ny:fO φ.st.begin.1:=by unfold fO;rw[h0];simp
 refine Gn h hK _ _ _ (A9 h ht (by rw[h0];simp) _ (cN.gR (fun f hf=>?_) (JZ h.good.ok.rise i hi φ.l[i].sealed rfl) hp (by have:=iq.length_eq;have:=h.good.ok.few;simp only[Θ] at *;omega) (by rw[ha];exact(jf iq).nodup_iff.1 h.good.ok.apart)) (fun k a b=>?_) (fun i hi=>by rw[h0];rfl) _ (fun D hD=>IE h ny (fq ht.j) D hD))
 ·rcases MA.1 hf with rfl|hf
  ·have:=h.good.ok.ok _ (LO hi)
   exact⟨this.name,this.size,this.few,this.ext,this.need⟩
  ·exact h.good.ok.ok f (Ts hf)
 ·rw[h1,(jf hp).mem_iff,ha,←(jf iq).mem_iff];exact h.eM k a b
theorem Dk(h:bz K φ fr C)(f:ax)(hf:f∈φ.l):
  (φ.st.begin.1.bo f.ext).2=0∧TxI K fr C φ.st (φ.st.begin.1.bo f.ext).1∧fO (φ.st.begin.1.bo f.ext).1∧∀j,bit (φ.st.begin.1.bo f.ext).1.ai j=if j∈f.bl then false else bit φ.st.ai j:=by
 obtain⟨ht,h0,h1⟩:=h.start;have ny:fO φ.st.begin.1:=by unfold fO;rw[h0];simp
 have hn:=fq ht.j;have ho:=h.good.ok.ok f hf;have oZ:∀i∈aT f.ext,i∈fD φ.l:=fun i hi=>Pi.2 ⟨f,hf,hi⟩
 obtain⟨a,b,c,d,e,g⟩:=I9 f.ext ht.st ht.op ny (fun x hx=>by have:=ho.ext x hx;rw[hn];omega) (h.good.ok.apart.sublist (by have:=tH (ab9.2 hf);rwa [show fD [f]=aT f.ext from NF _] at this)) (fun i hi=>by
  have hr:=h.good.ok.mem (oZ i hi);rw[h1];exact(h.eM i U hr.2).2 (.inr (oZ i hi)))
 exact⟨a,⟨c,d,e.trans ht.j⟩,g,fun j=>by rw[b,h1];rfl⟩
theorem J4{l:List ax}{i:Nat}(hi:i<l.length)(hn:(fD l).Nodup)(k:Nat):k∈fD (l.eraseIdx i)↔k∈fD l∧k∉l[i].bl:=by
 have hp:=jf (mZ hi);rw[hp.mem_iff,gJ,My];have lU:=hp.nodup_iff.1 hn;rw[gJ] at lU;have h3:=(PT.1 lU).2.2;exact⟨fun hk=>⟨.inr hk,fun hx=>h3 k hx k hk rfl⟩,fun hk=>hk.1.resolve_left hk.2⟩
theorem vr(h:bz K φ fr C){i:Nat}(hi:i<φ.l.length){b:Bytes}(hb:∀j,bit b j=if j∈φ.l[i].bl then false else bit φ.st.ai j):K9 φ.st.n b (φ.l.eraseIdx i):=fun k h1 h2=>by
 rw[hb,J4 hi h.good.ok.apart]
 have hu:=h.eM k h1 h2
 by_cases hx:k∈φ.l[i].bl
 ·have:=(h.good.ok.ok _ (LO hi)).mem hx
  rw[Φ hx]
  exact⟨fun x=>absurd x Z,fun x=>x.elim (fun x=>U) (fun x=>absurd hx x.2)⟩
 ·rw[η hx,hu]
  exact⟨fun x=>x.elim .inl (fun x=>.inr ⟨x,hx⟩),fun x=>x.elim .inl (fun x=>.inr x.1)⟩
theorem cN.erase{first n:Nat}{l:List ax}(h:cN first n l)(i:Nat):cN first n (l.eraseIdx i):=by
 have hs:=Se l i;exact⟨LS hs.length_le h.few,h.rise.sublist hs,fun f hf=>h.ok f (hs.subset hf),h.apart.sublist (tH hs)⟩
theorem Lb(h:bz K φ fr C)(hK:K+4<18446744073709551616)(i:Nat)(hi:i<φ.l.length):
  Res K fr C φ (φ.cq (rZ φ i φ.l[i])) (φ.l.eraseIdx i) (fun D=>Same C D φ.l) (iA (φ.l.eraseIdx i)=false):=by
 obtain⟨a,b,c,d⟩:=Dk h φ.l[i] (LO hi);refine Gn h hK _ _ _ ?_;unfold rZ;rw[η (by rw[a];simp)]
 have hn:=fq b.j;exact A9 h b (by have:=qY b.st c;omega) _ (h.good.ok.erase i) (vr h hi d) (fun k hk=>AX c _ (by rw[hn];omega)) _ (fun D hD=>IE h c hn D hD)
theorem J5{first n:Nat}{l:List ax}(h:cN first n l)(s:Bytes):cN first n (eZ l s)∧isF (eZ l s) s=false∧(∀f∈eZ l s,f∈l)∧∀f∈l,f.name≠s→f∈eZ l s:=by
 unfold eZ;cases hx:isF l s with
 | false=>exact⟨h,hx,fun f hf=>hf,fun f hf _=>hf⟩
 | true =>
  obtain⟨hk,e⟩:=aaf hx;refine⟨h.erase _,?_,fun f hf=>Ts hf,fun f hf aU=>?_⟩
  ·refine ab5.2 (fun hc=>?_)
   obtain⟨f,hf,rF⟩:=(IC (h.erase _).rise s).1 hc;exact NT h.rise hk f hf (rF.trans e.symm)
  ·obtain⟨k,kW,rfl⟩:=PH hf
   exact acK.2 ⟨k,kW,fun e2=>by subst e2;exact aU e,rfl⟩
theorem Lc(h:bz K φ fr C)(hK:K+4<18446744073709551616)(i:Nat)(hi:i<φ.l.length)(tO:Bytes)(ho:iM tO=true)(aU:φ.l[i].name≠tO):
  Res K fr C φ (φ.cq (r9 φ i φ.l[i] tO)) (jE (eZ (φ.l.eraseIdx i) tO) (φ.l[i].named tO)) (fun D=>Same C D φ.l) (iA (jE (eZ (φ.l.eraseIdx i) tO) (φ.l[i].named tO))=false):=by
 have he:=h.good.ok.erase i;obtain⟨l1,l2,l3,l4⟩:=J5 he tO;have hp:=wh (eZ (φ.l.eraseIdx i) tO) (φ.l[i].named tO);have zA:=mZ hi;have Tw:(fD ((φ.l[i].named tO)::eZ (φ.l.eraseIdx i) tO)).Nodup:=by
  have h1:=(jf zA).nodup_iff.1 h.good.ok.apart;refine h1.sublist ?_;rw[gJ,gJ];refine aef (W6 _) (tH ?_);unfold eZ;split
  ·exact Se _ _
  ·exact W6 _
 have hd:cN (ak φ.st.n+12) φ.st.n (jE (eZ (φ.l.eraseIdx i) tO) (φ.l[i].named tO)):=by
  refine cN.gR (fun f hf=>?_) (EC l1.rise _ l2) hp ?_ Tw
  ·rcases MA.1 hf with rfl|hf
   ·have:=h.good.ok.ok _ (LO hi)
    exact⟨ho,this.size,this.few,this.ext,this.need⟩
   ·exact l1.ok f hf
  ·have h1:=zA.length_eq;have h2:=h.good.ok.few
   have h3:(eZ (φ.l.eraseIdx i) tO).length≤(φ.l.eraseIdx i).length:=by
    unfold eZ;split
    ·exact(Se _ _).length_le
    ·exact Ω _
   rw[Θ] at h1 ⊢;omega
 obtain⟨a,b,c,d⟩:(φ.st.begin.1.bo (jg (φ.l.eraseIdx i) tO)).2=0∧TxI K fr C φ.st (φ.st.begin.1.bo (jg (φ.l.eraseIdx i) tO)).1∧fO (φ.st.begin.1.bo (jg (φ.l.eraseIdx i) tO)).1∧K9 φ.st.n (φ.st.begin.1.bo (jg (φ.l.eraseIdx i) tO)).1.ai (jE (eZ (φ.l.eraseIdx i) tO) (φ.l[i].named tO)):=by
  have hui:∀k,k∈fD (jE (eZ (φ.l.eraseIdx i) tO) (φ.l[i].named tO))↔k∈φ.l[i].bl∨k∈fD (eZ (φ.l.eraseIdx i) tO):=fun k=>by
   rw[(jf hp).mem_iff,gJ,My];rfl
  have nk:∀k,k∈fD φ.l↔k∈φ.l[i].bl∨k∈fD (φ.l.eraseIdx i):=fun k=>by
   rw[(jf zA).mem_iff,gJ,My]
  cases hx:isF (φ.l.eraseIdx i) tO with
  | false =>
   have e1:jg (φ.l.eraseIdx i) tO=[]:=by unfold jg;rw[hx];rfl
   have e2:eZ (φ.l.eraseIdx i) tO=φ.l.eraseIdx i:=by unfold eZ;rw[hx];rfl
   obtain⟨ht,h0,h1⟩:=h.start;rw[e1];refine⟨rfl,ht,by unfold fO;show ∀w∈φ.st.begin.1.tx,_;rw[h0];simp,fun k a b=>?_⟩
   show bit φ.st.begin.1.ai k=true↔_;rw[hui,e2,←nk,h1];exact h.eM k a b
  | true =>
   obtain⟨hk,e⟩:=aaf hx;have e1:jg (φ.l.eraseIdx i) tO=((φ.l.eraseIdx i)[aA (φ.l.eraseIdx i) tO]'hk).ext:=by unfold jg;rw[hx,Φ rfl,LN hk];rfl
   have e2:eZ (φ.l.eraseIdx i) tO=(φ.l.eraseIdx i).eraseIdx (aA (φ.l.eraseIdx i) tO):=by unfold eZ;rw[hx];rfl
   obtain⟨a,b,c,d⟩:=Dk h _ (Ts (LO hk));rw[e1];refine⟨a,b,c,fun k h1 h2=>?_⟩
   rw[d,hui,e2,J4 hk he.apart];have hu:=h.eM k h1 h2;have hu2:=nk k;have bI:k∈((φ.l.eraseIdx i)[aA (φ.l.eraseIdx i) tO]'hk).bl→k∈fD (φ.l.eraseIdx i):=fun hx=>Pi.2 ⟨_,LO hk,hx⟩
   have aaO:=(J4 hi h.good.ok.apart k);by_cases hy:k∈((φ.l.eraseIdx i)[aA (φ.l.eraseIdx i) tO]'hk).bl
   ·have h3:=bI hy
    have h4:=(he.mem h3).1;have h5:=(aaO.1 h3).2;rw[Φ hy];exact⟨fun x=>absurd x Z,fun x=>x.elim (fun x=>U) (fun x=>x.elim (fun x=>absurd x h5) (fun x=>absurd hy x.2))⟩
   ·rw[η hy,hu,hu2]
    exact⟨fun x=>x.elim .inl (fun x=>.inr (x.elim .inl (fun x=>.inr ⟨x,hy⟩))),fun x=>x.elim .inl (fun x=>.inr (x.elim .inl (fun x=>.inr x.1)))⟩
 refine Gn h hK _ _ _ ?_;unfold r9;rw[η (by rw[a];simp)]
 have hn:=fq b.j;exact A9 h b (by have:=qY b.st c;omega) _ hd d (fun k hk=>AX c _ (by rw[hn];omega)) _ (fun D hD=>IE h c hn D hD)
end
end
section
theorem getD_at{α:Type}{l:List α}{k:Nat}(d:α)(h:k<l.length):l.getD k d=l[k]:=by rw[LR,LN h];rfl
theorem ED(t:Bytes)(h:t.length≤256):(xq t).length=256:=by unfold xq;rw[Δ,fC];omega
theorem zh{bs:List Nat}:∀{d:Bytes} {w:WrL},w∈dU bs d→w.1∈bs∧w.2.length=256:=by
 induction bs with
 | nil=>intro d w h;simp[dU] at h
 | cons b bs ih =>
  intro d w h;rw[dU] at h;rcases MA.1 h with rfl|h
  ·exact⟨Mu ..,ED _ (by rw[L4];omega)⟩
  ·exact⟨Mn _ (ih h).1,(ih h).2⟩
theorem Cb(bs:List Nat):∀(d:Bytes),(dU bs d).length=bs.length:=by
 induction bs with
 | nil=>intro d;rfl
 | cons b bs ih=>intro d;rw[dU,Θ,ih,Θ]
theorem Xl(bs:List Nat):∀(d:Bytes) (D E:Nat→Bytes),bs.Nodup→d.length≤256*bs.length→(∀b∈bs,D b=bH (dU bs d) b (E b))→(bs.flatMap D).take d.length=d:=by
 induction bs with
 | nil=>intro d D E _ h _;have:d=[]:=NL (by simpa using h);subst this;rfl
 | cons b bs ih =>
  intro d D E hn hl hD;obtain⟨h1,h2⟩:=Sa.1 hn;rw[Θ] at hl;have hb:=hD b (Mu ..);rw[dU,bH,Φ rfl,dM _ _ _ (fun w hw e=>h1 (by rw[←e];exact(zh hw).1))] at hb
  have hr:∀c∈bs,D c=bH (dU bs (d.drop 256)) c (E c):=fun c hc=>by
   have:=hD c (Mn _ hc);rw[dU,bH] at this;simp only[] at this;rw[η (fun e=>h1 (by rw[e];exact hc))] at this
   exact this
  rw[NO,hb];by_cases hs:d.length≤256
  ·rw[P0 (by rw[ED _ (by rw[L4];omega)];exact hs)]
   unfold xq;rw[Mp hs,P0 (Ω _),M1]
  ·have hp:xq (d.take 256)=d.take 256:=by
    unfold xq;rw[L4,RE U];exact NF _
   have hi:=ih (d.drop 256) D E h2 (by rw[L5];omega) hr
   rw[L5] at hi;rw[hp,ady,Mp (l:=d.take 256) (by rw[L4];omega),L4,RE U,hi,OR]
theorem J6(l:List Nat)(C:Nat→Bytes)(h:∀i∈l,(C i).length=256):(l.flatMap C).length=256*l.length:=by
 induction l with
 | nil=>rfl
 | cons b l ih=>rw[NO,Δ,ih (fun i hi=>h i (Mn _ hi)),h b (Mu ..),Θ];omega
theorem zg(l:List Nat)(C D:Nat→Bytes)(h:∀i∈l,C i=D i):l.flatMap C=l.flatMap D:=by
 rw[acu,acu,PC h]
def NoRoom(σ:StL)(m:Nat):Prop:=0<m∧fK σ.ai m σ.n=none
theorem As{σ:StL}{m:Nat}(h:¬NoRoom σ m)(x:List (Nat×Nat)):(σ.de x m m).2.1=0∧(σ.de x m m).2.2.length≤x.length+1:=by
 cases m with
 | zero=>exact⟨rfl,ab6 _⟩
 | succ m =>
  cases hf:fK σ.ai (m+1) σ.n with
  | none=>exact absurd ⟨Nat.succ_pos _,hf⟩ h
  | some a =>
   have e0:∀(τ:StL) y,τ.de y m 0=(τ,0,y):=fun τ y=>by cases m<;>simp[StL.de]
   rw[StL.de,η κ,piece,hf];simp only[abz];rw[e0];refine⟨rfl,?_⟩;unfold su;split
   ·split
    ·rw[Δ,acF,PR];omega
    ·rw[Δ];exact Ω _
   ·exact Nat.succ_le_succ (L0 _)
section
variable {K:Nat} {φ:FsL} {fr:List (List WrL)} {C:Nat→Bytes}
theorem bz.B5(h:bz K φ fr C){i:Nat}(hi:i∈fD φ.l):(C i).length=256:=by
 have:=h.good.ok.mem hi;exact h.st.len i (by have h1:63≤ak φ.st.n:=SP _ _;omega) this.2
theorem ye(C:Nat→Bytes)(f:ax)(hl:∀i∈f.bl,(C i).length=256)(hn:f.bl.length=cB f.size)(t:Bytes)(ht:t=if f.size%256=0 then [] else(C (f.bl.getD (f.size / 256) 0)).take (f.size%256)):
  cont C f=(f.bl.take (f.size / 256)).flatMap C++t∧t.length=f.size%256∧((f.bl.take (f.size / 256)).flatMap C).length=256*(f.size / 256):=by
 unfold cB at hn;have h1:=J6 (f.bl.take (f.size / 256)) C (fun i hi=>hl i (P3 hi))
 rw[L4,RE U] at h1;refine⟨?_,?_,h1⟩
 ·unfold cont
  by_cases hz:f.size%256=0
  ·rw[ht,Φ hz,NF,Mp (l:=f.bl) U,Mp]
   rw[J6 f.bl C hl];omega
  ·rw[ht,η hz]
   have ay:f.size / 256<f.bl.length:=U;have e:f.bl.flatMap C=(f.bl.take (f.size / 256)).flatMap C++C (f.bl.getD (f.size / 256) 0):=by
    conv=>lhs;rw[←OR (f.size / 256) f.bl,PQ ay,Pr U]
    rw[Sf,NO,VS,NF,getD_at _ ay]
   rw[e,ady,Mp (by rw[h1];omega),h1]
   congr 2;omega
 ·rw[ht]
  split
  ·rename_i hz;rw[hz];rfl
  ·have ay:f.size / 256<f.bl.length:=U
   rw[L4,getD_at _ ay,hl _ (LO ay)];omega
structure mz (K:Nat) (φ:FsL) (fr:List (List WrL)) (C:Nat→Bytes) (f:ax) (d:Bytes) (g:StL×Int×List (Nat×Nat)) (new:List Nat):Prop where
 tx:TxI K fr C φ.st g.1
 map:fO g.1
 few:g.2.2.length≤16
 ext:∀e∈g.2.2,1≤e.2∧ak φ.st.n+12≤e.1∧e.1+e.2≤φ.st.n
 run:aT g.2.2=f.bl++new
 free:∀k∈new,k∉fD φ.l
 bits:∀j,bit g.1.ai j=if j∈new then true else bit φ.st.ai j
 nodup:(f.bl++new).Nodup
 all:∀k,k∈f.bl++new→ak φ.st.n+12≤k∧k<φ.st.n∧bit g.1.ai k=true
 len:(f.bl++new).length=(f.size+d.length+255) / 256
theorem Ja(h:bz K φ fr C)(f:ax)(hf:f∈φ.l)(d:Bytes){g:StL×Int×List (Nat×Nat)}(hg:φ.st.begin.1.grow f.ext (cB (f.size+d.length)-f.bl.length)=g):
  TxI K fr C φ.st g.1∧(g.2.1=9∧(16<g.2.2.length∨NoRoom φ.st (cB (f.size+d.length)-f.bl.length))∨g.2.1=0∧∃new,mz K φ fr C f d g new)∧(g.2.2.length≤f.ext.length+1∨NoRoom φ.st (cB (f.size+d.length)-f.bl.length)):=by
 obtain⟨ht,h0,h1⟩:=h.start;have ny:fO φ.st.begin.1:=by unfold fO;rw[h0];simp
 have hn:=fq ht.j;have ZG:NoRoom φ.st.begin.1 (cB (f.size+d.length)-f.bl.length)↔NoRoom φ.st (cB (f.size+d.length)-f.bl.length):=by unfold NoRoom;rw[h1,hn]
 have kG:∀k∈f.bl,k∈fD φ.l:=fun k hk=>Pi.2 ⟨_,hf,hk⟩
 have ho:=h.good.ok.ok _ hf;have lU:f.bl.Nodup:=h.good.ok.apart.sublist (by have:=tH (ab9.2 hf);rwa [show fD [f]=f.bl from NF _] at this)
 obtain⟨g1,g2,g3⟩:=GM (cB (f.size+d.length)-f.bl.length) ht ny (x:=f.ext) (Ω _) (fun k hk=>by rw[h1];rw[hn] at hk;exact h.low k hk) (fun e he=>by rw[hn];exact ho.ext e he)
 have yJ:=fun hc=>As (σ:=φ.st.begin.1) (m:=cB (f.size+d.length)-f.bl.length) hc f.ext
 rw[←ZG];unfold StL.grow at hg;generalize φ.st.begin.1.de f.ext (cB (f.size+d.length)-f.bl.length) (cB (f.size+d.length)-f.bl.length)=G at *;have YI:G.2.2.length≤f.ext.length+1∨NoRoom φ.st.begin.1 (cB (f.size+d.length)-f.bl.length):=by
  by_cases hr:NoRoom φ.st.begin.1 (cB (f.size+d.length)-f.bl.length)
  ·exact .inr hr
  ·exact .inl (yJ hr).2
 rcases g3 with g3|⟨g3,g4,new,n1,n2,n3,n4,n5⟩
 ·rw[Φ (by rw[g3];decide)] at hg
  subst hg;exact⟨g1,.inl ⟨g3,.inr (adn fun hc=>by rw[(yJ hc).1] at g3;exact absurd g3 Z)⟩,YI⟩
 ·rw[η (by rw[g3];simp)] at hg
  by_cases vM:16<G.2.2.length
  ·rw[Φ vM] at hg
   subst hg;exact⟨g1,.inl ⟨rfl,.inl vM⟩,YI⟩
  ·rw[η vM] at hg
   subst hg;rw[hn] at g4 n4;rw[h1] at n4 n5;have hfree:∀k∈new,k∉fD φ.l:=fun k hk hx=>by
    have hr:=h.good.ok.mem hx;have:=(h.eM k U hr.2).2 (.inr hx);rw[(n4 k hk).2.2] at this;exact absurd this Z
   refine⟨g1,.inr ⟨g3,new,g1,g2,ad5.1 vM,g4,n1,hfree,n5,PT.2 ⟨lU,n3,fun a ha b hb e=>hfree b hb (by rw[←e];exact kG a ha)⟩,fun k hk=>?_,?_⟩,YI⟩
   ·rw[n5]
    rcases My.1 hk with hk|hk
    ·have hr:=h.good.ok.mem (kG k hk)
     refine⟨hr.1,hr.2,?_⟩;split
     ·rfl
     ·exact(h.eM k U hr.2).2 (.inr (kG k hk))
    ·exact⟨(n4 k hk).1,(n4 k hk).2.1,Φ hk⟩
   ·have:=ho.need
    unfold cB at *;rw[Δ,n2];omega
theorem Ld(h:bz K φ fr C)(i:Nat)(hi:i<φ.l.length)(d:Bytes)(hs:φ.l[i].size+d.length≤2147483647){g:StL×Int×List (Nat×Nat)}{new:List Nat}(hg:mz K φ fr C φ.l[i] d g new):
  cN (ak φ.st.n+12) φ.st.n (φ.l.set i (dW φ.l[i] d g.2.2)):=by
 have iq:=mZ hi;have u7:=set_perm hi (dW φ.l[i] d g.2.2);have hf:=LO hi;have kG:∀k∈φ.l[i].bl,k∈fD φ.l:=fun k hk=>Pi.2 ⟨_,hf,hk⟩
 have ho:=h.good.ok.ok _ hf;have lU:=(jf iq).nodup_iff.1 h.good.ok.apart;rw[gJ] at lU;obtain⟨aiw,RV,aaP⟩:=PT.1 lU;have Bt:(dW φ.l[i] d g.2.2).bl=φ.l[i].bl++new:=hg.run;refine cN.gR (fun f hf=>?_) (JZ h.good.ok.rise i hi (dW φ.l[i] d g.2.2) rfl) u7 (by have:=iq.length_eq;have:=h.good.ok.few;simp only[Θ] at *;omega) ?_
 ·rcases MA.1 hf with rfl|hf
  ·exact⟨ho.name,hs,hg.few,hg.ext,by rw[Bt,hg.len];rfl⟩
  ·exact h.good.ok.ok f (Ts hf)
 ·rw[gJ,Bt]
  refine PT.2 ⟨hg.nodup,RV,fun a ha b hb e=>?_⟩
  rcases My.1 ha with ha|ha
  ·exact aaP a ha b hb e
  ·exact hg.free a ha (by rw[e];exact(tH (Se _ _)).subset hb)
theorem EF(h:bz K φ fr C)(hK:K+4<18446744073709551616)(i:Nat)(hi:i<φ.l.length)(d:Bytes)(hd:d.length≤6000)(hs:φ.l[i].size+d.length≤2147483647):
  ∃x,Res K fr C φ (φ.cq (oF φ i φ.l[i] d)) (φ.l.set i (dW φ.l[i] d x)) (fun D=>Same C D (φ.l.eraseIdx i)∧cont D (dW φ.l[i] d x)=cont C φ.l[i]++d) (iA (φ.l.set i (dW φ.l[i] d x))=false∨16<x.length∨NoRoom φ.st (cB (φ.l[i].size+d.length)-φ.l[i].bl.length))∧(x.length≤φ.l[i].ext.length+1∨NoRoom φ.st (cB (φ.l[i].size+d.length)-φ.l[i].bl.length)):=by
 obtain⟨ht,h0,h1⟩:=h.start;have ny:fO φ.st.begin.1:=by unfold fO;rw[h0];simp
 have hn:=fq ht.j;have hf:=LO hi;have ZG:NoRoom φ.st.begin.1 (cB (φ.l[i].size+d.length)-φ.l[i].bl.length)↔NoRoom φ.st (cB (φ.l[i].size+d.length)-φ.l[i].bl.length):=by unfold NoRoom;rw[h1,hn]
 have iq:=mZ hi;have kG:∀k∈φ.l[i].bl,k∈fD φ.l:=fun k hk=>Pi.2 ⟨_,hf,hk⟩
 have ho:=h.good.ok.ok _ hf;have lU:=(jf iq).nodup_iff.1 h.good.ok.apart;rw[gJ] at lU;obtain⟨aiw,RV,aaP⟩:=PT.1 lU;have nS:=ye C φ.l[i] (fun k hk=>h.B5 (kG k hk)) ho.need (iY φ.st.begin.1 φ.l[i]) (by
  unfold iY;split
  ·rfl
  ·have ay:φ.l[i].size / 256<φ.l[i].bl.length:=by rw[ho.need];unfold cB;omega
   have hm:=kG _ (LO ay);have hr:=h.good.ok.mem hm;rw[getD_at _ ay,ht.st.get _ (by have h1:63≤ak φ.st.n:=SP _ _;omega) (by rw[hn];exact hr.2),h0];rfl)
 obtain⟨x,hx⟩:∃x,φ.st.begin.1.grow φ.l[i].ext (cB (φ.l[i].size+d.length)-φ.l[i].bl.length)=x:=⟨_,rfl⟩;obtain⟨g1,g3,g4⟩:=Ja h _ hf d hx;refine⟨x.2.2,Gn h hK _ _ _ ?_,g4⟩;unfold oF;rw[hx];rcases g3 with ⟨g3,hr⟩|⟨g3,new,hG⟩
 ·right
  rw[Φ (by rw[g3];decide)]
  exact⟨g3,g1,.inr hr⟩
 ·have aix:=Ld h i hi d hs hG
  have g2:=hG.map;have n1:=hG.run;have n5:=hG.bits;have hfree:=hG.free;have uf:=hG.nodup;have hall:=hG.all;have LG:=hG.len;generalize iY φ.st.begin.1 φ.l[i]=tl at *;rw[η (by rw[g3];simp)]
  have V3:=fq g1.j;obtain⟨t1,t2,t3⟩:=nS;have Cc:φ.l[i].bl.length=(φ.l[i].size+255) / 256:=ho.need;have gV:((aT x.2.2).drop (φ.l[i].size / 256)).length=(φ.l[i].size+d.length+255) / 256-φ.l[i].size / 256:=by rw[n1,L5,LG]
  have mq:∀k∈(aT x.2.2).drop (φ.l[i].size / 256),k∈φ.l[i].bl++new:=fun k hk=>by rw[n1] at hk;exact XS hk
  have CO:=qY g1.st g2;obtain⟨w1,w2,w3,w4,w5,w6,w7⟩:=tC (dU ((aT x.2.2).drop (φ.l[i].size / 256)) (tl++d)) g1.st g1.op (by rw[Cb,gV];omega) (fun w hw=>by
   obtain⟨x1,x2⟩:=zh hw;have x3:=hall _ (mq _ x1);rw[V3];exact⟨U,x3.2.1,x3.2.2,x2⟩)
  rw[η (by rw[w1];simp)]
  have Kl:∀k,k∉φ.l[i].bl++new→ak φ.st.n≤k→bT C (x.1.writes (dU ((aT x.2.2).drop (φ.l[i].size / 256)) (tl++d))).1.tx k=C k:=fun k hk hx=>by
   rw[w7,dM _ _ _ (fun w hw e=>hk (by rw[←e];exact mq _ (zh hw).1)),AX g2 k (by rw[V3];exact hx)]
  have Bt:(dW φ.l[i] d x.2.2).bl=φ.l[i].bl++new:=n1;have u7:=set_perm hi (dW φ.l[i] d x.2.2);refine(fun x=>x.elim .inl (fun x=>.inr ⟨x.1,x.2.1,.inl x.2.2⟩)) (A9 h ⟨w2,w3,w5.trans g1.j⟩ (by rw[Cb,gV] at w6;omega) _ aix (fun k a b=>?_) (fun k hk=>Kl _ (fun hx=>by have:=(hall _ hx).1;omega) U) (fun D=>Same C D (φ.l.eraseIdx i)∧cont D (dW φ.l[i] d x.2.2)=cont C φ.l[i]++d) (fun D hD=>⟨fun k hk=>?_,?_⟩))
  ·rw[w4,n5,(jf u7).mem_iff,gJ,Bt,My,My]
   have hu:=h.eM k a b;rw[(jf iq).mem_iff,gJ,My] at hu;by_cases hx:k∈new
   ·rw[Φ hx];exact⟨fun _=>.inr (.inl (.inr hx)),fun _=>rfl⟩
   ·rw[η hx,hu]
    exact⟨fun x=>x.elim .inl (fun x=>.inr (x.elim (fun x=>.inl (.inl x)) .inr)),fun x=>x.elim .inl (fun x=>.inr (x.elim (fun x=>.inl (x.resolve_right hx)) .inr))⟩
  ·have kW:k∈fD φ.l:=(tH (Se _ _)).subset hk
   have hr:=h.good.ok.mem kW;rw[hD k hr.1];refine Kl k (fun hx=>?_) U
   rcases My.1 hx with hx|hx
   ·exact aaP k hx k hk rfl
   ·exact hfree k hx kW
  ·have aiy:=Xl ((aT x.2.2).drop (φ.l[i].size / 256)) (tl++d) D (bT C x.1.tx) (by rw[n1];exact uf.sublist (List.drop_sublist _ _)) (by rw[gV,Δ,t2];omega) (fun b hb=>by rw[hD b (hall b (mq b hb)).1,w7])
   have nN:(φ.l[i].bl.take (φ.l[i].size / 256)).flatMap D=(φ.l[i].bl.take (φ.l[i].size / 256)).flatMap C:=zg _ _ _ (fun k hk=>by
    have Bv:=P3 hk;have hr:=h.good.ok.mem (kG k Bv);rw[hD k hr.1,w7,dM _ _ _ (fun w hw e=>?_),AX g2 k (by rw[V3];omega)]
    have hx:=(zh hw).1;rw[e,n1] at hx;have Md:=(PT.1 (by rw[OR];exact uf:((φ.l[i].bl++new).take (φ.l[i].size / 256)++(φ.l[i].bl++new).drop (φ.l[i].size / 256)).Nodup)).2.2
    exact Md k (by rw[P0 U];exact hk) k hx rfl)
   rw[t1];unfold cont;rw[Bt];have e2:(φ.l[i].bl++new).flatMap D=(φ.l[i].bl.take (φ.l[i].size / 256)).flatMap C++((aT x.2.2).drop (φ.l[i].size / 256)).flatMap D:=by
    rw[n1];conv=>lhs;rw[←OR (φ.l[i].size / 256) (φ.l[i].bl++new)]
    rw[Sf,P0 U,nN]
   rw[e2,ady,Mp (by rw[t3];show _≤φ.l[i].size+d.length;omega),t3,Mm]
   congr 1;have:(dW φ.l[i] d x.2.2).size-256*(φ.l[i].size / 256)=(tl++d).length:=by
    show φ.l[i].size+d.length-_=_;rw[Δ,t2];omega
   rw[this];exact aiy
end
end
section
instance:Inhabited ax:=⟨⟨[],false,0,[]⟩⟩
namespace FsL
def at9(φ:FsL)(s:Bytes):ax:=φ.l.getD (aA φ.l s) default
def dj(φ:FsL)(s:Bytes):Int:=if φ.st.dead then 4 else if isF φ.l s then 0 else 10
def create(φ:FsL)(s:Bytes):FsL×Int :=
 if φ.st.dead then(φ,4) else if iM s=false then(φ,12) else if isF φ.l s then(φ,11) else if φ.l.length=64 then(φ,6) else φ.cq (wu φ s)
def gd(φ:FsL)(s:Bytes):FsL×Int:=if φ.dj s≠0 then(φ,φ.dj s) else φ.cq (Ca φ (aA φ.l s) (φ.at9 s))
def delete(φ:FsL)(s:Bytes):FsL×Int:=if φ.dj s≠0 then(φ,φ.dj s) else φ.cq (rZ φ (aA φ.l s) (φ.at9 s))
def rename(φ:FsL)(s t:Bytes):FsL×Int :=
 if φ.dj s≠0 then(φ,φ.dj s) else if iM t=false then(φ,12) else if s=t then(φ,0) else φ.cq (r9 φ (aA φ.l s) (φ.at9 s) t)
def append(φ:FsL)(s d:Bytes):FsL×Int :=
 if φ.dj s≠0 then(φ,φ.dj s) else if (φ.at9 s).sl then(φ,13) else if 6000<d.length∨2147483647<(φ.at9 s).size+d.length then(φ,5) else if d=[] then(φ,0) else φ.cq (oF φ (aA φ.l s) (φ.at9 s) d)
def holds(φ:FsL)(f:ax):Bytes:=cont φ.st.get f
def cC(φ:FsL)(s:Bytes)(a n:Int):Bytes×Int :=
 if φ.dj s≠0 then([],φ.dj s) else if a<0∨((φ.at9 s).size:Int)<a∨n<0 then([],2) else(((φ.holds (φ.at9 s)).drop a.toNat).take n.toNat,0)
def free(φ:FsL):Nat:=φ.st.free
def used(φ:FsL):Nat:=φ.st.n-ak φ.st.n-φ.st.free
def tell(φ:FsL):Bytes:=φ.l.flatMap fun f=>f.name++[47]++(if f.sl then [33] else [])++φ.holds f++[47]
end FsL
def aac(C:Nat→Bytes)(l:List ax):Bytes:=l.flatMap fun f=>f.name++[47]++(if f.sl then [33] else [])++cont C f++[47]
section
variable {K:Nat} {φ:FsL} {fr:List (List WrL)} {C:Nat→Bytes}
theorem bz.live(h:bz K φ fr C):φ.st.dead=false:=h.st.inv.live
theorem bz.get(h:bz K φ fr C){i:Nat}(hi:i∈fD φ.l):φ.st.get i=C i:=by
 have hr:=h.good.ok.mem hi;rw[h.st.get i (by have h1:63≤ak φ.st.n:=SP _ _;omega) hr.2,h.st.closed h.closed];rfl
theorem EG{l:List ax}{f:ax}(hf:f∈l){k:Nat}(hk:k∈f.bl):k∈fD l:=Pi.2 ⟨f,hf,hk⟩
theorem bz.holds(h:bz K φ fr C){f:ax}(hf:f∈φ.l):φ.holds f=cont C f:=QI (fun i hi=>h.get (EG hf hi))
theorem bz.px(h:bz K φ fr C){f:ax}(hf:f∈φ.l):(cont C f).length=f.size:=by
 have hn:=(h.good.ok.ok f hf).need;unfold cB at hn;unfold cont;rw[L4,J6 f.bl C (fun i hi=>h.B5 (EG hf hi)),hn];omega
theorem bz.find(h:bz K φ fr C)(s:Bytes):φ.dj s=if isF φ.l s then 0 else 10:=by unfold FsL.dj;rw[h.live];rfl
theorem bz.at(h:bz K φ fr C){s:Bytes}(hs:isF φ.l s=true):∃hk:aA φ.l s<φ.l.length,φ.at9 s=φ.l[aA φ.l s]∧(φ.at9 s).name=s∧φ.at9 s∈φ.l:=by
 obtain⟨hk,e⟩:=aaf hs;have e2:φ.at9 s=φ.l[aA φ.l s]:=getD_at _ hk;exact⟨hk,e2,by rw[e2];exact e,by rw[e2];exact LO hk⟩
theorem bz.at_eq(h:bz K φ fr C){f:ax}(hf:f∈φ.l):isF φ.l f.name=true∧φ.at9 f.name=f:=by
 obtain⟨k,hk,rfl⟩:=PH hf;have e:=BZ h.good.ok.rise _ k hk rfl;refine⟨(IC h.good.ok.rise _).2 ⟨_,hf,rfl⟩,?_⟩;unfold FsL.at9;rw[e];exact getD_at _ hk
theorem bz.mono{K':Nat}(h:bz K φ fr C)(hk:K≤K'):bz K' φ fr C:=⟨WH h.st hk,h.closed,h.good,h.packed⟩
structure cL where
 op:Int
 at_:Int
 n:Int
 name:Bytes
 tO:Bytes
 keep:List Bool
 byte:UInt8
def cL.k(a:cL):Nat:=lC a.op 11
def cL.data(a:cL):Bytes:=List.replicate (lC a.n 6003) a.byte
def fJ(a:cL)(φ:FsL):FsL×Int :=
 if a.k=0 then φ.create a.name else if a.k=5 then(φ,(φ.cC a.name a.at_ a.n).2) else if a.k=6 then φ.gd a.name else if a.k=7 then φ.rename a.name a.tO else if a.k=8 then φ.delete a.name else φ.append a.name a.data
def zi(a:cL)(φ:FsL):Bytes:=if a.k=5 then(φ.cC a.name a.at_ a.n).1 else []
structure Eff (a:cL) (l:List ax) (C:Nat→Bytes) (l':List ax) (D:Nat→Bytes):Prop where
 kept:∀f∈l,f.name≠a.name→(a.k=7→f.name≠a.tO)→f∈l'∧cont D f=cont C f
 back:∀f∈l',f.name≠a.name→(a.k=7→f.name≠a.tO)→f∈l
 own:∀f∈l,f.name=a.name→f.sl=true→a.k<7→f∈l'∧cont D f=cont C f
theorem Eff.same(a:cL)(l:List ax)(C:Nat→Bytes):Eff a l C l C:=⟨fun f hf _ _=>⟨hf,rfl⟩,fun f hf _ _=>hf,fun f hf _ _ _=>⟨hf,rfl⟩⟩
def Out(K:Nat)(fr:List (List WrL))(C:Nat→Bytes)(φ:FsL)(a:cL)(x:FsL×Int):Prop :=
 (x.2≠4∧∃fr' D,bz (K+2) x.1 fr' D∧x.1.st.n=φ.st.n∧(φ.st.j.d.Free→x.1.st.j.d.Free)∧Eff a φ.l C x.1.l D∧(x.2≠0→x.1.l=φ.l∧D=C)) ∨
 (x.2=4∧x.1.st.dead=true∧x.1.st.n=φ.st.n∧¬φ.st.j.d.Free∧∃l' D,Two (K+2) φ.st.n x.1.st.j.d C D∧sD φ.st.n C φ.l∧sD φ.st.n D l'∧Eff a φ.l C l' D)
theorem pI(h:bz K φ fr C)(a:cL)(e:Int)(he:e≠4):Out K fr C φ a (φ,e) :=
 .inl ⟨he,fr,C,h.mono U,rfl,id,Eff.same a φ.l C,fun _=>⟨rfl,rfl⟩⟩
theorem Gp(h:bz K φ fr C)(a:cL){x:FsL×Int}{l':List ax}{P:(Nat→Bytes)→Prop}{R:Prop}(hr:Res K fr C φ x l' P R)(he:∀D,P D→Eff a φ.l C l' D):Out K fr C φ a x:=by
 rcases hr with ⟨e,fr',D,i,rfl,hn,hf,hp⟩|⟨e,hd,_,hn,hf,D,ht,hg,hp⟩|⟨e,i,hl,hj,_⟩
 ·exact .inl ⟨by rw[e];decide,fr',D,i,hn,hf,he D hp,fun hx=>absurd e hx⟩
 ·exact .inr ⟨e,hd,hn,hf,l',D,ht,h.good,hg,he D hp⟩
 ·exact .inl ⟨by rw[e];decide,fr,C,i.mono U,fq hj,fun hf=>by rw[hj];exact hf,by rw[hl];exact Eff.same a φ.l C,fun _=>⟨hl,rfl⟩⟩
theorem Same.cont{C D:Nat→Bytes}{l:List ax}(h:Same C D l){f:ax}(hf:f∈l):cont D f=cont C f:=QI (fun i hi=>h i (EG hf hi))
theorem yW(h:bz K φ fr C)(hK:K+4<18446744073709551616)(a:cL)(hk:a.k<9):Out K fr C φ a (fJ a φ):=by
 have hl:=h.live;have lK:=h.find a.name;unfold fJ;by_cases k0:a.k=0
 ·rw[Φ k0]
  unfold FsL.create;rw[hl,η Z];by_cases c1:iM a.name=false
  ·rw[Φ c1];exact pI h a 12 Z
  ·rw[η c1]
   by_cases c2:isF φ.l a.name=true
   ·rw[Φ c2];exact pI h a 11 Z
   ·rw[η c2]
    by_cases c3:φ.l.length=64
    ·rw[Φ c3];exact pI h a 6 Z
    ·rw[η c3]
     have hm:∀f,f∈jE φ.l ⟨a.name,false,0,[]⟩↔f=⟨a.name,false,0,[]⟩∨f∈φ.l:=fun f=>by rw[(wh φ.l ⟨a.name,false,0,[]⟩).mem_iff,MA]
     refine Gp h a (La h hK a.name (by simpa using c1) (by simpa using c2) (by have:=h.good.ok.few;omega)) (fun D hD=>⟨fun f hf _ _=>⟨(hm f).2 (.inr hf),hD.cont hf⟩,fun f hf hn _=>?_,fun f hf _ _ _=>⟨(hm f).2 (.inr hf),hD.cont hf⟩⟩)
     rcases (hm f).1 hf with rfl|hf
     ·exact absurd rfl hn
     ·exact hf
 ·rw[η k0]
  by_cases k5:a.k=5
  ·rw[Φ k5]
   refine pI h a _ ?_;unfold FsL.cC;rw[lK];repeat' split
   all_goals first|decide|simp_all
  ·rw[η k5]
   cases hx:isF φ.l a.name with
   | false =>
    rw[hx] at lK;have e:φ.dj a.name=10:=lK;have:(if a.k=6 then φ.gd a.name else if a.k=7 then φ.rename a.name a.tO else if a.k=8 then φ.delete a.name else φ.append a.name a.data)=(φ,10):=by
     unfold FsL.gd FsL.rename FsL.delete FsL.append;rw[e];simp
    rw[this];exact pI h a 10 Z
   | true =>
    rw[hx] at lK;have e:φ.dj a.name=0:=lK;obtain⟨hi,e2,e3,e4⟩:=h.at hx;have O8:=set_perm hi;have JG:∀f,f∈φ.l↔f=φ.l[aA φ.l a.name]∨f∈φ.l.eraseIdx (aA φ.l a.name):=fun f=>by rw[(mZ hi).mem_iff,MA]
    rw[e2] at e3;have hon:=NT h.good.ok.rise hi;rw[e3] at hon;by_cases k6:a.k=6
    ·rw[Φ k6]
     unfold FsL.gd;rw[η (by rw[e];simp),e2]
     have hm:∀f,f∈φ.l.set (aA φ.l a.name) φ.l[aA φ.l a.name].sealed↔f=φ.l[aA φ.l a.name].sealed∨f∈φ.l.eraseIdx (aA φ.l a.name):=fun f=>by rw[(O8 _).mem_iff,MA]
     refine Gp h a (QL h hK _ hi) (fun D hD=>⟨fun f hf hn _=>⟨?_,hD.cont hf⟩,fun f hf hn _=>?_,fun f hf hn hs _=>⟨?_,hD.cont hf⟩⟩)
     ·rcases (JG f).1 hf with rfl|hf
      ·exact absurd e3 hn
      ·exact(hm f).2 (.inr hf)
     ·rcases (hm f).1 hf with rfl|hf
      ·exact absurd e3 hn
      ·exact(JG f).2 (.inr hf)
     ·rcases (JG f).1 hf with rfl|hf
      ·refine(hm _).2 (.inl ?_)
       unfold ax.sealed;rw[←hs]
      ·exact absurd hn (hon f hf)
    ·rw[η k6]
     by_cases k7:a.k=7
     ·rw[Φ k7]
      unfold FsL.rename;rw[η (by rw[e];simp),e2]
      by_cases c1:iM a.tO=false
      ·rw[Φ c1];exact pI h a 12 Z
      ·rw[η c1]
       by_cases c2:a.name=a.tO
       ·rw[Φ c2];exact pI h a 0 Z
       ·rw[η c2]
        obtain⟨l1,l2,l3,l4⟩:=J5 (h.good.ok.erase (aA φ.l a.name)) a.tO;have hm:∀f,f∈jE (eZ (φ.l.eraseIdx (aA φ.l a.name)) a.tO) (φ.l[aA φ.l a.name].named a.tO)↔f=φ.l[aA φ.l a.name].named a.tO∨f∈eZ (φ.l.eraseIdx (aA φ.l a.name)) a.tO:=fun f=>by rw[(wh _ _).mem_iff,MA]
        refine Gp h a (Lc h hK _ hi a.tO (by simpa using c1) (by rw[e3];exact c2)) (fun D hD=>⟨fun f hf hn ht=>⟨?_,hD.cont hf⟩,fun f hf hn ht=>?_,fun f hf hn hs hk=>U⟩)
        ·rcases (JG f).1 hf with rfl|hf
         ·exact absurd e3 hn
         ·exact(hm f).2 (.inr (l4 f hf (ht k7)))
        ·rcases (hm f).1 hf with rfl|hf
         ·exact absurd rfl (ht k7)
         ·exact(JG f).2 (.inr (l3 f hf))
     ·rw[η k7]
      by_cases k8:a.k=8
      ·rw[Φ k8]
       unfold FsL.delete;rw[η (by rw[e];simp),e2]
       refine Gp h a (Lb h hK _ hi) (fun D hD=>⟨fun f hf hn _=>⟨?_,hD.cont hf⟩,fun f hf hn _=>(JG f).2 (.inr hf),fun f hf hn hs hk=>U⟩)
       rcases (JG f).1 hf with rfl|hf
       ·exact absurd e3 hn
       ·exact hf
      ·rw[η k8]
       unfold FsL.append;rw[η (by rw[e];simp),e2]
       by_cases c1:φ.l[aA φ.l a.name].sl=true
       ·rw[Φ c1];exact pI h a 13 Z
       ·rw[η c1]
        by_cases c2:6000<a.data.length∨2147483647<φ.l[aA φ.l a.name].size+a.data.length
        ·rw[Φ c2];exact pI h a 5 Z
        ·rw[η c2]
         by_cases c3:a.data=[]
         ·rw[Φ c3];exact pI h a 0 Z
         ·rw[η c3]
          obtain⟨x,hx,_⟩:=EF h hK _ hi a.data U U;have hm:∀f,f∈φ.l.set (aA φ.l a.name) (dW φ.l[aA φ.l a.name] a.data x)↔f=dW φ.l[aA φ.l a.name] a.data x∨f∈φ.l.eraseIdx (aA φ.l a.name):=fun f=>by rw[(O8 _).mem_iff,MA]
          refine Gp h a hx (fun D hD=>⟨fun f hf hn _=>?_,fun f hf hn _=>?_,fun f hf hn hs hk=>?_⟩)
          ·rcases (JG f).1 hf with rfl|hf
           ·exact absurd e3 hn
           ·exact⟨(hm f).2 (.inr hf),hD.1.cont hf⟩
          ·rcases (hm f).1 hf with rfl|hf
           ·exact absurd e3 hn
           ·exact(JG f).2 (.inr hf)
          ·rcases (JG f).1 hf with rfl|hf
           ·exact absurd hs c1
           ·exact absurd hn (hon f hf)
end
end
section
theorem vy(b:Bytes)(lo a:Nat)(ha:lo≤a)(k:Nat):a<lo+k→(∀i,a≤i→i<lo+k→bit b i=true)→∃ys q,dR b lo k=ys++[q]∧q.1≤a∧q.1+q.2=lo+k:=by
 induction k with
 | zero=>intro h _;omega
 | succ k ih =>
  intro h hb;rw[dR,hb (lo+k) U U,Φ rfl];by_cases hk:a<lo+k
  ·obtain⟨ys,q,e,q1,q2⟩:=ih hk (fun i h1 h2=>hb i h1 U)
   rw[e,acB,ab1,adW];simp only[];rw[Φ q2,XN];exact⟨ys,_,rfl,q1,by simp only;omega⟩
  ·obtain rfl:a=lo+k:=U
   cases hl:(dR b lo k).getLast? with
   | none=>exact⟨[],_,rfl,Ω _,by simp only;omega⟩
   | some r =>
    simp only[];split
    ·exact⟨_,_,rfl,by simp only;omega,by simp only;omega⟩
    ·exact⟨_,_,rfl,Ω _,by simp only;omega⟩
theorem sf(b:Bytes)(lo k t:Nat){r:Nat×Nat}(h:r∈dR b lo k):∃q∈dR b lo (k+t),q.1=r.1∧r.2≤q.2:=by
 induction t with
 | zero=>exact⟨r,h,rfl,Ω _⟩
 | succ t ih =>
  obtain⟨q,hq,q1,q2⟩:=ih;rw[←Ps,dR];split
  ·cases hl:(dR b lo (k+t)).getLast? with
   | none=>rw[abW.1 hl] at hq;simp at hq
   | some x =>
    obtain⟨ys,RG⟩:=adk.1 hl;simp only[];split
    ·rw[RG,XN]
     rw[RG] at hq;rcases My.1 hq with hq|hq
     ·exact⟨q,My.2 (.inl hq),q1,q2⟩
     ·obtain rfl:=Mo.1 hq
      exact⟨_,My.2 (.inr (Mo.2 rfl)),q1,by simp only;omega⟩
    ·exact⟨q,My.2 (.inl hq),q1,q2⟩
  ·exact⟨q,hq,q1,q2⟩
theorem Le(b:Bytes)(lo k a c:Nat)(ha:lo≤a)(hc:1≤c)(hk:a+c≤lo+k)(h:∀i,a≤i→i<a+c→bit b i=true):∃r∈dR b lo k,r.1≤a∧a+c≤r.1+r.2:=by
 obtain⟨ys,q,e,q1,q2⟩:=vy b lo a ha (a+c-lo) U (fun i h1 h2=>h i h1 U)
 obtain⟨r,hr,r1,r2⟩:=sf b lo (a+c-lo) (lo+k-(a+c)) (r:=q) (by rw[e];exact My.2 (.inr (Mo.2 rfl)))
 rw[show a+c-lo+(lo+k-(a+c))=k by omega] at hr
 exact⟨r,hr,U,U⟩
def jj(l:List ax):Nat:=(l.map fun f=>cB f.size).sum
section
variable {K:Nat} {φ:FsL} {fr:List (List WrL)} {C:Nat→Bytes}
theorem QM{first n:Nat}{l:List ax}(h:∀f∈l,ge first n f):(fD l).length=jj l:=by
 unfold jj;induction l with
 | nil=>rfl
 | cons f l ih=>rw[gJ,Δ,ih (fun g hg=>h g (Mn _ hg)),(h f (Mu ..)).need,No,List.sum_cons]
theorem bz.count(h:bz K φ fr C):φ.used=12+jj φ.l∧φ.used+φ.free=φ.st.n-ak φ.st.n:=by
 have hm:=Qh φ.st.ai (ak φ.st.n) (φ.st.n-ak φ.st.n) h.st.map.low;have hr:=h.good.room;rw[show ak φ.st.n+(φ.st.n-ak φ.st.n)=φ.st.n by omega] at hm
 have hp:((List.range' (ak φ.st.n) (φ.st.n-ak φ.st.n)).filter fun i=>bit φ.st.ai i).Perm (List.range' (ak φ.st.n) 12++fD φ.l):=by
  refine(W4 (List.Nodup.sublist abN adh) (PT.2 ⟨adh,h.good.ok.apart,fun a ha b hb e=>?_⟩)).2 (fun i=>?_)
  ·have h1:=(Su.1 ha).2;have h2:=(h.good.ok.mem hb).1;omega
  ·rw[PF,Su,My,Su]
   constructor
   ·rintro⟨⟨h1,h2⟩,h3⟩
    exact((h.eM i h1 U).1 h3).imp (fun h=>⟨h1,h⟩) id
   ·rintro(⟨h1,h2⟩|h1)
    ·exact⟨⟨h1,U⟩,(h.eM i h1 U).2 (.inl h2)⟩
    ·have h2:=h.good.ok.mem h1
     exact⟨⟨U,U⟩,(h.eM i U U).2 (.inr h1)⟩
 have hl:=hp.length_eq;rw[Δ,WF,QM h.good.ok.ok] at hl;unfold FsL.used FsL.free StL.free;omega
theorem bz.cover(h:bz K φ fr C){e:Nat×Nat}(he:e=(ak φ.st.n,12)∨∃f∈φ.l,e∈f.ext):∃r∈mW φ.st.ai (ak φ.st.n) φ.st.n,r.1≤e.1∧e.1+e.2≤r.1+r.2:=by
 have hr:=h.good.room;rw[yC _ _ _ h.st.map.low U];rcases he with rfl|⟨f,hf,he⟩
 ·exact Le _ _ _ _ _ (Ω _) κ (by simp only;omega) (fun i h1 h2=>h.low i h2)
 ·obtain⟨e1,e2,e3⟩:=(h.good.ok.ok f hf).ext e he
  refine Le _ _ _ _ _ U e1 U (fun i h1 h2=>?_)
  exact(h.eM i U U).2 (.inr (EG hf (JY.2 ⟨e,he,h1,h2⟩)))
end
end
end Go.Proofs.YtbkahhebmpehnaaGreatDoor
