/- Joined: Wire to Base -/
import Derived.WalkKit
import Derived.Lib.Hide
import Derived.BigQuiet
import Derived.Deep.Onto
import Derived.Deep.AppendLies
import Derived.Test.YtonlbpljghohmaaGreatDoorCWO
set_option linter.all false
set_option maxRecDepth 100000
set_option maxHeartbeats 8000000
namespace Go.Proofs.YtonlbpljghohmaaGreatDoor
section
abbrev Bytes:=List UInt8
def jC:Nat→Nat→Bytes
 | 0,_=>[]
 | n+1,v=>if v<128 then [UInt8.ofNat v] else UInt8.ofNat (v%128+128)::jC n (v / 128)
def dN(v:Nat):Bytes:=jC 10 v
theorem yq(n v:Nat):(jC n v).length≤n:=by
 induction n generalizing v with
 | zero=>simp[jC]
 | succ n ih=>rw[jC];split<;>simp;exact ih _
theorem toNat_ofNat(n:Nat)(h:n<256):(UInt8.ofNat n).toNat=n:=by
 rw[abR];omega
theorem AG(n u v:Nat)(hu:u<128 ^ n)(hv:v<128 ^ n)(r s:Bytes)(h:jC n u++r=jC n v++s):u=v∧r=s:=by
 induction n generalizing u v with
 | zero=>simp at hu hv;subst hu;subst hv;simpa[jC] using h
 | succ n ih =>
  rw[jC,jC] at h;rw[aae] at hu hv;by_cases h1:u<128<;>by_cases h2:v<128
  ·rw[Φ h1,Φ h2] at h
   simp only[PC,Pr,aal] at h;have:=RE UInt8.toNat h.1;rw[toNat_ofNat _ U,toNat_ofNat _ U] at this;exact⟨this,h.2⟩
  ·rw[Φ h1,η h2] at h
   simp only[PC,Pr,aal] at h;have:=RE UInt8.toNat h.1;rw[toNat_ofNat _ U,toNat_ofNat _ U] at this;omega
  ·rw[η h1,Φ h2] at h
   simp only[PC,Pr,aal] at h;have:=RE UInt8.toNat h.1;rw[toNat_ofNat _ U,toNat_ofNat _ U] at this;omega
  ·rw[η h1,η h2] at h
   simp only[PC,Pr,aal] at h;have:=RE UInt8.toNat h.1;rw[toNat_ofNat _ U,toNat_ofNat _ U] at this;obtain⟨e,e2⟩:=ih (u / 128) (v / 128) (by rw[abr U];omega) (by rw[abr U];omega) h.2
   exact⟨U,e2⟩
theorem nf(v:Nat)(h:v<18446744073709551616):v<128 ^ 10:=by
 have:(18446744073709551616:Nat)≤128 ^ 10:=Z;omega
theorem PY(u v:Nat)(hu:u<18446744073709551616)(hv:v<18446744073709551616)(r s:Bytes)(h:dN u++r=dN v++s):u=v∧r=s :=
 AG 10 u v (nf u hu) (nf v hv) r s h
def fY(s:Bytes)(v:Nat)(rest:Bytes):Prop:=v<18446744073709551616∧s=dN v++rest
theorem fY.one{s:Bytes}{u v:Nat}{r t:Bytes}(h:fY s u r)(k:fY s v t):u=v∧r=t :=
 PY u v h.1 k.1 r t (h.2.symm.trans k.2)
def qR(s:Bytes):Bytes:=dN s.length++s
def jp(s t rest:Bytes):Prop:=t.length<18446744073709551616∧s=qR t++rest
theorem jp.one{s t u r v:Bytes}(h:jp s t r)(k:jp s u v):t=u∧r=v:=by
 have e:=h.2.symm.trans k.2;unfold qR at e;rw[MY,MY] at e;obtain⟨e1,e2⟩:=PY _ _ h.1 k.1 _ _ e;exact List.append_inj e2 e1
def qU(l:List Nat):Bytes:=l.flatMap dN
theorem iJ(v:Nat):(dN v).length≤10:=yq 10 v
theorem vf(l:List Nat):(qU l).length≤10*l.length:=by
 induction l with
 | nil=>simp[qU]
 | cons a l ih =>
  have:=iJ a;simp only[qU,OR,Δ,Mu] at ih ⊢;omega
theorem Wt(l:List Nat)(k:Nat)(h:k<l.length):qU (l.take (k+1))=qU (l.take k)++dN l[k]:=by
 unfold qU;rw[M2 h,Sp];simp
theorem KG(m x:Nat)(hm:0<m)(h:x<128):jC m x=[UInt8.ofNat x]:=by
 cases m with
 | zero=>omega
 | succ m=>rw[jC,Φ h]
theorem PZ(m x:Nat)(h:128≤x)(hx:x<128 ^ m):1<m∧jC m x=UInt8.ofNat (x%128+128)::jC (m-1) (x / 128)∧x / 128<128 ^ (m-1):=by
 cases m with
 | zero=>simp at hx;omega
 | succ m =>
  cases m with
  | zero=>simp at hx;omega
  | succ m =>
   rw[aae] at hx;refine⟨U,?_,?_⟩
   ·rw[jC,η U];rfl
   ·rw[show m+1+1-1=m+1 by omega,abr U];omega
theorem L5(x:Nat):(x%256) ||| 128=x%128+128:=by
 have h:∀y:Fin 256,y.val ||| 128=y.val%128+128:=by decide +kernel
 have:=h ⟨x%256,Tr _ U⟩;simp only at this;rw[this];omega
def oG(l:List Bytes):Bytes:=l.flatMap qR
theorem Uo(l:List Bytes)(k:Nat)(h:k<l.length):oG (l.take (k+1))=oG (l.take k)++qR l[k]:=by
 unfold oG;rw[M2 h,Sp];simp
theorem FT(s:Bytes):(qR s).length≤s.length+10:=by
 have:=iJ s.length;unfold qR;rw[Δ];omega
theorem Wu(l:List Bytes)(M:Nat)(h:∀s∈l,s.length≤M):(oG l).length≤l.length*(M+10):=by
 induction l with
 | nil=>simp[oG]
 | cons a l ih =>
  have h1:=ih (fun s hs=>h s (by simp[hs]))
  have h2:=FT a;have h3:=h a κ;simp only[oG,OR,Δ,Mu,aeD] at h1 ⊢;omega
def p9(c:Nat):Nat:=if c%2=1 then(c / 2) ^^^ 3988292384 else c / 2
def lM:Nat→Nat→Nat
 | 0,c=>c
 | k+1,c=>p9 (lM k c)
def Il(c:Nat)(b:UInt8):Nat:=lM 8 (c ^^^ b.toNat)
def mJ(s:Bytes):Nat:=s.foldl Il 4294967295
def fU(s:Bytes):Nat:=mJ s ^^^ 4294967295
def aB(v:Nat):Bytes:=[UInt8.ofNat (v%256),UInt8.ofNat (v / 256%256),UInt8.ofNat (v / 65536%256),UInt8.ofNat (v / 16777216%256)]
theorem Wv(c:Nat)(h:c<4294967296):p9 c<4294967296:=by
 unfold p9;split
 ·exact aam (n:=32) U Z
 ·omega
theorem Da(k c:Nat)(h:c<4294967296):lM k c<4294967296:=by
 induction k with
 | zero=>exact h
 | succ k ih=>exact Wv _ ih
theorem Ww(c:Nat)(b:UInt8)(h:c<4294967296):Il c b<4294967296 :=
 Da 8 _ (aam (n:=32) h (Nat.lt_trans (V2 b) Z))
theorem Wx(s:Bytes)(c:Nat)(h:c<4294967296):s.foldl Il c<4294967296:=by
 induction s generalizing c with
 | nil=>exact h
 | cons b s ih=>exact ih _ (Ww c b h)
theorem yV(s:Bytes):mJ s<4294967296:=Wx s _ Z
theorem yA(s:Bytes):fU s<4294967296:=aam (n:=32) (yV s) Z
theorem Uq(s:Bytes)(b:UInt8):mJ (s++[b])=Il (mJ s) b:=by simp[mJ]
theorem aH(v:Nat):(aB v).length=4:=rfl
theorem P5(a p:Bytes)(j:Nat)(h:j<p.length):mJ (a++p.take (j+1))=lM 8 (mJ (a++p.take j) ^^^ p[j].toNat):=by
 rw[M2 h,←MY,Uq];rfl
theorem vp(ps:List Bytes)(k:Nat)(h:k<ps.length):(ps.take (k+1)).flatten=(ps.take k).flatten++ps[k]:=by
 rw[M2 h,T0];simp
abbrev WrL:=Nat×Bytes
structure af where
 l:List Bytes
 p:List WrL
 b9:Int
 dead:Bool
def bH:List WrL→Nat→Bytes→Bytes
 | [],_,s=>s
 | w::p,i,s=>bH p i (if w.1=i then w.2 else s)
def iw(l:List Bytes)(p:List WrL):List Bytes:=p.foldl (fun l w=>l.set w.1 w.2) l
def ag:Bytes:=List.replicate 256 0
theorem sP(p q:List WrL)(i:Nat)(s:Bytes):bH (p++q) i s=bH q i (bH p i s):=by
 induction p generalizing s with
 | nil=>rfl
 | cons w p ih=>simp only[PC,bH];exact ih _
theorem uo(p:List WrL)(w:WrL)(i:Nat)(s:Bytes):bH (p++[w]) i s=if w.1=i then w.2 else bH p i s:=by
 rw[sP];rfl
theorem dM(p:List WrL)(i:Nat)(s:Bytes)(h:∀w∈p,w.1≠i):bH p i s=s:=by
 induction p generalizing s with
 | nil=>rfl
 | cons w p ih =>
  rw[bH,η (h w (Nm ..))];exact ih s (fun x hx=>h x (M1 _ hx))
theorem Em(p:List WrL)(i:Nat)(s t:Bytes)(h:∃w∈p,w.1=i):bH p i s=bH p i t:=by
 induction p generalizing s t with
 | nil=>obtain⟨w,hw,_⟩:=h;simp at hw
 | cons w p ih =>
  simp only[bH];by_cases hw:w.1=i
  ·rw[Φ hw,Φ hw]
  ·rw[η hw,η hw]
   obtain⟨x,hx,Bf⟩:=h;rcases NL.1 hx with rfl|hx
   ·exact absurd Bf hw
   ·exact ih s t ⟨x,hx,Bf⟩
theorem sQ(p:List WrL)(i:Nat)(s:Bytes)(h:∃w∈p,w.1=i):∃w∈p,w.1=i∧bH p i s=w.2:=by
 induction p generalizing s with
 | nil=>obtain⟨w,hw,_⟩:=h;simp at hw
 | cons w p ih =>
  simp only[bH];by_cases hp:∃x∈p,x.1=i
  ·obtain⟨x,hx,h1,h2⟩:=ih (if w.1=i then w.2 else s) hp
   exact⟨x,M1 _ hx,h1,h2⟩
  ·have hn:∀x∈p,x.1≠i:=fun x hx e=>hp ⟨x,hx,e⟩
   rw[dM p i _ hn];obtain⟨x,hx,Bf⟩:=h;rcases NL.1 hx with rfl|hx
   ·exact⟨x,Nm ..,Bf,by rw[Φ Bf]⟩
   ·exact absurd Bf (hn x hx)
theorem lY(l:List Bytes)(p:List WrL):(iw l p).length=l.length:=by
 unfold iw;induction p generalizing l with
 | nil=>rfl
 | cons w p ih=>rw[Ty,ih,SP]
theorem B4(l:List Bytes)(p:List WrL)(i:Nat)(h:i<l.length):(iw l p).getD i []=bH p i (l.getD i []):=by
 unfold iw;induction p generalizing l with
 | nil=>rfl
 | cons w p ih =>
  rw[Ty,ih (l.set w.1 w.2) (by rw[SP];exact h),bH]
  congr 1;by_cases hw:w.1=i
  ·rw[Φ hw,hw];simp[h]
  ·rw[η hw];simp[adV hw]
theorem Ur(l:List Bytes)(p q:List WrL):iw l (p++q)=iw (iw l p) q:=by simp[iw]
theorem AK(l:List Bytes)(p:List WrL)(hl:∀s∈l,s.length=256)(hp:∀w∈p,w.2.length=256):∀s∈iw l p,s.length=256:=by
 unfold iw;induction p generalizing l with
 | nil=>exact hl
 | cons w p ih =>
  rw[Ty];refine ih _ (fun s hs=>?_) (fun x hx=>hp x (M1 _ hx))
  rcases adh hs with hs|rfl
  ·exact hl s hs
  ·exact hp w (Nm ..)
namespace af
structure Ok (d:af):Prop where
 pos:0<d.l.length
 max:d.l.length≤4096
 l:∀s∈d.l,s.length=256
 p:∀w∈d.p,w.1<d.l.length∧w.2.length=256
 b9 : -1≤d.b9
 jz:d.b9≤9223372036854775807
def chk(d:af)(i:Int):Int:=if d.dead then 4 else if 0≤i∧i<d.l.length then 0 else 2
def get(d:af)(i:Nat):Bytes:=bH d.p i (d.l.getD i [])
def read(d:af)(i:Int):Bytes×Int:=if d.chk i=0 then(d.get i.toNat,0) else([],d.chk i)
def bh(d:af):af:=if d.b9=0 then { d with dead:=true } else { d with b9:=max (d.b9-1) (-1) }
def write(d:af)(i:Int)(s:Bytes):af×Int :=
 if d.chk i≠0 then(d,d.chk i) else if s.length≠256 then(d,3) else if d.b9=0 then(d.bh,4) else({ d.bh with p:=d.p++[(i.toNat,s)] },0)
def bu(d:af):af×Int :=
 if d.dead then(d,4) else if d.b9=0 then(d.bh,4) else({ d.bh with l:=iw d.l d.p,p:=[] },0)
def IP(d:af)(n:Int):af:={ d with b9:=max n (-1) }
def LE(keep:List Bool)(torn:Int)(cut:Nat)(k:Nat)(l:List Bytes)(w:WrL):List Bytes :=
 if keep.getD k false then l.set w.1 w.2 else if (k:Int)=torn then l.set w.1 (w.2.take cut++(l.getD w.1 []).drop cut) else l
def ul(keep:List Bool)(torn:Int)(cut:Nat):Nat→List Bytes→List WrL→List Bytes
 | _,l,[]=>l
 | k,l,w::p=>ul keep torn cut (k+1) (LE keep torn cut k l w) p
def cutN(cut:Int):Nat:=(min (max cut 0) 256).toNat
def crash(d:af)(keep:List Bool)(torn cut:Int):af:=⟨ul keep torn (cutN cut) 0 d.l d.p,[],-1,false⟩
def writes(d:af):List WrL→af×Int
 | []=>(d,0)
 | w::l=>if (d.write w.1 w.2).2=0 then(d.write w.1 w.2).1.writes l else d.write w.1 w.2
def new(n:Nat):af:=⟨List.replicate n ag,[],-1,false⟩
theorem lB(n:Nat)(h0:0<n)(h1:n≤4096):(new n).Ok :=
 ⟨by simpa[new] using h0,by simpa[new] using h1,fun s hs=>by rw[adk hs];exact Of,fun w hw=>by simp[new] at hw,by simp[new],by simp[new]⟩
theorem df(d:af):d.bh.l=d.l∧d.bh.p=d.p:=by unfold bh;split<;>exact⟨rfl,rfl⟩
theorem gt{d:af}(h:d.Ok):d.bh.Ok:=by
 have hf:=h.b9;have Ry:=h.jz;refine⟨by rw[(df d).1];exact h.pos,by rw[(df d).1];exact h.max,by rw[(df d).1];exact h.l,by rw[(df d).1,(df d).2];exact h.p,?_,?_⟩<;>unfold bh<;>split
 ·exact hf
 ·simp only;omega
 ·exact Ry
 ·simp only;omega
theorem eJ{d:af}(h:d.Ok)(i:Int)(s:Bytes):(d.write i s).1.Ok:=by
 unfold write;split
 ·exact h
 ·rename_i hc
  split
  ·exact h
  ·rename_i hs
   split
   ·exact gt h
   ·have ht:=gt h
    have hi:0≤i∧i<d.l.length:=by
     unfold chk at hc;cases hd:d.dead<;>simp[hd] at hc
     exact hc
    refine⟨ht.pos,ht.max,ht.l,fun w hw=>?_,ht.b9,ht.jz⟩
    rcases No.1 hw with hw|hw
    ·have:=ht.p w (by rw[(df d).2];exact hw)
     exact this
    ·rw[M3] at hw
     subst hw;refine⟨?_,by simpa using hs⟩
     show i.toNat<d.bh.l.length;rw[(df d).1];omega
theorem lm{d:af}(h:d.Ok):d.bu.1.Ok:=by
 unfold bu;split
 ·exact h
 ·split
  ·exact gt h
  ·refine⟨?_,?_,?_,fun w hw=>by simp at hw,(gt h).b9,(gt h).jz⟩
   ·show 0<(iw d.l d.p).length
    rw[lY];exact h.pos
   ·show(iw d.l d.p).length≤4096
    rw[lY];exact h.max
   ·exact AK _ _ h.l (fun w hw=>(h.p w hw).2)
theorem dE{l:List Bytes}{i n:Nat}(h:∀s∈l,s.length=n)(hi:i<l.length):(l.getD i []).length=n:=by
 rw[Θ,Mp hi];exact h _ (MA hi)
theorem eS{d:af}(h:d.Ok)(l:List WrL):(d.writes l).1.Ok:=by
 induction l generalizing d with
 | nil=>exact h
 | cons w l ih =>
  rw[writes];split
  ·exact ih (eJ h _ _)
  ·exact eJ h _ _
theorem Na(d:af)(i:Int)(s:Bytes):(d.write i s).1.l.length=d.l.length:=by
 unfold write;split
 ·rfl
 ·split
  ·rfl
  ·split
   ·rw[(df d).1]
   ·show d.bh.l.length=_
    rw[(df d).1]
theorem vz(d:af):d.bu.1.l.length=d.l.length:=by
 unfold bu;split
 ·rfl
 ·split
  ·rw[(df d).1]
  ·exact lY _ _
theorem gm(d:af)(l:List WrL):(d.writes l).1.l.length=d.l.length:=by
 induction l generalizing d with
 | nil=>rfl
 | cons w l ih =>
  rw[writes];split
  ·rw[ih,Na]
  ·exact Na _ _ _
theorem gj{d:af}(h:d.Ok)(i:Nat)(hi:i<d.l.length):(d.get i).length=256:=by
 unfold get;by_cases hp:∃w∈d.p,w.1=i
 ·obtain⟨w,hw,_,e⟩:=sQ d.p i (d.l.getD i []) hp
  rw[e];exact(h.p w hw).2
 ·rw[dM _ _ _ (fun w hw e=>hp ⟨w,hw,e⟩)]
  exact dE h.l hi
end af
def bA(s:Bytes)(k:Nat):Nat:=(s.getD k 0).toNat
def gZ(s:Bytes):Nat→Nat
 | 0=>0
 | k+1=>gZ s k+bA s k%128*128 ^ k
theorem jW(s:Bytes)(k:Nat):bA s k<256:=V2 _
theorem DC(s:Bytes)(k:Nat):gZ s k<128 ^ k:=by
 induction k with
 | zero=>simp[gZ]
 | succ k ih =>
  rw[gZ,aae];have h1:bA s k%128≤127:=U;have h2:=WP (128 ^ k) h1;omega
theorem Nb(c:UInt8)(t:Bytes)(k:Nat):gZ (c::t) (k+1)=c.toNat%128+128*gZ t k:=by
 induction k with
 | zero=>simp[gZ,bA]
 | succ k ih =>
  rw[gZ,ih,gZ];have:bA (c::t) (k+1)=bA t k:=rfl;rw[this,aae,Nat.mul_add];have e:bA t k%128*(128 ^ k*128)=128*(bA t k%128*128 ^ k):=by rw[←Nat.mul_assoc,We]
  rw[e];omega
def Ends(s:Bytes)(k:Nat):Prop:=k<s.length∧(∀j,j<k→128≤bA s j)∧bA s k<128∧(0<k→bA s k≠0)
theorem Fo(s:Bytes)(k:Nat)(h:Ends s k)(hk:0<k):0<gZ s (k+1):=by
 rw[gZ];have h1:0<bA s k%128:=by have:=h.2.2.1;have:=h.2.2.2 hk;omega
 have:=Nat.mul_pos h1 (Nat.pow_pos (n:=k) (show 0<128 by omega))
 omega
theorem P6(n k:Nat)(s:Bytes)(h:Ends s k)(hn:k<n):jC n (gZ s (k+1))=s.take (k+1):=by
 induction k generalizing n s with
 | zero =>
  obtain⟨h1,_,h3,_⟩:=h;cases s with
  | nil=>simp at h1
  | cons c t =>
   cases n with
   | zero=>omega
   | succ n =>
    have e:gZ (c::t) 1=c.toNat:=by
     have:c.toNat<128:=h3;simp[gZ,bA];omega
    have hc:c.toNat<128:=h3;rw[PF,e,jC,Φ hc];simp
 | succ k ih =>
  obtain⟨h1,h2,h3,h4⟩:=h;cases s with
  | nil=>simp at h1
  | cons c t =>
   cases n with
   | zero=>omega
   | succ n =>
    have ht:Ends t k:=⟨by simpa using h1,fun j hj=>h2 (j+1) U,h3,fun _=>h4 U⟩
    have Ym:0<gZ t (k+1):=by
     by_cases hk:0<k
     ·exact Fo t k ht hk
     ·have lT:k=0:=U
      subst lT;have h5:bA t 0≠0:=h4 U;have h6:bA t 0<128:=h3;have e:gZ t (0+1)=bA t 0%128:=by simp[gZ]
      rw[e];omega
    have hc:128≤c.toNat:=h2 0 U;have dI:=V2 c;rw[Nb,jC,η U,show(c.toNat%128+128*gZ t (k+1))%128+128=c.toNat by omega,
     show(c.toNat%128+128*gZ t (k+1)) / 128=gZ t (k+1) by omega,ih n t ht U]
    simp
theorem P7(n v:Nat)(hv:v<128 ^ n)(hn:0<n):∃k,k<n∧(jC n v).length=k+1∧Ends (jC n v) k∧gZ (jC n v) (k+1)=v:=by
 induction n generalizing v with
 | zero=>omega
 | succ n ih =>
  rw[jC];by_cases h:v<128
  ·rw[Φ h]
   have hb:bA [UInt8.ofNat v] 0=v:=toNat_ofNat v U;exact⟨0,U,rfl,⟨κ,fun j hj=>U,by rw[hb];exact h,fun h0=>U⟩,by simp[gZ,hb];omega⟩
  ·rw[η h]
   have xQ:0<n:=by
    rcases UX n with h0|h0
    ·subst h0;simp at hv;omega
    ·exact h0
   rw[aae] at hv;obtain⟨k,h1,h2,⟨h3,h4,h5,h6⟩,h7⟩:=ih (v / 128) (by rw[abr U];omega) xQ
   have hc:(UInt8.ofNat (v%128+128)).toNat=v%128+128:=toNat_ofNat _ U;refine⟨k+1,U,by simp[h2],⟨by simpa using h3,fun j hj=>?_,h5,fun _=>?_⟩,?_⟩
   ·cases j with
    | zero=>show 128≤(UInt8.ofNat (v%128+128)).toNat;omega
    | succ j=>exact h4 j U
   ·show bA (jC n (v / 128)) k≠0
    by_cases hk:0<k
    ·exact h6 hk
    ·have lT:k=0:=U
     subst lT;rw[PF,gZ,gZ] at h7;simp at h7;omega
   ·rw[Nb,h7,hc];omega
theorem pL:(128:Nat) ^ 9=9223372036854775808:=Z
theorem Fb(s:Bytes)(k:Nat)(h:Ends s k)(hk:k<10)(h9:k=9→bA s k≤1):fY s (gZ s (k+1)) (s.drop (k+1)):=by
 refine⟨?_,?_⟩
 ·have h1:=DC s (k+1)
  by_cases e:k=9
  ·subst e
   have h2:=DC s 9;rw[gZ];have h3:=h9 rfl;have h4:bA s 9%128≤1:=U;have h5:=WP (128 ^ 9) h4;rw[pL] at h2 h5 ⊢;omega
  ·have:128 ^ (k+1)≤128 ^ 9:=ZS U U
   rw[pL] at this;omega
 ·unfold dN
  rw[P6 10 k s h hk,PP]
theorem wS(a b:Bytes)(k:Nat)(h:k<a.length):bA (a++b) k=bA a k:=by
 unfold bA;rw[Θ,Θ,TX h]
theorem zN(s:Bytes)(v:Nat)(r:Bytes)(h:fY s v r):∃k,k<10∧Ends s k∧(k=9→bA s k≤1):=by
 obtain⟨hv,rfl⟩:=h;unfold dN;obtain⟨k,h1,h2,⟨h3,h4,h5,h6⟩,h7⟩:=P7 10 v (nf v hv) U;refine⟨k,h1,⟨by simp;omega,fun j hj=>?_,?_,fun h0=>?_⟩,fun e=>?_⟩
 ·rw[wS _ _ _ U];exact h4 j hj
 ·rw[wS _ _ _ U];exact h5
 ·rw[wS _ _ _ U];exact h6 h0
 ·rw[wS _ _ _ U]
  subst e;rw[gZ] at h7;have h8:bA (jC 10 v) 9%128=bA (jC 10 v) 9:=U;rw[h8,pL] at h7;by_cases h9:bA (jC 10 v) 9≤1
  ·exact h9
  ·have:2≤bA (jC 10 v) 9:=U
   have:=WP 9223372036854775808 this;omega
theorem BV(s:Bytes)(j k:Nat)(h:Ends s j)(hj:bA s k<128)(hk:∀i,i<k→128≤bA s i):j=k:=by
 rcases abl j k with h1|h1|h1
 ·have:=hk j h1;have:=h.2.2.1;omega
 ·exact h1
 ·have:=h.2.1 k h1;omega
def aM(s:Bytes):Nat:=bA s 0+256*bA s 1+65536*bA s 2+16777216*bA s 3
theorem eU(s:Bytes):aM s<4294967296:=by
 have:=jW s 0;have:=jW s 1;have:=jW s 2;have:=jW s 3;unfold aM;omega
theorem kK(v:Nat)(r:Bytes):aM (aB v++r)=v%4294967296:=by
 have h:∀n,n<256→(UInt8.ofNat n).toNat=n:=toNat_ofNat;unfold aM;simp only[bA,aB,PC,Pr,acK,abJ];rw[h _ U,h _ U,h _ U,h _ U];omega
theorem uq(v:Nat):aB (v%4294967296)=aB v:=by
 unfold aB;rw[show v%4294967296%256=v%256 by omega,show v%4294967296 / 256%256=v / 256%256 by omega,show v%4294967296 / 65536%256=v / 65536%256 by omega,show v%4294967296 / 16777216%256=v / 16777216%256 by omega]
def bg(n:Nat):Bytes:=List.replicate n 0
theorem fC(n:Nat):(bg n).length=n:=Of
def iR(l:List Nat):Bytes:=l.flatMap aB
theorem uw(l:List Nat):(iR l).length=4*l.length:=by
 induction l with
 | nil=>rfl
 | cons x l ih=>simp only[iR,OR,Δ,Mu] at ih ⊢;rw[ih,aH];omega
def ek:Bytes:=[67,68,88,84]
def dq:Bytes:=[67,68,88,69]
def jo(seq:Nat)(ws:List WrL):Bytes :=
 ek++(aB seq++(aB (seq / 4294967296)++(aB ws.length++(iR (ws.map (·.1))++bg (232-4*ws.length)))))
def En(ws:List WrL):Bytes:=(ws.map (·.2)).flatten
def bK(seq:Nat)(ws:List WrL):Bytes:=jo seq ws++(aB (fU (jo seq ws++En ws))++dq)
def jG(seq:Nat)(ws:List WrL):List Bytes:=bK seq ws::ws.map (·.2)
def sS(ws:List WrL):Prop:=1≤ws.length∧ws.length≤48∧∀w∈ws,w.1<4096∧w.2.length=256
theorem qd(seq:Nat)(ws:List WrL)(h:ws.length≤48):(jo seq ws).length=248:=by
 simp only[jo,Δ,aH,uw,fC,OK];have:ek.length=4:=rfl;omega
theorem nD(seq:Nat)(ws:List WrL)(h:ws.length≤48):(bK seq ws).length=256:=by
 simp only[bK,Δ,aH,qd seq ws h];rfl
def numsL:Nat→Bytes→Option (List Nat×Bytes)
 | 0,s=>some ([],s)
 | n+1,s=>if aM s<4096 then(numsL n (s.drop 4)).map fun r=>(aM s::r.1,r.2) else none
def dV(b:Bytes):Option (Nat×List Nat) :=
 if b.length=256∧b.take 4=ek∧b.drop 252=dq then
  let n:=aM (b.drop 12)
  if 1≤n∧n≤48 then
   match numsL n ((b.drop 16).take 232) with
   | some (l,r)=>if r.all (·==0) then some (aM (b.drop 8)*4294967296+aM (b.drop 4),l) else none
   | none=>none
  else none
 else none
def eD(l:List Bytes):Option (Nat×List WrL) :=
 match l with
 | []=>none
 | b::rest =>
  match dV b with
  | none=>none
  | some (seq,at_) =>
   if rest.length<at_.length∨∃s∈rest.take at_.length,s.length≠256 then none
   else if aB (fU (b.take 248++(rest.take at_.length).flatten))=(b.drop 248).take 4 then some (seq,at_.zip rest) else none
theorem P8(l:List Nat)(r:Bytes)(h:∀x∈l,x<4096):numsL l.length (iR l++r)=some (l,r):=by
 induction l with
 | nil=>rfl
 | cons x l ih =>
  have hx:=h x (Nm ..);have e:iR (x::l)++r=aB x++(iR l++r):=by simp[iR,MY]
  have hd:(aB x++(iR l++r)).drop 4=iR l++r:=abO (aH x);rw[Mu,numsL,e,kK,Φ U,hd,ih (fun y hy=>h y (M1 _ hy))]
  simp only[acv];rw[PQ U]
theorem jX(a b:Bytes)(n:Nat)(h:a.length=n):(a++b).drop n=b:=abO h
theorem yB(a b:Bytes)(n:Nat)(h:a.length=n):(a++b).take n=a:=TO h
theorem yl(a b:Bytes)(n k:Nat)(h:a.length=n):(a++b).drop (n+k)=b.drop k:=by rw[←Ps,jX a b n h]
theorem Us(seq:Nat)(hs:seq<18446744073709551616)(ws:List WrL)(h:sS ws):dV (bK seq ws)=some (seq,ws.map (·.1)):=by
 obtain⟨h1,h2,h3⟩:=h;have hb:=qd seq ws h2;have hl:=nD seq ws h2;have m4:ek.length=4:=rfl;have e4:(bK seq ws).drop 4=aB seq++(aB (seq / 4294967296)++(aB ws.length++(iR (ws.map (·.1))++bg (232-4*ws.length))))++(aB (fU (jo seq ws++En ws))++dq):=by
  rw[bK,jo,MY ek,jX _ _ _ m4]
 have e8:(bK seq ws).drop 8=aB (seq / 4294967296)++(aB ws.length++(iR (ws.map (·.1))++bg (232-4*ws.length)))++(aB (fU (jo seq ws++En ws))++dq):=by
  rw[show(8:Nat)=4+4 from rfl,←Ps,e4,MY (aB seq),jX _ _ _ (aH _)]
 have e12:(bK seq ws).drop 12=aB ws.length++(iR (ws.map (·.1))++bg (232-4*ws.length))++(aB (fU (jo seq ws++En ws))++dq):=by
  rw[show(12:Nat)=8+4 from rfl,←Ps,e8,MY (aB (seq / _)),jX _ _ _ (aH _)]
 have e16:(bK seq ws).drop 16=(iR (ws.map (·.1))++bg (232-4*ws.length))++(aB (fU (jo seq ws++En ws))++dq):=by
  rw[show(16:Nat)=12+4 from rfl,←Ps,e12,MY (aB ws.length),jX _ _ _ (aH _)]
 have hz:(iR (ws.map (·.1))++bg (232-4*ws.length)).length=232:=by
  simp only[Δ,uw,fC,OK];omega
 have et:(bK seq ws).take 4=ek:=by rw[bK,jo,MY ek,yB _ _ _ m4]
 have ee:(bK seq ws).drop 252=dq:=by
  rw[bK,show(252:Nat)=248+4 from rfl,yl _ _ _ _ hb,jX _ _ _ (aH _)]
 unfold dV;rw[Φ ⟨hl,et,ee⟩];simp only[];rw[e12,MY (aB ws.length),kK,PQ U,Φ ⟨h1,h2⟩,e16,yB _ _ _ hz];have hn:=P8 (ws.map (·.1)) (bg (232-4*ws.length)) (fun x hx=>by
  obtain⟨w,hw,rfl⟩:=NF.1 hx;exact(h3 w hw).1)
 rw[OK] at hn;rw[hn];simp only[];rw[Φ (by simp[bg]),e8,MY (aB (seq / _)),kK,e4,MY (aB seq),kK]
 congr 2;omega
theorem zj(ws:List WrL)(r:List Bytes):(ws.map (·.1)).zip (ws.map (·.2)++r)=ws:=by
 induction ws with
 | nil=>rfl
 | cons w ws ih=>simp[ih]
theorem unpack_pack(seq:Nat)(hs:seq<18446744073709551616)(ws:List WrL)(h:sS ws)(r:List Bytes):eD (jG seq ws++r)=some (seq,ws):=by
 obtain⟨h1,h2,h3⟩:=h;have ht:(ws.map (·.2)++r).take (ws.map (·.1)).length=ws.map (·.2):=by rw[OK];exact TO κ
 unfold eD jG;simp only[PC];rw[Us seq hs ws ⟨h1,h2,h3⟩];simp only[];rw[η,Φ,zj]
 ·rw[ht,bK,yB _ _ _ (qd seq ws h2),jX _ _ _ (qd seq ws h2),yB _ _ _ (aH _),En]
 ·rintro(hc|⟨s,hs,aU⟩)
  ·simp at hc
   omega
  ·rw[ht] at hs
   obtain⟨w,hw,rfl⟩:=NF.1 hs;exact aU (h3 w hw).2
theorem IJ(b:Bytes)(r:List Bytes)(h:b.drop 252≠dq):eD (b::r)=none:=by
 have e:dV b=none:=by
  unfold dV;rw[η (fun h'=>h h'.2.2)]
 unfold eD;simp only[e]
structure bw where
 e:Nat
 s:Nat
 log:Nat
 place:Nat
deriving DecidableEq
def fS:Bytes:=[67,68,88,83]
def gN(s:bw):Bytes:=fS++(aB s.e++(aB (s.e / 4294967296)++(aB s.s++(aB (s.s / 4294967296)++(aB s.log++(aB s.place++bg 100))))))
def aQ(s:bw):Bytes:=gN s++gN s
theorem nE(s:bw):(gN s).length=128:=by
 simp only[gN,Δ,aH,fC];rfl
theorem gB(s:bw):(aQ s).length=256:=by simp only[aQ,Δ,nE]
def gP(t:Bytes):bw :=
 ⟨aM (t.drop 8)*4294967296+aM (t.drop 4),aM (t.drop 16)*4294967296+aM (t.drop 12),aM (t.drop 20),aM (t.drop 24)⟩
def aR(t:Bytes)(n:Nat):Option bw :=
 if 50≤(gP t).log∧(gP t).log+3≤n∧(gP t).place<(gP t).log∧aQ (gP t)=t then some (gP t) else none
structure bw.Ok (s:bw):Prop where
 he:s.e<18446744073709551616
 hs:s.s<18446744073709551616
 cG:s.log<4294967296
 eW:s.place<4294967296
theorem AO(s:bw)(h:s.Ok)(r:Bytes):gP (gN s++r)=s:=by
 have m4:fS.length=4:=rfl;have e4:(gN s++r).drop 4=aB s.e++((aB (s.e / 4294967296)++(aB s.s++(aB (s.s / 4294967296)++(aB s.log++(aB s.place++bg 100)))))++r):=by
  rw[gN,MY fS,jX _ _ _ m4,MY]
 have e8:(gN s++r).drop 8=aB (s.e / 4294967296)++((aB s.s++(aB (s.s / 4294967296)++(aB s.log++(aB s.place++bg 100))))++r):=by
  rw[show(8:Nat)=4+4 from rfl,←Ps,e4,jX _ _ _ (aH _),MY]
 have e12:(gN s++r).drop 12=aB s.s++((aB (s.s / 4294967296)++(aB s.log++(aB s.place++bg 100)))++r):=by
  rw[show(12:Nat)=8+4 from rfl,←Ps,e8,jX _ _ _ (aH _),MY]
 have e16:(gN s++r).drop 16=aB (s.s / 4294967296)++((aB s.log++(aB s.place++bg 100))++r):=by
  rw[show(16:Nat)=12+4 from rfl,←Ps,e12,jX _ _ _ (aH _),MY]
 have e20:(gN s++r).drop 20=aB s.log++((aB s.place++bg 100)++r):=by
  rw[show(20:Nat)=16+4 from rfl,←Ps,e16,jX _ _ _ (aH _),MY]
 have e24:(gN s++r).drop 24=aB s.place++(bg 100++r):=by
  rw[show(24:Nat)=20+4 from rfl,←Ps,e20,jX _ _ _ (aH _),MY]
 obtain⟨h1,h2,h3,h4⟩:=h;unfold gP;rw[e4,e8,e12,e16,e20,e24,kK,kK,kK,kK,kK,kK];cases s;simp only at *;congr 1<;>omega
theorem Ut(s:bw)(h:s.Ok)(n:Nat)(h1:50≤s.log)(h2:s.log+3≤n)(h3:s.place<s.log):aR (aQ s) n=some s:=by
 have e:gP (aQ s)=s:=AO s h _;unfold aR;rw[e,Φ ⟨h1,h2,h3,rfl⟩]
theorem IK{t:Bytes}{n:Nat}{s:bw}(h:aR t n=some s):aQ s=t∧50≤s.log∧s.log+3≤n∧s.place<s.log:=by
 unfold aR at h;split at h
 ·rename_i hc
  injection h with h;subst h;exact⟨hc.2.2.2,hc.1,hc.2.1,hc.2.2.1⟩
 ·exact absurd h κ
theorem FU(t:Bytes):(gP t).Ok:=by
 have h1:=eU (t.drop 4);have h2:=eU (t.drop 8);have h3:=eU (t.drop 12);have h4:=eU (t.drop 16);refine⟨?_,?_,eU _,eU _⟩<;>simp only[gP]<;>omega
theorem FV{t:Bytes}{n:Nat}{s:bw}(h:aR t n=some s):s.Ok:=by
 unfold aR at h;split at h
 ·injection h with h
  subst h;exact FU t
 ·exact absurd h κ
theorem Uu(s:bw)(h:s.Ok)(t:Bytes)(ht:t.length=256)(c:Nat)(n:Nat)(r:bw)(hr:aR ((aQ s).take c++t.drop c) n=some r):
  (r=s∧(aQ s).take c++t.drop c=aQ s)∨(gN r=t.drop 128):=by
 obtain⟨he,_⟩:=IK hr;have zU:=FV hr;by_cases hc:128≤c
 ·left
  have hh:gN r=gN s:=by
   have h1:=RE (List.take 128) he;rw[aQ,yB _ _ _ (nE r)] at h1;rw[h1,Se (by rw[Mz,gB];omega),abt,Sx hc,aQ,yB _ _ _ (nE s)]
  have e:r=s:=by
   have h1:=AO r zU [];rw[hh,AO s h []] at h1;exact h1.symm
  subst e;exact⟨rfl,he.symm⟩
 ·right
  have h1:=RE (List.drop 128) he;rw[aQ,jX _ _ _ (nE r)] at h1;rw[h1,aaf,Mz,gB,Ps];rw[P3 (by rw[Mz,gB];omega),Pr]
  congr 1;omega
abbrev at'(l:List Bytes)(i:Nat):Bytes:=l.getD i []
def iK(l:List Bytes)(w:WrL)(c:Nat):List Bytes:=l.set w.1 (w.2.take c++(at' l w.1).drop c)
inductive Img:List Bytes→List WrL→List Bytes→Prop
 | nil (l:List Bytes):Img l [] l
 | cons {l l':List Bytes} {w:WrL} {p:List WrL} (c:Nat):Img (iK l w c) p l'→Img l (w::p) l'
theorem dh(l:List Bytes)(w:WrL)(c:Nat):(iK l w c).length=l.length:=by simp[iK]
theorem yX(l:List Bytes)(w:WrL)(c i:Nat)(hw:w.1<l.length):at' (iK l w c) i=if w.1=i then w.2.take c++(at' l i).drop c else at' l i:=by
 unfold iK at';by_cases h:w.1=i
 ·subst h;rw[Φ rfl,Θ,List.getElem?_set_self hw];rfl
 ·rw[η h,Θ,adV h,Θ]
theorem vV(l:List Bytes)(w:WrL)(c:Nat)(hl:∀s∈l,s.length=256)(hw:w.1<l.length)(hs:w.2.length=256):∀s∈iK l w c,s.length=256:=by
 intro s h;rcases adh h with h|rfl
 ·exact hl s h
 ·have:=af.dE hl hw
  simp only[Δ,Mz,MM,hs,this];omega
theorem Img.len{l l':List Bytes}{p:List WrL}(h:Img l p l'):l'.length=l.length:=by
 induction h with
 | nil l=>rfl
 | cons c _ ih=>rw[ih,dh]
theorem Img.all{l l':List Bytes}{p:List WrL}(h:Img l p l')(hl:∀s∈l,s.length=256)(hp:∀w∈p,w.1<l.length∧w.2.length=256):∀s∈l',s.length=256:=by
 induction h with
 | nil l=>exact hl
 | cons c _ ih =>
  refine ih (vV _ _ _ hl (hp _ (Nm ..)).1 (hp _ (Nm ..)).2) (fun x hx=>?_)
  rw[dh];exact hp x (M1 _ hx)
theorem Img.pres{l l':List Bytes}{p:List WrL}(h:Img l p l')(i:Nat)(Pd:Bytes→Prop)(hl:∀s∈l,s.length=256)(hi:i<l.length)(hp:∀w∈p,w.1<l.length∧w.2.length=256)
  (hk:∀w∈p,w.1=i→∀b c,Pd b→b.length=256→Pd (w.2.take c++b.drop c)) (h0:Pd (at' l i)):Pd (at' l' i):=by
 induction h with
 | nil l=>exact h0
 | @cons l l' w p c _ ih =>
  have hw:=hp w (Nm ..);refine ih (vV _ _ _ hl hw.1 hw.2) (by rw[dh];exact hi) (fun x hx=>by rw[dh];exact hp x (M1 _ hx)) (fun x hx=>hk x (M1 _ hx)) ?_
  rw[yX _ _ _ _ hw.1];by_cases h:w.1=i
  ·rw[Φ h];exact hk w (Nm ..) h _ _ h0 (af.dE hl hi)
  ·rw[η h];exact h0
theorem Img.same{l l':List Bytes}{p:List WrL}(h:Img l p l')(i:Nat)(hp:∀w∈p,w.1<l.length)(hn:∀w∈p,w.1≠i):at' l' i=at' l i:=by
 induction h with
 | nil l=>rfl
 | @cons l l' w p c _ ih =>
  rw[ih (fun x hx=>by rw[dh];exact hp x (M1 _ hx)) (fun x hx=>hn x (M1 _ hx)),yX _ _ _ _ (hp w (Nm ..)),η (hn w (Nm ..))]
theorem Img.split{l l':List Bytes}{p q:List WrL}(h:Img l (p++q) l'):∃l1,Img l p l1∧Img l1 q l':=by
 induction p generalizing l with
 | nil=>exact⟨l,.nil l,h⟩
 | cons w p ih =>
  cases h with
  | cons c h =>
   obtain⟨l1,h1,h2⟩:=ih h;exact⟨l1,.cons c h1,h2⟩
theorem Img.one{l l':List Bytes}{w:WrL}(h:Img l [w] l'):∃c,l'=iK l w c:=by
 cases h with
 | cons c h=>cases h;exact⟨c,rfl⟩
def cS(s:bw)(k:Nat):Nat:=2+(s.place+k)%s.log
theorem gG(s:bw)(k:Nat)(h:0<s.log):2≤cS s k∧cS s k<2+s.log:=by
 have:=Tr (s.place+k) h;unfold cS;omega
theorem yY(s:bw)(hp:s.place<s.log)(i j:Nat)(hi:i<s.log)(hj:j<s.log)(h:cS s i=cS s j):i=j:=by
 unfold cS at h;have h':(s.place+i)%s.log=(s.place+j)%s.log:=U;have e:∀k,k<s.log→(s.place+k)%s.log=if s.place+k<s.log then s.place+k else s.place+k-s.log:=fun k hk=>by
  split
  ·exact PQ (by assumption)
  ·rw[Nat.mod_eq_sub_mod U,PQ U]
 rw[e i hi,e j hj] at h';split at h'<;>split at h'<;>omega
def d9(u:Nat)(fr:List (List WrL)):Nat:=fr.foldl (fun u ws=>u+ws.length+1) u
theorem qV(u:Nat)(ws:List WrL)(fr:List (List WrL)):d9 u (ws::fr)=d9 (u+ws.length+1) fr:=rfl
theorem wT(u:Nat)(fr:List (List WrL))(ws:List WrL):d9 u (fr++[ws])=d9 u fr+ws.length+1:=by simp[d9]
theorem P9(u:Nat)(fr:List (List WrL)):u≤d9 u fr:=by
 induction fr generalizing u with
 | nil=>exact Ω _
 | cons ws fr ih=>rw[qV];have:=ih (u+ws.length+1);omega
def Chain(l:List Bytes)(s:bw):Nat→Nat→List (List WrL)→Prop
 | u,q,[]=>u<s.log∧(at' l (cS s u)).drop 252≠dq
 | u,q,ws::fr=>sS ws∧(∀w∈ws,2+s.log≤w.1∧w.1<l.length)∧u+ws.length+1<s.log ∧
  (∀i,i≤ws.length→at' l (cS s (u+i))=(jG q ws).getD i [])∧Chain l s (u+ws.length+1) (q+1) fr
theorem Chain.used{l:List Bytes}{s:bw}:∀{fr:List (List WrL)} {u q:Nat},Chain l s u q fr→d9 u fr<s.log
 | [],u,q,h=>h.1
 | ws::fr,u,q,h=>by rw[qV];exact h.2.2.2.2.used
theorem Chain.end{l:List Bytes}{s:bw}:∀{fr:List (List WrL)} {u q:Nat},Chain l s u q fr→(at' l (cS s (d9 u fr))).drop 252≠dq
 | [],u,q,h=>h.2
 | ws::fr,u,q,h=>by rw[qV];exact h.2.2.2.2.end
theorem Chain.ok{l:List Bytes}{s:bw}:∀{fr:List (List WrL)} {u q:Nat},Chain l s u q fr→∀ws∈fr,sS ws∧∀w∈ws,2+s.log≤w.1∧w.1<l.length
 | [],u,q,h=>fun ws hws=>by simp at hws
 | x::fr,u,q,h=>fun ws hws=>by
  rcases NL.1 hws with rfl|hws
  ·exact⟨h.1,h.2.1⟩
  ·exact h.2.2.2.2.ok ws hws
theorem Chain.ext{l l':List Bytes}{s:bw}(hlen:l'.length=l.length):∀{fr:List (List WrL)} {u q:Nat},Chain l s u q fr→(∀k,k<d9 u fr→at' l' (cS s k)=at' l (cS s k))→(at' l' (cS s (d9 u fr))).drop 252≠dq→Chain l' s u q fr
 | [],u,q,h,_,he=>⟨h.1,he⟩
 | ws::fr,u,q,h,hk,he=>by
  have hu:=P9 (u+ws.length+1) fr
  refine⟨h.1,by rw[hlen];exact h.2.1,h.2.2.1,fun i hi=>?_,h.2.2.2.2.ext hlen hk he⟩
  rw[hk (u+i) (by rw[qV];omega)]
  exact h.2.2.2.1 i hi
theorem Chain.snoc{l l':List Bytes}{s:bw}(hlen:l'.length=l.length)(ws:List WrL)(hw:sS ws)(hh:∀w∈ws,2+s.log≤w.1∧w.1<l.length):∀{fr:List (List WrL)} {u q:Nat},Chain l s u q fr→(∀k,k<d9 u fr→at' l' (cS s k)=at' l (cS s k)) →
  d9 u fr+ws.length+1<s.log→(∀i,i≤ws.length→at' l' (cS s (d9 u fr+i))=(jG (q+fr.length) ws).getD i [])→(at' l' (cS s (d9 u fr+ws.length+1))).drop 252≠dq→Chain l' s u q (fr++[ws])
 | [],u,q,h,hk,h1,h2,he=>⟨hw,by rw[hlen];exact hh,h1,h2,h1,he⟩
 | x::fr,u,q,h,hk,h1,h2,he=>by
  have hu:=P9 (u+x.length+1) fr
  refine⟨h.1,by rw[hlen];exact h.2.1,h.2.2.1,fun i hi=>?_,Chain.snoc hlen ws hw hh h.2.2.2.2 hk h1 (fun i hi=>?_) he⟩
  ·rw[hk (u+i) (by rw[qV];omega)]
   exact h.2.2.2.1 i hi
  ·have:=h2 i hi
   rw[Mu,qV] at this
   rw[this]
   congr 2;omega
def jq(s:bw)(fr:List (List WrL)):bw:=⟨s.e+1,s.s+fr.length,s.log,(s.place+d9 0 fr)%s.log⟩
def io(X:Bytes)(s:bw):Prop:=X=ag∨∃r:bw,r.Ok∧X=aQ r∧r.e<s.e
def kO(X:Bytes)(s s':bw):Prop:=∃c X0,io X0 s∧X=(aQ s').take c++X0.drop c∧X≠aQ s'
theorem io.len{X:Bytes}{s:bw}(h:io X s):X.length=256:=by
 rcases h with rfl|⟨r,_,rfl,_⟩
 ·exact Of
 ·exact gB r
theorem FX{s r:bw}(hs:s.Ok)(hr:r.Ok)(h:aQ s=aQ r):s=r:=by
 have h1:=AO s hs (gN s);have h2:=AO r hr (gN r);rw[show gN s++gN s=aQ s from rfl,h,show aQ r=gN r++gN r from rfl,h2] at h1
 exact h1.symm
theorem wv{s r:bw}(hs:s.Ok)(hr:r.Ok)(h:gN s=gN r):s=r:=FX hs hr (by rw[aQ,aQ,h])
theorem kO.less{X:Bytes}{s s':bw}(h:kO X s s')(ho:s'.Ok)(n:Nat)(r:bw)(hr:aR X n=some r):r.e<s.e:=by
 obtain⟨c,X0,h0,rfl,aU⟩:=h;rcases Uu s' ho X0 h0.len c n r hr with ⟨_,hw⟩|hh
 ·exact absurd hw aU
 ·rcases h0 with rfl|⟨q,hq,rfl,hl⟩
  ·have:=RE (fun t:Bytes=>t[0]?) hh
   simp only[ag,gN,fS,acL,Tb,PC,W8] at this;exact absurd this Z
  ·rw[aQ,jX _ _ _ (nE q)] at hh
   rw[wv (FV hr) hq hh];exact hl
theorem xm(a b:Bytes)(ha:a.length=256)(hb:b.length=256)(c d:Nat):a.take d++(a.take c++b.drop c).drop d=a.take (max c d)++b.drop (max c d):=by
 have hlen:(a.take c).length=min c 256:=by rw[Mz,ha]
 rw[aaf,hlen,Ps];by_cases h:d≤c
 ·rw[Nat.max_eq_left h,←MY]
  congr 1
  ·rw[aad,show List.take c a=List.take (d+(c-d)) a by rw[Nat.add_sub_cancel' h],ad5]
  ·by_cases hc:c≤256
   ·congr 1;omega
   ·rw[P3 (by rw[hb];omega),P3 (by rw[hb];omega)]
 ·rw[Nat.max_eq_right U,P3 (by rw[hlen];omega),Pr]
  by_cases hc:c≤256
  ·congr 2;omega
  ·rw[P3 (by rw[hb];omega),P3 (by rw[hb];omega)]
structure fe (l:List Bytes) (s:bw) (k:Nat) (fr:List (List WrL)) (C:Nat→Bytes):Prop where
 hmax:l.length≤4096
 hall:∀b∈l,b.length=256
 ef:50≤s.log
 cG:s.log+3≤l.length
 eW:s.place<s.log
 he:s.e+1<18446744073709551616
 hs:s.s+fr.length<18446744073709551616
 hk:k≤1
 lh:at' l k=aQ s
 hother:kO (at' l (1-k)) s (jq s fr)
 hchain:Chain l s 0 s.s fr
 hhome:∀i,2+s.log≤i→i<l.length→bH fr.flatten i (at' l i)=C i
theorem fe.ok{l:List Bytes}{s:bw}{k:Nat}{fr:List (List WrL)}{C:Nat→Bytes}(h:fe l s k fr C):s.Ok∧(jq s fr).Ok:=by
 have h1:=h.hmax;have h2:=h.cG;have h3:=h.eW;have h4:=h.he;have h5:=h.hs;have:=Tr (s.place+d9 0 fr) (show 0<s.log by omega)
 refine⟨⟨U,U,U,U⟩,⟨?_,?_,?_,?_⟩⟩<;>simp only[jq]<;>omega
def Eo(l0 l1:Option bw):Option (bw×Nat) :=
 match l0,l1 with
 | some a,some b=>if a.e<b.e then some (b,1) else some (a,0)
 | some a,none=>some (a,0)
 | none,some b=>some (b,1)
 | none,none=>none
theorem fe.pick{l:List Bytes}{s:bw}{k:Nat}{fr:List (List WrL)}{C:Nat→Bytes}(h:fe l s k fr C):Eo (aR (at' l 0) l.length) (aR (at' l 1) l.length)=some (s,k):=by
 have hs:=Ut s h.ok.1 l.length h.ef h.cG h.eW;have ho:=fun r hr=>h.hother.less h.ok.2 l.length r hr
 have bX:=h.lh;have hk:k=0∨k=1:=by have:=h.hk;omega
 rcases hk with rfl|rfl
 ·rw[bX,hs]
  cases hr:aR (at' l 1) l.length with
  | none=>rfl
  | some r =>
   have:=ho r hr;simp only[Eo];rw[η U]
 ·rw[bX,hs]
  cases hr:aR (at' l 0) l.length with
  | none=>rfl
  | some r =>
   have:=ho r hr;simp only[Eo];rw[Φ this]
def Allowed(s:bw)(fr:List (List WrL))(w:WrL):Prop :=
 (2+s.log≤w.1∧∃x∈fr.flatten,x.1=w.1)∨∃k,d9 0 fr≤k∧k<s.log∧w.1=cS s k∧(k=d9 0 fr→w.2=ag)
theorem p6(b:Bytes)(hb:b.length=256)(h:b.drop 252≠dq)(c:Nat):(ag.take c++b.drop c).drop 252≠dq:=by
 have hn:ag.length=256:=Of;by_cases hc:c≤252
 ·rw[aaf,Mz,hn,Ps,P3 (by rw[Mz,hn];omega),Pr,show c+(252-min c 256)=252 by omega]
  exact h
 ·intro he
  have h0:=RE (fun t:Bytes=>t[0]?) he
  simp only[VC] at h0;rw[TX (by rw[Mz,hn];omega),VM,Φ U] at h0
  exact absurd h0 (by unfold ag dq;rw[Tb];simp)
theorem fe.img{l l':List Bytes}{s:bw}{k:Nat}{fr:List (List WrL)}{C:Nat→Bytes}(h:fe l s k fr C){p:List WrL}(hp:∀w∈p,w.1<l.length∧w.2.length=256)(ha:∀w∈p,Allowed s fr w)(hi:Img l p l'):fe l' s k fr C:=by
 have cG:=h.cG;have ef:=h.ef;have hk:=h.hk;have h2:∀w∈p,2≤w.1:=fun w hw=>by
  rcases ha w hw with ⟨h1,_⟩|⟨k,_,_,h1,_⟩
  ·omega
  ·have:=(gG s k U).1;omega
 have ay:=fun w hw=>(hp w hw).1
 have hu:=h.hchain.used;have lq:∀j,j<2→at' l' j=at' l j:=fun j hj=>hi.same j ay (fun w hw=>by have:=h2 w hw;omega)
 refine⟨by rw[hi.len];exact h.hmax,hi.all h.hall hp,ef,by rw[hi.len];exact cG,h.eW,h.he,h.hs,hk,by rw[lq k U];exact h.lh,by rw[lq (1-k) U];exact h.hother,?_,?_⟩
 ·refine h.hchain.ext hi.len (fun j hj=>hi.same _ ay (fun w hw he=>?_)) ?_
  ·have hl:=gG s j U
   rcases ha w hw with ⟨h1,_⟩|⟨m,kF,lD,zV,_⟩
   ·omega
   ·have:=yY s h.eW j m U lD (by rw[←he,zV])
    omega
  ·have hl:=gG s (d9 0 fr) U
   refine hi.pres _ (fun b=>b.drop 252≠dq) h.hall U hp (fun w hw he b c hb dZ=>?_) h.hchain.end
   rcases ha w hw with ⟨h1,_⟩|⟨m,kF,lD,zV,xD⟩
   ·omega
   ·rw[xD (yY s h.eW m _ lD hu (by rw[←zV,he]))]
    exact p6 b dZ hb c
 ·intro i h1 hn
  rw[hi.len] at hn;by_cases hx:∃x∈fr.flatten,x.1=i
  ·rw[Em _ _ _ (at' l i) hx];exact h.hhome i h1 hn
  ·rw[hi.same i ay (fun w hw he=>?_)]
   ·exact h.hhome i h1 hn
   ·rcases ha w hw with ⟨_,x,Jq,sH⟩|⟨m,_,lD,zV,_⟩
    ·exact hx ⟨x,Jq,sH.trans he⟩
    ·have:=(gG s m U).2;omega
theorem fe.Mm{l:List Bytes}{s:bw}{k:Nat}{fr:List (List WrL)}{C:Nat→Bytes}(h:fe l s k fr C)(hC:∀i,2+s.log≤i→i<l.length→at' l i=C i)(he:s.e+2<18446744073709551616)(c:Nat):
  fe (iK l (1-k,aQ (jq s fr)) c) s k fr C∨(fe (iK l (1-k,aQ (jq s fr)) c) (jq s fr) (1-k) [] C∧iK l (1-k,aQ (jq s fr)) c=l.set (1-k) (aQ (jq s fr))):=by
 have cG:=h.cG;have ef:=h.ef;have hk:=h.hk;obtain⟨ig,bI⟩:=h.ok;have ay:1-k<l.length:=U;have hg:=fun j=>yX l (1-k,aQ (jq s fr)) c j ay
 have hu:=h.hchain.used;have hend:=h.hchain.end
 have bW:=Tr (s.place+d9 0 fr) (show 0<s.log by omega)
 have qp:(jq s fr).e=s.e+1:=rfl;have oP:(jq s fr).log=s.log:=rfl;obtain⟨c0,X0,ho,hx,aU⟩:=h.hother;have afx:at' (iK l (1-k,aQ (jq s fr)) c) (1-k)=(aQ (jq s fr)).take (max c0 c)++X0.drop (max c0 c):=by
  rw[hg,Φ rfl,hx];exact xm _ _ (gB _) ho.len c0 c
 have fP:(iK l (1-k,aQ (jq s fr)) c).length≤4096:=by rw[dh];exact h.hmax
 have hall:=vV l (1-k,aQ (jq s fr)) c h.hall ay (gB _);have aa8:at' (iK l (1-k,aQ (jq s fr)) c) k=aQ s:=by rw[hg,η (by simp only;omega)];exact h.lh
 have DF:∀j,2≤j→at' (iK l (1-k,aQ (jq s fr)) c) j=at' l j:=fun j hj=>by rw[hg,η (by simp only;omega)]
 by_cases hw:at' (iK l (1-k,aQ (jq s fr)) c) (1-k)=aQ (jq s fr)
 ·right
  constructor
  ·refine⟨fP,hall,ef,by rw[dh];exact cG,bW,by rw[qp];omega,?_,U,hw,?_,?_,?_⟩
   ·have:=h.hs;simp only[jq,OF];omega
   ·rw[show 1-(1-k)=k by omega,aa8]
    refine⟨0,aQ s,.inr ⟨s,ig,rfl,by rw[qp];omega⟩,κ,fun e=>?_⟩
    have DX:(jq (jq s fr) []).Ok:=by
     refine⟨?_,?_,?_,?_⟩
     ·show s.e+1+1<_;omega
     ·have:=h.hs;show s.s+fr.length+0<_;omega
     ·have:=h.hmax;show s.log<_;omega
     ·have:=Tr ((s.place+d9 0 fr)%s.log+0) (show 0<s.log by omega);have:=h.hmax
      show((s.place+d9 0 fr)%s.log+d9 0 [])%s.log<_;simp only[d9,ab0] at *;omega
    have:=RE bw.e (FX ig DX e);simp only[jq] at this;omega
   ·refine⟨by rw[oP];omega,?_⟩
    have e:cS (jq s fr) 0=cS s (d9 0 fr):=by
     show 2+((s.place+d9 0 fr)%s.log+0)%s.log=2+(s.place+d9 0 fr)%s.log;rw[V0,Nat.mod_mod]
    have hl:=gG s (d9 0 fr) U;rw[e,DF _ hl.1];exact hend
   ·intro i h1 h2
    rw[dh] at h2;rw[oP] at h1;rw[DF i U];exact hC i h1 h2
  ·refine List.ext_getElem (by rw[dh,SP]) (fun j h1 h2=>?_)
   rw[dh] at h1;by_cases hj:j=1-k
   ·subst hj
    rw[adM];have hz:=hw;unfold at' at hz;rw[Θ,Mp (by rw[dh];exact h1)] at hz
    exact hz
   ·simp only[iK]
    rw[ad9 (abH hj),ad9 (abH hj)]
 ·left
  refine⟨fP,hall,ef,by rw[dh];exact cG,h.eW,h.he,h.hs,hk,aa8,⟨max c0 c,X0,ho,afx,hw⟩,?_,?_⟩
  ·refine h.hchain.ext (dh _ _ _) (fun j hj=>DF _ (gG s j U).1) ?_
   rw[DF _ (gG s _ U).1];exact hend
  ·intro i h1 h2
   rw[dh] at h2;rw[DF i U];exact h.hhome i h1 h2
namespace af
theorem gC{d:af}(hd:d.dead=false)(i:Nat)(h:i<d.l.length):d.chk i=0:=by
 unfold chk;rw[hd,η Z,Φ ⟨U,U⟩]
theorem gR(ws:List WrL):∀(d:af),d.dead=false→(∀w∈ws,w.1<d.l.length∧w.2.length=256) →
  ((d.writes ws).2=0∧(d.writes ws).1.dead=false∧(d.writes ws).1.l=d.l∧(d.writes ws).1.p=d.p++ws) ∨
  ((d.writes ws).2=4∧(d.writes ws).1.dead=true∧(d.writes ws).1.l=d.l∧∃k,(d.writes ws).1.p=d.p++ws.take k):=by
 induction ws with
 | nil=>intro d hd _;exact .inl ⟨rfl,hd,rfl,by simp[writes]⟩
 | cons w ws ih =>
  intro d hd hw;have h1:=hw w (Nm ..);have hc:=gC hd w.1 h1.1;by_cases hf:d.b9=0
  ·right
   have e:d.write w.1 w.2=(d.bh,4):=by
    unfold write;rw[η (by rw[hc];simp),η (by rw[h1.2];simp),Φ hf]
   rw[writes,e,η κ];refine⟨rfl,by unfold bh;rw[Φ hf],(df d).1,0,?_⟩
   rw[TE,ON];exact(df d).2
  ·have e:d.write w.1 w.2=({ d.bh with p:=d.p++[w] },0):=by
    unfold write;rw[η (by rw[hc];simp),η (by rw[h1.2];simp),η hf];rfl
   have ht:d.bh.dead=false:=by unfold bh;rw[η hf];exact hd
   rw[writes,e,Φ rfl];have:=ih { d.bh with p:=d.p++[w] } ht (fun x hx=>by show x.1<d.bh.l.length∧_;rw[(df d).1];exact hw x (M1 _ hx))
   rw[show({ d.bh with p:=d.p++[w] }:af).l=d.l from(df d).1] at this
   rcases this with ⟨a,b,c,e⟩|⟨a,b,c,k,e⟩
   ·exact .inl ⟨a,b,c,by rw[e,MY];rfl⟩
   ·exact .inr ⟨a,b,c,k+1,by rw[e,MY];rfl⟩
theorem rK(d:af)(hd:d.dead=false):
  (d.bu.2=0∧d.bu.1.dead=false∧d.bu.1.l=iw d.l d.p∧d.bu.1.p=[])∨(d.bu.2=4∧d.bu.1.dead=true∧d.bu.1.l=d.l∧d.bu.1.p=d.p):=by
 by_cases hf:d.b9=0
 ·right
  have e:d.bu=(d.bh,4):=by unfold bu;rw[hd,η Z,Φ hf]
  rw[e];exact⟨rfl,by unfold bh;rw[Φ hf],(df d).1,(df d).2⟩
 ·left
  have e:d.bu=({ d.bh with l:=iw d.l d.p,p:=[] },0):=by unfold bu;rw[hd,η Z,η hf]
  rw[e];exact⟨rfl,by show d.bh.dead=_;unfold bh;rw[η hf];exact hd,rfl,rfl⟩
def lays(d:af)(ws:List WrL):af×Int:=if (d.writes ws).2=0 then(d.writes ws).1.bu else d.writes ws
theorem dj{d:af}(h:d.Ok)(ws:List WrL):(d.lays ws).1.Ok:=by
 unfold lays;split
 ·exact lm (eS h ws)
 ·exact eS h ws
theorem gS(ws:List WrL)(d:af)(hd:d.dead=false)(hw:∀w∈ws,w.1<d.l.length∧w.2.length=256):
  ((d.lays ws).2=0∧(d.lays ws).1.dead=false∧(d.lays ws).1.l=iw d.l (d.p++ws)∧(d.lays ws).1.p=[]) ∨
  ((d.lays ws).2=4∧(d.lays ws).1.dead=true∧(d.lays ws).1.l=d.l∧∃k,(d.lays ws).1.p=d.p++ws.take k):=by
 unfold lays;rcases gR ws d hd hw with ⟨a,b,c,e⟩|⟨a,b,c,k,e⟩
 ·rw[Φ a]
  rcases rK _ b with ⟨a2,b2,c2,e2⟩|⟨a2,b2,c2,e2⟩
  ·exact .inl ⟨a2,b2,by rw[c2,c,e],e2⟩
  ·exact .inr ⟨a2,b2,by rw[c2,c],ws.length,by rw[e2,e,N5]⟩
 ·rw[η (by rw[a];decide)]
  exact .inr ⟨a,b,c,k,e⟩
theorem hZ(ws:List WrL):∀(d:af),d.dead=false→d.b9 = -1→(∀w∈ws,w.1<d.l.length∧w.2.length=256)→(d.writes ws).2=0∧(d.writes ws).1.b9 = -1:=by
 induction ws with
 | nil=>intro d _ hf _;exact⟨rfl,hf⟩
 | cons w ws ih =>
  intro d hd hf hw;have h1:=hw w (Nm ..);have hc:=gC hd w.1 h1.1;have Rz:d.b9≠0:=U;have e:d.write w.1 w.2=({ d.bh with p:=d.p++[w] },0):=by
   unfold write;rw[η (by rw[hc];simp),η (by rw[h1.2];simp),η Rz];rfl
  have ht:d.bh.dead=false∧d.bh.b9 = -1:=by
   unfold bh;rw[η Rz];refine⟨hd,?_⟩;simp only[hf];decide
  rw[writes,e,Φ rfl];exact ih { d.bh with p:=d.p++[w] } ht.1 ht.2 (fun x hx=>by show x.1<d.bh.l.length∧_;rw[(df d).1];exact hw x (M1 _ hx))
theorem Wy(d:af)(hd:d.dead=false)(hf:d.b9 = -1):d.bu.2=0∧d.bu.1.b9 = -1:=by
 have Rz:d.b9≠0:=U;have e:d.bu=({ d.bh with l:=iw d.l d.p,p:=[] },0):=by unfold bu;rw[hd,η Z,η Rz]
 rw[e];refine⟨rfl,?_⟩;show d.bh.b9 = -1;unfold bh;rw[η Rz];simp only[hf];decide
theorem ic(ws:List WrL)(d:af)(hd:d.dead=false)(hf:d.b9 = -1)(hw:∀w∈ws,w.1<d.l.length∧w.2.length=256):(d.lays ws).2=0∧(d.lays ws).1.b9 = -1:=by
 have h1:=hZ ws d hd hf hw;unfold lays;rw[Φ h1.1];refine Wy _ ?_ h1.2;rcases gR ws d hd hw with ⟨a,b,_⟩|⟨a,_⟩
 ·exact b
 ·rw[a] at h1;exact absurd h1.1 Z
end af
theorem oy(p:List WrL):∀(l:List Bytes),(∀s∈l,s.length=256)→(∀w∈p,w.1<l.length∧w.2.length=256)→Img l p (iw l p):=by
 induction p with
 | nil=>intro l _ _;exact .nil l
 | cons w p ih =>
  intro l hl hp;have hw:=hp w (Nm ..);have e:iK l w 256=l.set w.1 w.2:=by
   unfold iK;rw[NE U,P3 (by rw[af.dE hl hw.1];exact Ω _),ON]
  refine .cons 256 ?_;rw[e];exact ih _ (by rw[←e];exact vV _ _ _ hl hw.1 hw.2) (fun x hx=>by rw[SP];exact hp x (M1 _ hx))
theorem DI(l:List Bytes)(p:List WrL)(i:Nat)(h:i<l.length):at' (iw l p) i=bH p i (at' l i):=B4 l p i h
structure JL where
 d:af
 s:bw
 k:Nat
 next:Nat
 used:Nat
namespace JL
def place(j:JL)(n:Nat):Nat:=cS j.s (j.used+n)
def home(j:JL):Nat:=2+j.s.log
def frame(j:JL):Option (List WrL) :=
 match eD ((List.range (min (j.s.log-j.used) 49)).map fun i=>j.d.get (j.place i)) with
 | some (seq,ws)=>if seq=j.next∧∀w∈ws,j.home≤w.1∧w.1<j.d.l.length then some ws else none
 | none=>none
def advance(j:JL)(n:Nat):JL:={ j with used:=j.used+n+1,next:=(j.next+1)%18446744073709551616 }
def cX:Nat→JL→JL×Int
 | 0,j=>(j,0)
 | n+1,j =>
  match j.frame with
  | none=>(j,0)
  | some ws=>if (j.d.writes ws).2=0 then cX n ({ j with d:=(j.d.writes ws).1 }.advance ws.length) else({ j with d:=(j.d.writes ws).1 },(j.d.writes ws).2)
def aE(j:JL):bw:=⟨(j.s.e+1)%18446744073709551616,j.next,j.s.log,(j.s.place+j.used)%j.s.log⟩
def cM(j:JL):af×Int:=j.d.lays [(j.place 0,ag)]
def cT(j:JL):af×Int:=j.cM.1.lays [(1-j.k,aQ j.aE)]
def cC(j:JL):JL×Int :=
 if j.cM.2≠0 then({ j with d:=j.cM.1 },j.cM.2) else if j.cT.2≠0 then({ j with d:=j.cT.1 },j.cT.2) else(⟨j.cT.1,j.aE,1-j.k,j.next,0⟩,0)
def ed(j:JL)(ws:List WrL):List WrL:=(ws.map (·.2)++[ag]).zipIdx.map fun x=>(j.place (x.2+1),x.1)
def co(j:JL)(ws:List WrL):af×Int:=j.d.lays (j.ed ws)
def cH(j:JL)(ws:List WrL):af×Int:=(j.co ws).1.lays [(j.place 0,bK j.next ws)]
def eV(j:JL)(ws:List WrL):af×Int:=(j.cH ws).1.writes ws
def com(j:JL)(ws:List WrL):JL×Int :=
 if (j.co ws).2≠0 then({ j with d:=(j.co ws).1 },(j.co ws).2) else if (j.cH ws).2≠0 then({ j with d:=(j.cH ws).1 },(j.cH ws).2) else
 ({ j with d:=(j.eV ws).1 }.advance ws.length,(j.eV ws).2)
def bj(j:JL)(ws:List WrL):JL×Int :=
 if ws.length+2>j.s.log-j.used then(if j.cC.2≠0 then j.cC else j.cC.1.com ws) else j.com ws
end JL
def aL(d:af):JL×Int :=
 if d.dead then(⟨d,⟨0,0,0,0⟩,0,0,0⟩,4) else
 match Eo (aR (d.get 0) d.l.length) (aR (d.get 1) d.l.length) with
 | none=>(⟨d,⟨0,0,0,0⟩,0,0,0⟩,10)
 | some (s,k)=>if (JL.cX (s.log+1) ⟨d,s,k,s.s,0⟩).2=0 then(JL.cX (s.log+1) ⟨d,s,k,s.s,0⟩).1.cC else JL.cX (s.log+1) ⟨d,s,k,s.s,0⟩
def pP(lg K:Nat)(l:List Bytes)(C:Nat→Bytes):Prop:=∃s k fr,fe l s k fr C∧s.log=lg∧s.e≤K∧s.s+fr.length≤K
theorem pP.mono{lg K K':Nat}{l:List Bytes}{C:Nat→Bytes}(h:pP lg K l C)(hk:K≤K'):pP lg K' l C:=by
 obtain⟨s,k,fr,h1,h2,h3,h4⟩:=h;exact⟨s,k,fr,h1,h2,U,U⟩
def Safe(lg K:Nat)(d:af)(S:(Nat→Bytes)→Prop):Prop:=∀l',Img d.l d.p l'→∃C,S C∧pP lg K l' C
theorem Safe.mono{lg K K':Nat}{d:af}{S S':(Nat→Bytes)→Prop}(h:Safe lg K d S)(hk:K≤K')(hs:∀C,S C→S' C):Safe lg K' d S':=fun l' hi=>by
 obtain⟨C,h1,h2⟩:=h l' hi
 exact⟨C,hs C h1,h2.mono hk⟩
theorem JM(s:bw):ag≠aQ s:=by
 intro h;have:=RE (fun t:Bytes=>t[0]?) h
 simp only[ag,aQ,gN,fS,Tb,PC,W8] at this;exact absurd this Z
theorem io.other{X:Bytes}{s s':bw}(h:io X s)(ho:s'.Ok)(he:s.e≤s'.e):kO X s s':=by
 refine⟨0,X,h,κ,?_⟩;rcases h with rfl|⟨r,hr,rfl,hl⟩
 ·exact JM s'
 ·intro e
  have:=FX hr ho e;subst this;omega
structure JPre (lg K:Nat) (j:JL) (fr:List (List WrL)) (C:Nat→Bytes):Prop where
 ok:j.d.Ok
 live:j.d.dead=false
 hrec:fe j.d.l j.s j.k fr C
 cG:j.s.log=lg
 he:j.s.e≤K
 hnext:j.next=j.s.s+fr.length
 il:j.next≤K
 gO:j.used=d9 0 fr
 pend:∀w∈j.d.p,2+lg≤w.1∧∃x∈fr.flatten,x.1=w.1
 get:∀i,2+lg≤i→i<j.d.l.length→j.d.get i=C i
structure JInv (lg K:Nat) (j:JL) (fr:List (List WrL)) (C:Nat→Bytes):Prop extends JPre lg K j fr C where
 old:io (at' j.d.l (1-j.k)) j.s
 hend:at' j.d.l (cS j.s j.used)=ag
 eK:j.d.p.length≤48
theorem JPre.allowed{lg K:Nat}{j:JL}{fr:List (List WrL)}{C:Nat→Bytes}(h:JPre lg K j fr C):∀w∈j.d.p,Allowed j.s fr w:=fun w hw=>.inl (by rw[h.cG];exact h.pend w hw)
theorem JPre.ky{lg K:Nat}{j:JL}{fr:List (List WrL)}{C:Nat→Bytes}(h:JPre lg K j fr C)(q:List WrL)(hq:∀w∈q,(w.1<j.d.l.length∧w.2.length=256)∧Allowed j.s fr w)(d:af)(hl:d.l=j.d.l)(hp:d.p=j.d.p++q):Safe lg K d (·=C):=by
 intro l' hi;rw[hl,hp] at hi;refine⟨C,rfl,j.s,j.k,fr,h.hrec.img (fun w hw=>?_) (fun w hw=>?_) hi,h.cG,h.he,by rw[←h.hnext];exact h.il⟩
 ·rcases No.1 hw with hw|hw
  ·exact h.ok.p w hw
  ·exact(hq w hw).1
 ·rcases No.1 hw with hw|hw
  ·exact h.allowed w hw
  ·exact(hq w hw).2
theorem JPre.safe{lg K:Nat}{j:JL}{fr:List (List WrL)}{C:Nat→Bytes}(h:JPre lg K j fr C):Safe lg K j.d (·=C):=h.ky [] κ _ rfl κ
theorem JPre.mL{lg K:Nat}{j:JL}{fr:List (List WrL)}{C:Nat→Bytes}(h:JPre lg K j fr C)(n:Nat):j.place n=cS j.s (d9 0 fr+n):=by rw[JL.place,h.gO]
theorem vJ{α:Type}{l:List α}{k:Nat}{x:α}(h:x∈l.take k):x∈l:=Sf h
theorem Qa(l:List Bytes)(w:WrL)(h:w.1<l.length)(hl:∀s∈l,s.length=256)(hw:w.2.length=256):iw l [w]=iK l w 256:=by
 unfold iK iw;rw[NE U,P3 (by rw[af.dE hl h];exact Ω _),ON]
 rfl
theorem jk:ag.length=256:=Of
theorem FY{l l':List Bytes}{w:WrL}{k:Nat}(h:Img l ([w].take k) l'):l'=l∨∃c,l'=iK l w c:=by
 cases k with
 | zero=>left;simp only[TE] at h;cases h;rfl
 | succ k=>right;simp only[acO,List.take_nil] at h;exact h.one
theorem Qb{lg K:Nat}{j:JL}{fr:List (List WrL)}{C:Nat→Bytes}(h:JPre lg K j fr C)(hK:K+2<18446744073709551616):
  (j.cC.2=0∧JInv lg (K+1) j.cC.1 [] C∧j.cC.1.d.p=[]∧(j.d.b9 = -1→j.cC.1.d.b9 = -1)) ∨
  (j.cC.2=4∧j.cC.1.d.dead=true∧j.cC.1.d.Ok∧Safe lg (K+1) j.cC.1.d (·=C)∧j.d.b9 ≠ -1):=by
 have hr:=h.hrec;have cG:=hr.cG;have ef:=hr.ef;have hk:=hr.hk;have hu:=hr.hchain.used;have bW:j.place 0=cS j.s (d9 0 fr):=h.mL 0;have om:=gG j.s (d9 0 fr) U;have sI:j.aE=jq j.s fr:=by
  unfold JL.aE jq;rw[h.hnext,h.gO,PQ (by have:=h.he;omega)]
 have eO:∀w∈[(j.place 0,ag)],w.1<j.d.l.length∧w.2.length=256:=by
  intro w hw;rw[M3] at hw;subst hw;exact⟨by show j.place 0<_;rw[bW];omega,jk⟩
 have LD:∀w∈[(j.place 0,ag)],(w.1<j.d.l.length∧w.2.length=256)∧Allowed j.s fr w:=fun w hw=>⟨eO w hw,by
  rw[M3] at hw;subst hw;exact .inr ⟨d9 0 fr,Ω _,hu,bW,fun _=>rfl⟩⟩
 unfold JL.cC;rcases af.gS _ j.d h.live eO with ⟨a,b,c,e⟩|⟨a,b,c,k,e⟩
 ·have a':j.cM.2=0:=a
  rw[η (by rw[a'];simp)]
  have mg:j.cM.1.Ok:=af.dj h.ok _;have hb:j.cM.1.dead=false:=b;have hl:j.cM.1.l=iw j.d.l (j.d.p++[(j.place 0,ag)]):=c;have hp:j.cM.1.p=[]:=e;have hlen:j.cM.1.l.length=j.d.l.length:=by rw[hl,lY]
  have Y2:∀w∈j.d.p++[(j.place 0,ag)],w.1<j.d.l.length∧w.2.length=256:=fun w hw=>by
   rcases No.1 hw with hw|hw
   ·exact h.ok.p w hw
   ·exact eO w hw
  have oQ:fe j.cM.1.l j.s j.k fr C:=by
   rw[hl];refine hr.img Y2 (fun w hw=>?_) (oy _ _ h.ok.l Y2)
   rcases No.1 hw with hw|hw
   ·exact h.allowed w hw
   ·exact(LD w hw).2
  have hhome:∀i,2+j.s.log≤i→i<j.cM.1.l.length→at' j.cM.1.l i=C i:=fun i h1 h2=>by
   rw[hlen] at h2;rw[hl,DI _ _ _ h2,uo,η (by show j.place 0≠i;rw[bW];omega)]
   exact h.get i (by rw[←h.cG];exact h1) h2
  have hend:at' j.cM.1.l (cS j.s (d9 0 fr))=ag:=by
   rw[hl,DI _ _ _ U,uo,Φ bW]
  have gD:∀w∈[(1-j.k,aQ j.aE)],w.1<j.cM.1.l.length∧w.2.length=256:=by
   intro w hw;rw[M3] at hw;subst hw;exact⟨by show 1-j.k<_;rw[hlen];omega,gB _⟩
  have Oy:=fun c=>oQ.Mm hhome (by have:=h.he;omega) c
  rw[←sI] at Oy;rcases af.gS _ j.cM.1 hb gD with ⟨a2,b2,c2,e2⟩|⟨a2,b2,c2,k2,e2⟩
  ·left
   have a2':j.cT.2=0:=a2;rw[η (by rw[a2'];simp)]
   have fF:j.cT.1.l=iK j.cM.1.l (1-j.k,aQ j.aE) 256:=by
    have:j.cT.1.l=iw j.cM.1.l (j.cM.1.p++[(1-j.k,aQ j.aE)]):=c2;rw[this,hp,Pr,Qa _ _ (gD _ (M3.2 rfl)).1 mg.l (gD _ (M3.2 rfl)).2]
   have iq:j.cT.1.p=[]:=e2;have jM:∀i,at' j.cT.1.l i=if 1-j.k=i then aQ j.aE else at' j.cM.1.l i:=fun i=>by
    rw[fF,yX _ _ _ _ (gD _ (M3.2 rfl)).1];by_cases hi:1-j.k=i
    ·subst hi
     rw[Φ rfl,Φ rfl,NE (by rw[gB];exact Ω _),P3 (by rw[af.dE mg.l (by rw[hlen];omega)];exact Ω _),ON]
    ·rw[η hi,η hi]
   have PV:fe j.cT.1.l j.aE (1-j.k) [] C:=by
    rcases Oy 256 with hb1|hb1
    ·exfalso
     obtain⟨_,_,_,_,aU⟩:=hb1.hother;rw[←fF,jM,Φ rfl,sI] at aU;exact aU rfl
    ·rw[fF];exact hb1.1
   have LG:j.cT.1.l.length=j.d.l.length:=by rw[fF,dh,hlen]
   have hg:∀i,2+lg≤i→i<j.cT.1.l.length→j.cT.1.get i=C i:=fun i h1 h2=>by
    unfold af.get;rw[iq];show at' j.cT.1.l i=C i;have:=h.cG;rw[jM,η U];exact hhome i U U
   have rD:j.aE.e=j.s.e+1:=by rw[sI];rfl
   refine⟨rfl,⟨⟨af.dj mg _,b2,PV,?_,by show j.aE.e≤_;rw[rD];have:=h.he;omega,?_,by show j.next≤_;have:=h.il;omega,rfl,fun w hw=>by rw[show(JL.d _:af).p=[] from iq] at hw;simp at hw,hg⟩,?_,?_,by rw[show(JL.d _:af).p=[] from iq];simp⟩,iq,?_⟩
   ·show j.aE.log=lg
    rw[sI];exact h.cG
   ·show j.next=j.aE.s+0
    rfl
   ·show io (at' j.cT.1.l (1-(1-j.k))) j.aE
    rw[jM,η U,show 1-(1-j.k)=j.k by omega,oQ.lh]
    exact .inr ⟨j.s,oQ.ok.1,rfl,by rw[rD];omega⟩
   ·show at' j.cT.1.l (cS j.aE 0)=ag
    have e:cS j.aE 0=cS j.s (d9 0 fr):=by
     rw[sI];show 2+((j.s.place+d9 0 fr)%j.s.log+0)%j.s.log=2+(j.s.place+d9 0 fr)%j.s.log;rw[V0,Nat.mod_mod]
    rw[e,jM,η U];exact hend
   ·intro hf
    have h1:=(af.ic _ j.d h.live hf eO).2;exact(af.ic _ j.cM.1 hb h1 gD).2
  ·right
   have a2':j.cT.2=4:=a2;rw[Φ (by rw[a2'];decide)]
   refine⟨a2',b2,af.dj mg _,?_,?_⟩
   ·intro l' hi
    have fF:j.cT.1.l=j.cM.1.l:=c2;have iq:j.cT.1.p=[(1-j.k,aQ j.aE)].take k2:=by
     have:j.cT.1.p=j.cM.1.p++[(1-j.k,aQ j.aE)].take k2:=e2;rw[this,hp,Pr]
    have pK:Img j.cM.1.l ([(1-j.k,aQ j.aE)].take k2) l':=by rw[←fF,←iq];exact hi
    have hnK:=h.il;have hn:=h.hnext;have heK:=h.he;rcases FY pK with rfl|⟨c,rfl⟩
    ·exact⟨C,rfl,j.s,j.k,fr,oQ,h.cG,U,U⟩
    ·rcases Oy c with hb1|hb1
     ·exact⟨C,rfl,j.s,j.k,fr,hb1,h.cG,U,U⟩
     ·refine⟨C,rfl,_,_,_,hb1.1,h.cG,?_,?_⟩
      ·rw[sI];show j.s.e+1≤_;omega
      ·rw[sI];show j.s.s+fr.length+0≤_;omega
   ·intro hf
    have h1:=(af.ic _ j.d h.live hf eO).2;have h2:=(af.ic _ j.cM.1 hb h1 gD).1;have:j.cT.2=0:=h2;rw[this] at a2';exact absurd a2' Z
 ·right
  have a':j.cM.2=4:=a;rw[Φ (by rw[a'];decide)]
  refine⟨a',b,af.dj h.ok _,(h.ky _ (fun w hw=>LD w (vJ hw)) j.cM.1 c e).mono U (fun _ h=>h),fun hf=>?_⟩
  have:=(af.ic _ j.d h.live hf eO).1;have h2:j.cM.2=0:=this;rw[h2] at a';exact absurd a' Z
def bT(C:Nat→Bytes)(ws:List WrL):Nat→Bytes:=fun i=>bH ws i (C i)
theorem uz(p:List WrL)(w:WrL)(s:Bytes)(hw:w∈p)(h:∀x∈p,x.1=w.1→x.2=w.2):bH p w.1 s=w.2:=by
 obtain⟨x,hx,h1,h2⟩:=sQ p w.1 s ⟨w,hw,rfl⟩;rw[h2];exact h x hx h1
theorem vK(j:JL)(ws:List WrL)(w:WrL):w∈j.ed ws↔∃i,i≤ws.length∧w=(j.place (i+1),(ws.map (·.2)++[ag]).getD i []):=by
 unfold JL.ed;constructor
 ·intro h
  obtain⟨x,hx,rfl⟩:=NF.1 h;have Jq:=acW.1 hx;have ay:x.2<ws.length+1:=by
   have:=(Pi.1 Jq).1;simpa using this
  exact⟨x.2,U,by rw[Θ,Jq];rfl⟩
 ·rintro⟨i,hi,rfl⟩
  refine NF.2 ⟨((ws.map (·.2)++[ag]).getD i [],i),?_,rfl⟩
  rw[acW];have ay:i<(ws.map (·.2)++[ag]).length:=by simp;omega
  show(ws.map (·.2)++[ag])[i]?=some ((ws.map (·.2)++[ag]).getD i [])
  rw[Θ,Mp ay];rfl
theorem yz(s:Bytes)(hs:s.length=256)(c:Nat)(hc:c<256):(s.take c++ag.drop c).drop 252≠dq:=by
 intro h;have h3:((s.take c++ag.drop c).drop 252)[3]?=some 69:=by rw[h];rfl
 rw[VC,PH (by simp[hs];omega)] at h3
 simp only[Mz,hs,VC,ag,Tb] at h3;rw[Φ U] at h3;exact absurd h3 Z
theorem Db:ag.drop 252≠dq:=by unfold ag;decide +kernel
theorem sU{α:Type}(l:List (List α))(x:List α):(l++[x]).flatten=l.flatten++x:=κ
theorem pd{lg K:Nat}{j:JL}{fr:List (List WrL)}{C:Nat→Bytes}(h:JInv lg K j fr C)(ws:List WrL)(hw:sS ws)(hh:∀w∈ws,2+lg≤w.1∧w.1<j.d.l.length)(hroom:ws.length+2≤lg-j.used)(hK:K+3<18446744073709551616):
  ((j.com ws).2=0∧JInv lg (K+1) (j.com ws).1 (fr++[ws]) (bT C ws)∧(j.com ws).1.d.l.length=j.d.l.length) ∨
  ((j.com ws).2=4∧(j.com ws).1.d.dead=true∧(j.com ws).1.d.Ok∧Safe lg (K+1) (j.com ws).1.d (fun D=>D=C∨D=bT C ws)):=by
 have hr:=h.hrec;have wF:=h.cG;have cG:=hr.cG;have ef:=hr.ef;have hk:=hr.hk;have hu:=hr.hchain.used;have pO:=h.gO;have hnK:=h.il;have hn:=h.hnext;have heK:=h.he;have bW:∀m,j.place m=cS j.s (d9 0 fr+m):=h.mL;have om:∀m,2≤j.place m∧j.place m<2+j.s.log:=fun m=>by rw[bW];exact gG j.s _ U
 have RA:∀a b,d9 0 fr+a<j.s.log→d9 0 fr+b<j.s.log→j.place a=j.place b→a=b:=fun a b ha hb e=>by
  rw[bW,bW] at e;have:=yY j.s hr.eW _ _ ha hb e;omega
 have eO:∀w∈j.ed ws,w.1<j.d.l.length∧w.2.length=256:=by
  intro w hx;obtain⟨i,hi,rfl⟩:=(vK j ws w).1 hx;refine⟨by have:=(om (i+1)).2;show j.place (i+1)<_;omega,?_⟩
  show((ws.map (·.2)++[ag]).getD i []).length=256
  refine af.dE (fun s hs=>?_) (by simp;omega)
  rcases No.1 hs with hs|hs
  ·obtain⟨x,hx,rfl⟩:=NF.1 hs
   exact(hw.2.2 x hx).2
  ·rw[M3.1 hs];exact jk
 have LD:∀w∈j.ed ws,(w.1<j.d.l.length∧w.2.length=256)∧Allowed j.s fr w:=fun w hx=>⟨eO w hx,by
  obtain⟨i,hi,rfl⟩:=(vK j ws w).1 hx;exact .inr ⟨d9 0 fr+(i+1),U,U,bW _,fun e=>U⟩⟩
 have hlw:∀i,i≤ws.length→∀s,bH (j.ed ws) (j.place (i+1)) s=(ws.map (·.2)++[ag]).getD i []:=fun i hi s=>by
  refine uz (j.ed ws) (j.place (i+1),(ws.map (·.2)++[ag]).getD i []) s ((vK j ws _).2 ⟨i,hi,rfl⟩) (fun x hx e=>?_)
  obtain⟨i2,zq,rfl⟩:=(vK j ws x).1 hx;have:=RA (i2+1) (i+1) U U e;rw[show i2=i by omega]
 have bI:∀i,(i<2∨2+j.s.log≤i∨i=j.place 0)→∀w∈j.ed ws,w.1≠i:=fun i hi w hx e=>by
  obtain⟨m,hm,rfl⟩:=(vK j ws w).1 hx;have:=om (m+1);rcases hi with hi|hi|hi
  ·simp only at e;omega
  ·simp only at e;omega
  ·have:=RA (m+1) 0 U U (by rw[←hi];exact e)
   omega
 unfold JL.com;rcases af.gS _ j.d h.live eO with ⟨a,b,c,e⟩|⟨a,b,c,k,e⟩
 ·have a':(j.co ws).2=0:=a
  rw[η (by rw[a'];simp)]
  have mg:(j.co ws).1.Ok:=af.dj h.ok _;have hb:(j.co ws).1.dead=false:=b;have hl:(j.co ws).1.l=iw j.d.l (j.d.p++j.ed ws):=c;have hp:(j.co ws).1.p=[]:=e;have hlen:(j.co ws).1.l.length=j.d.l.length:=by rw[hl,lY]
  have Y2:∀w∈j.d.p++j.ed ws,w.1<j.d.l.length∧w.2.length=256:=fun w hx=>by
   rcases No.1 hx with hx|hx
   ·exact h.ok.p w hx
   ·exact eO w hx
  have oQ:fe (j.co ws).1.l j.s j.k fr C:=by
   rw[hl];refine hr.img Y2 (fun w hx=>?_) (oy _ _ h.ok.l Y2)
   rcases No.1 hx with hx|hx
   ·exact h.allowed w hx
   ·exact(LD w hx).2
  have eT:∀i,i<j.d.l.length→at' (j.co ws).1.l i=bH (j.ed ws) i (bH j.d.p i (at' j.d.l i)):=fun i hi=>by
   rw[hl,DI _ _ _ hi,sP]
  have aa9:∀i,i<2+j.s.log→∀s,bH j.d.p i s=s:=fun i hi s=>dM _ _ _ (fun w hx e=>by have:=(h.pend w hx).1;omega)
  have hhome:∀i,2+j.s.log≤i→i<(j.co ws).1.l.length→at' (j.co ws).1.l i=C i:=fun i h1 h2=>by
   rw[hlen] at h2;rw[eT i h2,dM _ _ _ (bI i (.inr (.inl h1)))];exact h.get i U h2
  have abb:at' (j.co ws).1.l (j.place 0)=ag:=by
   rw[eT _ (by have:=(om 0).2;omega),dM _ _ _ (bI _ (.inr (.inr rfl))),aa9 _ (om 0).2]
   have:=h.hend;rw[pO] at this;rw[bW];exact this
  have LH:∀i,i≤ws.length→at' (j.co ws).1.l (j.place (i+1))=(ws.map (·.2)++[ag]).getD i []:=fun i hi=>by
   rw[eT _ (by have:=(om (i+1)).2;omega)]
   exact hlw i hi _
  have abd:io (at' (j.co ws).1.l (1-j.k)) j.s:=by
   rw[eT _ U,dM _ _ _ (bI _ (.inl U)),aa9 _ U];exact h.old
  have gD:∀w∈[(j.place 0,bK j.next ws)],w.1<(j.co ws).1.l.length∧w.2.length=256:=by
   intro w hx;rw[M3] at hx;subst hx;exact⟨by have:=(om 0).2;show j.place 0<_;omega,nD _ _ hw.2.1⟩
  have jM:∀cc i,at' (iK (j.co ws).1.l (j.place 0,bK j.next ws) cc) i=if j.place 0=i then(bK j.next ws).take cc++(at' (j.co ws).1.l i).drop cc else at' (j.co ws).1.l i:=fun cc i=>yX _ _ _ _ (gD _ (M3.2 rfl)).1
  have ig:=oQ.ok.1;have abe:∀cc,256≤cc→fe (iK (j.co ws).1.l (j.place 0,bK j.next ws) cc) j.s j.k (fr++[ws]) (bT C ws):=fun cc kR=>by
   have hnext:(jq j.s (fr++[ws])).Ok:=by
    have:=oQ.hmax;have:=Tr (j.s.place+d9 0 (fr++[ws])) (show 0<j.s.log by omega)
    refine⟨?_,?_,?_,?_⟩
    ·show j.s.e+1<_;omega
    ·show j.s.s+(fr++[ws]).length<_;rw[Δ,Rr];omega
    ·show j.s.log<_;omega
    ·show(j.s.place+d9 0 (fr++[ws]))%j.s.log<_;omega
   have vQ:∀i,i≠j.place 0→at' (iK (j.co ws).1.l (j.place 0,bK j.next ws) cc) i=at' (j.co ws).1.l i:=fun i hi=>by rw[jM,η (abH hi)]
   have afy:at' (iK (j.co ws).1.l (j.place 0,bK j.next ws) cc) (j.place 0)=bK j.next ws:=by
    rw[jM,Φ rfl,NE (by rw[nD _ _ hw.2.1];exact kR),P3 (by rw[abb,jk];exact kR),ON]
   refine⟨by rw[dh];exact oQ.hmax,vV _ _ _ mg.l (gD _ (M3.2 rfl)).1 (gD _ (M3.2 rfl)).2,ef,by rw[dh];omega,hr.eW,hr.he,by rw[Δ,Rr];omega,hk,?_,?_,?_,?_⟩
   ·rw[vQ _ (by have:=(om 0).1;omega)];exact oQ.lh
   ·rw[vQ _ (by have:=(om 0).1;omega)]
    exact abd.other hnext (by show j.s.e≤j.s.e+1;omega)
   ·refine Chain.snoc (dh _ _ _) ws hw (fun w hx=>by rw[hlen,wF];exact hh w hx) oQ.hchain (fun m hm=>vQ _ (fun e=>?_)) U (fun i hi=>?_) ?_
    ·rw[bW] at e
     have:=yY j.s hr.eW m (d9 0 fr+0) U U e;omega
    ·rw[←bW,←hn]
     cases i with
     | zero=>rw[afy];rfl
     | succ i =>
      rw[vQ _ (fun e=>by have:=RA (i+1) 0 U U e;omega),LH i U]
      unfold jG;rw[abJ,Θ,Θ,TX (by simp;omega)]
    ·have:=bW (ws.length+1)
     rw[←P0] at this;rw[←this,vQ _ (fun e=>by have:=RA (ws.length+1) 0 U U e;omega),LH ws.length (Ω _)]
     rw[Θ,PH κ];simp only[OK,abu,W8,aag];exact Db
   ·intro i h1 h2
    rw[dh] at h2;rw[vQ i (by have:=(om 0).2;omega),hhome i h1 h2,sU,sP]
    unfold bT;by_cases hx:∃w∈fr.flatten,w.1=i
    ·congr 1
     rw[Em _ _ _ (at' (j.co ws).1.l i) hx];exact oQ.hhome i h1 h2
    ·rw[dM _ _ _ (fun w hw e=>hx ⟨w,hw,e⟩)]
  have afz:∀cc,cc<256→fe (iK (j.co ws).1.l (j.place 0,bK j.next ws) cc) j.s j.k fr C:=fun cc kR=>by
   have vQ:∀i,i≠j.place 0→at' (iK (j.co ws).1.l (j.place 0,bK j.next ws) cc) i=at' (j.co ws).1.l i:=fun i hi=>by rw[jM,η (abH hi)]
   refine⟨by rw[dh];exact oQ.hmax,vV _ _ _ mg.l (gD _ (M3.2 rfl)).1 (gD _ (M3.2 rfl)).2,ef,by rw[dh];omega,hr.eW,hr.he,hr.hs,hk,?_,?_,?_,?_⟩
   ·rw[vQ _ (by have:=(om 0).1;omega)];exact oQ.lh
   ·rw[vQ _ (by have:=(om 0).1;omega)];exact oQ.hother
   ·refine oQ.hchain.ext (dh _ _ _) (fun m hm=>vQ _ (fun e=>?_)) ?_
    ·rw[bW] at e
     have:=yY j.s hr.eW m (d9 0 fr+0) U U e;omega
    ·have:=bW 0
     rw[V0] at this;rw[←this,jM,Φ rfl,abb];exact yz _ (nD _ _ hw.2.1) cc kR
   ·intro i h1 h2
    rw[dh] at h2;rw[vQ i (by have:=(om 0).2;omega)]
    exact oQ.hhome i h1 h2
  rcases af.gS _ (j.co ws).1 hb gD with ⟨a2,b2,c2,e2⟩|⟨a2,b2,c2,k2,e2⟩
  ·have a2':(j.cH ws).2=0:=a2
   rw[η (by rw[a2'];simp)]
   have Bg:(j.cH ws).1.Ok:=af.dj mg _;have bN:(j.cH ws).1.dead=false:=b2;have fF:(j.cH ws).1.l=iK (j.co ws).1.l (j.place 0,bK j.next ws) 256:=by
    have:(j.cH ws).1.l=iw (j.co ws).1.l ((j.co ws).1.p++[(j.place 0,bK j.next ws)]):=c2;rw[this,hp,Pr,Qa _ _ (gD _ (M3.2 rfl)).1 mg.l (gD _ (M3.2 rfl)).2]
   have iq:(j.cH ws).1.p=[]:=e2;have LG:(j.cH ws).1.l.length=j.d.l.length:=by rw[fF,dh,hlen]
   have PV:fe (j.cH ws).1.l j.s j.k (fr++[ws]) (bT C ws):=by rw[fF];exact abe 256 (Ω _)
   have vQ:∀i,i≠j.place 0→at' (j.cH ws).1.l i=at' (j.co ws).1.l i:=fun i hi=>by rw[fF,jM,η (abH hi)]
   have zu:∀w∈ws,w.1<(j.cH ws).1.l.length∧w.2.length=256:=fun w hx=>⟨by rw[LG];exact(hh w hx).2,(hw.2.2 w hx).2⟩
   have afA:∀w∈ws,Allowed j.s (fr++[ws]) w:=fun w hx=>.inl ⟨by have:=(hh w hx).1;omega,w,by rw[sU];exact abv _ hx,rfl⟩
   rcases af.gR ws (j.cH ws).1 bN zu with ⟨a3,b3,c3,e3⟩|⟨a3,b3,c3,k3,e3⟩
   ·left
    have nL:(j.eV ws).1.l=(j.cH ws).1.l:=c3;have Vt:(j.eV ws).1.p=ws:=by
     have:(j.eV ws).1.p=(j.cH ws).1.p++ws:=e3;rw[this,iq,Pr]
    refine⟨a3,⟨⟨af.eS Bg ws,b3,?_,wF,by show j.s.e≤_;omega,?_,?_,?_,?_,?_⟩,?_,?_,by show(j.eV ws).1.p.length≤48;rw[Vt];exact hw.2.1⟩,?_⟩
    ·show fe (j.eV ws).1.l j.s j.k (fr++[ws]) (bT C ws)
     rw[nL];exact PV
    ·show(j.next+1)%_=j.s.s+(fr++[ws]).length
     rw[Δ,Rr,PQ U];omega
    ·show(j.next+1)%_≤_
     rw[PQ U];omega
    ·show j.used+ws.length+1=_
     rw[wT,pO]
    ·intro w hx
     have Jq:w∈ws:=by rw[←Vt];exact hx
     exact⟨(hh w Jq).1,w,by rw[sU];exact abv _ Jq,rfl⟩
    ·intro i h1 h2
     show(j.eV ws).1.get i=_;unfold af.get;rw[Vt,nL];show bH ws i (at' (j.cH ws).1.l i)=bT C ws i;have zW:i<(j.cH ws).1.l.length:=by rw[←nL];exact h2
     rw[vQ i (by have:=(om 0).2;omega),hhome i U U]
     rfl
    ·show io (at' (j.eV ws).1.l (1-j.k)) j.s
     rw[nL,vQ _ (by have:=(om 0).1;omega)];exact abd
    ·show at' (j.eV ws).1.l (cS j.s (j.used+ws.length+1))=ag
     have:=bW (ws.length+1);rw[pO,nL,P0,←this,vQ _ (fun e=>by have:=RA (ws.length+1) 0 U U e;omega),LH ws.length (Ω _)]
     rw[Θ,PH κ];simp
    ·show(j.eV ws).1.l.length=_
     rw[nL,LG]
   ·right
    refine⟨a3,b3,af.eS Bg ws,?_⟩;intro l' hi;have nL:(j.eV ws).1.l=(j.cH ws).1.l:=c3;have Vt:(j.eV ws).1.p=ws.take k3:=by
     have:(j.eV ws).1.p=(j.cH ws).1.p++ws.take k3:=e3;rw[this,iq,Pr]
    have pK:Img (j.cH ws).1.l (ws.take k3) l':=by rw[←nL,←Vt];exact hi
    refine⟨_,.inr rfl,j.s,j.k,fr++[ws],PV.img (fun w hx=>zu w (vJ hx)) (fun w hx=>afA w (vJ hx)) pK,wF,U,?_⟩
    rw[Δ,Rr];omega
  ·right
   have a2':(j.cH ws).2=4:=a2;rw[Φ (by rw[a2'];decide)]
   refine⟨a2',b2,af.dj mg _,?_⟩;intro l' hi;have fF:(j.cH ws).1.l=(j.co ws).1.l:=c2;have iq:(j.cH ws).1.p=[(j.place 0,bK j.next ws)].take k2:=by
    have:(j.cH ws).1.p=(j.co ws).1.p++[(j.place 0,bK j.next ws)].take k2:=e2;rw[this,hp,Pr]
   have pK:Img (j.co ws).1.l ([(j.place 0,bK j.next ws)].take k2) l':=by rw[←fF,←iq];exact hi
   rcases FY pK with rfl|⟨cc,rfl⟩
   ·exact⟨_,.inl rfl,j.s,j.k,fr,oQ,wF,U,U⟩
   ·by_cases kR:cc<256
    ·exact⟨_,.inl rfl,j.s,j.k,fr,afz cc kR,wF,U,U⟩
    ·exact⟨_,.inr rfl,j.s,j.k,fr++[ws],abe cc U,wF,U,by rw[Δ,Rr];omega⟩
 ·right
  have a':(j.co ws).2=4:=a;rw[Φ (by rw[a'];decide)]
  exact⟨a',b,af.dj h.ok _,(h.toJPre.ky _ (fun w hx=>LD w (vJ hx)) (j.co ws).1 c e).mono U (fun _ h=>.inl h)⟩
theorem JPre.mono{lg K K':Nat}{j:JL}{fr:List (List WrL)}{C:Nat→Bytes}(h:JPre lg K j fr C)(hk:K≤K'):JPre lg K' j fr C :=
 ⟨h.ok,h.live,h.hrec,h.cG,My h.he hk,h.hnext,My h.il hk,h.gO,h.pend,h.get⟩
theorem JInv.mono{lg K K':Nat}{j:JL}{fr:List (List WrL)}{C:Nat→Bytes}(h:JInv lg K j fr C)(hk:K≤K'):JInv lg K' j fr C :=
 ⟨h.toJPre.mono hk,h.old,h.hend,h.eK⟩
theorem af.fN(d:af)(ws:List WrL):(d.lays ws).1.l.length=d.l.length:=by
 unfold af.lays;split
 ·rw[af.vz,af.gm]
 ·exact af.gm _ _
theorem JL.j9(j:JL):j.cC.1.d.l.length=j.d.l.length:=by
 unfold JL.cC JL.cT JL.cM;split
 ·exact af.fN _ _
 ·split
  ·show(af.lays _ _).1.l.length=_
   rw[af.fN,af.fN]
  ·show(af.lays _ _).1.l.length=_
   rw[af.fN,af.fN]
theorem JL.oX(j:JL)(ws:List WrL):(j.com ws).1.d.l.length=j.d.l.length:=by
 unfold JL.com JL.eV JL.cH JL.co;split
 ·exact af.fN _ _
 ·split
  ·show(af.lays _ _).1.l.length=_
   rw[af.fN,af.fN]
  ·show(af.writes _ _).1.l.length=_
   rw[af.gm,af.fN,af.fN]
theorem JL.fw(j:JL)(ws:List WrL):(j.bj ws).1.d.l.length=j.d.l.length:=by
 unfold JL.bj;split
 ·split
  ·exact j.j9
  ·rw[JL.oX,j.j9]
 ·exact j.oX ws
theorem Al{lg K:Nat}{j:JL}{fr:List (List WrL)}{C:Nat→Bytes}(h:JInv lg K j fr C)(ws:List WrL)(hw:sS ws)(hh:∀w∈ws,2+lg≤w.1∧w.1<j.d.l.length)(hK:K+4<18446744073709551616):
  ((j.bj ws).2=0∧∃fr',JInv lg (K+2) (j.bj ws).1 fr' (bT C ws)) ∨
  ((j.bj ws).2=4∧(j.bj ws).1.d.dead=true∧(j.bj ws).1.d.Ok∧Safe lg (K+2) (j.bj ws).1.d (fun D=>D=C∨D=bT C ws)):=by
 have wF:=h.cG;have ef:=h.hrec.ef;unfold JL.bj;by_cases hroom:ws.length+2>j.s.log-j.used
 ·rw[Φ hroom]
  rcases Qb h.toJPre U with ⟨a,b,c,_⟩|⟨a,b,c,e,_⟩
  ·rw[η (by rw[a];simp)]
   have hl:=j.j9;have hu:=b.gO;rcases pd b ws hw (fun w hx=>by rw[hl];exact hh w hx) (by rw[hu];show _≤lg-0;have:=hw.2.1;omega) U with ⟨a2,b2,_⟩|⟨a2,b2,c2,e2⟩
   ·exact .inl ⟨a2,_,b2⟩
   ·exact .inr ⟨a2,b2,c2,e2⟩
  ·rw[Φ (by rw[a];decide)]
   exact .inr ⟨a,b,c,e.mono U (fun _ h=>.inl h)⟩
 ·rw[η hroom]
  rcases pd h ws hw hh U U with ⟨a2,b2,_⟩|⟨a2,b2,c2,e2⟩
  ·exact .inl ⟨a2,_,b2.mono U⟩
  ·exact .inr ⟨a2,b2,c2,e2.mono U (fun _ h=>h)⟩
theorem KH(f:Nat→Bytes)(P:List Bytes)(m:Nat)(h:P.length≤m)(hf:∀i,i<P.length→f i=P.getD i []):∃r,(List.range m).map f=P++r:=by
 refine⟨((List.range m).map f).drop P.length,?_⟩;have e:P=((List.range m).map f).take P.length:=by
  refine List.ext_getElem (by simp;omega) (fun i h1 h2=>?_)
  simp only[abm,ab9,ac1];rw[hf i h1,Θ,Mp h1];rfl
 conv=>rhs;rw[e]
 rw[Mz,OK,Wb,Sx h,PP]
theorem vW{d:af}{lo:Nat}(hp:∀w∈d.p,lo≤w.1)(i:Nat)(hi:i<lo):d.get i=at' d.l i:=dM _ _ _ (fun w hw e=>by have:=hp w hw;omega)
theorem KJ{j:JL}{ws:List WrL}{fr:List (List WrL)}(hl:50≤j.s.log)(hc:Chain j.d.l j.s j.used j.next (ws::fr))(hn:j.next<18446744073709551616)(hp:∀w∈j.d.p,2+j.s.log≤w.1):j.frame=some ws:=by
 obtain⟨h1,h2,h3,h4,_⟩:=hc;have hlen:(jG j.next ws).length=ws.length+1:=by simp[jG]
 obtain⟨r,hr⟩:=KH (fun i=>j.d.get (j.place i)) (jG j.next ws) (min (j.s.log-j.used) 49) (by rw[hlen];have:=h1.2.1;omega) (fun i hi=>by
  show j.d.get (cS j.s (j.used+i))=_;rw[hlen] at hi;rw[vW hp _ (gG j.s _ U).2];exact h4 i U)
 unfold JL.frame;rw[hr,unpack_pack _ hn _ h1];simp only[];rw[Φ ⟨trivial,fun w hw=>h2 w hw⟩]
theorem Nc{j:JL}(hl:50≤j.s.log)(hc:Chain j.d.l j.s j.used j.next [])(hp:∀w∈j.d.p,2+j.s.log≤w.1):j.frame=none:=by
 obtain⟨h1,h2⟩:=hc;obtain⟨m,hm⟩:∃m,min (j.s.log-j.used) 49=m+1:=⟨min (j.s.log-j.used) 49-1,U⟩;have e:eD ((List.range (min (j.s.log-j.used) 49)).map fun i=>j.d.get (j.place i))=none:=by
  rw[hm,abh,On];refine IJ _ _ ?_;show(j.d.get (cS j.s (j.used+0))).drop 252≠dq;rw[vW hp _ (gG j.s _ U).2];exact h2
 unfold JL.frame;rw[e]
theorem vq(u:Nat)(fr:List (List WrL)):u+fr.length≤d9 u fr:=by
 induction fr generalizing u with
 | nil=>exact Ω _
 | cons ws fr ih=>rw[qV,Mu];have:=ih (u+ws.length+1);omega
structure jZ (lg K:Nat) (d:af) (s:bw) (k:Nat) (fr:List (List WrL)) (C:Nat→Bytes):Prop where
 ok:d.Ok
 live:d.dead=false
 hrec:fe d.l s k fr C
 cG:s.log=lg
 he:s.e≤K
 hs:s.s+fr.length≤K
 pend:∀w∈d.p,2+lg≤w.1∧∃x∈fr.flatten,x.1=w.1
structure Mid (lg K:Nat) (d:af) (j:JL) (s:bw) (k:Nat) (fr1 fr2:List (List WrL)):Prop where
 ok:j.d.Ok
 live:j.d.dead=false
 hl:j.d.l=d.l
 hp:j.d.p=d.p++fr1.flatten
 hs:j.s=s
 hk:j.k=k
 hn:j.next=s.s+fr1.length
 hu:j.used=d9 0 fr1
 hc:Chain d.l s (d9 0 fr1) (s.s+fr1.length) fr2
 hf:d.b9 = -1→j.d.b9 = -1
theorem Wz{lg K:Nat}{d:af}{s:bw}{k:Nat}{fr:List (List WrL)}{C:Nat→Bytes}(h:jZ lg K d s k fr C)(hK:K+3<18446744073709551616)(m:Nat):
  ∀(fr2 fr1:List (List WrL)) (j:JL),fr=fr1++fr2→Mid lg K d j s k fr1 fr2→fr2.length<m →
   ((JL.cX m j).2=0∧JPre lg K (JL.cX m j).1 fr C∧(d.b9 = -1→(JL.cX m j).1.d.b9 = -1)) ∨
   ((JL.cX m j).2=4∧(JL.cX m j).1.d.dead=true∧(JL.cX m j).1.d.Ok∧Safe lg K (JL.cX m j).1.d (·=C)∧d.b9 ≠ -1):=by
 induction m with
 | zero=>intro fr2 fr1 j _ _ ay;omega
 | succ m ih =>
  intro fr2 fr1 j dQ M ay;have hr:=h.hrec;have cG:=h.cG;have Yn:∀w∈j.d.p,2+lg≤w.1∧∃x∈fr.flatten,x.1=w.1:=fun w hw=>by
   rw[M.hp] at hw;rcases No.1 hw with hw|hw
   ·exact h.pend w hw
   ·obtain⟨ws,hws,RB⟩:=List.mem_flatten.1 hw
    have:=(hr.hchain.ok ws (by rw[dQ];exact ZZ _ hws)).2 w RB
    exact⟨U,w,by rw[dQ,T0];exact ZZ _ hw,rfl⟩
  have bW:∀w∈j.d.p,2+j.s.log≤w.1:=fun w hw=>by rw[M.hs,cG];exact(Yn w hw).1
  have kr:=h.hs;have hlen:fr.length=fr1.length+fr2.length:=by rw[dQ,Δ]
  cases fr2 with
  | nil =>
   have MW:fr=fr1:=by rw[dQ,ON]
   rw[JL.cX,Nc (by rw[M.hs];exact hr.ef) (by rw[M.hl,M.hs,M.hu,M.hn];exact M.hc) bW]
   left;refine⟨rfl,⟨M.ok,M.live,?_,by rw[M.hs];exact cG,by rw[M.hs];exact h.he,by rw[M.hn,M.hs,MW],by rw[M.hn];rw[hlen] at kr;omega,by rw[M.hu,MW],Yn,?_⟩,M.hf⟩
   ·rw[M.hl,M.hs,M.hk];exact hr
   ·intro i h1 h2
    rw[M.hl] at h2;unfold af.get;rw[M.hl,M.hp,sP,←MW];by_cases hx:∃x∈fr.flatten,x.1=i
    ·rw[Em _ _ _ (at' d.l i) hx]
     exact hr.hhome i U h2
    ·rw[dM d.p i _ (fun w hw e=>by
      obtain⟨x,sJ,mh⟩:=(h.pend w hw).2;exact hx ⟨x,sJ,mh.trans e⟩)]
     exact hr.hhome i U h2
  | cons ws fr2 =>
   have hc:=M.hc;have kR:Chain j.d.l j.s j.used j.next (ws::fr2):=by rw[M.hl,M.hs,M.hu,M.hn];exact hc
   rw[Mu] at hlen ay;rw[JL.cX,KJ (by rw[M.hs];exact hr.ef) kR (by rw[M.hn];omega) bW]
   simp only[];have hw:∀w∈ws,w.1<j.d.l.length∧w.2.length=256:=fun w hx=>⟨by rw[M.hl];exact(hc.2.1 w hx).2,(hc.1.2.2 w hx).2⟩
   rcases af.gR ws j.d M.live hw with ⟨a,b,c,e⟩|⟨a,b,c,q,e⟩
   ·rw[Φ a]
    refine ih fr2 (fr1++[ws]) _ (by rw[dQ,MY];rfl) ⟨af.eS M.ok ws,b,c.trans M.hl,?_,M.hs,M.hk,?_,?_,?_,fun hf=>(af.hZ ws j.d M.live (M.hf hf) hw).2⟩ U
    ·show(j.d.writes ws).1.p=_
     rw[e,M.hp,sU,MY]
    ·show(j.next+1)%_=_
     rw[M.hn,Δ,Rr,PQ U];omega
    ·show j.used+ws.length+1=_
     rw[wT,M.hu]
    ·rw[wT,Δ,Rr]
     exact hc.2.2.2.2
   ·rw[η (by rw[a];decide)]
    right;refine⟨a,b,af.eS M.ok ws,?_,fun hf=>?_⟩
    ·intro l' hi
     have hl:(j.d.writes ws).1.l=d.l:=c.trans M.hl;have pK:Img d.l (j.d.p++ws.take q) l':=by rw[←hl,←e];exact hi
     refine⟨C,rfl,s,k,fr,hr.img (fun w hx=>?_) (fun w hx=>?_) pK,cG,h.he,h.hs⟩
     ·rcases No.1 hx with hx|hx
      ·rw[←M.hl];exact M.ok.p w hx
      ·rw[←M.hl];exact hw w (vJ hx)
     ·rcases No.1 hx with hx|hx
      ·exact .inl (by rw[cG];exact Yn w hx)
      ·refine .inl ⟨(hc.2.1 w (vJ hx)).1,w,?_,rfl⟩
       rw[dQ,T0,VS];exact abv _ (ZZ _ (vJ hx))
    ·have:=(af.hZ ws j.d M.live (M.hf hf) hw).1
     rw[this] at a;exact absurd a Z
theorem AP{lg K:Nat}{d:af}{s:bw}{k:Nat}{fr:List (List WrL)}{C:Nat→Bytes}(h:jZ lg K d s k fr C)(hK:K+3<18446744073709551616):
  ((aL d).2=0∧JInv lg (K+1) (aL d).1 [] C∧(aL d).1.d.p=[]∧(d.b9 = -1→(aL d).1.d.b9 = -1)) ∨
  ((aL d).2=4∧(aL d).1.d.dead=true∧(aL d).1.d.Ok∧Safe lg (K+1) (aL d).1.d (·=C)∧d.b9 ≠ -1):=by
 have hr:=h.hrec;have cG:=hr.cG;have ef:=hr.ef;have afB:=hr.pick;have sK:d.get 0=at' d.l 0:=vW (fun w hw=>(h.pend w hw).1) 0 U
 have eT:d.get 1=at' d.l 1:=vW (fun w hw=>(h.pend w hw).1) 1 (by have:=h.cG;omega)
 have hu:=hr.hchain.used;have nk:=vq 0 fr;unfold aL;rw[h.live,η Z,sK,eT,afB];simp only[];have M:Mid lg K d ⟨d,s,k,s.s,0⟩ s k [] fr:=⟨h.ok,h.live,rfl,κ,rfl,rfl,κ,rfl,hr.hchain,fun h=>h⟩
 rcases Wz h hK (s.log+1) fr [] _ rfl M U with ⟨a,b,c⟩|⟨a,b,c,e,f⟩
 ·rw[Φ a]
  rcases Qb b U with ⟨a2,b2,c2,e2⟩|⟨a2,b2,c2,e2,f2⟩
  ·exact .inl ⟨a2,b2,c2,fun hf=>e2 (c hf)⟩
  ·exact .inr ⟨a2,b2,c2,e2,fun hf=>f2 (c hf)⟩
 ·rw[η (by rw[a];decide)]
  exact .inr ⟨a,b,c,e.mono U (fun _ h=>h),f⟩
theorem JPre.open{lg K:Nat}{j:JL}{fr:List (List WrL)}{C:Nat→Bytes}(h:JPre lg K j fr C):jZ lg K j.d j.s j.k fr C :=
 ⟨h.ok,h.live,h.hrec,h.cG,h.he,by rw[←h.hnext];exact h.il,h.pend⟩
end
section
open Go.RowKit
theorem od{k:IntKind}{a b:Int}(h:a=b):Ending.returned (.int k a)=.returned (.int k b):=by rw[h]
theorem JN{a b:Bool}(h:a=b):Ending.returned (.bool a)=.returned (.bool b):=by rw[h]
theorem I2{a b:List UInt8}(h:a=b):Ending.returned (.string ⟨a.toArray⟩)=.returned (.string ⟨b.toArray⟩):=by rw[h]
theorem int_eq{k:IntKind}{a b:Int}(h:a=b):Value.int k a=.int k b:=by rw[h]
theorem w64b(b:UInt8):wrap64 (b.toNat:Int)=b.toNat:=by
 have:=V2 b;exact IntWalk.wrap64_in _ U
theorem Ep(b j:Nat):(⟨b,0,none⟩:Addr).add j=⟨b,j,none⟩:=by unfold Addr.add;split<;>simp_all
theorem Hp{P:Program}(W:World)(t ty:TypeId)(base:Nat)(e e':TypeId)(i:TypeInfo)(z:Value)(size bytes:Nat)(ht:P.underlying t=some (.slice e))(hi:P.info? e=some i)(hz:i.zero=some z)
  (iE:i.size=size) (iT:i.bytes=bytes) (jl:z.cells.size=size) (bP:0<size) (rE:0<bytes)
  (v:Value) (n:Nat) (xs:List Value) (aF:W.ownsRow base e size v n xs)
  (news:Array Value) (hl:news.size=size) (h1:∀u∈news.toList,u.oneCell'=true) (hb:(n+1)*bytes≤140737488355328) (fP:base≤W.heap.size) :
  ∃g cap w',(Builtin.append_ #[t,t] ty #[v,.slice (some ⟨W.heap.size,0,none⟩) 1 1]).run P (W.alloc (.cells news e'))=.ok (.slice (some ⟨g,0,none⟩) (n+1) cap) w' ∧
   w'.ownsRow base e size (.slice (some ⟨g,0,none⟩) (n+1) cap) (n+1) (xs++news.toList)∧W.grownBy w' v.ownBlock∧(v.ownBlock=some g∨W.heap.size<g)∧g<w'.heap.size∧W.heap.size<w'.heap.size:=by
 have DY:n+1≤maxLen:=by
  have:=adt (n+1) rE;simp only[maxLen];omega
 obtain⟨g,cap,w',hr,h2,h3,h4,h5⟩:=run_append_lies (P:=P) (W.alloc (.cells news e')) t ty base e i z size bytes ht hi hz iE iT jl bP v n xs (aF.alloc _) ⟨W.heap.size,0,none⟩ 1 1 news.toList (by simpa using hl)
  (fun j u hj=>by
   rw[Ep];simp only[World.cell?,heap_alloc_new];simpa using hj) h1 U DY hb (by simp;omega) (W.heap.size+1) κ
 refine⟨g,cap,w',hr,h2,⟨h3.os.trans rfl,h3.tape.trans rfl,h3.output.trans rfl,by have:=h3.size;simp at this;omega,fun k hk aU=>?_⟩,h4.imp id (fun h=>U),h5,by have:=h3.size;simp at this;omega⟩
 rw[h3.block k (by simp;omega) aU,Below.heap_alloc _ _ _ hk]
theorem bG{P:Program}(W:World){ops:Array Oper}{rest:List Oper}{o:Oper}{a:Act}{Q:Exit→Act→World→Prop}(pQ:o.guard=none)(s x:Operand)(t:TypeId)
  (ho:o.op=.call { callee:=.builtin .append,args:=#[s,x],argTypes:=#[t,t] })
  (base:Nat) (e e':TypeId) (i:TypeInfo) (z:Value) (size bytes:Nat) (ht:P.underlying t=some (.slice e)) (hi:P.info? e=some i) (hz:i.zero=some z)
  (iE:i.size=size) (iT:i.bytes=bytes) (jl:z.cells.size=size) (bP:0<size) (rE:0<bytes)
  (v:Value) (n:Nat) (xs:List Value) (hs:a.eval s=v) (aF:W.ownsRow base e size v n xs)
  (news:Array Value) (hx:a.eval x=.slice (some ⟨W.heap.size,0,none⟩) 1 1) (hl:news.size=size) (h1:∀u∈news.toList,u.oneCell'=true)
  (hb:(n+1)*bytes≤140737488355328) (fP:base≤W.heap.size)
  (h:∀g cap w',w'.ownsRow base e size (.slice (some ⟨g,0,none⟩) (n+1) cap) (n+1) (xs++news.toList)→W.grownBy w' v.ownBlock→(v.ownBlock=some g∨W.heap.size<g)→g<w'.heap.size→W.heap.size<w'.heap.size →
   wpList P ops Q rest (a.put o.dst (.slice (some ⟨g,0,none⟩) (n+1) cap)) w'):wpList P ops Q (o::rest) a (W.alloc (.cells news e')):=by
 obtain⟨g,cap,w',hr,h2,h3,h4,h5,h6⟩:=Hp (P:=P) W t o.type base e e' i z size bytes ht hi hz iE iT jl bP rE v n xs aF news hl h1 hb fP;refine wpList_plain pQ fun _ hK=>?_
 unfold Oper.wp execOp;simp only[ho,resolve,invoke,builtin,Sem.run_bind,Sem.run_pure,Result.andThen_ok,abx,On,Wg,hs,hx,hr];exact hK _ _ (h g cap w' h2 h3 h4 h5 h6)
theorem bD{B base:Nat}{w0 W w':World}{v:Value}{e:TypeId}{size n:Nat}{xs:List Value}(hb:Below B w0 W)(aF:W.ownsRow base e size v n xs)(hg:W.grownBy w' v.ownBlock)(hB:B≤base)(hW:B≤W.heap.size):Below B w0 w' :=
 hb.grown hg hW (fun k hk=>by have:=(aF.lt k hk).1;omega)
theorem Am{base:Nat}{W w':World}{v:Value}{e:TypeId}{size n:Nat}{xs:List Value}(aF:W.ownsRow base e size v n xs)(hg:W.grownBy w' v.ownBlock){p:Addr}{u:Value}(hp:p.block<base)(hc:W.cell? p=some u):w'.cell? p=some u :=
 hg.cell hc (fun h=>by have:=(aF.lt p.block h.symm).1;omega)
theorem aY{w:World}{base:Nat}{e:TypeId}{size:Nat}{v:Value}{n:Nat}{xs:List Value}(h:w.ownsRow base e size v n xs):∃a cap,v=.slice a n cap∧(0<n→∃g,a=some ⟨g,0,none⟩):=by
 rcases h.2 with ⟨rfl,rfl⟩|⟨g,cap,cur,rfl,_⟩
 ·exact⟨none,0,rfl,fun h=>U⟩
 ·exact⟨_,cap,rfl,fun _=>⟨g,rfl⟩⟩
theorem ownsRow_below{w w':World}{base:Nat}{e:TypeId}{size:Nat}{v:Value}{n:Nat}{xs:List Value}(h:w.ownsRow base e size v n xs)(hb:Below w.heap.size w w'):w'.ownsRow base e size v n xs :=
 h.kept (row:=none) ⟨hb.os,hb.tape,hb.output,hb.size,fun k hk _=>hb.block k hk⟩ (by cases v.ownBlock<;>simp)
theorem eY(s:List UInt8)(a b:Nat):({ data:=s.toArray }:ByteArray).extract a b=⟨((s.drop a).take (b-a)).toArray⟩:=by
 apply ByteArray.ext;rw[ByteArray.data_extract];simp[List.take_drop]
theorem fI(s:List UInt8)(a:Nat):({ data:=s.toArray }:ByteArray).extract a s.length=⟨(s.drop a).toArray⟩:=by
 rw[eY,NE (by rw[MM];omega)]
theorem uD(s:List UInt8)(a:Nat):({ data:=s.toArray }:ByteArray).extract 0 a=⟨(s.take a).toArray⟩:=by
 rw[eY];simp
theorem Dc{k:IntKind}{x v:Int}{y:ByteArray}{r:List UInt8}{b:Bool}(h1:x=v)(h2:y=⟨r.toArray⟩):
  Ending.returned (.tuple #[.int k x,.string y,.bool b])=.returned (.tuple #[.int k v,.string ⟨r.toArray⟩,.bool b]):=by rw[h1,h2]
theorem Uv{x y:ByteArray}{q r:List UInt8}{b:Bool}(h1:x=⟨q.toArray⟩)(h2:y=⟨r.toArray⟩):
  Ending.returned (.tuple #[.string x,.string y,.bool b])=.returned (.tuple #[.string ⟨q.toArray⟩,.string ⟨r.toArray⟩,.bool b]):=by rw[h1,h2]
theorem bytes_append(a b:List UInt8):({ data:=a.toArray }:ByteArray)++{ data:=b.toArray }=⟨(a++b).toArray⟩:=by
 apply ByteArray.ext;simp
theorem Hd{p:Prop}(h:p):RowKit.Hid p:=Lib.hid h
def bit(l:List UInt8)(i:Nat):Bool:=(l.getD (i / 8) 0).toNat.testBit (i%8)
def mH(l:List UInt8)(i:Int):Bool:=decide (0≤i)&&bit l i.toNat
theorem tG(l:List UInt8)(i:Nat)(h:8*l.length≤i):bit l i=false:=by
 unfold bit;rw[Θ,adO U];simp
theorem Qc(l:List UInt8)(i:Int)(h:i<0):mH l i=false:=by
 simp[mH];omega
theorem oR(l:List UInt8)(i:Int)(h:8*l.length≤i):mH l i=false:=by
 unfold mH;rw[tG _ _ U];simp
theorem gQ(l:List UInt8)(i:Nat):mH l i=bit l i:=by simp[mH]
theorem B9(x k:Nat)(hx:x<256):(bits BinOp.and IntKind.u8 ((x:Int) / 2 ^ k) 1==1)=x.testBit k:=by
 have h1:((x:Int) / 2 ^ k)=((x / 2 ^ k:Nat):Int):=κ;have h2:x / 2 ^ k<256:=aeg (Nat.div_le_self _ _) hx;rw[h1];have:=u8_and_nat (x / 2 ^ k) 1 h2 U;rw[show((1:Nat):Int)=1 from rfl] at this
 rw[this,aej,acd];by_cases h:x / 2 ^ k%2=1
 ·simp[h]
 ·have:x / 2 ^ k%2=0:=U
  rw[this];simp
theorem pu(l:List UInt8)(i:Int)(hi:0≤i)(h:(i / 8).toNat<l.length):
  mH l i=(l[(i / 8).toNat]).toNat.testBit (i%8).toNat:=by
 unfold mH bit;have e1:i.toNat / 8=(i / 8).toNat:=U;have e2:i.toNat%8=(i%8).toNat:=U;rw[e1,e2,Θ,Mp h];simp[hi]
theorem Uw(x k:Nat):((x / 2 ^ k:Nat):Int) / 2=((x / 2 ^ (k+1):Nat):Int):=by
 rw[aae,←Nat.div_div_eq_div_mul];rfl
theorem Ux(x k:Nat):(((x / 2 ^ k:Nat):Int)%2==1)=x.testBit k:=by
 rw[acd,acw];generalize x / 2 ^ k=y;rw[NX,decide_eq_true_iff];omega
def ci(w:World)(B:Nat)(l:List UInt8):Prop :=
 ∃cur e lo hi,w.heap[B]?=some (.cells cur e (lo,hi))∧(hi≤lo∨l.length≤lo)∧∀j (_:j<l.length),cur[j]?=some (.int .u8 l[j].toNat)
theorem ci.cell{w:World}{B:Nat}{l:List UInt8}(h:ci w B l)(j:Nat)(hj:j<l.length):w.cell? ⟨B,j,none⟩=some (.int .u8 l[j].toNat):=by
 obtain⟨cur,e,lo,hi,h1,h2,h3⟩:=h;simp[World.cell?,h1,h3 j hj]
theorem ci.frozen{w:World}{B:Nat}{l:List UInt8}(h:ci w B l)(j:Nat)(hj:j<l.length):w.frozen? ⟨B,j,none⟩=false:=by
 obtain⟨cur,e,lo,hi,h1,h2,h3⟩:=h;simp[World.frozen?,h1];omega
theorem ci.at{w:World}{B:Nat}{l:List UInt8}(h:ci w B l)(j:Nat)(hj:j<l.length):∃x:Nat,x<256∧Hid ((l.getD j 0).toNat=x)∧w.cell? ⟨B,j,none⟩=some (.int .u8 x)∧w.frozen? ⟨B,j,none⟩=false :=
 ⟨l[j].toNat,V2 _,by unfold Hid;rw[Θ,Mp hj];rfl,h.cell j hj,h.frozen j hj⟩
theorem ci.drew{w:World}{B:Nat}{l:List UInt8}(h:ci w B l):ci w.drew B l:=h
theorem ci.drewN{w:World}{B:Nat}{l:List UInt8}(h:ci w B l)(n:Nat):ci (w.drewN n) B l:=h
theorem ci.below{w w':World}{B N:Nat}{l:List UInt8}(h:ci w B l)(hb:Below N w w')(hB:B<N):ci w' B l:=by
 obtain⟨cur,e,lo,hi,h1,h2⟩:=h;exact⟨cur,e,lo,hi,by rw[hb.block B hB];exact h1,h2⟩
theorem ci.alloc{w:World}{B:Nat}{l:List UInt8}(h:ci w B l)(o:Obj):ci (w.alloc o) B l:=by
 obtain⟨cur,e,lo,hi,h1,h2⟩:=h;refine⟨cur,e,lo,hi,?_,h2⟩;rw[Below.heap_alloc _ _ _ (Ss.1 h1).1];exact h1
theorem ci.set{w:World}{B:Nat}{l:List UInt8}(h:ci w B l)(j:Nat)(v:Int)(x:UInt8)(hv:v=x.toNat):ci (w.setCell ⟨B,j,none⟩ (.int .u8 v)) B (l.set j x):=by
 obtain⟨cur,e,lo,hi,h1,h2,h3⟩:=h;subst hv;refine⟨cur.setIfInBounds j (.int .u8 x.toNat),e,lo,hi,?_,by simpa using h2,?_⟩
 ·simp[World.setCell,VV,h1]
 ·intro k hk
  have Oz:k<l.length:=by simpa using hk
  rw[Array.getElem?_setIfInBounds];have:=h3 k Oz;have hs:k<cur.size:=(Ss.1 this).1;by_cases e:j=k
  ·subst e;simp[hs]
  ·simp[e,this]
theorem ci.made(w:World)(l:List UInt8)(cap:Nat)(e:TypeId):ci (w.alloc (.cells (bytesRow ⟨l.toArray⟩ cap) e ((bytesRow ⟨l.toArray⟩ cap).size,(bytesRow ⟨l.toArray⟩ cap).size+1))) w.heap.size l:=by
 refine⟨_,_,_,_,heap_alloc_new w _,Or.inr (by simp[bytesRow]),?_⟩
 intro j hj;have:=bytesRow_at ⟨l.toArray⟩ cap j (by simpa using hj)
 simpa using this
theorem ci.back{P:Program}{w:World}{B:Nat}{l:List UInt8}(h:ci w B l)(src dst e:TypeId)(cap:Nat)(hs:P.underlying src=some (.slice e))(he:P.underlying e=some (.int .u8))(hd:P.underlying dst=some .string):
  (convert src dst (.slice (some ⟨B,0,none⟩) l.length cap)).run P w=.ok (.string ⟨l.toArray⟩) w :=
 run_convert_bytes_back w src dst e _ cap l hs he hd (fun j hj=>by
  have:(⟨B,0,none⟩:Addr).add j=⟨B,j,none⟩:=by unfold Addr.add;split<;>simp_all
  rw[this];exact h.cell j hj)
def lN(x k:Nat)(on:Bool):Nat:=if on then x ||| 2 ^ k else x &&& (255-2 ^ k)
def qg(l:List UInt8)(i:Nat)(on:Bool):List UInt8:=l.set (i / 8) (UInt8.ofNat (lN (l.getD (i / 8) 0).toNat (i%8) on))
def bF(l:List UInt8)(start:Nat)(on:Bool):Nat→List UInt8
 | 0=>l
 | k+1=>qg (bF l start on k) (start+k) on
theorem Pv(l:List UInt8)(i:Nat)(on:Bool):(qg l i on).length=l.length:=by simp[qg]
theorem jL(l:List UInt8)(s:Nat)(on:Bool)(k:Nat):(bF l s on k).length=l.length:=by
 induction k with
 | zero=>rfl
 | succ k ih=>rw[bF,Pv,ih]
theorem IL(k:Nat)(hk:k<8):((2:Int) ^ k%256)=((2 ^ k:Nat):Int):=by
 have h:∀k:Fin 8,((2:Int) ^ k.val%256)=((2 ^ k.val:Nat):Int):=Z;exact h ⟨k,hk⟩
theorem uE(k:Nat)(hk:k<8):2 ^ k<256:=by
 have h:∀k:Fin 8,2 ^ k.val<256:=Z;exact h ⟨k,hk⟩
theorem uF(x k:Nat)(on:Bool)(hx:x<256)(hk:k<8):lN x k on<256:=by
 unfold lN;split
 ·exact Nat.or_lt_two_pow (n:=8) hx (uE k hk)
 ·exact aeg Nat.and_le_left hx
theorem AS(x k:Nat)(hx:x<256)(hk:k<8):(x &&& (255-2 ^ k)) ||| 2 ^ k=x ||| 2 ^ k:=by
 have h:∀(x:Fin 256) (k:Fin 8),(x.val &&& (255-2 ^ k.val)) ||| 2 ^ k.val=x.val ||| 2 ^ k.val:=by decide +kernel
 exact h ⟨x,hx⟩ ⟨k,hk⟩
theorem Er(x k:Nat)(hx:x<256)(hk:k<8):bits BinOp.andNot IntKind.u8 (x:Int) (2 ^ k%256)=((lN x k false:Nat):Int):=by
 rw[IL k hk,u8_andNot_nat _ _ hx (uE k hk)];rfl
theorem uk(x k:Nat)(hx:x<256)(hk:k<8):bits BinOp.or IntKind.u8 (bits BinOp.andNot IntKind.u8 (x:Int) (2 ^ k%256)) (2 ^ k%256)=((lN x k true:Nat):Int):=by
 rw[Er x k hx hk,IL k hk,u8_or_nat _ _ (uF x k false hx hk) (uE k hk)];unfold lN;simp[AS x k hx hk]
theorem set_set(l:List UInt8)(i:Nat)(a b:UInt8):(l.set i a).set i b=l.set i b:=κ
theorem ofNat_toNat(n:Nat)(h:n<256):((UInt8.ofNat n).toNat:Int)=n:=by
 rw[abR];omega
def fA(l:List UInt8)(n:Int):Nat:=(max 0 (min n (8*l.length))).toNat
theorem vX(l:List UInt8)(n:Int):fA l n≤8*l.length:=by unfold fA;omega
theorem KL(l:List UInt8)(n:Int):((fA l n:Nat):Int)=max 0 (min n (8*l.length)):=by unfold fA;omega
def cnt(l:List UInt8):Nat→Nat
 | 0=>0
 | k+1=>cnt l k+if bit l k then 0 else 1
theorem KM(l:List UInt8)(k:Nat):cnt l k≤k:=by
 induction k with
 | zero=>exact Ω _
 | succ k ih=>rw[cnt];split<;>omega
def jN(n:Int):List UInt8:=if 1≤n∧n≤32768 then List.replicate ((n+7) / 8).toNat 0 else []
theorem ci.zeros(w:World)(n:Nat)(e:TypeId):ci (w.alloc (.cells (madeCells #[.int .u8 0] n) e)) w.heap.size (List.replicate n 0):=by
 refine⟨_,_,_,_,heap_alloc_new w _,Or.inl (Ω _),?_⟩;intro j hj;have xR:j<n:=by simpa using hj
 simp[madeCells,xR,Nat.mod_one]
theorem GM(x k:Nat)(on:Bool)(hx:x<256)(hk:k<8)(h:(x.testBit k==on)=false):x ^^^ 2 ^ k=lN x k on:=by
 have h':∀(x:Fin 256) (k:Fin 8) (on:Bool),(x.val.testBit k.val==on)=false→x.val ^^^ 2 ^ k.val=lN x.val k.val on:=by decide +kernel
 exact h' ⟨x,hx⟩ ⟨k,hk⟩ on h
theorem A4(x k:Nat)(on:Bool)(hx:x<256)(hk:k<8)(h:(x.testBit k==on)=true):x=lN x k on:=by
 have h':∀(x:Fin 256) (k:Fin 8) (on:Bool),(x.val.testBit k.val==on)=true→x.val=lN x.val k.val on:=by decide +kernel
 exact h' ⟨x,hx⟩ ⟨k,hk⟩ on h
def bump:List (Nat×Nat)→List (Nat×Nat)
 | []=>[]
 | [r]=>[(r.1,r.2+1)]
 | r::rs=>r::bump rs
def aK(l:List UInt8):Nat→List (Nat×Nat)
 | 0=>[]
 | k+1=>if bit l k then aK l k else if 0<k∧bit l (k-1)=false then bump (aK l k) else aK l k++[(k,1)]
def ext(rs:List (Nat×Nat)):List Value:=rs.flatMap fun r=>[.int .i64 r.1,.int .i64 r.2]
theorem jO(rs:List (Nat×Nat)):(ext rs).length=rs.length*2:=by
 induction rs with
 | nil=>rfl
 | cons r rs ih=>simp only[ext,OR,Δ] at ih ⊢;simp at ih ⊢;omega
theorem jP(a b:List (Nat×Nat)):ext (a++b)=ext a++ext b:=by simp[ext]
theorem FZ(rs:List (Nat×Nat))(j:Nat)(h:j<rs.length):(ext rs)[2*j]?=some (.int .i64 rs[j].1)∧(ext rs)[2*j+1]?=some (.int .i64 rs[j].2):=by
 induction rs generalizing j with
 | nil=>simp at h
 | cons r rs ih =>
  cases j with
  | zero=>simp[ext]
  | succ j =>
   have:=ih j (by simpa using h)
   have e:ext (r::rs)=.int .i64 r.1::.int .i64 r.2::ext rs:=by simp[ext]
   rw[e];have e2:2*(j+1)=2*j+1+1:=U;rw[e2];simpa using this
theorem Uy(rs:List (Nat×Nat)):(bump rs).length=rs.length:=by
 induction rs with
 | nil=>rfl
 | cons r rs ih=>cases rs with
  | nil=>rfl
  | cons q qs=>simp only[bump,Mu] at ih ⊢;omega
theorem oC(l:List UInt8)(k:Nat):(aK l k).length≤k:=by
 induction k with
 | zero=>exact Ω _
 | succ k ih =>
  rw[aK];split
  ·omega
  ·split
   ·rw[Uy];omega
   ·simp;omega
theorem sV(rs:List (Nat×Nat))(r:Nat×Nat):bump (rs++[r])=rs++[(r.1,r.2+1)]:=by
 induction rs with
 | nil=>rfl
 | cons q qs ih =>
  rw[PC];cases h:qs++[r] with
  | nil=>simp at h
  | cons a az =>
   rw[h] at ih;simp only[bump,ih,PC]
theorem Uz(l:List UInt8)(k:Nat)(h:bit l k=false):∃rs r,aK l (k+1)=rs++[r]∧r.1+r.2=k+1∧1≤r.2:=by
 induction k with
 | zero=>exact⟨[],(0,1),by simp[aK,h],U,U⟩
 | succ k ih =>
  rw[aK,h];by_cases hk:bit l k=false
  ·obtain⟨rs,r,e,h1,h2⟩:=ih hk
   rw[e];refine⟨rs,(r.1,r.2+1),?_,by simp;omega,κ⟩
   simp[hk,sV]
  ·exact⟨aK l (k+1),(k+1,1),by simp[hk],U,U⟩
theorem pp(rs:List (Nat×Nat))(r1 r2:Nat):(ext rs++ext [(r1,r2)]).set (rs.length*2+1) (.int .i64 ((r2:Int)+1))=ext (rs++[(r1,r2+1)]):=by
 rw[jP,abw _ _ (by rw[jO];omega),jO]
 have:rs.length*2+1-rs.length*2=1:=U;rw[this];simp[ext]
end
end Go.Proofs.YtonlbpljghohmaaGreatDoor
