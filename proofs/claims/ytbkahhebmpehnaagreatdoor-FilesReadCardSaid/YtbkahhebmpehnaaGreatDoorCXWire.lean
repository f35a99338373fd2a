/- Joined: Wire to Jrn2 -/
import Derived.Test.YtbkahhebmpehnaaGreatDoorCXO
set_option linter.all false
set_option maxRecDepth 100000
set_option maxHeartbeats 8000000
namespace Go.Proofs.YtbkahhebmpehnaaGreatDoor
section
abbrev Bytes:=List UInt8
def jC:Nat→Nat→Bytes
 | 0,_=>[]
 | n+1,v=>if v<128 then [UInt8.ofNat v] else UInt8.ofNat (v%128+128)::jC n (v / 128)
def dN(v:Nat):Bytes:=jC 10 v
theorem Bm(n v:Nat):(jC n v).length≤n:=by
 induction n generalizing v with
 | zero=>simp[jC]
 | succ n ih=>rw[jC];split<;>simp;exact ih _
theorem toNat_ofNat(n:Nat)(h:n<256):(UInt8.ofNat n).toNat=n:=by
 rw[aai];omega
theorem B3(n u v:Nat)(hu:u<128 ^ n)(hv:v<128 ^ n)(r s:Bytes)(h:jC n u++r=jC n v++s):u=v∧r=s:=by
 induction n generalizing u v with
 | zero=>simp at hu hv;subst hu;subst hv;simpa[jC] using h
 | succ n ih =>
  rw[jC,jC] at h;rw[YY] at hu hv;by_cases h1:u<128<;>by_cases h2:v<128
  ·rw[Φ h1,Φ h2] at h
   simp only[Of,N0,abg] at h;have:=Pu UInt8.toNat h.1;rw[toNat_ofNat _ U,toNat_ofNat _ U] at this;exact⟨this,h.2⟩
  ·rw[Φ h1,η h2] at h
   simp only[Of,N0,abg] at h;have:=Pu UInt8.toNat h.1;rw[toNat_ofNat _ U,toNat_ofNat _ U] at this;omega
  ·rw[η h1,Φ h2] at h
   simp only[Of,N0,abg] at h;have:=Pu UInt8.toNat h.1;rw[toNat_ofNat _ U,toNat_ofNat _ U] at this;omega
  ·rw[η h1,η h2] at h
   simp only[Of,N0,abg] at h;have:=Pu UInt8.toNat h.1;rw[toNat_ofNat _ U,toNat_ofNat _ U] at this;obtain⟨e,e2⟩:=ih (u / 128) (v / 128) (by rw[abx U];omega) (by rw[abx U];omega) h.2
   exact⟨U,e2⟩
theorem nf(v:Nat)(h:v<18446744073709551616):v<128 ^ 10:=by
 have:(18446744073709551616:Nat)≤128 ^ 10:=Z;omega
theorem PY(u v:Nat)(hu:u<18446744073709551616)(hv:v<18446744073709551616)(r s:Bytes)(h:dN u++r=dN v++s):u=v∧r=s :=
 B3 10 u v (nf u hu) (nf v hv) r s h
def fX(s:Bytes)(v:Nat)(rest:Bytes):Prop:=v<18446744073709551616∧s=dN v++rest
theorem fX.one{s:Bytes}{u v:Nat}{r t:Bytes}(h:fX s u r)(k:fX s v t):u=v∧r=t :=
 PY u v h.1 k.1 r t (h.2.symm.trans k.2)
def qR(s:Bytes):Bytes:=dN s.length++s
def mL(s t rest:Bytes):Prop:=t.length<18446744073709551616∧s=qR t++rest
def qU(l:List Nat):Bytes:=l.flatMap dN
theorem iJ(v:Nat):(dN v).length≤10:=Bm 10 v
theorem rB(l:List Nat):(qU l).length≤10*l.length:=by
 induction l with
 | nil=>simp[qU]
 | cons a l ih =>
  have:=iJ a;simp only[qU,NO,Δ,Θ] at ih ⊢;omega
theorem Wt(l:List Nat)(k:Nat)(h:k<l.length):qU (l.take (k+1))=qU (l.take k)++dN l[k]:=by
 unfold qU;rw[Mb h,Sf];simp
theorem KG(m x:Nat)(hm:0<m)(h:x<128):jC m x=[UInt8.ofNat x]:=by
 cases m with
 | zero=>omega
 | succ m=>rw[jC,Φ h]
theorem PZ(m x:Nat)(h:128≤x)(hx:x<128 ^ m):1<m∧jC m x=UInt8.ofNat (x%128+128)::jC (m-1) (x / 128)∧x / 128<128 ^ (m-1):=by
 cases m with
 | zero=>simp at hx;omega
 | succ m =>
  cases m with
  | zero=>simp at hx;omega
  | succ m =>
   rw[YY] at hx;refine⟨U,?_,?_⟩
   ·rw[jC,η U];rfl
   ·rw[show m+1+1-1=m+1 by omega,abx U];omega
theorem Lq(x:Nat):(x%256) ||| 128=x%128+128:=by
 have h:∀y:Fin 256,y.val ||| 128=y.val%128+128:=by decide +kernel
 have:=h ⟨x%256,Sx _ U⟩;simp only at this;rw[this];omega
def oG(l:List Bytes):Bytes:=l.flatMap qR
theorem Uo(l:List Bytes)(k:Nat)(h:k<l.length):oG (l.take (k+1))=oG (l.take k)++qR l[k]:=by
 unfold oG;rw[Mb h,Sf];simp
theorem FT(s:Bytes):(qR s).length≤s.length+10:=by
 have:=iJ s.length;unfold qR;rw[Δ];omega
theorem Wu(l:List Bytes)(M:Nat)(h:∀s∈l,s.length≤M):(oG l).length≤l.length*(M+10):=by
 induction l with
 | nil=>simp[oG]
 | cons a l ih =>
  have h1:=ih (fun s hs=>h s (by simp[hs]))
  have h2:=FT a;have h3:=h a κ;simp only[oG,NO,Δ,Θ,aeL] at h1 ⊢;omega
def p9(c:Nat):Nat:=if c%2=1 then(c / 2) ^^^ 3988292384 else c / 2
def lM:Nat→Nat→Nat
 | 0,c=>c
 | k+1,c=>p9 (lM k c)
def Il(c:Nat)(b:UInt8):Nat:=lM 8 (c ^^^ b.toNat)
def mJ(s:Bytes):Nat:=s.foldl Il 4294967295
def fU(s:Bytes):Nat:=mJ s ^^^ 4294967295
def aB(v:Nat):Bytes:=[UInt8.ofNat (v%256),UInt8.ofNat (v / 256%256),UInt8.ofNat (v / 65536%256),UInt8.ofNat (v / 16777216%256)]
theorem Wv(c:Nat)(h:c<4294967296):p9 c<4294967296:=by
 unfold p9;split
 ·exact abj (n:=32) U Z
 ·omega
theorem Da(k c:Nat)(h:c<4294967296):lM k c<4294967296:=by
 induction k with
 | zero=>exact h
 | succ k ih=>exact Wv _ ih
theorem Ww(c:Nat)(b:UInt8)(h:c<4294967296):Il c b<4294967296 :=
 Da 8 _ (abj (n:=32) h (Nat.lt_trans (US b) Z))
theorem Wx(s:Bytes)(c:Nat)(h:c<4294967296):s.foldl Il c<4294967296:=by
 induction s generalizing c with
 | nil=>exact h
 | cons b s ih=>exact ih _ (Ww c b h)
theorem yV(s:Bytes):mJ s<4294967296:=Wx s _ Z
theorem yA(s:Bytes):fU s<4294967296:=abj (n:=32) (yV s) Z
theorem Uq(s:Bytes)(b:UInt8):mJ (s++[b])=Il (mJ s) b:=by simp[mJ]
theorem aH(v:Nat):(aB v).length=4:=rfl
theorem P5(a p:Bytes)(j:Nat)(h:j<p.length):mJ (a++p.take (j+1))=lM 8 (mJ (a++p.take j) ^^^ p[j].toNat):=by
 rw[Mb h,←Mm,Uq];rfl
theorem vp(ps:List Bytes)(k:Nat)(h:k<ps.length):(ps.take (k+1)).flatten=(ps.take k).flatten++ps[k]:=by
 rw[Mb h,Tl];simp
abbrev WrL:=Nat×Bytes
structure af where
 l:List Bytes
 p:List WrL
 b9:Int
 dead:Bool
def bH:List WrL→Nat→Bytes→Bytes
 | [],_,s=>s
 | w::p,i,s=>bH p i (if w.1=i then w.2 else s)
def iw(l:List Bytes)(p:List WrL):List Bytes:=p.foldl (fun l w=>l.set w.1 w.2) l
def ag:Bytes:=List.replicate 256 0
theorem sP(p q:List WrL)(i:Nat)(s:Bytes):bH (p++q) i s=bH q i (bH p i s):=by
 induction p generalizing s with
 | nil=>rfl
 | cons w p ih=>simp only[Of,bH];exact ih _
theorem uo(p:List WrL)(w:WrL)(i:Nat)(s:Bytes):bH (p++[w]) i s=if w.1=i then w.2 else bH p i s:=by
 rw[sP];rfl
theorem dM(p:List WrL)(i:Nat)(s:Bytes)(h:∀w∈p,w.1≠i):bH p i s=s:=by
 induction p generalizing s with
 | nil=>rfl
 | cons w p ih =>
  rw[bH,η (h w (Mu ..))];exact ih s (fun x hx=>h x (Mn _ hx))
theorem Em(p:List WrL)(i:Nat)(s t:Bytes)(h:∃w∈p,w.1=i):bH p i s=bH p i t:=by
 induction p generalizing s t with
 | nil=>obtain⟨w,hw,_⟩:=h;simp at hw
 | cons w p ih =>
  simp only[bH];by_cases hw:w.1=i
  ·rw[Φ hw,Φ hw]
  ·rw[η hw,η hw]
   obtain⟨x,hx,Bf⟩:=h;rcases MA.1 hx with rfl|hx
   ·exact absurd Bf hw
   ·exact ih s t ⟨x,hx,Bf⟩
theorem sQ(p:List WrL)(i:Nat)(s:Bytes)(h:∃w∈p,w.1=i):∃w∈p,w.1=i∧bH p i s=w.2:=by
 induction p generalizing s with
 | nil=>obtain⟨w,hw,_⟩:=h;simp at hw
 | cons w p ih =>
  simp only[bH];by_cases hp:∃x∈p,x.1=i
  ·obtain⟨x,hx,h1,h2⟩:=ih (if w.1=i then w.2 else s) hp
   exact⟨x,Mn _ hx,h1,h2⟩
  ·have hn:∀x∈p,x.1≠i:=fun x hx e=>hp ⟨x,hx,e⟩
   rw[dM p i _ hn];obtain⟨x,hx,Bf⟩:=h;rcases MA.1 hx with rfl|hx
   ·exact⟨x,Mu ..,Bf,by rw[Φ Bf]⟩
   ·exact absurd Bf (hn x hx)
theorem lY(l:List Bytes)(p:List WrL):(iw l p).length=l.length:=by
 unfold iw;induction p generalizing l with
 | nil=>rfl
 | cons w p ih=>rw[Tu,ih,Rx]
theorem A5(l:List Bytes)(p:List WrL)(i:Nat)(h:i<l.length):(iw l p).getD i []=bH p i (l.getD i []):=by
 unfold iw;induction p generalizing l with
 | nil=>rfl
 | cons w p ih =>
  rw[Tu,ih (l.set w.1 w.2) (by rw[Rx];exact h),bH]
  congr 1;by_cases hw:w.1=i
  ·rw[Φ hw,hw];simp[h]
  ·rw[η hw];simp[adY hw]
theorem Ur(l:List Bytes)(p q:List WrL):iw l (p++q)=iw (iw l p) q:=by simp[iw]
theorem Fi(l:List Bytes)(p:List WrL)(hl:∀s∈l,s.length=256)(hp:∀w∈p,w.2.length=256):∀s∈iw l p,s.length=256:=by
 unfold iw;induction p generalizing l with
 | nil=>exact hl
 | cons w p ih =>
  rw[Tu];refine ih _ (fun s hs=>?_) (fun x hx=>hp x (Mn _ hx))
  rcases adj hs with hs|rfl
  ·exact hl s hs
  ·exact hp w (Mu ..)
namespace af
structure Ok (d:af):Prop where
 pos:0<d.l.length
 max:d.l.length≤4096
 l:∀s∈d.l,s.length=256
 p:∀w∈d.p,w.1<d.l.length∧w.2.length=256
 b9 : -1≤d.b9
 j9:d.b9≤9223372036854775807
def chk(d:af)(i:Int):Int:=if d.dead then 4 else if 0≤i∧i<d.l.length then 0 else 2
def get(d:af)(i:Nat):Bytes:=bH d.p i (d.l.getD i [])
def read(d:af)(i:Int):Bytes×Int:=if d.chk i=0 then(d.get i.toNat,0) else([],d.chk i)
def bh(d:af):af:=if d.b9=0 then { d with dead:=true } else { d with b9:=max (d.b9-1) (-1) }
def write(d:af)(i:Int)(s:Bytes):af×Int :=
 if d.chk i≠0 then(d,d.chk i) else if s.length≠256 then(d,3) else if d.b9=0 then(d.bh,4) else({ d.bh with p:=d.p++[(i.toNat,s)] },0)
def bw(d:af):af×Int :=
 if d.dead then(d,4) else if d.b9=0 then(d.bh,4) else({ d.bh with l:=iw d.l d.p,p:=[] },0)
def Jn(keep:List Bool)(torn:Int)(cut:Nat)(k:Nat)(l:List Bytes)(w:WrL):List Bytes :=
 if keep.getD k false then l.set w.1 w.2 else if (k:Int)=torn then l.set w.1 (w.2.take cut++(l.getD w.1 []).drop cut) else l
def vA(keep:List Bool)(torn:Int)(cut:Nat):Nat→List Bytes→List WrL→List Bytes
 | _,l,[]=>l
 | k,l,w::p=>vA keep torn cut (k+1) (Jn keep torn cut k l w) p
def cutN(cut:Int):Nat:=(min (max cut 0) 256).toNat
def crash(d:af)(keep:List Bool)(torn cut:Int):af:=⟨vA keep torn (cutN cut) 0 d.l d.p,[],-1,false⟩
def writes(d:af):List WrL→af×Int
 | []=>(d,0)
 | w::l=>if (d.write w.1 w.2).2=0 then(d.write w.1 w.2).1.writes l else d.write w.1 w.2
def new(n:Nat):af:=⟨List.replicate n ag,[],-1,false⟩
theorem lL(n:Nat)(h0:0<n)(h1:n≤4096):(new n).Ok :=
 ⟨by simpa[new] using h0,by simpa[new] using h1,fun s hs=>by rw[ado hs];exact Nx,fun w hw=>by simp[new] at hw,by simp[new],by simp[new]⟩
theorem df(d:af):d.bh.l=d.l∧d.bh.p=d.p:=by unfold bh;split<;>exact⟨rfl,rfl⟩
theorem gj{d:af}(h:d.Ok):d.bh.Ok:=by
 have hf:=h.b9;have Ry:=h.j9;refine⟨by rw[(df d).1];exact h.pos,by rw[(df d).1];exact h.max,by rw[(df d).1];exact h.l,by rw[(df d).1,(df d).2];exact h.p,?_,?_⟩<;>unfold bh<;>split
 ·exact hf
 ·simp only;omega
 ·exact Ry
 ·simp only;omega
theorem eI{d:af}(h:d.Ok)(i:Int)(s:Bytes):(d.write i s).1.Ok:=by
 unfold write;split
 ·exact h
 ·rename_i hc
  split
  ·exact h
  ·rename_i hs
   split
   ·exact gj h
   ·have ht:=gj h
    have hi:0≤i∧i<d.l.length:=by
     unfold chk at hc;cases hd:d.dead<;>simp[hd] at hc
     exact hc
    refine⟨ht.pos,ht.max,ht.l,fun w hw=>?_,ht.b9,ht.j9⟩
    rcases My.1 hw with hw|hw
    ·have:=ht.p w (by rw[(df d).2];exact hw)
     exact this
    ·rw[Mo] at hw
     subst hw;refine⟨?_,by simpa using hs⟩
     show i.toNat<d.bh.l.length;rw[(df d).1];omega
theorem li{d:af}(h:d.Ok):d.bw.1.Ok:=by
 unfold bw;split
 ·exact h
 ·split
  ·exact gj h
  ·refine⟨?_,?_,?_,fun w hw=>by simp at hw,(gj h).b9,(gj h).j9⟩
   ·show 0<(iw d.l d.p).length
    rw[lY];exact h.pos
   ·show(iw d.l d.p).length≤4096
    rw[lY];exact h.max
   ·exact Fi _ _ h.l (fun w hw=>(h.p w hw).2)
theorem d8{l:List Bytes}{i n:Nat}(h:∀s∈l,s.length=n)(hi:i<l.length):(l.getD i []).length=n:=by
 rw[LR,LN hi];exact h _ (LO hi)
theorem eN{d:af}(h:d.Ok)(l:List WrL):(d.writes l).1.Ok:=by
 induction l generalizing d with
 | nil=>exact h
 | cons w l ih =>
  rw[writes];split
  ·exact ih (eI h _ _)
  ·exact eI h _ _
theorem Na(d:af)(i:Int)(s:Bytes):(d.write i s).1.l.length=d.l.length:=by
 unfold write;split
 ·rfl
 ·split
  ·rfl
  ·split
   ·rw[(df d).1]
   ·show d.bh.l.length=_
    rw[(df d).1]
theorem qu(d:af):d.bw.1.l.length=d.l.length:=by
 unfold bw;split
 ·rfl
 ·split
  ·rw[(df d).1]
  ·exact lY _ _
theorem gg(d:af)(l:List WrL):(d.writes l).1.l.length=d.l.length:=by
 induction l generalizing d with
 | nil=>rfl
 | cons w l ih =>
  rw[writes];split
  ·rw[ih,Na]
  ·exact Na _ _ _
theorem gh{d:af}(h:d.Ok)(i:Nat)(hi:i<d.l.length):(d.get i).length=256:=by
 unfold get;by_cases hp:∃w∈d.p,w.1=i
 ·obtain⟨w,hw,_,e⟩:=sQ d.p i (d.l.getD i []) hp
  rw[e];exact(h.p w hw).2
 ·rw[dM _ _ _ (fun w hw e=>hp ⟨w,hw,e⟩)]
  exact d8 h.l hi
end af
def bA(s:Bytes)(k:Nat):Nat:=(s.getD k 0).toNat
def gZ(s:Bytes):Nat→Nat
 | 0=>0
 | k+1=>gZ s k+bA s k%128*128 ^ k
theorem jW(s:Bytes)(k:Nat):bA s k<256:=US _
theorem DC(s:Bytes)(k:Nat):gZ s k<128 ^ k:=by
 induction k with
 | zero=>simp[gZ]
 | succ k ih =>
  rw[gZ,YY];have h1:bA s k%128≤127:=U;have h2:=W7 (128 ^ k) h1;omega
theorem Nb(c:UInt8)(t:Bytes)(k:Nat):gZ (c::t) (k+1)=c.toNat%128+128*gZ t k:=by
 induction k with
 | zero=>simp[gZ,bA]
 | succ k ih =>
  rw[gZ,ih,gZ];have:bA (c::t) (k+1)=bA t k:=rfl;rw[this,YY,Nat.mul_add];have e:bA t k%128*(128 ^ k*128)=128*(bA t k%128*128 ^ k):=by rw[←Nat.mul_assoc,UX]
  rw[e];omega
def Ends(s:Bytes)(k:Nat):Prop:=k<s.length∧(∀j,j<k→128≤bA s j)∧bA s k<128∧(0<k→bA s k≠0)
theorem C7(s:Bytes)(k:Nat)(h:Ends s k)(hk:0<k):0<gZ s (k+1):=by
 rw[gZ];have h1:0<bA s k%128:=by have:=h.2.2.1;have:=h.2.2.2 hk;omega
 have:=Nat.mul_pos h1 (Nat.pow_pos (n:=k) (show 0<128 by omega))
 omega
theorem P6(n k:Nat)(s:Bytes)(h:Ends s k)(hn:k<n):jC n (gZ s (k+1))=s.take (k+1):=by
 induction k generalizing n s with
 | zero =>
  obtain⟨h1,_,h3,_⟩:=h;cases s with
  | nil=>simp at h1
  | cons c t =>
   cases n with
   | zero=>omega
   | succ n =>
    have e:gZ (c::t) 1=c.toNat:=by
     have:c.toNat<128:=h3;simp[gZ,bA];omega
    have hc:c.toNat<128:=h3;rw[On,e,jC,Φ hc];simp
 | succ k ih =>
  obtain⟨h1,h2,h3,h4⟩:=h;cases s with
  | nil=>simp at h1
  | cons c t =>
   cases n with
   | zero=>omega
   | succ n =>
    have ht:Ends t k:=⟨by simpa using h1,fun j hj=>h2 (j+1) U,h3,fun _=>h4 U⟩
    have Ym:0<gZ t (k+1):=by
     by_cases hk:0<k
     ·exact C7 t k ht hk
     ·have lT:k=0:=U
      subst lT;have h5:bA t 0≠0:=h4 U;have h6:bA t 0<128:=h3;have e:gZ t (0+1)=bA t 0%128:=by simp[gZ]
      rw[e];omega
    have hc:128≤c.toNat:=h2 0 U;have dI:=US c;rw[Nb,jC,η U,show(c.toNat%128+128*gZ t (k+1))%128+128=c.toNat by omega,
     show(c.toNat%128+128*gZ t (k+1)) / 128=gZ t (k+1) by omega,ih n t ht U]
    simp
theorem P7(n v:Nat)(hv:v<128 ^ n)(hn:0<n):∃k,k<n∧(jC n v).length=k+1∧Ends (jC n v) k∧gZ (jC n v) (k+1)=v:=by
 induction n generalizing v with
 | zero=>omega
 | succ n ih =>
  rw[jC];by_cases h:v<128
  ·rw[Φ h]
   have hb:bA [UInt8.ofNat v] 0=v:=toNat_ofNat v U;exact⟨0,U,rfl,⟨κ,fun j hj=>U,by rw[hb];exact h,fun h0=>U⟩,by simp[gZ,hb];omega⟩
  ·rw[η h]
   have xQ:0<n:=by
    rcases TC n with h0|h0
    ·subst h0;simp at hv;omega
    ·exact h0
   rw[YY] at hv;obtain⟨k,h1,h2,⟨h3,h4,h5,h6⟩,h7⟩:=ih (v / 128) (by rw[abx U];omega) xQ
   have hc:(UInt8.ofNat (v%128+128)).toNat=v%128+128:=toNat_ofNat _ U;refine⟨k+1,U,by simp[h2],⟨by simpa using h3,fun j hj=>?_,h5,fun _=>?_⟩,?_⟩
   ·cases j with
    | zero=>show 128≤(UInt8.ofNat (v%128+128)).toNat;omega
    | succ j=>exact h4 j U
   ·show bA (jC n (v / 128)) k≠0
    by_cases hk:0<k
    ·exact h6 hk
    ·have lT:k=0:=U
     subst lT;rw[On,gZ,gZ] at h7;simp at h7;omega
   ·rw[Nb,h7,hc];omega
theorem pH:(128:Nat) ^ 9=9223372036854775808:=Z
theorem Fb(s:Bytes)(k:Nat)(h:Ends s k)(hk:k<10)(h9:k=9→bA s k≤1):fX s (gZ s (k+1)) (s.drop (k+1)):=by
 refine⟨?_,?_⟩
 ·have h1:=DC s (k+1)
  by_cases e:k=9
  ·subst e
   have h2:=DC s 9;rw[gZ];have h3:=h9 rfl;have h4:bA s 9%128≤1:=U;have h5:=W7 (128 ^ 9) h4;rw[pH] at h2 h5 ⊢;omega
  ·have:128 ^ (k+1)≤128 ^ 9:=W8 U U
   rw[pH] at this;omega
 ·unfold dN
  rw[P6 10 k s h hk,OR]
theorem wS(a b:Bytes)(k:Nat)(h:k<a.length):bA (a++b) k=bA a k:=by
 unfold bA;rw[LR,LR,Tb h]
theorem zN(s:Bytes)(v:Nat)(r:Bytes)(h:fX s v r):∃k,k<10∧Ends s k∧(k=9→bA s k≤1):=by
 obtain⟨hv,rfl⟩:=h;unfold dN;obtain⟨k,h1,h2,⟨h3,h4,h5,h6⟩,h7⟩:=P7 10 v (nf v hv) U;refine⟨k,h1,⟨by simp;omega,fun j hj=>?_,?_,fun h0=>?_⟩,fun e=>?_⟩
 ·rw[wS _ _ _ U];exact h4 j hj
 ·rw[wS _ _ _ U];exact h5
 ·rw[wS _ _ _ U];exact h6 h0
 ·rw[wS _ _ _ U]
  subst e;rw[gZ] at h7;have h8:bA (jC 10 v) 9%128=bA (jC 10 v) 9:=U;rw[h8,pH] at h7;by_cases h9:bA (jC 10 v) 9≤1
  ·exact h9
  ·have:2≤bA (jC 10 v) 9:=U
   have:=W7 9223372036854775808 this;omega
theorem Ek(s:Bytes)(j k:Nat)(h:Ends s j)(hj:bA s k<128)(hk:∀i,i<k→128≤bA s i):j=k:=by
 rcases abr j k with h1|h1|h1
 ·have:=hk j h1;have:=h.2.2.1;omega
 ·exact h1
 ·have:=h.2.1 k h1;omega
def aM(s:Bytes):Nat:=bA s 0+256*bA s 1+65536*bA s 2+16777216*bA s 3
theorem eU(s:Bytes):aM s<4294967296:=by
 have:=jW s 0;have:=jW s 1;have:=jW s 2;have:=jW s 3;unfold aM;omega
theorem kK(v:Nat)(r:Bytes):aM (aB v++r)=v%4294967296:=by
 have h:∀n,n<256→(UInt8.ofNat n).toNat=n:=toNat_ofNat;unfold aM;simp only[bA,aB,Of,N0,acL,abM];rw[h _ U,h _ U,h _ U,h _ U];omega
theorem uq(v:Nat):aB (v%4294967296)=aB v:=by
 unfold aB;rw[show v%4294967296%256=v%256 by omega,show v%4294967296 / 256%256=v / 256%256 by omega,show v%4294967296 / 65536%256=v / 65536%256 by omega,show v%4294967296 / 16777216%256=v / 16777216%256 by omega]
def bg(n:Nat):Bytes:=List.replicate n 0
theorem fC(n:Nat):(bg n).length=n:=Nx
def iR(l:List Nat):Bytes:=l.flatMap aB
theorem uw(l:List Nat):(iR l).length=4*l.length:=by
 induction l with
 | nil=>rfl
 | cons x l ih=>simp only[iR,NO,Δ,Θ] at ih ⊢;rw[ih,aH];omega
def ek:Bytes:=[67,68,88,84]
def du:Bytes:=[67,68,88,69]
def jo(seq:Nat)(ws:List WrL):Bytes :=
 ek++(aB seq++(aB (seq / 4294967296)++(aB ws.length++(iR (ws.map (·.1))++bg (232-4*ws.length)))))
def En(ws:List WrL):Bytes:=(ws.map (·.2)).flatten
def bK(seq:Nat)(ws:List WrL):Bytes:=jo seq ws++(aB (fU (jo seq ws++En ws))++du)
def jG(seq:Nat)(ws:List WrL):List Bytes:=bK seq ws::ws.map (·.2)
def sS(ws:List WrL):Prop:=1≤ws.length∧ws.length≤48∧∀w∈ws,w.1<4096∧w.2.length=256
theorem qd(seq:Nat)(ws:List WrL)(h:ws.length≤48):(jo seq ws).length=248:=by
 simp only[jo,Δ,aH,uw,fC,NE];have:ek.length=4:=rfl;omega
theorem nD(seq:Nat)(ws:List WrL)(h:ws.length≤48):(bK seq ws).length=256:=by
 simp only[bK,Δ,aH,qd seq ws h];rfl
def numsL:Nat→Bytes→Option (List Nat×Bytes)
 | 0,s=>some ([],s)
 | n+1,s=>if aM s<4096 then(numsL n (s.drop 4)).map fun r=>(aM s::r.1,r.2) else none
def dV(b:Bytes):Option (Nat×List Nat) :=
 if b.length=256∧b.take 4=ek∧b.drop 252=du then
  let n:=aM (b.drop 12)
  if 1≤n∧n≤48 then
   match numsL n ((b.drop 16).take 232) with
   | some (l,r)=>if r.all (·==0) then some (aM (b.drop 8)*4294967296+aM (b.drop 4),l) else none
   | none=>none
  else none
 else none
def eD(l:List Bytes):Option (Nat×List WrL) :=
 match l with
 | []=>none
 | b::rest =>
  match dV b with
  | none=>none
  | some (seq,at_) =>
   if rest.length<at_.length∨∃s∈rest.take at_.length,s.length≠256 then none
   else if aB (fU (b.take 248++(rest.take at_.length).flatten))=(b.drop 248).take 4 then some (seq,at_.zip rest) else none
theorem P8(l:List Nat)(r:Bytes)(h:∀x∈l,x<4096):numsL l.length (iR l++r)=some (l,r):=by
 induction l with
 | nil=>rfl
 | cons x l ih =>
  have hx:=h x (Mu ..);have e:iR (x::l)++r=aB x++(iR l++r):=by simp[iR,Mm]
  have hd:(aB x++(iR l++r)).drop 4=iR l++r:=abQ (aH x);rw[Θ,numsL,e,kK,Φ U,hd,ih (fun y hy=>h y (Mn _ hy))]
  simp only[acz];rw[OS U]
theorem jX(a b:Bytes)(n:Nat)(h:a.length=n):(a++b).drop n=b:=abQ h
theorem yB(a b:Bytes)(n:Nat)(h:a.length=n):(a++b).take n=a:=SU h
theorem vf(a b:Bytes)(n k:Nat)(h:a.length=n):(a++b).drop (n+k)=b.drop k:=by rw[←N6,jX a b n h]
theorem Us(seq:Nat)(hs:seq<18446744073709551616)(ws:List WrL)(h:sS ws):dV (bK seq ws)=some (seq,ws.map (·.1)):=by
 obtain⟨h1,h2,h3⟩:=h;have hb:=qd seq ws h2;have hl:=nD seq ws h2;have m4:ek.length=4:=rfl;have e4:(bK seq ws).drop 4=aB seq++(aB (seq / 4294967296)++(aB ws.length++(iR (ws.map (·.1))++bg (232-4*ws.length))))++(aB (fU (jo seq ws++En ws))++du):=by
  rw[bK,jo,Mm ek,jX _ _ _ m4]
 have e8:(bK seq ws).drop 8=aB (seq / 4294967296)++(aB ws.length++(iR (ws.map (·.1))++bg (232-4*ws.length)))++(aB (fU (jo seq ws++En ws))++du):=by
  rw[show(8:Nat)=4+4 from rfl,←N6,e4,Mm (aB seq),jX _ _ _ (aH _)]
 have e12:(bK seq ws).drop 12=aB ws.length++(iR (ws.map (·.1))++bg (232-4*ws.length))++(aB (fU (jo seq ws++En ws))++du):=by
  rw[show(12:Nat)=8+4 from rfl,←N6,e8,Mm (aB (seq / _)),jX _ _ _ (aH _)]
 have e16:(bK seq ws).drop 16=(iR (ws.map (·.1))++bg (232-4*ws.length))++(aB (fU (jo seq ws++En ws))++du):=by
  rw[show(16:Nat)=12+4 from rfl,←N6,e12,Mm (aB ws.length),jX _ _ _ (aH _)]
 have hz:(iR (ws.map (·.1))++bg (232-4*ws.length)).length=232:=by
  simp only[Δ,uw,fC,NE];omega
 have et:(bK seq ws).take 4=ek:=by rw[bK,jo,Mm ek,yB _ _ _ m4]
 have ee:(bK seq ws).drop 252=du:=by
  rw[bK,show(252:Nat)=248+4 from rfl,vf _ _ _ _ hb,jX _ _ _ (aH _)]
 unfold dV;rw[Φ ⟨hl,et,ee⟩];simp only[];rw[e12,Mm (aB ws.length),kK,OS U,Φ ⟨h1,h2⟩,e16,yB _ _ _ hz];have hn:=P8 (ws.map (·.1)) (bg (232-4*ws.length)) (fun x hx=>by
  obtain⟨w,hw,rfl⟩:=MD.1 hx;exact(h3 w hw).1)
 rw[NE] at hn;rw[hn];simp only[];rw[Φ (by simp[bg]),e8,Mm (aB (seq / _)),kK,e4,Mm (aB seq),kK]
 congr 2;omega
theorem Dd(ws:List WrL)(r:List Bytes):(ws.map (·.1)).zip (ws.map (·.2)++r)=ws:=by
 induction ws with
 | nil=>rfl
 | cons w ws ih=>simp[ih]
theorem unpack_pack(seq:Nat)(hs:seq<18446744073709551616)(ws:List WrL)(h:sS ws)(r:List Bytes):eD (jG seq ws++r)=some (seq,ws):=by
 obtain⟨h1,h2,h3⟩:=h;have ht:(ws.map (·.2)++r).take (ws.map (·.1)).length=ws.map (·.2):=by rw[NE];exact SU κ
 unfold eD jG;simp only[Of];rw[Us seq hs ws ⟨h1,h2,h3⟩];simp only[];rw[η,Φ,Dd]
 ·rw[ht,bK,yB _ _ _ (qd seq ws h2),jX _ _ _ (qd seq ws h2),yB _ _ _ (aH _),En]
 ·rintro(hc|⟨s,hs,aU⟩)
  ·simp at hc
   omega
  ·rw[ht] at hs
   obtain⟨w,hw,rfl⟩:=MD.1 hs;exact aU (h3 w hw).2
theorem IJ(b:Bytes)(r:List Bytes)(h:b.drop 252≠du):eD (b::r)=none:=by
 have e:dV b=none:=by
  unfold dV;rw[η (fun h'=>h h'.2.2)]
 unfold eD;simp only[e]
structure bu where
 e:Nat
 s:Nat
 log:Nat
 place:Nat
deriving DecidableEq
def fL:Bytes:=[67,68,88,83]
def gN(s:bu):Bytes:=fL++(aB s.e++(aB (s.e / 4294967296)++(aB s.s++(aB (s.s / 4294967296)++(aB s.log++(aB s.place++bg 100))))))
def aQ(s:bu):Bytes:=gN s++gN s
theorem nE(s:bu):(gN s).length=128:=by
 simp only[gN,Δ,aH,fC];rfl
theorem gB(s:bu):(aQ s).length=256:=by simp only[aQ,Δ,nE]
def gP(t:Bytes):bu :=
 ⟨aM (t.drop 8)*4294967296+aM (t.drop 4),aM (t.drop 16)*4294967296+aM (t.drop 12),aM (t.drop 20),aM (t.drop 24)⟩
def aR(t:Bytes)(n:Nat):Option bu :=
 if 50≤(gP t).log∧(gP t).log+3≤n∧(gP t).place<(gP t).log∧aQ (gP t)=t then some (gP t) else none
structure bu.Ok (s:bu):Prop where
 he:s.e<18446744073709551616
 hs:s.s<18446744073709551616
 cH:s.log<4294967296
 eV:s.place<4294967296
theorem AO(s:bu)(h:s.Ok)(r:Bytes):gP (gN s++r)=s:=by
 have m4:fL.length=4:=rfl;have e4:(gN s++r).drop 4=aB s.e++((aB (s.e / 4294967296)++(aB s.s++(aB (s.s / 4294967296)++(aB s.log++(aB s.place++bg 100)))))++r):=by
  rw[gN,Mm fL,jX _ _ _ m4,Mm]
 have e8:(gN s++r).drop 8=aB (s.e / 4294967296)++((aB s.s++(aB (s.s / 4294967296)++(aB s.log++(aB s.place++bg 100))))++r):=by
  rw[show(8:Nat)=4+4 from rfl,←N6,e4,jX _ _ _ (aH _),Mm]
 have e12:(gN s++r).drop 12=aB s.s++((aB (s.s / 4294967296)++(aB s.log++(aB s.place++bg 100)))++r):=by
  rw[show(12:Nat)=8+4 from rfl,←N6,e8,jX _ _ _ (aH _),Mm]
 have e16:(gN s++r).drop 16=aB (s.s / 4294967296)++((aB s.log++(aB s.place++bg 100))++r):=by
  rw[show(16:Nat)=12+4 from rfl,←N6,e12,jX _ _ _ (aH _),Mm]
 have e20:(gN s++r).drop 20=aB s.log++((aB s.place++bg 100)++r):=by
  rw[show(20:Nat)=16+4 from rfl,←N6,e16,jX _ _ _ (aH _),Mm]
 have e24:(gN s++r).drop 24=aB s.place++(bg 100++r):=by
  rw[show(24:Nat)=20+4 from rfl,←N6,e20,jX _ _ _ (aH _),Mm]
 obtain⟨h1,h2,h3,h4⟩:=h;unfold gP;rw[e4,e8,e12,e16,e20,e24,kK,kK,kK,kK,kK,kK];cases s;simp only at *;congr 1<;>omega
theorem Ut(s:bu)(h:s.Ok)(n:Nat)(h1:50≤s.log)(h2:s.log+3≤n)(h3:s.place<s.log):aR (aQ s) n=some s:=by
 have e:gP (aQ s)=s:=AO s h _;unfold aR;rw[e,Φ ⟨h1,h2,h3,rfl⟩]
theorem IK{t:Bytes}{n:Nat}{s:bu}(h:aR t n=some s):aQ s=t∧50≤s.log∧s.log+3≤n∧s.place<s.log:=by
 unfold aR at h;split at h
 ·rename_i hc
  injection h with h;subst h;exact⟨hc.2.2.2,hc.1,hc.2.1,hc.2.2.1⟩
 ·exact absurd h κ
theorem FU(t:Bytes):(gP t).Ok:=by
 have h1:=eU (t.drop 4);have h2:=eU (t.drop 8);have h3:=eU (t.drop 12);have h4:=eU (t.drop 16);refine⟨?_,?_,eU _,eU _⟩<;>simp only[gP]<;>omega
theorem FV{t:Bytes}{n:Nat}{s:bu}(h:aR t n=some s):s.Ok:=by
 unfold aR at h;split at h
 ·injection h with h
  subst h;exact FU t
 ·exact absurd h κ
theorem Uu(s:bu)(h:s.Ok)(t:Bytes)(ht:t.length=256)(c:Nat)(n:Nat)(r:bu)(hr:aR ((aQ s).take c++t.drop c) n=some r):
  (r=s∧(aQ s).take c++t.drop c=aQ s)∨(gN r=t.drop 128):=by
 obtain⟨he,_⟩:=IK hr;have zU:=FV hr;by_cases hc:128≤c
 ·left
  have hh:gN r=gN s:=by
   have h1:=Pu (List.take 128) he;rw[aQ,yB _ _ _ (nE r)] at h1;rw[h1,P0 (by rw[L4,gB];omega),aby,RE hc,aQ,yB _ _ _ (nE s)]
  have e:r=s:=by
   have h1:=AO r zU [];rw[hh,AO s h []] at h1;exact h1.symm
  subst e;exact⟨rfl,he.symm⟩
 ·right
  have h1:=Pu (List.drop 128) he;rw[aQ,jX _ _ _ (nE r)] at h1;rw[h1,Zs,L4,gB,N6];rw[Pr (by rw[L4,gB];omega),N0]
  congr 1;omega
abbrev at'(l:List Bytes)(i:Nat):Bytes:=l.getD i []
def iK(l:List Bytes)(w:WrL)(c:Nat):List Bytes:=l.set w.1 (w.2.take c++(at' l w.1).drop c)
inductive Img:List Bytes→List WrL→List Bytes→Prop
 | nil (l:List Bytes):Img l [] l
 | cons {l l':List Bytes} {w:WrL} {p:List WrL} (c:Nat):Img (iK l w c) p l'→Img l (w::p) l'
theorem dh(l:List Bytes)(w:WrL)(c:Nat):(iK l w c).length=l.length:=by simp[iK]
theorem yX(l:List Bytes)(w:WrL)(c i:Nat)(hw:w.1<l.length):at' (iK l w c) i=if w.1=i then w.2.take c++(at' l i).drop c else at' l i:=by
 unfold iK at';by_cases h:w.1=i
 ·subst h;rw[Φ rfl,LR,List.getElem?_set_self hw];rfl
 ·rw[η h,LR,adY h,LR]
theorem vV(l:List Bytes)(w:WrL)(c:Nat)(hl:∀s∈l,s.length=256)(hw:w.1<l.length)(hs:w.2.length=256):∀s∈iK l w c,s.length=256:=by
 intro s h;rcases adj h with h|rfl
 ·exact hl s h
 ·have:=af.d8 hl hw
  simp only[Δ,L4,L5,hs,this];omega
theorem Img.len{l l':List Bytes}{p:List WrL}(h:Img l p l'):l'.length=l.length:=by
 induction h with
 | nil l=>rfl
 | cons c _ ih=>rw[ih,dh]
theorem Img.all{l l':List Bytes}{p:List WrL}(h:Img l p l')(hl:∀s∈l,s.length=256)(hp:∀w∈p,w.1<l.length∧w.2.length=256):∀s∈l',s.length=256:=by
 induction h with
 | nil l=>exact hl
 | cons c _ ih =>
  refine ih (vV _ _ _ hl (hp _ (Mu ..)).1 (hp _ (Mu ..)).2) (fun x hx=>?_)
  rw[dh];exact hp x (Mn _ hx)
theorem Img.pres{l l':List Bytes}{p:List WrL}(h:Img l p l')(i:Nat)(Pd:Bytes→Prop)(hl:∀s∈l,s.length=256)(hi:i<l.length)(hp:∀w∈p,w.1<l.length∧w.2.length=256)
  (hk:∀w∈p,w.1=i→∀b c,Pd b→b.length=256→Pd (w.2.take c++b.drop c)) (h0:Pd (at' l i)):Pd (at' l' i):=by
 induction h with
 | nil l=>exact h0
 | @cons l l' w p c _ ih =>
  have hw:=hp w (Mu ..);refine ih (vV _ _ _ hl hw.1 hw.2) (by rw[dh];exact hi) (fun x hx=>by rw[dh];exact hp x (Mn _ hx)) (fun x hx=>hk x (Mn _ hx)) ?_
  rw[yX _ _ _ _ hw.1];by_cases h:w.1=i
  ·rw[Φ h];exact hk w (Mu ..) h _ _ h0 (af.d8 hl hi)
  ·rw[η h];exact h0
theorem Img.same{l l':List Bytes}{p:List WrL}(h:Img l p l')(i:Nat)(hp:∀w∈p,w.1<l.length)(hn:∀w∈p,w.1≠i):at' l' i=at' l i:=by
 induction h with
 | nil l=>rfl
 | @cons l l' w p c _ ih =>
  rw[ih (fun x hx=>by rw[dh];exact hp x (Mn _ hx)) (fun x hx=>hn x (Mn _ hx)),yX _ _ _ _ (hp w (Mu ..)),η (hn w (Mu ..))]
theorem Img.one{l l':List Bytes}{w:WrL}(h:Img l [w] l'):∃c,l'=iK l w c:=by
 cases h with
 | cons c h=>cases h;exact⟨c,rfl⟩
def cV(s:bu)(k:Nat):Nat:=2+(s.place+k)%s.log
theorem gG(s:bu)(k:Nat)(h:0<s.log):2≤cV s k∧cV s k<2+s.log:=by
 have:=Sx (s.place+k) h;unfold cV;omega
theorem yY(s:bu)(hp:s.place<s.log)(i j:Nat)(hi:i<s.log)(hj:j<s.log)(h:cV s i=cV s j):i=j:=by
 unfold cV at h;have h':(s.place+i)%s.log=(s.place+j)%s.log:=U;have e:∀k,k<s.log→(s.place+k)%s.log=if s.place+k<s.log then s.place+k else s.place+k-s.log:=fun k hk=>by
  split
  ·exact OS (by assumption)
  ·rw[Nat.mod_eq_sub_mod U,OS U]
 rw[e i hi,e j hj] at h';split at h'<;>split at h'<;>omega
def d9(u:Nat)(fr:List (List WrL)):Nat:=fr.foldl (fun u ws=>u+ws.length+1) u
theorem qV(u:Nat)(ws:List WrL)(fr:List (List WrL)):d9 u (ws::fr)=d9 (u+ws.length+1) fr:=rfl
theorem wT(u:Nat)(fr:List (List WrL))(ws:List WrL):d9 u (fr++[ws])=d9 u fr+ws.length+1:=by simp[d9]
theorem P9(u:Nat)(fr:List (List WrL)):u≤d9 u fr:=by
 induction fr generalizing u with
 | nil=>exact Ω _
 | cons ws fr ih=>rw[qV];have:=ih (u+ws.length+1);omega
def Chain(l:List Bytes)(s:bu):Nat→Nat→List (List WrL)→Prop
 | u,q,[]=>u<s.log∧(at' l (cV s u)).drop 252≠du
 | u,q,ws::fr=>sS ws∧(∀w∈ws,2+s.log≤w.1∧w.1<l.length)∧u+ws.length+1<s.log ∧
  (∀i,i≤ws.length→at' l (cV s (u+i))=(jG q ws).getD i [])∧Chain l s (u+ws.length+1) (q+1) fr
theorem Chain.used{l:List Bytes}{s:bu}:∀{fr:List (List WrL)} {u q:Nat},Chain l s u q fr→d9 u fr<s.log
 | [],u,q,h=>h.1
 | ws::fr,u,q,h=>by rw[qV];exact h.2.2.2.2.used
theorem Chain.end{l:List Bytes}{s:bu}:∀{fr:List (List WrL)} {u q:Nat},Chain l s u q fr→(at' l (cV s (d9 u fr))).drop 252≠du
 | [],u,q,h=>h.2
 | ws::fr,u,q,h=>by rw[qV];exact h.2.2.2.2.end
theorem Chain.ok{l:List Bytes}{s:bu}:∀{fr:List (List WrL)} {u q:Nat},Chain l s u q fr→∀ws∈fr,sS ws∧∀w∈ws,2+s.log≤w.1∧w.1<l.length
 | [],u,q,h=>fun ws hws=>by simp at hws
 | x::fr,u,q,h=>fun ws hws=>by
  rcases MA.1 hws with rfl|hws
  ·exact⟨h.1,h.2.1⟩
  ·exact h.2.2.2.2.ok ws hws
theorem Chain.ext{l l':List Bytes}{s:bu}(hlen:l'.length=l.length):∀{fr:List (List WrL)} {u q:Nat},Chain l s u q fr→(∀k,k<d9 u fr→at' l' (cV s k)=at' l (cV s k))→(at' l' (cV s (d9 u fr))).drop 252≠du→Chain l' s u q fr
 | [],u,q,h,_,he=>⟨h.1,he⟩
 | ws::fr,u,q,h,hk,he=>by
  have hu:=P9 (u+ws.length+1) fr
  refine⟨h.1,by rw[hlen];exact h.2.1,h.2.2.1,fun i hi=>?_,h.2.2.2.2.ext hlen hk he⟩
  rw[hk (u+i) (by rw[qV];omega)]
  exact h.2.2.2.1 i hi
theorem Chain.snoc{l l':List Bytes}{s:bu}(hlen:l'.length=l.length)(ws:List WrL)(hw:sS ws)(hh:∀w∈ws,2+s.log≤w.1∧w.1<l.length):∀{fr:List (List WrL)} {u q:Nat},Chain l s u q fr→(∀k,k<d9 u fr→at' l' (cV s k)=at' l (cV s k)) →
  d9 u fr+ws.length+1<s.log→(∀i,i≤ws.length→at' l' (cV s (d9 u fr+i))=(jG (q+fr.length) ws).getD i [])→(at' l' (cV s (d9 u fr+ws.length+1))).drop 252≠du→Chain l' s u q (fr++[ws])
 | [],u,q,h,hk,h1,h2,he=>⟨hw,by rw[hlen];exact hh,h1,h2,h1,he⟩
 | x::fr,u,q,h,hk,h1,h2,he=>by
  have hu:=P9 (u+x.length+1) fr
  refine⟨h.1,by rw[hlen];exact h.2.1,h.2.2.1,fun i hi=>?_,Chain.snoc hlen ws hw hh h.2.2.2.2 hk h1 (fun i hi=>?_) he⟩
  ·rw[hk (u+i) (by rw[qV];omega)]
   exact h.2.2.2.1 i hi
  ·have:=h2 i hi
   rw[Θ,qV] at this
   rw[this]
   congr 2;omega
def jq(s:bu)(fr:List (List WrL)):bu:=⟨s.e+1,s.s+fr.length,s.log,(s.place+d9 0 fr)%s.log⟩
def iu(X:Bytes)(s:bu):Prop:=X=ag∨∃r:bu,r.Ok∧X=aQ r∧r.e<s.e
def kB(X:Bytes)(s s':bu):Prop:=∃c X0,iu X0 s∧X=(aQ s').take c++X0.drop c∧X≠aQ s'
theorem iu.len{X:Bytes}{s:bu}(h:iu X s):X.length=256:=by
 rcases h with rfl|⟨r,_,rfl,_⟩
 ·exact Nx
 ·exact gB r
theorem FX{s r:bu}(hs:s.Ok)(hr:r.Ok)(h:aQ s=aQ r):s=r:=by
 have h1:=AO s hs (gN s);have h2:=AO r hr (gN r);rw[show gN s++gN s=aQ s from rfl,h,show aQ r=gN r++gN r from rfl,h2] at h1
 exact h1.symm
theorem xh{s r:bu}(hs:s.Ok)(hr:r.Ok)(h:gN s=gN r):s=r:=FX hs hr (by rw[aQ,aQ,h])
theorem kB.less{X:Bytes}{s s':bu}(h:kB X s s')(ho:s'.Ok)(n:Nat)(r:bu)(hr:aR X n=some r):r.e<s.e:=by
 obtain⟨c,X0,h0,rfl,aU⟩:=h;rcases Uu s' ho X0 h0.len c n r hr with ⟨_,hw⟩|hh
 ·exact absurd hw aU
 ·rcases h0 with rfl|⟨q,hq,rfl,hl⟩
  ·have:=Pu (fun t:Bytes=>t[0]?) hh
   simp only[ag,gN,fL,acO,Ss,Of,We] at this;exact absurd this Z
  ·rw[aQ,jX _ _ _ (nE q)] at hh
   rw[xh (FV hr) hq hh];exact hl
theorem xo(a b:Bytes)(ha:a.length=256)(hb:b.length=256)(c d:Nat):a.take d++(a.take c++b.drop c).drop d=a.take (max c d)++b.drop (max c d):=by
 have hlen:(a.take c).length=min c 256:=by rw[L4,ha]
 rw[Zs,hlen,N6];by_cases h:d≤c
 ·rw[Nat.max_eq_left h,←Mm]
  congr 1
  ·rw[Ys,show List.take c a=List.take (d+(c-d)) a by rw[Nat.add_sub_cancel' h],aeb]
  ·by_cases hc:c≤256
   ·congr 1;omega
   ·rw[Pr (by rw[hb];omega),Pr (by rw[hb];omega)]
 ·rw[Nat.max_eq_right U,Pr (by rw[hlen];omega),N0]
  by_cases hc:c≤256
  ·congr 2;omega
  ·rw[Pr (by rw[hb];omega),Pr (by rw[hb];omega)]
structure eR (l:List Bytes) (s:bu) (k:Nat) (fr:List (List WrL)) (C:Nat→Bytes):Prop where
 hmax:l.length≤4096
 hall:∀b∈l,b.length=256
 ef:50≤s.log
 cH:s.log+3≤l.length
 eV:s.place<s.log
 he:s.e+1<18446744073709551616
 hs:s.s+fr.length<18446744073709551616
 hk:k≤1
 kO:at' l k=aQ s
 hother:kB (at' l (1-k)) s (jq s fr)
 hchain:Chain l s 0 s.s fr
 hhome:∀i,2+s.log≤i→i<l.length→bH fr.flatten i (at' l i)=C i
theorem eR.ok{l:List Bytes}{s:bu}{k:Nat}{fr:List (List WrL)}{C:Nat→Bytes}(h:eR l s k fr C):s.Ok∧(jq s fr).Ok:=by
 have h1:=h.hmax;have h2:=h.cH;have h3:=h.eV;have h4:=h.he;have h5:=h.hs;have:=Sx (s.place+d9 0 fr) (show 0<s.log by omega)
 refine⟨⟨U,U,U,U⟩,⟨?_,?_,?_,?_⟩⟩<;>simp only[jq]<;>omega
def Eo(l0 l1:Option bu):Option (bu×Nat) :=
 match l0,l1 with
 | some a,some b=>if a.e<b.e then some (b,1) else some (a,0)
 | some a,none=>some (a,0)
 | none,some b=>some (b,1)
 | none,none=>none
theorem eR.pick{l:List Bytes}{s:bu}{k:Nat}{fr:List (List WrL)}{C:Nat→Bytes}(h:eR l s k fr C):Eo (aR (at' l 0) l.length) (aR (at' l 1) l.length)=some (s,k):=by
 have hs:=Ut s h.ok.1 l.length h.ef h.cH h.eV;have ho:=fun r hr=>h.hother.less h.ok.2 l.length r hr
 have bX:=h.kO;have hk:k=0∨k=1:=by have:=h.hk;omega
 rcases hk with rfl|rfl
 ·rw[bX,hs]
  cases hr:aR (at' l 1) l.length with
  | none=>rfl
  | some r =>
   have:=ho r hr;simp only[Eo];rw[η U]
 ·rw[bX,hs]
  cases hr:aR (at' l 0) l.length with
  | none=>rfl
  | some r =>
   have:=ho r hr;simp only[Eo];rw[Φ this]
def Allowed(s:bu)(fr:List (List WrL))(w:WrL):Prop :=
 (2+s.log≤w.1∧∃x∈fr.flatten,x.1=w.1)∨∃k,d9 0 fr≤k∧k<s.log∧w.1=cV s k∧(k=d9 0 fr→w.2=ag)
theorem p5(b:Bytes)(hb:b.length=256)(h:b.drop 252≠du)(c:Nat):(ag.take c++b.drop c).drop 252≠du:=by
 have hn:ag.length=256:=Nx;by_cases hc:c≤252
 ·rw[Zs,L4,hn,N6,Pr (by rw[L4,hn];omega),N0,show c+(252-min c 256)=252 by omega]
  exact h
 ·intro he
  have h0:=Pu (fun t:Bytes=>t[0]?) he
  simp only[Up] at h0;rw[Tb (by rw[L4,hn];omega),UB,Φ U] at h0
  exact absurd h0 (by unfold ag du;rw[Ss];simp)
theorem eR.img{l l':List Bytes}{s:bu}{k:Nat}{fr:List (List WrL)}{C:Nat→Bytes}(h:eR l s k fr C){p:List WrL}(hp:∀w∈p,w.1<l.length∧w.2.length=256)(ha:∀w∈p,Allowed s fr w)(hi:Img l p l'):eR l' s k fr C:=by
 have cH:=h.cH;have ef:=h.ef;have hk:=h.hk;have h2:∀w∈p,2≤w.1:=fun w hw=>by
  rcases ha w hw with ⟨h1,_⟩|⟨k,_,_,h1,_⟩
  ·omega
  ·have:=(gG s k U).1;omega
 have ay:=fun w hw=>(hp w hw).1
 have hu:=h.hchain.used;have lq:∀j,j<2→at' l' j=at' l j:=fun j hj=>hi.same j ay (fun w hw=>by have:=h2 w hw;omega)
 refine⟨by rw[hi.len];exact h.hmax,hi.all h.hall hp,ef,by rw[hi.len];exact cH,h.eV,h.he,h.hs,hk,by rw[lq k U];exact h.kO,by rw[lq (1-k) U];exact h.hother,?_,?_⟩
 ·refine h.hchain.ext hi.len (fun j hj=>hi.same _ ay (fun w hw he=>?_)) ?_
  ·have hl:=gG s j U
   rcases ha w hw with ⟨h1,_⟩|⟨m,kF,lD,zV,_⟩
   ·omega
   ·have:=yY s h.eV j m U lD (by rw[←he,zV])
    omega
  ·have hl:=gG s (d9 0 fr) U
   refine hi.pres _ (fun b=>b.drop 252≠du) h.hall U hp (fun w hw he b c hb dZ=>?_) h.hchain.end
   rcases ha w hw with ⟨h1,_⟩|⟨m,kF,lD,zV,xD⟩
   ·omega
   ·rw[xD (yY s h.eV m _ lD hu (by rw[←zV,he]))]
    exact p5 b dZ hb c
 ·intro i h1 hn
  rw[hi.len] at hn;by_cases hx:∃x∈fr.flatten,x.1=i
  ·rw[Em _ _ _ (at' l i) hx];exact h.hhome i h1 hn
  ·rw[hi.same i ay (fun w hw he=>?_)]
   ·exact h.hhome i h1 hn
   ·rcases ha w hw with ⟨_,x,Jq,sH⟩|⟨m,_,lD,zV,_⟩
    ·exact hx ⟨x,Jq,sH.trans he⟩
    ·have:=(gG s m U).2;omega
theorem eR.Lw{l:List Bytes}{s:bu}{k:Nat}{fr:List (List WrL)}{C:Nat→Bytes}(h:eR l s k fr C)(hC:∀i,2+s.log≤i→i<l.length→at' l i=C i)(he:s.e+2<18446744073709551616)(c:Nat):
  eR (iK l (1-k,aQ (jq s fr)) c) s k fr C∨(eR (iK l (1-k,aQ (jq s fr)) c) (jq s fr) (1-k) [] C∧iK l (1-k,aQ (jq s fr)) c=l.set (1-k) (aQ (jq s fr))):=by
 have cH:=h.cH;have ef:=h.ef;have hk:=h.hk;obtain⟨ig,bI⟩:=h.ok;have ay:1-k<l.length:=U;have hg:=fun j=>yX l (1-k,aQ (jq s fr)) c j ay
 have hu:=h.hchain.used;have hend:=h.hchain.end
 have bW:=Sx (s.place+d9 0 fr) (show 0<s.log by omega)
 have qp:(jq s fr).e=s.e+1:=rfl;have oP:(jq s fr).log=s.log:=rfl;obtain⟨c0,X0,ho,hx,aU⟩:=h.hother;have afx:at' (iK l (1-k,aQ (jq s fr)) c) (1-k)=(aQ (jq s fr)).take (max c0 c)++X0.drop (max c0 c):=by
  rw[hg,Φ rfl,hx];exact xo _ _ (gB _) ho.len c0 c
 have fP:(iK l (1-k,aQ (jq s fr)) c).length≤4096:=by rw[dh];exact h.hmax
 have hall:=vV l (1-k,aQ (jq s fr)) c h.hall ay (gB _);have aa8:at' (iK l (1-k,aQ (jq s fr)) c) k=aQ s:=by rw[hg,η (by simp only;omega)];exact h.kO
 have DF:∀j,2≤j→at' (iK l (1-k,aQ (jq s fr)) c) j=at' l j:=fun j hj=>by rw[hg,η (by simp only;omega)]
 by_cases hw:at' (iK l (1-k,aQ (jq s fr)) c) (1-k)=aQ (jq s fr)
 ·right
  constructor
  ·refine⟨fP,hall,ef,by rw[dh];exact cH,bW,by rw[qp];omega,?_,U,hw,?_,?_,?_⟩
   ·have:=h.hs;simp only[jq,Nm];omega
   ·rw[show 1-(1-k)=k by omega,aa8]
    refine⟨0,aQ s,.inr ⟨s,ig,rfl,by rw[qp];omega⟩,κ,fun e=>?_⟩
    have DX:(jq (jq s fr) []).Ok:=by
     refine⟨?_,?_,?_,?_⟩
     ·show s.e+1+1<_;omega
     ·have:=h.hs;show s.s+fr.length+0<_;omega
     ·have:=h.hmax;show s.log<_;omega
     ·have:=Sx ((s.place+d9 0 fr)%s.log+0) (show 0<s.log by omega);have:=h.hmax
      show((s.place+d9 0 fr)%s.log+d9 0 [])%s.log<_;simp only[d9,ab0] at *;omega
    have:=Pu bu.e (FX ig DX e);simp only[jq] at this;omega
   ·refine⟨by rw[oP];omega,?_⟩
    have e:cV (jq s fr) 0=cV s (d9 0 fr):=by
     show 2+((s.place+d9 0 fr)%s.log+0)%s.log=2+(s.place+d9 0 fr)%s.log;rw[UI,Nat.mod_mod]
    have hl:=gG s (d9 0 fr) U;rw[e,DF _ hl.1];exact hend
   ·intro i h1 h2
    rw[dh] at h2;rw[oP] at h1;rw[DF i U];exact hC i h1 h2
  ·refine List.ext_getElem (by rw[dh,Rx]) (fun j h1 h2=>?_)
   rw[dh] at h1;by_cases hj:j=1-k
   ·subst hj
    rw[adU];have hz:=hw;unfold at' at hz;rw[LR,LN (by rw[dh];exact h1)] at hz
    exact hz
   ·simp only[iK]
    rw[aec (Z3 hj),aec (Z3 hj)]
 ·left
  refine⟨fP,hall,ef,by rw[dh];exact cH,h.eV,h.he,h.hs,hk,aa8,⟨max c0 c,X0,ho,afx,hw⟩,?_,?_⟩
  ·refine h.hchain.ext (dh _ _ _) (fun j hj=>DF _ (gG s j U).1) ?_
   rw[DF _ (gG s _ U).1];exact hend
  ·intro i h1 h2
   rw[dh] at h2;rw[DF i U];exact h.hhome i h1 h2
end
end Go.Proofs.YtbkahhebmpehnaaGreatDoor
