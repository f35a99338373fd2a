/- Joined: Base2 to Opn -/
import Derived.Test.YtbkahhebmpehnaaGreatDoorCXJrn3
set_option linter.all false
set_option maxRecDepth 100000
set_option maxHeartbeats 8000000
namespace Go.Proofs.YtbkahhebmpehnaaGreatDoor
section
theorem tg(l:List UInt8)(i:Nat)(hi:i=0∨bit l (i-1)=true)(m:Nat)(h:∀j,i≤j→j<i+m+1→bit l j=false):aK l (i+m+1)=aK l i++[(i,m+1)]:=by
 induction m with
 | zero =>
  rw[UI,aK,h i (Ω _) U,η κ,η];rintro⟨h0,h1⟩;rcases hi with hi|hi
  ·omega
  ·rw[hi] at h1;cases h1
 | succ m ih =>
  have:=ih (fun j h1 h2=>h j h1 U)
  rw[show i+(m+1)+1=(i+m+1)+1 by omega,aK,h _ U U,η κ,Φ ⟨U,h _ U U⟩,this,sV]
theorem yZ(l:List UInt8)(k:Nat)(h:bit l k=true):aK l (k+1)=aK l k:=by rw[aK,h];rfl
theorem Nf(l:List UInt8)(i k N:Nat)(hi:i=0∨bit l (i-1)=true)(Vu:i<k)(RD:k≤N)(h:∀j,i≤j→j<k→bit l j=false)(hk:k=N∨bit l k=true):
  aK l (min (k+1) N)=aK l i++[(i,k-i)]:=by
 have:=tg l i hi (k-i-1) (fun j h1 h2=>h j h1 U)
 rw[show i+(k-i-1)+1=k by omega,show k-i-1+1=k-i by omega] at this
 rcases hk with hk|hk
 ·rw[←this];congr 1;omega
 ·by_cases e:k=N
  ·rw[←this];congr 1;omega
  ·rw[show min (k+1) N=k+1 by omega,yZ l k hk,this]
theorem Ng(l:List UInt8)(k N:Nat)(RD:k≤N)(hk:k=N∨bit l k=true):aK l (min (k+1) N)=aK l k:=by
 rcases hk with hk|hk
 ·congr 1;omega
 ·by_cases e:k=N
  ·congr 1;omega
  ·rw[show min (k+1) N=k+1 by omega,yZ l k hk]
def tail(l:List UInt8):Nat→Nat
 | 0=>0
 | k+1=>if bit l k then 0 else tail l k+1
theorem nm(l:List UInt8)(k:Nat):tail l k≤k:=by
 induction k with
 | zero=>exact Ω _
 | succ k ih=>rw[tail];split<;>omega
def fK(l:List UInt8)(c:Nat):Nat→Option Nat
 | 0=>none
 | k+1=>match fK l c k with
  | some s=>some s
  | none=>if tail l (k+1)=c then some (k+1-c) else none
def i7:Option Nat→Int×Bool
 | some s=>((s:Int),true)
 | none=>(0,false)
def qh(l:List UInt8)(n c:Int):Int×Bool:=if c<1 then(0,false) else i7 (fK l c.toNat (fA l n))
theorem Nh(l:List UInt8)(c k s:Nat)(h:fK l c k=some s)(m:Nat)(hm:k≤m):fK l c m=some s:=by
 induction m with
 | zero=>rw[←h];congr 1;omega
 | succ m ih =>
  by_cases e:k=m+1
  ·rw[←e];exact h
  ·rw[fK,ih U]
theorem DJ(l:List UInt8)(c m:Nat)(h:fK l c m=none)(k:Nat)(hm:k≤m):fK l c k=none:=by
 cases e:fK l c k with
 | none=>rfl
 | some s=>rw[Nh l c k s e m hm] at h;cases h
theorem F4(l:List UInt8)(k:Nat)(h:bit l k=false):∃rs a,aK l (k+1)=rs++[(a,tail l (k+1))]∧a+tail l (k+1)=k+1:=by
 induction k with
 | zero=>exact⟨[],0,by simp[aK,tail,h],by simp[tail,h]⟩
 | succ k ih =>
  by_cases hk:bit l k=false
  ·obtain⟨rs,a,h1,h2⟩:=ih hk
   refine⟨rs,a,?_,?_⟩
   ·rw[aK,h,η κ,Φ ⟨U,hk⟩,h1,sV,tail.eq_2 l (k+1),h];rfl
   ·rw[tail,h];simp;omega
  ·have Oz:bit l k=true:=by simpa using hk
   refine⟨aK l (k+1),k+1,?_,?_⟩
   ·rw[aK,h,η κ,η (by simp[Oz]),tail,h,tail,Oz];rfl
   ·rw[tail,h,tail,Oz];simp
theorem JS(l:List UInt8)(c:Nat)(hc:1≤c)(N:Nat):fK l c N=((aK l N).find? (fun r=>decide (c≤r.2))).map (·.1):=by
 induction N with
 | zero=>rfl
 | succ k ih =>
  cases hk:bit l k with
  | true =>
   rw[yZ l k hk,fK,tail,hk,←ih];cases fK l c k with
   | none=>simp;omega
   | some s=>rfl
  | false =>
   obtain⟨rs,a,h1,h2⟩:=F4 l k hk;rw[h1,fK];by_cases hp:0<k∧bit l (k-1)=false
   ·obtain⟨rs',a',h3,h4⟩:=F4 l (k-1) hp.2
    rw[show k-1+1=k by omega] at h3 h4
    have h5:=h1;rw[aK,hk,η κ,Φ hp,h3,sV] at h5;have e:=List.append_inj' h5 rfl;obtain⟨rfl,e2⟩:=e;simp at e2;obtain⟨rfl,e2⟩:=e2;rw[ih,h3,adg,adg];cases hf:rs'.find? (fun r=>decide (c≤r.2)) with
    | some r=>simp
    | none =>
     simp only[Option.none_or,List.find?_cons,List.find?_nil];by_cases h6:c≤tail l k
     ·simp[h6,show c≤tail l (k+1) by omega]
     ·by_cases h7:c≤tail l (k+1)
      ·simp[h6,h7,show tail l (k+1)=c by omega];omega
      ·simp[h6,h7,show ¬tail l (k+1)=c by omega]
   ·have h5:=h1
    rw[aK,hk,η κ,η hp] at h5;have e:=List.append_inj' h5 rfl;obtain⟨rfl,e2⟩:=e;simp at e2;obtain⟨rfl,e2⟩:=e2;rw[ih,adg];cases hf:(aK l k).find? (fun r=>decide (c≤r.2)) with
    | some r=>simp
    | none =>
     simp only[Option.none_or,List.find?_cons,List.find?_nil,Option.map_none];rw[←e2];by_cases h7:c≤1
     ·simp[show c=1 by omega]
     ·simp[h7];omega
theorem CH(k j:Nat)(hk:k<8)(hj:j<8):(255-2 ^ k).testBit j=decide (j≠k):=by
 have h:∀(k j:Fin 8),(255-2 ^ k.val).testBit j.val=decide (j.val≠k.val):=by decide +kernel
 exact h ⟨k,hk⟩ ⟨j,hj⟩
theorem UA(x k j:Nat)(on:Bool)(hk:k<8)(hj:j<8):(lN x k on).testBit j=if j=k then on else x.testBit j:=by
 unfold lN;cases on with
 | true =>
  simp only[PM,Nat.testBit_or,Nat.testBit_two_pow];by_cases h:j=k
  ·simp[h]
  ·simp[h];omega
 | false =>
  simp only[M2,ON,Nat.testBit_and,CH k j hk hj];by_cases h:j=k<;>simp[h]
theorem WA(l:List UInt8)(i j:Nat)(on:Bool)(hi:i<8*l.length):bit (qg l i on) j=if j=i then on else bit l j:=by
 have hi8:i / 8<l.length:=U;unfold bit qg;rw[LR,abu];by_cases h:i / 8=j / 8
 ·rw[Φ h,Φ hi8,ZD,aai,OS (uF _ _ _ (US _) (Sx _ U)),
   UA _ _ _ _ (Sx _ U) (Sx _ U),h]
  by_cases h2:j=i
  ·rw[Φ U,Φ h2]
  ·rw[η U,η h2]
 ·rw[η h,η (by intro e;exact h (by rw[e])),←LR]
theorem BK(l:List UInt8)(s c j:Nat)(on:Bool)(h:c+s≤8*l.length):bit (bF l s on c) j=if s≤j∧j<s+c then on else bit l j:=by
 induction c with
 | zero=>rw[bF,η U]
 | succ c ih =>
  rw[bF,WA _ _ _ _ (by rw[jL];omega),ih U]
  by_cases h1:j=s+c
  ·rw[Φ h1,Φ U]
  ·rw[η h1]
   by_cases h2:s≤j∧j<s+c
   ·rw[Φ h2,Φ U]
   ·rw[η h2,η U]
theorem Ni(l:List UInt8)(k j:Nat)(h1:k-tail l k≤j)(h2:j<k):bit l j=false:=by
 induction k with
 | zero=>omega
 | succ k ih =>
  rw[tail] at h1;cases hb:bit l k with
  | true=>rw[hb] at h1;simp at h1;omega
  | false =>
   rw[hb] at h1;simp at h1;by_cases e:j=k
   ·rw[e];exact hb
   ·exact ih U U
theorem Es(l:List UInt8)(c N s:Nat)(h:fK l c N=some s):tail l (s+c)=c∧s+c≤N∧(1≤c→fK l c (s+c-1)=none):=by
 induction N with
 | zero=>cases h
 | succ k ih =>
  rw[fK] at h;cases hk:fK l c k with
  | some t =>
   rw[hk] at h;obtain⟨h1,h2,h3⟩:=ih (by rw[hk];simpa using h)
   exact⟨h1,U,h3⟩
  | none =>
   rw[hk] at h;simp at h;have:=nm l (k+1);have e:s+c=k+1:=U;rw[e];exact⟨h.1,Ω _,fun _=>hk⟩
theorem Qd(l:List UInt8)(c N:Nat)(hc:1≤c)(h:fK l c N=none)(k:Nat)(hk:k≤N):tail l k<c:=by
 induction k with
 | zero=>rw[tail];omega
 | succ k ih =>
  have h1:=ih U;have h2:=DJ l c N h (k+1) hk;have h3:=DJ l c N h k U;rw[fK,h3] at h2;simp at h2;rw[tail] at h2 ⊢;split<;>simp_all<;>omega
def Lz(l:List UInt8)(k:Nat)(r:Nat×Nat):Prop :=
 (∀j,r.1≤j→j<r.1+r.2→bit l j=false)∧(0<r.1→bit l (r.1-1)=true)∧1≤r.2∧r.1+r.2≤k∧(r.1+r.2<k→bit l (r.1+r.2)=true)
def total(rs:List (Nat×Nat)):Nat:=(rs.map (·.2)).sum
theorem Et(rs:List (Nat×Nat))(r:Nat×Nat):total (rs++[r])=total rs+r.2:=by simp[total]
theorem GC(l:List UInt8)(k:Nat):(∀r∈aK l k,Lz l k r)∧(aK l k).Pairwise (fun r q=>r.1+r.2<q.1)∧total (aK l k)=cnt l k:=by
 induction k with
 | zero=>exact⟨by simp[aK],by simp[aK],by simp[aK,total,cnt]⟩
 | succ k ih =>
  obtain⟨h1,h2,h3⟩:=ih;cases hb:bit l k with
  | true =>
   rw[yZ l k hb];refine⟨fun r hr=>?_,h2,by rw[h3,cnt,hb];rfl⟩
   obtain⟨a,b,c,d,e⟩:=h1 r hr;refine⟨a,b,c,U,fun h=>?_⟩
   by_cases e1:r.1+r.2=k
   ·rw[e1];exact hb
   ·exact e U
  | false =>
   by_cases hp:0<k∧bit l (k-1)=false
   ·obtain⟨rs,a,h4,h5⟩:=F4 l (k-1) hp.2
    rw[show k-1+1=k by omega] at h4 h5
    generalize tail l k=t at *;have e:aK l (k+1)=rs++[(a,t+1)]:=by rw[aK,hb,η κ,Φ hp,h4,sV]
    rw[h4] at h1 h2 h3;rw[e];rw[abE] at h2;obtain⟨p1,p2,p3⟩:=h2;refine⟨fun r hr=>?_,?_,?_⟩
    ·rw[My] at hr
     rcases hr with hr|hr
     ·obtain⟨a1,b1,c1,d1,e1⟩:=h1 r (by simp[hr])
      have:=p3 r hr (a,t) κ;exact⟨a1,b1,c1,U,fun h=>e1 (by simp at this;omega)⟩
     ·simp at hr
      subst hr;obtain⟨a1,b1,c1,d1,e1⟩:=h1 (a,t) κ;refine⟨fun j j1 j2=>?_,b1,κ,by simp;omega,fun h=>by simp at h;omega⟩
      by_cases ej:j=k
      ·rw[ej];exact hb
      ·exact a1 j j1 (by simp at j2 ⊢;omega)
    ·rw[abE]
     refine⟨p1,κ,fun r hr q hq=>?_⟩
     have:=p3 r hr (a,t) κ;simp at hq;subst hq;exact this
    ·rw[Et] at h3 ⊢
     rw[cnt,hb];simp at h3 ⊢;omega
   ·have e:aK l (k+1)=aK l k++[(k,1)]:=by rw[aK,hb,η κ,η hp]
    have ay:∀r∈aK l k,r.1+r.2<k:=by
     intro r hr;obtain⟨a1,b1,c1,d1,e1⟩:=h1 r hr;by_cases e2:r.1+r.2=k
     ·exact absurd ⟨U,a1 (k-1) U U⟩ hp
     ·omega
    rw[e];refine⟨fun r hr=>?_,?_,?_⟩
    ·rw[My] at hr
     rcases hr with hr|hr
     ·obtain⟨a1,b1,c1,d1,e1⟩:=h1 r hr
      exact⟨a1,b1,c1,U,fun h=>e1 (ay r hr)⟩
     ·simp at hr
      subst hr;refine⟨fun j j1 j2=>?_,fun h=>?_,κ,κ,fun h=>by simp at h⟩
      ·have:j=k:=by simp at j1 j2;omega
       rw[this];exact hb
      ·simp at h
       cases hq:bit l (k-1) with
       | true=>rfl
       | false=>exact absurd ⟨h,hq⟩ hp
    ·rw[abE]
     refine⟨h2,κ,fun r hr q hq=>?_⟩
     simp at hq;subst hq;exact ay r hr
    ·rw[Et,h3,cnt,hb];rfl
def aD(n:Nat):Nat:=(n+2047) / 2048
def ak(n:Nat):Nat:=63+aD n
def jv(n:Nat):Bytes:=[67,68,88,66]++(aB n++bg 248)
theorem Fe(n:Nat):(jv n).length=256:=by simp only[jv,Δ,aH,fC];rfl
def aG(b:Bytes)(i:Nat):Bytes:=(b.drop (i*256)).take 256
def kD(n:Nat)(C:Nat→Bytes):Bytes:=((List.range (aD n)).map fun i=>C (63+i)).flatten
theorem jQ(n:Nat)(h:0<n):1≤aD n∧2048*aD n≥n∧2048*aD n<n+2048:=by unfold aD;omega
theorem jH(n:Nat)(h:128≤n)(hm:n≤4096):ak n<n∧aD n≤2:=by unfold ak aD;omega
theorem WB(p:Nat)(f:Nat→Bytes)(hf:∀i,i<p→(f i).length=256):((List.range p).map f).flatten.length=256*p∧∀i,i<p→aG ((List.range p).map f).flatten i=f i:=by
 induction p with
 | zero=>exact⟨rfl,fun i h=>U⟩
 | succ p ih =>
  obtain⟨h1,h2⟩:=ih (fun i hi=>hf i U)
  rw[Ty,N5,Tl];simp only[No,VC,To,aci,NF];refine⟨by rw[Δ,h1,hf p U];omega,fun i hi=>?_⟩
  unfold aG;by_cases hp:i=p
  ·subst hp
   rw[abQ (by rw[h1];omega),Mp (by rw[hf i hi];exact Ω _)]
  ·rw[acJ (by rw[h1];omega),P0 (by rw[L5,h1];omega)]
   exact h2 i U
theorem KN(p:Nat):∀(b:Bytes),b.length=256*p→((List.range p).map (aG b)).flatten=b:=by
 induction p with
 | zero=>intro b h;rw[NL (l:=b) U];rfl
 | succ p ih =>
  intro b h;have h1:=ih (b.take (256*p)) (by rw[L4];omega)
  have e:(List.range p).map (aG b)=(List.range p).map (aG (b.take (256*p))):=by
   refine PC (fun i hi=>?_)
   have:=P4.1 hi;unfold aG;rw[Ys,aby];congr 1;omega
  rw[Ty,N5,Tl,e,h1];simp only[No,VC,To,aci,NF];unfold aG;rw[UX p 256,Mp (l:=b.drop (256*p)) (by rw[L5];omega),OR]
def bM:List WrL→WrL→List WrL
 | [],w=>[w]
 | x::l,w=>if x.1<w.1 then x::bM l w else if x.1=w.1 then w::l else w::x::l
def aZ(tx l:List WrL):List WrL:=l.foldl bM tx
abbrev l8(l:List WrL):Prop:=l.Pairwise fun x y=>x.1<y.1
theorem Qe(l:List WrL)(w x:WrL)(h:x∈bM l w):x=w∨x∈l:=by
 induction l with
 | nil=>left;simpa[bM] using h
 | cons y l ih =>
  unfold bM at h;split at h
  ·rcases MA.1 h with rfl|h
   ·right;exact Mu ..
   ·rcases ih h with h|h
    ·exact .inl h
    ·exact .inr (Mn _ h)
  ·split at h
   ·rcases MA.1 h with rfl|h
    ·exact .inl rfl
    ·exact .inr (Mn _ h)
   ·rcases MA.1 h with rfl|h
    ·exact .inl rfl
    ·exact .inr h
theorem F6(l:List WrL)(w:WrL)(h:l8 l):l8 (bM l w):=by
 induction l with
 | nil=>simp[bM,l8]
 | cons y l ih =>
  obtain⟨h1,h2⟩:=SJ.1 h;unfold bM;split
  ·rename_i hy
   refine SJ.2 ⟨fun x hx=>?_,ih h2⟩
   rcases Qe l w x hx with rfl|hx
   ·exact hy
   ·exact h1 x hx
  ·split
   ·rename_i _ hy
    exact SJ.2 ⟨fun x hx=>by rw[←hy];exact h1 x hx,h2⟩
   ·rename_i tN hy2
    refine SJ.2 ⟨fun x hx=>?_,h⟩
    rcases MA.1 hx with rfl|hx
    ·omega
    ·have:=h1 x hx;omega
theorem KO(l:List WrL)(w:WrL)(h:l8 l)(i:Nat)(s:Bytes):bH (bM l w) i s=if w.1=i then w.2 else bH l i s:=by
 induction l generalizing s with
 | nil=>simp[bM,bH]
 | cons y l ih =>
  obtain⟨h1,h2⟩:=SJ.1 h;unfold bM;split
  ·rename_i hy
   rw[bH,ih h2];rfl
  ·split
   ·rename_i tN hy
    rw[bH,bH];by_cases hi:w.1=i
    ·rw[Φ hi,Φ hi]
     exact dM l i _ (fun x hx e=>by have:=h1 x hx;omega)
    ·rw[η hi,η hi,η U]
   ·rename_i tN hy2
    rw[bH,bH];by_cases hi:w.1=i
    ·rw[Φ hi,Φ hi,η U]
     exact dM l i _ (fun x hx e=>by have:=h1 x hx;omega)
    ·rw[η hi,η hi,bH]
theorem Eu(l tx:List WrL)(h:l8 tx):l8 (aZ tx l):=by
 unfold aZ;induction l generalizing tx with
 | nil=>exact h
 | cons w l ih=>rw[Tu];exact ih _ (F6 tx w h)
theorem Df(l tx:List WrL)(h:l8 tx)(i:Nat)(s:Bytes):bH (aZ tx l) i s=bH l i (bH tx i s):=by
 unfold aZ;induction l generalizing tx with
 | nil=>rfl
 | cons w l ih=>rw[Tu,ih _ (F6 tx w h),KO tx w h,bH]
theorem Nj(l tx:List WrL)(x:WrL)(h:x∈aZ tx l):x∈l∨x∈tx:=by
 unfold aZ at h;induction l generalizing tx with
 | nil=>exact .inr h
 | cons w l ih =>
  rw[Tu] at h;rcases ih _ h with h|h
  ·exact .inl (Mn _ h)
  ·rcases Qe tx w x h with rfl|h
   ·exact .inl (Mu ..)
   ·exact .inr h
structure StL where
 j:JL
 ai:Bytes
 was:Bytes
 open_:Bool
 tx:List WrL
namespace StL
def n(σ:StL):Nat:=σ.j.d.l.length
def dead(σ:StL):Bool:=σ.j.d.dead
def cQ(σ:StL)(i:Int):Bool:=decide ((ak σ.n:Int)≤i∧i<σ.n)
def get(σ:StL)(i:Nat):Bytes:=bH σ.tx i (σ.j.d.get i)
def read(σ:StL)(i:Int):Bytes×Int:=if σ.dead then([],4) else if σ.cQ i then(σ.get i.toNat,0) else([],2)
def state(σ:StL)(o:Bool):Int:=if σ.dead then 4 else if σ.open_=o then 0 else 15
def begin(σ:StL):StL×Int:=if σ.state false≠0 then(σ,σ.state false) else({ σ with open_:=true,was:=σ.ai },0)
def touch(σ:StL)(l:List WrL):StL×Int:=if (aZ σ.tx l).length>48 then(σ,6) else({ σ with tx:=aZ σ.tx l },0)
def write(σ:StL)(i:Int)(s:Bytes):StL×Int :=
 if σ.state true≠0 then(σ,σ.state true) else if σ.cQ i=false then(σ,2) else if bit σ.ai i.toNat=false then(σ,10) else if s.length≠256 then(σ,3) else σ.touch [(i.toNat,s)]
def turned(σ:StL)(b:Bytes):List WrL:=((List.range (aD σ.n)).filter fun i=>aG b i != aG σ.ai i).map fun i=>(63+i,aG b i)
def bh(σ:StL)(start c:Nat)(on:Bool):StL×Int :=
 if (σ.touch (σ.turned (bF σ.ai start on c))).2≠0 then σ.touch (σ.turned (bF σ.ai start on c)) else({ (σ.touch (σ.turned (bF σ.ai start on c))).1 with ai:=bF σ.ai start on c },0)
def alloc(σ:StL)(c:Int):StL×Int×Int :=
 if σ.state true≠0 then(σ,0,σ.state true) else if c<1 then(σ,0,1) else
 match fK σ.ai c.toNat σ.n with
 | none=>(σ,0,9)
 | some a=>if (σ.bh a c.toNat true).2≠0 then((σ.bh a c.toNat true).1,0,(σ.bh a c.toNat true).2) else((σ.bh a c.toNat true).1,a,0)
def release(σ:StL)(start c:Int):StL×Int :=
 if σ.state true≠0 then(σ,σ.state true) else if c<1∨σ.cQ start=false∨(σ.n:Int)-start<c then(σ,2) else
 if ∃i,i<c.toNat∧bit σ.ai (start.toNat+i)=false then(σ,10) else σ.bh start.toNat c.toNat false
def close(σ:StL):StL:={ σ with open_:=false,tx:=[] }
def abort(σ:StL):StL:=if σ.open_ then { σ.close with ai:=σ.was } else σ
def bj(σ:StL):StL×Int :=
 if σ.state true≠0 then(σ,σ.state true) else if σ.tx=[] then(σ.close,0) else
 if (σ.j.bj σ.tx).2=0 then({ σ.close with j:=(σ.j.bj σ.tx).1 },0) else({ σ.close with j:=(σ.j.bj σ.tx).1,ai:=σ.was },(σ.j.bj σ.tx).2)
def free(σ:StL):Nat:=cnt σ.ai σ.n
end StL
structure aah (n:Nat) (b:Bytes):Prop where
 len:b.length=256*aD n
 low:∀i,i<ak n→bit b i=true
 high:∀i,n≤i→bit b i=false
structure uG (n:Nat) (C:Nat→Bytes):Prop where
 title:C 62=jv n
 map:aah n (kD n C)
structure cg (K:Nat) (σ:StL) (fr:List (List WrL)) (C:Nat→Bytes):Prop where
 inv:JInv 60 K σ.j fr C
 big:128≤σ.n
 good:uG σ.n C
 map:aah σ.n σ.ai
 now:σ.ai=kD σ.n (bT C σ.tx)
 rise:l8 σ.tx
 ic:∀w∈σ.tx,63≤w.1∧w.1<σ.n∧w.2.length=256
 short:σ.tx.length≤48
 Fc:σ.open_=true→σ.was=kD σ.n C
 closed:σ.open_=false→σ.tx=[]
theorem cg.max{K:Nat}{σ:StL}{fr:List (List WrL)}{C:Nat→Bytes}(h:cg K σ fr C):σ.n≤4096:=h.inv.ok.max
theorem cg.len{K:Nat}{σ:StL}{fr:List (List WrL)}{C:Nat→Bytes}(h:cg K σ fr C)(i:Nat)(h1:62≤i)(h2:i<σ.n):(C i).length=256:=by
 rw[←h.inv.get i h1 h2];exact af.gh h.inv.ok i h2
theorem nz{n:Nat}{C:Nat→Bytes}(hC:∀i,62≤i→i<n→(C i).length=256){l:List WrL}(hl:∀w∈l,w.2.length=256)(i:Nat)(h1:62≤i)(h2:i<n):(bT C l i).length=256:=by
 unfold bT;by_cases hx:∃w∈l,w.1=i
 ·obtain⟨w,hw,_,e⟩:=sQ l i (C i) hx
  rw[e];exact hl w hw
 ·rw[dM _ _ _ (fun w hw e=>hx ⟨w,hw,e⟩)];exact hC i h1 h2
theorem cg.get{K:Nat}{σ:StL}{fr:List (List WrL)}{C:Nat→Bytes}(h:cg K σ fr C)(i:Nat)(h1:62≤i)(h2:i<σ.n):σ.get i=bT C σ.tx i:=by
 unfold StL.get bT;rw[h.inv.get i h1 h2]
theorem GE{n:Nat}(hn:128≤n)(hm:n≤4096){C:Nat→Bytes}(hC:∀i,62≤i→i<n→(C i).length=256):(kD n C).length=256*aD n∧∀i,i<aD n→aG (kD n C) i=C (63+i) :=
 WB _ _ (fun i hi=>hC _ U (by have:=jH n hn hm;unfold ak at this;omega))
theorem Hs{n:Nat}{C D:Nat→Bytes}(h:∀i,i<aD n→C (63+i)=D (63+i)):kD n C=kD n D:=by
 unfold kD;congr 1;exact PC (fun i hi=>h i (P4.1 hi))
theorem KP{K:Nat}{σ:StL}{fr:List (List WrL)}{C:Nat→Bytes}(h:cg K σ fr C)(b:Bytes)(hb:b.length=σ.ai.length):kD σ.n (bT C (aZ σ.tx (σ.turned b)))=b∧∀w∈σ.turned b,63≤w.1∧w.1<ak σ.n∧w.2.length=256:=by
 have hm:=h.max;have hf:=jH σ.n h.big hm;have hlen:=h.map.len;have MX:=GE h.big hm (C:=bT C σ.tx) (nz (h.len) (fun w hw=>(h.ic w hw).2.2))
 have eF:∀w∈σ.turned b,∃i,i<aD σ.n∧w=(63+i,aG b i):=fun w hw=>by
  obtain⟨i,hi,rfl⟩:=MD.1 hw;exact⟨i,P4.1 (PF.1 hi).1,rfl⟩
 constructor
 ·have e:kD σ.n (bT C (aZ σ.tx (σ.turned b)))=((List.range (aD σ.n)).map (aG b)).flatten:=by
   unfold kD;congr 1;refine PC (fun i hi=>?_)
   have pK:=P4.1 hi;unfold bT;rw[Df _ _ h.rise];by_cases hx:∃w∈σ.turned b,w.1=63+i
   ·obtain⟨w,hw,eO,gD⟩:=sQ _ _ (bH σ.tx (63+i) (C (63+i))) hx
    obtain⟨i2,_,rfl⟩:=eF w hw;rw[gD];simp only at eO;rw[show i2=i by omega]
   ·rw[dM _ _ _ (fun w hw e=>hx ⟨w,hw,e⟩)]
    have h1:=MX.2 i pK;rw[←h.now] at h1;show bT C σ.tx (63+i)=_;rw[←h1];by_cases aU:aG b i=aG σ.ai i
    ·exact aU.symm
    ·exfalso
     refine hx ⟨(63+i,aG b i),MD.2 ⟨i,PF.2 ⟨hi,?_⟩,rfl⟩,rfl⟩;simpa using aU
  rw[e];exact KN _ _ (by rw[hb,hlen])
 ·intro w hw
  obtain⟨i,hi,rfl⟩:=eF w hw;refine⟨by simp only;omega,by simp only[ak];omega,?_⟩
  show(aG b i).length=256;unfold aG;rw[L4,L5,hb,hlen];omega
theorem E3{n:Nat}{C:Nat→Bytes}{tx:List WrL}(hr:l8 tx){w:WrL}(hw:ak n≤w.1):kD n (bT C (aZ tx [w]))=kD n (bT C tx):=by
 refine Hs (fun i hi=>?_)
 unfold bT;rw[Df _ _ hr,bH,bH,η (by unfold ak at hw;omega)]
theorem Nk{K:Nat}{σ:StL}{fr:List (List WrL)}{C:Nat→Bytes}(h:cg K σ fr C)(ho:σ.open_=true)(l:List WrL)(hl:∀w∈l,63≤w.1∧w.1<σ.n∧w.2.length=256)(b:Bytes)(hb:aah σ.n b)(hm:kD σ.n (bT C (aZ σ.tx l))=b):
  (σ.touch l=(σ,6))∨((σ.touch l).2=0∧cg K { (σ.touch l).1 with ai:=b } fr C):=by
 unfold StL.touch;split
 ·exact .inl rfl
 ·rename_i hs
  right;refine⟨rfl,⟨h.inv,h.big,h.good,hb,hm.symm,Eu _ _ h.rise,fun w hw=>?_,by show(aZ σ.tx l).length≤48;omega,h.Fc,fun hc=>?_⟩⟩
  ·rcases Nj _ _ _ hw with hw|hw
   ·exact hl w hw
   ·exact h.ic w hw
  ·have:σ.open_=false:=hc
   rw[ho] at this;exact absurd this Z
theorem xf{K:Nat}{σ:StL}{fr:List (List WrL)}{C:Nat→Bytes}(h:cg K σ fr C):cg K σ.begin.1 fr C:=by
 unfold StL.begin;split
 ·exact h
 ·rename_i hs
  have ho:σ.open_=false:=by
   unfold StL.state at hs;cases hx:σ.open_ with
   | false=>rfl
   | true=>rw[hx] at hs;simp at hs;split at hs<;>simp at hs
  have ht:=h.closed ho;exact⟨h.inv,h.big,h.good,h.map,h.now,h.rise,h.ic,h.short,fun _=>by
   have:=h.now;rw[ht] at this;exact this,fun hc=>ht⟩
theorem sE{K:Nat}{σ:StL}{fr:List (List WrL)}{C:Nat→Bytes}(h:cg K σ fr C):cg K σ.abort fr C:=by
 unfold StL.abort;cases ho:σ.open_ with
 | false=>rw[η Z];exact h
 | true =>
  rw[Φ rfl];have hw:=h.Fc ho;refine⟨h.inv,h.big,h.good,?_,?_,List.Pairwise.nil,fun w hw=>by simp[StL.close] at hw,by simp[StL.close],fun hc=>by simp[StL.close] at hc,fun _=>rfl⟩
  ·show aah σ.n σ.was
   rw[hw];exact h.good.map
  ·show σ.was=kD σ.n (bT C [])
   rw[hw];rfl
theorem wU{σ:StL}{o:Bool}(h:σ.state o=0):σ.dead=false∧σ.open_=o:=by
 unfold StL.state at h;cases hd:σ.dead
 ·rw[hd] at h
  simp only[M2,ON] at h;split at h
  ·exact⟨rfl,by assumption⟩
  ·exact absurd h Z
 ·rw[hd] at h;simp at h
theorem tM{K:Nat}{σ:StL}{fr:List (List WrL)}{C:Nat→Bytes}(h:cg K σ fr C)(i:Int)(s:Bytes):cg K (σ.write i s).1 fr C:=by
 unfold StL.write;split
 ·exact h
 ·rename_i hs
  obtain⟨_,ho⟩:=wU (by simpa using hs:σ.state true=0)
  split
  ·exact h
  ·rename_i hd
   split
   ·exact h
   ·split
    ·exact h
    ·rename_i hl
     have hi:(ak σ.n:Int)≤i∧i<σ.n:=by simpa[StL.cQ] using hd
     rcases Nk h ho [(i.toNat,s)] (fun w hw=>by
      rw[Mo] at hw;subst hw;exact⟨by simp only[ak] at hi ⊢;omega,by simp only;omega,by simpa using hl⟩) σ.ai h.map (by rw[E3 h.rise (by simp only;omega)];exact h.now.symm) with e|⟨e1,e2⟩
     ·rw[e];exact h
     ·have:({ (σ.touch [(i.toNat,s)]).1 with ai:=σ.ai }:StL)=(σ.touch [(i.toNat,s)]).1:=by unfold StL.touch;split<;>rfl
      rw[this] at e2;exact e2
theorem Fl{K:Nat}{σ:StL}{fr:List (List WrL)}{C:Nat→Bytes}(h:cg K σ fr C)(ho:σ.open_=true)(a c:Nat)(on:Bool)(h1:ak σ.n≤a)(h2:a+c≤σ.n):
  (σ.bh a c on).1=σ∧(σ.bh a c on).2=6∨((σ.bh a c on).2=0∧(σ.bh a c on).1.ai=bF σ.ai a on c∧cg K (σ.bh a c on).1 fr C):=by
 have hm:=h.max;have hp:=jQ σ.n (by have:=h.big;omega)
 have GK:=fun j=>BK σ.ai a c j on (by rw[h.map.len];omega)
 obtain⟨t1,t2⟩:=KP h (bF σ.ai a on c) (jL _ _ _ _);have hf:=jH σ.n h.big hm;have hg:aah σ.n (bF σ.ai a on c):=by
  refine⟨by rw[jL];exact h.map.len,fun i hi=>?_,fun i hi=>?_⟩
  ·rw[GK,η U];exact h.map.low i hi
  ·rw[GK,η U];exact h.map.high i hi
 unfold StL.bh;rcases Nk h ho _ (fun w hw=>⟨(t2 w hw).1,by have:=(t2 w hw).2.1;omega,(t2 w hw).2.2⟩) _ hg t1 with e|⟨e1,e2⟩
 ·left;rw[e];exact⟨rfl,rfl⟩
 ·right
  rw[η (by rw[e1];simp)]
  exact⟨rfl,rfl,e2⟩
namespace af
def Free(d:af):Prop:=d.b9 = -1∧d.dead=false
theorem BM{d:af}(h:d.Free):d.bh.Free:=by
 have:d.b9≠0:=by rw[h.1];decide
 unfold bh;rw[η this];exact⟨by simp only[h.1];decide,h.2⟩
theorem KR{d:af}(h:d.Free)(i:Int)(s:Bytes):(d.write i s).1.Free:=by
 unfold write;split
 ·exact h
 ·split
  ·exact h
  ·split
   ·exact BM h
   ·exact BM h
theorem UC{d:af}(h:d.Free):d.bw.1.Free:=by
 unfold bw;split
 ·exact h
 ·split
  ·exact BM h
  ·exact BM h
theorem ik(ws:List WrL):∀{d:af},d.Free→(d.writes ws).1.Free:=by
 induction ws with
 | nil=>intro d h;exact h
 | cons w ws ih =>
  intro d h;rw[writes];split
  ·exact ih (KR h _ _)
  ·exact KR h _ _
theorem dE{d:af}(h:d.Free)(ws:List WrL):(d.lays ws).1.Free:=by
 unfold lays;split
 ·exact UC (ik ws h)
 ·exact ik ws h
end af
namespace JL
theorem Nl{j:JL}(h:j.d.Free):j.cz.1.d.Free:=by
 unfold cz cW cM;split
 ·exact af.dE h _
 ·split
  ·exact af.dE (af.dE h _) _
  ·exact af.dE (af.dE h _) _
theorem Qf{j:JL}(h:j.d.Free)(ws:List WrL):(j.com ws).1.d.Free:=by
 unfold com eS cJ cj;split
 ·exact af.dE h _
 ·split
  ·exact af.dE (af.dE h _) _
  ·exact af.ik _ (af.dE (af.dE h _) _)
theorem fS{j:JL}(h:j.d.Free)(ws:List WrL):(j.bj ws).1.d.Free:=by
 unfold bj;split
 ·split
  ·exact Nl h
  ·exact Qf (Nl h) ws
 ·exact Qf h ws
theorem lB(m:Nat):∀(j:JL),(cY m j).1.d.l.length=j.d.l.length:=by
 induction m with
 | zero=>intro j;rfl
 | succ m ih =>
  intro j;rw[cY];cases j.frame with
  | none=>rfl
  | some ws =>
   simp only[];split
   ·rw[ih];exact af.gg _ _
   ·exact af.gg _ _
end JL
theorem F7(d:af):(aL d).1.d.l.length=d.l.length:=by
 unfold aL;split
 ·rfl
 ·split
  ·rfl
  ·split
   ·rw[JL.ki,JL.lB]
   ·exact JL.lB _ _
theorem xy{n:Nat}{b:Bytes}(h:aah n b)(c a:Nat)(hc:1≤c)(hn:n≤8*b.length)(he:fK b c n=some a):ak n≤a∧a+c≤n∧∀j,a≤j→j<a+c→bit b j=false:=by
 obtain⟨h1,h2,_⟩:=Es b c n a he;have hf:∀j,a≤j→j<a+c→bit b j=false:=fun j DZ qF=>Ni b (a+c) j (by rw[h1];omega) qF
 refine⟨?_,h2,hf⟩;rcases adq a (ak n) with ay|hge
 ·have:=h.low a ay
  rw[hf a (Ω _) U] at this;exact absurd this Z
 ·exact hge
theorem cg.bits{K:Nat}{σ:StL}{fr:List (List WrL)}{C:Nat→Bytes}(h:cg K σ fr C):σ.n≤8*σ.ai.length:=by
 have:=jQ σ.n (by have:=h.big;omega)
 rw[h.map.len];omega
theorem By{n:Nat}{C:Nat→Bytes}{tx:List WrL}{b:Bytes}(hC:uG n C)(hb:aah n b)(hm:b=kD n (bT C tx))(ht:∀w∈tx,63≤w.1):uG n (bT C tx):=by
 refine⟨?_,by rw[←hm];exact hb⟩
 unfold bT;rw[dM _ _ _ (fun w hw e=>by have:=ht w hw;omega)]
 exact hC.title
theorem UD{K:Nat}{σ:StL}{fr:List (List WrL)}{C:Nat→Bytes}(h:cg K σ fr C)(hK:K+4<18446744073709551616):
  ((σ.bj).2=0∧(∃fr' ,cg (K+2) σ.bj.1 fr' (bT C σ.tx))∧σ.bj.1.open_=false∧σ.state true=0∧σ.bj.1.ai=σ.ai) ∨
  ((σ.bj).2=15∧σ.bj.1=σ∧σ.open_=false) ∨
  ((σ.bj).2=4∧σ.bj.1.dead=true∧σ.bj.1.j.d.Ok∧σ.bj.1.n=σ.n∧uG σ.n (bT C σ.tx)∧¬σ.j.d.Free∧Safe 60 (K+2) σ.bj.1.j.d (fun D=>D=C∨D=bT C σ.tx)):=by
 have dS:σ.dead=false:=h.inv.live;unfold StL.bj;cases ho:σ.open_ with
 | false =>
  right;left;have e:σ.state true=15:=by
   unfold StL.state;rw[dS,ho];rfl
  rw[Φ (by rw[e];decide)]
  exact⟨e,rfl,rfl⟩
 | true =>
  have e:σ.state true=0:=by unfold StL.state;rw[dS,ho];rfl
  rw[η (by rw[e];simp)]
  have vI:=By h.good h.map h.now (fun w hw=>(h.ic w hw).1)
  by_cases ht:σ.tx=[]
  ·rw[Φ ht]
   left;refine⟨rfl,⟨fr,?_⟩,rfl,e,rfl⟩;have hu:bT C σ.tx=C:=by rw[ht];rfl
   have hn:=h.now;rw[hu] at vI hn ⊢;exact⟨h.inv.mono U,h.big,h.good,h.map,hn,List.Pairwise.nil,fun w hw=>by simp[StL.close] at hw,by simp[StL.close],fun hc=>by simp[StL.close] at hc,fun _=>rfl⟩
  ·rw[η ht]
   have hm:=h.max;have hw:sS σ.tx:=⟨by have:=UV.2 ht;omega,h.short,fun w hw=>by have:=h.ic w hw;exact⟨U,this.2.2⟩⟩
   have hh:∀w∈σ.tx,2+60≤w.1∧w.1<σ.j.d.l.length:=fun w hw=>by have:=h.ic w hw;exact⟨U,this.2.1⟩
   rcases Al h.inv σ.tx hw hh hK with ⟨a,fr',b⟩|⟨a,b,c,d⟩
   ·rw[Φ a]
    left;have hn:(σ.j.bj σ.tx).1.d.l.length=σ.n:=JL.fh _ _;refine⟨rfl,⟨fr',?_⟩,rfl,e,rfl⟩;refine⟨b,?_,?_,?_,?_,List.Pairwise.nil,fun w hw=>by simp[StL.close] at hw,by simp[StL.close],fun hc=>by simp[StL.close] at hc,fun _=>rfl⟩
    ·show 128≤(σ.j.bj σ.tx).1.d.l.length
     rw[hn];exact h.big
    ·show uG (σ.j.bj σ.tx).1.d.l.length _
     rw[hn];exact vI
    ·show aah (σ.j.bj σ.tx).1.d.l.length σ.ai
     rw[hn];exact h.map
    ·show σ.ai=kD (σ.j.bj σ.tx).1.d.l.length (bT (bT C σ.tx) [])
     rw[hn];exact h.now
   ·rw[η (by rw[a];decide)]
    right;right;refine⟨a,b,c,JL.fh _ _,vI,fun hf=>?_,d⟩
    have:=(JL.fS hf σ.tx).2;rw[b] at this;exact absurd this Z
def mapD(d:af):Bytes:=((List.range (aD d.l.length)).map fun i=>d.get (63+i)).flatten
theorem JO(b:Bytes)(k:Nat)(h:∀i,i<k→bit b i=true):cnt b k=0:=by
 induction k with
 | zero=>rfl
 | succ k ih=>rw[cnt,ih (fun i hi=>h i U),h k U];rfl
theorem BB(b:Bytes)(n k:Nat)(h:∀i,n≤i→bit b i=false):cnt b (n+k)=cnt b n+k:=by
 induction k with
 | zero=>rfl
 | succ k ih=>rw[←Ps,cnt,ih,h (n+k) U];simp;omega
def cZ(log:Nat):List WrL:=(List.range (log+1)).map (fun i=>(i+1,ag))++[(0,aQ ⟨1,1,log,0⟩)]
def aO(d:af)(log:Nat):af×Int:=d.lays (cZ log)
def iX(n:Nat):Bytes:=bF (bg (256*aD n)) 0 true (ak n)
def bE(n:Nat):List WrL:=(62,jv n)::(List.range (aD n)).map fun i=>(63+i,aG (iX n) i)
def fH(d:af):af×Int :=
 if d.l.length<128 then(d,2) else if (aO d 60).2≠0 then aO d 60 else
 if (aL (aO d 60).1).2≠0 then((aL (aO d 60).1).1.d,(aL (aO d 60).1).2) else
 (((aL (aO d 60).1).1.bj (bE d.l.length)).1.d,((aL (aO d 60).1).1.bj (bE d.l.length)).2)
theorem wV(n:Nat)(h:128≤n)(hm:n≤4096):aah n (iX n):=by
 have hp:=jQ n U;have hf:=jH n h hm;have hz:∀i,bit (bg (256*aD n)) i=false:=fun i=>by
  unfold bit bg;rw[LR,Ss];split<;>simp
 have hb:=fun j=>BK (bg (256*aD n)) 0 (ak n) j true (by rw[fC];omega)
 refine⟨by unfold iX;rw[jL,fC],fun i hi=>?_,fun i hi=>?_⟩
 ·unfold iX;rw[hb,Φ U]
 ·unfold iX;rw[hb,η U,hz]
theorem yK(n:Nat)(h:128≤n)(hm:n≤4096)(C:Nat→Bytes):kD n (bT C (bE n))=iX n∧bT C (bE n) 62=jv n∧(∀w∈bE n,62≤w.1∧w.1<n∧w.2.length=256)∧(bE n).length≤3:=by
 have hf:=jH n h hm;have hb:=(wV n h hm).len;have eF:∀w∈bE n,w=(62,jv n)∨∃i,i<aD n∧w=(63+i,aG (iX n) i):=fun w hw=>by
  rcases MA.1 hw with rfl|hw
  ·exact .inl rfl
  ·obtain⟨i,hi,rfl⟩:=MD.1 hw
   exact .inr ⟨i,P4.1 hi,rfl⟩
 refine⟨?_,?_,fun w hw=>?_,?_⟩
 ·have e:kD n (bT C (bE n))=((List.range (aD n)).map (aG (iX n))).flatten:=by
   unfold kD;congr 1;refine PC (fun i hi=>?_)
   unfold bT;refine uz (bE n) (63+i,aG (iX n) i) _ (Mn _ (MD.2 ⟨i,hi,rfl⟩)) (fun x hx e=>?_)
   rcases eF x hx with rfl|⟨i2,_,rfl⟩
   ·simp only at e;omega
   ·simp only at e;rw[show i2=i by omega]
  rw[e];exact KN _ _ hb
 ·unfold bT
  refine uz (bE n) (62,jv n) _ (Mu ..) (fun x hx e=>?_)
  rcases eF x hx with rfl|⟨i2,_,rfl⟩
  ·rfl
  ·simp only at e;omega
 ·rcases eF w hw with rfl|⟨i,hi,rfl⟩
  ·exact⟨Ω _,by simp only;omega,Fe n⟩
  ·refine⟨by simp only;omega,by simp only[ak] at hf ⊢;omega,?_⟩
   show(aG (iX n) i).length=256;unfold aG;rw[L4,L5,hb];omega
 ·simp only[bE,Θ,NE,UT];omega
theorem Ao(n:Nat)(h:128≤n)(hm:n≤4096):
  (aO (af.new n) 60).2=0∧(aO (af.new n) 60).1.l.length=n∧(aO (af.new n) 60).1.p=[]∧(aO (af.new n) 60).1.Ok∧(aL (aO (af.new n) 60).1).2=0∧JInv 60 2 (aL (aO (af.new n) 60).1).1 [] (fun _=>ag)∧(aL (aO (af.new n) 60).1).1.d.l.length=n∧(aL (aO (af.new n) 60).1).1.d.Free:=by
 have hl:(af.new n).l.length=n:=Nx;have bQ:=af.lL n U hm;have hfree:(af.new n).Free:=⟨rfl,rfl⟩;have hw:∀w∈cZ 60,w.1<(af.new n).l.length∧w.2.length=256:=fun w hw=>by
  rw[hl];rcases My.1 hw with hw|hw
  ·obtain⟨i,hi,rfl⟩:=MD.1 hw
   have:=P4.1 hi;exact⟨by simp only;omega,jk⟩
  ·rw[Mo] at hw;subst hw
   exact⟨by simp only;omega,gB _⟩
 obtain⟨a,b,c,e⟩:(aO (af.new n) 60).2=0∧(aO (af.new n) 60).1.dead=false∧(aO (af.new n) 60).1.l=iw (af.new n).l ((af.new n).p++cZ 60)∧(aO (af.new n) 60).1.p=[]:=by
  rcases af.hM (cZ 60) (af.new n) rfl hw with h1|⟨_,h2,_⟩
  ·exact h1
  ·exfalso
   have:=(af.dE hfree (cZ 60)).2;rw[h2] at this;exact absurd this Z
 have Ck:(aO (af.new n) 60).1.Free:=af.dE hfree _;have zw:(aO (af.new n) 60).1.l.length=n:=by rw[c,lY,hl]
 have nM:∀i,i<n→at' (af.new n).l i=ag:=fun i hi=>by
  simp only[af.new,at',LR,Ss,Φ hi,ZD]
 have hg:∀i,i<n→at' (aO (af.new n) 60).1.l i=if i=0 then aQ ⟨1,1,60,0⟩ else ag:=fun i hi=>by
  rw[c,DI _ _ _ (by rw[hl];exact hi),nM i hi]
  show bH ([]++cZ 60) i ag=_;rw[N0];unfold cZ;rw[uo];by_cases h0:i=0
  ·rw[Φ h0,Φ h0.symm]
  ·rw[η h0,η (Z3 h0)]
   by_cases hx:∃w∈(List.range (60+1)).map (fun i=>(i+1,ag)),w.1=i
   ·obtain⟨w,hw,_,e⟩:=sQ _ i ag hx
    obtain⟨m,_,rfl⟩:=MD.1 hw;exact e
   ·exact dM _ _ _ (fun w hw e=>hx ⟨w,hw,e⟩)
 have ig:(⟨1,1,60,0⟩:bu).Ok:=⟨Z,Z,Z,Z⟩;have hrec:eR (aO (af.new n) 60).1.l ⟨1,1,60,0⟩ 0 [] (fun _=>ag):=by
  refine⟨by rw[zw];exact hm,(af.dm bQ _).l,Z,by rw[zw];show 60+3≤n;omega,Z,Z,Z,Z,?_,?_,⟨Z,?_⟩,fun i h1 h2=>?_⟩
  ·rw[hg 0 U,Φ rfl]
  ·refine iu.other ?_ ⟨Z,Z,Z,Z⟩ Z
   rw[hg _ U,η Z];exact .inl rfl
  ·rw[show cV ⟨1,1,60,0⟩ 0=2 from rfl,hg 2 U,η Z]
   exact Db
  ·rw[zw] at h2
   show at' _ i=_;rw[hg i h2,η (by have:2+60≤i:=h1;omega)]
 have nN:jZ 60 1 (aO (af.new n) 60).1 ⟨1,1,60,0⟩ 0 [] (fun _=>ag) :=
  ⟨af.dm bQ _,b,hrec,rfl,Z,Z,fun w hw=>by rw[e] at hw;simp at hw⟩
 obtain⟨o1,o2,o3,o4⟩:(aL (aO (af.new n) 60).1).2=0∧JInv 60 2 (aL (aO (af.new n) 60).1).1 [] (fun _=>ag)∧(aL (aO (af.new n) 60).1).1.d.p=[]∧(aL (aO (af.new n) 60).1).1.d.b9 = -1:=by
  rcases AP nN Z with ⟨x1,x2,x3,x4⟩|⟨_,_,_,_,x5⟩
  ·exact⟨x1,x2,x3,x4 Ck.1⟩
  ·exact absurd Ck.1 x5
 have xU:(aL (aO (af.new n) 60).1).1.d.l.length=n:=by rw[F7,zw]
 exact⟨a,zw,e,af.dm bQ _,o1,o2,xU,⟨o4,o2.live⟩⟩
theorem KS(n:Nat)(h:128≤n)(hm:n≤4096):
  (fH (af.new n)).2=0∧(fH (af.new n)).1.Free∧(fH (af.new n)).1.l.length=n∧∃s k fr C,jZ 60 4 (fH (af.new n)).1 s k fr C∧uG n C:=by
 have hl:(af.new n).l.length=n:=Nx;obtain⟨a,zw,_,_,o1,o2,xU,Fp⟩:=Ao n h hm;obtain⟨t1,t2,t3,t4⟩:=yK n h hm (fun _=>ag)
 have hwo:sS (bE n):=⟨by simp[bE],U,fun w hw=>by have:=t3 w hw;exact⟨U,this.2.2⟩⟩
 obtain⟨q1,fr,q2⟩:((aL (aO (af.new n) 60).1).1.bj (bE n)).2=0∧∃fr',JInv 60 4 ((aL (aO (af.new n) 60).1).1.bj (bE n)).1 fr' (bT (fun _=>ag) (bE n)):=by
  rcases Al o2 (bE n) hwo (fun w hw=>by rw[xU];have:=t3 w hw;exact⟨U,this.2.1⟩) Z with x|⟨_,x,_⟩
  ·exact x
  ·exfalso
   have:=(JL.fS Fp (bE n)).2;rw[x] at this;exact absurd this Z
 have rF:fH (af.new n)=(((aL (aO (af.new n) 60).1).1.bj (bE n)).1.d,0):=by
  unfold fH;rw[η (by rw[hl];omega),η (by rw[a];simp),η (by rw[o1];simp),hl,q1]
 rw[rF];refine⟨rfl,JL.fS Fp _,by rw[JL.fh,xU],_,_,fr,_,q2.toJPre.open,?_⟩
 exact⟨t2,by rw[t1];exact wV n h hm⟩
theorem WC(n:Nat)(h:128≤n)(hm:n≤4096):jZ 60 1 (aO (af.new n) 60).1 ⟨1,1,60,0⟩ 0 [] (fun _=>ag):=by
 have hl:(af.new n).l.length=n:=Nx;have bQ:=af.lL n U hm;have hfree:(af.new n).Free:=⟨rfl,rfl⟩;have hw:∀w∈cZ 60,w.1<(af.new n).l.length∧w.2.length=256:=fun w hw=>by
  rw[hl];rcases My.1 hw with hw|hw
  ·obtain⟨i,hi,rfl⟩:=MD.1 hw
   have:=P4.1 hi;exact⟨by simp only;omega,jk⟩
  ·rw[Mo] at hw;subst hw
   exact⟨by simp only;omega,gB _⟩
 obtain⟨a,b,c,e⟩:(aO (af.new n) 60).2=0∧(aO (af.new n) 60).1.dead=false∧(aO (af.new n) 60).1.l=iw (af.new n).l ((af.new n).p++cZ 60)∧(aO (af.new n) 60).1.p=[]:=by
  rcases af.hM (cZ 60) (af.new n) rfl hw with h1|⟨_,h2,_⟩
  ·exact h1
  ·exfalso
   have:=(af.dE hfree (cZ 60)).2;rw[h2] at this;exact absurd this Z
 have Ck:(aO (af.new n) 60).1.Free:=af.dE hfree _;have zw:(aO (af.new n) 60).1.l.length=n:=by rw[c,lY,hl]
 have nM:∀i,i<n→at' (af.new n).l i=ag:=fun i hi=>by
  simp only[af.new,at',LR,Ss,Φ hi,ZD]
 have hg:∀i,i<n→at' (aO (af.new n) 60).1.l i=if i=0 then aQ ⟨1,1,60,0⟩ else ag:=fun i hi=>by
  rw[c,DI _ _ _ (by rw[hl];exact hi),nM i hi]
  show bH ([]++cZ 60) i ag=_;rw[N0];unfold cZ;rw[uo];by_cases h0:i=0
  ·rw[Φ h0,Φ h0.symm]
  ·rw[η h0,η (Z3 h0)]
   by_cases hx:∃w∈(List.range (60+1)).map (fun i=>(i+1,ag)),w.1=i
   ·obtain⟨w,hw,_,e⟩:=sQ _ i ag hx
    obtain⟨m,_,rfl⟩:=MD.1 hw;exact e
   ·exact dM _ _ _ (fun w hw e=>hx ⟨w,hw,e⟩)
 have ig:(⟨1,1,60,0⟩:bu).Ok:=⟨Z,Z,Z,Z⟩;have hrec:eR (aO (af.new n) 60).1.l ⟨1,1,60,0⟩ 0 [] (fun _=>ag):=by
  refine⟨by rw[zw];exact hm,(af.dm bQ _).l,Z,by rw[zw];show 60+3≤n;omega,Z,Z,Z,Z,?_,?_,⟨Z,?_⟩,fun i h1 h2=>?_⟩
  ·rw[hg 0 U,Φ rfl]
  ·refine iu.other ?_ ⟨Z,Z,Z,Z⟩ Z
   rw[hg _ U,η Z];exact .inl rfl
  ·rw[show cV ⟨1,1,60,0⟩ 0=2 from rfl,hg 2 U,η Z]
   exact Db
  ·rw[zw] at h2
   show at' _ i=_;rw[hg i h2,η (by have:2+60≤i:=h1;omega)]
 have nN:jZ 60 1 (aO (af.new n) 60).1 ⟨1,1,60,0⟩ 0 [] (fun _=>ag) :=
  ⟨af.dm bQ _,b,hrec,rfl,Z,Z,fun w hw=>by rw[e] at hw;simp at hw⟩
 exact nN
theorem Dg(n:Nat)(h:128≤n)(hm:n≤4096):
  (fH (af.new n)).2=0∧(fH (af.new n)).1.Free∧(fH (af.new n)).1.l.length=n∧(fH (af.new n)).1.Ok∧(∃s k fr,jZ 60 4 (fH (af.new n)).1 s k fr (bT (fun _=>ag) (bE n)))∧uG n (bT (fun _=>ag) (bE n))∧kD n (bT (fun _=>ag) (bE n))=iX n∧(fH (af.new n)).1.p.length≤48:=by
 have hl:(af.new n).l.length=n:=Nx;obtain⟨a,zw,_,_,o1,o2,xU,Fp⟩:=Ao n h hm;obtain⟨t1,t2,t3,t4⟩:=yK n h hm (fun _=>ag)
 have hwo:sS (bE n):=⟨by simp[bE],U,fun w hw=>by have:=t3 w hw;exact⟨U,this.2.2⟩⟩
 obtain⟨q1,fr,q2⟩:((aL (aO (af.new n) 60).1).1.bj (bE n)).2=0∧∃fr',JInv 60 4 ((aL (aO (af.new n) 60).1).1.bj (bE n)).1 fr' (bT (fun _=>ag) (bE n)):=by
  rcases Al o2 (bE n) hwo (fun w hw=>by rw[xU];have:=t3 w hw;exact⟨U,this.2.1⟩) Z with x|⟨_,x,_⟩
  ·exact x
  ·exfalso
   have:=(JL.fS Fp (bE n)).2;rw[x] at this;exact absurd this Z
 have rF:fH (af.new n)=(((aL (aO (af.new n) 60).1).1.bj (bE n)).1.d,0):=by
  unfold fH;rw[η (by rw[hl];omega),η (by rw[a];simp),η (by rw[o1];simp),hl,q1]
 rw[rF];exact⟨rfl,JL.fS Fp _,by rw[JL.fh,xU],q2.ok,⟨_,_,fr,q2.toJPre.open⟩,⟨t2,by rw[t1];exact wV n h hm⟩,t1,q2.eJ⟩
theorem WE(σ:StL):σ.abort.open_=false:=by
 unfold StL.abort;cases h:σ.open_ with
 | true=>rfl
 | false=>rw[η Z];exact h
theorem IP(σ:StL):σ.abort.n=σ.n:=by
 unfold StL.abort;split<;>rfl
theorem AM(σ:StL):σ.bj.1.n=σ.n:=by
 unfold StL.bj;split
 ·rfl
 ·split
  ·rfl
  ·split
   ·exact JL.fh _ _
   ·exact JL.fh _ _
def dR(b:Bytes)(lo:Nat):Nat→List (Nat×Nat)
 | 0=>[]
 | k+1 =>
  if bit b (lo+k) then
   (match (dR b lo k).getLast? with
   | some r=>if r.1+r.2=lo+k then(dR b lo k).dropLast++[(r.1,r.2+1)] else dR b lo k++[(lo+k,1)]
   | none=>[(lo+k,1)])
  else dR b lo k
theorem BN(b:Bytes)(lo k:Nat):∀r∈dR b lo k,1≤r.2∧r.1+r.2≤lo+k∧lo≤r.1∧bit b (r.1+r.2-1)=true:=by
 induction k with
 | zero=>intro r h;simp[dR] at h
 | succ k ih =>
  intro r h;rw[dR] at h;cases hb:bit b (lo+k) with
  | false =>
   rw[hb] at h;simp only[M2,ON] at h;obtain⟨h1,h2,h3,h4⟩:=ih r h;exact⟨h1,U,h3,h4⟩
  | true =>
   rw[hb] at h;simp only[PM] at h;cases hl:(dR b lo k).getLast? with
   | none =>
    rw[hl] at h;simp only[Mo] at h;subst h;exact⟨U,by simp only;omega,by simp only;omega,by simp only[abk];exact hb⟩
   | some q =>
    rw[hl] at h;simp only[] at h;have hq:=ih q (acA hl);split at h
    ·rename_i he
     rcases My.1 h with h|h
     ·obtain⟨h1,h2,h3,h4⟩:=ih r (ad3 _ h)
      exact⟨h1,U,h3,h4⟩
     ·simp only[Mo] at h
      subst h;refine⟨by simp only;omega,by simp only;omega,hq.2.2.1,?_⟩
      show bit b (q.1+(q.2+1)-1)=true;rw[show q.1+(q.2+1)-1=lo+k by omega];exact hb
    ·rcases My.1 h with h|h
     ·obtain⟨h1,h2,h3,h4⟩:=ih r h
      exact⟨h1,U,h3,h4⟩
     ·simp only[Mo] at h
      subst h;exact⟨U,by simp only;omega,by simp only;omega,by simp only[abk];exact hb⟩
theorem so(b:Bytes)(lo m t:Nat)(h:∀i,i<t→bit b (lo+m+i)=false):dR b lo (m+t)=dR b lo m:=by
 induction t with
 | zero=>rfl
 | succ t ih =>
  rw[←Ps,dR,←Ps,h t U,η Z];exact ih (fun i hi=>h i U)
theorem Qg(b:Bytes)(lo m t:Nat)(ht:0<t)(h:∀i,i<t→bit b (lo+m+i)=true)(hm:m=0∨bit b (lo+m-1)=false):dR b lo (m+t)=dR b lo m++[(lo+m,t)]:=by
 induction t with
 | zero=>omega
 | succ t ih =>
  rw[←Ps,dR,←Ps,h t U,Φ rfl];rcases TC t with rfl|htp
  ·rw[UI]
   cases hl:(dR b lo m).getLast? with
   | none =>
    rw[abW.1 hl];rfl
   | some q =>
    obtain⟨q1,q2,q3,q4⟩:=BN b lo m q (acA hl);simp only[];rw[η]
    ·rfl
    ·intro he
     rcases hm with rfl|hm
     ·simp[dR] at hl
     ·rw[he,UI] at q4
      rw[q4] at hm;exact absurd hm Z
  ·rw[ih htp (fun i hi=>h i U),acB]
   simp only[ab1,adW,XN];rw[Φ trivial]
def nG(st:List (Nat×Nat)×Nat)(r:Nat×Nat):List (Nat×Nat)×Nat:=(if st.2<r.1 then st.1++[(st.2,r.1-st.2)] else st.1,r.1+r.2)
theorem vq(b:Bytes)(lo k:Nat)(lq:∀i,i<lo→bit b i=true)(hk:lo≤k):
  ∃at_,(aK b k).foldl nG ([],lo)=(dR b lo (at_-lo),at_)∧lo≤at_∧at_≤k∧(∀i,at_≤i→i<k→bit b i=true)∧(at_=lo∨bit b (at_-1)=false)∧(lo<k→bit b (k-1)=false→at_=k):=by
 obtain⟨d,rfl⟩:∃d,k=lo+d:=⟨k-lo,U⟩;clear hk;have h0:∀j,j≤lo→aK b j=[]:=fun j hj=>by
  induction j with
  | zero=>rfl
  | succ j ih=>rw[aK,lq j U,Φ rfl];exact ih U
 induction d with
 | zero=>exact⟨lo,by rw[UI,h0 lo (Ω _),abz];rfl,Ω _,U,fun i h1 h2=>U,.inl rfl,fun h=>U⟩
 | succ d ih =>
  obtain⟨a,e,h1,h2,h3,h4,h5⟩:=ih;rw[←Ps];cases hb:bit b (lo+d) with
  | true =>
   refine⟨a,by rw[yZ b _ hb];exact e,h1,U,fun i qG zq=>?_,h4,fun _ hc=>?_⟩
   ·by_cases hi:i=lo+d
    ·rw[hi];exact hb
    ·exact h3 i qG U
   ·rw[abk,hb] at hc;exact absurd hc Z
  | false =>
   refine⟨lo+d+1,?_,U,Ω _,fun i qG zq=>U,.inr (by rw[abk];exact hb),fun _ _=>rfl⟩
   rw[aK,hb,η Z];have Im:dR b lo (d+1)=dR b lo d:=so b lo d 1 (fun i hi=>by rw[show lo+d+i=lo+d by omega];exact hb)
   rw[show lo+d+1-lo=d+1 by omega,Im]
   by_cases hc:0<lo+d∧bit b (lo+d-1)=false
   ·rw[Φ hc]
    have hd:0<d:=by
     rcases TC d with rfl|hd
     ·have:=lq (lo-1) U
      rw[UI] at hc;rw[this] at hc;exact absurd hc.2 Z
     ·exact hd
    obtain rfl:=h5 U hc.2;have aU:aK b (lo+d)≠[]:=fun hn=>by
     rw[hn] at e;simp only[ab0,QR] at e;omega
    obtain⟨rs,r,kS⟩:∃rs r,aK b (lo+d)=rs++[r]:=⟨_,_,(acY aU).symm⟩;rw[kS] at e ⊢;rw[sV,V2];rw[V2] at e;simp only[Tu,ab0,nG,QR] at e ⊢;rw[show lo+d-lo=d by omega] at e
    exact⟨e.1,U⟩
   ·rw[η hc,V2,e]
    simp only[Tu,ab0,nG,QR];refine⟨?_,trivial⟩;by_cases ha:a<lo+d
    ·rw[Φ ha]
     have:=Qg b lo (a-lo) (lo+d-a) U (fun i hi=>h3 _ U U) (by
      rcases h4 with h4|h4
      ·exact .inl U
      ·exact .inr (by rw[show lo+(a-lo)-1=a-1 by omega];exact h4))
     rw[show a-lo+(lo+d-a)=d by omega,show lo+(a-lo)=a by omega] at this
     exact this.symm
    ·rw[η ha,show a-lo=d by omega]
def mW(b:Bytes)(lo n:Nat):List (Nat×Nat):=((aK b n++[(n,0)]).foldl nG ([],lo)).1
theorem yC(b:Bytes)(lo n:Nat)(lq:∀i,i<lo→bit b i=true)(hk:lo≤n):mW b lo n=dR b lo (n-lo):=by
 obtain⟨a,e,h1,h2,h3,h4,_⟩:=vq b lo n lq hk;unfold mW;rw[V2,e];simp only[Tu,ab0,nG];by_cases ha:a<n
 ·rw[Φ ha]
  have:=Qg b lo (a-lo) (n-a) U (fun i hi=>h3 _ U U) (by
   rcases h4 with h4|h4
   ·exact .inl U
   ·exact .inr (by rw[show lo+(a-lo)-1=a-1 by omega];exact h4))
  rw[show a-lo+(n-a)=n-lo by omega,show lo+(a-lo)=a by omega] at this
  exact this.symm
 ·rw[η ha,show a-lo=n-lo by omega]
theorem Qh(b:Bytes)(lo k:Nat)(lq:∀i,i<lo→bit b i=true):((List.range' lo k).filter fun i=>bit b i).length+cnt b (lo+k)=k:=by
 induction k with
 | zero=>rw[UI,JO b lo lq];rfl
 | succ k ih =>
  rw[ad2,ac3,←Ps,cnt,Δ];cases hb:bit b (lo+k) with
  | true=>simp[hb];omega
  | false=>simp[hb];omega
def lC(c:Int)(n:Nat):Nat:=(if c<0 then -(c+1) else c).toNat%n
theorem Ev(c:Int)(n:Nat)(h:0<n):lC c n<n:=Sx _ h
theorem oR(σ:StL):σ.abort.j=σ.j:=by unfold StL.abort;split<;>rfl
def Two(K n:Nat)(d:af)(C D:Nat→Bytes):Prop:=d.Ok∧d.l.length=n∧uG n C∧uG n D∧Safe 60 K d (fun E=>E=C∨E=D)
theorem WH{K K':Nat}{σ:StL}{fr:List (List WrL)}{C:Nat→Bytes}(h:cg K σ fr C)(hk:K≤K'):cg K' σ fr C :=
 ⟨h.inv.mono hk,h.big,h.good,h.map,h.now,h.rise,h.ic,h.short,h.Fc,h.closed⟩
abbrev aV(d:af):StL:=⟨(aL d).1,mapD (aL d).1.d,[],false,[]⟩
structure fW (j:JL):Prop where
 log:0<j.s.log
 log2:j.s.log≤1000000
 place:j.s.place≤1000000
 used:j.used≤1000000
 e:j.s.e<18446744073709551616
 s:j.s.s<18446744073709551616
 next:j.next<18446744073709551616
 k:j.k≤1
 ok:j.d.Ok
 eJ:j.d.dead=false→j.d.p.length≤900000
structure iL (σ:StL):Prop where
 big:128≤σ.n
 max:σ.n≤4096
 map:σ.ai.length=256*aD σ.n
 num:σ.dead=false→fW σ.j∧σ.j.used≤σ.j.s.log∧σ.j.home=62∧(∀w∈σ.tx,63≤w.1∧w.1<σ.n∧w.2.length=256)∧σ.tx.length≤48∧l8 σ.tx∧∀i,i<σ.n→(σ.j.d.get i).length=256
theorem JInv.num{lg K:Nat}{j:JL}{fr:List (List WrL)}{C:Nat→Bytes}(h:JInv lg K j fr C)(hl:lg≤1000)(hK:K<18446744073709551616):fW j:=by
 have h1:=h.hrec.ef;have h2:=h.cH;have h3:=h.hrec.eV;have h4:=h.hrec.hchain.used;have h5:=h.gO;have h6:=h.he;have h7:=h.hnext;have h8:=h.im;have h9:=h.hrec.hk;have RH:=h.eJ;exact⟨U,U,U,U,U,U,U,h9,h.ok,fun _=>U⟩
theorem cg.num{K:Nat}{σ:StL}{fr:List (List WrL)}{C:Nat→Bytes}(h:cg K σ fr C)(hK:K<18446744073709551616):iL σ:=by
 refine⟨h.big,h.max,h.map.len,fun _=>⟨h.inv.num U hK,?_,?_,h.ic,h.short,h.rise,fun i hi=>af.gh h.inv.ok i hi⟩⟩
 ·have:=h.inv.hrec.hchain.used;rw[h.inv.gO];omega
 ·unfold JL.home;rw[h.inv.cH]
structure DK (d:af):Prop where
 j0:(aL d).2=0
 num:fW (aL d).1
 live:(aL d).1.d.dead=false
 home:(aL d).1.home=62
 big:128≤d.l.length
 ok:(aL d).1.d.Ok
 title:(aL d).1.d.get 62=jv d.l.length
 low:cnt (mapD (aL d).1.d) (ak d.l.length)=0
 high:cnt (mapD (aL d).1.d) (2048*aD d.l.length)-cnt (mapD (aL d).1.d) d.l.length=2048*aD d.l.length-d.l.length
structure KT (σ:StL):Prop where
 get:(σ.j.bj σ.tx).2=0→∀i,63≤i∧i<σ.n→(σ.j.bj σ.tx).1.d.get i=bH σ.tx i (σ.j.d.get i)
 dead:(σ.j.bj σ.tx).2≠0→(σ.j.bj σ.tx).1.d.dead=true
theorem I0{K:Nat}{σ:StL}{fr:List (List WrL)}{C:Nat→Bytes}(h:cg K σ fr C)(hK:K+4<18446744073709551616)(ht:σ.tx≠[]):KT σ:=by
 have hw:sS σ.tx:=⟨by have:=UV.2 ht;omega,h.short,fun w hw=>by have:=h.ic w hw;exact⟨by have:=h.max;omega,this.2.2⟩⟩
 have hh:∀w∈σ.tx,2+60≤w.1∧w.1<σ.j.d.l.length:=fun w hw=>by have:=h.ic w hw;exact⟨U,this.2.1⟩
 have hn:(σ.j.bj σ.tx).1.d.l.length=σ.n:=JL.fh _ _;rcases Al h.inv σ.tx hw hh hK with ⟨a,fr',b⟩|⟨a,b,_⟩
 ·refine⟨fun _ i hi=>?_,fun e=>absurd a e⟩
  rw[b.get i U (by rw[hn];exact hi.2),h.inv.get i U hi.2];rfl
 ·exact⟨fun e=>by rw[a] at e;exact absurd e Z,fun _=>b⟩
theorem Ap{K:Nat}{σ:StL}{fr:List (List WrL)}{C:Nat→Bytes}(h:cg K σ fr C)(hK:K+4<18446744073709551616):σ.state true=0→σ.tx≠[]→KT σ:=fun _ ht=>I0 h hK ht
theorem Ga{K:Nat}{d:af}{s:bu}{k:Nat}{fr:List (List WrL)}{C:Nat→Bytes}(h:jZ 60 K d s k fr C)(hg:uG d.l.length C)(hn:128≤d.l.length)(hK:K+3<18446744073709551616)(he:(aL d).2=0):
  DK d∧cg (K+1) ⟨(aL d).1,mapD (aL d).1.d,[],false,[]⟩ [] C∧(⟨(aL d).1,mapD (aL d).1.d,[],false,[]⟩:StL).n=d.l.length:=by
 have hlen:=F7 d;have hm:=h.ok.max;rcases AP h hK with ⟨a,b,c,e⟩|⟨a,_⟩
 ·have hf:=jH d.l.length hn hm
  have hp:=jQ d.l.length U;have MX:mapD (aL d).1.d=kD d.l.length C:=by
   unfold mapD kD;rw[hlen];congr 1;exact PC (fun i hi=>b.get _ U (by rw[hlen];have:=P4.1 hi;unfold ak at hf;omega))
  have kT:(⟨(aL d).1,mapD (aL d).1.d,[],false,[]⟩:StL).n=d.l.length:=hlen;refine⟨⟨a,b.num Z U,b.live,by unfold JL.home;rw[b.cH],hn,b.ok,?_,?_,?_⟩,?_,kT⟩
  ·rw[b.get 62 U (by rw[hlen];omega),hg.title]
  ·rw[MX,JO _ _ hg.map.low]
  ·rw[MX]
   have:=BB (kD d.l.length C) d.l.length (2048*aD d.l.length-d.l.length) hg.map.high;rw[show d.l.length+(2048*aD d.l.length-d.l.length)=2048*aD d.l.length by omega] at this
   omega
  ·exact⟨b,by rw[kT];exact hn,by rw[kT];exact hg,by rw[kT];show aah _ (mapD _);rw[MX];exact hg.map,by rw[kT];exact MX,List.Pairwise.nil,fun w hw=>by simp at hw,κ,fun hc=>by simp at hc,fun _=>rfl⟩
 ·rw[a] at he;exact absurd he Z
theorem Nn{K:Nat}{d:af}{s:bu}{k:Nat}{fr:List (List WrL)}{C:Nat→Bytes}(h:jZ 60 K d s k fr C)(hK:K+3<18446744073709551616):
  (aL d).2=0∨((aL d).2=4∧(aL d).1.d.dead=true∧(aL d).1.d.Ok∧Safe 60 (K+1) (aL d).1.d (·=C)∧d.b9 ≠ -1):=by
 rcases AP h hK with ⟨a,_⟩|⟨a,b⟩
 ·exact .inl a
 ·exact .inr ⟨a,b⟩
abbrev bf(n:Nat):StL:=aV (fH (af.new n)).1
theorem BO(n:Nat)(h:128≤n)(hm:n≤4096):(aL (fH (af.new n)).1).2=0∧DK (fH (af.new n)).1∧cg 5 (bf n) [] (bT (fun _=>ag) (bE n))∧(bf n).n=n∧(bf n).j.d.Free∧(bf n).ai=iX n:=by
 obtain⟨_,hf,hl,bQ,⟨s,k,fr,hp⟩,hg,zx,_⟩:=Dg n h hm;have hz:(aL (fH (af.new n)).1).2=0:=by
  rcases Nn hp Z with e|⟨_,_,_,_,e⟩
  ·exact e
  ·exact absurd hf.1 e
 obtain⟨o1,o2,o3⟩:=Ga hp (by rw[hl];exact hg) (by rw[hl];exact h) Z hz
 have dQ:(bf n).j.d.Free:=by
  rcases AP hp Z with ⟨_,x,_,y⟩|⟨e,_⟩
  ·exact⟨y hf.1,x.live⟩
  ·rw[e] at hz;exact absurd hz Z
 refine⟨hz,o1,o2,by rw[o3,hl],dQ,?_⟩
 have:=o2.now;rw[o3,hl] at this;rw[this];exact zx
end
end Go.Proofs.YtbkahhebmpehnaaGreatDoor
