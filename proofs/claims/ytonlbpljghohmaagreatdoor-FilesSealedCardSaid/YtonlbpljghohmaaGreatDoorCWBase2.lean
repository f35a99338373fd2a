/- Joined: Base2 to JrnM -/
import Derived.Test.YtonlbpljghohmaaGreatDoorCWWire
import Derived.RangeFuncNested
import Derived.RangeFuncBound
import Derived.OwnWalkIn
import Derived.TacticsInMore
import Derived.LoopNIn
import Derived.LoopIn
import Derived.Lib.OthersKept
import Derived.Test.YtonlbpljghohmaaGreatDoorProg
set_option linter.all false
set_option maxRecDepth 100000
set_option maxHeartbeats 8000000
namespace Go.Proofs.YtonlbpljghohmaaGreatDoor
open Tryz
section
theorem qS(l:List UInt8)(i:Nat)(hi:i=0∨bit l (i-1)=true)(m:Nat)(h:∀j,i≤j→j<i+m+1→bit l j=false):aK l (i+m+1)=aK l i++[(i,m+1)]:=by
 induction m with
 | zero =>
  rw[V0,aK,h i (Ω _) U,η κ,η];rintro⟨h0,h1⟩;rcases hi with hi|hi
  ·omega
  ·rw[hi] at h1;cases h1
 | succ m ih =>
  have:=ih (fun j h1 h2=>h j h1 U)
  rw[show i+(m+1)+1=(i+m+1)+1 by omega,aK,h _ U U,η κ,Φ ⟨U,h _ U U⟩,this,sV]
theorem yZ(l:List UInt8)(k:Nat)(h:bit l k=true):aK l (k+1)=aK l k:=by rw[aK,h];rfl
theorem Nf(l:List UInt8)(i k N:Nat)(hi:i=0∨bit l (i-1)=true)(Vu:i<k)(RD:k≤N)(h:∀j,i≤j→j<k→bit l j=false)(hk:k=N∨bit l k=true):
  aK l (min (k+1) N)=aK l i++[(i,k-i)]:=by
 have:=qS l i hi (k-i-1) (fun j h1 h2=>h j h1 U)
 rw[show i+(k-i-1)+1=k by omega,show k-i-1+1=k-i by omega] at this
 rcases hk with hk|hk
 ·rw[←this];congr 1;omega
 ·by_cases e:k=N
  ·rw[←this];congr 1;omega
  ·rw[show min (k+1) N=k+1 by omega,yZ l k hk,this]
theorem Ng(l:List UInt8)(k N:Nat)(RD:k≤N)(hk:k=N∨bit l k=true):aK l (min (k+1) N)=aK l k:=by
 rcases hk with hk|hk
 ·congr 1;omega
 ·by_cases e:k=N
  ·congr 1;omega
  ·rw[show min (k+1) N=k+1 by omega,yZ l k hk]
def tail(l:List UInt8):Nat→Nat
 | 0=>0
 | k+1=>if bit l k then 0 else tail l k+1
theorem oY(l:List UInt8)(k:Nat):tail l k≤k:=by
 induction k with
 | zero=>exact Ω _
 | succ k ih=>rw[tail];split<;>omega
def fK(l:List UInt8)(c:Nat):Nat→Option Nat
 | 0=>none
 | k+1=>match fK l c k with
  | some s=>some s
  | none=>if tail l (k+1)=c then some (k+1-c) else none
def jb:Option Nat→Int×Bool
 | some s=>((s:Int),true)
 | none=>(0,false)
def qh(l:List UInt8)(n c:Int):Int×Bool:=if c<1 then(0,false) else jb (fK l c.toNat (fA l n))
theorem Nh(l:List UInt8)(c k s:Nat)(h:fK l c k=some s)(m:Nat)(hm:k≤m):fK l c m=some s:=by
 induction m with
 | zero=>rw[←h];congr 1;omega
 | succ m ih =>
  by_cases e:k=m+1
  ·rw[←e];exact h
  ·rw[fK,ih U]
theorem DJ(l:List UInt8)(c m:Nat)(h:fK l c m=none)(k:Nat)(hm:k≤m):fK l c k=none:=by
 cases e:fK l c k with
 | none=>rfl
 | some s=>rw[Nh l c k s e m hm] at h;cases h
theorem F4(l:List UInt8)(k:Nat)(h:bit l k=false):∃rs a,aK l (k+1)=rs++[(a,tail l (k+1))]∧a+tail l (k+1)=k+1:=by
 induction k with
 | zero=>exact⟨[],0,by simp[aK,tail,h],by simp[tail,h]⟩
 | succ k ih =>
  by_cases hk:bit l k=false
  ·obtain⟨rs,a,h1,h2⟩:=ih hk
   refine⟨rs,a,?_,?_⟩
   ·rw[aK,h,η κ,Φ ⟨U,hk⟩,h1,sV,tail.eq_2 l (k+1),h];rfl
   ·rw[tail,h];simp;omega
  ·have Oz:bit l k=true:=by simpa using hk
   refine⟨aK l (k+1),k+1,?_,?_⟩
   ·rw[aK,h,η κ,η (by simp[Oz]),tail,h,tail,Oz];rfl
   ·rw[tail,h,tail,Oz];simp
theorem Ln(l:List UInt8)(c:Nat)(hc:1≤c)(N:Nat):fK l c N=((aK l N).find? (fun r=>decide (c≤r.2))).map (·.1):=by
 induction N with
 | zero=>rfl
 | succ k ih =>
  cases hk:bit l k with
  | true =>
   rw[yZ l k hk,fK,tail,hk,←ih];cases fK l c k with
   | none=>simp;omega
   | some s=>rfl
  | false =>
   obtain⟨rs,a,h1,h2⟩:=F4 l k hk;rw[h1,fK];by_cases hp:0<k∧bit l (k-1)=false
   ·obtain⟨rs',a',h3,h4⟩:=F4 l (k-1) hp.2
    rw[show k-1+1=k by omega] at h3 h4
    have h5:=h1;rw[aK,hk,η κ,Φ hp,h3,sV] at h5;have e:=List.append_inj' h5 rfl;obtain⟨rfl,e2⟩:=e;simp at e2;obtain⟨rfl,e2⟩:=e2;rw[ih,h3,adb,adb];cases hf:rs'.find? (fun r=>decide (c≤r.2)) with
    | some r=>simp
    | none =>
     simp only[Option.none_or,List.find?_cons,List.find?_nil];by_cases h6:c≤tail l k
     ·simp[h6,show c≤tail l (k+1) by omega]
     ·by_cases h7:c≤tail l (k+1)
      ·simp[h6,h7,show tail l (k+1)=c by omega];omega
      ·simp[h6,h7,show ¬tail l (k+1)=c by omega]
   ·have h5:=h1
    rw[aK,hk,η κ,η hp] at h5;have e:=List.append_inj' h5 rfl;obtain⟨rfl,e2⟩:=e;simp at e2;obtain⟨rfl,e2⟩:=e2;rw[ih,adb];cases hf:(aK l k).find? (fun r=>decide (c≤r.2)) with
    | some r=>simp
    | none =>
     simp only[Option.none_or,List.find?_cons,List.find?_nil,Option.map_none];rw[←e2];by_cases h7:c≤1
     ·simp[show c=1 by omega]
     ·simp[h7];omega
theorem zp(k j:Nat)(hk:k<8)(hj:j<8):(255-2 ^ k).testBit j=decide (j≠k):=by
 have h:∀(k j:Fin 8),(255-2 ^ k.val).testBit j.val=decide (j.val≠k.val):=by decide +kernel
 exact h ⟨k,hk⟩ ⟨j,hj⟩
theorem UA(x k j:Nat)(on:Bool)(hk:k<8)(hj:j<8):(lN x k on).testBit j=if j=k then on else x.testBit j:=by
 unfold lN;cases on with
 | true =>
  simp only[QQ,Nat.testBit_or,Nat.testBit_two_pow];by_cases h:j=k
  ·simp[h]
  ·simp[h];omega
 | false =>
  simp only[N0,PR,Nat.testBit_and,zp k j hk hj];by_cases h:j=k<;>simp[h]
theorem WA(l:List UInt8)(i j:Nat)(on:Bool)(hi:i<8*l.length):bit (qg l i on) j=if j=i then on else bit l j:=by
 have hi8:i / 8<l.length:=U;unfold bit qg;rw[Θ,abo];by_cases h:i / 8=j / 8
 ·rw[Φ h,Φ hi8,aag,abR,PQ (uF _ _ _ (V2 _) (Tr _ U)),
   UA _ _ _ _ (Tr _ U) (Tr _ U),h]
  by_cases h2:j=i
  ·rw[Φ U,Φ h2]
  ·rw[η U,η h2]
 ·rw[η h,η (by intro e;exact h (by rw[e])),←Θ]
theorem BK(l:List UInt8)(s c j:Nat)(on:Bool)(h:c+s≤8*l.length):bit (bF l s on c) j=if s≤j∧j<s+c then on else bit l j:=by
 induction c with
 | zero=>rw[bF,η U]
 | succ c ih =>
  rw[bF,WA _ _ _ _ (by rw[jL];omega),ih U]
  by_cases h1:j=s+c
  ·rw[Φ h1,Φ U]
  ·rw[η h1]
   by_cases h2:s≤j∧j<s+c
   ·rw[Φ h2,Φ U]
   ·rw[η h2,η U]
theorem Ni(l:List UInt8)(k j:Nat)(h1:k-tail l k≤j)(h2:j<k):bit l j=false:=by
 induction k with
 | zero=>omega
 | succ k ih =>
  rw[tail] at h1;cases hb:bit l k with
  | true=>rw[hb] at h1;simp at h1;omega
  | false =>
   rw[hb] at h1;simp at h1;by_cases e:j=k
   ·rw[e];exact hb
   ·exact ih U U
theorem Es(l:List UInt8)(c N s:Nat)(h:fK l c N=some s):tail l (s+c)=c∧s+c≤N∧(1≤c→fK l c (s+c-1)=none):=by
 induction N with
 | zero=>cases h
 | succ k ih =>
  rw[fK] at h;cases hk:fK l c k with
  | some t =>
   rw[hk] at h;obtain⟨h1,h2,h3⟩:=ih (by rw[hk];simpa using h)
   exact⟨h1,U,h3⟩
  | none =>
   rw[hk] at h;simp at h;have:=oY l (k+1);have e:s+c=k+1:=U;rw[e];exact⟨h.1,Ω _,fun _=>hk⟩
theorem Qd(l:List UInt8)(c N:Nat)(hc:1≤c)(h:fK l c N=none)(k:Nat)(hk:k≤N):tail l k<c:=by
 induction k with
 | zero=>rw[tail];omega
 | succ k ih =>
  have h1:=ih U;have h2:=DJ l c N h (k+1) hk;have h3:=DJ l c N h k U;rw[fK,h3] at h2;simp at h2;rw[tail] at h2 ⊢;split<;>simp_all<;>omega
def LN(l:List UInt8)(k:Nat)(r:Nat×Nat):Prop :=
 (∀j,r.1≤j→j<r.1+r.2→bit l j=false)∧(0<r.1→bit l (r.1-1)=true)∧1≤r.2∧r.1+r.2≤k∧(r.1+r.2<k→bit l (r.1+r.2)=true)
def total(rs:List (Nat×Nat)):Nat:=(rs.map (·.2)).sum
theorem Et(rs:List (Nat×Nat))(r:Nat×Nat):total (rs++[r])=total rs+r.2:=by simp[total]
theorem IF(l:List UInt8)(k:Nat):(∀r∈aK l k,LN l k r)∧(aK l k).Pairwise (fun r q=>r.1+r.2<q.1)∧total (aK l k)=cnt l k:=by
 induction k with
 | zero=>exact⟨by simp[aK],by simp[aK],by simp[aK,total,cnt]⟩
 | succ k ih =>
  obtain⟨h1,h2,h3⟩:=ih;cases hb:bit l k with
  | true =>
   rw[yZ l k hb];refine⟨fun r hr=>?_,h2,by rw[h3,cnt,hb];rfl⟩
   obtain⟨a,b,c,d,e⟩:=h1 r hr;refine⟨a,b,c,U,fun h=>?_⟩
   by_cases e1:r.1+r.2=k
   ·rw[e1];exact hb
   ·exact e U
  | false =>
   by_cases hp:0<k∧bit l (k-1)=false
   ·obtain⟨rs,a,h4,h5⟩:=F4 l (k-1) hp.2
    rw[show k-1+1=k by omega] at h4 h5
    generalize tail l k=t at *;have e:aK l (k+1)=rs++[(a,t+1)]:=by rw[aK,hb,η κ,Φ hp,h4,sV]
    rw[h4] at h1 h2 h3;rw[e];rw[aby] at h2;obtain⟨p1,p2,p3⟩:=h2;refine⟨fun r hr=>?_,?_,?_⟩
    ·rw[No] at hr
     rcases hr with hr|hr
     ·obtain⟨a1,b1,c1,d1,e1⟩:=h1 r (by simp[hr])
      have:=p3 r hr (a,t) κ;exact⟨a1,b1,c1,U,fun h=>e1 (by simp at this;omega)⟩
     ·simp at hr
      subst hr;obtain⟨a1,b1,c1,d1,e1⟩:=h1 (a,t) κ;refine⟨fun j j1 j2=>?_,b1,κ,by simp;omega,fun h=>by simp at h;omega⟩
      by_cases ej:j=k
      ·rw[ej];exact hb
      ·exact a1 j j1 (by simp at j2 ⊢;omega)
    ·rw[aby]
     refine⟨p1,κ,fun r hr q hq=>?_⟩
     have:=p3 r hr (a,t) κ;simp at hq;subst hq;exact this
    ·rw[Et] at h3 ⊢
     rw[cnt,hb];simp at h3 ⊢;omega
   ·have e:aK l (k+1)=aK l k++[(k,1)]:=by rw[aK,hb,η κ,η hp]
    have ay:∀r∈aK l k,r.1+r.2<k:=by
     intro r hr;obtain⟨a1,b1,c1,d1,e1⟩:=h1 r hr;by_cases e2:r.1+r.2=k
     ·exact absurd ⟨U,a1 (k-1) U U⟩ hp
     ·omega
    rw[e];refine⟨fun r hr=>?_,?_,?_⟩
    ·rw[No] at hr
     rcases hr with hr|hr
     ·obtain⟨a1,b1,c1,d1,e1⟩:=h1 r hr
      exact⟨a1,b1,c1,U,fun h=>e1 (ay r hr)⟩
     ·simp at hr
      subst hr;refine⟨fun j j1 j2=>?_,fun h=>?_,κ,κ,fun h=>by simp at h⟩
      ·have:j=k:=by simp at j1 j2;omega
       rw[this];exact hb
      ·simp at h
       cases hq:bit l (k-1) with
       | true=>rfl
       | false=>exact absurd ⟨h,hq⟩ hp
    ·rw[aby]
     refine⟨h2,κ,fun r hr q hq=>?_⟩
     simp at hq;subst hq;exact ay r hr
    ·rw[Et,h3,cnt,hb];rfl
def aD(n:Nat):Nat:=(n+2047) / 2048
def ak(n:Nat):Nat:=63+aD n
def jv(n:Nat):Bytes:=[67,68,88,66]++(aB n++bg 248)
theorem Fe(n:Nat):(jv n).length=256:=by simp only[jv,Δ,aH,fC];rfl
def aG(b:Bytes)(i:Nat):Bytes:=(b.drop (i*256)).take 256
def kD(n:Nat)(C:Nat→Bytes):Bytes:=((List.range (aD n)).map fun i=>C (63+i)).flatten
theorem jQ(n:Nat)(h:0<n):1≤aD n∧2048*aD n≥n∧2048*aD n<n+2048:=by unfold aD;omega
theorem jH(n:Nat)(h:128≤n)(hm:n≤4096):ak n<n∧aD n≤2:=by unfold ak aD;omega
theorem WB(p:Nat)(f:Nat→Bytes)(hf:∀i,i<p→(f i).length=256):((List.range p).map f).flatten.length=256*p∧∀i,i<p→aG ((List.range p).map f).flatten i=f i:=by
 induction p with
 | zero=>exact⟨rfl,fun i h=>U⟩
 | succ p ih =>
  obtain⟨h1,h2⟩:=ih (fun i hi=>hf i U)
  rw[UV,Pu,T0];simp only[On,Wg,VS,ace,ON];refine⟨by rw[Δ,h1,hf p U];omega,fun i hi=>?_⟩
  unfold aG;by_cases hp:i=p
  ·subst hp
   rw[abO (by rw[h1];omega),NE (by rw[hf i hi];exact Ω _)]
  ·rw[acI (by rw[h1];omega),Se (by rw[MM,h1];omega)]
   exact h2 i U
theorem KN(p:Nat):∀(b:Bytes),b.length=256*p→((List.range p).map (aG b)).flatten=b:=by
 induction p with
 | zero=>intro b h;rw[OS (l:=b) U];rfl
 | succ p ih =>
  intro b h;have h1:=ih (b.take (256*p)) (by rw[Mz];omega)
  have e:(List.range p).map (aG b)=(List.range p).map (aG (b.take (256*p))):=by
   refine P4 (fun i hi=>?_)
   have:=Sa.1 hi;unfold aG;rw[aad,abt];congr 1;omega
  rw[UV,Pu,T0,e,h1];simp only[On,Wg,VS,ace,ON];unfold aG;rw[We p 256,NE (l:=b.drop (256*p)) (by rw[MM];omega),PP]
def bM:List WrL→WrL→List WrL
 | [],w=>[w]
 | x::l,w=>if x.1<w.1 then x::bM l w else if x.1=w.1 then w::l else w::x::l
def aZ(tx l:List WrL):List WrL:=l.foldl bM tx
abbrev l8(l:List WrL):Prop:=l.Pairwise fun x y=>x.1<y.1
theorem Qe(l:List WrL)(w x:WrL)(h:x∈bM l w):x=w∨x∈l:=by
 induction l with
 | nil=>left;simpa[bM] using h
 | cons y l ih =>
  unfold bM at h;split at h
  ·rcases NL.1 h with rfl|h
   ·right;exact Nm ..
   ·rcases ih h with h|h
    ·exact .inl h
    ·exact .inr (M1 _ h)
  ·split at h
   ·rcases NL.1 h with rfl|h
    ·exact .inl rfl
    ·exact .inr (M1 _ h)
   ·rcases NL.1 h with rfl|h
    ·exact .inl rfl
    ·exact .inr h
theorem F6(l:List WrL)(w:WrL)(h:l8 l):l8 (bM l w):=by
 induction l with
 | nil=>simp[bM,l8]
 | cons y l ih =>
  obtain⟨h1,h2⟩:=Tu.1 h;unfold bM;split
  ·rename_i hy
   refine Tu.2 ⟨fun x hx=>?_,ih h2⟩
   rcases Qe l w x hx with rfl|hx
   ·exact hy
   ·exact h1 x hx
  ·split
   ·rename_i _ hy
    exact Tu.2 ⟨fun x hx=>by rw[←hy];exact h1 x hx,h2⟩
   ·rename_i tN hy2
    refine Tu.2 ⟨fun x hx=>?_,h⟩
    rcases NL.1 hx with rfl|hx
    ·omega
    ·have:=h1 x hx;omega
theorem KO(l:List WrL)(w:WrL)(h:l8 l)(i:Nat)(s:Bytes):bH (bM l w) i s=if w.1=i then w.2 else bH l i s:=by
 induction l generalizing s with
 | nil=>simp[bM,bH]
 | cons y l ih =>
  obtain⟨h1,h2⟩:=Tu.1 h;unfold bM;split
  ·rename_i hy
   rw[bH,ih h2];rfl
  ·split
   ·rename_i tN hy
    rw[bH,bH];by_cases hi:w.1=i
    ·rw[Φ hi,Φ hi]
     exact dM l i _ (fun x hx e=>by have:=h1 x hx;omega)
    ·rw[η hi,η hi,η U]
   ·rename_i tN hy2
    rw[bH,bH];by_cases hi:w.1=i
    ·rw[Φ hi,Φ hi,η U]
     exact dM l i _ (fun x hx e=>by have:=h1 x hx;omega)
    ·rw[η hi,η hi,bH]
theorem Eu(l tx:List WrL)(h:l8 tx):l8 (aZ tx l):=by
 unfold aZ;induction l generalizing tx with
 | nil=>exact h
 | cons w l ih=>rw[Ty];exact ih _ (F6 tx w h)
theorem Df(l tx:List WrL)(h:l8 tx)(i:Nat)(s:Bytes):bH (aZ tx l) i s=bH l i (bH tx i s):=by
 unfold aZ;induction l generalizing tx with
 | nil=>rfl
 | cons w l ih=>rw[Ty,ih _ (F6 tx w h),KO tx w h,bH]
theorem Nj(l tx:List WrL)(x:WrL)(h:x∈aZ tx l):x∈l∨x∈tx:=by
 unfold aZ at h;induction l generalizing tx with
 | nil=>exact .inr h
 | cons w l ih =>
  rw[Ty] at h;rcases ih _ h with h|h
  ·exact .inl (M1 _ h)
  ·rcases Qe tx w x h with rfl|h
   ·exact .inl (Nm ..)
   ·exact .inr h
structure StL where
 j:JL
 ai:Bytes
 was:Bytes
 open_:Bool
 tx:List WrL
namespace StL
def n(σ:StL):Nat:=σ.j.d.l.length
def dead(σ:StL):Bool:=σ.j.d.dead
def cP(σ:StL)(i:Int):Bool:=decide ((ak σ.n:Int)≤i∧i<σ.n)
def get(σ:StL)(i:Nat):Bytes:=bH σ.tx i (σ.j.d.get i)
def read(σ:StL)(i:Int):Bytes×Int:=if σ.dead then([],4) else if σ.cP i then(σ.get i.toNat,0) else([],2)
def state(σ:StL)(o:Bool):Int:=if σ.dead then 4 else if σ.open_=o then 0 else 15
def begin(σ:StL):StL×Int:=if σ.state false≠0 then(σ,σ.state false) else({ σ with open_:=true,was:=σ.ai },0)
def touch(σ:StL)(l:List WrL):StL×Int:=if (aZ σ.tx l).length>48 then(σ,6) else({ σ with tx:=aZ σ.tx l },0)
def write(σ:StL)(i:Int)(s:Bytes):StL×Int :=
 if σ.state true≠0 then(σ,σ.state true) else if σ.cP i=false then(σ,2) else if bit σ.ai i.toNat=false then(σ,10) else if s.length≠256 then(σ,3) else σ.touch [(i.toNat,s)]
def turned(σ:StL)(b:Bytes):List WrL:=((List.range (aD σ.n)).filter fun i=>aG b i != aG σ.ai i).map fun i=>(63+i,aG b i)
def bh(σ:StL)(start c:Nat)(on:Bool):StL×Int :=
 if (σ.touch (σ.turned (bF σ.ai start on c))).2≠0 then σ.touch (σ.turned (bF σ.ai start on c)) else({ (σ.touch (σ.turned (bF σ.ai start on c))).1 with ai:=bF σ.ai start on c },0)
def alloc(σ:StL)(c:Int):StL×Int×Int :=
 if σ.state true≠0 then(σ,0,σ.state true) else if c<1 then(σ,0,1) else
 match fK σ.ai c.toNat σ.n with
 | none=>(σ,0,9)
 | some a=>if (σ.bh a c.toNat true).2≠0 then((σ.bh a c.toNat true).1,0,(σ.bh a c.toNat true).2) else((σ.bh a c.toNat true).1,a,0)
def release(σ:StL)(start c:Int):StL×Int :=
 if σ.state true≠0 then(σ,σ.state true) else if c<1∨σ.cP start=false∨(σ.n:Int)-start<c then(σ,2) else
 if ∃i,i<c.toNat∧bit σ.ai (start.toNat+i)=false then(σ,10) else σ.bh start.toNat c.toNat false
def close(σ:StL):StL:={ σ with open_:=false,tx:=[] }
def abort(σ:StL):StL:=if σ.open_ then { σ.close with ai:=σ.was } else σ
def bj(σ:StL):StL×Int :=
 if σ.state true≠0 then(σ,σ.state true) else if σ.tx=[] then(σ.close,0) else
 if (σ.j.bj σ.tx).2=0 then({ σ.close with j:=(σ.j.bj σ.tx).1 },0) else({ σ.close with j:=(σ.j.bj σ.tx).1,ai:=σ.was },(σ.j.bj σ.tx).2)
def free(σ:StL):Nat:=cnt σ.ai σ.n
end StL
structure fh (n:Nat) (b:Bytes):Prop where
 len:b.length=256*aD n
 low:∀i,i<ak n→bit b i=true
 high:∀i,n≤i→bit b i=false
structure uG (n:Nat) (C:Nat→Bytes):Prop where
 title:C 62=jv n
 map:fh n (kD n C)
structure ce (K:Nat) (σ:StL) (fr:List (List WrL)) (C:Nat→Bytes):Prop where
 inv:JInv 60 K σ.j fr C
 big:128≤σ.n
 good:uG σ.n C
 map:fh σ.n σ.ai
 now:σ.ai=kD σ.n (bT C σ.tx)
 rise:l8 σ.tx
 ie:∀w∈σ.tx,63≤w.1∧w.1<σ.n∧w.2.length=256
 short:σ.tx.length≤48
 Dd:σ.open_=true→σ.was=kD σ.n C
 closed:σ.open_=false→σ.tx=[]
theorem ce.max{K:Nat}{σ:StL}{fr:List (List WrL)}{C:Nat→Bytes}(h:ce K σ fr C):σ.n≤4096:=h.inv.ok.max
theorem ce.len{K:Nat}{σ:StL}{fr:List (List WrL)}{C:Nat→Bytes}(h:ce K σ fr C)(i:Nat)(h1:62≤i)(h2:i<σ.n):(C i).length=256:=by
 rw[←h.inv.get i h1 h2];exact af.gj h.inv.ok i h2
theorem ox{n:Nat}{C:Nat→Bytes}(hC:∀i,62≤i→i<n→(C i).length=256){l:List WrL}(hl:∀w∈l,w.2.length=256)(i:Nat)(h1:62≤i)(h2:i<n):(bT C l i).length=256:=by
 unfold bT;by_cases hx:∃w∈l,w.1=i
 ·obtain⟨w,hw,_,e⟩:=sQ l i (C i) hx
  rw[e];exact hl w hw
 ·rw[dM _ _ _ (fun w hw e=>hx ⟨w,hw,e⟩)];exact hC i h1 h2
theorem ce.get{K:Nat}{σ:StL}{fr:List (List WrL)}{C:Nat→Bytes}(h:ce K σ fr C)(i:Nat)(h1:62≤i)(h2:i<σ.n):σ.get i=bT C σ.tx i:=by
 unfold StL.get bT;rw[h.inv.get i h1 h2]
theorem If{n:Nat}(hn:128≤n)(hm:n≤4096){C:Nat→Bytes}(hC:∀i,62≤i→i<n→(C i).length=256):(kD n C).length=256*aD n∧∀i,i<aD n→aG (kD n C) i=C (63+i) :=
 WB _ _ (fun i hi=>hC _ U (by have:=jH n hn hm;unfold ak at this;omega))
theorem GO{n:Nat}{C D:Nat→Bytes}(h:∀i,i<aD n→C (63+i)=D (63+i)):kD n C=kD n D:=by
 unfold kD;congr 1;exact P4 (fun i hi=>h i (Sa.1 hi))
theorem KP{K:Nat}{σ:StL}{fr:List (List WrL)}{C:Nat→Bytes}(h:ce K σ fr C)(b:Bytes)(hb:b.length=σ.ai.length):kD σ.n (bT C (aZ σ.tx (σ.turned b)))=b∧∀w∈σ.turned b,63≤w.1∧w.1<ak σ.n∧w.2.length=256:=by
 have hm:=h.max;have hf:=jH σ.n h.big hm;have hlen:=h.map.len;have MX:=If h.big hm (C:=bT C σ.tx) (ox (h.len) (fun w hw=>(h.ie w hw).2.2))
 have eF:∀w∈σ.turned b,∃i,i<aD σ.n∧w=(63+i,aG b i):=fun w hw=>by
  obtain⟨i,hi,rfl⟩:=NF.1 hw;exact⟨i,Sa.1 (QP.1 hi).1,rfl⟩
 constructor
 ·have e:kD σ.n (bT C (aZ σ.tx (σ.turned b)))=((List.range (aD σ.n)).map (aG b)).flatten:=by
   unfold kD;congr 1;refine P4 (fun i hi=>?_)
   have pK:=Sa.1 hi;unfold bT;rw[Df _ _ h.rise];by_cases hx:∃w∈σ.turned b,w.1=63+i
   ·obtain⟨w,hw,eO,gD⟩:=sQ _ _ (bH σ.tx (63+i) (C (63+i))) hx
    obtain⟨i2,_,rfl⟩:=eF w hw;rw[gD];simp only at eO;rw[show i2=i by omega]
   ·rw[dM _ _ _ (fun w hw e=>hx ⟨w,hw,e⟩)]
    have h1:=MX.2 i pK;rw[←h.now] at h1;show bT C σ.tx (63+i)=_;rw[←h1];by_cases aU:aG b i=aG σ.ai i
    ·exact aU.symm
    ·exfalso
     refine hx ⟨(63+i,aG b i),NF.2 ⟨i,QP.2 ⟨hi,?_⟩,rfl⟩,rfl⟩;simpa using aU
  rw[e];exact KN _ _ (by rw[hb,hlen])
 ·intro w hw
  obtain⟨i,hi,rfl⟩:=eF w hw;refine⟨by simp only;omega,by simp only[ak];omega,?_⟩
  show(aG b i).length=256;unfold aG;rw[Mz,MM,hb,hlen];omega
theorem BB{n:Nat}{C:Nat→Bytes}{tx:List WrL}(hr:l8 tx){w:WrL}(hw:ak n≤w.1):kD n (bT C (aZ tx [w]))=kD n (bT C tx):=by
 refine GO (fun i hi=>?_)
 unfold bT;rw[Df _ _ hr,bH,bH,η (by unfold ak at hw;omega)]
theorem Nk{K:Nat}{σ:StL}{fr:List (List WrL)}{C:Nat→Bytes}(h:ce K σ fr C)(ho:σ.open_=true)(l:List WrL)(hl:∀w∈l,63≤w.1∧w.1<σ.n∧w.2.length=256)(b:Bytes)(hb:fh σ.n b)(hm:kD σ.n (bT C (aZ σ.tx l))=b):
  (σ.touch l=(σ,6))∨((σ.touch l).2=0∧ce K { (σ.touch l).1 with ai:=b } fr C):=by
 unfold StL.touch;split
 ·exact .inl rfl
 ·rename_i hs
  right;refine⟨rfl,⟨h.inv,h.big,h.good,hb,hm.symm,Eu _ _ h.rise,fun w hw=>?_,by show(aZ σ.tx l).length≤48;omega,h.Dd,fun hc=>?_⟩⟩
  ·rcases Nj _ _ _ hw with hw|hw
   ·exact hl w hw
   ·exact h.ie w hw
  ·have:σ.open_=false:=hc
   rw[ho] at this;exact absurd this Z
theorem so{K:Nat}{σ:StL}{fr:List (List WrL)}{C:Nat→Bytes}(h:ce K σ fr C):ce K σ.begin.1 fr C:=by
 unfold StL.begin;split
 ·exact h
 ·rename_i hs
  have ho:σ.open_=false:=by
   unfold StL.state at hs;cases hx:σ.open_ with
   | false=>rfl
   | true=>rw[hx] at hs;simp at hs;split at hs<;>simp at hs
  have ht:=h.closed ho;exact⟨h.inv,h.big,h.good,h.map,h.now,h.rise,h.ie,h.short,fun _=>by
   have:=h.now;rw[ht] at this;exact this,fun hc=>ht⟩
theorem wl{K:Nat}{σ:StL}{fr:List (List WrL)}{C:Nat→Bytes}(h:ce K σ fr C):ce K σ.abort fr C:=by
 unfold StL.abort;cases ho:σ.open_ with
 | false=>rw[η Z];exact h
 | true =>
  rw[Φ rfl];have hw:=h.Dd ho;refine⟨h.inv,h.big,h.good,?_,?_,List.Pairwise.nil,fun w hw=>by simp[StL.close] at hw,by simp[StL.close],fun hc=>by simp[StL.close] at hc,fun _=>rfl⟩
  ·show fh σ.n σ.was
   rw[hw];exact h.good.map
  ·show σ.was=kD σ.n (bT C [])
   rw[hw];rfl
theorem wU{σ:StL}{o:Bool}(h:σ.state o=0):σ.dead=false∧σ.open_=o:=by
 unfold StL.state at h;cases hd:σ.dead
 ·rw[hd] at h
  simp only[N0,PR] at h;split at h
  ·exact⟨rfl,by assumption⟩
  ·exact absurd h Z
 ·rw[hd] at h;simp at h
theorem xj{K:Nat}{σ:StL}{fr:List (List WrL)}{C:Nat→Bytes}(h:ce K σ fr C)(i:Int)(s:Bytes):ce K (σ.write i s).1 fr C:=by
 unfold StL.write;split
 ·exact h
 ·rename_i hs
  obtain⟨_,ho⟩:=wU (by simpa using hs:σ.state true=0)
  split
  ·exact h
  ·rename_i hd
   split
   ·exact h
   ·split
    ·exact h
    ·rename_i hl
     have hi:(ak σ.n:Int)≤i∧i<σ.n:=by simpa[StL.cP] using hd
     rcases Nk h ho [(i.toNat,s)] (fun w hw=>by
      rw[M3] at hw;subst hw;exact⟨by simp only[ak] at hi ⊢;omega,by simp only;omega,by simpa using hl⟩) σ.ai h.map (by rw[BB h.rise (by simp only;omega)];exact h.now.symm) with e|⟨e1,e2⟩
     ·rw[e];exact h
     ·have:({ (σ.touch [(i.toNat,s)]).1 with ai:=σ.ai }:StL)=(σ.touch [(i.toNat,s)]).1:=by unfold StL.touch;split<;>rfl
      rw[this] at e2;exact e2
theorem zc{K:Nat}{σ:StL}{fr:List (List WrL)}{C:Nat→Bytes}(h:ce K σ fr C)(ho:σ.open_=true)(a c:Nat)(on:Bool)(h1:ak σ.n≤a)(h2:a+c≤σ.n):
  (σ.bh a c on).1=σ∧(σ.bh a c on).2=6∨((σ.bh a c on).2=0∧(σ.bh a c on).1.ai=bF σ.ai a on c∧ce K (σ.bh a c on).1 fr C):=by
 have hm:=h.max;have hp:=jQ σ.n (by have:=h.big;omega)
 have GK:=fun j=>BK σ.ai a c j on (by rw[h.map.len];omega)
 obtain⟨t1,t2⟩:=KP h (bF σ.ai a on c) (jL _ _ _ _);have hf:=jH σ.n h.big hm;have hg:fh σ.n (bF σ.ai a on c):=by
  refine⟨by rw[jL];exact h.map.len,fun i hi=>?_,fun i hi=>?_⟩
  ·rw[GK,η U];exact h.map.low i hi
  ·rw[GK,η U];exact h.map.high i hi
 unfold StL.bh;rcases Nk h ho _ (fun w hw=>⟨(t2 w hw).1,by have:=(t2 w hw).2.1;omega,(t2 w hw).2.2⟩) _ hg t1 with e|⟨e1,e2⟩
 ·left;rw[e];exact⟨rfl,rfl⟩
 ·right
  rw[η (by rw[e1];simp)]
  exact⟨rfl,rfl,e2⟩
namespace af
def Free(d:af):Prop:=d.b9 = -1∧d.dead=false
theorem BM{d:af}(h:d.Free):d.bh.Free:=by
 have:d.b9≠0:=by rw[h.1];decide
 unfold bh;rw[η this];exact⟨by simp only[h.1];decide,h.2⟩
theorem KR{d:af}(h:d.Free)(i:Int)(s:Bytes):(d.write i s).1.Free:=by
 unfold write;split
 ·exact h
 ·split
  ·exact h
  ·split
   ·exact BM h
   ·exact BM h
theorem UC{d:af}(h:d.Free):d.bu.1.Free:=by
 unfold bu;split
 ·exact h
 ·split
  ·exact BM h
  ·exact BM h
theorem iu(ws:List WrL):∀{d:af},d.Free→(d.writes ws).1.Free:=by
 induction ws with
 | nil=>intro d h;exact h
 | cons w ws ih =>
  intro d h;rw[writes];split
  ·exact ih (KR h _ _)
  ·exact KR h _ _
theorem du{d:af}(h:d.Free)(ws:List WrL):(d.lays ws).1.Free:=by
 unfold lays;split
 ·exact UC (iu ws h)
 ·exact iu ws h
end af
namespace JL
theorem Nl{j:JL}(h:j.d.Free):j.cC.1.d.Free:=by
 unfold cC cT cM;split
 ·exact af.du h _
 ·split
  ·exact af.du (af.du h _) _
  ·exact af.du (af.du h _) _
theorem Qf{j:JL}(h:j.d.Free)(ws:List WrL):(j.com ws).1.d.Free:=by
 unfold com eV cH co;split
 ·exact af.du h _
 ·split
  ·exact af.du (af.du h _) _
  ·exact af.iu _ (af.du (af.du h _) _)
theorem fX{j:JL}(h:j.d.Free)(ws:List WrL):(j.bj ws).1.d.Free:=by
 unfold bj;split
 ·split
  ·exact Nl h
  ·exact Qf (Nl h) ws
 ·exact Qf h ws
theorem ma(m:Nat):∀(j:JL),(cX m j).1.d.l.length=j.d.l.length:=by
 induction m with
 | zero=>intro j;rfl
 | succ m ih =>
  intro j;rw[cX];cases j.frame with
  | none=>rfl
  | some ws =>
   simp only[];split
   ·rw[ih];exact af.gm _ _
   ·exact af.gm _ _
end JL
theorem F7(d:af):(aL d).1.d.l.length=d.l.length:=by
 unfold aL;split
 ·rfl
 ·split
  ·rfl
  ·split
   ·rw[JL.j9,JL.ma]
   ·exact JL.ma _ _
theorem sL{n:Nat}{b:Bytes}(h:fh n b)(c a:Nat)(hc:1≤c)(hn:n≤8*b.length)(he:fK b c n=some a):ak n≤a∧a+c≤n∧∀j,a≤j→j<a+c→bit b j=false:=by
 obtain⟨h1,h2,_⟩:=Es b c n a he;have hf:∀j,a≤j→j<a+c→bit b j=false:=fun j DZ qF=>Ni b (a+c) j (by rw[h1];omega) qF
 refine⟨?_,h2,hf⟩;rcases adl a (ak n) with ay|hge
 ·have:=h.low a ay
  rw[hf a (Ω _) U] at this;exact absurd this Z
 ·exact hge
theorem ce.bits{K:Nat}{σ:StL}{fr:List (List WrL)}{C:Nat→Bytes}(h:ce K σ fr C):σ.n≤8*σ.ai.length:=by
 have:=jQ σ.n (by have:=h.big;omega)
 rw[h.map.len];omega
theorem Bi{n:Nat}{C:Nat→Bytes}{tx:List WrL}{b:Bytes}(hC:uG n C)(hb:fh n b)(hm:b=kD n (bT C tx))(ht:∀w∈tx,63≤w.1):uG n (bT C tx):=by
 refine⟨?_,by rw[←hm];exact hb⟩
 unfold bT;rw[dM _ _ _ (fun w hw e=>by have:=ht w hw;omega)]
 exact hC.title
theorem UD{K:Nat}{σ:StL}{fr:List (List WrL)}{C:Nat→Bytes}(h:ce K σ fr C)(hK:K+4<18446744073709551616):
  ((σ.bj).2=0∧(∃fr' ,ce (K+2) σ.bj.1 fr' (bT C σ.tx))∧σ.bj.1.open_=false∧σ.state true=0∧σ.bj.1.ai=σ.ai) ∨
  ((σ.bj).2=15∧σ.bj.1=σ∧σ.open_=false) ∨
  ((σ.bj).2=4∧σ.bj.1.dead=true∧σ.bj.1.j.d.Ok∧σ.bj.1.n=σ.n∧uG σ.n (bT C σ.tx)∧¬σ.j.d.Free∧Safe 60 (K+2) σ.bj.1.j.d (fun D=>D=C∨D=bT C σ.tx)):=by
 have dS:σ.dead=false:=h.inv.live;unfold StL.bj;cases ho:σ.open_ with
 | false =>
  right;left;have e:σ.state true=15:=by
   unfold StL.state;rw[dS,ho];rfl
  rw[Φ (by rw[e];decide)]
  exact⟨e,rfl,rfl⟩
 | true =>
  have e:σ.state true=0:=by unfold StL.state;rw[dS,ho];rfl
  rw[η (by rw[e];simp)]
  have vI:=Bi h.good h.map h.now (fun w hw=>(h.ie w hw).1)
  by_cases ht:σ.tx=[]
  ·rw[Φ ht]
   left;refine⟨rfl,⟨fr,?_⟩,rfl,e,rfl⟩;have hu:bT C σ.tx=C:=by rw[ht];rfl
   have hn:=h.now;rw[hu] at vI hn ⊢;exact⟨h.inv.mono U,h.big,h.good,h.map,hn,List.Pairwise.nil,fun w hw=>by simp[StL.close] at hw,by simp[StL.close],fun hc=>by simp[StL.close] at hc,fun _=>rfl⟩
  ·rw[η ht]
   have hm:=h.max;have hw:sS σ.tx:=⟨by have:=Wc.2 ht;omega,h.short,fun w hw=>by have:=h.ie w hw;exact⟨U,this.2.2⟩⟩
   have hh:∀w∈σ.tx,2+60≤w.1∧w.1<σ.j.d.l.length:=fun w hw=>by have:=h.ie w hw;exact⟨U,this.2.1⟩
   rcases Al h.inv σ.tx hw hh hK with ⟨a,fr',b⟩|⟨a,b,c,d⟩
   ·rw[Φ a]
    left;have hn:(σ.j.bj σ.tx).1.d.l.length=σ.n:=JL.fw _ _;refine⟨rfl,⟨fr',?_⟩,rfl,e,rfl⟩;refine⟨b,?_,?_,?_,?_,List.Pairwise.nil,fun w hw=>by simp[StL.close] at hw,by simp[StL.close],fun hc=>by simp[StL.close] at hc,fun _=>rfl⟩
    ·show 128≤(σ.j.bj σ.tx).1.d.l.length
     rw[hn];exact h.big
    ·show uG (σ.j.bj σ.tx).1.d.l.length _
     rw[hn];exact vI
    ·show fh (σ.j.bj σ.tx).1.d.l.length σ.ai
     rw[hn];exact h.map
    ·show σ.ai=kD (σ.j.bj σ.tx).1.d.l.length (bT (bT C σ.tx) [])
     rw[hn];exact h.now
   ·rw[η (by rw[a];decide)]
    right;right;refine⟨a,b,c,JL.fw _ _,vI,fun hf=>?_,d⟩
    have:=(JL.fX hf σ.tx).2;rw[b] at this;exact absurd this Z
def mapD(d:af):Bytes:=((List.range (aD d.l.length)).map fun i=>d.get (63+i)).flatten
theorem JO(b:Bytes)(k:Nat)(h:∀i,i<k→bit b i=true):cnt b k=0:=by
 induction k with
 | zero=>rfl
 | succ k ih=>rw[cnt,ih (fun i hi=>h i U),h k U];rfl
theorem Cp(b:Bytes)(n k:Nat)(h:∀i,n≤i→bit b i=false):cnt b (n+k)=cnt b n+k:=by
 induction k with
 | zero=>rfl
 | succ k ih=>rw[←P0,cnt,ih,h (n+k) U];simp;omega
def cZ(log:Nat):List WrL:=(List.range (log+1)).map (fun i=>(i+1,ag))++[(0,aQ ⟨1,1,log,0⟩)]
def aO(d:af)(log:Nat):af×Int:=d.lays (cZ log)
def iX(n:Nat):Bytes:=bF (bg (256*aD n)) 0 true (ak n)
def bE(n:Nat):List WrL:=(62,jv n)::(List.range (aD n)).map fun i=>(63+i,aG (iX n) i)
def fH(d:af):af×Int :=
 if d.l.length<128 then(d,2) else if (aO d 60).2≠0 then aO d 60 else
 if (aL (aO d 60).1).2≠0 then((aL (aO d 60).1).1.d,(aL (aO d 60).1).2) else
 (((aL (aO d 60).1).1.bj (bE d.l.length)).1.d,((aL (aO d 60).1).1.bj (bE d.l.length)).2)
theorem wV(n:Nat)(h:128≤n)(hm:n≤4096):fh n (iX n):=by
 have hp:=jQ n U;have hf:=jH n h hm;have hz:∀i,bit (bg (256*aD n)) i=false:=fun i=>by
  unfold bit bg;rw[Θ,Tb];split<;>simp
 have hb:=fun j=>BK (bg (256*aD n)) 0 (ak n) j true (by rw[fC];omega)
 refine⟨by unfold iX;rw[jL,fC],fun i hi=>?_,fun i hi=>?_⟩
 ·unfold iX;rw[hb,Φ U]
 ·unfold iX;rw[hb,η U,hz]
theorem yK(n:Nat)(h:128≤n)(hm:n≤4096)(C:Nat→Bytes):kD n (bT C (bE n))=iX n∧bT C (bE n) 62=jv n∧(∀w∈bE n,62≤w.1∧w.1<n∧w.2.length=256)∧(bE n).length≤3:=by
 have hf:=jH n h hm;have hb:=(wV n h hm).len;have eF:∀w∈bE n,w=(62,jv n)∨∃i,i<aD n∧w=(63+i,aG (iX n) i):=fun w hw=>by
  rcases NL.1 hw with rfl|hw
  ·exact .inl rfl
  ·obtain⟨i,hi,rfl⟩:=NF.1 hw
   exact .inr ⟨i,Sa.1 hi,rfl⟩
 refine⟨?_,?_,fun w hw=>?_,?_⟩
 ·have e:kD n (bT C (bE n))=((List.range (aD n)).map (aG (iX n))).flatten:=by
   unfold kD;congr 1;refine P4 (fun i hi=>?_)
   unfold bT;refine uz (bE n) (63+i,aG (iX n) i) _ (M1 _ (NF.2 ⟨i,hi,rfl⟩)) (fun x hx e=>?_)
   rcases eF x hx with rfl|⟨i2,_,rfl⟩
   ·simp only at e;omega
   ·simp only at e;rw[show i2=i by omega]
  rw[e];exact KN _ _ hb
 ·unfold bT
  refine uz (bE n) (62,jv n) _ (Nm ..) (fun x hx e=>?_)
  rcases eF x hx with rfl|⟨i2,_,rfl⟩
  ·rfl
  ·simp only at e;omega
 ·rcases eF w hw with rfl|⟨i,hi,rfl⟩
  ·exact⟨Ω _,by simp only;omega,Fe n⟩
  ·refine⟨by simp only;omega,by simp only[ak] at hf ⊢;omega,?_⟩
   show(aG (iX n) i).length=256;unfold aG;rw[Mz,MM,hb];omega
 ·simp only[bE,Mu,OK,Wb];omega
theorem Ao(n:Nat)(h:128≤n)(hm:n≤4096):
  (aO (af.new n) 60).2=0∧(aO (af.new n) 60).1.l.length=n∧(aO (af.new n) 60).1.p=[]∧(aO (af.new n) 60).1.Ok∧(aL (aO (af.new n) 60).1).2=0∧JInv 60 2 (aL (aO (af.new n) 60).1).1 [] (fun _=>ag)∧(aL (aO (af.new n) 60).1).1.d.l.length=n∧(aL (aO (af.new n) 60).1).1.d.Free:=by
 have hl:(af.new n).l.length=n:=Of;have bQ:=af.lB n U hm;have hfree:(af.new n).Free:=⟨rfl,rfl⟩;have hw:∀w∈cZ 60,w.1<(af.new n).l.length∧w.2.length=256:=fun w hw=>by
  rw[hl];rcases No.1 hw with hw|hw
  ·obtain⟨i,hi,rfl⟩:=NF.1 hw
   have:=Sa.1 hi;exact⟨by simp only;omega,jk⟩
  ·rw[M3] at hw;subst hw
   exact⟨by simp only;omega,gB _⟩
 obtain⟨a,b,c,e⟩:(aO (af.new n) 60).2=0∧(aO (af.new n) 60).1.dead=false∧(aO (af.new n) 60).1.l=iw (af.new n).l ((af.new n).p++cZ 60)∧(aO (af.new n) 60).1.p=[]:=by
  rcases af.gS (cZ 60) (af.new n) rfl hw with h1|⟨_,h2,_⟩
  ·exact h1
  ·exfalso
   have:=(af.du hfree (cZ 60)).2;rw[h2] at this;exact absurd this Z
 have Ck:(aO (af.new n) 60).1.Free:=af.du hfree _;have zw:(aO (af.new n) 60).1.l.length=n:=by rw[c,lY,hl]
 have nM:∀i,i<n→at' (af.new n).l i=ag:=fun i hi=>by
  simp only[af.new,at',Θ,Tb,Φ hi,aag]
 have hg:∀i,i<n→at' (aO (af.new n) 60).1.l i=if i=0 then aQ ⟨1,1,60,0⟩ else ag:=fun i hi=>by
  rw[c,DI _ _ _ (by rw[hl];exact hi),nM i hi]
  show bH ([]++cZ 60) i ag=_;rw[Pr];unfold cZ;rw[uo];by_cases h0:i=0
  ·rw[Φ h0,Φ h0.symm]
  ·rw[η h0,η (abH h0)]
   by_cases hx:∃w∈(List.range (60+1)).map (fun i=>(i+1,ag)),w.1=i
   ·obtain⟨w,hw,_,e⟩:=sQ _ i ag hx
    obtain⟨m,_,rfl⟩:=NF.1 hw;exact e
   ·exact dM _ _ _ (fun w hw e=>hx ⟨w,hw,e⟩)
 have ig:(⟨1,1,60,0⟩:bw).Ok:=⟨Z,Z,Z,Z⟩;have hrec:fe (aO (af.new n) 60).1.l ⟨1,1,60,0⟩ 0 [] (fun _=>ag):=by
  refine⟨by rw[zw];exact hm,(af.dj bQ _).l,Z,by rw[zw];show 60+3≤n;omega,Z,Z,Z,Z,?_,?_,⟨Z,?_⟩,fun i h1 h2=>?_⟩
  ·rw[hg 0 U,Φ rfl]
  ·refine io.other ?_ ⟨Z,Z,Z,Z⟩ Z
   rw[hg _ U,η Z];exact .inl rfl
  ·rw[show cS ⟨1,1,60,0⟩ 0=2 from rfl,hg 2 U,η Z]
   exact Db
  ·rw[zw] at h2
   show at' _ i=_;rw[hg i h2,η (by have:2+60≤i:=h1;omega)]
 have nN:jZ 60 1 (aO (af.new n) 60).1 ⟨1,1,60,0⟩ 0 [] (fun _=>ag) :=
  ⟨af.dj bQ _,b,hrec,rfl,Z,Z,fun w hw=>by rw[e] at hw;simp at hw⟩
 obtain⟨o1,o2,o3,o4⟩:(aL (aO (af.new n) 60).1).2=0∧JInv 60 2 (aL (aO (af.new n) 60).1).1 [] (fun _=>ag)∧(aL (aO (af.new n) 60).1).1.d.p=[]∧(aL (aO (af.new n) 60).1).1.d.b9 = -1:=by
  rcases AP nN Z with ⟨x1,x2,x3,x4⟩|⟨_,_,_,_,x5⟩
  ·exact⟨x1,x2,x3,x4 Ck.1⟩
  ·exact absurd Ck.1 x5
 have xU:(aL (aO (af.new n) 60).1).1.d.l.length=n:=by rw[F7,zw]
 exact⟨a,zw,e,af.dj bQ _,o1,o2,xU,⟨o4,o2.live⟩⟩
theorem KS(n:Nat)(h:128≤n)(hm:n≤4096):
  (fH (af.new n)).2=0∧(fH (af.new n)).1.Free∧(fH (af.new n)).1.l.length=n∧∃s k fr C,jZ 60 4 (fH (af.new n)).1 s k fr C∧uG n C:=by
 have hl:(af.new n).l.length=n:=Of;obtain⟨a,zw,_,_,o1,o2,xU,Fp⟩:=Ao n h hm;obtain⟨t1,t2,t3,t4⟩:=yK n h hm (fun _=>ag)
 have hwo:sS (bE n):=⟨by simp[bE],U,fun w hw=>by have:=t3 w hw;exact⟨U,this.2.2⟩⟩
 obtain⟨q1,fr,q2⟩:((aL (aO (af.new n) 60).1).1.bj (bE n)).2=0∧∃fr',JInv 60 4 ((aL (aO (af.new n) 60).1).1.bj (bE n)).1 fr' (bT (fun _=>ag) (bE n)):=by
  rcases Al o2 (bE n) hwo (fun w hw=>by rw[xU];have:=t3 w hw;exact⟨U,this.2.1⟩) Z with x|⟨_,x,_⟩
  ·exact x
  ·exfalso
   have:=(JL.fX Fp (bE n)).2;rw[x] at this;exact absurd this Z
 have rF:fH (af.new n)=(((aL (aO (af.new n) 60).1).1.bj (bE n)).1.d,0):=by
  unfold fH;rw[η (by rw[hl];omega),η (by rw[a];simp),η (by rw[o1];simp),hl,q1]
 rw[rF];refine⟨rfl,JL.fX Fp _,by rw[JL.fw,xU],_,_,fr,_,q2.toJPre.open,?_⟩
 exact⟨t2,by rw[t1];exact wV n h hm⟩
theorem WC(n:Nat)(h:128≤n)(hm:n≤4096):jZ 60 1 (aO (af.new n) 60).1 ⟨1,1,60,0⟩ 0 [] (fun _=>ag):=by
 have hl:(af.new n).l.length=n:=Of;have bQ:=af.lB n U hm;have hfree:(af.new n).Free:=⟨rfl,rfl⟩;have hw:∀w∈cZ 60,w.1<(af.new n).l.length∧w.2.length=256:=fun w hw=>by
  rw[hl];rcases No.1 hw with hw|hw
  ·obtain⟨i,hi,rfl⟩:=NF.1 hw
   have:=Sa.1 hi;exact⟨by simp only;omega,jk⟩
  ·rw[M3] at hw;subst hw
   exact⟨by simp only;omega,gB _⟩
 obtain⟨a,b,c,e⟩:(aO (af.new n) 60).2=0∧(aO (af.new n) 60).1.dead=false∧(aO (af.new n) 60).1.l=iw (af.new n).l ((af.new n).p++cZ 60)∧(aO (af.new n) 60).1.p=[]:=by
  rcases af.gS (cZ 60) (af.new n) rfl hw with h1|⟨_,h2,_⟩
  ·exact h1
  ·exfalso
   have:=(af.du hfree (cZ 60)).2;rw[h2] at this;exact absurd this Z
 have Ck:(aO (af.new n) 60).1.Free:=af.du hfree _;have zw:(aO (af.new n) 60).1.l.length=n:=by rw[c,lY,hl]
 have nM:∀i,i<n→at' (af.new n).l i=ag:=fun i hi=>by
  simp only[af.new,at',Θ,Tb,Φ hi,aag]
 have hg:∀i,i<n→at' (aO (af.new n) 60).1.l i=if i=0 then aQ ⟨1,1,60,0⟩ else ag:=fun i hi=>by
  rw[c,DI _ _ _ (by rw[hl];exact hi),nM i hi]
  show bH ([]++cZ 60) i ag=_;rw[Pr];unfold cZ;rw[uo];by_cases h0:i=0
  ·rw[Φ h0,Φ h0.symm]
  ·rw[η h0,η (abH h0)]
   by_cases hx:∃w∈(List.range (60+1)).map (fun i=>(i+1,ag)),w.1=i
   ·obtain⟨w,hw,_,e⟩:=sQ _ i ag hx
    obtain⟨m,_,rfl⟩:=NF.1 hw;exact e
   ·exact dM _ _ _ (fun w hw e=>hx ⟨w,hw,e⟩)
 have ig:(⟨1,1,60,0⟩:bw).Ok:=⟨Z,Z,Z,Z⟩;have hrec:fe (aO (af.new n) 60).1.l ⟨1,1,60,0⟩ 0 [] (fun _=>ag):=by
  refine⟨by rw[zw];exact hm,(af.dj bQ _).l,Z,by rw[zw];show 60+3≤n;omega,Z,Z,Z,Z,?_,?_,⟨Z,?_⟩,fun i h1 h2=>?_⟩
  ·rw[hg 0 U,Φ rfl]
  ·refine io.other ?_ ⟨Z,Z,Z,Z⟩ Z
   rw[hg _ U,η Z];exact .inl rfl
  ·rw[show cS ⟨1,1,60,0⟩ 0=2 from rfl,hg 2 U,η Z]
   exact Db
  ·rw[zw] at h2
   show at' _ i=_;rw[hg i h2,η (by have:2+60≤i:=h1;omega)]
 have nN:jZ 60 1 (aO (af.new n) 60).1 ⟨1,1,60,0⟩ 0 [] (fun _=>ag) :=
  ⟨af.dj bQ _,b,hrec,rfl,Z,Z,fun w hw=>by rw[e] at hw;simp at hw⟩
 exact nN
theorem Dg(n:Nat)(h:128≤n)(hm:n≤4096):
  (fH (af.new n)).2=0∧(fH (af.new n)).1.Free∧(fH (af.new n)).1.l.length=n∧(fH (af.new n)).1.Ok∧(∃s k fr,jZ 60 4 (fH (af.new n)).1 s k fr (bT (fun _=>ag) (bE n)))∧uG n (bT (fun _=>ag) (bE n))∧kD n (bT (fun _=>ag) (bE n))=iX n∧(fH (af.new n)).1.p.length≤48:=by
 have hl:(af.new n).l.length=n:=Of;obtain⟨a,zw,_,_,o1,o2,xU,Fp⟩:=Ao n h hm;obtain⟨t1,t2,t3,t4⟩:=yK n h hm (fun _=>ag)
 have hwo:sS (bE n):=⟨by simp[bE],U,fun w hw=>by have:=t3 w hw;exact⟨U,this.2.2⟩⟩
 obtain⟨q1,fr,q2⟩:((aL (aO (af.new n) 60).1).1.bj (bE n)).2=0∧∃fr',JInv 60 4 ((aL (aO (af.new n) 60).1).1.bj (bE n)).1 fr' (bT (fun _=>ag) (bE n)):=by
  rcases Al o2 (bE n) hwo (fun w hw=>by rw[xU];have:=t3 w hw;exact⟨U,this.2.1⟩) Z with x|⟨_,x,_⟩
  ·exact x
  ·exfalso
   have:=(JL.fX Fp (bE n)).2;rw[x] at this;exact absurd this Z
 have rF:fH (af.new n)=(((aL (aO (af.new n) 60).1).1.bj (bE n)).1.d,0):=by
  unfold fH;rw[η (by rw[hl];omega),η (by rw[a];simp),η (by rw[o1];simp),hl,q1]
 rw[rF];exact⟨rfl,JL.fX Fp _,by rw[JL.fw,xU],q2.ok,⟨_,_,fr,q2.toJPre.open⟩,⟨t2,by rw[t1];exact wV n h hm⟩,t1,q2.eK⟩
def lO(n:Nat)(b:Bytes)(f:Nat→Bytes):Bytes :=
 ((List.range n).filter fun k=>decide (ak n≤k)&&bit b k).flatMap fun k=>UInt8.ofNat (k%256)::UInt8.ofNat (k / 256%256)::f k
def StL.tell(σ:StL):Bytes:=lO σ.n σ.ai σ.get
def F0(n:Nat)(C:Nat→Bytes):Bytes:=lO n (kD n C) C
theorem ut{n:Nat}{b:Bytes}{f g:Nat→Bytes}(h:∀k,ak n≤k→k<n→f k=g k):lO n b f=lO n b g:=by
 unfold lO;rw[adS,adS];have hm:∀k∈(List.range n).filter (fun k=>decide (ak n≤k)&&bit b k),f k=g k:=fun k hk=>by
  obtain⟨h1,h2⟩:=QP.1 hk;have h3:=Sa.1 h1;simp only[abz,Up] at h2;exact h k h2.1 h3
 generalize (List.range n).filter (fun k=>decide (ak n≤k)&&bit b k)=l at *
 generalize ([]:Bytes)=acc;induction l generalizing acc with
 | nil=>rfl
 | cons k l ih =>
  rw[Ty,Ty,hm k (Nm ..)];exact ih (fun x hx=>hm x (M1 _ hx)) _
theorem ce.tell{K:Nat}{σ:StL}{fr:List (List WrL)}{C:Nat→Bytes}(h:ce K σ fr C):σ.tell=F0 σ.n (bT C σ.tx):=by
 unfold StL.tell F0;rw[←h.now];exact ut (fun k h1 h2=>h.get k (by unfold ak at h1;omega) h2)
theorem WE(σ:StL):σ.abort.open_=false:=by
 unfold StL.abort;cases h:σ.open_ with
 | true=>rfl
 | false=>rw[η Z];exact h
theorem Hb(σ:StL):σ.abort.n=σ.n:=by
 unfold StL.abort;split<;>rfl
theorem zE(σ:StL):σ.bj.1.n=σ.n:=by
 unfold StL.bj;split
 ·rfl
 ·split
  ·rfl
  ·split
   ·exact JL.fw _ _
   ·exact JL.fw _ _
def dR(b:Bytes)(lo:Nat):Nat→List (Nat×Nat)
 | 0=>[]
 | k+1 =>
  if bit b (lo+k) then
   (match (dR b lo k).getLast? with
   | some r=>if r.1+r.2=lo+k then(dR b lo k).dropLast++[(r.1,r.2+1)] else dR b lo k++[(lo+k,1)]
   | none=>[(lo+k,1)])
  else dR b lo k
theorem rj(b:Bytes)(lo k:Nat):(dR b lo k).flatMap (fun r=>List.range' r.1 r.2)=(List.range' lo k).filter (fun i=>bit b i):=by
 induction k with
 | zero=>rfl
 | succ k ih =>
  rw[abA,abW,←ih,dR];cases hb:bit b (lo+k) with
  | false=>simp[hb]
  | true =>
   simp only[QQ];cases hl:(dR b lo k).getLast? with
   | none =>
    have:dR b lo k=[]:=Z2.1 hl;simp[this,hb]
   | some r =>
    obtain⟨ys,RG⟩:=abQ.1 hl;simp only[];split
    ·rename_i he
     have hu:dR b lo k=(dR b lo k).dropLast++[r]:=by
      rw[RG,W4]
     conv=>rhs;rw[hu]
     rw[Sp,Sp,MY];congr 1;simp only[OR,V1,ON,ach,hb,QQ,List.filter_nil];rw[abA,he]
    ·simp[Sp,hb]
theorem BN(b:Bytes)(lo k:Nat):∀r∈dR b lo k,1≤r.2∧r.1+r.2≤lo+k∧lo≤r.1∧bit b (r.1+r.2-1)=true:=by
 induction k with
 | zero=>intro r h;simp[dR] at h
 | succ k ih =>
  intro r h;rw[dR] at h;cases hb:bit b (lo+k) with
  | false =>
   rw[hb] at h;simp only[N0,PR] at h;obtain⟨h1,h2,h3,h4⟩:=ih r h;exact⟨h1,U,h3,h4⟩
  | true =>
   rw[hb] at h;simp only[QQ] at h;cases hl:(dR b lo k).getLast? with
   | none =>
    rw[hl] at h;simp only[M3] at h;subst h;exact⟨U,by simp only;omega,by simp only;omega,by simp only[aan];exact hb⟩
   | some q =>
    rw[hl] at h;simp only[] at h;have hq:=ih q (acz hl);split at h
    ·rename_i he
     rcases No.1 h with h|h
     ·obtain⟨h1,h2,h3,h4⟩:=ih r (adW _ h)
      exact⟨h1,U,h3,h4⟩
     ·simp only[M3] at h
      subst h;refine⟨by simp only;omega,by simp only;omega,hq.2.2.1,?_⟩
      show bit b (q.1+(q.2+1)-1)=true;rw[show q.1+(q.2+1)-1=lo+k by omega];exact hb
    ·rcases No.1 h with h|h
     ·obtain⟨h1,h2,h3,h4⟩:=ih r h
      exact⟨h1,U,h3,h4⟩
     ·simp only[M3] at h
      subst h;exact⟨U,by simp only;omega,by simp only;omega,by simp only[aan];exact hb⟩
theorem yf(b:Bytes)(lo m t:Nat)(h:∀i,i<t→bit b (lo+m+i)=false):dR b lo (m+t)=dR b lo m:=by
 induction t with
 | zero=>rfl
 | succ t ih =>
  rw[←P0,dR,←P0,h t U,η Z];exact ih (fun i hi=>h i U)
theorem Qg(b:Bytes)(lo m t:Nat)(ht:0<t)(h:∀i,i<t→bit b (lo+m+i)=true)(hm:m=0∨bit b (lo+m-1)=false):dR b lo (m+t)=dR b lo m++[(lo+m,t)]:=by
 induction t with
 | zero=>omega
 | succ t ih =>
  rw[←P0,dR,←P0,h t U,Φ rfl];rcases UX t with rfl|htp
  ·rw[V0]
   cases hl:(dR b lo m).getLast? with
   | none =>
    rw[Z2.1 hl];rfl
   | some q =>
    obtain⟨q1,q2,q3,q4⟩:=BN b lo m q (acz hl);simp only[];rw[η]
    ·rfl
    ·intro he
     rcases hm with rfl|hm
     ·simp[dR] at hl
     ·rw[he,V0] at q4
      rw[q4] at hm;exact absurd hm Z
  ·rw[ih htp (fun i hi=>h i U),acA]
   simp only[ab1,adT,W4];rw[Φ trivial]
def nG(st:List (Nat×Nat)×Nat)(r:Nat×Nat):List (Nat×Nat)×Nat:=(if st.2<r.1 then st.1++[(st.2,r.1-st.2)] else st.1,r.1+r.2)
theorem yk(b:Bytes)(lo k:Nat)(lq:∀i,i<lo→bit b i=true)(hk:lo≤k):
  ∃at_,(aK b k).foldl nG ([],lo)=(dR b lo (at_-lo),at_)∧lo≤at_∧at_≤k∧(∀i,at_≤i→i<k→bit b i=true)∧(at_=lo∨bit b (at_-1)=false)∧(lo<k→bit b (k-1)=false→at_=k):=by
 obtain⟨d,rfl⟩:∃d,k=lo+d:=⟨k-lo,U⟩;clear hk;have h0:∀j,j≤lo→aK b j=[]:=fun j hj=>by
  induction j with
  | zero=>rfl
  | succ j ih=>rw[aK,lq j U,Φ rfl];exact ih U
 induction d with
 | zero=>exact⟨lo,by rw[V0,h0 lo (Ω _),abu];rfl,Ω _,U,fun i h1 h2=>U,.inl rfl,fun h=>U⟩
 | succ d ih =>
  obtain⟨a,e,h1,h2,h3,h4,h5⟩:=ih;rw[←P0];cases hb:bit b (lo+d) with
  | true =>
   refine⟨a,by rw[yZ b _ hb];exact e,h1,U,fun i qG zq=>?_,h4,fun _ hc=>?_⟩
   ·by_cases hi:i=lo+d
    ·rw[hi];exact hb
    ·exact h3 i qG U
   ·rw[aan,hb] at hc;exact absurd hc Z
  | false =>
   refine⟨lo+d+1,?_,U,Ω _,fun i qG zq=>U,.inr (by rw[aan];exact hb),fun _ _=>rfl⟩
   rw[aK,hb,η Z];have Im:dR b lo (d+1)=dR b lo d:=yf b lo d 1 (fun i hi=>by rw[show lo+d+i=lo+d by omega];exact hb)
   rw[show lo+d+1-lo=d+1 by omega,Im]
   by_cases hc:0<lo+d∧bit b (lo+d-1)=false
   ·rw[Φ hc]
    have hd:0<d:=by
     rcases UX d with rfl|hd
     ·have:=lq (lo-1) U
      rw[V0] at hc;rw[this] at hc;exact absurd hc.2 Z
     ·exact hd
    obtain rfl:=h5 U hc.2;have aU:aK b (lo+d)≠[]:=fun hn=>by
     rw[hn] at e;simp only[ab0,SD] at e;omega
    obtain⟨rs,r,kS⟩:∃rs r,aK b (lo+d)=rs++[r]:=⟨_,_,(acX aU).symm⟩;rw[kS] at e ⊢;rw[sV,W5];rw[W5] at e;simp only[Ty,ab0,nG,SD] at e ⊢;rw[show lo+d-lo=d by omega] at e
    exact⟨e.1,U⟩
   ·rw[η hc,W5,e]
    simp only[Ty,ab0,nG,SD];refine⟨?_,trivial⟩;by_cases ha:a<lo+d
    ·rw[Φ ha]
     have:=Qg b lo (a-lo) (lo+d-a) U (fun i hi=>h3 _ U U) (by
      rcases h4 with h4|h4
      ·exact .inl U
      ·exact .inr (by rw[show lo+(a-lo)-1=a-1 by omega];exact h4))
     rw[show a-lo+(lo+d-a)=d by omega,show lo+(a-lo)=a by omega] at this
     exact this.symm
    ·rw[η ha,show a-lo=d by omega]
def mW(b:Bytes)(lo n:Nat):List (Nat×Nat):=((aK b n++[(n,0)]).foldl nG ([],lo)).1
theorem yC(b:Bytes)(lo n:Nat)(lq:∀i,i<lo→bit b i=true)(hk:lo≤n):mW b lo n=dR b lo (n-lo):=by
 obtain⟨a,e,h1,h2,h3,h4,_⟩:=yk b lo n lq hk;unfold mW;rw[W5,e];simp only[Ty,ab0,nG];by_cases ha:a<n
 ·rw[Φ ha]
  have:=Qg b lo (a-lo) (n-a) U (fun i hi=>h3 _ U U) (by
   rcases h4 with h4|h4
   ·exact .inl U
   ·exact .inr (by rw[show lo+(a-lo)-1=a-1 by omega];exact h4))
  rw[show a-lo+(n-a)=n-lo by omega,show lo+(a-lo)=a by omega] at this
  exact this.symm
 ·rw[η ha,show a-lo=n-lo by omega]
theorem WG(b:Bytes)(lo k:Nat):total (dR b lo k)=((List.range' lo k).filter fun i=>bit b i).length:=by
 rw[←rj,total];generalize dR b lo k=l;induction l with
 | nil=>rfl
 | cons r l ih=>rw[On,ad7,ih,OR,Δ,WF]
theorem Qh(b:Bytes)(lo k:Nat)(lq:∀i,i<lo→bit b i=true):((List.range' lo k).filter fun i=>bit b i).length+cnt b (lo+k)=k:=by
 induction k with
 | zero=>rw[V0,JO b lo lq];rfl
 | succ k ih =>
  rw[abA,abW,←P0,cnt,Δ];cases hb:bit b (lo+k) with
  | true=>simp[hb];omega
  | false=>simp[hb];omega
theorem fh.many{n:Nat}{b:Bytes}(h:fh n b)(hn:ak n≤n):total (dR b (ak n) (n-ak n))+cnt b n=n-ak n:=by
 have:=Qh b (ak n) (n-ak n) h.low;rw[show ak n+(n-ak n)=n by omega] at this
 rw[WG];exact this
def lC(c:Int)(n:Nat):Nat:=(if c<0 then -(c+1) else c).toNat%n
theorem Ev(c:Int)(n:Nat)(h:0<n):lC c n<n:=Tr _ h
structure lp where
 op:Int
 at_:Int
 n:Int
 keep:List Bool
 byte:UInt8
def lp.k(a:lp):Nat:=lC a.op 11
def Ge(c:UInt8):Bytes:=List.replicate 256 c
theorem vd(c:UInt8):(Ge c).length=256:=Of
def lp.data(a:lp):Bytes:=if a.n.tmod 31=0∧a.n≠0 then [120] else Ge a.byte
theorem lp.nh(a:lp):a.data.length≤256:=by
 unfold lp.data;split
 ·decide
 ·rw[vd];exact Ω _
def StL.b9(σ:StL)(f:Int):StL:={ σ with j:={ σ.j with d:=σ.j.d.IP f } }
theorem ot(σ:StL):σ.abort.j=σ.j:=by unfold StL.abort;split<;>rfl
def Two(K n:Nat)(d:af)(C D:Nat→Bytes):Prop:=d.Ok∧d.l.length=n∧uG n C∧uG n D∧Safe 60 K d (fun E=>E=C∨E=D)
theorem ce.two{K:Nat}{σ:StL}{fr:List (List WrL)}{C:Nat→Bytes}(h:ce K σ fr C):Two K σ.n σ.j.d C C :=
 ⟨h.inv.ok,rfl,h.good,h.good,h.inv.safe.mono (Ω _) (fun _ h=>.inl h)⟩
theorem Two.mono{K K' n:Nat}{d:af}{C D:Nat→Bytes}(h:Two K n d C D)(hk:K≤K'):Two K' n d C D:=⟨h.1,h.2.1,h.2.2.1,h.2.2.2.1,h.2.2.2.2.mono hk (fun _ h=>h)⟩
theorem WH{K K':Nat}{σ:StL}{fr:List (List WrL)}{C:Nat→Bytes}(h:ce K σ fr C)(hk:K≤K'):ce K' σ fr C :=
 ⟨h.inv.mono hk,h.big,h.good,h.map,h.now,h.rise,h.ie,h.short,h.Dd,h.closed⟩
abbrev aV(d:af):StL:=⟨(aL d).1,mapD (aL d).1.d,[],false,[]⟩
structure fR (j:JL):Prop where
 log:0<j.s.log
 log2:j.s.log≤1000000
 place:j.s.place≤1000000
 used:j.used≤1000000
 e:j.s.e<18446744073709551616
 s:j.s.s<18446744073709551616
 next:j.next<18446744073709551616
 k:j.k≤1
 ok:j.d.Ok
 eK:j.d.dead=false→j.d.p.length≤900000
structure iL (σ:StL):Prop where
 big:128≤σ.n
 max:σ.n≤4096
 map:σ.ai.length=256*aD σ.n
 num:σ.dead=false→fR σ.j∧σ.j.used≤σ.j.s.log∧σ.j.home=62∧(∀w∈σ.tx,63≤w.1∧w.1<σ.n∧w.2.length=256)∧σ.tx.length≤48∧l8 σ.tx∧∀i,i<σ.n→(σ.j.d.get i).length=256
theorem JInv.num{lg K:Nat}{j:JL}{fr:List (List WrL)}{C:Nat→Bytes}(h:JInv lg K j fr C)(hl:lg≤1000)(hK:K<18446744073709551616):fR j:=by
 have h1:=h.hrec.ef;have h2:=h.cG;have h3:=h.hrec.eW;have h4:=h.hrec.hchain.used;have h5:=h.gO;have h6:=h.he;have h7:=h.hnext;have h8:=h.il;have h9:=h.hrec.hk;have RH:=h.eK;exact⟨U,U,U,U,U,U,U,h9,h.ok,fun _=>U⟩
theorem ce.num{K:Nat}{σ:StL}{fr:List (List WrL)}{C:Nat→Bytes}(h:ce K σ fr C)(hK:K<18446744073709551616):iL σ:=by
 refine⟨h.big,h.max,h.map.len,fun _=>⟨h.inv.num U hK,?_,?_,h.ie,h.short,h.rise,fun i hi=>af.gj h.inv.ok i hi⟩⟩
 ·have:=h.inv.hrec.hchain.used;rw[h.inv.gO];omega
 ·unfold JL.home;rw[h.inv.cG]
structure DK (d:af):Prop where
 j0:(aL d).2=0
 num:fR (aL d).1
 live:(aL d).1.d.dead=false
 home:(aL d).1.home=62
 big:128≤d.l.length
 ok:(aL d).1.d.Ok
 title:(aL d).1.d.get 62=jv d.l.length
 low:cnt (mapD (aL d).1.d) (ak d.l.length)=0
 high:cnt (mapD (aL d).1.d) (2048*aD d.l.length)-cnt (mapD (aL d).1.d) d.l.length=2048*aD d.l.length-d.l.length
structure KT (σ:StL):Prop where
 get:(σ.j.bj σ.tx).2=0→∀i,63≤i∧i<σ.n→(σ.j.bj σ.tx).1.d.get i=bH σ.tx i (σ.j.d.get i)
 dead:(σ.j.bj σ.tx).2≠0→(σ.j.bj σ.tx).1.d.dead=true
theorem J0{K:Nat}{σ:StL}{fr:List (List WrL)}{C:Nat→Bytes}(h:ce K σ fr C)(hK:K+4<18446744073709551616)(ht:σ.tx≠[]):KT σ:=by
 have hw:sS σ.tx:=⟨by have:=Wc.2 ht;omega,h.short,fun w hw=>by have:=h.ie w hw;exact⟨by have:=h.max;omega,this.2.2⟩⟩
 have hh:∀w∈σ.tx,2+60≤w.1∧w.1<σ.j.d.l.length:=fun w hw=>by have:=h.ie w hw;exact⟨U,this.2.1⟩
 have hn:(σ.j.bj σ.tx).1.d.l.length=σ.n:=JL.fw _ _;rcases Al h.inv σ.tx hw hh hK with ⟨a,fr',b⟩|⟨a,b,_⟩
 ·refine⟨fun _ i hi=>?_,fun e=>absurd a e⟩
  rw[b.get i U (by rw[hn];exact hi.2),h.inv.get i U hi.2];rfl
 ·exact⟨fun e=>by rw[a] at e;exact absurd e Z,fun _=>b⟩
theorem Ap{K:Nat}{σ:StL}{fr:List (List WrL)}{C:Nat→Bytes}(h:ce K σ fr C)(hK:K+4<18446744073709551616):σ.state true=0→σ.tx≠[]→KT σ:=fun _ ht=>J0 h hK ht
theorem Ga{K:Nat}{d:af}{s:bw}{k:Nat}{fr:List (List WrL)}{C:Nat→Bytes}(h:jZ 60 K d s k fr C)(hg:uG d.l.length C)(hn:128≤d.l.length)(hK:K+3<18446744073709551616)(he:(aL d).2=0):
  DK d∧ce (K+1) ⟨(aL d).1,mapD (aL d).1.d,[],false,[]⟩ [] C∧(⟨(aL d).1,mapD (aL d).1.d,[],false,[]⟩:StL).n=d.l.length:=by
 have hlen:=F7 d;have hm:=h.ok.max;rcases AP h hK with ⟨a,b,c,e⟩|⟨a,_⟩
 ·have hf:=jH d.l.length hn hm
  have hp:=jQ d.l.length U;have MX:mapD (aL d).1.d=kD d.l.length C:=by
   unfold mapD kD;rw[hlen];congr 1;exact P4 (fun i hi=>b.get _ U (by rw[hlen];have:=Sa.1 hi;unfold ak at hf;omega))
  have kT:(⟨(aL d).1,mapD (aL d).1.d,[],false,[]⟩:StL).n=d.l.length:=hlen;refine⟨⟨a,b.num Z U,b.live,by unfold JL.home;rw[b.cG],hn,b.ok,?_,?_,?_⟩,?_,kT⟩
  ·rw[b.get 62 U (by rw[hlen];omega),hg.title]
  ·rw[MX,JO _ _ hg.map.low]
  ·rw[MX]
   have:=Cp (kD d.l.length C) d.l.length (2048*aD d.l.length-d.l.length) hg.map.high;rw[show d.l.length+(2048*aD d.l.length-d.l.length)=2048*aD d.l.length by omega] at this
   omega
  ·exact⟨b,by rw[kT];exact hn,by rw[kT];exact hg,by rw[kT];show fh _ (mapD _);rw[MX];exact hg.map,by rw[kT];exact MX,List.Pairwise.nil,fun w hw=>by simp at hw,κ,fun hc=>by simp at hc,fun _=>rfl⟩
 ·rw[a] at he;exact absurd he Z
theorem Nn{K:Nat}{d:af}{s:bw}{k:Nat}{fr:List (List WrL)}{C:Nat→Bytes}(h:jZ 60 K d s k fr C)(hK:K+3<18446744073709551616):
  (aL d).2=0∨((aL d).2=4∧(aL d).1.d.dead=true∧(aL d).1.d.Ok∧Safe 60 (K+1) (aL d).1.d (·=C)∧d.b9 ≠ -1):=by
 rcases AP h hK with ⟨a,_⟩|⟨a,b⟩
 ·exact .inl a
 ·exact .inr ⟨a,b⟩
abbrev bf(n:Nat):StL:=aV (fH (af.new n)).1
theorem BO(n:Nat)(h:128≤n)(hm:n≤4096):(aL (fH (af.new n)).1).2=0∧DK (fH (af.new n)).1∧ce 5 (bf n) [] (bT (fun _=>ag) (bE n))∧(bf n).n=n∧(bf n).j.d.Free∧(bf n).ai=iX n:=by
 obtain⟨_,hf,hl,bQ,⟨s,k,fr,hp⟩,hg,zx,_⟩:=Dg n h hm;have hz:(aL (fH (af.new n)).1).2=0:=by
  rcases Nn hp Z with e|⟨_,_,_,_,e⟩
  ·exact e
  ·exact absurd hf.1 e
 obtain⟨o1,o2,o3⟩:=Ga hp (by rw[hl];exact hg) (by rw[hl];exact h) Z hz
 have dQ:(bf n).j.d.Free:=by
  rcases AP hp Z with ⟨_,x,_,y⟩|⟨e,_⟩
  ·exact⟨y hf.1,x.live⟩
  ·rw[e] at hz;exact absurd hz Z
 refine⟨hz,o1,o2,by rw[o3,hl],dQ,?_⟩
 have:=o2.now;rw[o3,hl] at this;rw[this];exact zx
end
section
open Go.RowKit
def Sl(w:World)(v:Value)(n size:Nat)(xs:List Value):Prop :=
 xs.length=n*size∧∃a cap,v=.slice a n cap∧(0<n→∃b off,a=some ⟨b,off,none⟩∧∀j u,xs[j]?=some u→w.cell? ⟨b,off+j,none⟩=some u)
theorem Io{w:World}{a:Addr}{u:Value}(h:w.cell? a=some u):a.block<w.heap.size:=World.block_lt_of_cell? w a h
theorem aj{w w':World}(hb:Below w.heap.size w w'){a:Addr}{u:Value}(h:w.cell? a=some u):w'.cell? a=some u :=
 (hb.cell (Io h)).trans h
theorem Sl.stays{w w':World}{v:Value}{n size:Nat}{xs:List Value}(h:Sl w v n size xs)(hb:Below w.heap.size w w'):Sl w' v n size xs:=by
 obtain⟨h1,a,cap,h2,h3⟩:=h;refine⟨h1,a,cap,h2,fun hn=>?_⟩
 obtain⟨b,off,h4,h5⟩:=h3 hn;exact⟨b,off,h4,fun j u hj=>aj hb (h5 j u hj)⟩
theorem Sl.nil(w:World)(size:Nat):Sl w (.slice none 0 0) 0 size []:=⟨κ,none,0,rfl,fun h=>U⟩
theorem Sl.cy{w:World}{base:Nat}{e:TypeId}{size:Nat}{v:Value}{n:Nat}{xs:List Value}(h:w.ownsRow base e size v n xs):Sl w v n size xs:=by
 obtain⟨a,cap,rfl,hs⟩:=aY h;refine⟨h.1,a,cap,rfl,fun hn=>?_⟩
 obtain⟨g,rfl⟩:=hs hn;refine⟨g,0,rfl,fun j u hj=>?_⟩
 have ay:j<n*size:=by rw[←h.1];exact(Pi.1 hj).1
 rw[PF,h.cellAt j ay];exact hj
theorem Sl.lit(w:World)(cs:Array Value)(e:TypeId)(n size:Nat)(h:cs.size=n*size):Sl (w.alloc (.cells cs e)) (.slice (some ⟨w.heap.size,0,none⟩) n n) n size cs.toList:=by
 refine⟨by simpa using h,_,n,rfl,fun hn=>⟨w.heap.size,0,rfl,fun j u hj=>?_⟩⟩
 rw[PF];simp only[World.cell?,heap_alloc_new];simpa using hj
theorem Sl.value{w:World}{v:Value}{n size:Nat}{xs:List Value}(h:Sl w v n size xs):∃a cap,v=.slice a n cap∧(0<n→∃b off,a=some ⟨b,off,none⟩∧∀j u,xs[j]?=some u→w.cell? ⟨b,off+j,none⟩=some u):=h.2
abbrev ah(l:List UInt8):Value:=.string ⟨l.toArray⟩
def Strs(w:World)(v:Value)(ps:List (List UInt8)):Prop:=Sl w v ps.length 1 (ps.map ah)
def mr(w:World)(v:Value)(ns:List Nat):Prop:=Sl w v ns.length 1 (ns.map fun n:Nat=>.int .u64 (n:Int))
theorem Strs.stays{w w':World}{v:Value}{ps:List (List UInt8)}(h:Strs w v ps)(hb:Below w.heap.size w w'):Strs w' v ps:=Sl.stays h hb
theorem mr.stays{w w':World}{v:Value}{ns:List Nat}(h:mr w v ns)(hb:Below w.heap.size w w'):mr w' v ns:=Sl.stays h hb
theorem Strs.value{w:World}{v:Value}{ps:List (List UInt8)}(h:Strs w v ps):∃a cap,v=.slice a ps.length cap∧(0<ps.length→∃b off,a=some ⟨b,off,none⟩∧∀j (hj:j<ps.length),w.cell? ⟨b,off+j,none⟩=some (.string ⟨ps[j].toArray⟩)):=by
 obtain⟨_,a,cap,h2,h3⟩:=h;refine⟨a,cap,h2,fun hn=>?_⟩
 obtain⟨b,off,h4,h5⟩:=h3 hn;exact⟨b,off,h4,fun j hj=>h5 j _ (by simp[hj])⟩
theorem mr.value{w:World}{v:Value}{ns:List Nat}(h:mr w v ns):∃a cap,v=.slice a ns.length cap∧(0<ns.length→∃b off,a=some ⟨b,off,none⟩∧∀j (hj:j<ns.length),w.cell? ⟨b,off+j,none⟩=some (.int .u64 (ns[j]:Nat))):=by
 obtain⟨_,a,cap,h2,h3⟩:=h;refine⟨a,cap,h2,fun hn=>?_⟩
 obtain⟨b,off,h4,h5⟩:=h3 hn;exact⟨b,off,h4,fun j hj=>h5 j _ (by simp[hj])⟩
def Q(w w':World):Prop:=Below w.heap.size w w'
theorem Q.refl(w:World):Q w w:=Below.refl _ _
theorem Q.trans{a b c:World}(h1:Q a b)(h2:Q b c):Q a c:=Below.trans h1 (Below.mono h2 h1.size)
theorem Q.of{w w':World}(h:Below w.heap.size w w'):Q w w':=h
theorem Q.alloc(w:World)(o:Obj):Q w (w.alloc o):=(Below.refl _ _).alloc (Ω _) _
theorem Q.drewN(w:World)(n:Nat):Q w (w.drewN n):=⟨rfl,rfl,rfl,Ω _,fun _ _=>rfl⟩
theorem Q.drew(w:World):Q w w.drew:=⟨rfl,rfl,rfl,Ω _,fun _ _=>rfl⟩
def Blk(w:World)(k:Nat)(t:TypeId)(cs:Array Value):Prop:=w.heap[k]?=some (.cells cs t (0,0))
theorem Blk.new(w:World)(t:TypeId)(cs:Array Value):Blk (w.alloc (.cells cs t)) w.heap.size t cs:=World.alloc_heap_new w _
theorem Blk.lt{w:World}{k:Nat}{t:TypeId}{cs:Array Value}(h:Blk w k t cs):k<w.heap.size:=(Ss.1 h).1
theorem Blk.stays{w w':World}{k:Nat}{t:TypeId}{cs:Array Value}(h:Blk w k t cs)(q:Q w w'):Blk w' k t cs:=(q.block k h.lt).trans h
theorem Blk.alloc{w:World}{k:Nat}{t:TypeId}{cs:Array Value}(h:Blk w k t cs)(o:Obj):Blk (w.alloc o) k t cs:=h.stays (Q.alloc _ _)
theorem Blk.cell{w:World}{k:Nat}{t:TypeId}{cs:Array Value}(h:Blk w k t cs)(i:Nat)(v:Value)(hv:cs[i]?=some v):w.cell? ⟨k,i,none⟩=some v:=by
 simp only[World.cell?,show w.heap[k]?=_ from h]
 exact hv
theorem Blk.frozen{w:World}{k:Nat}{t:TypeId}{cs:Array Value}(h:Blk w k t cs)(i:Nat):w.frozen? ⟨k,i,none⟩=false:=by
 simp[World.frozen?,show w.heap[k]?=_ from h]
theorem Blk.set{w:World}{k:Nat}{t:TypeId}{cs:Array Value}(h:Blk w k t cs)(i:Nat)(v:Value):Blk (w.setCell ⟨k,i,none⟩ v) k t (cs.setIfInBounds i v):=by
 obtain⟨ay,hk⟩:=Ss.1 h;show(w.heap.modify k _)[k]?=_;rw[Array.getElem?_eq_getElem (by rw[Array.size_modify];exact ay),Array.getElem_modify_self,hk]
 rfl
theorem Blk.other{w:World}{k:Nat}{t:TypeId}{cs:Array Value}(h:Blk w k t cs)(a:Addr)(v:Value)(aU:k≠a.block):Blk (w.setCell a v) k t cs:=(Below.heap_setCell w a v k aU).trans h
theorem Blk.c2{w:World}{k:Nat}{t:TypeId}{a b:Value}(h:Blk w k t #[a,b]):w.cell? ⟨k,0,none⟩=some a∧w.cell? ⟨k,1,none⟩=some b∧w.frozen? ⟨k,0,none⟩=false∧w.frozen? ⟨k,1,none⟩=false :=
 ⟨h.cell 0 _ rfl,h.cell 1 _ rfl,h.frozen 0,h.frozen 1⟩
theorem Blk.c3{w:World}{k:Nat}{t:TypeId}{a b c:Value}(h:Blk w k t #[a,b,c]):w.cell? ⟨k,0,none⟩=some a∧w.cell? ⟨k,1,none⟩=some b∧w.cell? ⟨k,2,none⟩=some c∧w.frozen? ⟨k,0,none⟩=false∧w.frozen? ⟨k,1,none⟩=false∧w.frozen? ⟨k,2,none⟩=false :=
 ⟨h.cell 0 _ rfl,h.cell 1 _ rfl,h.cell 2 _ rfl,h.frozen 0,h.frozen 1,h.frozen 2⟩
theorem Blk.c4{w:World}{k:Nat}{t:TypeId}{a b c d:Value}(h:Blk w k t #[a,b,c,d]):w.cell? ⟨k,0,none⟩=some a∧w.cell? ⟨k,1,none⟩=some b∧w.cell? ⟨k,2,none⟩=some c∧w.cell? ⟨k,3,none⟩=some d∧w.frozen? ⟨k,0,none⟩=false∧w.frozen? ⟨k,1,none⟩=false∧w.frozen? ⟨k,2,none⟩=false∧w.frozen? ⟨k,3,none⟩=false :=
 ⟨h.cell 0 _ rfl,h.cell 1 _ rfl,h.cell 2 _ rfl,h.cell 3 _ rfl,h.frozen 0,h.frozen 1,h.frozen 2,h.frozen 3⟩
theorem Blk.s2{w:World}{k:Nat}{t:TypeId}{a b:Value}(h:Blk w k t #[a,b]):(∀x,(w.setCell ⟨k,0,none⟩ x).cell? ⟨k,0,none⟩=some x)∧(∀x y,((w.setCell ⟨k,0,none⟩ x).setCell ⟨k,1,none⟩ y).cell? ⟨k,1,none⟩=some y) :=
 ⟨fun x=>(h.set 0 x).cell 0 x rfl,fun x y=>((h.set 0 x).set 1 y).cell 1 y rfl⟩
theorem Blk.s3{w:World}{k:Nat}{t:TypeId}{a b c:Value}(h:Blk w k t #[a,b,c]):(∀x,(w.setCell ⟨k,0,none⟩ x).cell? ⟨k,0,none⟩=some x)∧(∀x y,((w.setCell ⟨k,0,none⟩ x).setCell ⟨k,1,none⟩ y).cell? ⟨k,1,none⟩=some y) ∧
  (∀x y z,(((w.setCell ⟨k,0,none⟩ x).setCell ⟨k,1,none⟩ y).setCell ⟨k,2,none⟩ z).cell? ⟨k,2,none⟩=some z) :=
 ⟨fun x=>(h.set 0 x).cell 0 x rfl,fun x y=>((h.set 0 x).set 1 y).cell 1 y rfl,fun x y z=>(((h.set 0 x).set 1 y).set 2 z).cell 2 z rfl⟩
theorem Blk.s4{w:World}{k:Nat}{t:TypeId}{a b c d:Value}(h:Blk w k t #[a,b,c,d]):(∀x,(w.setCell ⟨k,0,none⟩ x).cell? ⟨k,0,none⟩=some x)∧(∀x y,((w.setCell ⟨k,0,none⟩ x).setCell ⟨k,1,none⟩ y).cell? ⟨k,1,none⟩=some y) ∧
  (∀x y z,(((w.setCell ⟨k,0,none⟩ x).setCell ⟨k,1,none⟩ y).setCell ⟨k,2,none⟩ z).cell? ⟨k,2,none⟩=some z)∧(∀x y z u,((((w.setCell ⟨k,0,none⟩ x).setCell ⟨k,1,none⟩ y).setCell ⟨k,2,none⟩ z).setCell ⟨k,3,none⟩ u).cell? ⟨k,3,none⟩=some u) :=
 ⟨fun x=>(h.set 0 x).cell 0 x rfl,fun x y=>((h.set 0 x).set 1 y).cell 1 y rfl,fun x y z=>(((h.set 0 x).set 1 y).set 2 z).cell 2 z rfl,fun x y z u=>((((h.set 0 x).set 1 y).set 2 z).set 3 u).cell 3 u rfl⟩
theorem Blk.r3{w:World}{k:Nat}{t:TypeId}{a b c:Value}(h:Blk w k t #[a,b,c])(x y z:Value):(((w.setCell ⟨k,0,none⟩ x).setCell ⟨k,1,none⟩ y).setCell ⟨k,2,none⟩ z).cell? ⟨k,0,none⟩=some x∧(((w.setCell ⟨k,0,none⟩ x).setCell ⟨k,1,none⟩ y).setCell ⟨k,2,none⟩ z).cell? ⟨k,1,none⟩=some y ∧
  (((w.setCell ⟨k,0,none⟩ x).setCell ⟨k,1,none⟩ y).setCell ⟨k,2,none⟩ z).cell? ⟨k,2,none⟩=some z∧Blk (((w.setCell ⟨k,0,none⟩ x).setCell ⟨k,1,none⟩ y).setCell ⟨k,2,none⟩ z) k t #[x,y,z] :=
 ⟨(((h.set 0 x).set 1 y).set 2 z).cell 0 x rfl,(((h.set 0 x).set 1 y).set 2 z).cell 1 y rfl,(((h.set 0 x).set 1 y).set 2 z).cell 2 z rfl,((h.set 0 x).set 1 y).set 2 z⟩
theorem Blk.r4{w:World}{k:Nat}{t:TypeId}{a b c d:Value}(h:Blk w k t #[a,b,c,d])(x y z u:Value):((((w.setCell ⟨k,0,none⟩ x).setCell ⟨k,1,none⟩ y).setCell ⟨k,2,none⟩ z).setCell ⟨k,3,none⟩ u).cell? ⟨k,0,none⟩=some x∧((((w.setCell ⟨k,0,none⟩ x).setCell ⟨k,1,none⟩ y).setCell ⟨k,2,none⟩ z).setCell ⟨k,3,none⟩ u).cell? ⟨k,1,none⟩=some y ∧
  ((((w.setCell ⟨k,0,none⟩ x).setCell ⟨k,1,none⟩ y).setCell ⟨k,2,none⟩ z).setCell ⟨k,3,none⟩ u).cell? ⟨k,2,none⟩=some z∧((((w.setCell ⟨k,0,none⟩ x).setCell ⟨k,1,none⟩ y).setCell ⟨k,2,none⟩ z).setCell ⟨k,3,none⟩ u).cell? ⟨k,3,none⟩=some u ∧
  Blk ((((w.setCell ⟨k,0,none⟩ x).setCell ⟨k,1,none⟩ y).setCell ⟨k,2,none⟩ z).setCell ⟨k,3,none⟩ u) k t #[x,y,z,u] :=
 ⟨((((h.set 0 x).set 1 y).set 2 z).set 3 u).cell 0 x rfl,((((h.set 0 x).set 1 y).set 2 z).set 3 u).cell 1 y rfl,((((h.set 0 x).set 1 y).set 2 z).set 3 u).cell 2 z rfl,((((h.set 0 x).set 1 y).set 2 z).set 3 u).cell 3 u rfl,(((h.set 0 x).set 1 y).set 2 z).set 3 u⟩
theorem Q.setCell{w w':World}(h:Q w w'){a:Addr}(ha:w.heap.size≤a.block)(v:Value):Q w (w'.setCell a v):=Below.setCell h ha v
theorem gT{w:World}{base base':Nat}{e:TypeId}{size:Nat}{v:Value}{n:Nat}{xs:List Value}(h:w.ownsRow base e size v n xs)(hb:base'≤base):w.ownsRow base' e size v n xs:=by
 obtain⟨h1,h2⟩:=h;refine⟨h1,?_⟩;rcases h2 with h2|⟨g,cap,cur,rfl,bN,hg,rest⟩
 ·exact .inl h2
 ·exact .inr ⟨g,cap,cur,rfl,My hb bN,hg,rest⟩
theorem oH{w:World}{base:Nat}{e:TypeId}{size:Nat}{v:Value}{n:Nat}{xs:List Value}(h:w.ownsRow base e size v n xs):∀g,v.ownBlock=some g→∃cs,w.heap[g]?=some (.cells cs e (0,0)):=by
 intro g hg;rcases h.2 with ⟨rfl,_⟩|⟨g',cap,cur,rfl,_,GL,_⟩
 ·simp[Value.ownBlock] at hg
 ·simp only[Value.ownBlock,N6] at hg
  subst hg;exact⟨_,GL⟩
theorem WI{w:World}{base base':Nat}{e e':TypeId}{size size':Nat}{v v':Value}{n n':Nat}{xs xs':List Value}(h:w.ownsRow base e size v n xs)(h':w.ownsRow base' e' size' v' n' xs')(aU:e≠e'){g:Nat}(hg:v'.ownBlock=some g):v.ownBlock≠some g:=by
 intro hb;obtain⟨cs,hc⟩:=oH h g hb;obtain⟨cs',GN⟩:=oH h' g hg;rw[hc] at GN;injection GN with GN;injection GN with _ GN _;exact aU GN
theorem KU{w w':World}{base base':Nat}{e e':TypeId}{size size':Nat}{v v':Value}{n n':Nat}{xs xs':List Value}(h:w.ownsRow base e size v n xs)(h':w.ownsRow base' e' size' v' n' xs')(hg:w.grownBy w' v'.ownBlock)(aU:e≠e'):w'.ownsRow base e size v n xs:=by
 refine h.kept hg ?_;cases hv:v'.ownBlock with
 | none=>cases hb:v.ownBlock with
  | none=>exact .inl rfl
  | some g=>exact .inr κ
 | some g=>exact .inr (WI h h' aU hv)
theorem oI{w w':World}{base:Nat}{e:TypeId}{size:Nat}{v:Value}{n:Nat}{xs:List Value}{k:Nat}{t:TypeId}{cs:Array Value}(h:Blk w k t cs)(h':w.ownsRow base e size v n xs)(hg:w.grownBy w' v.ownBlock)(aU:t≠e):Blk w' k t cs:=by
 refine(hg.block k h.lt (fun e'=>?_)).trans h
 obtain⟨cs,hc⟩:=oH h' k e'.symm;rw[show _=_ from h] at hc
 injection hc with h3;injection h3 with _ h3 _;exact aU h3
theorem oD(b off j:Nat):(⟨b,off,none⟩:Addr).add j=⟨b,off+j,none⟩:=by unfold Addr.add;split<;>simp_all
structure Itk (own:Nat→Prop) (lo:Nat) (A B:World):Prop where
 os:B.os=A.os
 tape:B.tape=A.tape
 output:B.output=A.output
 size:A.heap.size≤B.heap.size
 low:∀k,k<lo→k<A.heap.size→¬own k→B.heap[k]?=A.heap[k]?
 cells:∀(k:Nat) (o:Obj),A.heap[k]?=some o→o.isCells=true→¬own k→B.heap[k]?=some o
theorem Itk.refl(own:Nat→Prop)(lo:Nat)(A:World):Itk own lo A A:=⟨rfl,rfl,rfl,Ω _,fun _ _ _ _=>rfl,fun _ _ h _ _=>h⟩
theorem Itk.trans{own:Nat→Prop}{lo:Nat}{A B C:World}(h:Itk own lo A B)(k:Itk own lo B C):Itk own lo A C :=
 ⟨k.os.trans h.os,k.tape.trans h.tape,k.output.trans h.output,My h.size k.size,fun i h1 h2 h3=>(k.low i h1 (Ψ h2 h.size) h3).trans (h.low i h1 h2 h3),
  fun i o h1 h2 h3=>k.cells i o (h.cells i o h1 h2 h3) h2 h3⟩
theorem Itk.mono{own own':Nat→Prop}{lo lo':Nat}{A B:World}(h:Itk own lo A B)(ho:∀k,own k→own' k)(hl:lo'≤lo):Itk own' lo' A B :=
 ⟨h.os,h.tape,h.output,h.size,fun k h1 h2 h3=>h.low k U h2 (fun e=>h3 (ho k e)),fun k o h1 h2 h3=>h.cells k o h1 h2 (fun e=>h3 (ho k e))⟩
theorem aJ{A:World}{k:Nat}{o:Obj}(h:A.heap[k]?=some o):k<A.heap.size:=(Ss.1 h).1
theorem Itk.br{own:Nat→Prop}{lo:Nat}{A B:World}(h:Q A B):Itk own lo A B :=
 ⟨h.os,h.tape,h.output,h.size,fun k _ h2 _=>h.block k h2,fun k o h1 _ _=>(h.block k (aJ h1)).trans h1⟩
theorem Itk.put{own:Nat→Prop}{lo:Nat}{A:World}{l:Nat}{o:Obj}(o':Obj)(h:A.heap[l]?=some o)(hc:o.isCells=false)(hl:lo≤l):Itk own lo A (A.putObj l o') :=
 ⟨rfl,rfl,rfl,κ,fun k h1 _ _=>World.putObj_heap_other U,fun k o2 h1 h2 _=>(World.putObj_heap_other (fun e=>by subst e;rw[h] at h1;cases h1;rw[hc] at h2;cases h2)).trans h1⟩
theorem Itk.get{own:Nat→Prop}{lo:Nat}{A B:World}(h:Itk own lo A B){k:Nat}{cs:Array Value}{e:TypeId}{fz:Nat×Nat}(hk:A.heap[k]?=some (.cells cs e fz))(ho:¬own k):B.heap[k]?=some (.cells cs e fz):=h.cells k _ hk rfl ho
theorem Itk.cell{own:Nat→Prop}{lo:Nat}{A B:World}(h:Itk own lo A B){a:Addr}{v:Value}(hc:A.cell? a=some v)(ho:¬own a.block):B.cell? a=some v:=by
 obtain⟨o,h1,h2⟩:=cells_of_cell hc;exact(World.cell?_of_block ((h.cells _ o h1 h2 ho).trans h1.symm)).trans hc
theorem Itk.boxed{own:Nat→Prop}{lo:Nat}{A B:World}(h:Itk own lo A B){b:Nat}{t:TypeId}{v:Value}(hb:Boxed A b t v)(ho:¬own b):Boxed B b t v:=h.get hb ho
theorem Itk.below{own:Nat→Prop}{lo n:Nat}{w A B:World}(h:Itk own lo A B)(hw:Below n w A)(hn:n≤lo)(hs:n≤A.heap.size)(ho:∀k,own k→n≤k):Below n w B :=
 hw.trans ⟨h.os,h.tape,h.output,h.size,fun k hk=>h.low k U U (fun e=>by have:=ho k e;omega)⟩
theorem Itk.owns{own:Nat→Prop}{lo:Nat}{A B:World}(h:Itk own lo A B){base:Nat}{e:TypeId}{size:Nat}{v:Value}{n:Nat}{xs:List Value}(hr:A.ownsRow base e size v n xs)(ho:∀g,v.ownBlock=some g→¬own g):B.ownsRow base e size v n xs:=by
 obtain⟨h1,h2⟩:=hr;refine⟨h1,?_⟩;rcases h2 with h2|⟨g,cap,cur,rfl,hb,hg,rest⟩
 ·exact .inl h2
 ·exact .inr ⟨g,cap,cur,rfl,hb,h.get hg (ho g rfl),rest⟩
structure Bk (own:Nat→Prop) (n₀:Nat) (A B:World):Prop where
 below:Below n₀ A B
 own:∀k,own k→k<A.heap.size→B.heap[k]?=A.heap[k]?
 walks:∀(k:Nat) (o:Obj),A.heap[k]?=some o→o.isWalk=true→B.heap[k]?=some o
theorem Bk.refl(own:Nat→Prop)(n₀:Nat)(A:World):Bk own n₀ A A:=⟨Below.refl _ _,fun _ _ _=>rfl,fun _ _ h _=>h⟩
theorem Bk.trans{own:Nat→Prop}{n₀:Nat}{A B C:World}(h:Bk own n₀ A B)(k:Bk own n₀ B C):Bk own n₀ A C :=
 ⟨h.below.trans k.below,fun i h1 h2=>(k.own i h1 (Ψ h2 h.below.size)).trans (h.own i h1 h2),fun i o h1 h2=>k.walks i o (h.walks i o h1 h2) h2⟩
theorem Bk.br{own:Nat→Prop}{n₀:Nat}{A B:World}(h:Q A B)(hn:n₀≤A.heap.size):Bk own n₀ A B :=
 ⟨Below.mono h hn,fun k _ h2=>h.block k h2,fun k o h1 _=>(h.block k (aJ h1)).trans h1⟩
theorem Bk.mono{own own':Nat→Prop}{n₀ n₁:Nat}{A B:World}(h:Bk own n₀ A B)(ho:∀k,own' k→own k)(hn:n₁≤n₀):Bk own' n₁ A B :=
 ⟨h.below.mono hn,fun k h1 h2=>h.own k (ho k h1) h2,h.walks⟩
theorem Bk.put{own:Nat→Prop}{n₀:Nat}{A:World}{l:Nat}{o:Obj}(o':Obj)(h:A.heap[l]?=some o)(hc:o.isWalk=false)(hl:n₀≤l)(ho:¬own l):Bk own n₀ A (A.putObj l o') :=
 ⟨⟨rfl,rfl,rfl,κ,fun k hk=>World.putObj_heap_other U⟩,fun k h1 _=>World.putObj_heap_other (fun e=>ho (by rw[←e];exact h1)),
  fun k o2 h1 h2=>(World.putObj_heap_other (fun e=>by subst e;rw[h] at h1;cases h1;rw[hc] at h2;cases h2)).trans h1⟩
theorem Bk.setCell{own:Nat→Prop}{n₀:Nat}(A:World){p:Addr}(hl:n₀≤p.block)(ho:¬own p.block)(v:Value):Bk own n₀ A (A.setCell p v) :=
 ⟨(Below.refl _ _).setCell hl v,fun k h1 _=>Below.heap_setCell _ _ _ _ (fun e=>ho (by rw[←e];exact h1)),(KeepsWalks.setCell A p v).same⟩
theorem Bk.grown{own:Nat→Prop}{n₀:Nat}{A B:World}{row:Option Nat}(hg:A.grownBy B row)(hn:n₀≤A.heap.size)(hr:∀k,row=some k→n₀≤k∧¬own k∧∃cs e fz,A.heap[k]?=some (.cells cs e fz)):Bk own n₀ A B :=
 ⟨(Below.refl _ _).grown hg hn (fun k hk=>(hr k hk).1),fun k h1 h2=>hg.block k h2 (fun e=>(hr k e.symm).2.1 h1),
  fun k o h1 h2=>(hg.block k (aJ h1) (fun e=>by obtain⟨_,_,cs,e2,fz,h3⟩:=hr k e.symm;rw[h3] at h1;cases h1;cases h2)).trans h1⟩
def mf(P:Program)(l:Nat)(args:Array Value)(W:World)(R:Ending→World→Prop):Prop :=
 ∃fn tmps assign body,(Instr.yield l args).run P W=.ok (.round l fn tmps assign body) W∧∀m,RoundIn Fence.wide m P l fn tmps assign body W R
theorem mf.mono{P:Program}{l:Nat}{args:Array Value}{W:World}{R R':Ending→World→Prop}(h:mf P l args W R)(hr:∀e w,R e w→R' e w):mf P l args W R':=by
 obtain⟨fn,tmps,assign,body,hy,hR⟩:=h;exact⟨fn,tmps,assign,body,hy,fun m=>(hR m).mono hr⟩
theorem xN{n m:Nat}{P:Program}{l:Nat}{fn:FuncId}{tmps:Array Value}{assign body:Code}{W:World}{R:Ending→World→Prop}(h:RoundIn Fence.wide n P l fn tmps assign body W R):RoundIn Fence.wide m P l fn tmps assign body W R :=
 ⟨h.1,fun c cs _=>h.2 c cs (room_wide _)⟩
structure ae (own:Nat→Prop) (A B:World):Prop where
 os:B.os=A.os
 tape:B.tape=A.tape
 output:B.output=A.output
 size:A.heap.size≤B.heap.size
 block:∀k,k<A.heap.size→¬own k→B.heap[k]?=A.heap[k]?
theorem ae.refl(own:Nat→Prop)(A:World):ae own A A:=⟨rfl,rfl,rfl,Ω _,fun _ _ _=>rfl⟩
theorem ae.trans{own:Nat→Prop}{A B C:World}(h:ae own A B)(k:ae own B C):ae own A C :=
 ⟨k.os.trans h.os,k.tape.trans h.tape,k.output.trans h.output,My h.size k.size,fun i h1 h2=>(k.block i (Ψ h1 h.size) h2).trans (h.block i h1 h2)⟩
theorem ae.br{own:Nat→Prop}{A B:World}(h:Q A B):ae own A B:=⟨h.os,h.tape,h.output,h.size,fun k h1 _=>h.block k h1⟩
theorem ae.mono{own own':Nat→Prop}{A B:World}(h:ae own A B)(ho:∀k,own k→own' k):ae own' A B:=⟨h.os,h.tape,h.output,h.size,fun k h1 h2=>h.block k h1 (fun e=>h2 (ho k e))⟩
theorem ae.setCell{own:Nat→Prop}{A B:World}(h:ae own A B){a:Addr}(ha:own a.block∨A.heap.size≤a.block)(v:Value):ae own A (B.setCell a v) :=
 ⟨h.os,h.tape,h.output,My h.size (KeepsWalks.setCell B a v).size,fun k h1 h2=>(Below.heap_setCell _ _ _ _ (fun e=>by
  rcases ha with ha|ha
  ·exact h2 (by rw[e];exact ha)
  ·omega)).trans (h.block k h1 h2)⟩
theorem ae.below{own:Nat→Prop}{A B:World}{n:Nat}{w:World}(h:ae own A B)(hw:Below n w A)(hn:n≤A.heap.size)(ho:∀k,own k→n≤k):Below n w B :=
 hw.trans ⟨h.os,h.tape,h.output,h.size,fun k hk=>h.block k U (fun e=>by have:=ho k e;omega)⟩
theorem ae.itk{own:Nat→Prop}{lo:Nat}{A B:World}(h:ae own A B):Itk own lo A B :=
 ⟨h.os,h.tape,h.output,h.size,fun k _ h2 h3=>h.block k h2 h3,fun k o h1 _ h3=>(h.block k (aJ h1) h3).trans h1⟩
theorem ae.blk{own:Nat→Prop}{A B:World}(h:ae own A B){k:Nat}{t:TypeId}{cs:Array Value}(hb:Blk A k t cs)(ho:¬own k):Blk B k t cs:=(h.block k hb.lt ho).trans hb
theorem ae.get{own:Nat→Prop}{A B:World}(h:ae own A B){k:Nat}{o:Obj}(hb:A.heap[k]?=some o)(ho:¬own k):B.heap[k]?=some o:=(h.block k (aJ hb) ho).trans hb
theorem ae.owns{own:Nat→Prop}{A B:World}(h:ae own A B){base:Nat}{e:TypeId}{size:Nat}{v:Value}{n:Nat}{xs:List Value}(hr:A.ownsRow base e size v n xs)(ho:∀g,v.ownBlock=some g→¬own g):B.ownsRow base e size v n xs:=(h.itk (lo:=0)).owns hr ho
theorem kM{A:World}{base:Nat}{e:TypeId}{size:Nat}{v:Value}{n:Nat}{xs:List Value}(hr:A.ownsRow base e size v n xs){k:Nat}{t:TypeId}{cs:Array Value}(hb:Blk A k t cs)(aU:t≠e):∀g,v.ownBlock=some g→g≠k:=by
 intro g hg e';obtain⟨cs',hc⟩:=oH hr g hg;rw[e',show _=_ from hb] at hc
 injection hc with h3;injection h3 with _ h3 _;exact aU h3
theorem ae.grown{own:Nat→Prop}{A B C:World}(h:ae own A B){v:Value}{base:Nat}{e:TypeId}{size n:Nat}{xs:List Value}(hr:B.ownsRow base e size v n xs)(hg:B.grownBy C v.ownBlock)(hb:A.heap.size≤base):ae own A C :=
 ⟨hg.os.trans h.os,hg.tape.trans h.tape,hg.output.trans h.output,My h.size hg.size,fun k h1 h2=>(hg.block k (Ψ h1 h.size) (fun e'=>by have:=(hr.lt k e'.symm).1;omega)).trans (h.block k h1 h2)⟩
def grow(F:Nat→Prop)(A B:World):Nat→Prop:=fun k=>F k∨(A.heap.size≤k∧k<B.heap.size)
theorem oJ{F:Nat→Prop}{A B:World}{k:Nat}(h:F k):grow F A B k:=.inl h
theorem lZ{F:Nat→Prop}{A B C:World}(h1:A.heap.size≤B.heap.size)(h2:B.heap.size≤C.heap.size){k:Nat}(h:grow (grow F A B) B C k):grow F A C k:=by
 rcases h with (h|h)|h
 ·exact .inl h
 ·exact .inr ⟨h.1,U⟩
 ·exact .inr ⟨U,h.2⟩
theorem ae.step{F:Nat→Prop}{A B C:World}(h:ae F A B)(k:ae (grow F A B) B C):ae F A C :=
 ⟨k.os.trans h.os,k.tape.trans h.tape,k.output.trans h.output,My h.size k.size,fun i h1 h2=>(k.block i (Ψ h1 h.size) (fun hg=>hg.elim h2 (fun hg=>U))).trans (h.block i h1 h2)⟩
def mX(w:WrL):List Value:=[.int .i64 (w.1:Nat),ah w.2]
def aN(l:List WrL):List Value:=l.flatMap mX
theorem Np(w:WrL)(l:List WrL):aN (w::l)=mX w++aN l:=by simp[aN]
theorem iF(a b:List WrL):aN (a++b)=aN a++aN b:=by simp[aN]
theorem fQ(l:List WrL)(j:Nat)(h:j<l.length):(aN l)[j*2]?=some (.int .i64 (l[j].1:Nat))∧(aN l)[j*2+1]?=some (ah l[j].2):=by
 induction l generalizing j with
 | nil=>simp at h
 | cons w l ih =>
  cases j with
  | zero=>simp[Np,mX]
  | succ j =>
   have:=ih j (by simpa using h)
   rw[Np];have e:mX w=[.int .i64 (w.1:Nat),ah w.2]:=rfl;rw[e,show(j+1)*2=j*2+1+1 by omega,show j*2+1+1+1=(j*2+1)+1+1 by omega]
   simp only[PC,Pr,Xs,abj];exact this
def sw(l:List Bytes):Array Value:=(l.map ah).toArray
theorem Qi(l:List Bytes)(i:Nat)(h:i<l.length):(sw l)[i]?=some (ah l[i]):=by simp[sw,h]
theorem we(l:List Bytes)(i:Nat)(s:Bytes):(sw l).setIfInBounds i (ah s)=sw (l.set i s):=by
 simp[sw,List.map_set]
structure dp (w:World) (F:Nat→Prop) (b g:Nat) (cap:Nat) (pv:Value) (d:af):Prop where
 box:Blk w b 114 #[.slice (some ⟨g,0,none⟩) d.l.length cap,pv,.int .i64 d.b9,.bool d.dead]
 fb:F b
 disk:Blk w g 9 (sw d.l)
 fg:F g
 row:w.ownsRow 0 116 2 pv d.p.length (aN d.p)
 fp:∀k,pv.ownBlock=some k→F k
def cE(w:World)(F:Nat→Prop)(b:Nat)(d:af):Prop:=∃g cap pv,dp w F b g cap pv d
theorem dp.mono{w:World}{F G:Nat→Prop}{b g cap:Nat}{pv:Value}{d:af}(h:dp w F b g cap pv d)(k:∀i,F i→G i):dp w G b g cap pv d :=
 ⟨h.box,k _ h.fb,h.disk,k _ h.fg,h.row,fun i e=>k _ (h.fp i e)⟩
theorem cE.mono{w:World}{F G:Nat→Prop}{b:Nat}{d:af}(h:cE w F b d)(k:∀i,F i→G i):cE w G b d:=by
 obtain⟨g,cap,pv,h⟩:=h;exact⟨g,cap,pv,h.mono k⟩
theorem dp.beside{w w':World}{F G:Nat→Prop}{b g cap:Nat}{pv:Value}{d:af}(h:dp w F b g cap pv d)(t:ae G w w')(hd:∀k,F k→¬G k):dp w' F b g cap pv d :=
 ⟨t.blk h.box (hd _ h.fb),h.fb,t.blk h.disk (hd _ h.fg),h.fg,t.owns h.row (fun k e=>hd _ (h.fp k e)),h.fp⟩
theorem cE.beside{w w':World}{F G:Nat→Prop}{b:Nat}{d:af}(h:cE w F b d)(t:ae G w w')(hd:∀k,F k→¬G k):cE w' F b d:=by
 obtain⟨g,cap,pv,h⟩:=h;exact⟨g,cap,pv,h.beside t hd⟩
theorem dp.keep{w w':World}{F:Nat→Prop}{b g cap:Nat}{pv:Value}{d:af}(h:dp w F b g cap pv d)(q:Q w w'):dp w' F b g cap pv d :=
 h.beside (ae.br (own:=fun _=>False) q) (fun _ _=>id)
theorem cE.keep{w w':World}{F:Nat→Prop}{b:Nat}{d:af}(h:cE w F b d)(q:Q w w'):cE w' F b d :=
 h.beside (ae.br (own:=fun _=>False) q) (fun _ _=>id)
theorem Gb{w:World}{a b:Nat}{t u:TypeId}{cs ds:Array Value}(h:Blk w a t cs)(k:Blk w b u ds)(aU:t≠u):a≠b:=by
 rintro rfl;unfold Blk at h k;rw[h] at k;injection k with k;injection k with _ k _;exact aU k
theorem bO(w:World)(a:Addr)(v:Value):(w.setCell a v).heap.size=w.heap.size:=by
 unfold World.setCell;split<;>simp
theorem dp.ne{w:World}{F:Nat→Prop}{b g cap:Nat}{pv:Value}{d:af}(h:dp w F b g cap pv d):g≠b∧(∀k,pv.ownBlock=some k→k≠b∧k≠g) :=
 ⟨(Gb h.box h.disk Z).symm,fun k e=>⟨kM h.row h.box Z k e,kM h.row h.disk Z k e⟩⟩
theorem dp.ib{w:World}{F:Nat→Prop}{b g cap:Nat}{pv:Value}{d:af}(h:dp w F b g cap pv d)(i:Nat)(v:Value):ae F w (w.setCell ⟨b,i,none⟩ v)∧Blk (w.setCell ⟨b,i,none⟩ v) g 9 (sw d.l) ∧
  (w.setCell ⟨b,i,none⟩ v).ownsRow 0 116 2 pv d.p.length (aN d.p)∧Blk (w.setCell ⟨b,i,none⟩ v) b 114 (#[.slice (some ⟨g,0,none⟩) d.l.length cap,pv,.int .i64 d.b9,.bool d.dead].setIfInBounds i v):=by
 have t:ae (fun k=>k=b) w (w.setCell ⟨b,i,none⟩ v):=ae.setCell (a:=⟨b,i,none⟩) (ae.refl (fun k=>k=b) w) (.inl rfl) v
 exact⟨(ae.refl F w).setCell (.inl h.fb) v,t.blk h.disk h.ne.1,t.owns h.row (fun k e=>(h.ne.2 k e).1),h.box.set i v⟩
theorem dp.b9{w:World}{F:Nat→Prop}{b g cap:Nat}{pv:Value}{d:af}(h:dp w F b g cap pv d)(f:Int):dp (w.setCell ⟨b,2,none⟩ (.int .i64 f)) F b g cap pv { d with b9:=f }∧ae F w (w.setCell ⟨b,2,none⟩ (.int .i64 f)):=by
 obtain⟨h1,h2,h3,h4⟩:=h.ib 2 (.int .i64 f);exact⟨⟨h4,h.fb,h2,h.fg,h3,h.fp⟩,h1⟩
theorem dp.dead{w:World}{F:Nat→Prop}{b g cap:Nat}{pv:Value}{d:af}(h:dp w F b g cap pv d)(x:Bool):dp (w.setCell ⟨b,3,none⟩ (.bool x)) F b g cap pv { d with dead:=x }∧ae F w (w.setCell ⟨b,3,none⟩ (.bool x)):=by
 obtain⟨h1,h2,h3,h4⟩:=h.ib 3 (.bool x);exact⟨⟨h4,h.fb,h2,h.fg,h3,h.fp⟩,h1⟩
theorem dp.empty{w:World}{F:Nat→Prop}{b g cap:Nat}{pv:Value}{d:af}(h:dp w F b g cap pv d):dp (w.setCell ⟨b,1,none⟩ (.slice none 0 0)) F b g cap (.slice none 0 0) { d with p:=[] }∧ae F w (w.setCell ⟨b,1,none⟩ (.slice none 0 0)):=by
 obtain⟨h1,h2,h3,h4⟩:=h.ib 1 (.slice none 0 0);exact⟨⟨h4,h.fb,h2,h.fg,⟨rfl,.inl ⟨rfl,rfl⟩⟩,fun k e=>by simp[Value.ownBlock] at e⟩,h1⟩
theorem dp.append{w w2:World}{F:Nat→Prop}{b g cap:Nat}{pv:Value}{d:af}(h:dp w F b g cap pv d)(x:WrL)(g2 cap2:Nat)(hr:w2.ownsRow 0 116 2 (.slice (some ⟨g2,0,none⟩) (d.p.length+1) cap2) (d.p.length+1) (aN d.p++mX x))(hg:w.grownBy w2 pv.ownBlock)(ho:pv.ownBlock=some g2∨w.heap.size<g2)(ay:g2<w2.heap.size):
  Blk w2 b 114 #[.slice (some ⟨g,0,none⟩) d.l.length cap,pv,.int .i64 d.b9,.bool d.dead] ∧
  dp (w2.setCell ⟨b,1,none⟩ (.slice (some ⟨g2,0,none⟩) (d.p.length+1) cap2)) (grow F w (w2.setCell ⟨b,1,none⟩ (.slice (some ⟨g2,0,none⟩) (d.p.length+1) cap2))) b g cap (.slice (some ⟨g2,0,none⟩) (d.p.length+1) cap2) { d with p:=d.p++[x] } ∧
  ae F w (w2.setCell ⟨b,1,none⟩ (.slice (some ⟨g2,0,none⟩) (d.p.length+1) cap2)):=by
 have Bh:Blk w2 b 114 #[.slice (some ⟨g,0,none⟩) d.l.length cap,pv,.int .i64 d.b9,.bool d.dead]:=(hg.block b h.box.lt (fun e=>(h.ne.2 b e.symm).1 rfl)).trans h.box
 have Yo:Blk w2 g 9 (sw d.l):=(hg.block g h.disk.lt (fun e=>(h.ne.2 g e.symm).2 rfl)).trans h.disk
 have t:ae (fun k=>k=b) w2 (w2.setCell ⟨b,1,none⟩ (.slice (some ⟨g2,0,none⟩) (d.p.length+1) cap2)):=ae.setCell (a:=⟨b,1,none⟩) (ae.refl (fun k=>k=b) w2) (.inl rfl) _
 have bP:=bO w2 ⟨b,1,none⟩ (.slice (some ⟨g2,0,none⟩) (d.p.length+1) cap2);have tw:ae F w w2:=⟨hg.os,hg.tape,hg.output,hg.size,fun k h1 h2=>hg.block k h1 (fun e=>h2 (h.fp k e.symm))⟩
 refine⟨Bh,⟨Bh.set 1 _,.inl h.fb,t.blk Yo h.ne.1,.inl h.fg,?_,fun k e=>?_⟩,tw.trans ((ae.refl F w2).setCell (a:=⟨b,1,none⟩) (.inl h.fb) _)⟩
 ·rw[iF,show(d.p++[x]).length=d.p.length+1 by simp,show aN [x]=mX x by simp[aN]]
  exact t.owns hr (kM hr Bh Z)
 ·simp only[Value.ownBlock,N6] at e
  subst e;rcases ho with ho|ho
  ·exact .inl (h.fp g2 ho)
  ·exact .inr ⟨U,by rw[bP];exact ay⟩
theorem nC:(prog.info? 116).map (fun i=>(i.zero,i.size,i.bytes))=some (some (.agg #[.int .i64 0,ah []]),2,24):=by kernel_rfl
theorem Qs.dr{A B:World}(h:Q A B):Q A B.drew:=h.trans (Q.drew _)
theorem Qs.al{A B:World}(h:Q A B)(o:Obj):Q A (B.alloc o):=h.trans (Q.alloc _ _)
theorem Qs.st{A B:World}(h:Q A B)(a:Addr)(v:Value)(ha:A.heap.size≤a.block):Q A (B.setCell a v):=Q.setCell h ha v
theorem aI{w w':World}{a:Addr}{v:Value}(q:Q w w')(h:w.cell? a=some v):w'.cell? a=some v:=aj q h
theorem two{w w':World}(q:Q w w'){a0 a1:Addr}{v0 v1:Value}(h0:w.cell? a0=some v0)(h1:w.cell? a1=some v1):
  w'.cell? a0=some v0∧w'.cell? a1=some v1:=⟨aj q h0,aj q h1⟩
theorem five{w w':World}(q:Q w w'){a0 a1 a2 a3 a4:Addr}{v0 v1 v2 v3 v4:Value}(h0:w.cell? a0=some v0)(h1:w.cell? a1=some v1)(h2:w.cell? a2=some v2)(h3:w.cell? a3=some v3)(h4:w.cell? a4=some v4):
  w'.cell? a0=some v0∧w'.cell? a1=some v1∧w'.cell? a2=some v2∧w'.cell? a3=some v3∧w'.cell? a4=some v4:=⟨aj q h0,aj q h1,aj q h2,aj q h3,aj q h4⟩
theorem three{w w':World}(q:Q w w'){a0 a1 a2:Addr}{v0 v1 v2:Value}(h0:w.cell? a0=some v0)(h1:w.cell? a1=some v1)(h2:w.cell? a2=some v2):
  w'.cell? a0=some v0∧w'.cell? a1=some v1∧w'.cell? a2=some v2:=⟨aj q h0,aj q h1,aj q h2⟩
theorem dp.lay{w:World}{F:Nat→Prop}{b g cap:Nat}{pv:Value}{d:af}(h:dp w F b g cap pv d)(i:Nat)(s:Bytes):dp (w.setCell ⟨g,i,none⟩ (ah s)) F b g cap pv { d with l:=d.l.set i s }∧ae F w (w.setCell ⟨g,i,none⟩ (ah s)):=by
 have t:ae (fun k=>k=g) w (w.setCell ⟨g,i,none⟩ (ah s)):=ae.setCell (a:=⟨g,i,none⟩) (ae.refl (fun k=>k=g) w) (.inl rfl) _
 have Bh:=t.blk h.box h.ne.1.symm;refine⟨⟨?_,h.fb,?_,h.fg,t.owns h.row (fun k e=>(h.ne.2 k e).2),h.fp⟩,(ae.refl F w).setCell (a:=⟨g,i,none⟩) (.inl h.fg) _⟩
 ·rw[show({ d with l:=d.l.set i s }:af).l.length=d.l.length from SP];exact Bh
 ·have:=h.disk.set i (ah s)
  rw[we] at this;exact this
theorem ae.q{F:Nat→Prop}{A B C:World}(h:ae F A B)(k:Q B C):ae F A C:=h.trans (ae.br k)
theorem dp.jj{w:World}{F:Nat→Prop}{b g cap:Nat}{pv:Value}{d:af}(h:dp w F b g cap pv d):∃pa pc,pv=.slice pa d.p.length pc∧∀m (hm:m<d.p.length),∃g2,pa=some ⟨g2,0,none⟩∧w.cell? ⟨g2,m*2,none⟩=some (.int .i64 (d.p[m].1:Nat))∧w.cell? ⟨g2,m*2+1,none⟩=some (ah d.p[m].2):=by
 obtain⟨pa,pc,D5,nO⟩:=aY h.row;have bX:=Sl.cy h.row;subst D5;refine⟨pa,pc,rfl,fun m hm=>?_⟩
 obtain⟨g2,rfl⟩:=nO U;obtain⟨_,a,c,hv,kR⟩:=bX;obtain⟨b2,off,ha,aP⟩:=kR U;simp only[Value.slice.injEq] at hv;rw[←hv.1] at ha;simp only[N6,Addr.mk.injEq] at ha;obtain⟨rfl,rfl,_⟩:=ha;have h1:=aP _ _ (fQ d.p m hm).1;have h2:=aP _ _ (fQ d.p m hm).2;rw[PF] at h1 h2;exact⟨g2,rfl,h1,h2⟩
theorem dp.pA{w:World}{F:Nat→Prop}{b g cap:Nat}{pv:Value}{d:af}(h:dp w F b g cap pv d)(i:Nat)(hi:i<d.l.length):w.cell? ⟨g,i,none⟩=some (ah (d.l.getD i []))∧w.frozen? ⟨g,i,none⟩=false:=by
 refine⟨?_,h.disk.frozen i⟩;rw[h.disk.cell i _ (Qi d.l i hi),Θ,Mp hi];rfl
theorem ae.cell{F:Nat→Prop}{A B:World}(h:ae F A B){a:Addr}{v:Value}(hc:A.cell? a=some v)(hn:¬F a.block):B.cell? a=some v:=by
 have:=Io hc;rw[←hc];simp only[World.cell?,h.block a.block this hn]
abbrev au(b:Nat):Value:=.pointer (some ⟨b,0,none⟩)
def SlO(w:World)(F:Nat→Prop)(v:Value)(n size:Nat)(xs:List Value):Prop:=Sl w v n size xs∧(0<n→∃b off,(∃cap,v=.slice (some ⟨b,off,none⟩) n cap)∧b<w.heap.size∧¬F b)
theorem SlO.keep{w w':World}{F:Nat→Prop}{v:Value}{n size:Nat}{xs:List Value}(h:SlO w F v n size xs)(t:ae F w w'):SlO w' (grow F w w') v n size xs:=by
 obtain⟨h1,h2⟩:=h;refine⟨?_,fun hn=>?_⟩
 ·obtain⟨hl,a,cap,hv,hc⟩:=h1
  refine⟨hl,a,cap,hv,fun hn=>?_⟩
  obtain⟨b,off,⟨cap',e⟩,hb,hF⟩:=h2 hn;obtain⟨b2,off2,rfl,tO⟩:=hc hn;rw[hv] at e;simp only[Value.slice.injEq,N6,Addr.mk.injEq] at e;obtain⟨⟨rfl,rfl,_⟩,_⟩:=e;refine⟨b2,off2,rfl,fun j u hj=>?_⟩
  have:=tO j u hj;rw[←this];simp only[World.cell?,t.block b2 hb hF]
 ·obtain⟨b,off,e,hb,hF⟩:=h2 hn
  exact⟨b,off,e,Ψ hb t.size,fun hg=>hg.elim hF (fun hg=>U)⟩
def jd(b:Nat)(j:JL):Array Value:=#[au b,.int .u64 (j.s.e:Nat),.int .u64 (j.s.s:Nat),.int .i64 (j.s.log:Nat),.int .i64 (j.s.place:Nat),.int .i64 (j.k:Nat),.int .u64 (j.next:Nat),.int .i64 (j.used:Nat)]
structure cF (w:World) (F:Nat→Prop) (p b:Nat) (j:JL):Prop where
 box:Blk w p 177 (jd b j)
 fp:F p
 dev:cE w F b j.d
 lt:∀k,F k→k<w.heap.size
theorem cF.mono{w:World}{F G:Nat→Prop}{p b:Nat}{j:JL}(h:cF w F p b j)(k:∀i,F i→G i)(hl:∀i,G i→i<w.heap.size):cF w G p b j:=⟨h.box,k _ h.fp,h.dev.mono k,hl⟩
theorem cF.beside{w w':World}{F G:Nat→Prop}{p b:Nat}{j:JL}(h:cF w F p b j)(t:ae G w w')(hd:∀k,F k→¬G k):cF w' F p b j:=⟨t.blk h.box (hd _ h.fp),h.fp,h.dev.beside t hd,fun k hk=>Ψ (h.lt k hk) t.size⟩
theorem fR.slot{j:JL}(h:fR j):j.s.Ok:=⟨h.e,h.s,by have:=h.log2;omega,by have:=h.place;omega⟩
theorem fR.py{j:JL}(h:fR j):j.aE.Ok:=by
 have h1:=h.log2;have h2:=h.log;have:=Tr (j.s.place+j.used) h2;exact⟨Tr _ Z,h.next,by show j.s.log<_;omega,by show(j.s.place+j.used)%j.s.log<_;omega⟩
theorem cF.keep{w w':World}{F:Nat→Prop}{p b:Nat}{j:JL}(h:cF w F p b j)(q:Q w w'):cF w' F p b j:=h.beside (ae.br (own:=fun _=>False) q) (fun _ _=>id)
theorem Blk.c8{w:World}{k:Nat}{t:TypeId}{a0 a1 a2 a3 a4 a5 a6 a7:Value}(h:Blk w k t #[a0,a1,a2,a3,a4,a5,a6,a7]):
  w.cell? ⟨k,0,none⟩=some a0∧w.cell? ⟨k,1,none⟩=some a1∧w.cell? ⟨k,2,none⟩=some a2∧w.cell? ⟨k,3,none⟩=some a3∧w.cell? ⟨k,4,none⟩=some a4∧w.cell? ⟨k,5,none⟩=some a5∧w.cell? ⟨k,6,none⟩=some a6∧w.cell? ⟨k,7,none⟩=some a7 :=
 ⟨h.cell 0 _ rfl,h.cell 1 _ rfl,h.cell 2 _ rfl,h.cell 3 _ rfl,h.cell 4 _ rfl,h.cell 5 _ rfl,h.cell 6 _ rfl,h.cell 7 _ rfl⟩
theorem SlO.lit{w:World}{F:Nat→Prop}(cs:Array Value)(e:TypeId)(n size:Nat)(h:cs.size=n*size)(hF:¬F w.heap.size):SlO (w.alloc (.cells cs e)) F (.slice (some ⟨w.heap.size,0,none⟩) n n) n size cs.toList :=
 ⟨Sl.lit w cs e n size h,fun _=>⟨_,_,⟨_,rfl⟩,κ,hF⟩⟩
theorem SlO.value{w:World}{F:Nat→Prop}{v:Value}{n size:Nat}{xs:List Value}(h:SlO w F v n size xs):∃a cap,v=.slice a n cap∧(0<n→∃b off,a=some ⟨b,off,none⟩∧b<w.heap.size∧¬F b∧∀j u,xs[j]?=some u→w.cell? ⟨b,off+j,none⟩=some u):=by
 obtain⟨⟨_,a,cap,rfl,hc⟩,hF⟩:=h;refine⟨a,cap,rfl,fun hn=>?_⟩
 obtain⟨kb,ko,rfl,aP⟩:=hc hn;obtain⟨b,off,⟨cap',e⟩,hb,hFb⟩:=hF hn;simp only[Value.slice.injEq,N6,Addr.mk.injEq] at e;obtain⟨⟨rfl,_,_⟩,_⟩:=e;exact⟨_,_,rfl,hb,hFb,aP⟩
theorem ae.grow{F:Nat→Prop}{A B C:World}(h:ae F A B)(k:ae (grow F A B) B C):ae F A C:=h.step k
structure eC (w:World) (F:Nat→Prop) (v:Value) (ws:List WrL):Prop where
 sl:SlO w F v ws.length 2 (aN ws)
 num:∀x∈ws,x.1≤9223372036854775807∧x.2.length≤9223372036854775807
end
end Go.Proofs.YtonlbpljghohmaaGreatDoor
