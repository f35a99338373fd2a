/- Joined: Cac to WCacC -/
import Derived.Test.YtbkahhebmpehnaaGreatDoorCXMem
import Derived.Deep.RegionHeld3
set_option linter.all false
set_option maxRecDepth 100000
set_option maxHeartbeats 8000000
namespace Go.Proofs.YtbkahhebmpehnaaGreatDoor
open Go.Proofs.Tryz
section
structure gq where
 p:Nat
 data:Bytes
 cy:Bool
 used:Nat
abbrev bU:=List (Nat×gq)
structure cP (n most clock:Nat) (tx:List WrL) (g:Nat→Bytes) (m:bU):Prop where
 keys:(m.map (·.1)).Nodup
 ptrs:(m.map (·.2.p)).Nodup
 cap:64≤most∧most≤1024
 len:m.length≤most
 data:∀x∈m,x.2.data=bH tx x.1 (g x.1)
 cy:∀x∈m,x.2.cy=true↔∃w∈tx,w.1=x.1
 all:∀w∈tx,∃x∈m,x.1=w.1
 used:∀x∈m,x.2.used≤clock
 range:∀x∈m,63≤x.1∧x.1<n
 rise:l8 tx
 short:tx.length≤48
theorem yq{α:Type}{k:Nat}{v:α}{m:List (Nat×α)}{x:Nat×α}(h:x∈cK k v m):x=(k,v)∨(x∈m∧(x.1≠k∨bC k m=none∨True)):=by
 induction m with
 | nil=>left;simpa[cK] using h
 | cons y m ih =>
  unfold cK at h;split at h
  ·rcases MA.1 h with h|h
   ·exact .inl h
   ·exact .inr ⟨Mn _ h,.inr (.inr trivial)⟩
  ·rcases MA.1 h with h|h
   ·subst h;exact .inr ⟨Mu ..,.inr (.inr trivial)⟩
   ·rcases ih h with h|⟨h,_⟩
    ·exact .inl h
    ·exact .inr ⟨Mn _ h,.inr (.inr trivial)⟩
theorem y9{α:Type}{k:Nat}{v:α}{m:List (Nat×α)}(hn:(m.map (·.1)).Nodup){x:Nat×α}:x∈cK k v m↔x=(k,v)∨(x∈m∧x.1≠k):=by
 induction m with
 | nil=>simp[cK]
 | cons y m ih =>
  simp only[No,Sa] at hn;unfold cK;by_cases hy:y.1=k
  ·rw[Φ hy]
   constructor
   ·intro h
    rcases MA.1 h with h|h
    ·exact .inl h
    ·refine .inr ⟨Mn _ h,fun e=>hn.1 ?_⟩
     exact MD.2 ⟨x,h,by rw[e,hy]⟩
   ·rintro(h|⟨h,h2⟩)
    ·exact MA.2 (.inl h)
    ·rcases MA.1 h with h|h
     ·subst h;exact absurd hy h2
     ·exact Mn _ h
  ·rw[η hy]
   constructor
   ·intro h
    rcases MA.1 h with h|h
    ·subst h;exact .inr ⟨Mu ..,hy⟩
    ·rcases (ih hn.2).1 h with h|⟨h,h2⟩
     ·exact .inl h
     ·exact .inr ⟨Mn _ h,h2⟩
   ·rintro(h|⟨h,h2⟩)
    ·exact Mn _ ((ih hn.2).2 (.inl h))
    ·rcases MA.1 h with h|h
     ·subst h;exact Mu ..
     ·exact Mn _ ((ih hn.2).2 (.inr ⟨h,h2⟩))
theorem wW{α:Type}(k:Nat)(v:α)(m:List (Nat×α))(h:(m.map (·.1)).Nodup):((cK k v m).map (·.1)).Nodup:=by
 induction m with
 | nil=>simp[cK]
 | cons y m ih =>
  simp only[No,Sa] at h;unfold cK;by_cases hy:y.1=k
  ·rw[Φ hy]
   simp only[No,Sa];exact⟨by rw[←hy];exact h.1,h.2⟩
  ·rw[η hy]
   simp only[No,Sa];refine⟨fun hc=>?_,ih h.2⟩
   rcases (Nq k v m y.1).1 hc with hc|hc
   ·exact hy hc
   ·exact h.1 hc
theorem BP{k:Nat}{v u:gq}{m:bU}(hk:(m.map (·.1)).Nodup)(h:(m.map (·.2.p)).Nodup)(hg:bC k m=some u)(hp:v.p=u.p):((cK k v m).map (·.2.p))=m.map (·.2.p):=by
 induction m with
 | nil=>simp[bC] at hg
 | cons y m ih =>
  simp only[No,Sa] at hk h;unfold cK;unfold bC at hg;by_cases hy:y.1=k
  ·rw[Φ hy] at hg ⊢
   injection hg with hg;subst hg;simp[hp]
  ·rw[η hy] at hg ⊢
   simp only[No,ih hk.2 h.2 hg]
theorem za{α:Type}{k:Nat}{v:α}{m:List (Nat×α)}(hg:bC k m=none):cK k v m=m++[(k,v)]:=by
 induction m with
 | nil=>rfl
 | cons y m ih =>
  unfold bC at hg;unfold cK;by_cases hy:y.1=k
  ·rw[Φ hy] at hg;cases hg
  ·rw[η hy] at hg ⊢
   rw[ih hg];rfl
theorem KV(tx:List WrL)(h:l8 tx)(i:Nat)(s t:Bytes)(hw:(i,t)∈tx):bH tx i s=t:=by
 refine uz tx (i,t) s hw (fun x hx Bf=>?_)
 have hp:=h;clear h;induction tx with
 | nil=>simp at hw
 | cons y l ih =>
  have RI:=SJ.1 hp;rcases MA.1 hx with ex|hx<;>rcases MA.1 hw with ew|hw
  ·rw[ex,←ew]
  ·have:=RI.1 _ hw;rw[←ex] at this;simp only at this Bf;omega
  ·have:=RI.1 _ hx;rw[←ew] at this;simp only at this Bf;omega
  ·exact ih hw hx RI.2
namespace cP
variable {n most clock:Nat} {tx:List WrL} {g:Nat→Bytes} {m:bU}
theorem hit(h:cP n most clock tx g m){i:Nat}{k:gq}(hg:bC i m=some k):k.data=bH tx i (g i):=h.data _ (gH hg)
theorem miss(h:cP n most clock tx g m){i:Nat}(hg:bC i m=none):∀w∈tx,w.1≠i:=fun w hw e=>by
 obtain⟨x,hx,he⟩:=h.all w hw
 exact oK.1 hg x hx (by rw[he,e])
theorem use(h:cP n most clock tx g m){i:Nat}{k:gq}(hg:bC i m=some k):cP n most (clock+1) tx g (cK i { k with used:=clock+1 } m):=by
 have hm:=gH hg;have eF:=fun x=>y9 (k:=i) (v:={ k with used:=clock+1 }) h.keys (x:=x)
 have Vw:=BP (v:=({ k with used:=clock+1 }:gq)) h.keys h.ptrs hg rfl;refine⟨wW _ _ _ h.keys,by rw[Vw];exact h.ptrs,h.cap,by rw[IV,hg];exact h.len,?_,?_,?_,?_,?_,h.rise,h.short⟩
 ·intro x hx
  rcases (eF x).1 hx with rfl|⟨hx,_⟩
  ·exact h.data (i,k) hm
  ·exact h.data x hx
 ·intro x hx
  rcases (eF x).1 hx with rfl|⟨hx,_⟩
  ·exact h.cy (i,k) hm
  ·exact h.cy x hx
 ·intro w hw
  obtain⟨x,hx,he⟩:=h.all w hw;by_cases Bf:x.1=i
  ·exact⟨_,(eF _).2 (.inl rfl),by rw[←he,Bf]⟩
  ·exact⟨x,(eF x).2 (.inr ⟨hx,Bf⟩),he⟩
 ·intro x hx
  rcases (eF x).1 hx with rfl|⟨hx,_⟩
  ·exact Ω _
  ·exact Nat.le_succ_of_le (h.used x hx)
 ·intro x hx
  rcases (eF x).1 hx with rfl|⟨hx,_⟩
  ·exact h.range (i,k) hm
  ·exact h.range x hx
theorem drop(h:cP n most clock tx g m){i:Nat}{k:gq}(hg:bC i m=some k)(hd:k.cy=false):cP n most clock tx g (kN i m)∧(kN i m).length+1=m.length:=by
 have hm:=gH hg;have e:=Ip i m h.keys;have mq:(kN i m).Sublist m:=by rw[e];exact abN
 have eF:∀x,x∈kN i m↔x∈m∧x.1≠i:=fun x=>by rw[e];simp
 have bI:¬∃w∈tx,w.1=i:=fun hc=>by
  have:=(h.cy _ hm).2 hc;simp only[hd] at this;exact absurd this Z
 have hlen:(kN i m).length+1=m.length:=by
  clear mq eF bI e;have hk:=h.keys;clear h hm;induction m with
  | nil=>simp[bC] at hg
  | cons y m ih =>
   unfold bC at hg;unfold kN;by_cases hy:y.1=i
   ·rw[Φ hy];rfl
   ·rw[η hy] at hg ⊢
    rw[Θ,Θ,ih hg (Sa.1 hk).2]
 refine⟨⟨(mq.map _).nodup h.keys,(mq.map _).nodup h.ptrs,h.cap,by have:=h.len;omega,fun x hx=>h.data x ((eF x).1 hx).1,fun x hx=>h.cy x ((eF x).1 hx).1,fun w hw=>?_,fun x hx=>h.used x ((eF x).1 hx).1,fun x hx=>h.range x ((eF x).1 hx).1,h.rise,h.short⟩,hlen⟩
 obtain⟨x,hx,he⟩:=h.all w hw;exact⟨x,(eF x).2 ⟨hx,fun hc=>bI ⟨w,hw,by rw[←he,hc]⟩⟩,he⟩
theorem tG(h:cP n most clock tx g m)(hl:most≤m.length):∃x∈m,x.2.cy=false:=by
 refine adl (fun hc=>?_)
 have hall:∀x∈m,x.2.cy=true:=fun x hx=>by
  cases hd:x.2.cy with
  | true=>rfl
  | false=>exact absurd ⟨x,hx,hd⟩ hc
 have mq:m.map (·.1) ⊆ tx.map (·.1):=fun i hi=>by
  obtain⟨x,hx,rfl⟩:=MD.1 hi;obtain⟨w,hw,he⟩:=(h.cy x hx).1 (hall x hx);exact MD.2 ⟨w,hw,he⟩
 have:=acE h.keys mq;simp only[NE] at this;have:=h.short;have:=h.cap.1;omega
theorem lay(h:cP n most clock tx g m){i:Nat}(hg:bC i m=none)(hl:m.length<most)(hi:63≤i∧i<n)(k:gq)(hp:∀x∈m,x.2.p≠k.p)(hd:k.data=g i)(hc:k.cy=false)(hu:k.used≤clock):cP n most clock tx g (cK i k m):=by
 have LJ:=h.miss hg;rw[za hg];have Kl:=oK.1 hg;refine⟨?_,?_,h.cap,by simp;omega,?_,?_,?_,?_,?_,h.rise,h.short⟩
 ·rw[N5]
  refine PT.2 ⟨h.keys,κ,fun a ha b hb=>?_⟩
  obtain⟨x,hx,rfl⟩:=MD.1 ha;simp only[No,VC,Mo] at hb;subst hb;exact Kl x hx
 ·rw[N5]
  refine PT.2 ⟨h.ptrs,κ,fun a ha b hb=>?_⟩
  obtain⟨x,hx,rfl⟩:=MD.1 ha;simp only[No,VC,Mo] at hb;subst hb;exact hp x hx
 ·intro x hx
  rcases My.1 hx with hx|hx
  ·exact h.data x hx
  ·rw[Mo] at hx;subst hx
   simp only[hd];rw[dM _ _ _ LJ]
 ·intro x hx
  rcases My.1 hx with hx|hx
  ·exact h.cy x hx
  ·rw[Mo] at hx;subst hx
   simp only[hc];exact⟨fun e=>absurd e Z,fun ⟨w,hw,e⟩=>absurd e (LJ w hw)⟩
 ·intro w hw
  obtain⟨x,hx,he⟩:=h.all w hw;exact⟨x,Xs _ hx,he⟩
 ·intro x hx
  rcases My.1 hx with hx|hx
  ·exact h.used x hx
  ·rw[Mo] at hx;subst hx;exact hu
 ·intro x hx
  rcases My.1 hx with hx|hx
  ·exact h.range x hx
  ·rw[Mo] at hx;subst hx;exact hi
theorem xt(l:List WrL)(h:l8 l)(w x:WrL):x∈bM l w↔x=w∨(x∈l∧x.1≠w.1):=by
 induction l with
 | nil=>simp[bM]
 | cons y l ih =>
  have hp:=SJ.1 h;unfold bM;split
  ·rename_i ay
   rw[MA,ih hp.2,MA];constructor
   ·rintro(rfl|h|h)
    ·exact .inr ⟨.inl rfl,U⟩
    ·exact .inl h
    ·exact .inr ⟨.inr h.1,h.2⟩
   ·rintro(h|⟨h|h,h2⟩)
    ·exact .inr (.inl h)
    ·exact .inl h
    ·exact .inr (.inr ⟨h,h2⟩)
  ·split
   ·rename_i hn he
    rw[MA,MA];constructor
    ·rintro(h|h)
     ·exact .inl h
     ·exact .inr ⟨.inr h,by have:=hp.1 _ h;omega⟩
    ·rintro(h|⟨h|h,h2⟩)
     ·exact .inl h
     ·subst h;exact absurd he h2
     ·exact .inr h
   ·rename_i hn he
    rw[MA,MA];constructor
    ·rintro(h|h|h)
     ·exact .inl h
     ·subst h;exact .inr ⟨.inl rfl,U⟩
     ·exact .inr ⟨.inr h,by have:=hp.1 _ h;omega⟩
    ·rintro(h|⟨h,_⟩)
     ·exact .inl h
     ·exact .inr h
theorem tj(h:cP n most clock tx g m){i:Nat}{k:gq}(hg:bC i m=some k)(s:Bytes)(hs:(bM tx (i,s)).length≤48):cP n most (clock+1) (bM tx (i,s)) g (cK i ⟨k.p,s,true,clock+1⟩ m):=by
 have hm:=gH hg;have eF:=fun x=>y9 (k:=i) (v:=⟨k.p,s,true,clock+1⟩) h.keys (x:=x)
 have Vw:=BP (v:=(⟨k.p,s,true,clock+1⟩:gq)) h.keys h.ptrs hg rfl;have mO:=xt tx h.rise (i,s);have hl:=fun j t=>KO tx (i,s) h.rise j t
 refine⟨wW _ _ _ h.keys,by rw[Vw];exact h.ptrs,h.cap,by rw[IV,hg];exact h.len,?_,?_,?_,?_,?_,F6 _ _ h.rise,hs⟩
 ·intro x hx
  rw[hl];rcases (eF x).1 hx with rfl|⟨hx,aU⟩
  ·rw[Φ rfl]
  ·rw[η (fun e=>aU e.symm)];exact h.data x hx
 ·intro x hx
  rcases (eF x).1 hx with rfl|⟨hx,aU⟩
  ·exact⟨fun _=>⟨(i,s),(mO _).2 (.inl rfl),rfl⟩,fun _=>rfl⟩
  ·rw[h.cy x hx]
   constructor
   ·rintro⟨w,hw,he⟩;exact⟨w,(mO w).2 (.inr ⟨hw,by rw[he];exact aU⟩),he⟩
   ·rintro⟨w,hw,he⟩
    rcases (mO w).1 hw with rfl|⟨hw,_⟩
    ·exact absurd he.symm aU
    ·exact⟨w,hw,he⟩
 ·intro w hw
  rcases (mO w).1 hw with rfl|⟨hw,aU⟩
  ·exact⟨_,(eF _).2 (.inl rfl),rfl⟩
  ·obtain⟨x,hx,he⟩:=h.all w hw
   exact⟨x,(eF x).2 (.inr ⟨hx,by rw[he];exact aU⟩),he⟩
 ·intro x hx
  rcases (eF x).1 hx with rfl|⟨hx,_⟩
  ·exact Ω _
  ·exact Nat.le_succ_of_le (h.used x hx)
 ·intro x hx
  rcases (eF x).1 hx with rfl|⟨hx,_⟩
  ·exact h.range (i,k) hm
  ·exact h.range x hx
theorem Kb(h:cP n most clock tx g m){i:Nat}(hg:bC i m=none)(hl:m.length<most)(hi:63≤i∧i<n)(p:Nat)(hp:∀x∈m,x.2.p≠p)(s:Bytes)(hs:(bM tx (i,s)).length≤48):cP n most (clock+1) (bM tx (i,s)) g (cK i ⟨p,s,true,clock+1⟩ m):=by
 have h1:=h.lay hg hl hi ⟨p,g i,false,clock⟩ hp rfl rfl (Ω _);have jM:bC i (cK i (⟨p,g i,false,clock⟩:gq) m)=some ⟨p,g i,false,clock⟩:=by rw[y8,Φ rfl]
 have h2:=h1.tj jM s hs;have e:cK i (⟨p,s,true,clock+1⟩:gq) (cK i ⟨p,g i,false,clock⟩ m)=cK i ⟨p,s,true,clock+1⟩ m:=by
  rw[za hg,za hg];have Kl:=oK.1 hg;clear h h1 h2 jM hl hp hg;induction m with
  | nil=>simp[cK]
  | cons y m ih =>
   rw[Of,cK,η (Kl y (Mu ..)),ih (fun x hx=>Kl x (Mn _ hx))];rfl
 rw[e] at h2;exact h2
theorem cleaned(h:cP n most clock tx g m)(g':Nat→Bytes)(hg:∀i,63≤i∧i<n→g' i=bH tx i (g i)):cP n most clock [] g' (m.map fun x=>(x.1,{ x.2 with cy:=false })):=by
 refine⟨by simpa[Rr,Wb] using h.keys,by simpa[Rr,Wb] using h.ptrs,h.cap,by simpa using h.len,?_,?_,κ,?_,?_,by simp[l8],κ⟩
 ·intro x hx
  obtain⟨y,hy,rfl⟩:=MD.1 hx;show y.2.data=g' y.1;rw[hg _ (h.range y hy)];exact h.data y hy
 ·intro x hx
  obtain⟨y,hy,rfl⟩:=MD.1 hx;simp
 ·intro x hx
  obtain⟨y,hy,rfl⟩:=MD.1 hx;exact h.used y hy
 ·intro x hx
  obtain⟨y,hy,rfl⟩:=MD.1 hx;exact h.range y hy
theorem dropped(h:cP n most clock tx g m):cP n most clock [] g (m.filter fun x => !x.2.cy):=by
 have mq:(m.filter fun x => !x.2.cy).Sublist m:=abN
 have eF:∀x,x∈m.filter (fun x => !x.2.cy)→x∈m∧x.2.cy=false:=fun x hx=>by
  have:=PF.1 hx;simpa using this
 refine⟨(mq.map _).nodup h.keys,(mq.map _).nodup h.ptrs,h.cap,LS mq.length_le h.len,?_,?_,κ,?_,?_,by simp[l8],κ⟩
 ·intro x hx
  obtain⟨h1,h2⟩:=eF x hx;have:=h.data x h1;rw[this,dM _ _ _ (fun w hw e=>?_)];rfl
  have:=(h.cy x h1).2 ⟨w,hw,e⟩;rw[h2] at this;exact absurd this Z
 ·intro x hx
  obtain⟨h1,h2⟩:=eF x hx;simp[h2]
 ·intro x hx;exact h.used x (eF x hx).1
 ·intro x hx;exact h.range x (eF x hx).1
theorem ext(h:cP n most clock tx g m){g':Nat→Bytes}(hg:∀i,63≤i∧i<n→g' i=g i):cP n most clock tx g' m :=
 ⟨h.keys,h.ptrs,h.cap,h.len,fun x hx=>by rw[hg _ (h.range x hx)];exact h.data x hx,h.cy,h.all,h.used,h.range,h.rise,h.short⟩
theorem empty(n most:Nat)(g:Nat→Bytes)(h:64≤most∧most≤1024):cP n most 0 [] g [] :=
 ⟨κ,κ,h,κ,κ,κ,κ,κ,κ,by simp[l8],κ⟩
theorem Hv(h:cP n most clock tx g m)(l:List Nat)(hl:l.Perm (m.map (·.1)))(hs:l.Pairwise (·≤·)):(l.filterMap fun i=>(bC i m).bind fun k=>if k.cy then some (i,k.data) else none)=tx:=by
 have lU:l.Nodup:=hl.nodup_iff.2 h.keys;have ay:l.Pairwise (·<·):=by
  refine(List.pairwise_and_iff.2 ⟨hs,lU⟩).imp (fun ⟨a,b⟩=>U)
 have eF:∀x:WrL,x∈(l.filterMap fun i=>(bC i m).bind fun k=>if k.cy then some (i,k.data) else none)↔x∈tx:=fun x=>by
  rw[List.mem_filterMap];constructor
  ·rintro⟨i,hi,hx⟩
   cases hg:bC i m with
   | none=>rw[hg] at hx;cases hx
   | some k =>
    rw[hg] at hx;simp only[aco] at hx;split at hx
    ·rename_i hd
     injection hx with hx;obtain⟨w,hw,he⟩:=(h.cy _ (gH hg)).1 hd;have acC:=h.hit hg;have Y3:(i,w.2)∈tx:=by simp only at he;rw[←he];exact hw
     rw[KV tx h.rise i _ w.2 Y3] at acC;rw[←hx,acC];exact Y3
    ·cases hx
  ·intro hx
   obtain⟨y,hy,he⟩:=h.all x hx;have hg:=kL h.keys (k:=y.1) (v:=y.2) hy;refine⟨y.1,hl.mem_iff.2 (MD.2 ⟨y,hy,rfl⟩),?_⟩;rw[hg];simp only[aco];rw[Φ ((h.cy y hy).2 ⟨x,hx,he.symm⟩),h.data y hy];have:(y.1,x.2)∈tx:=by rw[he];exact hx
   rw[KV tx h.rise y.1 _ x.2 this,he]
 have hr:l8 (l.filterMap fun i=>(bC i m).bind fun k=>if k.cy then some (i,k.data) else none):=by
  refine List.Pairwise.filterMap _ (fun a b uU x hx y hy=>?_) ay
  have acD:∀(i:Nat) (x:WrL),(bC i m).bind (fun k=>if k.cy then some (i,k.data) else none)=some x→x.1=i:=fun i x hx=>by
   cases hg:bC i m with
   | none=>rw[hg] at hx;cases hx
   | some k =>
    rw[hg] at hx;simp only[aco] at hx;split at hx
    ·injection hx with hx;rw[←hx]
    ·cases hx
  rw[acD a x hx,acD b y hy];exact uU
 refine List.Perm.eq_of_pairwise (le:=fun (x y:WrL)=>x.1<y.1) (fun a b _ _ h1 h2=>U) hr h.rise ?_
 refine(W4 ?_ ?_).2 eF
 ·exact hr.imp (fun h e=>by rw[e] at h;omega)
 ·exact h.rise.imp (fun h e=>by rw[e] at h;omega)
end cP
end
section
open Go.RowKit
def mK(k:gq):Array Value:=#[ah k.data,.bool k.cy,.int .i64 0,.int .i64 (k.used:Nat)]
def DL(p most clock:Nat)(ms:Int)(mb:Nat):Array Value:=#[.iface 154 (au p),.int .i64 (most:Nat),.int .i64 (clock:Nat),.int .i64 ms,.map (some mb)]
abbrev mapOf(m:bU):List (Nat×Value):=m.map fun x=>(x.1,au x.2.p)
structure co (w:World) (F:Nat→Prop) (cb p most clock:Nat) (ms:Int) (mb:Nat) (m:bU):Prop where
 box:Blk w cb 261 (DL p most clock ms mb)
 fb:F cb
 map:di w mb (mapOf m)
 fm:F mb
 kept:∀x∈m,Blk w x.2.p 263 (mK x.2)∧F x.2.p
 lt:∀k,F k→k<w.heap.size
theorem rX{w:World}{a b:Nat}{t:TypeId}{cs:Array Value}{m:List (Nat×Value)}(h:Blk w a t cs)(k:di w b m):a≠b:=by
 rintro rfl;obtain⟨es,clock,hb,_⟩:=k;unfold Blk at h;rw[h] at hb;cases hb
namespace co
variable {w w':World} {F G:Nat→Prop} {cb p most clock:Nat} {ms:Int} {mb:Nat} {m:bU}
theorem mono(h:co w F cb p most clock ms mb m)(k:∀i,F i→G i)(hl:∀i,G i→i<w.heap.size):co w G cb p most clock ms mb m :=
 ⟨h.box,k _ h.fb,h.map,k _ h.fm,fun x hx=>⟨(h.kept x hx).1,k _ (h.kept x hx).2⟩,hl⟩
theorem beside(h:co w F cb p most clock ms mb m)(t:ae G w w')(hd:∀k,F k→¬G k):co w' F cb p most clock ms mb m :=
 ⟨t.blk h.box (hd _ h.fb),h.fb,h.map.same (t.block _ h.map.lt (hd _ h.fm)),h.fm,fun x hx=>⟨t.blk (h.kept x hx).1 (hd _ (h.kept x hx).2),(h.kept x hx).2⟩,fun k hk=>Ψ (h.lt k hk) t.size⟩
theorem keep(h:co w F cb p most clock ms mb m)(q:Q w w'):co w' F cb p most clock ms mb m:=h.beside (ae.br (own:=fun _=>False) q) (fun _ _=>id)
theorem apart(h:co w F cb p most clock ms mb m):cb≠mb∧∀x∈m,x.2.p≠cb∧x.2.p≠mb :=
 ⟨rX h.box h.map,fun x hx=>⟨Gb (h.kept x hx).1 h.box Z,rX (h.kept x hx).1 h.map⟩⟩
theorem gS(h:co w F cb p most clock ms mb m)(t:ae (fun k=>k=cb) w w'){clock':Nat}{ms':Int}(hb:Blk w' cb 261 (DL p most clock' ms' mb)):co w' F cb p most clock' ms' mb m :=
 ⟨hb,h.fb,h.map.same (t.block _ h.map.lt (fun e=>h.apart.1 e.symm)),h.fm,fun x hx=>⟨t.blk (h.kept x hx).1 (h.apart.2 x hx).1,(h.kept x hx).2⟩,fun k hk=>Ψ (h.lt k hk) t.size⟩
theorem FA{m:bU}(hp:(m.map (·.2.p)).Nodup){x y:Nat×gq}(hx:x∈m)(hy:y∈m)(e:x.2.p=y.2.p):x=y:=by
 induction m with
 | nil=>simp at hx
 | cons z m ih =>
  simp only[No,Sa] at hp;rcases MA.1 hx with ex|hx<;>rcases MA.1 hy with ey|hy
  ·rw[ex,ey]
  ·exact absurd (MD.2 ⟨y,hy,by rw[←e,ex]⟩) hp.1
  ·exact absurd (MD.2 ⟨x,hx,by rw[e,ey]⟩) hp.1
  ·exact ih hp.2 hx hy
theorem sA{α:Type}{k:Nat}{v:α}{m:List (Nat×α)}(h:bC k m=some v):cK k v m=m:=by
 induction m with
 | nil=>cases h
 | cons y m ih =>
  unfold bC at h;unfold cK;by_cases hy:y.1=k
  ·rw[Φ hy] at h ⊢
   injection h with h;subst hy h;rfl
  ·rw[η hy] at h ⊢
   rw[ih h]
theorem j8(h:co w F cb p most clock ms mb m)(hk:(m.map (·.1)).Nodup)(hp:(m.map (·.2.p)).Nodup){i:Nat}{k k':gq}(hg:bC i m=some k)(he:k'.p=k.p)(t:ae (fun x=>x=k.p) w w')(hb:Blk w' k.p 263 (mK k')):co w' F cb p most clock ms mb (cK i k' m):=by
 have hm:=gH hg;have uV:=h.apart;have e:mapOf (cK i k' m)=mapOf m:=by
  unfold mapOf;rw[Qj (fun k:gq=>au k.p),he]
  exact sA (by rw[Qk (fun k:gq=>au k.p),hg];rfl)
 refine⟨t.blk h.box (fun e=>(uV.2 _ hm).1 e.symm),h.fb,by rw[e];exact h.map.same (t.block _ h.map.lt (fun e=>(uV.2 _ hm).2 e.symm)),h.fm,fun x hx=>?_,fun k hk=>Ψ (h.lt k hk) t.size⟩
 rcases (y9 hk).1 hx with rfl|⟨hx,aU⟩
 ·exact⟨by rw[he];exact hb,by rw[he];exact(h.kept _ hm).2⟩
 ·exact⟨t.blk (h.kept x hx).1 (fun e=>aU (by rw[FA hp hx hm e])),(h.kept x hx).2⟩
theorem eK{w w':World}{b:Nat}(hg:w.grownBy w' (some b)):ae (fun k=>k=b) w w' :=
 ⟨hg.os,hg.tape,hg.output,hg.size,fun k h1 h2=>hg.block k h1 (fun e=>h2 (by cases e;rfl))⟩
theorem laid(h:co w F cb p most clock ms mb m){i g:Nat}{k:gq}(hg:bC i m=none)(hkp:k.p=g)(hb:Blk w g 263 (mK k))(hG:∀x,G x↔F x∨x=g)(hm:di w' mb (cK i (au g) (mapOf m)))(t:ae (fun x=>x=mb) w w'):co w' G cb p most clock ms mb (cK i k m):=by
 have uV:=h.apart;have hgm:=rX hb h.map;have e:mapOf (cK i k m)=cK i (au g) (mapOf m):=by
  unfold mapOf;rw[Qj (fun k:gq=>au k.p),hkp]
 refine⟨t.blk h.box uV.1,(hG _).2 (.inl h.fb),by rw[e];exact hm,(hG _).2 (.inl h.fm),fun x hx=>?_,fun x hx=>?_⟩
 ·rw[za hg] at hx
  rcases My.1 hx with hx|hx
  ·exact⟨t.blk (h.kept x hx).1 (uV.2 x hx).2,(hG _).2 (.inl (h.kept x hx).2)⟩
  ·rw[Mo] at hx;subst hx
   exact⟨by rw[hkp];exact t.blk hb hgm,(hG _).2 (.inr hkp)⟩
 ·rcases (hG x).1 hx with hx|rfl
  ·exact Ψ (h.lt x hx) t.size
  ·exact Ψ hb.lt t.size
theorem gone(h:co w F cb p most clock ms mb m){i:Nat}(hk:(m.map (·.1)).Nodup)(hm:di w' mb (kN i (mapOf m)))(t:ae (fun x=>x=mb) w w'):co w' F cb p most clock ms mb (kN i m):=by
 have uV:=h.apart;have e:mapOf (kN i m)=kN i (mapOf m):=by unfold mapOf;rw[Ql (fun k:gq=>au k.p)]
 have mq:∀x∈kN i m,x∈m:=fun x hx=>by rw[Ip i m hk] at hx;exact(PF.1 hx).1
 exact⟨t.blk h.box uV.1,h.fb,by rw[e];exact hm,h.fm,fun x hx=>⟨t.blk (h.kept x (mq x hx)).1 (uV.2 x (mq x hx)).2,(h.kept x (mq x hx)).2⟩,fun x hx=>Ψ (h.lt x hx) t.size⟩
theorem look(h:co w F cb p most clock ms mb m)(i:Nat):bC i (mapOf m)=(bC i m).map fun k=>au k.p:=Qk (fun k:gq=>au k.p) i m
theorem ij(h:co w F cb p most clock ms mb m){i:Nat}{k:gq}(hg:bC i m=some k):(bC i (mapOf m)).getD (.pointer none)=au k.p:=by rw[h.look,hg];rfl
theorem nc(h:co w F cb p most clock ms mb m){i:Nat}(hg:bC i m=none):(bC i (mapOf m)).getD (.pointer none)=.pointer none:=by rw[h.look,hg];rfl
theorem len(h:co w F cb p most clock ms mb m):(mapOf m).length=m.length:=NE ..
end co
theorem l6(w:World):(zeroValue 257).run prog w=.ok (.pointer none) w:=by kernel_rfl
end
section
open Go.RowKit
theorem MG(w:World)(F:Nat→Prop)(b:Nat)(d:af)(i:Int)(h:cF w F b d)(hm:d.l.length≤4096):
  Calls prog 219 #[au b,.int .i64 i] w fun e w'=>e=.returned (.int .i64 (d.chk i))∧w=w':=by
 obtain⟨g,cap,pv,hb,_,_,_,_,_⟩:=h;obtain⟨c0,c1,c2,c3,_⟩:=hb.c4;unfold af.chk;generalize d.dead=dd at *;generalize d.l.length=n at *;clear hb;cases dd with
 | true =>
  simp only[PM];go_enter func219,ntmps219;go_wp2;go_ret;exact⟨rfl,rfl⟩
 | false =>
  simp only[M2,ON];by_cases h0:i<0
  ·have e1:decide (i<0)=true:=MM h0
   rw[η U];go_enter func219,ntmps219;go_wp2;go_ret;exact⟨rfl,rfl⟩
  ·have e1:decide (i<0)=false:=Mz h0
   by_cases h1:i<n
   ·have e2:decide ((n:Int)≤i)=false:=Mz U
    rw[Φ ⟨U,h1⟩];go_enter func219,ntmps219;go_wp2;go_ret;exact⟨rfl,rfl⟩
   ·have e2:decide ((n:Int)≤i)=true:=MM U
    rw[η U];go_enter func219,ntmps219;go_wp2;go_ret;exact⟨rfl,rfl⟩
theorem Nr(w:World)(F:Nat→Prop)(b g cap:Nat)(pv:Value)(d:af)(h:dq w F b g cap pv d)(hf : -1≤d.b9)(hf1:d.b9≤9223372036854775807):
  Calls prog 273 #[au b] w fun e w'=>e=.returned (.int .i64 (if d.b9=0 then 4 else 0))∧dq w' F b g cap pv d.bh∧ae F w w'∧w'.heap.size=w.heap.size:=by
 obtain⟨c0,c1,c2,c3,f0,f1,f2,f3⟩:=h.box.c4;by_cases h0:d.b9=0
 ·have e1:(d.b9==0)=true:=MY.2 h0
  have hd:d.bh={ d with dead:=true }:=by unfold af.bh;rw[Φ h0]
  have hend:=h.dead true;rw[Φ h0,hd];have bP:=bO w ⟨b,3,none⟩ (.bool true);have HE:=Hd hend;have HS:=Hd bP;clear h hend hd bP;go_enter func273,ntmps273;go_wp2;go_ret;exact⟨rfl,HE.out.1,HE.out.2,HS.out⟩
 ·rcases Int.lt_or_le (d.b9-1) (-1) with hm|hm
  ·have e1:(d.b9==0)=false:=Γ.2 h0
   have hd:d.bh={ d with b9 := -1 }:=by unfold af.bh;rw[η h0,show max (d.b9-1) (-1) = -1 by omega]
   have hend:=h.b9 (-1);rw[η h0,hd];have bP:=bO w ⟨b,2,none⟩ (.int .i64 (-1));have HE:=Hd hend;have HS:=Hd bP;clear h hend hd bP;go_enter func273,ntmps273;go_wp2;go_ret;exact⟨rfl,HE.out.1,HE.out.2,HS.out⟩
  ·have e1:(d.b9==0)=false:=Γ.2 h0
   have hd:d.bh={ d with b9:=d.b9-1 }:=by unfold af.bh;rw[η h0,show max (d.b9-1) (-1)=d.b9-1 by omega]
   have hend:=h.b9 (d.b9-1);rw[η h0,hd];have bP:=bO w ⟨b,2,none⟩ (.int .i64 (d.b9-1));have HE:=Hd hend;have HS:=Hd bP;clear h hend hd bP;go_enter func273,ntmps273;go_wp2;go_ret;exact⟨rfl,HE.out.1,HE.out.2,HS.out⟩
theorem JQ(w:World)(F:Nat→Prop)(b:Nat)(d:af)(h:cF w F b d):
  Calls prog 65 #[au b] w fun e w'=>e=.returned (.bool d.dead)∧w=w':=by
 obtain⟨g,cap,pv,h⟩:=h;obtain⟨c0,c1,c2,c3,f0,f1,f2,f3⟩:=h.box.c4;clear h;go_enter func65,ntmps65;go_wp2;go_ret;exact⟨rfl,rfl⟩
theorem oL(w:World)(F:Nat→Prop)(b:Nat)(d:af)(h:cF w F b d):
  Calls prog 41 #[au b] w fun e w'=>e=.returned (.int .i64 (d.l.length:Nat))∧w=w':=by
 obtain⟨g,cap,pv,h⟩:=h;obtain⟨c0,c1,c2,c3,f0,f1,f2,f3⟩:=h.box.c4;clear h;go_enter func41,ntmps41;go_wp2;go_ret;exact⟨rfl,rfl⟩
theorem Gc(p:List WrL)(i:Nat)(s:Bytes)(m:Nat)(h:∀j (hj:j<p.length),m≤j→p[j].1≠i):bH p i s=bH (p.take m) i s:=by
 conv=>lhs;rw[←OR m p]
 rw[sP];refine dM _ _ _ (fun w hw=>?_)
 obtain⟨j,hj,rfl⟩:=PH hw;rw[Wc];exact h _ _ U
theorem sB(p:List WrL)(i:Nat)(s:Bytes)(m:Nat)(hm:m<p.length)(h:∀j (hj:j<p.length),m<j→p[j].1≠i)(he:p[m].1=i):bH p i s=p[m].2:=by
 rw[Gc p i s (m+1) h,Mb hm,uo,Φ he]
theorem AQ(w:World)(F:Nat→Prop)(b:Nat)(d:af)(i:Int)(h:cF w F b d)(hm:d.l.length≤4096)(hp:d.dead=false→d.p.length≤1000000):
  Calls prog 151 #[au b,.int .i64 i] w fun e w'=>e=.returned (.tuple #[ah (d.read i).1,.int .i64 (d.read i).2])∧Q w w':=by
 have hc:=MG w F b d i h hm;by_cases h0:d.chk i=0
 ·have dS:d.dead=false:=by
   unfold af.chk at h0;cases hx:d.dead with
   | false=>rfl
   | true=>rw[hx] at h0;simp at h0
  obtain⟨i,rfl⟩:∃n:Nat,i=n:=⟨i.toNat,by
   unfold af.chk at h0;rw[dS] at h0;simp only[M2,ON] at h0;split at h0
   ·rename_i hx;omega
   ·exact absurd h0 Z⟩
  have Cm:i<d.l.length:=by
   unfold af.chk at h0;rw[dS] at h0;simp only[M2,ON] at h0;split at h0
   ·rename_i hx;omega
   ·exact absurd h0 Z
  have bW:=hp dS;have dz:d.read i=(bH d.p i (d.l.getD i []),0):=by unfold af.read;rw[Φ h0];rfl
  rw[dz];rw[h0] at hc;obtain⟨g,cap,pv,hg⟩:=h;obtain⟨c0,c1,c2,c3,_⟩:=hg.box.c4;obtain⟨pa,pc,D5,nO⟩:=aY hg.row;have bX:=Sl.cx hg.row;subst D5;have Yo:w.cell? ⟨g,i,none⟩=some (ah (d.l.getD i [])):=by
   rw[hg.disk.cell i _ (Qi d.l i Cm),LR,LN Cm];rfl
  have Jr:∀m (hm:m<d.p.length),∃g2,pa=some ⟨g2,0,none⟩∧w.cell? ⟨g2,m*2,none⟩=some (.int .i64 (d.p[m].1:Nat))∧w.cell? ⟨g2,m*2+1,none⟩=some (ah d.p[m].2):=fun m hm=>by
   obtain⟨g2,rfl⟩:=nO U;obtain⟨_,a,c,hv,kR⟩:=bX;obtain⟨b2,off,ha,aP⟩:=kR U;simp only[Value.slice.injEq] at hv;rw[←hv.1] at ha;simp only[M3,Addr.mk.injEq] at ha;obtain⟨rfl,rfl,_⟩:=ha;have h1:=aP _ _ (fQ d.p m hm).1;have h2:=aP _ _ (fQ d.p m hm).2;rw[On] at h1 h2;exact⟨g2,rfl,h1,h2⟩
  generalize d.l.getD i []=s0 at *;generalize d.l.length=n at *;have hcut:=Gc d.p i s0;have RJ:=sB d.p i s0;generalize bH d.p i s0=sr at *;generalize d.p=p at *;have HC:=Hd hc;have RL:=Hd Jr;have aao:=Hd hcut;have ah7:=Hd RJ;clear hc Jr hcut RJ bX nO hg h0 hp dz hm;go_enter func151,ntmps151;go_wp2_with fail;refine HC.out.mono ?_;rintro e w1 ⟨rfl,rfl⟩;go_wp2_with fail;go_loopw [20] (fun v wr=>∃k:Nat,v=.int .i64 (k:Nat)∧k≤p.length∧Hid (∀j (hj:j<p.length),p.length-k≤j→p[j].1≠i)∧Hid (Q w wr)) (fun v _=>p.length-(intOf v).toNat)
  case atStart=>exact⟨0,rfl,L0 _,fun j hj hk=>U,Q.refl _⟩
  case round =>
   obtain⟨k,rfl,kW,HK3,HK4⟩:=hrel;have rG:=HK4.out;have d0:=aj rG c0;have d1:=aj rG c1;by_cases ay:k<p.length
   ·have bq:(k:Int)<(p.length:Int):=U
    obtain⟨g2,rfl,e1,e2⟩:=RL.out (p.length-1-k) U;have e1':=aj rG e1;have e2':=aj rG e2;have eO:IntKind.i64.wrap ((p.length:Int)-1)=((p.length-1:Nat):Int):=by rw[IntWalk.i64_in _ U];omega
    have gD:IntKind.i64.wrap (((p.length-1:Nat):Int)-(k:Int))=((p.length-1-k:Nat):Int):=by rw[IntWalk.i64_in _ U];omega
    have iU:((p.length-1-k:Nat):Int)<(p.length:Int):=U;have amq:(0:Int)≤((p.length-1-k:Nat):Int):=U;clear e1 e2 rG;go_wp2_with fail;go_region_held3 (fun w'=>w'.cell? ⟨b,1,none⟩=some (.slice (some ⟨g2,0,none⟩) p.length pc)∧w'.cell? ⟨g2,(p.length-1-k)*2,none⟩=some (.int .i64 (p[p.length-1-k].1:Nat))∧w'.cell? ⟨g2,(p.length-1-k)*2+1,none⟩=some (ah p[p.length-1-k].2))
     (first|exact⟨d1,e1',e2'⟩|exact three (by repeat (first|with_reducible exact Q.refl _|with_reducible apply Qs.dr|with_reducible apply Qs.al|with_reducible refine Qs.st ?_ _ _ (Ω _))) d1 e1' e2')
     (fail)
    all_goals
     by_cases hit:p[p.length-1-k].1=i
     ·have hb:(((p[p.length-1-k].1:Nat):Int)==(i:Nat))=true:=MY.2 U
      have iQ:=ah7.out (p.length-1-k) U (fun j hj OC=>HK3.out j hj U) hit
      have vR:=Hd iQ;clear iQ hit;go_wp2_with fail;go_ret2;exact⟨by rw[vR.out];rfl,HK4.out.trans (by repeat (first|with_reducible exact Q.refl _|with_reducible apply Qs.dr|with_reducible apply Qs.al|with_reducible refine Qs.st ?_ _ _ (Ω _)))⟩
     ·have hb:(((p[p.length-1-k].1:Nat):Int)==(i:Nat))=false:=Γ.2 U
      have HN:=Hd (show ∀j (hj:j<p.length),p.length-(k+1)≤j→p[j].1≠i from fun j hj OC=>by
       by_cases he:j=p.length-1-k
       ·subst he;exact hit
       ·exact HK3.out j hj U)
      clear hit;go_wp2_with fail;go_roundw;case rel=>exact⟨k+1,by go_num,U,HN.out,HK4.out.trans (by repeat (first|with_reducible exact Q.refl _|with_reducible apply Qs.dr|with_reducible apply Qs.al|with_reducible refine Qs.st ?_ _ _ (Ω _)))⟩
      case measure=>simp[intOf];omega
   ·have bq:¬(k:Int)<(p.length:Int):=U
    have iQ:=aao.out 0 (fun j hj _=>HK3.out j hj U)
    rw[R0] at iQ;have vR:=Hd iQ;have d2:=aj rG Yo;have hni:(i:Int)<(n:Int):=U;clear iQ rG;go_wp2_with fail;go_ret2;exact⟨by rw[vR.out];rfl,HK4.out⟩
 ·have e1:(d.chk i==0)=false:=Γ.2 h0
  have dz:d.read i=([],d.chk i):=by unfold af.read;rw[η h0]
  rw[dz];generalize d.chk i=x at *;have HC:=Hd hc;clear hc h hp dz h0;go_enter func151,ntmps151;go_wp2_with fail;refine HC.out.mono ?_;rintro e w1 ⟨rfl,rfl⟩;go_wp2_with fail;go_ret2;exact⟨rfl,Q.refl _⟩
theorem AS(w:World)(p most:Nat)(h1:1≤most)(h2:most≤1024):
  Calls prog 149 #[.iface 154 (au p),.int .i64 (most:Nat)] w fun e w'=>∃cb,e=.returned (.tuple #[au cb,.int .i64 0])∧co w' (fun k=>w.heap.size≤k∧k<w'.heap.size) cb p most 0 0 w.heap.size []∧Q w w':=by
 have e1:¬(most:Int)<1:=U;have e2:¬(1024:Int)<(most:Int):=U;have zX:=@run_makeMap prog;go_enter func149,ntmps149;go_wp2_with fail;go_ret2;have hb:Blk ((w.alloc (.map #[] 0)).alloc (.cells (DL p most 0 0 w.heap.size) 261)) (w.heap.size+1) 261 (DL p most 0 0 w.heap.size):=by
  have:=Blk.new (w.alloc (.map #[] 0)) 261 (DL p most 0 0 w.heap.size);rwa [World.size_alloc] at this
 exact⟨w.heap.size+1,rfl,⟨hb,⟨U,hb.lt⟩,(di.made w).same (Q.alloc _ _ |>.block _ κ),⟨Ω _,by simp only[World.size_alloc];omega⟩,κ,fun k hk=>hk.2⟩,(Q.alloc _ _).trans (Q.alloc _ _)⟩
theorem Iq(w:World)(F:Nat→Prop)(cb p most clock:Nat)(ms:Int)(mb:Nat)(m:bU)(i:Nat)(k:gq)(h:co w F cb p most clock ms mb m)(hg:bC i m=some k)(hk:(m.map (·.1)).Nodup)(hp:(m.map (·.2.p)).Nodup)(hc:clock≤1000000000000000000):
  Calls prog 221 #[au cb,au k.p] w fun e w'=>e=.returned (.tuple #[])∧co w' F cb p most (clock+1) ms mb (cK i { k with used:=clock+1 } m)∧ae F w w'∧w'.heap.size=w.heap.size:=by
 have hm:=gH hg;have hb:=h.box;have mP:=(h.kept _ hm).1;have aU:k.p≠cb:=(h.apart.2 _ hm).1;have c2:=hb.cell 2 (.int .i64 (clock:Nat)) rfl;have f2:=hb.frozen 2;have bN:Blk (w.setCell ⟨cb,2,none⟩ (.int .i64 ((clock:Int)+1))) cb 261 (DL p most (clock+1) ms mb):=hb.set 2 (.int .i64 ((clock:Int)+1));have t2:ae (fun x=>x=cb) w (w.setCell ⟨cb,2,none⟩ (.int .i64 ((clock:Int)+1))):=ae.setCell (a:=⟨cb,2,none⟩) (ae.refl (fun x=>x=cb) w) (.inl rfl) _
 have h2:=h.gS t2 bN;have Dt:Blk (w.setCell ⟨cb,2,none⟩ (.int .i64 ((clock:Int)+1))) k.p 263 (mK k):=t2.blk mP aU;have d3:=Dt.cell 3 (.int .i64 (k.used:Nat)) rfl;have g3:=Dt.frozen 3;have acH:Blk ((w.setCell ⟨cb,2,none⟩ (.int .i64 ((clock:Int)+1))).setCell ⟨k.p,3,none⟩ (.int .i64 ((clock:Int)+1))) k.p 263 (mK { k with used:=clock+1 }):=Dt.set 3 (.int .i64 ((clock:Int)+1));have t3:ae (fun x=>x=k.p) (w.setCell ⟨cb,2,none⟩ (.int .i64 ((clock:Int)+1))) ((w.setCell ⟨cb,2,none⟩ (.int .i64 ((clock:Int)+1))).setCell ⟨k.p,3,none⟩ (.int .i64 ((clock:Int)+1))):=ae.setCell (a:=⟨k.p,3,none⟩) (ae.refl (fun x=>x=k.p) _) (.inl rfl) _
 have hend:=h2.j8 hk hp hg (k':={ k with used:=clock+1 }) rfl t3 acH;have ht:=(t2.mono (fun x hx=>by subst hx;exact h.fb)).trans (t3.mono (own':=F) (fun x hx=>by subst hx;exact(h.kept _ hm).2))
 have bP:((w.setCell ⟨cb,2,none⟩ (.int .i64 ((clock:Int)+1))).setCell ⟨k.p,3,none⟩ (.int .i64 ((clock:Int)+1))).heap.size=w.heap.size:=by rw[bO,bO]
 have HE:=Hd hend;have HT:=Hd ht;have HS:=Hd bP;have b2:=bN.cell 2 (.int .i64 ((clock:Int)+1)) rfl;clear hend ht bP acH t3 h2 t2 bN Dt h hg hk hp hm hb mP;go_enter func221,ntmps221;go_wp2;go_end0;exact⟨rfl,HE.out,HT.out,HS.out⟩
theorem UE(n:Nat)(w:World)(p b:Nat)(h:w.cell? ⟨p,0,none⟩=some (au b)):
  (method (n+1) 154 (au p) "Read").run prog w=.ok (151,au b) w:=by
 have hx:((prog.info? 154).bind (fun i=>i.methods.find? (·.name == "Read"))).map (fun m=>(m.path.toList,m.func))=some ([⟨216,0,true⟩],some (151,true)):=by kernel_rfl
 cases hi:prog.info? 154 with
 | none=>rw[hi] at hx;cases hx
 | some i =>
  rw[hi] at hx;simp only[aco] at hx;cases hf:i.methods.find? (·.name == "Read") with
  | none=>rw[hf] at hx;cases hx
  | some m =>
   rw[hf] at hx;simp only[acz,M3,QR] at hx;unfold method;simp only[Sem.run_bind,run_typeInfo w hi,Result.andThen,hf,hx.1,hx.2,follow,run_underlying (w:=w) underlying216];have ig:∀W,(sizeOf 30).run prog W=.ok 1 W:=fun W=>by kernel_rfl
   simp[Place.get,asAddr,fieldPlace,receiverAt,ig,Result.andThen,run_underlying underlying30,oD,go_sem,h]
theorem BV(w:World)(F:Nat→Prop)(cb p most clock:Nat)(ms:Int)(mb:Nat)(m:bU)(i:Nat)(k:gq)(h:co w F cb p most clock ms mb m)(hg:bC i m=some k)(hk:(m.map (·.1)).Nodup)(hp:(m.map (·.2.p)).Nodup)(hc:clock≤1000000000000000000):
  Calls prog 154 #[au cb,.int .i64 (i:Nat)] w fun e w'=>e=.returned (.tuple #[ah k.data,.int .i64 0])∧co w' F cb p most (clock+1) ms mb (cK i { k with used:=clock+1 } m)∧ae F w w'∧w'.heap.size=w.heap.size:=by
 have hu:=Iq w F cb p most clock ms mb m i k h hg hk hp hc;have c4:=h.box.cell 4 (.map (some mb)) rfl;have qz:=h.ij hg;have zx:=h.map;have HU:=Hd hu;have Bj:=Hd qz;have Js:=Hd zx;have HH:=Hd h;clear hu qz zx h;go_enter func154,ntmps154;go_wp2_with (at_lookup;refine jD _ ρ _ _ 256 false ρ 3 257 underlying256 underlying3 (.pointer none) (l6 _) mb _ Js.out i ρ ρ ?_);rw[Bj.out];go_wp2_with fail;go_simp;go_wp2_with fail;refine HU.out.mono ?_;rintro e w1 ⟨rfl,h1,t1,bB⟩;have d0:=(h1.kept (i,{ k with used:=clock+1 }) ((y9 hk).2 (.inl rfl))).1.cell 0 (ah k.data) rfl;have H1:=Hd h1;have T1:=Hd t1;have Z1:=Hd bB;simp only[] at d0;clear h1 t1 bB;go_wp2_with fail;go_ret2;exact⟨rfl,H1.out,T1.out,Z1.out⟩
def FF(F:Nat→Prop)(n most clock:Nat)(tx:List WrL)(g:Nat→Bytes)(cb p:Nat)(ms:Int)(mb:Nat)(m:bU)(w:World)(e:Ending)(w':World):Prop :=
 e=.returned (.int .i64 0)∧ae F w w'∧∃m',co w' F cb p most clock ms mb m'∧cP n most clock tx g m'∧m'.length<most∧∀i,bC i m=none→bC i m'=none
def Ir(w:World)(F:Nat→Prop)(n most clock:Nat)(tx:List WrL)(g:Nat→Bytes)(cb p:Nat)(ms:Int)(mb:Nat)(m:bU):Prop :=
 Calls prog 220 #[au cb] w fun e w'=>FF F n most clock tx g cb p ms mb m w e w'
theorem pN(w:World)(F:Nat→Prop)(cb p b n most clock:Nat)(ms:Int)(mb:Nat)(m:bU)(tx:List WrL)(g:Nat→Bytes)(i:Nat)(h:co w F cb p most clock ms mb m)(ho:cP n most clock tx g m)(hj:w.cell? ⟨p,0,none⟩=some (au b))(hg:bC i m=none)
  (hi:63≤i∧i<n) (hc:clock≤1000000000000000000) (dz:Calls prog 151 #[au b,.int .i64 (i:Nat)] w fun e w'=>e=.returned (.tuple #[ah (g i),.int .i64 0])∧Q w w')
  (hroom:∀W,Q w W→co W F cb p most clock ms mb m→Ir W F n most clock tx g cb p ms mb m) :
  Calls prog 154 #[au cb,.int .i64 (i:Nat)] w fun e w'=>e=.returned (.tuple #[ah (g i),.int .i64 0])∧ae F w w'∧∃m' ms',co w' (grow F w w') cb p most (clock+1) ms' mb m'∧cP n most (clock+1) tx g m':=by
 obtain⟨gi,Y4⟩:∃gi,gi=g i:=⟨_,rfl⟩;rw[←Y4] at dz ⊢;have c0:=h.box.cell 0 (.iface 154 (au p)) rfl;have c4:=h.box.cell 4 (.map (some mb)) rfl;have qz:=h.nc hg;have zx:=h.map;have HGI:=Hd Y4;clear Y4;have Bj:=Hd qz;have Js:=Hd zx;have HH:=Hd h;have HO:=Hd ho;have iO:=Hd dz;have HRM:=Hd hroom;have HG:=Hd hg;have hmr:=fun n=>UE n w p b hj
 clear qz zx h ho dz hroom hg;go_enter func154,ntmps154;go_wp2_with (at_lookup;refine jD _ ρ _ _ 256 false ρ 3 257 underlying256 underlying3 (.pointer none) (l6 _) mb _ Js.out i ρ ρ ?_);rw[Bj.out];go_wp2_with fail;go_simp;go_wp2_with fail;refine iO.out.mono ?_;rintro e w1 ⟨rfl,q1⟩;have h1:=HH.out.keep q1;have cr:=HRM.out w1 q1 h1;have dF:=Hd q1;have CR:=Hd cr;clear q1 h1 cr hmr;go_wp2_with fail;refine CR.out.mono ?_;rintro e w2 ⟨rfl,t2,m',h2,o2,l2,n2⟩;have jM:=n2 i HG.out;have RN:Blk (w2.alloc (.cells (mK ⟨w2.heap.size,gi,false,0⟩) 263)) w2.heap.size 263 (mK ⟨w2.heap.size,gi,false,0⟩):=Blk.new w2 _ _;have h3:=h2.keep (Q.alloc w2 (.cells (mK ⟨w2.heap.size,gi,false,0⟩) 263));have c4':=h3.box.cell 4 (.map (some mb)) rfl;change (w2.alloc (.cells #[ah gi,.bool false,.int .i64 0,.int .i64 0] 263)).cell? ⟨cb,4,none⟩=some (.map (some mb)) at c4';have zV:=h3.map;have HKA:=Hd RN;have H3:=Hd h3;have Y5:=Hd zV;have T2:=Hd t2;have O2:=Hd (And.intro o2 (And.intro l2 jM));have H2:=Hd h2;clear RN h3 zV t2 h2 o2 l2 n2 jM c0 c4;go_wp2_with (at_mapUpdate;refine uR _ ρ _ _ _ 256 ρ 3 257 underlying256 underlying3 mb _ Y5.out i (au w2.heap.size) ρ ρ ρ ?_);intro w4 xD lV zY;have t4:=co.eK lV;have h4:co w4 (fun x=>F x∨x=w2.heap.size) cb p most clock ms mb (cK i ⟨w2.heap.size,gi,false,0⟩ m'):=H3.out.laid O2.out.2.2 (k:=⟨w2.heap.size,gi,false,0⟩) rfl HKA.out (fun x=>Iff.rfl) xD t4
 have o4:cP n most clock tx g (cK i ⟨w2.heap.size,gi,false,0⟩ m'):=O2.out.1.lay O2.out.2.2 O2.out.2.1 hi ⟨w2.heap.size,gi,false,0⟩ (fun x hx e=>by have:=H2.out.lt _ (H2.out.kept x hx).2;rw[e] at this;exact TE _ this) HGI.out rfl (L0 _)
 have c3:=h4.box.cell 3 (.int .i64 ms) rfl;have f3:=h4.box.frozen 3;have T4:=Hd t4;have H4:=Hd h4;have O4:=Hd o4;have GR:=Hd zY;clear xD lV zY t4 h4 o4 c4';go_wp2_with fail;have t5:ae (fun x=>x=cb) w4 (w4.setCell ⟨cb,3,none⟩ (.int .i64 (wrap64 (ms+1)))):=ae.setCell (a:=⟨cb,3,none⟩) (ae.refl (fun x=>x=cb) w4) (.inl rfl) _
 have h5:=H4.out.gS t5 (clock':=clock) (ms':=wrap64 (ms+1)) (H4.out.box.set 3 _);have hk5:=O4.out.keys;have hp5:=O4.out.ptrs;have LK:bC i (cK i (⟨w2.heap.size,gi,false,0⟩:gq) m')=some ⟨w2.heap.size,gi,false,0⟩:=by rw[y8,Φ rfl]
 have cu:=Iq _ _ cb p most clock _ mb _ i _ h5 LK hk5 hp5 hc;have o5:=O4.out.use LK;have zZ:=bO w4 ⟨cb,3,none⟩ (.int .i64 (wrap64 (ms+1)));have CU:=Hd cu;have O5:=Hd o5;have T5:=Hd t5;have RO:=Hd zZ;have HK5:=Hd hk5;clear cu o5 t5 h5 hk5 hp5 LK c3 f3 zZ;refine CU.out.mono ?_;rintro e w6 ⟨rfl,h6,t6,Cn⟩;have d0:=(h6.kept (i,⟨w2.heap.size,gi,false,clock+1⟩) ((y9 HK5.out).2 (.inl rfl))).1.cell 0 (ah gi) rfl;simp only[] at d0;have H6:=Hd h6;have T6:=Hd t6;have RP:=Hd Cn;clear h6 t6 Cn;go_wp2_with fail;go_ret2;have Km:w.heap.size≤w2.heap.size:=LS dF.out.size T2.out.size;have D6:F mb:=HH.out.fm;have OD:F cb:=HH.out.fb;have ta:ae F w (w2.alloc (.cells (mK ⟨w2.heap.size,gi,false,0⟩) 263)):=((ae.br dF.out).trans T2.out).q (Q.alloc _ _);have tb:ae F w w4:=ta.trans (T4.out.mono (fun x hx=>by subst hx;exact D6))
 have tc:=tb.trans (T5.out.mono (fun x hx=>by subst hx;exact OD))
 have Fq:w2.heap.size<w4.heap.size:=by rw[GR.out];simp
 have td:ae F w w6:=tc.step (T6.out.mono (fun x hx=>hx.elim .inl (fun hx=>.inr (by subst hx;exact⟨Km,by rw[RO.out];exact Fq⟩))))
 refine⟨rfl,td,_,_,H6.out.mono (fun x hx=>hx.elim .inl (fun hx=>.inr (by subst hx;exact⟨Km,by rw[RP.out,RO.out];exact Fq⟩))) (fun x hx=>hx.elim (fun hx=>Ψ (HH.out.lt x hx) td.size) (fun hx=>hx.2)),O5.out⟩
theorem yo(w:World)(F:Nat→Prop)(cb p b n most clock:Nat)(ms:Int)(mb:Nat)(m:bU)(tx:List WrL)(g:Nat→Bytes)(i:Nat)(h:co w F cb p most clock ms mb m)(ho:cP n most clock tx g m)(hj:w.cell? ⟨p,0,none⟩=some (au b))
  (hi:63≤i∧i<n) (hc:clock≤1000000000000000000) (dz:Calls prog 151 #[au b,.int .i64 (i:Nat)] w fun e w'=>e=.returned (.tuple #[ah (g i),.int .i64 0])∧Q w w')
  (hroom:∀W,Q w W→co W F cb p most clock ms mb m→Ir W F n most clock tx g cb p ms mb m) :
  Calls prog 154 #[au cb,.int .i64 (i:Nat)] w fun e w'=>e=.returned (.tuple #[ah (bH tx i (g i)),.int .i64 0])∧ae F w w'∧∃m' ms',co w' (grow F w w') cb p most (clock+1) ms' mb m'∧cP n most (clock+1) tx g m':=by
 cases hg:bC i m with
 | some k =>
  refine(BV w F cb p most clock ms mb m i k h hg ho.keys ho.ptrs hc).mono ?_;rintro e w' ⟨rfl,h1,t1,hz⟩;exact⟨by rw[ho.hit hg],t1,_,ms,h1.mono (fun x hx=>.inl hx) (fun x hx=>hx.elim (fun hx=>Ψ (h.lt x hx) t1.size) (fun hx=>hx.2)),ho.use hg⟩
 | none =>
  refine(pN w F cb p b n most clock ms mb m tx g i h ho hj hg hi hc dz hroom).mono ?_;rintro e w' ⟨rfl,t1,h1⟩;exact⟨by rw[dM _ _ _ (ho.miss hg)],t1,h1⟩
theorem Gd{α:Type}(k:Nat)(u v:α)(m:List (Nat×α)):cK k v (cK k u m)=cK k v m:=by
 induction m with
 | nil=>simp[cK]
 | cons y m ih =>
  by_cases hy:y.1=k
  ·simp[cK,hy]
  ·simp[cK,hy,ih]
theorem Cp(w:World)(F:Nat→Prop)(cb p most clock:Nat)(ms:Int)(mb:Nat)(m:bU)(i:Nat)(k:gq)(s:Bytes)(h:co w F cb p most clock ms mb m)(hg:bC i m=some k)(hk:(m.map (·.1)).Nodup)(hp:(m.map (·.2.p)).Nodup)(hc:clock≤1000000000000000000)(hs:s.length=256):
  Calls prog 212 #[au cb,.int .i64 (i:Nat),ah s] w fun e w'=>e=.returned (.int .i64 0)∧co w' F cb p most (clock+1) ms mb (cK i ⟨k.p,s,true,clock+1⟩ m)∧ae F w w'∧w'.heap.size=w.heap.size:=by
 have hm:=gH hg;have LM:=(h.kept _ hm).2;have qz:=h.ij hg;have zx:=h.map;have c4:=h.box.cell 4 (.map (some mb)) rfl;have mP:=(h.kept _ hm).1;have d0:=mP.cell 0 (ah k.data) rfl;have d1:=mP.cell 1 (.bool k.cy) rfl;have f0:=mP.frozen 0;have f1:=mP.frozen 1;simp only[] at d0 d1 f0 f1;have Dt:Blk ((w.setCell ⟨k.p,0,none⟩ (ah s)).setCell ⟨k.p,1,none⟩ (.bool true)) k.p 263 (mK ⟨k.p,s,true,k.used⟩):=(mP.set 0 (ah s)).set 1 (.bool true);have t2:ae (fun x=>x=k.p) w ((w.setCell ⟨k.p,0,none⟩ (ah s)).setCell ⟨k.p,1,none⟩ (.bool true)):=ae.setCell (a:=⟨k.p,1,none⟩) (ae.setCell (a:=⟨k.p,0,none⟩) (ae.refl (fun x=>x=k.p) w) (.inl rfl) _) (.inl rfl) _
 have h2:=h.j8 hk hp hg (k':=⟨k.p,s,true,k.used⟩) rfl t2 Dt;have jM:bC i (cK i (⟨k.p,s,true,k.used⟩:gq) m)=some ⟨k.p,s,true,k.used⟩:=by rw[y8,Φ rfl]
 have hu:=Iq _ F cb p most clock ms mb _ i _ h2 jM (wW _ _ _ hk) (by rw[BP (v:=⟨k.p,s,true,k.used⟩) hk hp hg rfl];exact hp) hc
 rw[Gd] at hu;have bP:((w.setCell ⟨k.p,0,none⟩ (ah s)).setCell ⟨k.p,1,none⟩ (.bool true)).heap.size=w.heap.size:=by rw[bO,bO]
 have e1:(!((s.length:Int)==256))=false:=by rw[MY.2 U];rfl
 have HU:=Hd hu;have Bj:=Hd qz;have Js:=Hd zx;have T2:=Hd t2;have mD:=Hd bP;have LP:=Hd LM;clear hu qz zx h t2 Dt h2 jM bP hm hk hp hg mP LM;go_enter func212,ntmps212;go_wp2_with (at_lookup;refine jD _ ρ _ _ 256 false ρ 3 257 underlying256 underlying3 (.pointer none) (l6 _) mb _ Js.out i ρ ρ ?_);rw[Bj.out];go_wp2_with fail;go_simp;go_wp2_with fail;refine HU.out.mono ?_;rintro e w1 ⟨rfl,h1,t1,bB⟩;have H1:=Hd h1;have T1:=Hd t1;have Z1:=Hd bB;clear h1 t1 bB;go_wp2_with fail;go_ret;exact⟨rfl,H1.out,(T2.out.mono (fun x hx=>by subst hx;exact LP.out)).trans T1.out,by rw[Z1.out,mD.out]⟩
theorem CN(w:World)(F:Nat→Prop)(cb p n most clock:Nat)(ms:Int)(mb:Nat)(m:bU)(tx:List WrL)(g:Nat→Bytes)(i:Nat)(s:Bytes)(h:co w F cb p most clock ms mb m)(ho:cP n most clock tx g m)(hg:bC i m=none)
  (hi:63≤i∧i<n) (hc:clock≤1000000000000000000) (hs:s.length=256) (ht:(bM tx (i,s)).length≤48)
  (hroom:Ir w F n most clock tx g cb p ms mb m) :
  Calls prog 212 #[au cb,.int .i64 (i:Nat),ah s] w fun e w'=>e=.returned (.int .i64 0)∧ae F w w'∧∃m',co w' (grow F w w') cb p most (clock+1) ms mb m'∧cP n most (clock+1) (bM tx (i,s)) g m':=by
 have c4:=h.box.cell 4 (.map (some mb)) rfl;have qz:=h.nc hg;have zx:=h.map;have e1:(!((s.length:Int)==256))=false:=by rw[MY.2 U];rfl
 have Bj:=Hd qz;have Js:=Hd zx;have HH:=Hd h;have HO:=Hd ho;have HRM:=Hd hroom;have HG:=Hd hg;have HT:=Hd ht;clear qz zx h ho hroom hg ht;go_enter func212,ntmps212;go_wp2_with (at_lookup;refine jD _ ρ _ _ 256 false ρ 3 257 underlying256 underlying3 (.pointer none) (l6 _) mb _ Js.out i ρ ρ ?_);rw[Bj.out];go_wp2_with fail;go_simp;go_wp2_with fail;refine HRM.out.mono ?_;rintro e w2 ⟨rfl,t2,m',h2,o2,l2,n2⟩;have jM:=n2 i HG.out;have RN:Blk (w2.alloc (.cells (mK ⟨w2.heap.size,[],false,0⟩) 263)) w2.heap.size 263 (mK ⟨w2.heap.size,[],false,0⟩):=Blk.new w2 _ _;have h3:=h2.keep (Q.alloc w2 (.cells (mK ⟨w2.heap.size,[],false,0⟩) 263));have c4':=h3.box.cell 4 (.map (some mb)) rfl;change (w2.alloc (.cells #[ah [],.bool false,.int .i64 0,.int .i64 0] 263)).cell? ⟨cb,4,none⟩=some (.map (some mb)) at c4';have zV:=h3.map;have HKA:=Hd RN;have H3:=Hd h3;have Y5:=Hd zV;have T2:=Hd t2;have O2:=Hd (And.intro o2 (And.intro l2 jM));have H2:=Hd h2;clear RN h3 zV t2 h2 o2 l2 n2 jM c4;go_wp2_with (at_mapUpdate;refine uR _ ρ _ _ _ 256 ρ 3 257 underlying256 underlying3 mb _ Y5.out i (au w2.heap.size) ρ ρ ρ ?_);intro w4 xD lV zY;have t4:=co.eK lV;have h4:co w4 (fun x=>F x∨x=w2.heap.size) cb p most clock ms mb (cK i ⟨w2.heap.size,[],false,0⟩ m'):=H3.out.laid O2.out.2.2 (k:=⟨w2.heap.size,[],false,0⟩) rfl HKA.out (fun x=>Iff.rfl) xD t4
 have gK:∀x∈m',x.2.p≠w2.heap.size:=fun x hx e=>by have:=H2.out.lt _ (H2.out.kept x hx).2;rw[e] at this;exact TE _ this
 have o4:cP n most (clock+1) (bM tx (i,s)) g (cK i ⟨w2.heap.size,s,true,clock+1⟩ m'):=O2.out.1.Kb O2.out.2.2 O2.out.2.1 hi w2.heap.size gK s HT.out;have rG:=wW i (⟨w2.heap.size,[],false,0⟩:gq) m' O2.out.1.keys;have Y6:((cK i (⟨w2.heap.size,[],false,0⟩:gq) m').map (·.2.p)).Nodup:=by
  rw[za O2.out.2.2,N5];refine PT.2 ⟨O2.out.1.ptrs,κ,fun a ha b hb=>?_⟩
  obtain⟨x,hx,rfl⟩:=MD.1 ha;simp only[No,VC,Mo] at hb;subst hb;exact gK x hx
 have Yp:bC i (cK i (⟨w2.heap.size,[],false,0⟩:gq) m')=some ⟨w2.heap.size,[],false,0⟩:=by rw[y8,Φ rfl]
 have mP:=(h4.kept _ (gH Yp)).1;have d0:=mP.cell 0 (ah []) rfl;have d1:=mP.cell 1 (.bool false) rfl;have f0:=mP.frozen 0;have f1:=mP.frozen 1;simp only[] at d0 d1 f0 f1;have Dt:Blk ((w4.setCell ⟨w2.heap.size,0,none⟩ (ah s)).setCell ⟨w2.heap.size,1,none⟩ (.bool true)) w2.heap.size 263 (mK ⟨w2.heap.size,s,true,0⟩):=(mP.set 0 (ah s)).set 1 (.bool true);have t5:ae (fun x=>x=w2.heap.size) w4 ((w4.setCell ⟨w2.heap.size,0,none⟩ (ah s)).setCell ⟨w2.heap.size,1,none⟩ (.bool true)):=ae.setCell (a:=⟨w2.heap.size,1,none⟩) (ae.setCell (a:=⟨w2.heap.size,0,none⟩) (ae.refl (fun x=>x=w2.heap.size) w4) (.inl rfl) _) (.inl rfl) _
 have h5:=h4.j8 rG Y6 Yp (k':=⟨w2.heap.size,s,true,0⟩) rfl t5 Dt;have LK:bC i (cK i (⟨w2.heap.size,s,true,0⟩:gq) (cK i ⟨w2.heap.size,[],false,0⟩ m'))=some ⟨w2.heap.size,s,true,0⟩:=by rw[y8,Φ rfl]
 have cu:=Iq _ _ cb p most clock ms mb _ i _ h5 LK (wW _ _ _ rG) (by rw[BP (v:=⟨w2.heap.size,s,true,0⟩) rG Y6 Yp rfl];exact Y6) hc
 rw[Gd,Gd] at cu;have zZ:((w4.setCell ⟨w2.heap.size,0,none⟩ (ah s)).setCell ⟨w2.heap.size,1,none⟩ (.bool true)).heap.size=w4.heap.size:=by rw[bO,bO]
 have CU:=Hd cu;have O4:=Hd o4;have T4:=Hd t4;have T5:=Hd t5;have RO:=Hd zZ;have GR:=Hd zY;clear xD lV zY t4 h4 o4 c4' rG Y6 Yp mP Dt t5 h5 LK cu zZ gK;go_wp2_with fail;refine CU.out.mono ?_;rintro e w6 ⟨rfl,h6,t6,Cn⟩;have H6:=Hd h6;have T6:=Hd t6;have RP:=Hd Cn;clear h6 t6 Cn;go_wp2_with fail;go_ret;have Km:w.heap.size≤w2.heap.size:=T2.out.size;have ta:ae F w (w2.alloc (.cells (mK ⟨w2.heap.size,[],false,0⟩) 263)):=T2.out.q (Q.alloc _ _);have tb:ae F w w4:=ta.trans (T4.out.mono (fun x hx=>by subst hx;exact HH.out.fm))
 have Fq:w2.heap.size<w4.heap.size:=by rw[GR.out];simp
 have tc:=tb.step (T5.out.mono (own':=grow F w w4) (fun x hx=>by subst hx;exact .inr ⟨Km,Fq⟩))
 have td:ae F w w6:=tc.step (T6.out.mono (fun x hx=>hx.elim .inl (fun hx=>.inr (by subst hx;exact⟨Km,by rw[RO.out];exact Fq⟩))))
 exact⟨rfl,td,_,H6.out.mono (fun x hx=>hx.elim .inl (fun hx=>.inr (by subst hx;exact⟨Km,by rw[RP.out,RO.out];exact Fq⟩))) (fun x hx=>hx.elim (fun hx=>Ψ (HH.out.lt x hx) td.size) (fun hx=>hx.2)),O4.out⟩
theorem AD(w:World)(F:Nat→Prop)(cb p n most clock:Nat)(ms:Int)(mb:Nat)(m:bU)(tx:List WrL)(g:Nat→Bytes)(i:Nat)(s:Bytes)(h:co w F cb p most clock ms mb m)(ho:cP n most clock tx g m)
  (hi:63≤i∧i<n) (hc:clock≤1000000000000000000) (hs:s.length=256) (ht:(bM tx (i,s)).length≤48)
  (hroom:Ir w F n most clock tx g cb p ms mb m) :
  Calls prog 212 #[au cb,.int .i64 (i:Nat),ah s] w fun e w'=>e=.returned (.int .i64 0)∧ae F w w'∧∃m',co w' (grow F w w') cb p most (clock+1) ms mb m'∧cP n most (clock+1) (bM tx (i,s)) g m':=by
 cases hg:bC i m with
 | some k =>
  refine(Cp w F cb p most clock ms mb m i k s h hg ho.keys ho.ptrs hc hs).mono ?_;rintro e w' ⟨rfl,h1,t1,hz⟩;exact⟨rfl,t1,_,h1.mono (fun x hx=>.inl hx) (fun x hx=>hx.elim (fun hx=>Ψ (h.lt x hx) t1.size) (fun hx=>hx.2)),ho.tj hg s ht⟩
 | none=>exact CN w F cb p n most clock ms mb m tx g i s h ho hg hi hc hs ht hroom
end
end Go.Proofs.YtbkahhebmpehnaaGreatDoor
