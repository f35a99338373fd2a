/- Joined: MapI to WCrc -/
import Derived.Test.YtonlbpljghohmaaGreatDoorCWBase2
import Derived.Deep.RegionHeld3
import Derived.WalkSpells
import Derived.WalkLawsBesides
set_option linter.all false
set_option maxRecDepth 100000
set_option maxHeartbeats 8000000
namespace Go.Proofs.YtonlbpljghohmaaGreatDoor
open Tryz
section
open Go.RowKit Go.MapKept
def cK{α:Type}(k:Nat)(v:α):List (Nat×α)→List (Nat×α)
 | []=>[(k,v)]
 | x::m=>if x.1=k then(k,v)::m else x::cK k v m
def bC{α:Type}(k:Nat):List (Nat×α)→Option α
 | []=>none
 | x::m=>if x.1=k then some x.2 else bC k m
def kN{α:Type}(k:Nat):List (Nat×α)→List (Nat×α)
 | []=>[]
 | x::m=>if x.1=k then m else x::kN k m
abbrev dX(k:Nat):Value:=.int .i64 (k:Nat)
abbrev kvI(e:MapEntry):Value×Value:=(e.key,e.val)
abbrev kvN(x:Nat×Value):Value×Value:=(dX x.1,x.2)
def de(w:World)(b:Nat)(m:List (Nat×Value)):Prop :=
 ∃es clock,w.heap[b]?=some (.map es clock)∧Stamped es clock∧es.toList.map kvI=m.map kvN
theorem de.lt{w:World}{b:Nat}{m:List (Nat×Value)}(h:de w b m):b<w.heap.size:=by
 obtain⟨es,clock,hb,_⟩:=h;exact(Ss.1 hb).1
theorem de.same{w w':World}{b:Nat}{m:List (Nat×Value)}(h:de w b m)(hb:w'.heap[b]?=w.heap[b]?):de w' b m:=by
 obtain⟨es,clock,h1,h2,h3⟩:=h;exact⟨es,clock,hb.trans h1,h2,h3⟩
theorem de.made(w:World):de (w.alloc (.map #[] 0)) w.heap.size []:=⟨#[],0,(MapKept.heap_alloc w _).1,stamped_empty 0,rfl⟩
theorem Cd{a b:Nat}(h:dX a=dX b):a=b:=by
 injection h with _ h;omega
theorem IQ(a b:Nat):Instr.sameNow (.int .i64) (dX a) (dX b)=some (decide (a=b)):=by
 by_cases h:a=b
 ·subst h;simp[Instr.sameNow]
 ·have:¬((a:Int)=b):=U
  simp[Instr.sameNow,this,h]
theorem de.nodup{w:World}{b:Nat}{m:List (Nat×Value)}(h:de w b m):(m.map (·.1)).Nodup:=by
 obtain⟨es,clock,_,⟨_,_,h3⟩,h4⟩:=h;have e:es.toList.map (·.key)=m.map fun x=>dX x.1:=by
  have:=RE (List.map Prod.fst) h4;simpa[SJ,W6] using this
 rw[e] at h3;have:(m.map fun x=>dX x.1)=(m.map (·.1)).map dX:=by simp[SJ,W6]
 rw[this] at h3;exact(abp.1 h3).imp (fun aU e=>aU (RE dX e))
theorem lL(k:Nat):∀(m:List (Nat×Value)) (l:List MapEntry) (i:Nat),l.map kvI=m.map kvN →
  (bC k m=none∧Instr.findNow (.int .i64) (dX k) l i=some none∧(∀e∈l,e.key≠dX k)∧(∀v,cK k v m=m++[(k,v)])∧kN k m=m) ∨
  ∃j e v,l[j]?=some e∧e.key=dX k∧e.val=v∧m[j]?=some (k,v)∧bC k m=some v∧Instr.findNow (.int .i64) (dX k) l i=some (some (i+j,v))∧(∀v',cK k v' m=m.set j (k,v'))∧kN k m=m.eraseIdx j
 | [],l,i,h=>by
  have:l=[]:=by simpa using h
  subst this
  exact Or.inl ⟨rfl,rfl,κ,fun _=>rfl,rfl⟩
 | x::m,l,i,h=>by
  cases l with
  | nil=>simp at h
  | cons e l =>
   simp only[On,aal] at h
   obtain⟨h1,h2⟩:=h
   have hk:e.key=dX x.1:=RE Prod.fst h1
   have hv:e.val=x.2:=RE Prod.snd h1
   by_cases hx:x.1=k
   ·refine Or.inr ⟨0,e,x.2,rfl,by rw[hk,hx],hv,by rw[←hx];rfl,by simp[bC,hx],?_,fun v'=>by simp[cK,hx],by simp[kN,hx]⟩
    have hs:=IQ k k
    rw[NO rfl] at hs
    simp[Instr.findNow,hk,hx,hv,hs]
   ·have hs:Instr.findNow (.int .i64) (dX k) (e::l) i=Instr.findNow (.int .i64) (dX k) l (i+1):=by
     have:=IQ k x.1;simp[Instr.findNow,hk,this,abH hx]
    rcases lL k m l (i+1) h2 with ⟨a,b,c,d,dd⟩|⟨j,e',v,a,b,c,d,f,g,p,dd⟩
    ·refine Or.inl ⟨by simp[bC,hx,a],by rw[hs,b],?_,fun v=>by simp[cK,hx,d],by simp[kN,hx,dd]⟩
     intro e' OB;rcases NL.1 OB with rfl|OB
     ·rw[hk]
      intro hh;exact hx (Cd hh)
     ·exact c e' OB
    ·exact Or.inr ⟨j+1,e',v,by simpa using a,b,c,by simpa using d,by simp[bC,hx,f],by rw[hs,g];simp;omega,fun v'=>by simp[cK,hx,p],by simp[kN,hx,dd]⟩
theorem uH{P:Program}{w:World}{b:Nat}{m:List (Nat×Value)}(h:de w b m)(t kt et:TypeId)(hm:P.underlying t=some (.map kt et))(hd:P.underlying kt=some (.int .i64))(z:Value)(hz:(zeroValue et).run P w=.ok z w)(k:Nat)(ok:Bool):
  (Instr.lookup t (.map (some b)) (dX k) ok).run P w=.ok (if ok then .tuple #[(bC k m).getD z,.bool (bC k m).isSome] else(bC k m).getD z) w:=by
 obtain⟨es,clock,hb,hs,hk⟩:=h;have iN:IsKey (.int .i64) (dX k):=rfl;rcases lL k m es.toList 0 hk with ⟨a,f,_,_⟩|⟨j,e,v,_,_,_,_,a,f,_⟩
 ·simp[Instr.lookup,run_underlying hm,MapKept.run_getObj_map hb,run_checkKey hd iN,run_findKey hd f,hz,Result.andThen,a]
 ·simp[Instr.lookup,run_underlying hm,MapKept.run_getObj_map hb,run_checkKey hd iN,run_findKey hd f,Result.andThen,a]
theorem ME{P:Program}{w:World}{b:Nat}{m:List (Nat×Value)}(h:de w b m)(t kt et:TypeId)(hm:P.underlying t=some (.map kt et))(hd:P.underlying kt=some (.int .i64))(k:Nat)(v:Value):
  ∃w',(Instr.mapUpdate t (.map (some b)) (dX k) v).run P w=.ok () w'∧de w' b (cK k v m)∧w.grownBy w' (some b)∧w'.heap.size=w.heap.size:=by
 obtain⟨es,clock,hb,hs,hk⟩:=h;have iN:IsKey (.int .i64) (dX k):=rfl;rcases lL k m es.toList 0 hk with ⟨a,f,g,p,_⟩|⟨j,e,u,hj,he,hv,hmj,a,f,p,_⟩
 ·refine⟨{ w with heap:=w.heap.setIfInBounds b (.map (es.push { key:=dX k,val:=v,born:=clock }) (clock+1)) },?_,⟨_,_,(heap_set hb).1,stamped_push hs g,?_⟩,⟨rfl,rfl,rfl,κ,fun i _ hi=>(heap_set hb).2 i (fun e=>hi (by rw[e]))⟩,κ⟩
  ·simp[Instr.mapUpdate,run_underlying hm,MapKept.run_getObj_map hb,run_checkKey hd iN,run_findKey hd f,run_setObj_map _ hb,Result.andThen]
  ·rw[p];simp[hk]
 ·have xR:es[j]?=some e:=by simpa using hj
  refine⟨{ w with heap:=w.heap.setIfInBounds b (.map (es.modify j fun e=>{ e with key:=dX k,val:=v }) clock) },?_,⟨_,_,(heap_set hb).1,stamped_modify hs _ _ (fun _ _=>rfl) (fun e' _ OB=>by rw[xR] at OB;cases OB;exact he.symm),?_⟩,⟨rfl,rfl,rfl,κ,fun i _ hi=>(heap_set hb).2 i (fun e=>hi (by rw[e]))⟩,κ⟩
  ·simp[Instr.mapUpdate,run_underlying hm,MapKept.run_getObj_map hb,run_checkKey hd iN,run_findKey hd f,xR,he,run_keyThatStays iN,run_setObj_map _ hb,Result.andThen]
  ·rw[p]
   apply List.ext_getElem?;intro i;have hi:=RE (fun l=>l[i]?) hk
   simp only[UB] at hi;simp only[UB,Array.getElem?_toList,VV,abo];by_cases GQ:j=i
   ·subst GQ
    have ay:j<m.length:=(Pi.1 hmj).1;simp[xR,ay]
   ·simp[GQ];simpa using hi
theorem rC{α β:Type}(f:α→β):∀(l:List α) (j:Nat),(l.eraseIdx j).map f=(l.map f).eraseIdx j
 | [],j=>rfl
 | x::l,0=>rfl
 | x::l,j+1=>by simp[rC f l j]
theorem MF{P:Program}{w:World}{b:Nat}{m:List (Nat×Value)}(h:de w b m)(t kt et:TypeId)(hm:P.underlying t=some (.map kt et))(hd:P.underlying kt=some (.int .i64))(k:Nat):
  ∃w',(∀ty,(Builtin.delete_ #[t,kt] ty #[.map (some b),dX k]).run P w=.ok (.tuple #[]) w')∧de w' b (kN k m)∧w.grownBy w' (some b)∧w'.heap.size=w.heap.size:=by
 obtain⟨es,clock,hb,hs,hk⟩:=h;have iN:IsKey (.int .i64) (dX k):=rfl;rcases lL k m es.toList 0 hk with ⟨a,f,g,_,p⟩|⟨j,e,u,hj,he,hv,hmj,a,f,_,p⟩
 ·refine⟨{ w with heap:=w.heap.setIfInBounds b (.map es clock) },?_,⟨_,_,(heap_set hb).1,hs,by rw[p];exact hk⟩,⟨rfl,rfl,rfl,κ,fun i _ hi=>(heap_set hb).2 i (fun e=>hi (by rw[e]))⟩,κ⟩
  intro ty;simp[Builtin.delete_,run_underlying hm,MapKept.run_getObj_map hb,run_checkKey hd iN,run_findKey hd f,run_setObj_map _ hb,Result.andThen]
 ·refine⟨{ w with heap:=w.heap.setIfInBounds b (.map (es.eraseIdxIfInBounds j) clock) },?_,⟨_,_,(heap_set hb).1,stamped_erase hs j,?_⟩,⟨rfl,rfl,rfl,κ,fun i _ hi=>(heap_set hb).2 i (fun e=>hi (by rw[e]))⟩,κ⟩
  ·intro ty;simp[Builtin.delete_,run_underlying hm,MapKept.run_getObj_map hb,run_checkKey hd iN,run_findKey hd f,run_setObj_map _ hb,Result.andThen]
  ·have ay:j<es.size:=by
    have:=(Pi.1 hj).1;simpa using this
   rw[p,rC,←hk,←rC];congr 1;unfold Array.eraseIdxIfInBounds;rw[dif_pos ay];simp
theorem Px{P:Program}{w:World}{b:Nat}{m:List (Nat×Value)}(h:de w b m)(t kt et ty:TypeId)(hm:P.underlying t=some (.map kt et)):
  ∃w',(Builtin.clear_ #[t] ty #[.map (some b)]).run P w=.ok (.tuple #[]) w'∧de w' b []∧w.grownBy w' (some b)∧w'.heap.size=w.heap.size:=by
 obtain⟨es,clock,hb,hs,hk⟩:=h;refine⟨{ w with heap:=w.heap.setIfInBounds b (.map #[] clock) },?_,⟨_,_,(heap_set hb).1,stamped_empty _,rfl⟩,⟨rfl,rfl,rfl,κ,fun i _ hi=>(heap_set hb).2 i (fun e=>hi (by rw[e]))⟩,κ⟩
 simp[Builtin.clear_,run_underlying hm,MapKept.run_getObj_map hb,run_setObj_map _ hb,Result.andThen]
section
variable {P:Program} (w:World) {ops:Array Oper} {rest:List Oper} {o:Oper} {a:Act} {Q:Exit→Act→World→Prop}
theorem uR(hg:o.guard=none)(mo x vo:Operand)(t:TypeId)(fB:o.op=Op.mapUpdate t mo x vo)
  (kt et:TypeId) (hm:P.underlying t=some (.map kt et)) (hd:P.underlying kt=some (.int .i64)) (b:Nat) (m:List (Nat×Value)) (h:de w b m) (k:Nat) (v:Value) (Vv:a.eval mo=.map (some b)) (hx:a.eval x=dX k) (hv:a.eval vo=v)
  (hK:∀w',de w' b (cK k v m)→w.grownBy w' (some b)→w'.heap.size=w.heap.size→wpList P ops Q rest (a.put o.dst undef) w'):wpList P ops Q (o::rest) a w:=by
 refine wpList_plain hg fun K' hK'=>?_
 obtain⟨w',nP,r1,r2,r3⟩:=ME h t kt et hm hd k v;unfold Oper.wp;simp[execOp,fB,Vv,hx,hv,nP,Result.andThen];exact hK' _ _ (hK w' r1 r2 r3)
theorem jD(hg:o.guard=none)(mo x:Operand)(t:TypeId)(ok:Bool)(fB:o.op=Op.lookup t mo x ok)
  (kt et:TypeId) (hm:P.underlying t=some (.map kt et)) (hd:P.underlying kt=some (.int .i64)) (z:Value) (hz:(zeroValue et).run P w=.ok z w) (b:Nat) (m:List (Nat×Value)) (h:de w b m) (k:Nat) (Vv:a.eval mo=.map (some b)) (hx:a.eval x=dX k)
  (hK:wpList P ops Q rest (a.put o.dst (if ok then .tuple #[(bC k m).getD z,.bool (bC k m).isSome] else(bC k m).getD z)) w):wpList P ops Q (o::rest) a w:=by
 refine wpList_plain hg fun K' hK'=>?_
 have nP:=uH h t kt et hm hd z hz k ok;unfold Oper.wp;simp[execOp,fB,Vv,hx,nP,Result.andThen];exact hK' _ _ hK
theorem IU{P:Program}{w:World}{b:Nat}{m:List (Nat×Value)}(h:de w b m)(t kt et r:TypeId)(hm:P.underlying t=some (.map kt et)):
  (Builtin.len_ #[t] r #[.map (some b)]).run P w=.ok (.int .i64 m.length) w:=by
 obtain⟨es,clock,hb,hs,hk⟩:=h;have:es.size=m.length:=by have:=RE List.length hk;simpa using this
 simp[Builtin.len_,run_underlying hm,MapKept.run_getObj_map hb,goInt,Result.andThen,this]
end
theorem y8{α:Type}(k l:Nat)(v:α)(m:List (Nat×α)):bC l (cK k v m)=if k=l then some v else bC l m:=by
 induction m with
 | nil=>simp[cK,bC]
 | cons x m ih =>
  by_cases hx:x.1=k
  ·by_cases hl:k=l<;>simp[cK,bC,hx,hl]
  ·by_cases hl:k=l
   ·subst hl;simp[cK,bC,hx,ih]
   ·simp[cK,bC,hx,ih,hl]
theorem gH{α:Type}{k:Nat}{v:α}{m:List (Nat×α)}(h:bC k m=some v):(k,v)∈m:=by
 induction m with
 | nil=>simp[bC] at h
 | cons x m ih =>
  unfold bC at h;split at h
  ·rename_i hx
   injection h with h;subst hx h;exact Nm ..
  ·exact M1 _ (ih h)
theorem kL{α:Type}{k:Nat}{v:α}{m:List (Nat×α)}(hn:(m.map (·.1)).Nodup)(h:(k,v)∈m):bC k m=some v:=by
 induction m with
 | nil=>simp at h
 | cons x m ih =>
  simp only[On,SR] at hn;unfold bC;rcases NL.1 h with h|h
  ·subst h;simp
  ·rw[η]
   ·exact ih hn.2 h
   ·intro e
    exact hn.1 (NF.2 ⟨(k,v),h,e.symm⟩)
theorem oK{α:Type}{k:Nat}{m:List (Nat×α)}:bC k m=none↔∀x∈m,x.1≠k:=by
 induction m with
 | nil=>simp[bC]
 | cons x m ih =>
  unfold bC;by_cases hx:x.1=k
  ·simp[hx]
  ·simp[hx,ih]
theorem Ip{α:Type}(k:Nat)(m:List (Nat×α))(hn:(m.map (·.1)).Nodup):kN k m=m.filter fun x=>x.1 != k:=by
 induction m with
 | nil=>rfl
 | cons x m ih =>
  simp only[On,SR] at hn;unfold kN;by_cases hx:x.1=k
  ·rw[Φ hx,adx (by simp[hx])]
   symm;refine acP.2 (fun y hy=>?_)
   have:y.1≠k:=fun e=>hn.1 (NF.2 ⟨y,hy,by rw[e,hx]⟩)
   simpa using this
  ·rw[η hx,ih hn.2,ady (by simpa using hx)]
theorem IV{α:Type}(k:Nat)(v:α)(m:List (Nat×α)):(cK k v m).length=if (bC k m).isSome then m.length else m.length+1:=by
 induction m with
 | nil=>rfl
 | cons x m ih =>
  unfold cK bC;by_cases hx:x.1=k
  ·simp[hx]
  ·simp only[hx,PR,Mu,ih]
   split<;>rfl
theorem Qj{α β:Type}(f:α→β)(k:Nat)(v:α)(m:List (Nat×α)):(cK k v m).map (fun x=>(x.1,f x.2))=cK k (f v) (m.map fun x=>(x.1,f x.2)):=by
 induction m with
 | nil=>rfl
 | cons x m ih =>
  unfold cK;by_cases hx:x.1=k
  ·simp[hx]
  ·simp[hx,ih]
theorem Qk{α β:Type}(f:α→β)(k:Nat)(m:List (Nat×α)):bC k (m.map fun x=>(x.1,f x.2))=(bC k m).map f:=by
 induction m with
 | nil=>rfl
 | cons x m ih =>
  simp only[On,bC];by_cases hx:x.1=k
  ·simp[hx]
  ·simp[hx,ih]
theorem Ql{α β:Type}(f:α→β)(k:Nat)(m:List (Nat×α)):(kN k m).map (fun x=>(x.1,f x.2))=kN k (m.map fun x=>(x.1,f x.2)):=by
 induction m with
 | nil=>rfl
 | cons x m ih =>
  unfold kN;by_cases hx:x.1=k
  ·simp[hx]
  ·simp[hx,ih]
theorem Nq{α:Type}(k:Nat)(v:α)(m:List (Nat×α)):∀y,y∈(cK k v m).map (·.1)↔y=k∨y∈m.map (·.1):=by
 induction m with
 | nil=>simp[cK]
 | cons x m ih =>
  intro y;unfold cK;by_cases hx:x.1=k
  ·simp[hx]
  ·simp only[hx,PR,On,NL,ih]
   grind
end
section
structure gq where
 p:Nat
 data:Bytes
 cz:Bool
 used:Nat
abbrev bU:=List (Nat×gq)
structure cN (n most clock:Nat) (tx:List WrL) (g:Nat→Bytes) (m:bU):Prop where
 keys:(m.map (·.1)).Nodup
 ptrs:(m.map (·.2.p)).Nodup
 cap:64≤most∧most≤1024
 len:m.length≤most
 data:∀x∈m,x.2.data=bH tx x.1 (g x.1)
 cz:∀x∈m,x.2.cz=true↔∃w∈tx,w.1=x.1
 all:∀w∈tx,∃x∈m,x.1=w.1
 used:∀x∈m,x.2.used≤clock
 range:∀x∈m,63≤x.1∧x.1<n
 rise:l8 tx
 short:tx.length≤48
theorem BW{α:Type}{k:Nat}{v:α}{m:List (Nat×α)}{x:Nat×α}(h:x∈cK k v m):x=(k,v)∨(x∈m∧(x.1≠k∨bC k m=none∨True)):=by
 induction m with
 | nil=>left;simpa[cK] using h
 | cons y m ih =>
  unfold cK at h;split at h
  ·rcases NL.1 h with h|h
   ·exact .inl h
   ·exact .inr ⟨M1 _ h,.inr (.inr trivial)⟩
  ·rcases NL.1 h with h|h
   ·subst h;exact .inr ⟨Nm ..,.inr (.inr trivial)⟩
   ·rcases ih h with h|⟨h,_⟩
    ·exact .inl h
    ·exact .inr ⟨M1 _ h,.inr (.inr trivial)⟩
theorem y9{α:Type}{k:Nat}{v:α}{m:List (Nat×α)}(hn:(m.map (·.1)).Nodup){x:Nat×α}:x∈cK k v m↔x=(k,v)∨(x∈m∧x.1≠k):=by
 induction m with
 | nil=>simp[cK]
 | cons y m ih =>
  simp only[On,SR] at hn;unfold cK;by_cases hy:y.1=k
  ·rw[Φ hy]
   constructor
   ·intro h
    rcases NL.1 h with h|h
    ·exact .inl h
    ·refine .inr ⟨M1 _ h,fun e=>hn.1 ?_⟩
     exact NF.2 ⟨x,h,by rw[e,hy]⟩
   ·rintro(h|⟨h,h2⟩)
    ·exact NL.2 (.inl h)
    ·rcases NL.1 h with h|h
     ·subst h;exact absurd hy h2
     ·exact M1 _ h
  ·rw[η hy]
   constructor
   ·intro h
    rcases NL.1 h with h|h
    ·subst h;exact .inr ⟨Nm ..,hy⟩
    ·rcases (ih hn.2).1 h with h|⟨h,h2⟩
     ·exact .inl h
     ·exact .inr ⟨M1 _ h,h2⟩
   ·rintro(h|⟨h,h2⟩)
    ·exact M1 _ ((ih hn.2).2 (.inl h))
    ·rcases NL.1 h with h|h
     ·subst h;exact Nm ..
     ·exact M1 _ ((ih hn.2).2 (.inr ⟨h,h2⟩))
theorem wW{α:Type}(k:Nat)(v:α)(m:List (Nat×α))(h:(m.map (·.1)).Nodup):((cK k v m).map (·.1)).Nodup:=by
 induction m with
 | nil=>simp[cK]
 | cons y m ih =>
  simp only[On,SR] at h;unfold cK;by_cases hy:y.1=k
  ·rw[Φ hy]
   simp only[On,SR];exact⟨by rw[←hy];exact h.1,h.2⟩
  ·rw[η hy]
   simp only[On,SR];refine⟨fun hc=>?_,ih h.2⟩
   rcases (Nq k v m y.1).1 hc with hc|hc
   ·exact hy hc
   ·exact h.1 hc
theorem BP{k:Nat}{v u:gq}{m:bU}(hk:(m.map (·.1)).Nodup)(h:(m.map (·.2.p)).Nodup)(hg:bC k m=some u)(hp:v.p=u.p):((cK k v m).map (·.2.p))=m.map (·.2.p):=by
 induction m with
 | nil=>simp[bC] at hg
 | cons y m ih =>
  simp only[On,SR] at hk h;unfold cK;unfold bC at hg;by_cases hy:y.1=k
  ·rw[Φ hy] at hg ⊢
   injection hg with hg;subst hg;simp[hp]
  ·rw[η hy] at hg ⊢
   simp only[On,ih hk.2 h.2 hg]
theorem za{α:Type}{k:Nat}{v:α}{m:List (Nat×α)}(hg:bC k m=none):cK k v m=m++[(k,v)]:=by
 induction m with
 | nil=>rfl
 | cons y m ih =>
  unfold bC at hg;unfold cK;by_cases hy:y.1=k
  ·rw[Φ hy] at hg;cases hg
  ·rw[η hy] at hg ⊢
   rw[ih hg];rfl
theorem KV(tx:List WrL)(h:l8 tx)(i:Nat)(s t:Bytes)(hw:(i,t)∈tx):bH tx i s=t:=by
 refine uz tx (i,t) s hw (fun x hx Bf=>?_)
 have hp:=h;clear h;induction tx with
 | nil=>simp at hw
 | cons y l ih =>
  have RI:=Tu.1 hp;rcases NL.1 hx with ex|hx<;>rcases NL.1 hw with ew|hw
  ·rw[ex,←ew]
  ·have:=RI.1 _ hw;rw[←ex] at this;simp only at this Bf;omega
  ·have:=RI.1 _ hx;rw[←ew] at this;simp only at this Bf;omega
  ·exact ih hw hx RI.2
namespace cN
variable {n most clock:Nat} {tx:List WrL} {g:Nat→Bytes} {m:bU}
theorem hit(h:cN n most clock tx g m){i:Nat}{k:gq}(hg:bC i m=some k):k.data=bH tx i (g i):=h.data _ (gH hg)
theorem miss(h:cN n most clock tx g m){i:Nat}(hg:bC i m=none):∀w∈tx,w.1≠i:=fun w hw e=>by
 obtain⟨x,hx,he⟩:=h.all w hw
 exact oK.1 hg x hx (by rw[he,e])
theorem use(h:cN n most clock tx g m){i:Nat}{k:gq}(hg:bC i m=some k):cN n most (clock+1) tx g (cK i { k with used:=clock+1 } m):=by
 have hm:=gH hg;have eF:=fun x=>y9 (k:=i) (v:={ k with used:=clock+1 }) h.keys (x:=x)
 have Vw:=BP (v:=({ k with used:=clock+1 }:gq)) h.keys h.ptrs hg rfl;refine⟨wW _ _ _ h.keys,by rw[Vw];exact h.ptrs,h.cap,by rw[IV,hg];exact h.len,?_,?_,?_,?_,?_,h.rise,h.short⟩
 ·intro x hx
  rcases (eF x).1 hx with rfl|⟨hx,_⟩
  ·exact h.data (i,k) hm
  ·exact h.data x hx
 ·intro x hx
  rcases (eF x).1 hx with rfl|⟨hx,_⟩
  ·exact h.cz (i,k) hm
  ·exact h.cz x hx
 ·intro w hw
  obtain⟨x,hx,he⟩:=h.all w hw;by_cases Bf:x.1=i
  ·exact⟨_,(eF _).2 (.inl rfl),by rw[←he,Bf]⟩
  ·exact⟨x,(eF x).2 (.inr ⟨hx,Bf⟩),he⟩
 ·intro x hx
  rcases (eF x).1 hx with rfl|⟨hx,_⟩
  ·exact Ω _
  ·exact Nat.le_succ_of_le (h.used x hx)
 ·intro x hx
  rcases (eF x).1 hx with rfl|⟨hx,_⟩
  ·exact h.range (i,k) hm
  ·exact h.range x hx
theorem drop(h:cN n most clock tx g m){i:Nat}{k:gq}(hg:bC i m=some k)(hd:k.cz=false):cN n most clock tx g (kN i m)∧(kN i m).length+1=m.length:=by
 have hm:=gH hg;have e:=Ip i m h.keys;have mq:(kN i m).Sublist m:=by rw[e];exact abM
 have eF:∀x,x∈kN i m↔x∈m∧x.1≠i:=fun x=>by rw[e];simp
 have bI:¬∃w∈tx,w.1=i:=fun hc=>by
  have:=(h.cz _ hm).2 hc;simp only[hd] at this;exact absurd this Z
 have hlen:(kN i m).length+1=m.length:=by
  clear mq eF bI e;have hk:=h.keys;clear h hm;induction m with
  | nil=>simp[bC] at hg
  | cons y m ih =>
   unfold bC at hg;unfold kN;by_cases hy:y.1=i
   ·rw[Φ hy];rfl
   ·rw[η hy] at hg ⊢
    rw[Mu,Mu,ih hg (SR.1 hk).2]
 refine⟨⟨(mq.map _).nodup h.keys,(mq.map _).nodup h.ptrs,h.cap,by have:=h.len;omega,fun x hx=>h.data x ((eF x).1 hx).1,fun x hx=>h.cz x ((eF x).1 hx).1,fun w hw=>?_,fun x hx=>h.used x ((eF x).1 hx).1,fun x hx=>h.range x ((eF x).1 hx).1,h.rise,h.short⟩,hlen⟩
 obtain⟨x,hx,he⟩:=h.all w hw;exact⟨x,(eF x).2 ⟨hx,fun hc=>bI ⟨w,hw,by rw[←he,hc]⟩⟩,he⟩
theorem ry(h:cN n most clock tx g m)(hl:most≤m.length):∃x∈m,x.2.cz=false:=by
 refine adi (fun hc=>?_)
 have hall:∀x∈m,x.2.cz=true:=fun x hx=>by
  cases hd:x.2.cz with
  | true=>rfl
  | false=>exact absurd ⟨x,hx,hd⟩ hc
 have mq:m.map (·.1) ⊆ tx.map (·.1):=fun i hi=>by
  obtain⟨x,hx,rfl⟩:=NF.1 hi;obtain⟨w,hw,he⟩:=(h.cz x hx).1 (hall x hx);exact NF.2 ⟨w,hw,he⟩
 have:=acB h.keys mq;simp only[OK] at this;have:=h.short;have:=h.cap.1;omega
theorem lay(h:cN n most clock tx g m){i:Nat}(hg:bC i m=none)(hl:m.length<most)(hi:63≤i∧i<n)(k:gq)(hp:∀x∈m,x.2.p≠k.p)(hd:k.data=g i)(hc:k.cz=false)(hu:k.used≤clock):cN n most clock tx g (cK i k m):=by
 have LJ:=h.miss hg;rw[za hg];have Kl:=oK.1 hg;refine⟨?_,?_,h.cap,by simp;omega,?_,?_,?_,?_,?_,h.rise,h.short⟩
 ·rw[Pu]
  refine R0.2 ⟨h.keys,κ,fun a ha b hb=>?_⟩
  obtain⟨x,hx,rfl⟩:=NF.1 ha;simp only[On,Wg,M3] at hb;subst hb;exact Kl x hx
 ·rw[Pu]
  refine R0.2 ⟨h.ptrs,κ,fun a ha b hb=>?_⟩
  obtain⟨x,hx,rfl⟩:=NF.1 ha;simp only[On,Wg,M3] at hb;subst hb;exact hp x hx
 ·intro x hx
  rcases No.1 hx with hx|hx
  ·exact h.data x hx
  ·rw[M3] at hx;subst hx
   simp only[hd];rw[dM _ _ _ LJ]
 ·intro x hx
  rcases No.1 hx with hx|hx
  ·exact h.cz x hx
  ·rw[M3] at hx;subst hx
   simp only[hc];exact⟨fun e=>absurd e Z,fun ⟨w,hw,e⟩=>absurd e (LJ w hw)⟩
 ·intro w hw
  obtain⟨x,hx,he⟩:=h.all w hw;exact⟨x,ZZ _ hx,he⟩
 ·intro x hx
  rcases No.1 hx with hx|hx
  ·exact h.used x hx
  ·rw[M3] at hx;subst hx;exact hu
 ·intro x hx
  rcases No.1 hx with hx|hx
  ·exact h.range x hx
  ·rw[M3] at hx;subst hx;exact hi
theorem yo(l:List WrL)(h:l8 l)(w x:WrL):x∈bM l w↔x=w∨(x∈l∧x.1≠w.1):=by
 induction l with
 | nil=>simp[bM]
 | cons y l ih =>
  have hp:=Tu.1 h;unfold bM;split
  ·rename_i ay
   rw[NL,ih hp.2,NL];constructor
   ·rintro(rfl|h|h)
    ·exact .inr ⟨.inl rfl,U⟩
    ·exact .inl h
    ·exact .inr ⟨.inr h.1,h.2⟩
   ·rintro(h|⟨h|h,h2⟩)
    ·exact .inr (.inl h)
    ·exact .inl h
    ·exact .inr (.inr ⟨h,h2⟩)
  ·split
   ·rename_i hn he
    rw[NL,NL];constructor
    ·rintro(h|h)
     ·exact .inl h
     ·exact .inr ⟨.inr h,by have:=hp.1 _ h;omega⟩
    ·rintro(h|⟨h|h,h2⟩)
     ·exact .inl h
     ·subst h;exact absurd he h2
     ·exact .inr h
   ·rename_i hn he
    rw[NL,NL];constructor
    ·rintro(h|h|h)
     ·exact .inl h
     ·subst h;exact .inr ⟨.inl rfl,U⟩
     ·exact .inr ⟨.inr h,by have:=hp.1 _ h;omega⟩
    ·rintro(h|⟨h,_⟩)
     ·exact .inl h
     ·exact .inr h
theorem ye(h:cN n most clock tx g m){i:Nat}{k:gq}(hg:bC i m=some k)(s:Bytes)(hs:(bM tx (i,s)).length≤48):cN n most (clock+1) (bM tx (i,s)) g (cK i ⟨k.p,s,true,clock+1⟩ m):=by
 have hm:=gH hg;have eF:=fun x=>y9 (k:=i) (v:=⟨k.p,s,true,clock+1⟩) h.keys (x:=x)
 have Vw:=BP (v:=(⟨k.p,s,true,clock+1⟩:gq)) h.keys h.ptrs hg rfl;have mO:=yo tx h.rise (i,s);have hl:=fun j t=>KO tx (i,s) h.rise j t
 refine⟨wW _ _ _ h.keys,by rw[Vw];exact h.ptrs,h.cap,by rw[IV,hg];exact h.len,?_,?_,?_,?_,?_,F6 _ _ h.rise,hs⟩
 ·intro x hx
  rw[hl];rcases (eF x).1 hx with rfl|⟨hx,aU⟩
  ·rw[Φ rfl]
  ·rw[η (fun e=>aU e.symm)];exact h.data x hx
 ·intro x hx
  rcases (eF x).1 hx with rfl|⟨hx,aU⟩
  ·exact⟨fun _=>⟨(i,s),(mO _).2 (.inl rfl),rfl⟩,fun _=>rfl⟩
  ·rw[h.cz x hx]
   constructor
   ·rintro⟨w,hw,he⟩;exact⟨w,(mO w).2 (.inr ⟨hw,by rw[he];exact aU⟩),he⟩
   ·rintro⟨w,hw,he⟩
    rcases (mO w).1 hw with rfl|⟨hw,_⟩
    ·exact absurd he.symm aU
    ·exact⟨w,hw,he⟩
 ·intro w hw
  rcases (mO w).1 hw with rfl|⟨hw,aU⟩
  ·exact⟨_,(eF _).2 (.inl rfl),rfl⟩
  ·obtain⟨x,hx,he⟩:=h.all w hw
   exact⟨x,(eF x).2 (.inr ⟨hx,by rw[he];exact aU⟩),he⟩
 ·intro x hx
  rcases (eF x).1 hx with rfl|⟨hx,_⟩
  ·exact Ω _
  ·exact Nat.le_succ_of_le (h.used x hx)
 ·intro x hx
  rcases (eF x).1 hx with rfl|⟨hx,_⟩
  ·exact h.range (i,k) hm
  ·exact h.range x hx
theorem K0(h:cN n most clock tx g m){i:Nat}(hg:bC i m=none)(hl:m.length<most)(hi:63≤i∧i<n)(p:Nat)(hp:∀x∈m,x.2.p≠p)(s:Bytes)(hs:(bM tx (i,s)).length≤48):cN n most (clock+1) (bM tx (i,s)) g (cK i ⟨p,s,true,clock+1⟩ m):=by
 have h1:=h.lay hg hl hi ⟨p,g i,false,clock⟩ hp rfl rfl (Ω _);have jM:bC i (cK i (⟨p,g i,false,clock⟩:gq) m)=some ⟨p,g i,false,clock⟩:=by rw[y8,Φ rfl]
 have h2:=h1.ye jM s hs;have e:cK i (⟨p,s,true,clock+1⟩:gq) (cK i ⟨p,g i,false,clock⟩ m)=cK i ⟨p,s,true,clock+1⟩ m:=by
  rw[za hg,za hg];have Kl:=oK.1 hg;clear h h1 h2 jM hl hp hg;induction m with
  | nil=>simp[cK]
  | cons y m ih =>
   rw[PC,cK,η (Kl y (Nm ..)),ih (fun x hx=>Kl x (M1 _ hx))];rfl
 rw[e] at h2;exact h2
theorem cleaned(h:cN n most clock tx g m)(g':Nat→Bytes)(hg:∀i,63≤i∧i<n→g' i=bH tx i (g i)):cN n most clock [] g' (m.map fun x=>(x.1,{ x.2 with cz:=false })):=by
 refine⟨by simpa[SJ,W6] using h.keys,by simpa[SJ,W6] using h.ptrs,h.cap,by simpa using h.len,?_,?_,κ,?_,?_,by simp[l8],κ⟩
 ·intro x hx
  obtain⟨y,hy,rfl⟩:=NF.1 hx;show y.2.data=g' y.1;rw[hg _ (h.range y hy)];exact h.data y hy
 ·intro x hx
  obtain⟨y,hy,rfl⟩:=NF.1 hx;simp
 ·intro x hx
  obtain⟨y,hy,rfl⟩:=NF.1 hx;exact h.used y hy
 ·intro x hx
  obtain⟨y,hy,rfl⟩:=NF.1 hx;exact h.range y hy
theorem dropped(h:cN n most clock tx g m):cN n most clock [] g (m.filter fun x => !x.2.cz):=by
 have mq:(m.filter fun x => !x.2.cz).Sublist m:=abM
 have eF:∀x,x∈m.filter (fun x => !x.2.cz)→x∈m∧x.2.cz=false:=fun x hx=>by
  have:=QP.1 hx;simpa using this
 refine⟨(mq.map _).nodup h.keys,(mq.map _).nodup h.ptrs,h.cap,My mq.length_le h.len,?_,?_,κ,?_,?_,by simp[l8],κ⟩
 ·intro x hx
  obtain⟨h1,h2⟩:=eF x hx;have:=h.data x h1;rw[this,dM _ _ _ (fun w hw e=>?_)];rfl
  have:=(h.cz x h1).2 ⟨w,hw,e⟩;rw[h2] at this;exact absurd this Z
 ·intro x hx
  obtain⟨h1,h2⟩:=eF x hx;simp[h2]
 ·intro x hx;exact h.used x (eF x hx).1
 ·intro x hx;exact h.range x (eF x hx).1
theorem ext(h:cN n most clock tx g m){g':Nat→Bytes}(hg:∀i,63≤i∧i<n→g' i=g i):cN n most clock tx g' m :=
 ⟨h.keys,h.ptrs,h.cap,h.len,fun x hx=>by rw[hg _ (h.range x hx)];exact h.data x hx,h.cz,h.all,h.used,h.range,h.rise,h.short⟩
theorem empty(n most:Nat)(g:Nat→Bytes)(h:64≤most∧most≤1024):cN n most 0 [] g [] :=
 ⟨κ,κ,h,κ,κ,κ,κ,κ,κ,by simp[l8],κ⟩
theorem Hi(h:cN n most clock tx g m)(l:List Nat)(hl:l.Perm (m.map (·.1)))(hs:l.Pairwise (·≤·)):(l.filterMap fun i=>(bC i m).bind fun k=>if k.cz then some (i,k.data) else none)=tx:=by
 have lU:l.Nodup:=hl.nodup_iff.2 h.keys;have ay:l.Pairwise (·<·):=by
  refine(List.pairwise_and_iff.2 ⟨hs,lU⟩).imp (fun ⟨a,b⟩=>U)
 have eF:∀x:WrL,x∈(l.filterMap fun i=>(bC i m).bind fun k=>if k.cz then some (i,k.data) else none)↔x∈tx:=fun x=>by
  rw[List.mem_filterMap];constructor
  ·rintro⟨i,hi,hx⟩
   cases hg:bC i m with
   | none=>rw[hg] at hx;cases hx
   | some k =>
    rw[hg] at hx;simp only[aci] at hx;split at hx
    ·rename_i hd
     injection hx with hx;obtain⟨w,hw,he⟩:=(h.cz _ (gH hg)).1 hd;have acC:=h.hit hg;have Y3:(i,w.2)∈tx:=by simp only at he;rw[←he];exact hw
     rw[KV tx h.rise i _ w.2 Y3] at acC;rw[←hx,acC];exact Y3
    ·cases hx
  ·intro hx
   obtain⟨y,hy,he⟩:=h.all x hx;have hg:=kL h.keys (k:=y.1) (v:=y.2) hy;refine⟨y.1,hl.mem_iff.2 (NF.2 ⟨y,hy,rfl⟩),?_⟩;rw[hg];simp only[aci];rw[Φ ((h.cz y hy).2 ⟨x,hx,he.symm⟩),h.data y hy];have:(y.1,x.2)∈tx:=by rw[he];exact hx
   rw[KV tx h.rise y.1 _ x.2 this,he]
 have hr:l8 (l.filterMap fun i=>(bC i m).bind fun k=>if k.cz then some (i,k.data) else none):=by
  refine List.Pairwise.filterMap _ (fun a b uU x hx y hy=>?_) ay
  have acD:∀(i:Nat) (x:WrL),(bC i m).bind (fun k=>if k.cz then some (i,k.data) else none)=some x→x.1=i:=fun i x hx=>by
   cases hg:bC i m with
   | none=>rw[hg] at hx;cases hx
   | some k =>
    rw[hg] at hx;simp only[aci] at hx;split at hx
    ·injection hx with hx;rw[←hx]
    ·cases hx
  rw[acD a x hx,acD b y hy];exact uU
 refine List.Perm.eq_of_pairwise (le:=fun (x y:WrL)=>x.1<y.1) (fun a b _ _ h1 h2=>U) hr h.rise ?_
 refine(YY ?_ ?_).2 eF
 ·exact hr.imp (fun h e=>by rw[e] at h;omega)
 ·exact h.rise.imp (fun h e=>by rw[e] at h;omega)
end cN
end
section
open Go.RowKit
def mK(k:gq):Array Value:=#[ah k.data,.bool k.cz,.int .i64 0,.int .i64 (k.used:Nat)]
def DL(p most clock:Nat)(ms:Int)(mb:Nat):Array Value:=#[.iface 164 (au p),.int .i64 (most:Nat),.int .i64 (clock:Nat),.int .i64 ms,.map (some mb)]
abbrev mapOf(m:bU):List (Nat×Value):=m.map fun x=>(x.1,au x.2.p)
structure cj (w:World) (F:Nat→Prop) (cb p most clock:Nat) (ms:Int) (mb:Nat) (m:bU):Prop where
 box:Blk w cb 253 (DL p most clock ms mb)
 fb:F cb
 map:de w mb (mapOf m)
 fm:F mb
 kept:∀x∈m,Blk w x.2.p 259 (mK x.2)∧F x.2.p
 lt:∀k,F k→k<w.heap.size
theorem rX{w:World}{a b:Nat}{t:TypeId}{cs:Array Value}{m:List (Nat×Value)}(h:Blk w a t cs)(k:de w b m):a≠b:=by
 rintro rfl;obtain⟨es,clock,hb,_⟩:=k;unfold Blk at h;rw[h] at hb;cases hb
namespace cj
variable {w w':World} {F G:Nat→Prop} {cb p most clock:Nat} {ms:Int} {mb:Nat} {m:bU}
theorem mono(h:cj w F cb p most clock ms mb m)(k:∀i,F i→G i)(hl:∀i,G i→i<w.heap.size):cj w G cb p most clock ms mb m :=
 ⟨h.box,k _ h.fb,h.map,k _ h.fm,fun x hx=>⟨(h.kept x hx).1,k _ (h.kept x hx).2⟩,hl⟩
theorem beside(h:cj w F cb p most clock ms mb m)(t:ae G w w')(hd:∀k,F k→¬G k):cj w' F cb p most clock ms mb m :=
 ⟨t.blk h.box (hd _ h.fb),h.fb,h.map.same (t.block _ h.map.lt (hd _ h.fm)),h.fm,fun x hx=>⟨t.blk (h.kept x hx).1 (hd _ (h.kept x hx).2),(h.kept x hx).2⟩,fun k hk=>Ψ (h.lt k hk) t.size⟩
theorem keep(h:cj w F cb p most clock ms mb m)(q:Q w w'):cj w' F cb p most clock ms mb m:=h.beside (ae.br (own:=fun _=>False) q) (fun _ _=>id)
theorem apart(h:cj w F cb p most clock ms mb m):cb≠mb∧∀x∈m,x.2.p≠cb∧x.2.p≠mb :=
 ⟨rX h.box h.map,fun x hx=>⟨Gb (h.kept x hx).1 h.box Z,rX (h.kept x hx).1 h.map⟩⟩
theorem hM(h:cj w F cb p most clock ms mb m)(t:ae (fun k=>k=cb) w w'){clock':Nat}{ms':Int}(hb:Blk w' cb 253 (DL p most clock' ms' mb)):cj w' F cb p most clock' ms' mb m :=
 ⟨hb,h.fb,h.map.same (t.block _ h.map.lt (fun e=>h.apart.1 e.symm)),h.fm,fun x hx=>⟨t.blk (h.kept x hx).1 (h.apart.2 x hx).1,(h.kept x hx).2⟩,fun k hk=>Ψ (h.lt k hk) t.size⟩
theorem Is{m:bU}(hp:(m.map (·.2.p)).Nodup){x y:Nat×gq}(hx:x∈m)(hy:y∈m)(e:x.2.p=y.2.p):x=y:=by
 induction m with
 | nil=>simp at hx
 | cons z m ih =>
  simp only[On,SR] at hp;rcases NL.1 hx with ex|hx<;>rcases NL.1 hy with ey|hy
  ·rw[ex,ey]
  ·exact absurd (NF.2 ⟨y,hy,by rw[←e,ex]⟩) hp.1
  ·exact absurd (NF.2 ⟨x,hx,by rw[e,ey]⟩) hp.1
  ·exact ih hp.2 hx hy
theorem se{α:Type}{k:Nat}{v:α}{m:List (Nat×α)}(h:bC k m=some v):cK k v m=m:=by
 induction m with
 | nil=>cases h
 | cons y m ih =>
  unfold bC at h;unfold cK;by_cases hy:y.1=k
  ·rw[Φ hy] at h ⊢
   injection h with h;subst hy h;rfl
  ·rw[η hy] at h ⊢
   rw[ih h]
theorem kl(h:cj w F cb p most clock ms mb m)(hk:(m.map (·.1)).Nodup)(hp:(m.map (·.2.p)).Nodup){i:Nat}{k k':gq}(hg:bC i m=some k)(he:k'.p=k.p)(t:ae (fun x=>x=k.p) w w')(hb:Blk w' k.p 259 (mK k')):cj w' F cb p most clock ms mb (cK i k' m):=by
 have hm:=gH hg;have uV:=h.apart;have e:mapOf (cK i k' m)=mapOf m:=by
  unfold mapOf;rw[Qj (fun k:gq=>au k.p),he]
  exact se (by rw[Qk (fun k:gq=>au k.p),hg];rfl)
 refine⟨t.blk h.box (fun e=>(uV.2 _ hm).1 e.symm),h.fb,by rw[e];exact h.map.same (t.block _ h.map.lt (fun e=>(uV.2 _ hm).2 e.symm)),h.fm,fun x hx=>?_,fun k hk=>Ψ (h.lt k hk) t.size⟩
 rcases (y9 hk).1 hx with rfl|⟨hx,aU⟩
 ·exact⟨by rw[he];exact hb,by rw[he];exact(h.kept _ hm).2⟩
 ·exact⟨t.blk (h.kept x hx).1 (fun e=>aU (by rw[Is hp hx hm e])),(h.kept x hx).2⟩
theorem eL{w w':World}{b:Nat}(hg:w.grownBy w' (some b)):ae (fun k=>k=b) w w' :=
 ⟨hg.os,hg.tape,hg.output,hg.size,fun k h1 h2=>hg.block k h1 (fun e=>h2 (by cases e;rfl))⟩
theorem laid(h:cj w F cb p most clock ms mb m){i g:Nat}{k:gq}(hg:bC i m=none)(hkp:k.p=g)(hb:Blk w g 259 (mK k))(hG:∀x,G x↔F x∨x=g)(hm:de w' mb (cK i (au g) (mapOf m)))(t:ae (fun x=>x=mb) w w'):cj w' G cb p most clock ms mb (cK i k m):=by
 have uV:=h.apart;have hgm:=rX hb h.map;have e:mapOf (cK i k m)=cK i (au g) (mapOf m):=by
  unfold mapOf;rw[Qj (fun k:gq=>au k.p),hkp]
 refine⟨t.blk h.box uV.1,(hG _).2 (.inl h.fb),by rw[e];exact hm,(hG _).2 (.inl h.fm),fun x hx=>?_,fun x hx=>?_⟩
 ·rw[za hg] at hx
  rcases No.1 hx with hx|hx
  ·exact⟨t.blk (h.kept x hx).1 (uV.2 x hx).2,(hG _).2 (.inl (h.kept x hx).2)⟩
  ·rw[M3] at hx;subst hx
   exact⟨by rw[hkp];exact t.blk hb hgm,(hG _).2 (.inr hkp)⟩
 ·rcases (hG x).1 hx with hx|rfl
  ·exact Ψ (h.lt x hx) t.size
  ·exact Ψ hb.lt t.size
theorem gone(h:cj w F cb p most clock ms mb m){i:Nat}(hk:(m.map (·.1)).Nodup)(hm:de w' mb (kN i (mapOf m)))(t:ae (fun x=>x=mb) w w'):cj w' F cb p most clock ms mb (kN i m):=by
 have uV:=h.apart;have e:mapOf (kN i m)=kN i (mapOf m):=by unfold mapOf;rw[Ql (fun k:gq=>au k.p)]
 have mq:∀x∈kN i m,x∈m:=fun x hx=>by rw[Ip i m hk] at hx;exact(QP.1 hx).1
 exact⟨t.blk h.box uV.1,h.fb,by rw[e];exact hm,h.fm,fun x hx=>⟨t.blk (h.kept x (mq x hx)).1 (uV.2 x (mq x hx)).2,(h.kept x (mq x hx)).2⟩,fun x hx=>Ψ (h.lt x hx) t.size⟩
theorem look(h:cj w F cb p most clock ms mb m)(i:Nat):bC i (mapOf m)=(bC i m).map fun k=>au k.p:=Qk (fun k:gq=>au k.p) i m
theorem ij(h:cj w F cb p most clock ms mb m){i:Nat}{k:gq}(hg:bC i m=some k):(bC i (mapOf m)).getD (.pointer none)=au k.p:=by rw[h.look,hg];rfl
theorem nm(h:cj w F cb p most clock ms mb m){i:Nat}(hg:bC i m=none):(bC i (mapOf m)).getD (.pointer none)=.pointer none:=by rw[h.look,hg];rfl
theorem len(h:cj w F cb p most clock ms mb m):(mapOf m).length=m.length:=OK ..
end cj
theorem l6(w:World):(zeroValue 257).run prog w=.ok (.pointer none) w:=by kernel_rfl
end
section
open Go.RowKit
theorem MG(w:World)(F:Nat→Prop)(b:Nat)(d:af)(i:Int)(h:cE w F b d)(hm:d.l.length≤4096):
  Calls prog 197 #[au b,.int .i64 i] w fun e w'=>e=.returned (.int .i64 (d.chk i))∧w=w':=by
 obtain⟨g,cap,pv,hb,_,_,_,_,_⟩:=h;obtain⟨c0,c1,c2,c3,_⟩:=hb.c4;unfold af.chk;generalize d.dead=dd at *;generalize d.l.length=n at *;clear hb;cases dd with
 | true =>
  simp only[QQ];go_enter func197,ntmps197;go_wp2;go_ret;exact⟨rfl,rfl⟩
 | false =>
  simp only[N0,PR];by_cases h0:i<0
  ·have e1:decide (i<0)=true:=NO h0
   rw[η U];go_enter func197,ntmps197;go_wp2;go_ret;exact⟨rfl,rfl⟩
  ·have e1:decide (i<0)=false:=Nx h0
   by_cases h1:i<n
   ·have e2:decide ((n:Int)≤i)=false:=Nx U
    rw[Φ ⟨U,h1⟩];go_enter func197,ntmps197;go_wp2;go_ret;exact⟨rfl,rfl⟩
   ·have e2:decide ((n:Int)≤i)=true:=NO U
    rw[η U];go_enter func197,ntmps197;go_wp2;go_ret;exact⟨rfl,rfl⟩
theorem Nr(w:World)(F:Nat→Prop)(b g cap:Nat)(pv:Value)(d:af)(h:dp w F b g cap pv d)(hf : -1≤d.b9)(hf1:d.b9≤9223372036854775807):
  Calls prog 299 #[au b] w fun e w'=>e=.returned (.int .i64 (if d.b9=0 then 4 else 0))∧dp w' F b g cap pv d.bh∧ae F w w'∧w'.heap.size=w.heap.size:=by
 obtain⟨c0,c1,c2,c3,f0,f1,f2,f3⟩:=h.box.c4;by_cases h0:d.b9=0
 ·have e1:(d.b9==0)=true:=NX.2 h0
  have hd:d.bh={ d with dead:=true }:=by unfold af.bh;rw[Φ h0]
  have hend:=h.dead true;rw[Φ h0,hd];have bP:=bO w ⟨b,3,none⟩ (.bool true);have HE:=Hd hend;have HS:=Hd bP;clear h hend hd bP;go_enter func299,ntmps299;go_wp2;go_ret;exact⟨rfl,HE.out.1,HE.out.2,HS.out⟩
 ·rcases Int.lt_or_le (d.b9-1) (-1) with hm|hm
  ·have e1:(d.b9==0)=false:=Γ.2 h0
   have hd:d.bh={ d with b9 := -1 }:=by unfold af.bh;rw[η h0,show max (d.b9-1) (-1) = -1 by omega]
   have hend:=h.b9 (-1);rw[η h0,hd];have bP:=bO w ⟨b,2,none⟩ (.int .i64 (-1));have HE:=Hd hend;have HS:=Hd bP;clear h hend hd bP;go_enter func299,ntmps299;go_wp2;go_ret;exact⟨rfl,HE.out.1,HE.out.2,HS.out⟩
  ·have e1:(d.b9==0)=false:=Γ.2 h0
   have hd:d.bh={ d with b9:=d.b9-1 }:=by unfold af.bh;rw[η h0,show max (d.b9-1) (-1)=d.b9-1 by omega]
   have hend:=h.b9 (d.b9-1);rw[η h0,hd];have bP:=bO w ⟨b,2,none⟩ (.int .i64 (d.b9-1));have HE:=Hd hend;have HS:=Hd bP;clear h hend hd bP;go_enter func299,ntmps299;go_wp2;go_ret;exact⟨rfl,HE.out.1,HE.out.2,HS.out⟩
theorem JQ(w:World)(F:Nat→Prop)(b:Nat)(d:af)(h:cE w F b d):
  Calls prog 32 #[au b] w fun e w'=>e=.returned (.bool d.dead)∧w=w':=by
 obtain⟨g,cap,pv,h⟩:=h;obtain⟨c0,c1,c2,c3,f0,f1,f2,f3⟩:=h.box.c4;clear h;go_enter func32,ntmps32;go_wp2;go_ret;exact⟨rfl,rfl⟩
theorem oL(w:World)(F:Nat→Prop)(b:Nat)(d:af)(h:cE w F b d):
  Calls prog 58 #[au b] w fun e w'=>e=.returned (.int .i64 (d.l.length:Nat))∧w=w':=by
 obtain⟨g,cap,pv,h⟩:=h;obtain⟨c0,c1,c2,c3,f0,f1,f2,f3⟩:=h.box.c4;clear h;go_enter func58,ntmps58;go_wp2;go_ret;exact⟨rfl,rfl⟩
theorem Gc(p:List WrL)(i:Nat)(s:Bytes)(m:Nat)(h:∀j (hj:j<p.length),m≤j→p[j].1≠i):bH p i s=bH (p.take m) i s:=by
 conv=>lhs;rw[←PP m p]
 rw[sP];refine dM _ _ _ (fun w hw=>?_)
 obtain⟨j,hj,rfl⟩:=QR hw;rw[W7];exact h _ _ U
theorem sX(p:List WrL)(i:Nat)(s:Bytes)(m:Nat)(hm:m<p.length)(h:∀j (hj:j<p.length),m<j→p[j].1≠i)(he:p[m].1=i):bH p i s=p[m].2:=by
 rw[Gc p i s (m+1) h,M2 hm,uo,Φ he]
theorem AQ(w:World)(F:Nat→Prop)(b:Nat)(d:af)(i:Int)(h:cE w F b d)(hm:d.l.length≤4096)(hp:d.dead=false→d.p.length≤1000000):
  Calls prog 106 #[au b,.int .i64 i] w fun e w'=>e=.returned (.tuple #[ah (d.read i).1,.int .i64 (d.read i).2])∧Q w w':=by
 have hc:=MG w F b d i h hm;by_cases h0:d.chk i=0
 ·have dS:d.dead=false:=by
   unfold af.chk at h0;cases hx:d.dead with
   | false=>rfl
   | true=>rw[hx] at h0;simp at h0
  obtain⟨i,rfl⟩:∃n:Nat,i=n:=⟨i.toNat,by
   unfold af.chk at h0;rw[dS] at h0;simp only[N0,PR] at h0;split at h0
   ·rename_i hx;omega
   ·exact absurd h0 Z⟩
  have Cm:i<d.l.length:=by
   unfold af.chk at h0;rw[dS] at h0;simp only[N0,PR] at h0;split at h0
   ·rename_i hx;omega
   ·exact absurd h0 Z
  have bW:=hp dS;have dz:d.read i=(bH d.p i (d.l.getD i []),0):=by unfold af.read;rw[Φ h0];rfl
  rw[dz];rw[h0] at hc;obtain⟨g,cap,pv,hg⟩:=h;obtain⟨c0,c1,c2,c3,_⟩:=hg.box.c4;obtain⟨pa,pc,D5,nO⟩:=aY hg.row;have bX:=Sl.cy hg.row;subst D5;have Yo:w.cell? ⟨g,i,none⟩=some (ah (d.l.getD i [])):=by
   rw[hg.disk.cell i _ (Qi d.l i Cm),Θ,Mp Cm];rfl
  have Jr:∀m (hm:m<d.p.length),∃g2,pa=some ⟨g2,0,none⟩∧w.cell? ⟨g2,m*2,none⟩=some (.int .i64 (d.p[m].1:Nat))∧w.cell? ⟨g2,m*2+1,none⟩=some (ah d.p[m].2):=fun m hm=>by
   obtain⟨g2,rfl⟩:=nO U;obtain⟨_,a,c,hv,kR⟩:=bX;obtain⟨b2,off,ha,aP⟩:=kR U;simp only[Value.slice.injEq] at hv;rw[←hv.1] at ha;simp only[N6,Addr.mk.injEq] at ha;obtain⟨rfl,rfl,_⟩:=ha;have h1:=aP _ _ (fQ d.p m hm).1;have h2:=aP _ _ (fQ d.p m hm).2;rw[PF] at h1 h2;exact⟨g2,rfl,h1,h2⟩
  generalize d.l.getD i []=s0 at *;generalize d.l.length=n at *;have hcut:=Gc d.p i s0;have RJ:=sX d.p i s0;generalize bH d.p i s0=sr at *;generalize d.p=p at *;have HC:=Hd hc;have RL:=Hd Jr;have aao:=Hd hcut;have ah7:=Hd RJ;clear hc Jr hcut RJ bX nO hg h0 hp dz hm;go_enter func106,ntmps106;go_wp2_with fail;refine HC.out.mono ?_;rintro e w1 ⟨rfl,rfl⟩;go_wp2_with fail;go_loopw [20] (fun v wr=>∃k:Nat,v=.int .i64 (k:Nat)∧k≤p.length∧Hid (∀j (hj:j<p.length),p.length-k≤j→p[j].1≠i)∧Hid (Q w wr)) (fun v _=>p.length-(intOf v).toNat)
  case atStart=>exact⟨0,rfl,MD _,fun j hj hk=>U,Q.refl _⟩
  case round =>
   obtain⟨k,rfl,kW,HK3,HK4⟩:=hrel;have rG:=HK4.out;have d0:=aj rG c0;have d1:=aj rG c1;by_cases ay:k<p.length
   ·have bq:(k:Int)<(p.length:Int):=U
    obtain⟨g2,rfl,e1,e2⟩:=RL.out (p.length-1-k) U;have e1':=aj rG e1;have e2':=aj rG e2;have eO:IntKind.i64.wrap ((p.length:Int)-1)=((p.length-1:Nat):Int):=by rw[IntWalk.i64_in _ U];omega
    have gD:IntKind.i64.wrap (((p.length-1:Nat):Int)-(k:Int))=((p.length-1-k:Nat):Int):=by rw[IntWalk.i64_in _ U];omega
    have iU:((p.length-1-k:Nat):Int)<(p.length:Int):=U;have amq:(0:Int)≤((p.length-1-k:Nat):Int):=U;clear e1 e2 rG;go_wp2_with fail;go_region_held3 (fun w'=>w'.cell? ⟨b,1,none⟩=some (.slice (some ⟨g2,0,none⟩) p.length pc)∧w'.cell? ⟨g2,(p.length-1-k)*2,none⟩=some (.int .i64 (p[p.length-1-k].1:Nat))∧w'.cell? ⟨g2,(p.length-1-k)*2+1,none⟩=some (ah p[p.length-1-k].2))
     (first|exact⟨d1,e1',e2'⟩|exact three (by repeat (first|with_reducible exact Q.refl _|with_reducible apply Qs.dr|with_reducible apply Qs.al|with_reducible refine Qs.st ?_ _ _ (Ω _))) d1 e1' e2')
     (fail)
    all_goals
     by_cases hit:p[p.length-1-k].1=i
     ·have hb:(((p[p.length-1-k].1:Nat):Int)==(i:Nat))=true:=NX.2 U
      have iQ:=ah7.out (p.length-1-k) U (fun j hj OC=>HK3.out j hj U) hit
      have vR:=Hd iQ;clear iQ hit;go_wp2_with fail;go_ret2;exact⟨by rw[vR.out];rfl,HK4.out.trans (by repeat (first|with_reducible exact Q.refl _|with_reducible apply Qs.dr|with_reducible apply Qs.al|with_reducible refine Qs.st ?_ _ _ (Ω _)))⟩
     ·have hb:(((p[p.length-1-k].1:Nat):Int)==(i:Nat))=false:=Γ.2 U
      have HN:=Hd (show ∀j (hj:j<p.length),p.length-(k+1)≤j→p[j].1≠i from fun j hj OC=>by
       by_cases he:j=p.length-1-k
       ·subst he;exact hit
       ·exact HK3.out j hj U)
      clear hit;go_wp2_with fail;go_roundw;case rel=>exact⟨k+1,by go_num,U,HN.out,HK4.out.trans (by repeat (first|with_reducible exact Q.refl _|with_reducible apply Qs.dr|with_reducible apply Qs.al|with_reducible refine Qs.st ?_ _ _ (Ω _)))⟩
      case measure=>simp[intOf];omega
   ·have bq:¬(k:Int)<(p.length:Int):=U
    have iQ:=aao.out 0 (fun j hj _=>HK3.out j hj U)
    rw[TE] at iQ;have vR:=Hd iQ;have d2:=aj rG Yo;have hni:(i:Int)<(n:Int):=U;clear iQ rG;go_wp2_with fail;go_ret2;exact⟨by rw[vR.out];rfl,HK4.out⟩
 ·have e1:(d.chk i==0)=false:=Γ.2 h0
  have dz:d.read i=([],d.chk i):=by unfold af.read;rw[η h0]
  rw[dz];generalize d.chk i=x at *;have HC:=Hd hc;clear hc h hp dz h0;go_enter func106,ntmps106;go_wp2_with fail;refine HC.out.mono ?_;rintro e w1 ⟨rfl,rfl⟩;go_wp2_with fail;go_ret2;exact⟨rfl,Q.refl _⟩
theorem CL(w:World)(p most:Nat)(h1:1≤most)(h2:most≤1024):
  Calls prog 103 #[.iface 164 (au p),.int .i64 (most:Nat)] w fun e w'=>∃cb,e=.returned (.tuple #[au cb,.int .i64 0])∧cj w' (fun k=>w.heap.size≤k∧k<w'.heap.size) cb p most 0 0 w.heap.size []∧Q w w':=by
 have e1:¬(most:Int)<1:=U;have e2:¬(1024:Int)<(most:Int):=U;have zX:=@run_makeMap prog;go_enter func103,ntmps103;go_wp2_with fail;go_ret2;have hb:Blk ((w.alloc (.map #[] 0)).alloc (.cells (DL p most 0 0 w.heap.size) 253)) (w.heap.size+1) 253 (DL p most 0 0 w.heap.size):=by
  have:=Blk.new (w.alloc (.map #[] 0)) 253 (DL p most 0 0 w.heap.size);rwa [World.size_alloc] at this
 exact⟨w.heap.size+1,rfl,⟨hb,⟨U,hb.lt⟩,(de.made w).same (Q.alloc _ _ |>.block _ κ),⟨Ω _,by simp only[World.size_alloc];omega⟩,κ,fun k hk=>hk.2⟩,(Q.alloc _ _).trans (Q.alloc _ _)⟩
theorem Iq(w:World)(F:Nat→Prop)(cb p most clock:Nat)(ms:Int)(mb:Nat)(m:bU)(i:Nat)(k:gq)(h:cj w F cb p most clock ms mb m)(hg:bC i m=some k)(hk:(m.map (·.1)).Nodup)(hp:(m.map (·.2.p)).Nodup)(hc:clock≤1000000000000000000):
  Calls prog 200 #[au cb,au k.p] w fun e w'=>e=.returned (.tuple #[])∧cj w' F cb p most (clock+1) ms mb (cK i { k with used:=clock+1 } m)∧ae F w w'∧w'.heap.size=w.heap.size:=by
 have hm:=gH hg;have hb:=h.box;have mP:=(h.kept _ hm).1;have aU:k.p≠cb:=(h.apart.2 _ hm).1;have c2:=hb.cell 2 (.int .i64 (clock:Nat)) rfl;have f2:=hb.frozen 2;have bN:Blk (w.setCell ⟨cb,2,none⟩ (.int .i64 ((clock:Int)+1))) cb 253 (DL p most (clock+1) ms mb):=hb.set 2 (.int .i64 ((clock:Int)+1));have t2:ae (fun x=>x=cb) w (w.setCell ⟨cb,2,none⟩ (.int .i64 ((clock:Int)+1))):=ae.setCell (a:=⟨cb,2,none⟩) (ae.refl (fun x=>x=cb) w) (.inl rfl) _
 have h2:=h.hM t2 bN;have Dt:Blk (w.setCell ⟨cb,2,none⟩ (.int .i64 ((clock:Int)+1))) k.p 259 (mK k):=t2.blk mP aU;have d3:=Dt.cell 3 (.int .i64 (k.used:Nat)) rfl;have g3:=Dt.frozen 3;have acH:Blk ((w.setCell ⟨cb,2,none⟩ (.int .i64 ((clock:Int)+1))).setCell ⟨k.p,3,none⟩ (.int .i64 ((clock:Int)+1))) k.p 259 (mK { k with used:=clock+1 }):=Dt.set 3 (.int .i64 ((clock:Int)+1));have t3:ae (fun x=>x=k.p) (w.setCell ⟨cb,2,none⟩ (.int .i64 ((clock:Int)+1))) ((w.setCell ⟨cb,2,none⟩ (.int .i64 ((clock:Int)+1))).setCell ⟨k.p,3,none⟩ (.int .i64 ((clock:Int)+1))):=ae.setCell (a:=⟨k.p,3,none⟩) (ae.refl (fun x=>x=k.p) _) (.inl rfl) _
 have hend:=h2.kl hk hp hg (k':={ k with used:=clock+1 }) rfl t3 acH;have ht:=(t2.mono (fun x hx=>by subst hx;exact h.fb)).trans (t3.mono (own':=F) (fun x hx=>by subst hx;exact(h.kept _ hm).2))
 have bP:((w.setCell ⟨cb,2,none⟩ (.int .i64 ((clock:Int)+1))).setCell ⟨k.p,3,none⟩ (.int .i64 ((clock:Int)+1))).heap.size=w.heap.size:=by rw[bO,bO]
 have HE:=Hd hend;have HT:=Hd ht;have HS:=Hd bP;have b2:=bN.cell 2 (.int .i64 ((clock:Int)+1)) rfl;clear hend ht bP acH t3 h2 t2 bN Dt h hg hk hp hm hb mP;go_enter func200,ntmps200;go_wp2;go_end0;exact⟨rfl,HE.out,HT.out,HS.out⟩
theorem UE(n:Nat)(w:World)(p b:Nat)(h:w.cell? ⟨p,0,none⟩=some (au b)):
  (method (n+1) 164 (au p) "Read").run prog w=.ok (106,au b) w:=by
 have hx:((prog.info? 164).bind (fun i=>i.methods.find? (·.name == "Read"))).map (fun m=>(m.path.toList,m.func))=some ([⟨177,0,true⟩],some (106,true)):=by kernel_rfl
 cases hi:prog.info? 164 with
 | none=>rw[hi] at hx;cases hx
 | some i =>
  rw[hi] at hx;simp only[aci] at hx;cases hf:i.methods.find? (·.name == "Read") with
  | none=>rw[hf] at hx;cases hx
  | some m =>
   rw[hf] at hx;simp only[acv,N6,SD] at hx;unfold method;simp only[Sem.run_bind,run_typeInfo w hi,Result.andThen,hf,hx.1,hx.2,follow,run_underlying (w:=w) underlying177];have ig:∀W,(sizeOf 32).run prog W=.ok 1 W:=fun W=>by kernel_rfl
   simp[Place.get,asAddr,fieldPlace,receiverAt,ig,Result.andThen,run_underlying underlying32,oD,go_sem,h]
theorem CN(w:World)(F:Nat→Prop)(cb p most clock:Nat)(ms:Int)(mb:Nat)(m:bU)(i:Nat)(k:gq)(h:cj w F cb p most clock ms mb m)(hg:bC i m=some k)(hk:(m.map (·.1)).Nodup)(hp:(m.map (·.2.p)).Nodup)(hc:clock≤1000000000000000000):
  Calls prog 111 #[au cb,.int .i64 (i:Nat)] w fun e w'=>e=.returned (.tuple #[ah k.data,.int .i64 0])∧cj w' F cb p most (clock+1) ms mb (cK i { k with used:=clock+1 } m)∧ae F w w'∧w'.heap.size=w.heap.size:=by
 have hu:=Iq w F cb p most clock ms mb m i k h hg hk hp hc;have c4:=h.box.cell 4 (.map (some mb)) rfl;have qz:=h.ij hg;have zx:=h.map;have HU:=Hd hu;have Bj:=Hd qz;have Js:=Hd zx;have HH:=Hd h;clear hu qz zx h;go_enter func111,ntmps111;go_wp2_with (at_lookup;refine jD _ ρ _ _ 251 false ρ 3 257 underlying251 underlying3 (.pointer none) (l6 _) mb _ Js.out i ρ ρ ?_);rw[Bj.out];go_wp2_with fail;go_simp;go_wp2_with fail;refine HU.out.mono ?_;rintro e w1 ⟨rfl,h1,t1,bB⟩;have d0:=(h1.kept (i,{ k with used:=clock+1 }) ((y9 hk).2 (.inl rfl))).1.cell 0 (ah k.data) rfl;have H1:=Hd h1;have T1:=Hd t1;have Z1:=Hd bB;simp only[] at d0;clear h1 t1 bB;go_wp2_with fail;go_ret2;exact⟨rfl,H1.out,T1.out,Z1.out⟩
def GP(F:Nat→Prop)(n most clock:Nat)(tx:List WrL)(g:Nat→Bytes)(cb p:Nat)(ms:Int)(mb:Nat)(m:bU)(w:World)(e:Ending)(w':World):Prop :=
 e=.returned (.int .i64 0)∧ae F w w'∧∃m',cj w' F cb p most clock ms mb m'∧cN n most clock tx g m'∧m'.length<most∧∀i,bC i m=none→bC i m'=none
def Ir(w:World)(F:Nat→Prop)(n most clock:Nat)(tx:List WrL)(g:Nat→Bytes)(cb p:Nat)(ms:Int)(mb:Nat)(m:bU):Prop :=
 Calls prog 199 #[au cb] w fun e w'=>GP F n most clock tx g cb p ms mb m w e w'
theorem xF(w:World)(F:Nat→Prop)(cb p b n most clock:Nat)(ms:Int)(mb:Nat)(m:bU)(tx:List WrL)(g:Nat→Bytes)(i:Nat)(h:cj w F cb p most clock ms mb m)(ho:cN n most clock tx g m)(hj:w.cell? ⟨p,0,none⟩=some (au b))(hg:bC i m=none)
  (hi:63≤i∧i<n) (hc:clock≤1000000000000000000) (dz:Calls prog 106 #[au b,.int .i64 (i:Nat)] w fun e w'=>e=.returned (.tuple #[ah (g i),.int .i64 0])∧Q w w')
  (hroom:∀W,Q w W→cj W F cb p most clock ms mb m→Ir W F n most clock tx g cb p ms mb m) :
  Calls prog 111 #[au cb,.int .i64 (i:Nat)] w fun e w'=>e=.returned (.tuple #[ah (g i),.int .i64 0])∧ae F w w'∧∃m' ms',cj w' (grow F w w') cb p most (clock+1) ms' mb m'∧cN n most (clock+1) tx g m':=by
 obtain⟨gi,Y4⟩:∃gi,gi=g i:=⟨_,rfl⟩;rw[←Y4] at dz ⊢;have c0:=h.box.cell 0 (.iface 164 (au p)) rfl;have c4:=h.box.cell 4 (.map (some mb)) rfl;have qz:=h.nm hg;have zx:=h.map;have HGI:=Hd Y4;clear Y4;have Bj:=Hd qz;have Js:=Hd zx;have HH:=Hd h;have HO:=Hd ho;have iO:=Hd dz;have HRM:=Hd hroom;have HG:=Hd hg;have hmr:=fun n=>UE n w p b hj
 clear qz zx h ho dz hroom hg;go_enter func111,ntmps111;go_wp2_with (at_lookup;refine jD _ ρ _ _ 251 false ρ 3 257 underlying251 underlying3 (.pointer none) (l6 _) mb _ Js.out i ρ ρ ?_);rw[Bj.out];go_wp2_with fail;go_simp;go_wp2_with fail;refine iO.out.mono ?_;rintro e w1 ⟨rfl,q1⟩;have h1:=HH.out.keep q1;have cr:=HRM.out w1 q1 h1;have dF:=Hd q1;have CR:=Hd cr;clear q1 h1 cr hmr;go_wp2_with fail;refine CR.out.mono ?_;rintro e w2 ⟨rfl,t2,m',h2,o2,l2,n2⟩;have jM:=n2 i HG.out;have RN:Blk (w2.alloc (.cells (mK ⟨w2.heap.size,gi,false,0⟩) 259)) w2.heap.size 259 (mK ⟨w2.heap.size,gi,false,0⟩):=Blk.new w2 _ _;have h3:=h2.keep (Q.alloc w2 (.cells (mK ⟨w2.heap.size,gi,false,0⟩) 259));have c4':=h3.box.cell 4 (.map (some mb)) rfl;change (w2.alloc (.cells #[ah gi,.bool false,.int .i64 0,.int .i64 0] 259)).cell? ⟨cb,4,none⟩=some (.map (some mb)) at c4';have zV:=h3.map;have HKA:=Hd RN;have H3:=Hd h3;have Y5:=Hd zV;have T2:=Hd t2;have O2:=Hd (And.intro o2 (And.intro l2 jM));have H2:=Hd h2;clear RN h3 zV t2 h2 o2 l2 n2 jM c0 c4;go_wp2_with (at_mapUpdate;refine uR _ ρ _ _ _ 251 ρ 3 257 underlying251 underlying3 mb _ Y5.out i (au w2.heap.size) ρ ρ ρ ?_);intro w4 xD lV zY;have t4:=cj.eL lV;have h4:cj w4 (fun x=>F x∨x=w2.heap.size) cb p most clock ms mb (cK i ⟨w2.heap.size,gi,false,0⟩ m'):=H3.out.laid O2.out.2.2 (k:=⟨w2.heap.size,gi,false,0⟩) rfl HKA.out (fun x=>Iff.rfl) xD t4
 have o4:cN n most clock tx g (cK i ⟨w2.heap.size,gi,false,0⟩ m'):=O2.out.1.lay O2.out.2.2 O2.out.2.1 hi ⟨w2.heap.size,gi,false,0⟩ (fun x hx e=>by have:=H2.out.lt _ (H2.out.kept x hx).2;rw[e] at this;exact US _ this) HGI.out rfl (MD _)
 have c3:=h4.box.cell 3 (.int .i64 ms) rfl;have f3:=h4.box.frozen 3;have T4:=Hd t4;have H4:=Hd h4;have O4:=Hd o4;have GR:=Hd zY;clear xD lV zY t4 h4 o4 c4';go_wp2_with fail;have t5:ae (fun x=>x=cb) w4 (w4.setCell ⟨cb,3,none⟩ (.int .i64 (wrap64 (ms+1)))):=ae.setCell (a:=⟨cb,3,none⟩) (ae.refl (fun x=>x=cb) w4) (.inl rfl) _
 have h5:=H4.out.hM t5 (clock':=clock) (ms':=wrap64 (ms+1)) (H4.out.box.set 3 _);have hk5:=O4.out.keys;have hp5:=O4.out.ptrs;have LK:bC i (cK i (⟨w2.heap.size,gi,false,0⟩:gq) m')=some ⟨w2.heap.size,gi,false,0⟩:=by rw[y8,Φ rfl]
 have cu:=Iq _ _ cb p most clock _ mb _ i _ h5 LK hk5 hp5 hc;have o5:=O4.out.use LK;have zZ:=bO w4 ⟨cb,3,none⟩ (.int .i64 (wrap64 (ms+1)));have CU:=Hd cu;have O5:=Hd o5;have T5:=Hd t5;have RO:=Hd zZ;have HK5:=Hd hk5;clear cu o5 t5 h5 hk5 hp5 LK c3 f3 zZ;refine CU.out.mono ?_;rintro e w6 ⟨rfl,h6,t6,Cn⟩;have d0:=(h6.kept (i,⟨w2.heap.size,gi,false,clock+1⟩) ((y9 HK5.out).2 (.inl rfl))).1.cell 0 (ah gi) rfl;simp only[] at d0;have H6:=Hd h6;have T6:=Hd t6;have RP:=Hd Cn;clear h6 t6 Cn;go_wp2_with fail;go_ret2;have Km:w.heap.size≤w2.heap.size:=My dF.out.size T2.out.size;have D6:F mb:=HH.out.fm;have OD:F cb:=HH.out.fb;have ta:ae F w (w2.alloc (.cells (mK ⟨w2.heap.size,gi,false,0⟩) 259)):=((ae.br dF.out).trans T2.out).q (Q.alloc _ _);have tb:ae F w w4:=ta.trans (T4.out.mono (fun x hx=>by subst hx;exact D6))
 have tc:=tb.trans (T5.out.mono (fun x hx=>by subst hx;exact OD))
 have Fq:w2.heap.size<w4.heap.size:=by rw[GR.out];simp
 have td:ae F w w6:=tc.step (T6.out.mono (fun x hx=>hx.elim .inl (fun hx=>.inr (by subst hx;exact⟨Km,by rw[RO.out];exact Fq⟩))))
 refine⟨rfl,td,_,_,H6.out.mono (fun x hx=>hx.elim .inl (fun hx=>.inr (by subst hx;exact⟨Km,by rw[RP.out,RO.out];exact Fq⟩))) (fun x hx=>hx.elim (fun hx=>Ψ (HH.out.lt x hx) td.size) (fun hx=>hx.2)),O5.out⟩
theorem FG(w:World)(F:Nat→Prop)(cb p b n most clock:Nat)(ms:Int)(mb:Nat)(m:bU)(tx:List WrL)(g:Nat→Bytes)(i:Nat)(h:cj w F cb p most clock ms mb m)(ho:cN n most clock tx g m)(hj:w.cell? ⟨p,0,none⟩=some (au b))
  (hi:63≤i∧i<n) (hc:clock≤1000000000000000000) (dz:Calls prog 106 #[au b,.int .i64 (i:Nat)] w fun e w'=>e=.returned (.tuple #[ah (g i),.int .i64 0])∧Q w w')
  (hroom:∀W,Q w W→cj W F cb p most clock ms mb m→Ir W F n most clock tx g cb p ms mb m) :
  Calls prog 111 #[au cb,.int .i64 (i:Nat)] w fun e w'=>e=.returned (.tuple #[ah (bH tx i (g i)),.int .i64 0])∧ae F w w'∧∃m' ms',cj w' (grow F w w') cb p most (clock+1) ms' mb m'∧cN n most (clock+1) tx g m':=by
 cases hg:bC i m with
 | some k =>
  refine(CN w F cb p most clock ms mb m i k h hg ho.keys ho.ptrs hc).mono ?_;rintro e w' ⟨rfl,h1,t1,hz⟩;exact⟨by rw[ho.hit hg],t1,_,ms,h1.mono (fun x hx=>.inl hx) (fun x hx=>hx.elim (fun hx=>Ψ (h.lt x hx) t1.size) (fun hx=>hx.2)),ho.use hg⟩
 | none =>
  refine(xF w F cb p b n most clock ms mb m tx g i h ho hj hg hi hc dz hroom).mono ?_;rintro e w' ⟨rfl,t1,h1⟩;exact⟨by rw[dM _ _ _ (ho.miss hg)],t1,h1⟩
theorem Gd{α:Type}(k:Nat)(u v:α)(m:List (Nat×α)):cK k v (cK k u m)=cK k v m:=by
 induction m with
 | nil=>simp[cK]
 | cons y m ih =>
  by_cases hy:y.1=k
  ·simp[cK,hy]
  ·simp[cK,hy,ih]
theorem Eg(w:World)(F:Nat→Prop)(cb p most clock:Nat)(ms:Int)(mb:Nat)(m:bU)(i:Nat)(k:gq)(s:Bytes)(h:cj w F cb p most clock ms mb m)(hg:bC i m=some k)(hk:(m.map (·.1)).Nodup)(hp:(m.map (·.2.p)).Nodup)(hc:clock≤1000000000000000000)(hs:s.length=256):
  Calls prog 253 #[au cb,.int .i64 (i:Nat),ah s] w fun e w'=>e=.returned (.int .i64 0)∧cj w' F cb p most (clock+1) ms mb (cK i ⟨k.p,s,true,clock+1⟩ m)∧ae F w w'∧w'.heap.size=w.heap.size:=by
 have hm:=gH hg;have LM:=(h.kept _ hm).2;have qz:=h.ij hg;have zx:=h.map;have c4:=h.box.cell 4 (.map (some mb)) rfl;have mP:=(h.kept _ hm).1;have d0:=mP.cell 0 (ah k.data) rfl;have d1:=mP.cell 1 (.bool k.cz) rfl;have f0:=mP.frozen 0;have f1:=mP.frozen 1;simp only[] at d0 d1 f0 f1;have Dt:Blk ((w.setCell ⟨k.p,0,none⟩ (ah s)).setCell ⟨k.p,1,none⟩ (.bool true)) k.p 259 (mK ⟨k.p,s,true,k.used⟩):=(mP.set 0 (ah s)).set 1 (.bool true);have t2:ae (fun x=>x=k.p) w ((w.setCell ⟨k.p,0,none⟩ (ah s)).setCell ⟨k.p,1,none⟩ (.bool true)):=ae.setCell (a:=⟨k.p,1,none⟩) (ae.setCell (a:=⟨k.p,0,none⟩) (ae.refl (fun x=>x=k.p) w) (.inl rfl) _) (.inl rfl) _
 have h2:=h.kl hk hp hg (k':=⟨k.p,s,true,k.used⟩) rfl t2 Dt;have jM:bC i (cK i (⟨k.p,s,true,k.used⟩:gq) m)=some ⟨k.p,s,true,k.used⟩:=by rw[y8,Φ rfl]
 have hu:=Iq _ F cb p most clock ms mb _ i _ h2 jM (wW _ _ _ hk) (by rw[BP (v:=⟨k.p,s,true,k.used⟩) hk hp hg rfl];exact hp) hc
 rw[Gd] at hu;have bP:((w.setCell ⟨k.p,0,none⟩ (ah s)).setCell ⟨k.p,1,none⟩ (.bool true)).heap.size=w.heap.size:=by rw[bO,bO]
 have e1:(!((s.length:Int)==256))=false:=by rw[NX.2 U];rfl
 have HU:=Hd hu;have Bj:=Hd qz;have Js:=Hd zx;have T2:=Hd t2;have mD:=Hd bP;have LP:=Hd LM;clear hu qz zx h t2 Dt h2 jM bP hm hk hp hg mP LM;go_enter func253,ntmps253;go_wp2_with (at_lookup;refine jD _ ρ _ _ 251 false ρ 3 257 underlying251 underlying3 (.pointer none) (l6 _) mb _ Js.out i ρ ρ ?_);rw[Bj.out];go_wp2_with fail;go_simp;go_wp2_with fail;refine HU.out.mono ?_;rintro e w1 ⟨rfl,h1,t1,bB⟩;have H1:=Hd h1;have T1:=Hd t1;have Z1:=Hd bB;clear h1 t1 bB;go_wp2_with fail;go_ret;exact⟨rfl,H1.out,(T2.out.mono (fun x hx=>by subst hx;exact LP.out)).trans T1.out,by rw[Z1.out,mD.out]⟩
theorem BE(w:World)(F:Nat→Prop)(cb p n most clock:Nat)(ms:Int)(mb:Nat)(m:bU)(tx:List WrL)(g:Nat→Bytes)(i:Nat)(s:Bytes)(h:cj w F cb p most clock ms mb m)(ho:cN n most clock tx g m)(hg:bC i m=none)
  (hi:63≤i∧i<n) (hc:clock≤1000000000000000000) (hs:s.length=256) (ht:(bM tx (i,s)).length≤48)
  (hroom:Ir w F n most clock tx g cb p ms mb m) :
  Calls prog 253 #[au cb,.int .i64 (i:Nat),ah s] w fun e w'=>e=.returned (.int .i64 0)∧ae F w w'∧∃m',cj w' (grow F w w') cb p most (clock+1) ms mb m'∧cN n most (clock+1) (bM tx (i,s)) g m':=by
 have c4:=h.box.cell 4 (.map (some mb)) rfl;have qz:=h.nm hg;have zx:=h.map;have e1:(!((s.length:Int)==256))=false:=by rw[NX.2 U];rfl
 have Bj:=Hd qz;have Js:=Hd zx;have HH:=Hd h;have HO:=Hd ho;have HRM:=Hd hroom;have HG:=Hd hg;have HT:=Hd ht;clear qz zx h ho hroom hg ht;go_enter func253,ntmps253;go_wp2_with (at_lookup;refine jD _ ρ _ _ 251 false ρ 3 257 underlying251 underlying3 (.pointer none) (l6 _) mb _ Js.out i ρ ρ ?_);rw[Bj.out];go_wp2_with fail;go_simp;go_wp2_with fail;refine HRM.out.mono ?_;rintro e w2 ⟨rfl,t2,m',h2,o2,l2,n2⟩;have jM:=n2 i HG.out;have RN:Blk (w2.alloc (.cells (mK ⟨w2.heap.size,[],false,0⟩) 259)) w2.heap.size 259 (mK ⟨w2.heap.size,[],false,0⟩):=Blk.new w2 _ _;have h3:=h2.keep (Q.alloc w2 (.cells (mK ⟨w2.heap.size,[],false,0⟩) 259));have c4':=h3.box.cell 4 (.map (some mb)) rfl;change (w2.alloc (.cells #[ah [],.bool false,.int .i64 0,.int .i64 0] 259)).cell? ⟨cb,4,none⟩=some (.map (some mb)) at c4';have zV:=h3.map;have HKA:=Hd RN;have H3:=Hd h3;have Y5:=Hd zV;have T2:=Hd t2;have O2:=Hd (And.intro o2 (And.intro l2 jM));have H2:=Hd h2;clear RN h3 zV t2 h2 o2 l2 n2 jM c4;go_wp2_with (at_mapUpdate;refine uR _ ρ _ _ _ 251 ρ 3 257 underlying251 underlying3 mb _ Y5.out i (au w2.heap.size) ρ ρ ρ ?_);intro w4 xD lV zY;have t4:=cj.eL lV;have h4:cj w4 (fun x=>F x∨x=w2.heap.size) cb p most clock ms mb (cK i ⟨w2.heap.size,[],false,0⟩ m'):=H3.out.laid O2.out.2.2 (k:=⟨w2.heap.size,[],false,0⟩) rfl HKA.out (fun x=>Iff.rfl) xD t4
 have gK:∀x∈m',x.2.p≠w2.heap.size:=fun x hx e=>by have:=H2.out.lt _ (H2.out.kept x hx).2;rw[e] at this;exact US _ this
 have o4:cN n most (clock+1) (bM tx (i,s)) g (cK i ⟨w2.heap.size,s,true,clock+1⟩ m'):=O2.out.1.K0 O2.out.2.2 O2.out.2.1 hi w2.heap.size gK s HT.out;have rG:=wW i (⟨w2.heap.size,[],false,0⟩:gq) m' O2.out.1.keys;have Y6:((cK i (⟨w2.heap.size,[],false,0⟩:gq) m').map (·.2.p)).Nodup:=by
  rw[za O2.out.2.2,Pu];refine R0.2 ⟨O2.out.1.ptrs,κ,fun a ha b hb=>?_⟩
  obtain⟨x,hx,rfl⟩:=NF.1 ha;simp only[On,Wg,M3] at hb;subst hb;exact gK x hx
 have Yp:bC i (cK i (⟨w2.heap.size,[],false,0⟩:gq) m')=some ⟨w2.heap.size,[],false,0⟩:=by rw[y8,Φ rfl]
 have mP:=(h4.kept _ (gH Yp)).1;have d0:=mP.cell 0 (ah []) rfl;have d1:=mP.cell 1 (.bool false) rfl;have f0:=mP.frozen 0;have f1:=mP.frozen 1;simp only[] at d0 d1 f0 f1;have Dt:Blk ((w4.setCell ⟨w2.heap.size,0,none⟩ (ah s)).setCell ⟨w2.heap.size,1,none⟩ (.bool true)) w2.heap.size 259 (mK ⟨w2.heap.size,s,true,0⟩):=(mP.set 0 (ah s)).set 1 (.bool true);have t5:ae (fun x=>x=w2.heap.size) w4 ((w4.setCell ⟨w2.heap.size,0,none⟩ (ah s)).setCell ⟨w2.heap.size,1,none⟩ (.bool true)):=ae.setCell (a:=⟨w2.heap.size,1,none⟩) (ae.setCell (a:=⟨w2.heap.size,0,none⟩) (ae.refl (fun x=>x=w2.heap.size) w4) (.inl rfl) _) (.inl rfl) _
 have h5:=h4.kl rG Y6 Yp (k':=⟨w2.heap.size,s,true,0⟩) rfl t5 Dt;have LK:bC i (cK i (⟨w2.heap.size,s,true,0⟩:gq) (cK i ⟨w2.heap.size,[],false,0⟩ m'))=some ⟨w2.heap.size,s,true,0⟩:=by rw[y8,Φ rfl]
 have cu:=Iq _ _ cb p most clock ms mb _ i _ h5 LK (wW _ _ _ rG) (by rw[BP (v:=⟨w2.heap.size,s,true,0⟩) rG Y6 Yp rfl];exact Y6) hc
 rw[Gd,Gd] at cu;have zZ:((w4.setCell ⟨w2.heap.size,0,none⟩ (ah s)).setCell ⟨w2.heap.size,1,none⟩ (.bool true)).heap.size=w4.heap.size:=by rw[bO,bO]
 have CU:=Hd cu;have O4:=Hd o4;have T4:=Hd t4;have T5:=Hd t5;have RO:=Hd zZ;have GR:=Hd zY;clear xD lV zY t4 h4 o4 c4' rG Y6 Yp mP Dt t5 h5 LK cu zZ gK;go_wp2_with fail;refine CU.out.mono ?_;rintro e w6 ⟨rfl,h6,t6,Cn⟩;have H6:=Hd h6;have T6:=Hd t6;have RP:=Hd Cn;clear h6 t6 Cn;go_wp2_with fail;go_ret;have Km:w.heap.size≤w2.heap.size:=T2.out.size;have ta:ae F w (w2.alloc (.cells (mK ⟨w2.heap.size,[],false,0⟩) 259)):=T2.out.q (Q.alloc _ _);have tb:ae F w w4:=ta.trans (T4.out.mono (fun x hx=>by subst hx;exact HH.out.fm))
 have Fq:w2.heap.size<w4.heap.size:=by rw[GR.out];simp
 have tc:=tb.step (T5.out.mono (own':=grow F w w4) (fun x hx=>by subst hx;exact .inr ⟨Km,Fq⟩))
 have td:ae F w w6:=tc.step (T6.out.mono (fun x hx=>hx.elim .inl (fun hx=>.inr (by subst hx;exact⟨Km,by rw[RO.out];exact Fq⟩))))
 exact⟨rfl,td,_,H6.out.mono (fun x hx=>hx.elim .inl (fun hx=>.inr (by subst hx;exact⟨Km,by rw[RP.out,RO.out];exact Fq⟩))) (fun x hx=>hx.elim (fun hx=>Ψ (HH.out.lt x hx) td.size) (fun hx=>hx.2)),O4.out⟩
theorem DD(w:World)(F:Nat→Prop)(cb p n most clock:Nat)(ms:Int)(mb:Nat)(m:bU)(tx:List WrL)(g:Nat→Bytes)(i:Nat)(s:Bytes)(h:cj w F cb p most clock ms mb m)(ho:cN n most clock tx g m)
  (hi:63≤i∧i<n) (hc:clock≤1000000000000000000) (hs:s.length=256) (ht:(bM tx (i,s)).length≤48)
  (hroom:Ir w F n most clock tx g cb p ms mb m) :
  Calls prog 253 #[au cb,.int .i64 (i:Nat),ah s] w fun e w'=>e=.returned (.int .i64 0)∧ae F w w'∧∃m',cj w' (grow F w w') cb p most (clock+1) ms mb m'∧cN n most (clock+1) (bM tx (i,s)) g m':=by
 cases hg:bC i m with
 | some k =>
  refine(Eg w F cb p most clock ms mb m i k s h hg ho.keys ho.ptrs hc hs).mono ?_;rintro e w' ⟨rfl,h1,t1,hz⟩;exact⟨rfl,t1,_,h1.mono (fun x hx=>.inl hx) (fun x hx=>hx.elim (fun hx=>Ψ (h.lt x hx) t1.size) (fun hx=>hx.2)),ho.ye hg s ht⟩
 | none=>exact BE w F cb p n most clock ms mb m tx g i s h ho hg hi hc hs ht hroom
end
section
open Go.RowKit Go.MapKept Go.Maps
open Go.ChangeMaps (setBlock)
def kq:Value→Nat
 | .int _ x=>x.toNat
 | _=>0
theorem JR(k:Nat):kq (dX k)=k:=by simp[kq]
def cV(w:World)(b r:Nat)(m:List (Nat×Value))(left:List Nat):Prop :=
 ∃es clock since seen c0,w.heap[b]?=some (.map es clock)∧Stamped es clock∧es.toList.map kvI=m.map kvN∧w.heap[r]?=some (.mapIter (some b) since seen c0)∧(∀x∈es.toList,x.born<since)∧since≤c0∧since≤clock ∧
  left=(leftOf es seen).toList.map fun e=>kq e.key
theorem cV.map{w:World}{b r:Nat}{m:List (Nat×Value)}{left:List Nat}(h:cV w b r m left):de w b m:=by
 obtain⟨es,clock,since,seen,c0,h1,h2,h3,_⟩:=h;exact⟨es,clock,h1,h2,h3⟩
theorem cV.same{w w':World}{b r:Nat}{m:List (Nat×Value)}{left:List Nat}(h:cV w b r m left)(hb:w'.heap[b]?=w.heap[b]?)(hr:w'.heap[r]?=w.heap[r]?):cV w' b r m left:=by
 obtain⟨es,clock,since,seen,c0,h1,h2,h3,h4,rest⟩:=h;exact⟨es,clock,since,seen,c0,hb.trans h1,h2,h3,hr.trans h4,rest⟩
theorem cV.iter{w:World}{b r:Nat}{m:List (Nat×Value)}{left:List Nat}(h:cV w b r m left):∃since seen c0,w.heap[r]?=some (.mapIter (some b) since seen c0):=by
 obtain⟨es,clock,since,seen,c0,h1,h2,h3,h4,rest⟩:=h;exact⟨_,_,_,h4⟩
theorem pw{l:List MapEntry}{m:List (Nat×Value)}(h:l.map kvI=m.map kvN):l.map (fun e=>kq e.key)=m.map (·.1):=by
 have:=RE (List.map fun x:Value×Value=>kq x.1) h
 simp only[SJ,W6,JR] at this;exact this
theorem cV.made{P:Program}{w:World}{b:Nat}{m:List (Nat×Value)}(h:de w b m)(t kt et:TypeId)(ht:P.underlying t=some (.map kt et)):
  ∃o,(Instr.range t (.map (some b))).run P w=.ok (.pointer (some ⟨w.heap.size,0,none⟩)) (w.alloc o)∧cV (w.alloc o) b w.heap.size m (m.map (·.1)):=by
 have ay:=h.lt;obtain⟨es,clock,hb,hs,hm⟩:=h;refine⟨_,run_range_map w t kt et b es clock ht hb,es,clock,clock,#[],clock,((MapKept.heap_alloc w _).2 b ay).trans hb,hs,hm,(MapKept.heap_alloc w _).1,hs.1,Ω _,Ω _,?_⟩;rw[←pw hm];congr 1;simp only[leftOf,Array.toList_filter];exact(acP.2 (fun e _=>κ)).symm
theorem UF{es:Array MapEntry}{clock:Nat}(hs:Stamped es clock)(seen:Array Nat){e:MapEntry}(he:e∈(leftOf es seen).toList):
  ((leftOf es seen).toList).Perm (e::(leftOf es (seen.push e.born)).toList):=by
 have hb:=((stamped_iff es clock).1 hs).2.1;have lU:es.toList.Nodup:=(abp.1 hb).imp (fun aU e=>aU (RE _ e))
 have h1:(leftOf es seen).toList=es.toList.filter fun x => !seen.contains x.born:=by simp[leftOf]
 have h2:(leftOf es (seen.push e.born)).toList=es.toList.filter fun x => !(seen.push e.born).contains x.born:=by simp[leftOf]
 have zy:e∈es.toList:=by rw[h1] at he;exact(QP.1 he).1
 have xV:(!seen.contains e.born)=true:=by rw[h1] at he;exact(QP.1 he).2
 refine(YY ?_ ?_).2 (fun x=>?_)
 ·rw[h1];exact lU.filter _
 ·rw[SR,h2]
  refine⟨fun hc=>?_,lU.filter _⟩
  have:=(QP.1 hc).2;simp[acS] at this
 ·rw[h1,NL,h2,QP,QP]
  have inj:∀x∈es.toList,x.born=e.born→x=e:=fun x hx sH=>born_inj hb hx zy sH
  constructor
  ·rintro⟨hx,mh⟩
   by_cases sH:x.born=e.born
   ·exact .inl (inj x hx sH)
   ·refine .inr ⟨hx,?_⟩
    simp only[acS,Bool.not_or,abz];exact⟨mh,by simpa using sH⟩
  ·rintro(rfl|⟨hx,mh⟩)
   ·exact⟨zy,xV⟩
   ·simp only[acS,Bool.not_or,abz] at mh
    exact⟨hx,mh.1⟩
theorem cV.next{P:Program}{w:World}{b r:Nat}{m:List (Nat×Value)}{left:List Nat}(h:cV w b r m left):
  (left=[]∧∀ty,(Instr.next (.pointer (some ⟨r,0,none⟩)) false ty).run P w=.ok (.tuple #[.bool false]) w) ∨
  ∃k v left' w',(k,v)∈m∧left.Perm (k::left')∧(∀ty,(Instr.next (.pointer (some ⟨r,0,none⟩)) false ty).run P w=.ok (.tuple #[.bool true,dX k,v]) w')∧cV w' b r m left'∧w.grownBy w' (some r)∧w'.heap.size=w.heap.size ∧
   (Instr.entry (.pointer (some ⟨r,0,none⟩))).run P w'=.ok (.tuple #[dX k,v]) w':=by
 obtain⟨es,clock,since,seen,c0,hb,hs,hm,hr,hold,z8,Fu,rfl⟩:=h;have aU:r≠b:=by rintro rfl;rw[hb] at hr;cases hr
 rcases run_next_at (P:=P) w 0 r b since c0 seen es clock hr hb hold z8 with ⟨h0,_⟩|⟨e,he,w1,jy,nP⟩
 ·left
  refine⟨by rw[List.map_eq_nil_iff];exact OS (by simpa using h0),fun ty=>?_⟩
  rcases run_next_at (P:=P) w ty r b since c0 seen es clock hr hb hold z8 with ⟨_,nP⟩|⟨e,he,_⟩
  ·exact nP
  ·have:=List.length_pos_of_mem he
   simp only[Su] at this;omega
 ·right
  obtain⟨zy,xV⟩:=mem_left he;have GU:kvI e∈m.map kvN:=by rw[←hm];exact NF.2 ⟨e,zy,rfl⟩
  obtain⟨⟨k,v⟩,LQ,hke⟩:=NF.1 GU;have hk:e.key=dX k:=(RE Prod.fst hke).symm;have hv:e.val=v:=(RE Prod.snd hke).symm;have Fv:w1.heap[r]?=some (.mapIter (some b) since seen c0):=by rcases jy with rfl|rfl<;>exact hr
  have hb1:w1.heap[b]?=some (.map es clock):=by rcases jy with rfl|rfl<;>exact hb
  have kE:=heap_set (o':=.mapIter (some b) since (seen.push e.born) clock) Fv;have LU:(setBlock w1 r (.mapIter (some b) since (seen.push e.born) clock)).heap[b]?=some (.map es clock):=(kE.2 b (fun e1=>aU e1.symm)).trans hb1
  refine⟨k,v,(leftOf es (seen.push e.born)).toList.map fun e=>kq e.key,setBlock w1 r (.mapIter (some b) since (seen.push e.born) clock),LQ,?_,fun ty=>?_,⟨es,clock,since,seen.push e.born,clock,LU,hs,hm,kE.1,hold,Fu,Fu,rfl⟩,?_,?_,?_⟩
  ·have:=(UF hs seen he).map fun e=>kq e.key
   rw[On,hk,JR] at this;exact this
  ·have afC:(Instr.next (.pointer (some ⟨r,0,none⟩)) false ty).run P w=(Instr.next (.pointer (some ⟨r,0,none⟩)) false 0).run P w:=by
    simp only[Instr.next]
   rw[afC,nP,hk,hv]
  ·rcases jy with rfl|rfl<;>exact⟨rfl,rfl,rfl,by simp[setBlock],fun i _ hi=>kE.2 i (fun e1=>hi (by rw[e1]))⟩
  ·rcases jy with rfl|rfl<;>simp[setBlock]
  ·have:=run_entry_at (P:=P) _ r b since seen es clock e kE.1 LU zy ((stamped_iff es clock).1 hs).2.1
   rw[hk,hv] at this;exact this
theorem cV.nodup{w:World}{b r:Nat}{m:List (Nat×Value)}{left:List Nat}(h:cV w b r m left):left.Nodup∧∀k∈left,k∈m.map (·.1):=by
 have hmn:=h.map.nodup;obtain⟨es,clock,since,seen,c0,hb,hs,hm,hr,hold,z8,Fu,rfl⟩:=h;have h1:(leftOf es seen).toList=es.toList.filter fun x => !seen.contains x.born:=by simp[leftOf]
 have mq:((leftOf es seen).toList.map fun e=>kq e.key).Sublist (m.map (·.1)):=by
  rw[←pw hm,h1];exact List.filter_sublist.map _
 exact⟨mq.nodup hmn,fun k hk=>mq.subset hk⟩
theorem BQ{α:Type}(p:α→Bool):∀(l:List α) (j:Nat) (x:α),l[j]?=some x→p x=false→(l.eraseIdx j).filter p=l.filter p
 | [],j,x,h,_=>by simp at h
 | y::l,0,x,h,hp=>by
  simp at h;subst h
  simp[hp]
 | y::l,j+1,x,h,hp=>by
  have:=BQ p l j x (by simpa using h) hp
  simp[ach,this]
theorem cV.delete{P:Program}{w:World}{b r:Nat}{m:List (Nat×Value)}{left:List Nat}(h:cV w b r m left){k:Nat}(hk:k∉left)(hm:k∈m.map (·.1))(t kt et:TypeId)(ht:P.underlying t=some (.map kt et))(hd:P.underlying kt=some (.int .i64)):
  ∃w',(∀ty,(Builtin.delete_ #[t,kt] ty #[.map (some b),dX k]).run P w=.ok (.tuple #[]) w')∧cV w' b r (kN k m) left∧w.grownBy w' (some b)∧w'.heap.size=w.heap.size:=by
 obtain⟨es,clock,since,seen,c0,hb,hs,zX,hr,hold,z8,Fu,rfl⟩:=h;have aU:r≠b:=by rintro rfl;rw[hb] at hr;cases hr
 have iN:IsKey (.int .i64) (dX k):=rfl;rcases lL k m es.toList 0 zX with ⟨a,f,g,_,p⟩|⟨j,e,u,hj,he,hv,hmj,a,f,_,p⟩
 ·obtain⟨x,hx,e⟩:=NF.1 hm
  exact absurd e (oK.1 a x hx)
 ·have ay:j<es.size:=by
   have:=(Pi.1 hj).1;simpa using this
  have xV:(es.eraseIdxIfInBounds j).toList=es.toList.eraseIdx j:=by
   unfold Array.eraseIdxIfInBounds;rw[dif_pos ay];simp
  have zy:e∈es.toList:=adX hj;have h1:∀es':Array MapEntry,(leftOf es' seen).toList=es'.toList.filter fun x => !seen.contains x.born:=fun es'=>by simp[leftOf]
  have zA:(!seen.contains e.born)=false:=by
   cases hc:(!seen.contains e.born) with
   | false=>rfl
   | true =>
    refine absurd (NF.2 ⟨e,?_,by rw[he,JR]⟩) hk
    rw[h1];exact QP.2 ⟨zy,hc⟩
  refine⟨{ w with heap:=w.heap.setIfInBounds b (.map (es.eraseIdxIfInBounds j) clock) },fun ty=>?_,⟨es.eraseIdxIfInBounds j,clock,since,seen,c0,(heap_set hb).1,stamped_erase hs j,?_,((heap_set hb).2 r aU).trans hr,fun x hx=>hold x ?_,z8,Fu,?_⟩,⟨rfl,rfl,rfl,κ,fun i _ hi=>(heap_set hb).2 i (fun e=>hi (by rw[e]))⟩,κ⟩
  ·simp[Builtin.delete_,run_underlying ht,MapKept.run_getObj_map hb,run_checkKey hd iN,run_findKey hd f,run_setObj_map _ hb,Result.andThen]
  ·rw[p,rC,←zX,←rC,xV]
  ·rw[xV] at hx;exact UT hx
  ·rw[h1,h1,xV,BQ _ _ j e hj zA]
theorem cV.len{w:World}{b r:Nat}{m:List (Nat×Value)}{left:List Nat}(h:cV w b r m left):w.rangeLeft b r=left.length:=by
 obtain⟨es,clock,since,seen,c0,hb,hs,hm,hr,hold,z8,Fu,rfl⟩:=h;simp only[World.rangeLeft,hb,hr,OK,Su]
theorem Itk.turned{own:Nat→Prop}{lo:Nat}{A B:World}{l:Nat}{o:Obj}(hg:A.grownBy B (some l))(h:A.heap[l]?=some o)(hc:o.isCells=false)(hl:lo≤l):Itk own lo A B :=
 ⟨hg.os,hg.tape,hg.output,hg.size,fun k h1 h2 _=>hg.block k h2 (fun e=>by injection e with e;omega),fun k o2 h1 h2 _=>(hg.block k (aJ h1) (fun e=>by injection e with e;subst e;rw[h] at h1;cases h1;rw[hc] at h2;cases h2)).trans h1⟩
end
section
open Go.RowKit
def FA{σ:Type}(P:Program)(g:Nat)(lb:Array Value)(step:σ→World→Array Value→σ→Prop)(fin:σ→Prop)(own keep:Nat→Prop)(n₀:Nat)(s0:σ)(W:World):Prop :=
 ∀(n l:Nat) (J Jx:σ→World→Prop),
  (∀s A B,J s A→Itk own W.heap.size A B→J s B)→(∀s A B,Jx s A→Itk own W.heap.size A B→Jx s B) →
  (∀s s2 W1 args,J s W1→step s W1 args s2→(∀b,keep b→b<W1.heap.size)→mf P l args W1 fun e W' =>
   (e=.returned (.bool true)∧J s2 W'∧Bk keep n₀ W1 W')∨(e=.returned (.bool false)∧Jx s2 W')) →
  J s0 W →
  CallsIn Fence.wide n P g (#[.func (.yield l) #[] #[]]++lb) W fun e W'=>(∃v,e=.returned v)∧((∃s,fin s∧J s W')∨∃s,Jx s W')
structure BkS (own:Nat→Prop) (A B:World):Prop where
 size:A.heap.size≤B.heap.size
 own:∀k,own k→k<A.heap.size→B.heap[k]?=A.heap[k]?
theorem BkS.mono{own own':Nat→Prop}{A B:World}(h:BkS own A B)(k:∀i,own' i→own i):BkS own' A B:=⟨h.size,fun i h1 h2=>h.own i (k i h1) h2⟩
theorem BkS.L4{own:Nat→Prop}{n₀:Nat}{A B:World}(h:Bk own n₀ A B):BkS own A B:=⟨h.below.size,h.own⟩
def Lq{σ:Type}(Bw Bs:World→World→Prop)(I:σ→World→Prop)(Ix:Code→σ→World→Prop)(s:σ)(W:World):Exit→Act→World→Prop
 | .normal,_,W'=>Bw W W'∧I s W'
 | .ret,_,W'=>Bs W W'∧Ix .ret s W'
 | .exit id,_,W'=>Bs W W'∧Ix (.exit id) s W'
 | .goto t,_,W'=>Bs W W'∧Ix (.goto t) s W'
 | .panic _,_,_=>False
 | .outgrown,_,_=>False
theorem Ns{σ:Type}{P:Program}{n:Nat}{g:Operand}{ps:Array Tmp}{assign body:Code}{Qx:Exit→Act→World→Prop}{a:Act}{w:World}
  {gf:Nat} {lb:Array Value} (hg:a.eval g=.func (.func gf) #[] lb) (eg:∀args w,(callFunc gf args).run P w=.ok (.enter gf args) w)
  {step:σ→World→Array Value→σ→Prop} {fin':σ→Prop} {s0:σ} {own keep:Nat→Prop} {n₀:Nat}
  (Yq:∀W1,Q w W1→W1.heap.size=w.heap.size+2→FA P gf lb step fin' own keep n₀ s0 W1)
  (aF:∀k,own k→k≠w.heap.size∧k≠w.heap.size+1) (sM:∀k,keep k→k≠w.heap.size∧k≠w.heap.size+1) (hn₀:n₀≤w.heap.size) (hps:∀x W args y,step x W args y→args.size=ps.size)
  (I:σ→World→Prop) (Ix:Code→σ→World→Prop) (Ax:σ→σ→Act→World→Prop)
  (hI:∀s A B,I s A→Itk own w.heap.size A B→I s B) (hIx:∀c s A B,Ix c s A→Itk own w.heap.size A B→Ix c s B) (hAx:∀k k2 a' A B,Ax k k2 a' A→Itk own w.heap.size A B→Ax k k2 a' B)
  (h0:I s0 w)
  (acy:∀(l:Nat) (k k2:σ) (W:World) (args:Array Value) (K:Act→World→Prop),I k W→step k W args k2→w.heap.size+2≤W.heap.size→(∀a' W',Q W W'→I k W'→Ax k k2 a' W'→K a' W') →
   assign.wpIn (Fence.wide.inRound l) (n-1-1) P (Exit.then K (fun _ _ _=>False)) { tmps:=(ps.zip args).foldl (fun t (p,v)=>t.setIfInBounds p v) a.tmps,defers:=[] } W)
  (LH:∀(l:Nat) (k k2:σ) (a':Act) (W:World),((∃r,W.heap[l]?=some (.loop r))∧W.heap[w.heap.size]?=some (.deferred (some [])))→l=w.heap.size+1→I k W→Ax k k2 a' W→(∀b,keep b→b<W.heap.size)→w.heap.size+2≤W.heap.size →
   body.wpIn (Fence.wide.inRound l) (n-1-1) P (Lq (Bk (fun b=>keep b∨b=w.heap.size∨b=w.heap.size+1) n₀) (BkS (fun b=>b=w.heap.size∨b=w.heap.size+1)) I Ix k2 W) a' W)
  (afD:∀(D:Nat) (s:σ) (W:World),D=w.heap.size→w.heap.size+2≤W.heap.size→fin' s→I s W→W.heap[D]?=some (.deferred (some []))→Qx .normal { a with defers:={ target:=.collected D,args:=#[] }::a.defers } W)
  (afE:∀(D:Nat) (c:Code) (k:σ) (W:World),D=w.heap.size→Ix c k W→W.heap[D]?=some (.deferred (some []))→c.wpIn Fence.wide n P Qx { a with defers:={ target:=.collected D,args:=#[] }::a.defers } W) :
  (Code.rangeFunc g ps assign body).wpIn Fence.wide n P Qx a w:=by
 refine wpIn_rangeFunc ?_;intro fn ku;obtain⟨rec,hrec⟩:∃rec:LoopState→Option Code→Loop,rec=fun st pe=>{ state:=st,pending:=pe,fn,tmps:=a.tmps,params:=ps,assign,body,defers:=w.heap.size }:=⟨_,rfl⟩
 obtain⟨W1,oU⟩:∃W1,(w.alloc (.deferred (some []))).alloc (.loop (rec .ready none))=W1:=⟨_,rfl⟩;have pR:Q w W1:=by rw[←oU];exact(Q.alloc w _).trans (Q.alloc _ _)
 have oV:W1.heap.size=w.heap.size+2:=by rw[←oU];simp
 have GV:W1.heap[w.heap.size+1]?=some (.loop (rec .ready none)):=by
  rw[←oU];have:=World.alloc_heap_new (w.alloc (.deferred (some []))) (.loop (rec .ready none));rwa [World.size_alloc] at this
 have hK1:W1.heap[w.heap.size]?=some (.deferred (some [])):=by
  rw[←oU];exact(Below.heap_alloc _ _ _ κ).trans (World.alloc_heap_new w _)
 have hI1:I s0 W1:=hI _ _ _ h0 (Itk.br pR);have ho1:¬own (w.heap.size+1):=fun h=>(aF _ h).2 rfl
 have acM:¬keep (w.heap.size+1):=fun h=>(sM _ h).2 rfl
 have ho0:¬own w.heap.size:=fun h=>(aF _ h).1 rfl
 refine⟨w.heap.size+1,[{ target:=.collected w.heap.size,args:=#[] }],W1,{ target:=.fn (.func gf) lb,args:=#[.func (.yield (w.heap.size+1)) #[] #[]] },W1,gf,
  #[.func (.yield (w.heap.size+1)) #[] #[]]++lb,W1,?_,?_,fun _ _=>trivial,?_,fun h=>(by cases h),?_⟩
 ·rw[←oU,hrec];exact run_enterLoop_outer _ _ _ _ _
 ·simp only[resolve,hg]
  simp[go_sem]
 ·simp[invoke,go_sem,eg]
 ·refine(Yq W1 pR oV (n-1) (w.heap.size+1)
   (fun k W=>I k W∧W.heap[w.heap.size+1]?=some (.loop (rec .ready none))∧W.heap[w.heap.size]?=some (.deferred (some [])))
   (fun k W=>∃c,Ix c k W∧W.heap[w.heap.size+1]?=some (.loop (rec .done (some c)))∧W.heap[w.heap.size]?=some (.deferred (some [])))
   (fun s A B hs hi=>⟨hI s A B hs.1 (hi.mono (fun _ h=>h) U),(hi.low _ U (aJ hs.2.1) ho1).trans hs.2.1,(hi.low _ U (aJ hs.2.2) ho0).trans hs.2.2⟩)
   (fun s A B hs hi=>by
    obtain⟨c,hc,hl,hk⟩:=hs;exact⟨c,hIx c s A B hc (hi.mono (fun _ h=>h) U),(hi.low _ U (aJ hl) ho1).trans hl,(hi.low _ U (aJ hk) ho0).trans hk⟩)
   ?_ ⟨hI1,GV,hK1⟩).mono ?_
  ·
   rintro k k2 W args ⟨hi,hl,iN⟩ acN hob;have hy:=run_yield (P:=P) (args:=args) hl (by rw[hrec];exact hps _ _ _ _ acN)
   rw[hrec] at hy;refine⟨fn,_,assign,body,hy,fun m=>xN (n:=n-1-1) (roundIn_of_wpIn trivial (acy _ k k2 W args _ hi acN (aJ hl) ?_))⟩
   clear hy;intro a' Wa jJ hia hax;have om:=(jJ.block _ (aJ hl)).trans hl;have RN:=(jJ.block _ (aJ iN)).trans iN;refine⟨_,run_beginRound om (by rw[hrec]),?_⟩
   have fF:(Wa.putObj (w.heap.size+1) (.loop { rec .ready none with state:=.busy })).heap[w.heap.size+1]?=some (.loop { rec .ready none with state:=.busy }):=World.putObj_heap_same (aJ om);have kW:(Wa.putObj (w.heap.size+1) (.loop { rec .ready none with state:=.busy })).heap[w.heap.size]?=some (.deferred (some [])):=(World.putObj_heap_other U).trans RN;have zq:Itk own w.heap.size Wa (Wa.putObj (w.heap.size+1) (.loop { rec .ready none with state:=.busy })):=Itk.put _ om rfl U;have bN:Bk keep n₀ W (Wa.putObj (w.heap.size+1) (.loop { rec .ready none with state:=.busy })):=(Bk.br jJ (by have:=aJ hl;omega)).trans (Bk.put _ om rfl U acM)
   refine wpIn_mono (LH _ k k2 a' _ ⟨⟨_,fF⟩,kW⟩ rfl (hI _ _ _ hia zq) (hAx _ _ _ _ _ hax zq) (fun b hb=>by have:=hob b hb;have:=jJ.size;simp;omega) (by have:=aJ om;simp;omega)) ?_
   have fin:∀(jump:Option Code) (W3:World),BkS (fun b=>b=w.heap.size∨b=w.heap.size+1) (Wa.putObj (w.heap.size+1) (.loop { rec .ready none with state:=.busy })) W3 →
     (Instr.endRound (w.heap.size+1) jump).run P W3=.ok (.bool jump.isNone) (W3.putObj (w.heap.size+1) (.loop (rec (if jump.isNone then .ready else .done) jump))) ∧
     W3.heap[w.heap.size+1]?=some (.loop { rec .ready none with state:=.busy }) ∧
     (W3.putObj (w.heap.size+1) (.loop (rec (if jump.isNone then .ready else .done) jump))).heap[w.heap.size+1]?=some (.loop (rec (if jump.isNone then .ready else .done) jump)) ∧
     (W3.putObj (w.heap.size+1) (.loop (rec (if jump.isNone then .ready else .done) jump))).heap[w.heap.size]?=some (.deferred (some [])) ∧
     Itk own w.heap.size W3 (W3.putObj (w.heap.size+1) (.loop (rec (if jump.isNone then .ready else .done) jump))):=fun jump W3 rH=>by
    have nL:=(rH.own _ (.inr rfl) (aJ fF)).trans fF;have Y7:=(rH.own _ (.inl rfl) (aJ kW)).trans kW;have:=run_endRound (P:=P) jump nL;rw[hrec] at this ⊢;rw[hrec] at nL;exact⟨this,nL,World.putObj_heap_same (aJ nL),(World.putObj_heap_other U).trans Y7,Itk.put _ nL rfl U⟩
   rintro e a3 W3 hp;cases e with
   | normal =>
    obtain⟨rH,uW⟩:=hp;obtain⟨hr,nL,LV,rG,RQ⟩:=fin none W3 ((BkS.L4 rH).mono (fun _ h=>.inr h))
    exact⟨_,_,hr,.inl ⟨rfl,⟨hI _ _ _ uW RQ,LV,rG⟩,(bN.trans (rH.mono (fun _ h=>.inl h) (Ω _))).trans (Bk.put _ nL rfl U acM)⟩⟩
   | ret =>
    obtain⟨rH,uW⟩:=hp;obtain⟨hr,nL,LV,rG,RQ⟩:=fin (some .ret) W3 rH;exact⟨_,_,hr,.inr ⟨rfl,⟨.ret,hIx _ _ _ _ uW RQ,LV,rG⟩⟩⟩
   | exit id =>
    obtain⟨rH,uW⟩:=hp;obtain⟨hr,nL,LV,rG,RQ⟩:=fin (some (.exit id)) W3 rH;exact⟨_,_,hr,.inr ⟨rfl,⟨.exit id,hIx _ _ _ _ uW RQ,LV,rG⟩⟩⟩
   | goto t =>
    obtain⟨rH,uW⟩:=hp;obtain⟨hr,nL,LV,rG,RQ⟩:=fin (some (.goto t)) W3 rH;exact⟨_,_,hr,.inr ⟨rfl,⟨.goto t,hIx _ _ _ _ uW RQ,LV,rG⟩⟩⟩
   | panic ch=>exact hp.elim
   | outgrown=>exact hp.elim
  ·
   rintro e W2 ⟨⟨v,rfl⟩,(⟨k,oq,hi,hl,hk⟩|⟨k,c,hi,hl,hk⟩)⟩
   ·exact⟨none,_,by have:=run_endLoop (P:=P) hl (by rw[hrec];simp);rw[hrec] at this;exact this,afD _ k _ rfl (by have:=aJ hl;simp;omega) oq (hI _ _ _ hi (Itk.put _ hl rfl U)) ((World.putObj_heap_other U).trans hk)⟩
   ·exact⟨some c,_,by have:=run_endLoop (P:=P) hl (by rw[hrec];simp);rw[hrec] at this;exact this,afE _ c k _ rfl (hIx c _ _ _ hi (Itk.put _ hl rfl U)) ((World.putObj_heap_other U).trans hk)⟩
end
section
open Go.RowKit
attribute [local go_sem] Oper.semAt_some
theorem Qm(mb:Nat)(w:World):
  Calls prog 242 #[.map (some mb)] w fun e w'=>e=.returned (.func (.func 291) #[] #[.pointer (some ⟨w.heap.size,0,none⟩)])∧w.alloc (.cells #[.map (some mb)] 251)=w':=by
 go_enter func242,ntmps242;go_wp2_with fail;go_ret;exact⟨rfl,rfl⟩
def oE(K:List Nat)(ks:List Nat)(W:World)(args:Array Value)(ks2:List Nat):Prop:=∃k∈K,k∉ks∧args=#[dX k]∧ks2=ks++[k]
theorem Fl(B mb n₀:Nat)(m:List (Nat×Value))(W:World)(hb:Boxed W B 251 (.map (some mb)))(hm:de W mb m)(hn:n₀≤W.heap.size):
  FA prog 291 #[.pointer (some ⟨B,0,none⟩)] (oE (m.map (·.1))) (fun ks=>ks.Perm (m.map (·.1))) (fun _=>False) (fun k=>k=B∨k=mb) n₀ [] W:=by
 intro n l J Jx hJ hJx hY h0;refine callsIn_of_wp func291 rfl trivial ?_ rfl;simp only[ntmps291,UI,Mu,OF,Nat.reduceAdd,Nat.reduceSub,abB,abC,ab2,abN,Pr,PC];have hc:=hb.cell;obtain⟨o,LW,Co⟩:=cV.made (P:=prog) hm 251 3 257 underlying251;have ji:Q W (W.alloc o):=Q.alloc _ _;have H0:=Hd h0;have mF:=Hd ji;have ou:=Hd hb;have HYH:=Hd hY;have LX:=Hd Co;have Jt:=Hd hm.lt;have ah8:=hb.lt;clear h0 ji hb hY Co hm;gi_wp2;clear LW;gi_loopw [3] (fun _ wr=>∃(ks left:List Nat),Hid (cV wr mb W.heap.size m left)∧Hid ((ks++left).Perm (m.map (·.1)))∧Hid (Below n₀ W wr)∧Hid (Boxed wr B 251 (.map (some mb)))∧Hid (J ks wr)) (fun _ wr=>wr.rangeLeft mb W.heap.size)
 case atStart =>
  exact⟨[],_,LX,Hd (adU _),Hd (Below.mono mF.out hn),Hd (ou.out.alloc _),Hd (hJ _ _ _ H0.out (Itk.br mF.out))⟩
 case round =>
  obtain⟨ks,left,HR,HP,HB,Ju,HJ⟩:=hrel;have lU:=HR.out.map.nodup;rcases cV.next (P:=prog) HR.out with ⟨uX,gU⟩|⟨k,v,left',w',GU,qH,gU,qA,hg,hz,GX⟩
  ·have dK:ks.Perm (m.map (·.1)):=by have:=HP.out;rw[uX,ON] at this;exact this
   have HF:=Hd dK;clear uX dK lU;gi_wp2;go_end0;exact⟨⟨_,rfl⟩,.inl ⟨ks,HF.out,HJ.out⟩⟩
  ·obtain⟨since,seen,c0,hit⟩:=HR.out.iter
   have xR:J ks w':=hJ _ _ _ HJ.out (Itk.turned hg hit rfl (Ω _));have LU:Boxed w' B 251 (.map (some mb)):=(hg.block B (aJ Ju.out) (fun e=>by injection e with e;omega)).trans Ju.out
   have PW:(ks++k::left').Perm (m.map (·.1)):=((qH.symm).append_left ks).trans HP.out
   have acQ:(ks++k::left').Nodup:=PW.nodup_iff.2 lU;have Jv:k∉ks:=fun hc=>(R0.1 acQ).2.2 k hc k (Nm ..) rfl
   have LQ:k∈m.map (·.1):=PW.mem_iff.1 (abv _ (Nm ..))
   have Vx:Below n₀ W w':=HB.out.trans ⟨hg.os,hg.tape,hg.output,hg.size,fun i hi=>hg.block i (by have:=HB.out.size;omega) (fun e=>by injection e with e;omega)⟩
   obtain⟨fn,tmps,assign,body,hy,hRR⟩:=HYH.out ks (ks++[k]) w' #[dX k] xR ⟨k,LQ,Jv,rfl,rfl⟩ (fun b hb=>by
    rcases hb with rfl|rfl
    ·exact aJ LU
    ·exact qA.map.lt)
   have hlen:w'.rangeLeft mb W.heap.size<wr.rangeLeft mb W.heap.size:=by rw[qA.len,HR.out.len,qH.length_eq];simp
   have iq:((ks++[k])++left').Perm (m.map (·.1)):=by rw[MY];exact PW
   have HYY:=Hd hRR;have Yr:=Hd qA;have HBW:=Hd Vx;have HB':=Hd LU;have kX:=Hd iq;have uN:=Hd hlen;clear xR LU PW acQ Jv LQ Vx hRR qA hlen iq qH GU hg hz hit lU;gi_wp2;refine⟨fun h=>(by cases h),(HYY.out _).mono ?_⟩
   rintro e W3 (⟨rfl,Y8,rH⟩|⟨rfl,RS⟩)
   ·obtain⟨since,seen,c0,hit⟩:=Yr.out.iter
    have uW:cV W3 mb W.heap.size m left':=Yr.out.same (rH.own mb (.inr rfl) Yr.out.map.lt) ((rH.walks _ _ hit rfl).trans hit.symm);have gI:Boxed W3 B 251 (.map (some mb)):=(rH.own B (.inl rfl) (aJ HB'.out)).trans HB'.out;have acR:W3.rangeLeft mb W.heap.size<wr.rangeLeft mb W.heap.size:=by rw[uW.len];have:=uN.out;rw[Yr.out.len] at this;exact this
    have HI3:=Hd uW;have qI:=Hd gI;have Y9:=Hd Y8;have ah9:=Hd (HBW.out.trans rH.below);have HL3:=Hd acR;clear uW gI Y8 rH hit acR;gi_wp2;go_roundw;case rel=>exact⟨ks++[k],left',HI3,kX,ah9,qI,Y9⟩
    case measure=>exact HL3.out
   ·have Vy:=Hd RS;clear RS
    gi_wp2;refine bodyPost_ret (results_none rfl _ _ _) rfl ?_;exact⟨⟨_,rfl⟩,.inr ⟨_,Vy.out⟩⟩
end
section
open Go.RowKit
theorem zv{P:Program}(W:World)(t ty:TypeId)(base:Nat)(e e':TypeId)(i:TypeInfo)(z:Value)(size bytes:Nat)(ht:P.underlying t=some (.slice e))(hi:P.info? e=some i)(hz:i.zero=some z)
  (iE:i.size=size) (iT:i.bytes=bytes) (jl:z.cells.size=size) (bP:0<size) (rE:0<bytes)
  (v:Value) (n:Nat) (xs:List Value) (aF:W.ownsRow base e size v n xs)
  (m:Nat) (hm:0<m) (news:Array Value) (hl:news.size=m*size) (h1:∀u∈news.toList,u.oneCell'=true) (hb:(n+m)*bytes≤140737488355328) (fP:base≤W.heap.size) :
  ∃g cap w',(Builtin.append_ #[t,t] ty #[v,.slice (some ⟨W.heap.size,0,none⟩) m m]).run P (W.alloc (.cells news e'))=.ok (.slice (some ⟨g,0,none⟩) (n+m) cap) w' ∧
   w'.ownsRow base e size (.slice (some ⟨g,0,none⟩) (n+m) cap) (n+m) (xs++news.toList)∧W.grownBy w' v.ownBlock∧(v.ownBlock=some g∨W.heap.size<g)∧g<w'.heap.size∧W.heap.size<w'.heap.size:=by
 have DY:n+m≤maxLen:=by
  have:=adt (n+m) rE;simp only[maxLen];omega
 obtain⟨g,cap,w',hr,h2,h3,h4,h5⟩:=run_append_lies (P:=P) (W.alloc (.cells news e')) t ty base e i z size bytes ht hi hz iE iT jl bP v n xs (aF.alloc _) ⟨W.heap.size,0,none⟩ m m news.toList (by simpa using hl)
  (fun j u hj=>by
   rw[Ep];simp only[World.cell?,heap_alloc_new];simpa using hj) h1 hm DY hb (by simp;omega) (W.heap.size+1) κ
 refine⟨g,cap,w',hr,h2,⟨h3.os.trans rfl,h3.tape.trans rfl,h3.output.trans rfl,by have:=h3.size;simp at this;omega,fun k hk aU=>?_⟩,h4.imp id (fun h=>U),h5,by have:=h3.size;simp at this;omega⟩
 rw[h3.block k (by simp;omega) aU,Below.heap_alloc _ _ _ hk]
theorem Py{F:Fence}{n':Nat}{P:Program}(W:World){ops:Array Oper}{rest:List Oper}{o:Oper}{a:Act}{Q:Exit→Act→World→Prop}(pQ:o.guard=none)(s x:Operand)(t:TypeId)
  (ho:o.op=.call { callee:=.builtin .append,args:=#[s,x],argTypes:=#[t,t] })
  (base:Nat) (e e':TypeId) (i:TypeInfo) (z:Value) (size bytes:Nat) (ht:P.underlying t=some (.slice e)) (hi:P.info? e=some i) (hz:i.zero=some z)
  (iE:i.size=size) (iT:i.bytes=bytes) (jl:z.cells.size=size) (bP:0<size) (rE:0<bytes)
  (v:Value) (n:Nat) (xs:List Value) (hs:a.eval s=v) (aF:W.ownsRow base e size v n xs)
  (m:Nat) (hm:0<m) (news:Array Value) (hx:a.eval x=.slice (some ⟨W.heap.size,0,none⟩) m m) (hl:news.size=m*size) (h1:∀u∈news.toList,u.oneCell'=true)
  (hb:(n+m)*bytes≤140737488355328) (fP:base≤W.heap.size)
  (h:∀g cap w',w'.ownsRow base e size (.slice (some ⟨g,0,none⟩) (n+m) cap) (n+m) (xs++news.toList)→W.grownBy w' v.ownBlock→(v.ownBlock=some g∨W.heap.size<g)→g<w'.heap.size→W.heap.size<w'.heap.size →
   wpListIn F n' P ops Q rest (a.put o.dst (.slice (some ⟨g,0,none⟩) (n+m) cap)) w'):wpListIn F n' P ops Q (o::rest) a (W.alloc (.cells news e')):=by
 obtain⟨g,cap,w',hr,h2,h3,h4,h5,h6⟩:=zv (P:=P) W t o.type base e e' i z size bytes ht hi hz iE iT jl bP rE v n xs aF m hm news hl h1 hb fP;refine wpListIn_plain pQ fun _ hK=>?_
 unfold Oper.wpIn;refine⟨?_,?_⟩
 ·simp[Oper.about,ho,resolve,Target.leads,Sem.run_pure]
 ·rw[Oper.semAt_plain F _ _ (by rw[ho];intro c GN;cases GN)]
  unfold execOp;simp only[ho,resolve,invoke,builtin,Sem.run_bind,Sem.run_pure,Result.andThen_ok,abx,On,Wg,hs,hx,hr];exact hK _ _ (h g cap w' h2 h3 h4 h5 h6)
end
section
open Go.RowKit
theorem UL(c:Nat)(h:c<4294967296):bits .xor .u32 ((c:Int) / 2) (bits .and .u32 3988292384 (-(bits .and .u32 (c:Int) 1)%4294967296))=((p9 c:Nat):Int):=by
 have h1:bits .and .u32 (c:Int) ((1:Nat):Int)=((c &&& 1:Nat):Int):=u32_and_nat c 1 h Z;rw[show((1:Nat):Int)=1 from rfl,aej] at h1
 rw[h1,show((c:Int) / 2)=((c / 2:Nat):Int) from rfl]
 have h2:c / 2<4294967296:=U;unfold p9;rcases ac3 c with e|e
 ·rw[e]
  rw[show(-((0:Nat):Int))%4294967296=((0:Nat):Int) by decide,show(3988292384:Int)=((3988292384:Nat):Int) from rfl,
   u32_and_nat _ _ Z Z,u32_xor_nat _ _ h2 Z]
  simp
 ·rw[e]
  rw[show(-((1:Nat):Int))%4294967296=((4294967295:Nat):Int) by decide,show(3988292384:Int)=((3988292384:Nat):Int) from rfl,
   u32_and_nat _ _ Z Z,u32_xor_nat _ _ h2 Z]
  rw[Φ rfl];congr 1
theorem MK(v:Value)(ps:List Bytes)(w:World)(hv:Strs w v ps)(hn:ps.length≤9223372036854775807)(hs:∀p∈ps,p.length≤9223372036854775807):
  Calls prog 119 #[v] w fun e w'=>e=.returned (.int .u32 (fU ps.flatten:Nat))∧w=w':=by
 obtain⟨a,cap,rfl,aP⟩:=hv.value;have HC:=Hd aP;have HS:=Hd hs;clear aP hs hv;go_enter func119,ntmps119;go_wp2_with fail;go_loop [9,3,5,6] (fun i c _ _=>∃k:Nat,k≤ps.length∧i=.int .i64 k∧c=.int .u32 (mJ (ps.take k).flatten:Nat)) (fun i _ _ _=>ps.length-(intOf i).toNat)
 case atStart=>exact⟨0,U,rfl,rfl⟩
 case round =>
  obtain⟨k,hk,rfl,rfl⟩:=hrel;by_cases ay:k<ps.length
  ·obtain⟨b,off,rfl,hc⟩:=HC.out U
   have gL:=hc k ay;have bW:=HS.out _ (MA ay);have G9:=vp ps k ay;generalize ps[k]=p at *;generalize (ps.take k).flatten=pre at *;have HF:=Hd G9;have Cv:=Hd hc;clear G9 hc;go_wp2_with fail;go_loop [15,3,6] (fun i c _=>∃j:Nat,j≤p.length∧i=.int .i64 j∧c=.int .u32 (mJ (pre++p.take j):Nat)) (fun i _ _=>p.length-(intOf i).toNat)
   case atStart=>exact⟨0,U,rfl,κ⟩
   case round =>
    obtain⟨j,hj,rfl,rfl⟩:=hrel;have nR:=yV (pre++p.take j);by_cases zD:j<p.length
    ·have aC:=P5 pre p j zD
     have hx:(p[j]).toNat<256:=V2 _;generalize hy:mJ (pre++p.take j)=c at *;have HY:=Hd hy;have aX:=Hd aC;clear hy aC;go_wp2_with fail;have Ac:c ^^^ (p[j]).toNat<4294967296:=aam (n:=32) nR U;go_loop [24,3] (fun i d=>∃m:Nat,m≤8∧i=.int .i64 m∧d=.int .u32 (lM m (c ^^^ (p[j]).toNat):Nat)) (fun i _=>8-(intOf i).toNat)
     case atStart=>exact⟨0,U,rfl,int_eq (by
      rw[show((({ data:=List.toArray p }:ByteArray)[j]).toNat:Int)%4294967296=((p[j]).toNat:Int) from Int.emod_eq_of_lt U (by show((p[j]).toNat:Int)<_;omega)]
      exact u32_xor_nat c (p[j]).toNat nR U)⟩
     case round =>
      obtain⟨m,hm,rfl,rfl⟩:=hrel;have nS:=Da m _ Ac;by_cases iU:m<8
      ·have z8:lM (m+1) (c ^^^ (p[j]).toNat)=p9 (lM m (c ^^^ (p[j]).toNat)):=rfl
       generalize lM m (c ^^^ (p[j]).toNat)=d at *;have hwt:=UL d nS;have VB:=Hd z8;have HWT:=Hd hwt;clear z8 hwt;go_wp2_with fail;go_round;case rel=>exact⟨m+1,U,by go_num,int_eq (by rw[VB.out,←HWT.out])⟩
       case measure=>simp[intOf];omega
      ·have Ze:m=8:=U
       subst Ze;go_wp2_with fail;go_round;case rel=>exact⟨j+1,U,by go_num,by rw[aX.out]⟩
       case measure=>simp[intOf];omega
    ·have hjj:j=p.length:=U
     subst hjj;go_wp2_with fail;go_round;case rel=>exact⟨k+1,U,by go_num,by rw[HF.out,N5]⟩
     case measure=>simp[intOf];omega
  ·have iN:k=ps.length:=U
   have hx:=yV ps.flatten;subst iN;rw[N5];generalize hc:mJ ps.flatten=c at *;have xZ:=Hd hc;clear hc;go_wp2_with fail;go_ret;refine⟨od ?_,rfl⟩;show bits BinOp.xor IntKind.u32 IntKind.u32.max (c:Int)=_;rw[show IntKind.u32.max=((4294967295:Nat):Int) by decide,u32_xor_nat _ _ Z hx,Nat.xor_comm]
   unfold fU;rw[xZ.out]
theorem Nu(w:World)(a b c d:Nat)(ha:a<256)(hb:b<256)(hc:c<256)(hd:d<256)(r:Bytes)(hr:r=[UInt8.ofNat a,UInt8.ofNat b,UInt8.ofNat c,UInt8.ofNat d]):
  (convert 84 9 (.slice (some ⟨w.heap.size,0,none⟩) 4 4)).run prog (w.alloc (.cells #[.int .u8 a,.int .u8 b,.int .u8 c,.int .u8 d] 5)) =
   .ok (.string ⟨r.toArray⟩) (w.alloc (.cells #[.int .u8 a,.int .u8 b,.int .u8 c,.int .u8 d] 5)):=by
 subst hr;refine run_convert_bytes_back (P:=prog) _ 84 9 5 ⟨w.heap.size,0,none⟩ 4 [UInt8.ofNat a,UInt8.ofNat b,UInt8.ofNat c,UInt8.ofNat d] underlying84 underlying5 underlying9 ?_;intro j hj;rw[Ep];simp only[World.cell?,heap_alloc_new];match j,hj with
 | 0,_=>simp[PQ ha]
 | 1,_=>simp[PQ hb]
 | 2,_=>simp[PQ hc]
 | 3,_=>simp[PQ hd]
set_option maxRecDepth 20000 in
theorem vY(v:Nat)(w:World)(hv:v<4294967296):
  Calls prog 118 #[.int .u32 v] w fun e w'=>e=.returned (.string ⟨(aB v).toArray⟩)∧Q w w':=by
 have k4:=Nu w (v%256) (v / 256%256) (v / 65536%256) (v / 16777216) U U U U (aB v) (by unfold aB;rw[show v / 16777216%256=v / 16777216 by omega])
 simp only[aah,Int.natCast_ediv,ac2] at k4
 generalize aB v=r at *
 go_enter func118,ntmps118
 go_wp2_with fail
 go_ret
 exact⟨rfl,Q.alloc _ _⟩
end
end Go.Proofs.YtonlbpljghohmaaGreatDoor
