/- Joined texts of one proof. -/
import Derived.Test.YthijhicdmnoifaaGreatDoorRPostRd
import Derived.Sort.KeysCollected
import Derived.Test.YthijhicdmnoifaaGreatDoorRShelf
set_option linter.unusedSimpArgs false
set_option linter.unusedVariables false
set_option linter.unnecessarySimpa false
set_option maxRecDepth 100000
set_option maxHeartbeats 8000000
namespace Go.Proofs.YthijhicdmnoifaaGreatDoor
section
open Go.RowKit Go.MapKept
def fU{α:Type}(k:List UInt8)(v:α):List (List UInt8×α)→List (List UInt8×α)
 | []=>[(k,v)]
 | x::m=>if x.1=k then(k,v)::m else x::fU k v m
def getM{α:Type}(k:List UInt8):List (List UInt8×α)→Option α
 | []=>none
 | x::m=>if x.1=k then some x.2 else getM k m
abbrev kvE(e:MapEntry):Value×Value:=(e.key,e.val)
abbrev kvL(x:List UInt8×Value):Value×Value:=(ak x.1,x.2)
def MapS(w:World)(b:Nat)(m:List (List UInt8×Value)):Prop :=
 ∃es clock,w.heap[b]?=some (.map es clock)∧Stamped es clock∧es.toList.map kvE=m.map kvL
theorem MapS.lt{w:World}{b:Nat}{m:List (List UInt8×Value)}(h:MapS w b m):b<w.heap.size:=by
 obtain⟨es,clock,hb,_⟩:=h;exact(Array.getElem?_eq_some_iff.1 hb).1
theorem MapS.same{w w':World}{b:Nat}{m:List (List UInt8×Value)}(h:MapS w b m)(hb:w'.heap[b]?=w.heap[b]?):MapS w' b m:=by
 obtain⟨es,clock,h1,h2,h3⟩:=h;exact⟨es,clock,hb.trans h1,h2,h3⟩
theorem MapS.stays{w w':World}{b:Nat}{m:List (List UInt8×Value)}(h:MapS w b m)(hb:Below w.heap.size w w'):MapS w' b m:=h.same (hb.block b h.lt)
theorem MapS.made(w:World):MapS (w.alloc (.map #[] 0)) w.heap.size []:=⟨#[],0,(MapKept.heap_alloc w _).1,stamped_empty 0,rfl⟩
theorem SX(a b:List UInt8):Instr.sameNow .string (ak a) (ak b)=some (decide (a=b)):=by
 have:((⟨a.toArray⟩:ByteArray)==⟨b.toArray⟩)=decide (a=b):=by
  by_cases h:a=b
  ·subst h;rw[decide_eq_true rfl];exact(bytes_beq _ _).2 rfl
  ·rw[decide_eq_false h]
   cases hh:((⟨a.toArray⟩:ByteArray)==⟨b.toArray⟩) with
   | false=>rfl
   | true=>exact absurd (by have:=(bytes_beq _ _).1 hh;simpa using congrArg ByteArray.data this) h
 simp[Instr.sameNow,this]
theorem UC(k:List UInt8):∀(m:List (List UInt8×Value)) (l:List MapEntry) (i:Nat),l.map kvE=m.map kvL →
  (getM k m=none∧Instr.findNow .string (ak k) l i=some none∧(∀e∈l,e.key≠ak k)∧∀v,fU k v m=m++[(k,v)]) ∨
  ∃j e v,l[j]?=some e∧e.key=ak k∧e.val=v∧m[j]?=some (k,v)∧getM k m=some v∧Instr.findNow .string (ak k) l i=some (some (i+j,v))∧∀v',fU k v' m=m.set j (k,v')
 | [],l,i,h=>by
  have:l=[]:=by simpa using h
  subst this
  exact Or.inl ⟨rfl,rfl,by simp,fun _=>rfl⟩
 | x::m,l,i,h=>by
  cases l with
  | nil=>simp at h
  | cons e l =>
   simp only[List.map_cons,List.cons.injEq] at h
   obtain⟨h1,h2⟩:=h
   have hk:e.key=ak x.1:=congrArg Prod.fst h1
   have hv:e.val=x.2:=congrArg Prod.snd h1
   by_cases hx:x.1=k
   ·refine Or.inr ⟨0,e,x.2,rfl,by rw[hk,hx],hv,by rw[←hx];rfl,by simp[getM,hx],?_,fun v'=>by simp[fU,hx]⟩
    simp[Instr.findNow,hk,SX,hx,hv]
   ·have hs:Instr.findNow .string (ak k) (e::l) i=Instr.findNow .string (ak k) l (i+1):=by
     simp[Instr.findNow,hk,SX,Ne.symm hx]
    rcases UC k m l (i+1) h2 with ⟨a,b,c,d⟩|⟨j,e',v,a,b,c,d,f,g,p⟩
    ·refine Or.inl ⟨by simp[getM,hx,a],by rw[hs,b],?_,fun v=>by simp[fU,hx,d]⟩
     intro e' OI;rcases List.mem_cons.1 OI with rfl|OI
     ·rw[hk]
      intro hh;exact hx (by injection hh with hh;injection hh with hh;simpa using hh)
     ·exact c e' OI
    ·exact Or.inr ⟨j+1,e',v,by simpa using a,b,c,by simpa using d,by simp[getM,hx,f],by rw[hs,g];simp;omega,fun v'=>by simp[fU,hx,p]⟩
theorem Yc{P:Program}{w:World}{b:Nat}{m:List (List UInt8×Value)}(h:MapS w b m)(t kt et:TypeId)(hm:P.underlying t=some (.map kt et))(hd:P.underlying kt=some .string)(z:Value)(hz:(zeroValue et).run P w=.ok z w)(k:List UInt8)(ok:Bool):
  (Instr.lookup t (.map (some b)) (ak k) ok).run P w=.ok (if ok then .tuple #[(getM k m).getD z,.bool (getM k m).isSome] else(getM k m).getD z) w:=by
 obtain⟨es,clock,hb,hs,hk⟩:=h;have jL:IsKey .string (ak k):=trivial;rcases UC k m es.toList 0 hk with ⟨a,f,_,_⟩|⟨j,e,v,_,_,_,_,a,f,_⟩
 ·simp[Instr.lookup,run_underlying hm,MapKept.run_getObj_map hb,run_checkKey hd jL,run_findKey hd f,hz,Result.andThen,a]
 ·simp[Instr.lookup,run_underlying hm,MapKept.run_getObj_map hb,run_checkKey hd jL,run_findKey hd f,Result.andThen,a]
theorem Yd{P:Program}{w:World}{b:Nat}{m:List (List UInt8×Value)}(h:MapS w b m)(t kt et:TypeId)(hm:P.underlying t=some (.map kt et))(hd:P.underlying kt=some .string)(k:List UInt8)(v:Value):
  ∃w',(Instr.mapUpdate t (.map (some b)) (ak k) v).run P w=.ok () w'∧MapS w' b (fU k v m)∧w.grownBy w' (some b):=by
 obtain⟨es,clock,hb,hs,hk⟩:=h;have jL:IsKey .string (ak k):=trivial;rcases UC k m es.toList 0 hk with ⟨a,f,g,p⟩|⟨j,e,u,hj,he,hv,hmj,a,f,p⟩
 ·refine⟨{ w with heap:=w.heap.setIfInBounds b (.map (es.push { key:=ak k,val:=v,born:=clock }) (clock+1)) },?_,⟨_,_,(heap_set hb).1,stamped_push hs g,?_⟩,⟨rfl,rfl,rfl,by simp,fun i _ hi=>(heap_set hb).2 i (fun e=>hi (by rw[e]))⟩⟩
  ·simp[Instr.mapUpdate,run_underlying hm,MapKept.run_getObj_map hb,run_checkKey hd jL,run_findKey hd f,run_setObj_map _ hb,Result.andThen]
  ·rw[p];simp[hk]
 ·have Es:es[j]?=some e:=by simpa using hj
  refine⟨{ w with heap:=w.heap.setIfInBounds b (.map (es.modify j fun e=>{ e with key:=ak k,val:=v }) clock) },?_,⟨_,_,(heap_set hb).1,stamped_modify hs _ _ (fun _ _=>rfl) (fun e' _ OI=>by rw[Es] at OI;cases OI;exact he.symm),?_⟩,⟨rfl,rfl,rfl,by simp,fun i _ hi=>(heap_set hb).2 i (fun e=>hi (by rw[e]))⟩⟩
  ·simp[Instr.mapUpdate,run_underlying hm,MapKept.run_getObj_map hb,run_checkKey hd jL,run_findKey hd f,Es,he,run_keyThatStays jL,run_setObj_map _ hb,Result.andThen]
  ·rw[p]
   apply List.ext_getElem?;intro i;have hi:=congrArg (fun l=>l[i]?) hk
   simp only[List.getElem?_map] at hi;simp only[List.getElem?_map,Array.getElem?_toList,Array.getElem?_modify,List.getElem?_set];by_cases tQ:j=i
   ·subst tQ
    have hlt:j<m.length:=(List.getElem?_eq_some_iff.1 hmj).1;simp[Es,hlt]
   ·simp[tQ];simpa using hi
theorem mJ{P:Program}(w:World){ops:Array Oper}{rest:List Oper}{o:Oper}{a:Act}{Q:Exit→Act→World→Prop}(hg:o.guard=none)(mo x vo:Operand)(t:TypeId)(Qv:o.op=Op.mapUpdate t mo x vo)
  (kt et:TypeId) (hm:P.underlying t=some (.map kt et)) (hd:P.underlying kt=some .string) (b:Nat) (m:List (List UInt8×Value)) (h:MapS w b m) (k:List UInt8) (v:Value) (Ue:a.eval mo=.map (some b)) (hx:a.eval x=ak k) (hv:a.eval vo=v)
  (hK:∀w',MapS w' b (fU k v m)→w.grownBy w' (some b)→wpList P ops Q rest (a.put o.dst undef) w'):wpList P ops Q (o::rest) a w:=by
 refine wpList_plain hg fun K' Ka=>?_
 obtain⟨w',Vd,r1,r2⟩:=Yd h t kt et hm hd k v;unfold Oper.wp;simp[execOp,Qv,Ue,hx,hv,Vd,Result.andThen];exact Ka _ _ (hK w' r1 r2)
theorem rX{P:Program}(w:World){ops:Array Oper}{rest:List Oper}{o:Oper}{a:Act}{Q:Exit→Act→World→Prop}(hg:o.guard=none)(mo x:Operand)(t:TypeId)(ok:Bool)(Qv:o.op=Op.lookup t mo x ok)
  (kt et:TypeId) (hm:P.underlying t=some (.map kt et)) (hd:P.underlying kt=some .string) (z:Value) (hz:(zeroValue et).run P w=.ok z w) (b:Nat) (m:List (List UInt8×Value)) (h:MapS w b m) (k:List UInt8) (Ue:a.eval mo=.map (some b)) (hx:a.eval x=ak k)
  (hK:wpList P ops Q rest (a.put o.dst (if ok then .tuple #[(getM k m).getD z,.bool (getM k m).isSome] else(getM k m).getD z)) w):wpList P ops Q (o::rest) a w:=by
 refine wpList_plain hg fun K' Ka=>?_
 have Vd:=Yc h t kt et hm hd z hz k ok;unfold Oper.wp;simp[execOp,Qv,Ue,hx,Vd,Result.andThen];exact Ka _ _ hK
theorem run_len_map{P:Program}{w:World}{b:Nat}{m:List (List UInt8×Value)}(h:MapS w b m)(t kt et r:TypeId)(hm:P.underlying t=some (.map kt et)):
  (Builtin.len_ #[t] r #[.map (some b)]).run P w=.ok (.int .i64 m.length) w:=by
 obtain⟨es,clock,hb,hs,hk⟩:=h;have:es.size=m.length:=by have:=congrArg List.length hk;simpa using this
 simp[Builtin.len_,run_underlying hm,MapKept.run_getObj_map hb,goInt,Result.andThen,this]
theorem MC{P:Program}(w:World){ops:Array Oper}{rest:List Oper}{o:Oper}{a:Act}{Q:Exit→Act→World→Prop}(hg:o.guard=none)(mo:Operand)(t:TypeId)(Qv:o.op=Op.call { callee:=Callee.builtin Builtin.len,args:=#[mo],argTypes:=#[t] })
  (kt et:TypeId) (hm:P.underlying t=some (.map kt et)) (b:Nat) (m:List (List UInt8×Value)) (h:MapS w b m) (Ue:a.eval mo=.map (some b))
  (hK:wpList P ops Q rest (a.put o.dst (.int .i64 m.length)) w):wpList P ops Q (o::rest) a w:=by
 refine wpList_plain hg fun K' Ka=>?_
 unfold Oper.wp;simp[execOp,Qv,resolve,invoke,builtin,Ue,run_len_map h t kt et o.type hm,Result.andThen];exact Ka _ _ hK
theorem get_put{α:Type}(k l:List UInt8)(v:α)(m:List (List UInt8×α)):getM l (fU k v m)=if k=l then some v else getM l m:=by
 induction m with
 | nil=>simp[fU,getM]
 | cons x m ih =>
  by_cases hx:x.1=k
  ·by_cases hl:k=l<;>simp[fU,getM,hx,hl]
  ·by_cases hl:k=l
   ·subst hl;simp[fU,getM,hx,ih]
   ·simp[fU,getM,hx,ih,hl]
theorem NR{α:Type}(k:List UInt8)(v:α)(m:List (List UInt8×α)):(fU k v m).map (·.1)=if k∈m.map (·.1) then m.map (·.1) else m.map (·.1)++[k]:=by
 induction m with
 | nil=>simp[fU]
 | cons x m ih =>
  by_cases hx:x.1=k
  ·simp[fU,hx]
  ·simp only[fU,hx,if_false,List.map_cons,ih,List.mem_cons]
   by_cases hk:k∈m.map (·.1)
   ·simp[hk]
   ·simp[hk,Ne.symm hx]
end
section
open Go.Sort
def iT(id text:Bytes):Bool := !id.isEmpty&&decide (id.length≤40)&&decide (text.length≤2000)&&Lib.validD id&&Lib.validD text
def fV(l:List au):Prop:=(∀d∈l,iT d.1 d.2=true)∧(l.map (·.1)).Nodup
abbrev OpL:=Bool×au
abbrev aG:=List au×Bytes
def dZ(o:OpL):Bool:=if o.1 then !o.2.1.isEmpty&&decide (o.2.1.length≤40)&&Lib.validD o.2.1&&o.2.2.isEmpty else iT o.2.1 o.2.2
def fK:List OpL→List OpL
 | []=>[]
 | o::l=>if o.2.1∈l.map (fun p=>p.2.1) then fK l else o::fK l
def oz(l:List au)(id:Bytes):Option Nat:=l.findIdx? (fun d=>d.1==id)
def fM(id:Bytes)(p:aG):aG:=match oz p.1 id with
 | some k=>(p.1,nR p.2 k true 1)
 | none=>p
def iq(ids:List Bytes)(ps:List aG):List aG:=ids.foldl (fun ps id=>ps.map (fM id)) ps
def bG(l:List au):List aG×Bytes:=if l=[] then([],[]) else([(l,jr l.length)],jV l (Ci l))
def bq(ops:List OpL):List au:=((fK ops).filter (fun o => !o.1)).map (·.2)
def nI(ops:List OpL):List Bytes:=(fK ops).map (fun o=>o.2.1)
def fB(ps:List aG)(ops:List OpL):List aG×Bytes×Int :=
 if ops.length<1∨50<ops.length then(ps,[],6)
 else if ops.all dZ then(iq (nI ops) ps++(bG (bq ops)).1,(bG (bq ops)).2,0) else(ps,[],1)
def nC(g:Bytes):List au→Nat→List au
 | [],_=>[]
 | d::l,k=>if bit g k then nC g l (k+1) else d::nC g l (k+1)
def rY(p:aG):List au:=nC p.2 p.1 0
def aH(ps:List aG):List au:=ps.flatMap rY
def uI(ps:List aG):List au:=(aH ps).foldl (fun m d=>fU d.1 d.2 m) []
def bW(ps:List aG):List au:=(((uI ps).map (·.1)).mergeSort leB).map fun id=>(id,(getM id (uI ps)).getD [])
def kX(ps:List aG)(a b:Int):List aG×Bytes×Int :=
 if a<0∨b≤a∨(ps.length:Int)≤b then(ps,[],1)
 else
  let all:=bW ((ps.take (b.toNat+1)).drop a.toNat)
  if 500<all.length then(ps,[],6)
  else(ps.take a.toNat++((bG all).1++ps.drop (b.toNat+1)),(bG all).2,0)
theorem DR{α β:Type}{f:α→β}{l:List α}(h:(l.map f).Nodup):l.Nodup:=List.Pairwise.of_map f (fun a b Az e=>Az (by rw[e])) h
theorem SY{α β:Type}{l m:List α}(h:l.Sublist m)(f:α→List β):(l.flatMap f).Sublist (m.flatMap f):=by
 induction h with
 | slnil=>exact List.Sublist.slnil
 | cons a _ ih=>rw[List.flatMap_cons];exact ih.trans (List.sublist_append_right _ _)
 | cons_cons a _ ih=>rw[List.flatMap_cons,List.flatMap_cons];exact(List.Sublist.refl _).append ih
theorem getM_some{α:Type}(k:Bytes)(m:List (Bytes×α)):(getM k m).isSome=decide (k∈m.map (·.1)):=by
 induction m with
 | nil=>simp[getM]
 | cons x m ih =>
  by_cases h:x.1=k
  ·simp[getM,h]
  ·simp[getM,h,ih,Ne.symm h]
theorem NS{α:Type}(k:Bytes)(v:α)(m:List (Bytes×α))(hn:(m.map (·.1)).Nodup):getM k m=some v↔(k,v)∈m:=by
 induction m with
 | nil=>simp[getM]
 | cons x m ih =>
  simp only[List.map_cons,List.nodup_cons] at hn;by_cases h:x.1=k
  ·simp only[getM,h,if_true,List.mem_cons]
   constructor
   ·intro e;cases e;left;rw[←h]
   ·rintro(e|e)
    ·rw[←e]
    ·exact absurd (List.mem_map.2 ⟨_,e,rfl⟩) (by rw[←h];exact hn.1)
  ·simp only[getM,h,if_false,List.mem_cons]
   rw[ih hn.2];constructor
   ·exact Or.inr
   ·rintro(e|e)
    ·exact absurd (by rw[←e]) h
    ·exact e
theorem putM_new{α:Type}(k:Bytes)(v:α)(m:List (Bytes×α))(h:k∉m.map (·.1)):fU k v m=m++[(k,v)]:=by
 induction m with
 | nil=>rfl
 | cons x m ih =>
  simp only[List.map_cons,List.mem_cons,not_or] at h;simp[fU,Ne.symm h.1,ih h.2]
theorem aat(l m:List au)(h:((m++l).map (·.1)).Nodup):l.foldl (fun m d=>fU d.1 d.2 m) m=m++l:=by
 induction l generalizing m with
 | nil=>simp
 | cons d l ih =>
  have h':(((m++[d])++l).map (·.1)).Nodup:=by simpa using h
  have hd:d.1∉m.map (·.1):=by
   simp only[List.map_append,List.map_cons] at h;exact fun hm=>(List.nodup_append.1 h).2.2 _ hm _ (List.mem_cons_self) rfl
  rw[List.foldl_cons,putM_new _ _ _ hd];have:=ih (m++[d]) h';simpa using this
theorem Cj(ps:List aG)(h:((aH ps).map (·.1)).Nodup):uI ps=aH ps:=by
 have:=aat (aH ps) [] (by simpa using h)
 simpa[uI] using this
theorem JZ:∀a b c:List UInt8,leB a b=true→leB b c=true→leB a c=true:=fun a b c h1 h2=>by
 simp only[leB,decide_eq_true_eq] at *;exact List.le_trans h1 h2
theorem J4:∀a b:List UInt8,(leB a b||leB b a)=true:=fun a b=>by
 simp only[leB,Bool.or_eq_true,decide_eq_true_eq];exact List.le_total a b
theorem zy(ps:List aG)(h:((aH ps).map (·.1)).Nodup)(d:au):d∈bW ps↔d∈aH ps:=by
 unfold bW;rw[Cj ps h];simp only[List.mem_map,List.mem_mergeSort];constructor
 ·rintro⟨id,⟨x,hx,rfl⟩,rfl⟩
  have:getM x.1 (aH ps)=some x.2:=(NS _ _ _ h).2 hx;rw[this];exact hx
 ·intro hd
  refine⟨d.1,⟨d,hd,rfl⟩,?_⟩;rw[(NS d.1 d.2 _ h).2 hd];rfl
theorem J6(ps:List aG):(bW ps).map (·.1)=((uI ps).map (·.1)).mergeSort leB:=by
 unfold bW;rw[List.map_map];exact List.map_id' _
theorem yN(ps:List aG)(h:((aH ps).map (·.1)).Nodup):((bW ps).map (·.1)).Nodup:=by
 rw[J6,Cj ps h];exact(List.mergeSort_perm _ _).nodup_iff.2 h
theorem VN(a b:List au)(ha:(a.map (·.1)).Pairwise (fun x y=>leB x y=true))(hb:(b.map (·.1)).Pairwise (fun x y=>leB x y=true))(na:(a.map (·.1)).Nodup)(nb:(b.map (·.1)).Nodup)
  (h:∀d,d∈a↔d∈b):a=b:=by
 have hp:a.Perm b:=(List.perm_ext_iff_of_nodup (DR na) (DR nb)).2 h;refine List.Perm.eq_of_pairwise (le:=fun x y=>leB x.1 y.1=true) (fun x y hx hy h1 h2=>?_) (List.pairwise_map.1 ha) (List.pairwise_map.1 hb) hp
 simp only[leB,decide_eq_true_eq] at h1 h2;have e:x.1=y.1:=List.le_antisymm h1 h2;have Kc:y∈a:=hp.mem_iff.2 hy;have g1:=(NS x.1 x.2 a na).2 hx;have g2:=(NS y.1 y.2 a na).2 Kc;rw[e] at g1;rw[g1] at g2;exact Prod.ext e (Option.some.inj g2)
theorem YL(g:Bytes)(l:List au)(k:Nat)(d:au):d∈nC g l k↔∃i,l[i]?=some d∧bit g (k+i)=false:=by
 induction l generalizing k with
 | nil=>simp[nC]
 | cons x l ih =>
  rw[nC];have step:(∃i,(x::l)[i]?=some d∧bit g (k+i)=false)↔(x=d∧bit g k=false)∨∃i,l[i]?=some d∧bit g (k+1+i)=false:=by
   constructor
   ·rintro⟨i,h1,h2⟩
    cases i with
    | zero=>exact .inl ⟨by simpa using h1,h2⟩
    | succ i=>exact .inr ⟨i,by simpa using h1,by rw[show k+1+i=k+(i+1) by omega];exact h2⟩
   ·rintro(⟨h1,h2⟩|⟨i,h1,h2⟩)
    ·exact⟨0,by simp[h1],h2⟩
    ·exact⟨i+1,by simpa using h1,by rw[show k+(i+1)=k+1+i by omega];exact h2⟩
  rw[step];cases hb:bit g k with
  | true=>simp[ih]
  | false=>simp only[Bool.false_eq_true,if_false,List.mem_cons,ih,and_true];rw[eq_comm]
theorem YM(g:Bytes)(l:List au)(k:Nat):(nC g l k).Sublist l:=by
 induction l generalizing k with
 | nil=>exact List.Sublist.slnil
 | cons x l ih =>
  rw[nC];split
  ·exact(ih _).cons _
  ·exact(ih _).cons_cons _
theorem DT(l:List au)(id:Bytes)(k:Nat)(h:oz l id=some k):∃d,l[k]?=some d∧d.1=id:=by
 unfold oz at h;rw[List.findIdx?_eq_some_iff_getElem] at h;obtain⟨hk,h1,_⟩:=h;exact⟨l[k],List.getElem?_eq_getElem hk,by simpa using h1⟩
theorem NT(l:List au)(id:Bytes)(h:oz l id=none):id∉l.map (·.1):=by
 unfold oz at h;rw[List.findIdx?_eq_none_iff] at h;intro hm;obtain⟨d,hd,e⟩:=List.mem_map.1 hm;have:=h d hd;simp[e] at this
theorem at_one{l:List au}(hn:(l.map (·.1)).Nodup){i j:Nat}{d e:au}(hi:l[i]?=some d)(hj:l[j]?=some e)(h:d.1=e.1):i=j:=by
 have h1:(l.map (·.1))[i]?=some d.1:=by simp[hi]
 have h2:(l.map (·.1))[j]?=some d.1:=by simp[hj,h]
 obtain⟨a,b⟩:=List.getElem?_eq_some_iff.1 h1;obtain⟨a',b'⟩:=List.getElem?_eq_some_iff.1 h2;exact(List.getElem_inj hn).1 (b.trans b'.symm)
theorem findL_of(l:List au)(hn:(l.map (·.1)).Nodup)(k:Nat)(d:au)(h:l[k]?=some d):oz l d.1=some k:=by
 cases hf:oz l d.1 with
 | none=>exact absurd (List.mem_map.2 ⟨d,List.mem_of_getElem? h,rfl⟩) (NT _ _ hf)
 | some j =>
  obtain⟨e,h1,h2⟩:=DT _ _ _ hf;rw[at_one hn h1 h h2]
def PartOk(p:aG):Prop:=fV p.1∧1≤p.1.length∧p.1.length≤500∧p.2.length=(p.1.length+7) / 8
def eu(ps:List aG):Prop:=(∀p∈ps,PartOk p)∧((aH ps).map (·.1)).Nodup
theorem qN(id:Bytes)(p:aG):(fM id p).1=p.1:=by unfold fM;split<;>rfl
theorem LC(id:Bytes)(p:aG):(fM id p).2.length=p.2.length:=by
 unfold fM;split
 ·exact DL _ _ _ _
 ·rfl
theorem NU(id:Bytes)(p:aG)(h:PartOk p):PartOk (fM id p):=by
 unfold PartOk;rw[qN,LC];exact h
theorem S9(id:Bytes)(p:aG)(h:PartOk p)(d:au):d∈rY (fM id p)↔d∈rY p∧d.1≠id:=by
 unfold rY;rw[YL,YL,qN];obtain⟨⟨_,hn⟩,_,_,hl⟩:=h;cases hf:oz p.1 id with
 | none =>
  have e:fM id p=p:=by unfold fM;rw[hf]
  rw[e];constructor
  ·rintro⟨i,h1,h2⟩
   exact⟨⟨i,h1,h2⟩,fun e=>NT _ _ hf (by rw[←e];exact List.mem_map.2 ⟨d,List.mem_of_getElem? h1,rfl⟩)⟩
  ·exact fun h=>h.1
 | some k =>
  have e:(fM id p).2=nR p.2 k true 1:=by unfold fM;rw[hf]
  obtain⟨x,hx,hid⟩:=DT _ _ _ hf;have hk:k<p.1.length:=(List.getElem?_eq_some_iff.1 hx).1;rw[e];have hb:∀j,bit (nR p.2 k true 1) j=if k≤j∧j<k+1 then true else bit p.2 j:=fun j=>JY p.2 k 1 j true (by omega)
  constructor
  ·rintro⟨i,h1,h2⟩
   rw[hb,Nat.zero_add] at h2;by_cases hik:k≤i∧i<k+1
   ·rw[if_pos hik] at h2;cases h2
   ·rw[if_neg hik] at h2
    refine⟨⟨i,h1,by rw[Nat.zero_add];exact h2⟩,fun e=>hik ?_⟩
    have:=at_one hn h1 hx (by rw[e,hid])
    omega
  ·rintro⟨⟨i,h1,h2⟩,aF⟩
   refine⟨i,h1,?_⟩;rw[hb,if_neg]
   ·exact h2
   ·rintro⟨h3,h4⟩
    have:i=k:=by omega
    subst this;rw[hx] at h1;cases h1;exact aF hid
theorem VO(id:Bytes)(p:aG)(h:PartOk p):(rY (fM id p)).Sublist (rY p):=by
 unfold rY;rw[qN];have hg:∀j,bit p.2 j=true→bit (fM id p).2 j=true:=by
  intro j hj;unfold fM;split
  ·rename_i k hk
   obtain⟨x,hx,_⟩:=DT _ _ _ hk;have Co:k<p.1.length:=(List.getElem?_eq_some_iff.1 hx).1;obtain⟨_,_,_,hl⟩:=h;rw[JY p.2 k 1 j true (by omega)]
   split
   ·rfl
   ·exact hj
  ·exact hj
 generalize (fM id p).2=g at hg;generalize p.2=g0 at hg;generalize p.1=l;generalize (0:Nat)=k;induction l generalizing k with
 | nil=>exact List.Sublist.slnil
 | cons x l ih =>
  rw[nC,nC];by_cases h0:bit g0 k=true
  ·rw[if_pos h0,if_pos (hg k h0)];exact ih _
  ·rw[if_neg h0]
   split
   ·exact(ih _).cons _
   ·exact(ih _).cons_cons _
theorem Tc(ps:List aG):iq [] ps=ps:=rfl
theorem wM(id:Bytes)(ids:List Bytes)(ps:List aG):iq (id::ids) ps=iq ids (ps.map (fM id)):=rfl
theorem VP(ids:List Bytes)(ps:List aG)(h:∀p∈ps,PartOk p):∀p∈iq ids ps,PartOk p:=by
 induction ids generalizing ps with
 | nil=>exact h
 | cons id ids ih =>
  rw[wM];exact ih _ (fun p hp=>by obtain⟨q,hq,rfl⟩:=List.mem_map.1 hp;exact NU id q (h q hq))
theorem Ae(ids:List Bytes)(ps:List aG):(iq ids ps).length=ps.length:=by
 induction ids generalizing ps with
 | nil=>rfl
 | cons id ids ih=>rw[wM,ih,List.length_map]
theorem Ye(id:Bytes)(ps:List aG)(h:∀p∈ps,PartOk p)(d:au):d∈aH (ps.map (fM id))↔d∈aH ps∧d.1≠id:=by
 unfold aH;simp only[List.mem_flatMap,List.mem_map];constructor
 ·rintro⟨q,⟨p,hp,rfl⟩,hd⟩
  have:=(S9 id p (h p hp) d).1 hd;exact⟨⟨p,hp,this.1⟩,this.2⟩
 ·rintro⟨⟨p,hp,hd⟩,aF⟩
  exact⟨_,⟨p,hp,rfl⟩,(S9 id p (h p hp) d).2 ⟨hd,aF⟩⟩
theorem Td(ids:List Bytes)(ps:List aG)(h:∀p∈ps,PartOk p)(d:au):d∈aH (iq ids ps)↔d∈aH ps∧d.1∉ids:=by
 induction ids generalizing ps with
 | nil=>simp[Tc]
 | cons id ids ih =>
  rw[wM,ih _ (fun p hp=>by obtain⟨q,hq,rfl⟩:=List.mem_map.1 hp;exact NU id q (h q hq)),Ye id ps h]
  simp only[List.mem_cons,not_or];exact⟨fun ⟨⟨a,b⟩,c⟩=>⟨a,b,c⟩,fun ⟨a,b,c⟩=>⟨⟨a,b⟩,c⟩⟩
theorem aew(ids:List Bytes)(ps:List aG)(h:∀p∈ps,PartOk p):(aH (iq ids ps)).Sublist (aH ps):=by
 induction ids generalizing ps with
 | nil=>exact List.Sublist.refl _
 | cons id ids ih =>
  rw[wM];refine(ih _ (fun p hp=>by obtain⟨q,hq,rfl⟩:=List.mem_map.1 hp;exact NU id q (h q hq))).trans ?_
  unfold aH;clear ih;induction ps with
  | nil=>exact List.Sublist.slnil
  | cons p ps ih =>
   rw[List.map_cons,List.flatMap_cons,List.flatMap_cons];exact(VO id p (h p (by simp))).append (ih (fun q hq=>h q (by simp[hq])))
theorem Gp(l:List OpL):(fK l).Sublist l:=by
 induction l with
 | nil=>exact List.Sublist.slnil
 | cons o l ih =>
  rw[fK];split
  ·exact ih.cons _
  ·exact ih.cons_cons _
theorem YN(l:List OpL)(id:Bytes):id∈nI l↔id∈l.map (fun o=>o.2.1):=by
 unfold nI;induction l with
 | nil=>simp[fK]
 | cons o l ih =>
  rw[fK];by_cases h:o.2.1∈l.map (fun p=>p.2.1)
  ·rw[if_pos h,ih,List.map_cons,List.mem_cons]
   constructor
   ·exact Or.inr
   ·rintro(e|e)
    ·rw[e];exact h
    ·exact e
  ·rw[if_neg h,List.map_cons,List.map_cons,List.mem_cons,List.mem_cons,ih]
theorem aex(l:List OpL):(nI l).Nodup:=by
 unfold nI;induction l with
 | nil=>simp[fK]
 | cons o l ih =>
  rw[fK];by_cases h:o.2.1∈l.map (fun p=>p.2.1)
  ·rw[if_pos h];exact ih
  ·rw[if_neg h,List.map_cons,List.nodup_cons]
   exact⟨fun hm=>h ((YN l _).1 hm),ih⟩
theorem abo(l:List OpL):((bq l).map (·.1)).Sublist (nI l):=by
 unfold bq nI;rw[List.map_map];exact(List.filter_sublist (p:=fun o:OpL => !o.1) (l:=fK l)).map (fun o:OpL=>o.2.1)
theorem agW(l:List OpL)(h:l.all dZ=true):∀d∈bq l,iT d.1 d.2=true:=by
 intro d hd;unfold bq at hd;obtain⟨o,ho,rfl⟩:=List.mem_map.1 hd;rw[List.mem_filter] at ho;have h1:=List.all_eq_true.1 h o ((Gp l).subset ho.1);have h2:o.1=false:=by simpa using ho.2
 unfold dZ at h1;rw[h2] at h1;simpa using h1
theorem RQ(l:List OpL)(h:l.all dZ=true):fV (bq l):=⟨agW l h,(abo l).nodup (aex l)⟩
theorem YO(n j:Nat):bit (List.replicate n 0) j=false:=by
 unfold bit;rw[List.getD_eq_getElem?_getD,List.getElem?_replicate];split<;>simp
theorem live_new(l:List au):rY (l,jr l.length)=l:=by
 have hz:∀j,bit (jr (l.length:Nat)) j=false:=by
  intro j;unfold jr;split
  ·exact YO _ _
  ·simp[bit]
 unfold rY;simp only;generalize jr (l.length:Nat)=g at hz;generalize (0:Nat)=k;induction l generalizing k with
 | nil=>rfl
 | cons d l ih=>rw[nC,hz k];simp[ih]
theorem Iz(l:List au):aH (bG l).1=l:=by
 unfold bG;split
 ·rename_i h;rw[h];rfl
 ·simp[aH,live_new]
theorem abp(l:List au)(h:fV l)(hl:l.length≤500):∀p∈(bG l).1,PartOk p:=by
 unfold bG;split
 ·intro p hp;simp at hp
 ·rename_i aF
  intro p hp;simp only[List.mem_singleton] at hp;subst hp;have h1:1≤l.length:=List.length_pos_iff.2 aF;refine⟨h,h1,hl,?_⟩;simp only[jr];rw[if_pos (by omega),List.length_replicate]
  omega
theorem DU(l:List au):(bG l).1.length≤1:=by unfold bG;split<;>simp
theorem qO(a b:List aG):aH (a++b)=aH a++aH b:=by simp[aH]
theorem aey(ps:List aG)(ops:List OpL)(h:eu ps)(hl:ops.length≤50)(hr:ops.all dZ=true):eu (iq (nI ops) ps++(bG (bq ops)).1):=by
 have aD:(bq ops).length≤500:=by
  have h1:(bq ops).length≤(fK ops).length:=by unfold bq;rw[List.length_map];exact List.length_filter_le _ _
  have h2:=(Gp ops).length_le;omega
 refine⟨fun p hp=>?_,?_⟩
 ·rcases List.mem_append.1 hp with hp|hp
  ·exact VP _ _ h.1 p hp
  ·exact abp _ (RQ ops hr) aD p hp
 ·rw[qO,Iz,List.map_append,List.nodup_append]
  refine⟨((aew (nI ops) ps h.1).map _).nodup h.2,(RQ ops hr).2,?_⟩;intro a ha b hb e;subst e;obtain⟨d,hd,rfl⟩:=List.mem_map.1 ha;exact((Td (nI ops) ps h.1 d).1 hd).2 ((abo ops).subset hb)
theorem Ji(ps:List aG)(ops:List OpL)(h:eu ps):eu (fB ps ops).1:=by
 unfold fB;split
 ·exact h
 ·rename_i hl
  split
  ·rename_i hr
   exact aey ps ops h (by omega) hr
  ·exact h
theorem Pn(ps:List aG)(ops:List OpL):(fB ps ops).1.length≤ps.length+1:=by
 unfold fB;split
 ·simp
 ·split
  ·simp only[List.length_append,Ae]
   have:=DU (bq ops);omega
  ·simp
theorem Gq(ps:List aG)(h:((aH ps).map (·.1)).Nodup):(bW ps).Perm (aH ps) :=
 (List.perm_ext_iff_of_nodup (DR (yN ps h)) (DR h)).2 (fun d=>zy ps h d)
theorem many_eq(ps:List aG)(h:((aH ps).map (·.1)).Nodup):(uI ps).length=(bW ps).length:=by
 rw[Cj ps h];exact(Gq ps h).length_eq.symm
theorem Hr(ps:List aG)(h:∀p∈ps,PartOk p)(d:au)(hd:d∈aH ps):iT d.1 d.2=true:=by
 obtain⟨p,hp,hd⟩:=List.mem_flatMap.1 hd;exact(h p hp).1.1 d ((YM _ _ _).subset hd)
theorem Fe(ps:List aG)(h:eu ps):fV (bW ps) :=
 ⟨fun d hd=>Hr ps h.1 d ((zy ps h.2 d).1 hd),yN ps h.2⟩
theorem aez(ps:List aG)(i n:Nat)(h:i≤n):ps=ps.take i++((ps.take n).drop i++ps.drop n):=by
 have h1:(ps.take n).drop i++ps.drop n=ps.drop i:=by
  by_cases hn:n≤ps.length
  ·have h2:ps.drop i=((ps.take n)++ps.drop n).drop i:=by rw[List.take_append_drop]
   rw[h2,List.drop_append_of_le_length (by rw[List.length_take];omega)]
  ·rw[List.drop_eq_nil_of_le (by omega:ps.length≤n),List.take_of_length_le (by omega:ps.length≤n),List.append_nil]
 rw[h1,List.take_append_drop]
theorem Jj(ps:List aG)(i n:Nat)(h:eu ps):eu ((ps.take n).drop i):=by
 have hs:((ps.take n).drop i).Sublist ps:=(List.drop_sublist _ _).trans (List.take_sublist _ _);refine⟨fun p hp=>h.1 p (hs.subset hp),(List.Sublist.map _ ?_).nodup h.2⟩
 unfold aH;exact SY hs _
def RS(ps:List aG)(i n:Nat):List aG:=ps.take i++((bG (bW ((ps.take n).drop i))).1++ps.drop n)
theorem Tf(ps:List aG)(i n:Nat)(qF:i≤n)(h:eu ps):(aH (RS ps i n)).Perm (aH ps):=by
 have e:=aez ps i n qF;unfold RS;conv=>rhs;rw[e]
 rw[qO,qO,qO,qO,Iz];exact List.Perm.append_left _ (List.Perm.append_right _ (Gq _ (Jj ps i n h).2))
theorem YQ(ps:List aG)(i n:Nat)(qF:i≤n)(h:eu ps)(hl:(bW ((ps.take n).drop i)).length≤500):eu (RS ps i n):=by
 refine⟨fun p hp=>?_,((Tf ps i n qF h).map _).nodup_iff.2 h.2⟩
 unfold RS at hp;rcases List.mem_append.1 hp with hp|hp
 ·exact h.1 p (List.mem_of_mem_take hp)
 ·rcases List.mem_append.1 hp with hp|hp
  ·exact abp _ (Fe _ (Jj ps i n h)) hl p hp
  ·exact h.1 p (List.mem_of_mem_drop hp)
theorem merge_ok(ps:List aG)(a b:Int)(h:eu ps):eu (kX ps a b).1:=by
 unfold kX;split
 ·exact h
 ·rename_i hc
  simp only;split
  ·exact h
  ·rename_i hl
   exact YQ ps a.toNat (b.toNat+1) (by omega) h (by omega)
theorem abq(ps:List aG)(a b:Int):(kX ps a b).1.length≤ps.length:=by
 unfold kX;split
 ·simp
 ·rename_i hc
  simp only;split
  ·simp
  ·have:=DU (bW ((ps.take (b.toNat+1)).drop a.toNat))
   simp only[List.length_append,List.length_take,List.length_drop];omega
end
section
inductive QL where
 | mk (kind:Int) (text:Bytes) (must should nt:List QL)
abbrev bP:=List (Bytes×Nat)
def kY(l:bP):bP:=l.map fun t=>(t.1,t.2-(l.headD ([],0)).2)
def ay(s:Bytes):bP:=kY (aA s)
def Fg(l:bP)(t:Bytes)(k:Nat):Bool:=l.any fun x=>x.1==t&&x.2==k
def kC(p l:bP):Nat:=match p with
 | []=>0
 | x::r=>(l.filter fun y=>y.1==x.1&&r.all fun t=>Fg l t.1 (y.2+t.2)).length
def jl(f:Bytes)(l:bP):Nat:=if f=[] then 0 else(l.filter fun y=>f.isPrefixOf y.1).length
def bB(wt:Bytes→Nat)(p:bP):Nat:=(p.map fun t=>wt t.1).sum
def yO(n k:Nat):Nat:=if n<1∨k<1 then 0 else Lib.bitLen (n / k)
mutual
def bg:QL→bP→Bool
 | .mk k s m sh n,l =>
  if k=1 then true
  else if k=2 then decide (0<kC ((ay s).take 1) l)
  else if k=3 then decide (0<kC (ay s) l)
  else if k=4 then decide (0<jl (bQ s) l)
  else if k=5 then allT m l && !qP n l&&(!m.isEmpty||sh.isEmpty||qP sh l)
  else false
def allT:List QL→bP→Bool
 | [],_=>true
 | q::qs,l=>bg q l&&allT qs l
def qP:List QL→bP→Bool
 | [],_=>false
 | q::qs,l=>bg q l||qP qs l
end
mutual
def jK(wt:Bytes→Nat):QL→bP→Nat
 | .mk k s m sh n,l =>
  if k=1 then 1
  else if k=2 then bB wt ((ay s).take 1)*kC ((ay s).take 1) l
  else if k=3 then bB wt (ay s)*kC (ay s) l
  else if k=4 then jl (bQ s) l
  else bX wt m l+DV wt sh l
def bX(wt:Bytes→Nat):List QL→bP→Nat
 | [],_=>0
 | q::qs,l=>jK wt q l+bX wt qs l
def DV(wt:Bytes→Nat):List QL→bP→Nat
 | [],_=>0
 | q::qs,l=>(if bg q l then jK wt q l else 0)+DV wt qs l
end
mutual
def Fh:QL→Bool
 | .mk k s m sh n=>(decide (1≤k)&&decide (k≤5))&&(xX m&&xX sh&&xX n)
def xX:List QL→Bool
 | []=>true
 | q::qs=>Fh q&&xX qs
end
abbrev DF:=Nat→Option Nat
def tu(n:Nat):DF:=fun i=>if i<n then some 1 else none
def DW:DF:=fun _=>none
def xY(F:DF):DF:=fun i=>(F i).map fun _=>0
def jD:List (Option Nat)→Nat
 | []=>0
 | o::l=>o.getD 0+jD l
def lY(Fs:List DF):DF:=fun i=>if (Fs.any fun F=>(F i).isSome) then some (jD (Fs.map fun F=>F i)) else none
def lZ(M S N:List DF):DF:=fun i=>if (M.all fun F=>(F i).isSome) && !(N.any fun F=>(F i).isSome) then some (jD (M.map fun F=>F i)+jD (S.map fun F=>F i)) else none
def Af(n:Nat)(M S:List DF):List DF:=if M=[] then(if S=[] then [xY (tu n)] else [xY (lY S)]) else M
def countP(p:bP)(s:Bytes):Nat:=((placesIn s (p.headD ([],0)).1).filter fun x=>p.all fun t=>decide (x+(t.2:Int)∈placesIn s t.1)).length
def kM(l:List au)(p:bP)(w:Nat):DF:=fun i=>match l[i]? with
 | some d=>if 0<countP p d.2 then some (countP p d.2*w) else none
 | none=>none
def oC(l:List au)(t:Bytes):DF:=fun i=>match l[i]? with
 | some d=>if placesIn d.2 t=[] then none else some (placesIn d.2 t).length
 | none=>none
def Ag(ts:List Bytes)(l:List au)(f:Bytes):DF:=if f=[] then DW else lY ((ts.filter fun t=>f.isPrefixOf t).map (oC l))
mutual
def fO(l:List au)(wt:Bytes→Nat):QL→DF
 | .mk k s m sh n =>
  if k=1 then tu l.length
  else if k=4 then Ag (dK l) l (bQ s)
  else if k=5 then lZ (Af l.length (fZ l wt m) (fZ l wt sh)) (fZ l wt sh) (fZ l wt n)
  else if ay s=[] then DW
  else if k=2 then kM l ((ay s).take 1) (bB wt ((ay s).take 1))
  else kM l (ay s) (bB wt (ay s))
def fZ(l:List au)(wt:Bytes→Nat):List QL→List DF
 | []=>[]
 | q::qs=>fO l wt q::fZ l wt qs
end
def jd(F:DF)(doc:Nat)(r:Option (Nat×Nat)):Prop:=match r with
 | some (d,s)=>doc≤d∧F d=some s∧∀j,doc≤j→j<d→F j=none
 | none=>∀j,doc≤j→F j=none
theorem mem_places(s t:Bytes)(x:Int):x∈placesIn s t↔∃k:Nat,x=k∧(t,k)∈aA s:=by
 unfold placesIn;rw[List.mem_filterMap];constructor
 ·rintro⟨y,hy,h⟩
  by_cases e:y.1=t
  ·rw[if_pos e] at h
   exact⟨y.2,by simpa using h.symm,by rw[←e];exact hy⟩
  ·rw[if_neg e] at h;cases h
 ·rintro⟨k,rfl,h⟩
  exact⟨(t,k),h,by simp⟩
theorem aeB(l:bP)(t:Bytes)(k:Nat):Fg l t k=true↔(t,k)∈l:=by
 unfold Fg;rw[List.any_eq_true];constructor
 ·rintro⟨⟨a,b⟩,hx,h⟩
  simp only[Bool.and_eq_true,beq_iff_eq] at h;rw[←h.1,←h.2];exact hx
 ·intro h
  exact⟨(t,k),h,by simp⟩
theorem aau{α:Type}(l:bP)(t:Bytes)(f:Int→Bool):((l.filterMap fun x=>if x.1=t then some (x.2:Int) else none).filter f).length=(l.filter fun y=>y.1==t&&f (y.2:Int)).length:=by
 induction l with
 | nil=>rfl
 | cons y l ih =>
  by_cases e:y.1=t
  ·have e':(y.1==t)=true:=by simpa using e
   rw[List.filterMap_cons_some (b:=(y.2:Int)) (by rw[if_pos e]),List.filter_cons,List.filter_cons,e']
   cases f (y.2:Int)<;>simp[ih]
  ·have e':(y.1==t)=false:=by simpa using e
   rw[List.filterMap_cons_none (by rw[if_neg e]),List.filter_cons,e',ih]
   simp
theorem countP_eq(p:bP)(s:Bytes)(hp:p≠[])(h0:(p.headD ([],0)).2=0):countP p s=kC p (aA s):=by
 cases p with
 | nil=>exact absurd rfl hp
 | cons x r =>
  unfold countP kC;rw[show placesIn s ((x::r).headD ([],0)).1=(aA s).filterMap fun y=>if y.1=x.1 then some (y.2:Int) else none from rfl,aau (α:=Unit)]
  congr 1;refine List.filter_congr fun y hy=>?_
  by_cases e:y.1=x.1
  ·simp only[beq_iff_eq.2 e,Bool.true_and,List.all_cons]
   have h1:decide ((y.2:Int)+(x.2:Int)∈placesIn s x.1)=true:=by
    rw[decide_eq_true_eq,mem_places];refine⟨y.2,?_,by rw[←e];exact hy⟩
    have:x.2=0:=h0;omega
   rw[h1,Bool.true_and];refine List.all_congr rfl fun t=>?_
   rw[Bool.eq_iff_iff,decide_eq_true_eq,mem_places,aeB];constructor
   ·rintro⟨k,hk,h⟩
    rw[show y.2+t.2=k by omega];exact h
   ·intro h
    exact⟨y.2+t.2,by omega,h⟩
  ·rw[beq_false_of_ne e];simp
theorem aeC(s:Bytes):((ay s).headD ([],0)).2=0∧(((ay s).take 1).headD ([],0)).2=0:=by
 unfold ay kY;cases aA s with
 | nil=>exact⟨rfl,rfl⟩
 | cons x r=>simp
theorem aeD(p:bP)(s:Bytes)(t:Bytes×Nat)(ht:t∈p)(h:placesIn s t.1=[]):countP p s=0:=by
 unfold countP;rw[List.length_eq_zero_iff,List.filter_eq_nil_iff];intro x hx ha;have:=List.all_eq_true.1 ha t ht;rw[h] at this;simp at this
theorem bitAux_le(f x k:Nat)(h:x<2 ^ k):Lib.bitLenAux f x≤k:=by
 induction f generalizing x k with
 | zero=>exact Nat.zero_le _
 | succ f ih =>
  rw[Lib.bitLenAux];by_cases hx:x=0
  ·rw[if_pos hx];exact Nat.zero_le _
  ·rw[if_neg hx]
   cases k with
   | zero=>simp at h;omega
   | succ k =>
    have:=ih (x / 2) k (by rw[Nat.pow_succ] at h;omega)
    omega
theorem bitLen_le{x:Nat}(k:Nat)(h:x<2 ^ k):Lib.bitLen x≤k:=bitAux_le 64 x k h
theorem bitLen_half{x:Nat}(h:x<2 ^ 64):Lib.bitLen x=if x=0 then 0 else 1+Lib.bitLen (x / 2):=by
 have hf:∀f y,y<2 ^ f→Lib.bitLenAux (f+1) y=Lib.bitLenAux f y:=by
  intro f;induction f with
  | zero=>intro y hy;obtain rfl:y=0:=(by simpa using hy);rfl
  | succ f ih =>
   intro y hy;rw[show Lib.bitLenAux (f+1+1) y=if y=0 then 0 else 1+Lib.bitLenAux (f+1) (y / 2) from rfl,show Lib.bitLenAux (f+1) y=if y=0 then 0 else 1+Lib.bitLenAux f (y / 2) from rfl]
   by_cases h0:y=0
   ·rw[if_pos h0,if_pos h0]
   ·rw[if_neg h0,if_neg h0,ih (y / 2) (by rw[Nat.pow_succ] at hy;omega)]
 have e:Lib.bitLen x=Lib.bitLenAux 65 x:=(hf 64 x h).symm;rw[e,Lib.bitLenAux];rfl
theorem YS(n k:Nat)(hn:n<2 ^ 63):yO n k≤63:=by
 unfold yO;split
 ·omega
 ·exact bitLen_le 63 (Nat.lt_of_le_of_lt (Nat.div_le_self _ _) hn)
end
section
open Go.RowKit
def qY(n k:Int):Nat:=if n<1∨k<1 then 0 else Lib.bitLen (n / k).toNat
theorem Ti(n k:Nat):qY (n:Int) (k:Int)=yO n k:=by
 unfold qY yO;by_cases h:n<1∨k<1
 ·rw[if_pos h,if_pos (by omega)]
 ·rw[if_neg h,if_neg (by omega),←Int.natCast_ediv,Int.toNat_natCast]
theorem Tj(n:Nat)(w:World)(h:n<9223372036854775808):Calls Tryz.prog 32 #[.int .u64 (n:Nat)] w fun e w'=>e=.returned (.int .i64 (Lib.bitLen n:Nat))∧w=w' :=
 (Tryz.bits_Len (n:Int) w (by omega) (by omega)).mono fun e w' h=>⟨by rw[h.1,Int.toNat_natCast],h.2.symm⟩
theorem Ah(n k:Int)(w:World)(hn:n<9223372036854775808)(Ij : -9223372036854775808≤n)(hk:k<9223372036854775808)(gY : -9223372036854775808≤k):
  Calls Tryz.prog 12 #[.int .i64 n,.int .i64 k] w fun e w'=>e=.returned (.int .i64 (qY n k:Nat))∧w=w':=by
 by_cases h1:n<1
 ·have hb:decide (n<1)=true:=decide_eq_true h1
  have hz:qY n k=0:=by unfold qY;rw[if_pos (.inl h1)]
  rw[hz];clear hz h1;go_enter Tryz.func12,Tryz.ntmps12;go_wp2_with fail;go_ret;exact⟨rfl,rfl⟩
 ·have hb:decide (n<1)=false:=decide_eq_false h1
  by_cases h2:k<1
  ·have aO:decide (k<1)=true:=decide_eq_true h2
   have hz:qY n k=0:=by unfold qY;rw[if_pos (.inr h2)]
   rw[hz];clear hz h1 h2;go_enter Tryz.func12,Tryz.ntmps12;go_wp2_with fail;go_ret;exact⟨rfl,rfl⟩
  ·have aO:decide (k<1)=false:=decide_eq_false h2
   have hz:qY n k=Lib.bitLen (n / k).toNat:=by unfold qY;rw[if_neg (by omega)]
   obtain⟨a,rfl⟩:∃a:Nat,n=a:=⟨n.toNat,by omega⟩
   obtain⟨b,rfl⟩:∃b:Nat,k=b:=⟨k.toNat,by omega⟩
   rw[←Int.natCast_ediv,Int.toNat_natCast] at hz;rw[hz];have ku:a / b<9223372036854775808:=Nat.lt_of_le_of_lt (Nat.div_le_self _ _) (by omega)
   have hq:(a:Int).tdiv (b:Int)=((a / b:Nat):Int):=by rw[Int.natCast_ediv];exact Int.tdiv_eq_ediv_of_nonneg (by omega)
   clear hz;generalize a / b=d at *;have lJ:IntKind.i64.wrap (d:Int)=(d:Int):=IntWalk.i64_in _ (by omega)
   have nV:IntKind.u64.wrap (d:Int)=(d:Int):=by simp[IntKind.wrap,IntKind.bits,IntKind.signed];omega
   have c:=fun W=>Tj d W ku
   have C:=Hd c;clear c ku;have lK:((b:Int)==0)=false:=beq_eq_false_iff_ne.2 (by omega)
   have dS:¬(b:Int)=0:=by omega
   go_enter Tryz.func12,Tryz.ntmps12;go_wp2_with fail;refine(C.out _).mono ?_;rintro e w1 ⟨rfl,rfl⟩;go_wp2_with fail;go_ret;exact⟨rfl,rfl⟩
def rowAt(v:Value)(n:Nat)(C:Nat→Nat→Prop):Prop:=∃a cap,v=.slice a n cap∧(0<n→∃b off,a=some ⟨b,off,none⟩∧C b off)
mutual
def QryAt(w:World):QL→Value→Prop
 | .mk k s m sh n,v=>∃vm vs vn,v=.agg #[.int .i64 k,ak s,vm,vs,vn]∧rowAt vm m.length (fun b off=>QcellsAt w m b off)∧rowAt vs sh.length (fun b off=>QcellsAt w sh b off)∧rowAt vn n.length (fun b off=>QcellsAt w n b off)
def QcellsAt(w:World):List QL→Nat→Nat→Prop
 | [],_,_=>True
 | q::qs,b,off=>(∃c0 c1 c2 c3 c4,(w.cell? ⟨b,off,none⟩=some c0∧w.cell? ⟨b,off+1,none⟩=some c1∧w.cell? ⟨b,off+2,none⟩=some c2∧w.cell? ⟨b,off+3,none⟩=some c3∧w.cell? ⟨b,off+4,none⟩=some c4) ∧
   QryAt w q (.agg #[c0,c1,c2,c3,c4]))∧QcellsAt w qs b (off+5)
end
def QrysAt(w:World)(v:Value)(qs:List QL):Prop:=rowAt v qs.length (fun b off=>QcellsAt w qs b off)
theorem rowAt.mono{v:Value}{n:Nat}{C D:Nat→Nat→Prop}(h:rowAt v n C)(hm:∀b off,C b off→D b off):rowAt v n D:=by
 obtain⟨a,cap,h1,h2⟩:=h;refine⟨a,cap,h1,fun hn=>?_⟩
 obtain⟨b,off,h3,h4⟩:=h2 hn;exact⟨b,off,h3,hm _ _ h4⟩
mutual
theorem QryAt.keeps{w w':World}(hc:∀a v,w.cell? a=some v→w'.cell? a=some v):∀(q:QL) (v:Value),QryAt w q v→QryAt w' q v
 | .mk k s m sh n,v,h=>by
  unfold QryAt at h ⊢
  obtain⟨vm,vs,vn,h1,h2,h3,h4⟩:=h
  exact⟨vm,vs,vn,h1,h2.mono (fun b off=>QcellsAt.keeps hc m b off),h3.mono (fun b off=>QcellsAt.keeps hc sh b off),h4.mono (fun b off=>QcellsAt.keeps hc n b off)⟩
theorem QcellsAt.keeps{w w':World}(hc:∀a v,w.cell? a=some v→w'.cell? a=some v):∀(qs:List QL) (b off:Nat),QcellsAt w qs b off→QcellsAt w' qs b off
 | [],_,_,_=>by unfold QcellsAt;trivial
 | q::qs,b,off,h=>by
  unfold QcellsAt at h ⊢
  obtain⟨⟨c0,c1,c2,c3,c4,⟨g0,g1,g2,g3,g4⟩,hq⟩,hr⟩:=h
  exact⟨⟨c0,c1,c2,c3,c4,⟨hc _ _ g0,hc _ _ g1,hc _ _ g2,hc _ _ g3,hc _ _ g4⟩,QryAt.keeps hc q _ hq⟩,QcellsAt.keeps hc qs b (off+5) hr⟩
end
theorem QryAt.stays{w w':World}{q:QL}{v:Value}(h:QryAt w q v)(hb:Q w w'):QryAt w' q v:=QryAt.keeps (fun _ _ h=>ah hb h) q v h
theorem QrysAt.stays{w w':World}{qs:List QL}{v:Value}(h:QrysAt w v qs)(hb:Q w w'):QrysAt w' v qs:=rowAt.mono h (fun b off=>QcellsAt.keeps (fun _ _ h=>ah hb h) qs b off)
def Cs(n₀:Nat)(A B:World):Prop:=Itk (fun _=>False) n₀ A B
theorem Cs.refl(n₀:Nat)(A:World):Cs n₀ A A:=Itk.refl _ _ _
theorem Cs.trans{n₀:Nat}{A B C:World}(h:Cs n₀ A B)(k:Cs n₀ B C):Cs n₀ A C:=Itk.trans h k
theorem Cs.of_q{n₀:Nat}{A B:World}(h:Q A B):Cs n₀ A B:=Itk.of_q h
theorem Cs.cell{n₀:Nat}{A B:World}(h:Cs n₀ A B){a:Addr}{v:Value}(hc:A.cell? a=some v):B.cell? a=some v:=Itk.cell h hc (fun h=>h)
theorem Cs.blk{n₀:Nat}{A B:World}(h:Cs n₀ A B){k:Nat}{t:TypeId}{cs:Array Value}(hb:Blk A k t cs):Blk B k t cs:=Itk.get h hb (fun h=>h)
theorem Cs.boxed{n₀:Nat}{A B:World}(h:Cs n₀ A B){b:Nat}{t:TypeId}{v:Value}(hb:Boxed A b t v):Boxed B b t v:=Itk.boxed h hb (fun h=>h)
theorem Cs.owns{n₀:Nat}{A B:World}(h:Cs n₀ A B){base:Nat}{e:TypeId}{size:Nat}{v:Value}{n:Nat}{xs:List Value}(hr:A.ownsRow base e size v n xs):B.ownsRow base e size v n xs:=Itk.owns h hr (fun _ _ h=>h)
theorem Cs.low{n₀:Nat}{A B:World}(h:Cs n₀ A B)(hn:n₀≤A.heap.size):Below n₀ A B:=⟨h.os,h.tape,h.output,h.size,fun k hk=>Itk.low h k hk (by omega) (fun h=>h)⟩
theorem Cs.qrys{n₀:Nat}{A B:World}(h:Cs n₀ A B){qs:List QL}{v:Value}(hq:QrysAt A v qs):QrysAt B v qs:=rowAt.mono hq (fun b off=>QcellsAt.keeps (fun _ _ g=>h.cell g) qs b off)
theorem Cs.sl{n₀:Nat}{A B:World}(h:Cs n₀ A B){v:Value}{n size:Nat}{xs:List Value}(hs:Sl A v n size xs):Sl B v n size xs:=by
 obtain⟨h1,a,cap,h2,h3⟩:=hs;refine⟨h1,a,cap,h2,fun hn=>?_⟩
 obtain⟨b,off,h4,h5⟩:=h3 hn;exact⟨b,off,h4,fun j u hj=>h.cell (h5 j u hj)⟩
theorem QrysAt.nil(w:World):QrysAt w (.slice none 0 0) []:=⟨none,0,rfl,fun h=>absurd h (Nat.lt_irrefl _)⟩
theorem QcellsAt.at{w:World}{qs:List QL}{b off:Nat}(h:QcellsAt w qs b off)(i:Nat)(hi:i<qs.length):∃c0 c1 c2 c3 c4,(w.cell? ⟨b,off+i*5,none⟩=some c0∧w.cell? ⟨b,off+i*5+1,none⟩=some c1∧w.cell? ⟨b,off+i*5+2,none⟩=some c2∧w.cell? ⟨b,off+i*5+3,none⟩=some c3∧w.cell? ⟨b,off+i*5+4,none⟩=some c4) ∧
  QryAt w qs[i] (.agg #[c0,c1,c2,c3,c4]):=by
 induction qs generalizing off i with
 | nil=>simp at hi
 | cons q qs ih =>
  unfold QcellsAt at h;cases i with
  | zero=>simpa using h.1
  | succ i =>
   have:=ih h.2 i (by simpa using hi)
   rw[show off+(i+1)*5=off+5+i*5 by omega]
   exact this
theorem QryAt.open{w:World}{k:Int}{s:Bytes}{m sh n:List QL}{v:Value}(h:QryAt w (.mk k s m sh n) v):∃vm vs vn,v=.agg #[.int .i64 k,ak s,vm,vs,vn]∧QrysAt w vm m∧QrysAt w vs sh∧QrysAt w vn n:=by
 unfold QryAt at h;exact h
theorem QryAt.mk'{w:World}{k:Int}{s:Bytes}{m sh n:List QL}{vm vs vn:Value}(h1:QrysAt w vm m)(h2:QrysAt w vs sh)(h3:QrysAt w vn n):QryAt w (.mk k s m sh n) (.agg #[.int .i64 k,ak s,vm,vs,vn]):=by
 unfold QryAt;exact⟨vm,vs,vn,rfl,h1,h2,h3⟩
structure Zone where
 n:Nat
 lo:Nat
 hi:Nat
structure Ws (z:Zone) (A B:World):Prop where
 os:B.os=A.os
 tape:B.tape=A.tape
 output:B.output=A.output
 size:A.heap.size≤B.heap.size
 low:∀k,k<z.n→k<A.heap.size→B.heap[k]?=A.heap[k]?
 cells:∀(k:Nat) cs e fz,z.lo≤k→k<z.hi→A.heap[k]?=some (.cells cs e fz)→B.heap[k]?=some (.cells cs e fz)
theorem Ws.refl(z:Zone)(A:World):Ws z A A:=⟨rfl,rfl,rfl,Nat.le_refl _,fun _ _ _=>rfl,fun _ _ _ _ _ _ h=>h⟩
theorem Ws.trans{z:Zone}{A B C:World}(h:Ws z A B)(k:Ws z B C):Ws z A C :=
 ⟨k.os.trans h.os,k.tape.trans h.tape,k.output.trans h.output,Nat.le_trans h.size k.size,fun i h1 h2=>(k.low i h1 (Nat.lt_of_lt_of_le h2 h.size)).trans (h.low i h1 h2),
  fun i cs e fz h1 h2 h3=>k.cells i cs e fz h1 h2 (h.cells i cs e fz h1 h2 h3)⟩
theorem Ws.of_cs{z:Zone}{n₀:Nat}{A B:World}(h:Cs n₀ A B)(hn:z.n≤n₀):Ws z A B :=
 ⟨h.os,h.tape,h.output,h.size,fun k h1 h2=>Itk.low h k (by omega) h2 (fun h=>h),fun k cs e fz _ _ h1=>Itk.get h h1 (fun h=>h)⟩
theorem Ws.of_q{z:Zone}{A B:World}(h:Q A B):Ws z A B :=
 ⟨h.os,h.tape,h.output,h.size,fun k h1 h2=>h.block k h2,fun k cs e fz _ _ h1=>(h.block k (aU h1)).trans h1⟩
theorem Ws.wide{z z':Zone}{A B:World}(h:Ws z' A B)(h1:z.n≤z'.n)(h2:z'.lo≤z.lo)(h3:z.hi≤z'.hi):Ws z A B :=
 ⟨h.os,h.tape,h.output,h.size,fun k hk=>h.low k (by omega),fun k cs e fz k1 k2=>h.cells k cs e fz (by omega) (by omega)⟩
theorem Ws.below{z:Zone}{A B:World}(h:Ws z A B)(hn:z.n≤A.heap.size):Below z.n A B:=⟨h.os,h.tape,h.output,h.size,fun k hk=>h.low k hk (by omega)⟩
theorem Ws.grown{z:Zone}{A B:World}{row:Option Nat}(hg:A.grownBy B row)(hr:∀k,row=some k→z.n≤k∧(k<z.lo∨z.hi≤k)):Ws z A B :=
 ⟨hg.os,hg.tape,hg.output,hg.size,fun k h1 h2=>hg.block k h2 (fun e=>by have:=hr k e.symm;omega),fun k cs e fz h1 h2 h3=>(hg.block k (aU h3) (fun e'=>by have:=hr k e'.symm;omega)).trans h3⟩
def SlW(z:Zone)(w:World)(v:Value)(n size:Nat)(xs:List Value):Prop:=Sl w v n size xs∧(0<n→∃b off cap,v=.slice (some ⟨b,off,none⟩) n cap∧z.lo≤b∧b<z.hi∧∃cs e fz,w.heap[b]?=some (.cells cs e fz))
theorem SlW.nil(z:Zone)(w:World)(size:Nat):SlW z w (.slice none 0 0) 0 size []:=⟨Sl.nil w size,fun h=>by omega⟩
theorem SlW.of_owns{z:Zone}{w:World}{base:Nat}{e:TypeId}{size:Nat}{v:Value}{n:Nat}{xs:List Value}(h:w.ownsRow base e size v n xs)(hb:z.lo≤base)(hh:w.heap.size≤z.hi):SlW z w v n size xs :=
 ⟨Sl.of_owns h,fun hn=>by
  obtain⟨a,cap,rfl,hs⟩:=aT h
  obtain⟨g,rfl⟩:=hs hn
  obtain⟨cs,hc⟩:=jE h g rfl
  have:=h.lt g rfl
  exact⟨g,0,cap,rfl,by omega,by omega,cs,e,_,hc⟩⟩
theorem SlW.lit(z:Zone)(w:World)(cs:Array Value)(e:TypeId)(n size:Nat)(h:cs.size=n*size)(hl:z.lo≤w.heap.size)(hh:w.heap.size<z.hi):SlW z (w.alloc (.cells cs e)) (.slice (some ⟨w.heap.size,0,none⟩) n n) n size cs.toList :=
 ⟨Sl.lit w cs e n size h,fun hn=>⟨_,_,_,rfl,hl,hh,cs,e,_,World.alloc_heap_new w _⟩⟩
theorem SlW.wide{z z':Zone}{w:World}{v:Value}{n size:Nat}{xs:List Value}(h:SlW z w v n size xs)(h2:z'.lo≤z.lo)(h3:z.hi≤z'.hi):SlW z' w v n size xs :=
 ⟨h.1,fun hn=>by
  obtain⟨b,off,cap,e,k1,k2,k3⟩:=h.2 hn
  exact⟨b,off,cap,e,by omega,by omega,k3⟩⟩
theorem Ws.sl{z:Zone}{A B:World}(h:Ws z A B){v:Value}{n size:Nat}{xs:List Value}(hs:SlW z A v n size xs):SlW z B v n size xs:=by
 obtain⟨⟨h1,a,cap,h2,h3⟩,h4⟩:=hs;refine⟨⟨h1,a,cap,h2,fun hn=>?_⟩,fun hn=>?_⟩
 ·obtain⟨b,off,h5,h6⟩:=h3 hn
  refine⟨b,off,h5,fun j u hj=>?_⟩
  obtain⟨b',off',cap',e,k1,k2,cs,t,fz,k3⟩:=h4 hn;rw[h2,h5] at e;cases e;exact(World.cell?_of_block ((h.cells b cs t fz k1 k2 k3).trans k3.symm)).trans (h6 j u hj)
 ·obtain⟨b',off',cap',e,k1,k2,cs,t,fz,k3⟩:=h4 hn
  exact⟨b',off',cap',e,k1,k2,cs,t,fz,h.cells b' cs t fz k1 k2 k3⟩
end
section
theorem ag0(n doc:Nat):jd (tu n) doc (if doc<n then some (doc,1) else none):=by
 by_cases h:doc<n
 ·rw[if_pos h];exact⟨Nat.le_refl _,by unfold tu;rw[if_pos h],fun j h1 h2=>by omega⟩
 ·rw[if_neg h];intro j hj;unfold tu;rw[if_neg (by omega)]
theorem next_none(doc:Nat):jd DW doc none:=fun _ _=>rfl
theorem YT{F:DF}{doc:Nat}{r:Option (Nat×Nat)}(h:jd F doc r):jd (xY F) doc (r.map fun x=>(x.1,0)):=by
 cases r with
 | none=>intro j hj;unfold xY;rw[h j hj];rfl
 | some x=>exact⟨h.1,by unfold xY;rw[h.2.1];rfl,fun j h1 h2=>by unfold xY;rw[h.2.2 j h1 h2];rfl⟩
theorem next_at{F:DF}{doc:Nat}{r:Option (Nat×Nat)}(h:jd F doc r):F doc=match r with
  | some (d,s)=>if d=doc then some s else none
  | none=>none:=by
 cases r with
 | none=>exact h doc (Nat.le_refl _)
 | some x =>
  obtain⟨d,s⟩:=x;by_cases e:d=doc
  ·subst e;simp only[if_pos];exact h.2.1
  ·simp only[if_neg e]
   exact h.2.2 doc (Nat.le_refl _) (by have:=h.1;omega)
theorem next_skip{F:DF}{doc k:Nat}{r:Option (Nat×Nat)}(hk:doc≤k)(h0:∀j,doc≤j→j<k→F j=none)(h:jd F k r):jd F doc r:=by
 cases r with
 | none =>
  intro j hj;by_cases Cn:j<k
  ·exact h0 j hj Cn
  ·exact h j (by omega)
 | some x =>
  refine⟨by have:=h.1;omega,h.2.1,fun j h1 h2=>?_⟩
  by_cases Cn:j<k
  ·exact h0 j h1 Cn
  ·exact h.2.2 j (by omega) h2
def Jk(st r:Option (Nat×Nat)):Option (Nat×Nat):=match r,st with
 | none,st=>st
 | some x,none=>some x
 | some (d,s),some (a,t)=>if a<d then some (a,t) else if d=a then some (a,t+s) else some (d,s)
theorem Tm(a b:List (Option Nat)):jD (a++b)=jD a+jD b:=by
 induction a with
 | nil=>simp[jD]
 | cons o a ih=>simp only[List.cons_append,jD,ih];omega
theorem sumO_none(l:List (Option Nat))(h:∀o∈l,o=none):jD l=0:=by
 induction l with
 | nil=>rfl
 | cons o l ih=>simp only[jD,ih (fun x hx=>h x (by simp[hx])),h o (by simp)];rfl
theorem oD(Fs:List DF)(F:DF)(i:Nat):lY (Fs++[F]) i=match lY Fs i,F i with
  | none,r=>r
  | some t,none=>some t
  | some t,some s=>some (t+s):=by
 unfold lY;rw[List.any_append,List.map_append,Tm];cases hF:F i with
 | none=>cases hA:Fs.any (fun F=>(F i).isSome)<;>simp[hF,jD]
 | some s =>
  cases hA:Fs.any (fun F=>(F i).isSome) with
  | true=>simp[hF,jD]
  | false =>
   have:jD (Fs.map fun F=>F i)=0:=sumO_none _ (fun o ho=>by
    obtain⟨G,hG,rfl⟩:=List.mem_map.1 ho;have:=List.any_eq_false.1 hA G hG;cases hg:G i with
    | none=>rfl
    | some x=>rw[hg] at this;exact absurd rfl this)
   simp[hF,jD,this]
theorem aav(doc:Nat):jd (lY []) doc none:=fun _ _=>rfl
theorem next_snoc{Fs:List DF}{F:DF}{doc:Nat}{st r:Option (Nat×Nat)}(hs:jd (lY Fs) doc st)(hr:jd F doc r):jd (lY (Fs++[F])) doc (Jk st r):=by
 cases r with
 | none =>
  cases st with
  | none=>intro j hj;rw[oD,hs j hj,hr j hj]
  | some x =>
   obtain⟨a,t⟩:=x;exact⟨hs.1,by rw[oD,hs.2.1,hr a hs.1],fun j h1 h2=>by rw[oD,hs.2.2 j h1 h2,hr j h1]⟩
 | some y =>
  obtain⟨d,s⟩:=y;cases st with
  | none=>exact⟨hr.1,by rw[oD,hs d hr.1,hr.2.1],fun j h1 h2=>by rw[oD,hs j h1,hr.2.2 j h1 h2]⟩
  | some x =>
   obtain⟨a,t⟩:=x;show jd _ doc (if a<d then some (a,t) else if d=a then some (a,t+s) else some (d,s))
   by_cases h1:a<d
   ·rw[if_pos h1]
    exact⟨hs.1,by rw[oD,hs.2.1,hr.2.2 a hs.1 h1],fun j g1 g2=>by rw[oD,hs.2.2 j g1 g2,hr.2.2 j g1 (by omega)]⟩
   ·rw[if_neg h1]
    by_cases h2:d=a
    ·subst h2
     rw[if_pos rfl];exact⟨hs.1,by rw[oD,hs.2.1,hr.2.1],fun j g1 g2=>by rw[oD,hs.2.2 j g1 g2,hr.2.2 j g1 g2]⟩
    ·rw[if_neg h2]
     exact⟨hr.1,by rw[oD,hs.2.2 d hr.1 (by omega),hr.2.1],fun j g1 g2=>by rw[oD,hs.2.2 j g1 (by omega),hr.2.2 j g1 g2]⟩
theorem Tn(t:Bytes)(l:List au)(i doc:Nat):
  (iY (bf t l i) (doc:Int)=[]→∀k d,l[k]?=some d→doc≤i+k→placesIn d.2 t=[]) ∧
  (∀p ps,iY (bf t l i) (doc:Int)=p::ps→∃k d,l[k]?=some d∧p=(((i+k:Nat):Int),placesIn d.2 t)∧placesIn d.2 t≠[]∧doc≤i+k∧∀j e,l[j]?=some e→doc≤i+j→j<k→placesIn e.2 t=[]):=by
 induction l generalizing i with
 | nil=>exact⟨fun _ k d h=>(by simp at h),fun p ps h=>(by simp[bf,iY] at h)⟩
 | cons d l ih =>
  obtain⟨ih1,ih2⟩:=ih (i+1);by_cases hp:placesIn d.2 t=[]
  ·have e:bf t (d::l) i=bf t l (i+1):=by rw[bf,if_pos hp]
   rw[e];refine⟨fun h k x hx hd=>?_,fun p ps h=>?_⟩
   ·cases k with
    | zero=>cases hx;exact hp
    | succ k=>exact ih1 h k x (by simpa using hx) (by omega)
   ·obtain⟨k,x,h1,h2,h3,h4,h5⟩:=ih2 p ps h
    refine⟨k+1,x,by simpa using h1,by rw[h2];congr 2;omega,h3,by omega,fun j e he hd hj=>?_⟩
    cases j with
    | zero=>cases he;exact hp
    | succ j=>exact h5 j e (by simpa using he) (by omega) (by omega)
  ·have e:bf t (d::l) i=((i:Int),placesIn d.2 t)::bf t l (i+1):=by rw[bf,if_neg hp]
   rw[e];unfold iY at ih1 ih2 ⊢;by_cases hd:doc≤i
   ·rw[List.filter_cons_of_pos (by simpa using hd)]
    refine⟨fun h=>(by cases h),fun p ps h=>?_⟩
    injection h with h1 h2;exact⟨0,d,rfl,by rw[←h1];rfl,hp,by omega,fun j e he h1 h2=>by omega⟩
   ·rw[List.filter_cons_of_neg (by simpa using hd)]
    refine⟨fun h k x hx hdk=>?_,fun p ps h=>?_⟩
    ·cases k with
     | zero=>omega
     | succ k=>exact ih1 h k x (by simpa using hx) (by omega)
    ·obtain⟨k,x,h1,h2,h3,h4,h5⟩:=ih2 p ps h
     refine⟨k+1,x,by simpa using h1,by rw[h2];congr 2;omega,h3,by omega,fun j e he hd' hj=>?_⟩
     cases j with
     | zero=>omega
     | succ j=>exact h5 j e (by simpa using he) (by omega) (by omega)
def tC(t:Bytes)(l:List au)(doc:Nat):Option aZ:=(iY (bf t l 0) (doc:Int)).head?
theorem Tq{t:Bytes}{l:List au}{doc:Nat}(h:tC t l doc=none):∀k d,l[k]?=some d→doc≤k→placesIn d.2 t=[]:=by
 unfold tC at h;have:=(Tn t l 0 doc).1 (List.head?_eq_none_iff.1 h);intro k d hd hk;exact this k d hd (by omega)
theorem LD{t:Bytes}{l:List au}{doc:Nat}{p:aZ}(h:tC t l doc=some p):∃(k:Nat) (d:au),l[k]?=some d∧p=((k:Int),placesIn d.2 t)∧placesIn d.2 t≠[]∧doc≤k∧∀j e,l[j]?=some e→doc≤j→j<k→placesIn e.2 t=[]:=by
 unfold tC at h;obtain⟨ps,oP⟩:∃ps,iY (bf t l 0) (doc:Int)=p::ps:=by
  cases he:iY (bf t l 0) (doc:Int) with
  | nil=>rw[he] at h;cases h
  | cons a b=>rw[he] at h;simp at h;exact⟨b,by rw[h]⟩
 obtain⟨k,d,h1,h2,h3,h4,h5⟩:=(Tn t l 0 doc).2 p ps oP;exact⟨k,d,h1,by rw[h2];simp,h3,by omega,fun j e he hd hj=>h5 j e he (by omega) hj⟩
theorem next_term(t:Bytes)(l:List au)(doc:Nat):jd (oC l t) doc ((tC t l doc).map fun p=>(p.1.toNat,p.2.length)):=by
 cases h:tC t l doc with
 | none =>
  intro j hj;unfold oC;cases hd:l[j]? with
  | none=>rfl
  | some d=>simp only[Tq h j d hd hj,if_pos]
 | some p =>
  obtain⟨k,d,h1,rfl,h3,h4,h5⟩:=LD h;refine⟨by simpa using h4,?_,fun j g1 g2=>?_⟩
  ·simp only[Int.toNat_natCast]
   unfold oC;rw[h1];simp only[if_neg h3]
  ·simp only[Int.toNat_natCast] at g2
   unfold oC;cases hd:l[j]? with
   | none=>rfl
   | some e=>simp only[h5 j e hd g1 g2,if_pos]
theorem Tt{l:List au}{p:bP}{w:Nat}{t:Bytes×Nat}(ht:t∈p){j:Nat}(h:∀e,l[j]?=some e→placesIn e.2 t.1=[]):kM l p w j=none:=by
 unfold kM;cases hd:l[j]? with
 | none=>rfl
 | some d=>simp[aeD p d.2 t ht (h d hd)]
end
section
open Go.RowKit
def SeekEnd(F:DF)(doc:Nat)(e:Ending):Prop :=
 (∃d s:Nat,e=.returned (.tuple #[.int .i64 (d:Nat),.int .i64 (s:Nat),.bool true])∧jd F doc (some (d,s)))∨(∃d s:Nat,e=.returned (.tuple #[.int .i64 (d:Nat),.int .i64 (s:Nat),.bool false])∧jd F doc none)
theorem SeekEnd.yes{F:DF}{doc d s:Nat}{e:Ending}(he:e=.returned (.tuple #[.int .i64 (d:Nat),.int .i64 (s:Nat),.bool true]))(h:jd F doc (some (d,s))):SeekEnd F doc e:=.inl ⟨d,s,he,h⟩
theorem SeekEnd.no{F:DF}{doc d s:Nat}{e:Ending}(he:e=.returned (.tuple #[.int .i64 (d:Nat),.int .i64 (s:Nat),.bool false]))(h:jd F doc none):SeekEnd F doc e:=.inr ⟨d,s,he,h⟩
theorem Every_any(n doc:Nat)(w:World)(hn:n≤1000000)(hd:doc≤1000000):
  Calls Tryz.prog 230 #[.agg #[.int .i64 (n:Nat)],.int .i64 (doc:Nat)] w fun e w'=>SeekEnd (tu n) doc e∧Q w w':=by
 have hx:=ag0 n doc;have HX:=Hd hx;clear hx;by_cases h:doc<n
 ·have hb:decide (doc<n)=true:=decide_eq_true h
  have aO:decide ((doc:Int)<(n:Int))=true:=decide_eq_true (by omega)
  go_enter Tryz.func230,Tryz.ntmps230;go_wp2_with fail;go_quiet (fail);go_wp2_with fail;go_ret3;exact⟨SeekEnd.yes (d:=doc) (s:=1) rfl (by have:=HX.out;rwa [if_pos h] at this),by first|exact(Q.alloc _ _)|exact(Q.alloc _ _).trans (Q.drewN _ _)⟩
 ·have hb:decide (doc<n)=false:=decide_eq_false h
  have aO:decide ((doc:Int)<(n:Int))=false:=decide_eq_false (by omega)
  go_enter Tryz.func230,Tryz.ntmps230;go_wp2_with fail;go_quiet (fail);go_wp2_with fail;go_ret3;exact⟨SeekEnd.no (d:=doc) (s:=1) rfl (by have:=HX.out;rwa [if_neg h] at this),by first|exact(Q.alloc _ _)|exact(Q.alloc _ _).trans (Q.drewN _ _)⟩
theorem aeG(doc:Nat)(w:World):
  Calls Tryz.prog 231 #[.agg #[],.int .i64 (doc:Nat)] w fun e w'=>SeekEnd DW doc e∧Q w w':=by
 go_enter Tryz.func231,Tryz.ntmps231;go_wp2_with fail;go_ret3;exact⟨SeekEnd.no (d:=0) (s:=0) rfl (next_none doc),Q.alloc _ _⟩
structure IsWk (z:Zone) (n B:Nat) (w:World) (v:Value) (F:DF):Prop where
 fits:∀i s,F i=some s→i<n∧s≤B
 is:∃t x g,v=.iface t x∧(∀W,(method 424 t x "codex/score.seek").run Tryz.prog W=.ok (g,x) W)∧(∀args W,(callFunc g args).run Tryz.prog W=.ok (.enter g args) W) ∧
  ∀(W:World) (doc:Nat),Ws z w W→doc≤1000000→Calls Tryz.prog g #[x,.int .i64 (doc:Nat)] W fun e W'=>SeekEnd F doc e∧Q W W'
theorem IsWk.stays{z:Zone}{n B:Nat}{w w':World}{v:Value}{F:DF}(h:IsWk z n B w v F)(q:Ws z w w'):IsWk z n B w' v F:=by
 obtain⟨t,x,g,h1,h2,h3,h4⟩:=h.is;exact⟨h.fits,t,x,g,h1,h2,h3,fun W doc hq hd=>h4 W doc (q.trans hq) hd⟩
theorem IsWk.more{z:Zone}{n n' B B':Nat}{w:World}{v:Value}{F:DF}(h:IsWk z n B w v F)(hn:n≤n')(hB:B≤B'):IsWk z n' B' w v F :=
 ⟨fun i s hs=>⟨Nat.lt_of_lt_of_le (h.fits i s hs).1 hn,Nat.le_trans (h.fits i s hs).2 hB⟩,h.is⟩
theorem IsWk.every(z:Zone)(n B:Nat)(w:World)(hn:n≤1000000)(hB:1≤B):IsWk z n B w (.iface 120 (.agg #[.int .i64 (n:Nat)])) (tu n) :=
 ⟨fun i s h=>by unfold tu at h;split at h<;>simp at h;omega,
  _,_,230,rfl,fun W=>by kernel_rfl,enters_of Tryz.func230 (by kernel_rfl) rfl,fun W doc _ hd=>Every_any n doc W hn hd⟩
theorem IsWk.nothing(z:Zone)(n B:Nat)(w:World):IsWk z n B w (.iface 127 (.agg #[])) DW :=
 ⟨fun i s h=>(by unfold DW at h;cases h),
  _,_,231,rfl,fun W=>by kernel_rfl,enters_of Tryz.func231 (by kernel_rfl) rfl,fun W doc _ hd=>aeG doc W⟩
theorem NV{z:Zone}{n B:Nat}{w:World}{v:Value}{F:DF}(doc:Nat)(h:IsWk z n B w v F)(hd:doc≤1000000):
  Calls Tryz.prog 243 #[v,.int .i64 (doc:Nat)] w fun e w'=>(∃s:Nat,e=.returned (.tuple #[.int .i64 (s:Nat),.bool (F doc).isSome])∧∀x,F doc=some x→s=x)∧Q w w':=by
 obtain⟨t,x,g,rfl,hm,hc,hs⟩:=h.is;have c:=hs w doc (Ws.refl _ _) hd;have C:=Hd c;clear c hs h;go_enter Tryz.func243,Tryz.ntmps243;go_wp2_with fail;refine C.out.mono ?_;rintro e w1 ⟨(⟨d,s,rfl,hx⟩|⟨d,s,rfl,hx⟩),q1⟩
 ·have lN:=next_at hx
  by_cases he:d=doc
  ·subst he
   simp only[if_pos] at lN;have Uf:=Hd lN;have HQ:=Hd q1;clear lN hx q1 C hm hc;go_wp2_with fail;go_ret2;exact⟨⟨s,by rw[Uf.out];rfl,fun x hx=>by rw[Uf.out] at hx;cases hx;rfl⟩,HQ.out⟩
  ·have hb:((d:Int)==(doc:Int))=false:=beq_eq_false_iff_ne.2 (by omega)
   simp only[if_neg he] at lN;have Uf:=Hd lN;have HQ:=Hd q1;clear lN hx q1 C hm hc he;go_wp2_with fail;go_ret2;exact⟨⟨s,by rw[Uf.out];rfl,fun x hx=>by rw[Uf.out] at hx;cases hx⟩,HQ.out⟩
 ·have lN:=next_at hx
  simp only at lN;have Uf:=Hd lN;have HQ:=Hd q1;clear lN hx q1 C hm hc;go_wp2_with fail;go_ret2;exact⟨⟨s,by rw[Uf.out];rfl,fun x hx=>by rw[Uf.out] at hx;cases hx⟩,HQ.out⟩
theorem Free_any{z:Zone}{n B:Nat}{w:World}{v:Value}{F:DF}(doc:Nat)(W:World)(h:IsWk z n B w v F)(hq:Ws z w W)(hd:doc≤1000000):
  Calls Tryz.prog 244 #[.agg #[v],.int .i64 (doc:Nat)] W fun e w'=>SeekEnd (xY F) doc e∧Q W w':=by
 obtain⟨t,x,g,rfl,hm,hc,hs⟩:=h.is;have c:=fun W' (q:Q W W')=>hs W' doc (hq.trans (Ws.of_q q)) hd
 have C:=Hd c;clear c hs h hq;go_enter Tryz.func244,Tryz.ntmps244;go_wp2_with fail;refine(C.out _ (Q.alloc _ _)).mono ?_;rintro e w1 ⟨(⟨d,s,rfl,hx⟩|⟨d,s,rfl,hx⟩),q1⟩
 ·have HX:=Hd (YT hx);have HQ:=Hd ((Q.alloc _ _).trans q1)
  clear hx q1 C hm hc;go_wp2_with fail;go_ret3;exact⟨SeekEnd.yes (d:=d) (s:=0) rfl HX.out,HQ.out⟩
 ·have HX:=Hd (YT hx);have HQ:=Hd ((Q.alloc _ _).trans q1)
  clear hx q1 C hm hc;go_wp2_with fail;go_ret3;exact⟨SeekEnd.no (d:=d) (s:=0) rfl HX.out,HQ.out⟩
theorem IsWk.free{z:Zone}{n B:Nat}{w:World}{v:Value}{F:DF}(h:IsWk z n B w v F):IsWk z n B w (.iface 195 (.agg #[v])) (xY F) :=
 ⟨fun i s hs=>by
   unfold xY at hs
   cases hf:F i with
   | none=>rw[hf] at hs;cases hs
   | some x=>rw[hf] at hs;cases hs;exact⟨(h.fits i x hf).1,Nat.zero_le _⟩,
  _,_,244,rfl,fun W=>by kernel_rfl,enters_of Tryz.func244 (by kernel_rfl) rfl,fun W doc hq hd=>Free_any doc W h hq hd⟩
end
end Go.Proofs.YthijhicdmnoifaaGreatDoor
