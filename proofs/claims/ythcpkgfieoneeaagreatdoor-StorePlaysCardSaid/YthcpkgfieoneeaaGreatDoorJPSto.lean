/- Joined texts of one proof: what is needed of Sto, Sto2, Sto3, Sto4, MapI. -/
import Derived.Test.YthcpkgfieoneeaaGreatDoorJPJrn4
import Derived.Test.YthcpkgfieoneeaaGreatDoorJPWRDevB
import Derived.Test.YthcpkgfieoneeaaGreatDoorJPKit
import Derived.MapKept
import Derived.Carry
import Derived.Maps.Own
import Derived.Maps.OwnOps
import Derived.Maps.OwnSet
import Derived.Maps.RangeRun
set_option linter.unusedSimpArgs false
set_option linter.unusedVariables false
set_option linter.unnecessarySimpa false
set_option maxRecDepth 100000
set_option maxHeartbeats 16000000
namespace Go.Proofs.YthcpkgfieoneeaaGreatDoor
section
def partsN(n:Nat):Nat:=(n+2047) / 2048
def firstD(n:Nat):Nat:=63+partsN n
def titleL(n:Nat):Bytes:=[67,68,88,66]++(fixedL n++zerosL 248)
theorem titleL_length(n:Nat):(titleL n).length=256:=by simp only[titleL,List.length_append,length_fixedL,zerosL_length];rfl
def partL(b:Bytes)(i:Nat):Bytes:=(b.drop (i*256)).take 256
def mapC(n:Nat)(C:Nat→Bytes):Bytes:=((List.range (partsN n)).map fun i=>C (63+i)).flatten
theorem partsN_pos(n:Nat)(h:0<n):1≤partsN n∧2048*partsN n≥n∧2048*partsN n<n+2048:=by unfold partsN;omega
theorem firstD_lt(n:Nat)(h:128≤n)(hm:n≤4096):firstD n<n∧partsN n≤2:=by unfold firstD partsN;omega
theorem parts_flat(p:Nat)(f:Nat→Bytes)(hf:∀i,i<p→(f i).length=256):((List.range p).map f).flatten.length=256*p∧∀i,i<p→partL ((List.range p).map f).flatten i=f i:=by
 induction p with
 | zero=>exact⟨rfl,fun i h=>by omega⟩
 | succ p ih =>
  obtain⟨h1,h2⟩:=ih (fun i hi=>hf i (by omega))
  rw[List.range_succ,List.map_append,List.flatten_append]
  simp only[List.map_cons,List.map_nil,List.flatten_cons,List.flatten_nil,List.append_nil]
  refine⟨by rw[List.length_append,h1,hf p (by omega)];omega,fun i hi=>?_⟩
  unfold partL
  by_cases hp:i=p
  ·subst hp
   rw[List.drop_left' (by rw[h1];omega),List.take_of_length_le (by rw[hf i hi];exact Nat.le_refl _)]
  ·rw[List.drop_append_of_le_length (by rw[h1];omega),List.take_append_of_le_length (by rw[List.length_drop,h1];omega)]
   exact h2 i (by omega)
theorem flat_parts(p:Nat):∀(b:Bytes),b.length=256*p→((List.range p).map (partL b)).flatten=b:=by
 induction p with
 | zero=>intro b h;rw[List.eq_nil_of_length_eq_zero (l:=b) (by omega)];rfl
 | succ p ih =>
  intro b h
  have h1:=ih (b.take (256*p)) (by rw[List.length_take];omega)
  have e:(List.range p).map (partL b)=(List.range p).map (partL (b.take (256*p))):=by
   refine List.map_congr_left (fun i hi=>?_)
   have:=List.mem_range.1 hi
   unfold partL
   rw[List.drop_take,List.take_take]
   congr 1;omega
  rw[List.range_succ,List.map_append,List.flatten_append,e,h1]
  simp only[List.map_cons,List.map_nil,List.flatten_cons,List.flatten_nil,List.append_nil]
  unfold partL
  rw[Nat.mul_comm p 256,List.take_of_length_le (l:=b.drop (256*p)) (by rw[List.length_drop];omega),List.take_append_drop]
def withL:List WrL→WrL→List WrL
 | [],w=>[w]
 | x::l,w=>if x.1<w.1 then x::withL l w else if x.1=w.1 then w::l else w::x::l
def touchL(tx l:List WrL):List WrL:=l.foldl withL tx
abbrev Rise(l:List WrL):Prop:=l.Pairwise fun x y=>x.1<y.1
theorem with_mem(l:List WrL)(w x:WrL)(h:x∈withL l w):x=w∨x∈l:=by
 induction l with
 | nil=>left;simpa[withL] using h
 | cons y l ih =>
  unfold withL at h
  split at h
  ·rcases List.mem_cons.1 h with rfl|h
   ·right;exact List.mem_cons_self ..
   ·rcases ih h with h|h
    ·exact .inl h
    ·exact .inr (List.mem_cons_of_mem _ h)
  ·split at h
   ·rcases List.mem_cons.1 h with rfl|h
    ·exact .inl rfl
    ·exact .inr (List.mem_cons_of_mem _ h)
   ·rcases List.mem_cons.1 h with rfl|h
    ·exact .inl rfl
    ·exact .inr h
theorem with_rise(l:List WrL)(w:WrL)(h:Rise l):Rise (withL l w):=by
 induction l with
 | nil=>simp[withL,Rise]
 | cons y l ih =>
  obtain⟨h1,h2⟩:=List.pairwise_cons.1 h
  unfold withL
  split
  ·rename_i hy
   refine List.pairwise_cons.2 ⟨fun x hx=>?_,ih h2⟩
   rcases with_mem l w x hx with rfl|hx
   ·exact hy
   ·exact h1 x hx
  ·split
   ·rename_i _ hy
    exact List.pairwise_cons.2 ⟨fun x hx=>by rw[←hy];exact h1 x hx,h2⟩
   ·rename_i hy1 hy2
    refine List.pairwise_cons.2 ⟨fun x hx=>?_,h⟩
    rcases List.mem_cons.1 hx with rfl|hx
    ·omega
    ·have:=h1 x hx;omega
theorem with_lastP(l:List WrL)(w:WrL)(h:Rise l)(i:Nat)(s:Bytes):lastP (withL l w) i s=if w.1=i then w.2 else lastP l i s:=by
 induction l generalizing s with
 | nil=>simp[withL,lastP]
 | cons y l ih =>
  obtain⟨h1,h2⟩:=List.pairwise_cons.1 h
  unfold withL
  split
  ·rename_i hy
   rw[lastP,ih h2]
   rfl
  ·split
   ·rename_i hy1 hy
    rw[lastP,lastP]
    by_cases hi:w.1=i
    ·rw[if_pos hi,if_pos hi]
     exact lastP_none l i _ (fun x hx e=>by have:=h1 x hx;omega)
    ·rw[if_neg hi,if_neg hi,if_neg (by omega)]
   ·rename_i hy1 hy2
    rw[lastP,lastP]
    by_cases hi:w.1=i
    ·rw[if_pos hi,if_pos hi,if_neg (by omega)]
     exact lastP_none l i _ (fun x hx e=>by have:=h1 x hx;omega)
    ·rw[if_neg hi,if_neg hi,lastP]
theorem touch_rise(l tx:List WrL)(h:Rise tx):Rise (touchL tx l):=by
 unfold touchL
 induction l generalizing tx with
 | nil=>exact h
 | cons w l ih=>rw[List.foldl_cons];exact ih _ (with_rise tx w h)
theorem touch_lastP(l tx:List WrL)(h:Rise tx)(i:Nat)(s:Bytes):lastP (touchL tx l) i s=lastP l i (lastP tx i s):=by
 unfold touchL
 induction l generalizing tx with
 | nil=>rfl
 | cons w l ih=>rw[List.foldl_cons,ih _ (with_rise tx w h),with_lastP tx w h,lastP]
theorem touch_mem(l tx:List WrL)(x:WrL)(h:x∈touchL tx l):x∈l∨x∈tx:=by
 unfold touchL at h
 induction l generalizing tx with
 | nil=>exact .inr h
 | cons w l ih =>
  rw[List.foldl_cons] at h
  rcases ih _ h with h|h
  ·exact .inl (List.mem_cons_of_mem _ h)
  ·rcases with_mem tx w x h with rfl|h
   ·exact .inl (List.mem_cons_self ..)
   ·exact .inr h
structure StL where
 j:JL
 map1:Bytes
 was:Bytes
 open_:Bool
 tx:List WrL
namespace StL
def n(σ:StL):Nat:=σ.j.d.l.length
def dead(σ:StL):Bool:=σ.j.d.dead
def isData(σ:StL)(i:Int):Bool:=decide ((firstD σ.n:Int)≤i∧i<σ.n)
def get(σ:StL)(i:Nat):Bytes:=lastP σ.tx i (σ.j.d.get i)
def read(σ:StL)(i:Int):Bytes×Int:=if σ.dead then([],4) else if σ.isData i then(σ.get i.toNat,0) else([],2)
def state(σ:StL)(o:Bool):Int:=if σ.dead then 4 else if σ.open_=o then 0 else 15
def begin(σ:StL):StL×Int:=if σ.state false≠0 then(σ,σ.state false) else({ σ with open_:=true,was:=σ.map1 },0)
def touch(σ:StL)(l:List WrL):StL×Int:=if (touchL σ.tx l).length>48 then(σ,6) else({ σ with tx:=touchL σ.tx l },0)
def write(σ:StL)(i:Int)(s:Bytes):StL×Int :=
 if σ.state true≠0 then(σ,σ.state true) else if σ.isData i=false then(σ,2) else if bit σ.map1 i.toNat=false then(σ,10) else if s.length≠256 then(σ,3) else σ.touch [(i.toNat,s)]
def turned(σ:StL)(b:Bytes):List WrL:=((List.range (partsN σ.n)).filter fun i=>partL b i != partL σ.map1 i).map fun i=>(63+i,partL b i)
def turn(σ:StL)(start c:Nat)(on:Bool):StL×Int :=
 if (σ.touch (σ.turned (setTo σ.map1 start on c))).2≠0 then σ.touch (σ.turned (setTo σ.map1 start on c)) else({ (σ.touch (σ.turned (setTo σ.map1 start on c))).1 with map1:=setTo σ.map1 start on c },0)
def alloc(σ:StL)(c:Int):StL×Int×Int :=
 if σ.state true≠0 then(σ,0,σ.state true) else if c<1 then(σ,0,1) else
 match fitN σ.map1 c.toNat σ.n with
 | none=>(σ,0,9)
 | some a=>if (σ.turn a c.toNat true).2≠0 then((σ.turn a c.toNat true).1,0,(σ.turn a c.toNat true).2) else((σ.turn a c.toNat true).1,a,0)
def release(σ:StL)(start c:Int):StL×Int :=
 if σ.state true≠0 then(σ,σ.state true) else if c<1∨σ.isData start=false∨(σ.n:Int)-start<c then(σ,2) else
 if ∃i,i<c.toNat∧bit σ.map1 (start.toNat+i)=false then(σ,10) else σ.turn start.toNat c.toNat false
def close(σ:StL):StL:={ σ with open_:=false,tx:=[] }
def abort(σ:StL):StL:=if σ.open_ then { σ.close with map1:=σ.was } else σ
def commit(σ:StL):StL×Int :=
 if σ.state true≠0 then(σ,σ.state true) else if σ.tx=[] then(σ.close,0) else
 if (σ.j.commit σ.tx).2=0 then({ σ.close with j:=(σ.j.commit σ.tx).1 },0) else({ σ.close with j:=(σ.j.commit σ.tx).1,map1:=σ.was },(σ.j.commit σ.tx).2)
def free(σ:StL):Nat:=cnt σ.map1 σ.n
end StL
structure GoodMap (n:Nat) (b:Bytes):Prop where
 len:b.length=256*partsN n
 low:∀i,i<firstD n→bit b i=true
 high:∀i,n≤i→bit b i=false
structure GoodC (n:Nat) (C:Nat→Bytes):Prop where
 title:C 62=titleL n
 map:GoodMap n (mapC n C)
structure StInv (K:Nat) (σ:StL) (fr:List (List WrL)) (C:Nat→Bytes):Prop where
 inv:JInv 60 K σ.j fr C
 big:128≤σ.n
 good:GoodC σ.n C
 map:GoodMap σ.n σ.map1
 now:σ.map1=mapC σ.n (updC C σ.tx)
 rise:Rise σ.tx
 txok:∀w∈σ.tx,63≤w.1∧w.1<σ.n∧w.2.length=256
 short:σ.tx.length≤48
 hwas:σ.open_=true→σ.was=mapC σ.n C
 closed:σ.open_=false→σ.tx=[]
theorem StInv.max{K:Nat}{σ:StL}{fr:List (List WrL)}{C:Nat→Bytes}(h:StInv K σ fr C):σ.n≤4096:=h.inv.ok.max
theorem StInv.len{K:Nat}{σ:StL}{fr:List (List WrL)}{C:Nat→Bytes}(h:StInv K σ fr C)(i:Nat)(h1:62≤i)(h2:i<σ.n):(C i).length=256:=by
 rw[←h.inv.get i h1 h2];exact DevL.get_len h.inv.ok i h2
theorem upd_len{n:Nat}{C:Nat→Bytes}(hC:∀i,62≤i→i<n→(C i).length=256){l:List WrL}(hl:∀w∈l,w.2.length=256)(i:Nat)(h1:62≤i)(h2:i<n):(updC C l i).length=256:=by
 unfold updC
 by_cases hx:∃w∈l,w.1=i
 ·obtain⟨w,hw,_,e⟩:=lastP_mem l i (C i) hx
  rw[e];exact hl w hw
 ·rw[lastP_none _ _ _ (fun w hw e=>hx ⟨w,hw,e⟩)];exact hC i h1 h2
theorem StInv.get{K:Nat}{σ:StL}{fr:List (List WrL)}{C:Nat→Bytes}(h:StInv K σ fr C)(i:Nat)(h1:62≤i)(h2:i<σ.n):σ.get i=updC C σ.tx i:=by
 unfold StL.get updC;rw[h.inv.get i h1 h2]
theorem map_len{n:Nat}(hn:128≤n)(hm:n≤4096){C:Nat→Bytes}(hC:∀i,62≤i→i<n→(C i).length=256):(mapC n C).length=256*partsN n∧∀i,i<partsN n→partL (mapC n C) i=C (63+i) :=
 parts_flat _ _ (fun i hi=>hC _ (by omega) (by have:=firstD_lt n hn hm;unfold firstD at this;omega))
theorem map_ext{n:Nat}{C D:Nat→Bytes}(h:∀i,i<partsN n→C (63+i)=D (63+i)):mapC n C=mapC n D:=by
 unfold mapC
 congr 1
 exact List.map_congr_left (fun i hi=>h i (List.mem_range.1 hi))
theorem turned_map{K:Nat}{σ:StL}{fr:List (List WrL)}{C:Nat→Bytes}(h:StInv K σ fr C)(b:Bytes)(hb:b.length=σ.map1.length):mapC σ.n (updC C (touchL σ.tx (σ.turned b)))=b∧∀w∈σ.turned b,63≤w.1∧w.1<firstD σ.n∧w.2.length=256:=by
 have hm:=h.max
 have hf:=firstD_lt σ.n h.big hm
 have hlen:=h.map.len
 have hmap:=map_len h.big hm (C:=updC C σ.tx) (upd_len (h.len) (fun w hw=>(h.txok w hw).2.2))
 have hmem:∀w∈σ.turned b,∃i,i<partsN σ.n∧w=(63+i,partL b i):=fun w hw=>by
  obtain⟨i,hi,rfl⟩:=List.mem_map.1 hw
  exact⟨i,List.mem_range.1 (List.mem_filter.1 hi).1,rfl⟩
 constructor
 ·have e:mapC σ.n (updC C (touchL σ.tx (σ.turned b)))=((List.range (partsN σ.n)).map (partL b)).flatten:=by
   unfold mapC
   congr 1
   refine List.map_congr_left (fun i hi=>?_)
   have hi':=List.mem_range.1 hi
   unfold updC
   rw[touch_lastP _ _ h.rise]
   by_cases hx:∃w∈σ.turned b,w.1=63+i
   ·obtain⟨w,hw,hw1,hw2⟩:=lastP_mem _ _ (lastP σ.tx (63+i) (C (63+i))) hx
    obtain⟨i2,_,rfl⟩:=hmem w hw
    rw[hw2]
    simp only at hw1
    rw[show i2=i by omega]
   ·rw[lastP_none _ _ _ (fun w hw e=>hx ⟨w,hw,e⟩)]
    have h1:=hmap.2 i hi'
    rw[←h.now] at h1
    show updC C σ.tx (63+i)=_
    rw[←h1]
    by_cases hne:partL b i=partL σ.map1 i
    ·exact hne.symm
    ·exfalso
     refine hx ⟨(63+i,partL b i),List.mem_map.2 ⟨i,List.mem_filter.2 ⟨hi,?_⟩,rfl⟩,rfl⟩
     simpa using hne
  rw[e]
  exact flat_parts _ _ (by rw[hb,hlen])
 ·intro w hw
  obtain⟨i,hi,rfl⟩:=hmem w hw
  refine⟨by simp only;omega,by simp only[firstD];omega,?_⟩
  show(partL b i).length=256
  unfold partL
  rw[List.length_take,List.length_drop,hb,hlen];omega
theorem map_same{n:Nat}{C:Nat→Bytes}{tx:List WrL}(hr:Rise tx){w:WrL}(hw:firstD n≤w.1):mapC n (updC C (touchL tx [w]))=mapC n (updC C tx):=by
 refine map_ext (fun i hi=>?_)
 unfold updC
 rw[touch_lastP _ _ hr,lastP,lastP,if_neg (by unfold firstD at hw;omega)]
theorem touch_inv{K:Nat}{σ:StL}{fr:List (List WrL)}{C:Nat→Bytes}(h:StInv K σ fr C)(ho:σ.open_=true)(l:List WrL)(hl:∀w∈l,63≤w.1∧w.1<σ.n∧w.2.length=256)(b:Bytes)(hb:GoodMap σ.n b)(hm:mapC σ.n (updC C (touchL σ.tx l))=b):
  (σ.touch l=(σ,6))∨((σ.touch l).2=0∧StInv K { (σ.touch l).1 with map1:=b } fr C):=by
 unfold StL.touch
 split
 ·exact .inl rfl
 ·rename_i hs
  right
  refine⟨rfl,⟨h.inv,h.big,h.good,hb,hm.symm,touch_rise _ _ h.rise,fun w hw=>?_,by show(touchL σ.tx l).length≤48;omega,h.hwas,fun hc=>?_⟩⟩
  ·rcases touch_mem _ _ _ hw with hw|hw
   ·exact hl w hw
   ·exact h.txok w hw
  ·have:σ.open_=false:=hc
   rw[ho] at this;exact absurd this (by decide)
theorem begin_inv{K:Nat}{σ:StL}{fr:List (List WrL)}{C:Nat→Bytes}(h:StInv K σ fr C):StInv K σ.begin.1 fr C:=by
 unfold StL.begin
 split
 ·exact h
 ·rename_i hs
  have ho:σ.open_=false:=by
   unfold StL.state at hs
   cases hx:σ.open_ with
   | false=>rfl
   | true=>rw[hx] at hs;simp at hs;split at hs<;>simp at hs
  have ht:=h.closed ho
  exact⟨h.inv,h.big,h.good,h.map,h.now,h.rise,h.txok,h.short,fun _=>by
   have:=h.now
   rw[ht] at this
   exact this,fun hc=>ht⟩
theorem abort_inv{K:Nat}{σ:StL}{fr:List (List WrL)}{C:Nat→Bytes}(h:StInv K σ fr C):StInv K σ.abort fr C:=by
 unfold StL.abort
 cases ho:σ.open_ with
 | false=>rw[if_neg (by decide)];exact h
 | true =>
  rw[if_pos rfl]
  have hw:=h.hwas ho
  refine⟨h.inv,h.big,h.good,?_,?_,List.Pairwise.nil,fun w hw=>by simp[StL.close] at hw,by simp[StL.close],fun hc=>by simp[StL.close] at hc,fun _=>rfl⟩
  ·show GoodMap σ.n σ.was
   rw[hw];exact h.good.map
  ·show σ.was=mapC σ.n (updC C [])
   rw[hw];rfl
theorem state_open{σ:StL}{o:Bool}(h:σ.state o=0):σ.dead=false∧σ.open_=o:=by
 unfold StL.state at h
 cases hd:σ.dead
 ·rw[hd] at h
  simp only[Bool.false_eq_true,if_false] at h
  split at h
  ·exact⟨rfl,by assumption⟩
  ·exact absurd h (by decide)
 ·rw[hd] at h;simp at h
theorem write_inv{K:Nat}{σ:StL}{fr:List (List WrL)}{C:Nat→Bytes}(h:StInv K σ fr C)(i:Int)(s:Bytes):StInv K (σ.write i s).1 fr C:=by
 unfold StL.write
 split
 ·exact h
 ·rename_i hs
  obtain⟨_,ho⟩:=state_open (by simpa using hs:σ.state true=0)
  split
  ·exact h
  ·rename_i hd
   split
   ·exact h
   ·split
    ·exact h
    ·rename_i hl
     have hi:(firstD σ.n:Int)≤i∧i<σ.n:=by simpa[StL.isData] using hd
     rcases touch_inv h ho [(i.toNat,s)] (fun w hw=>by
      rw[List.mem_singleton] at hw;subst hw
      exact⟨by simp only[firstD] at hi ⊢;omega,by simp only;omega,by simpa using hl⟩) σ.map1 h.map (by rw[map_same h.rise (by simp only;omega)];exact h.now.symm) with e|⟨e1,e2⟩
     ·rw[e];exact h
     ·have:({ (σ.touch [(i.toNat,s)]).1 with map1:=σ.map1 }:StL)=(σ.touch [(i.toNat,s)]).1:=by unfold StL.touch;split<;>rfl
      rw[this] at e2;exact e2
theorem turn_inv{K:Nat}{σ:StL}{fr:List (List WrL)}{C:Nat→Bytes}(h:StInv K σ fr C)(ho:σ.open_=true)(a c:Nat)(on:Bool)(h1:firstD σ.n≤a)(h2:a+c≤σ.n):
  (σ.turn a c on).1=σ∧(σ.turn a c on).2=6∨((σ.turn a c on).2=0∧(σ.turn a c on).1.map1=setTo σ.map1 a on c∧StInv K (σ.turn a c on).1 fr C):=by
 have hm:=h.max
 have hp:=partsN_pos σ.n (by have:=h.big;omega)
 have hbit:=fun j=>bit_setTo σ.map1 a c j on (by rw[h.map.len];omega)
 obtain⟨t1,t2⟩:=turned_map h (setTo σ.map1 a on c) (length_setTo _ _ _ _)
 have hf:=firstD_lt σ.n h.big hm
 have hg:GoodMap σ.n (setTo σ.map1 a on c):=by
  refine⟨by rw[length_setTo];exact h.map.len,fun i hi=>?_,fun i hi=>?_⟩
  ·rw[hbit,if_neg (by omega)];exact h.map.low i hi
  ·rw[hbit,if_neg (by omega)];exact h.map.high i hi
 unfold StL.turn
 rcases touch_inv h ho _ (fun w hw=>⟨(t2 w hw).1,by have:=(t2 w hw).2.1;omega,(t2 w hw).2.2⟩) _ hg t1 with e|⟨e1,e2⟩
 ·left;rw[e];exact⟨rfl,rfl⟩
 ·right
  rw[if_neg (by rw[e1];simp)]
  exact⟨rfl,rfl,e2⟩
namespace DevL
def Free(d:DevL):Prop:=d.fuse = -1∧d.dead=false
theorem turn_free{d:DevL}(h:d.Free):d.turn.Free:=by
 have:d.fuse≠0:=by rw[h.1];decide
 unfold turn;rw[if_neg this]
 exact⟨by simp only[h.1];decide,h.2⟩
theorem write_free{d:DevL}(h:d.Free)(i:Int)(s:Bytes):(d.write i s).1.Free:=by
 unfold write
 split
 ·exact h
 ·split
  ·exact h
  ·split
   ·exact turn_free h
   ·exact turn_free h
theorem flush_free'{d:DevL}(h:d.Free):d.flush.1.Free:=by
 unfold flush
 split
 ·exact h
 ·split
  ·exact turn_free h
  ·exact turn_free h
theorem writes_free'(ws:List WrL):∀{d:DevL},d.Free→(d.writes ws).1.Free:=by
 induction ws with
 | nil=>intro d h;exact h
 | cons w ws ih =>
  intro d h
  rw[writes]
  split
  ·exact ih (write_free h _ _)
  ·exact write_free h _ _
theorem lays_free'{d:DevL}(h:d.Free)(ws:List WrL):(d.lays ws).1.Free:=by
 unfold lays
 split
 ·exact flush_free' (writes_free' ws h)
 ·exact writes_free' ws h
end DevL
namespace JL
theorem ckpt_free{j:JL}(h:j.d.Free):j.ckpt.1.d.Free:=by
 unfold ckpt ckpt2 ckpt1
 split
 ·exact DevL.lays_free' h _
 ·split
  ·exact DevL.lays_free' (DevL.lays_free' h _) _
  ·exact DevL.lays_free' (DevL.lays_free' h _) _
theorem com_free{j:JL}(h:j.d.Free)(ws:List WrL):(j.com ws).1.d.Free:=by
 unfold com com3 com2 com1
 split
 ·exact DevL.lays_free' h _
 ·split
  ·exact DevL.lays_free' (DevL.lays_free' h _) _
  ·exact DevL.writes_free' _ (DevL.lays_free' (DevL.lays_free' h _) _)
theorem commit_free{j:JL}(h:j.d.Free)(ws:List WrL):(j.commit ws).1.d.Free:=by
 unfold commit
 split
 ·split
  ·exact ckpt_free h
  ·exact com_free (ckpt_free h) ws
 ·exact com_free h ws
theorem replay_len(m:Nat):∀(j:JL),(replay m j).1.d.l.length=j.d.l.length:=by
 induction m with
 | zero=>intro j;rfl
 | succ m ih =>
  intro j
  rw[replay]
  cases j.frame with
  | none=>rfl
  | some ws =>
   simp only[]
   split
   ·rw[ih];exact DevL.writes_len _ _
   ·exact DevL.writes_len _ _
end JL
theorem openJ_len(d:DevL):(openJ d).1.d.l.length=d.l.length:=by
 unfold openJ
 split
 ·rfl
 ·split
  ·rfl
  ·split
   ·rw[JL.ckpt_len,JL.replay_len]
   ·exact JL.replay_len _ _
theorem alloc_fit{n:Nat}{b:Bytes}(h:GoodMap n b)(c a:Nat)(hc:1≤c)(hn:n≤8*b.length)(he:fitN b c n=some a):firstD n≤a∧a+c≤n∧∀j,a≤j→j<a+c→bit b j=false:=by
 obtain⟨h1,h2,_⟩:=fit_some b c n a he
 have hf:∀j,a≤j→j<a+c→bit b j=false:=fun j hj1 hj2=>tail_free b (a+c) j (by rw[h1];omega) hj2
 refine⟨?_,h2,hf⟩
 rcases Nat.lt_or_ge a (firstD n) with hlt|hge
 ·have:=h.low a hlt
  rw[hf a (Nat.le_refl _) (by omega)] at this
  exact absurd this (by decide)
 ·exact hge
theorem StInv.bits{K:Nat}{σ:StL}{fr:List (List WrL)}{C:Nat→Bytes}(h:StInv K σ fr C):σ.n≤8*σ.map1.length:=by
 have:=partsN_pos σ.n (by have:=h.big;omega)
 rw[h.map.len];omega
theorem alloc_inv{K:Nat}{σ:StL}{fr:List (List WrL)}{C:Nat→Bytes}(h:StInv K σ fr C)(c:Int):StInv K (σ.alloc c).1 fr C:=by
 unfold StL.alloc
 split
 ·exact h
 ·rename_i hs
  obtain⟨_,ho⟩:=state_open (by simpa using hs:σ.state true=0)
  split
  ·exact h
  ·cases hf:fitN σ.map1 c.toNat σ.n with
   | none=>exact h
   | some a =>
    obtain⟨h1,h2,_⟩:=alloc_fit h.map c.toNat a (by omega) h.bits hf
    simp only[]
    rcases turn_inv h ho a c.toNat true h1 h2 with ⟨e1,e2⟩|⟨e1,_,e2⟩
    ·rw[if_pos (by rw[e2];decide)]
     show StInv K (σ.turn a c.toNat true).1 fr C
     rw[e1];exact h
    ·rw[if_neg (by rw[e1];simp)]
     exact e2
theorem release_inv{K:Nat}{σ:StL}{fr:List (List WrL)}{C:Nat→Bytes}(h:StInv K σ fr C)(a c:Int):StInv K (σ.release a c).1 fr C:=by
 unfold StL.release
 split
 ·exact h
 ·rename_i hs
  obtain⟨_,ho⟩:=state_open (by simpa using hs:σ.state true=0)
  split
  ·exact h
  ·rename_i hr
   split
   ·exact h
   ·have hd:(firstD σ.n:Int)≤a∧a<σ.n:=by
     have:=(not_or.1 (not_or.1 hr).2).1
     simpa[StL.isData] using this
    have hc:=(not_or.1 hr).1
    have hle:=(not_or.1 (not_or.1 hr).2).2
    rcases turn_inv h ho a.toNat c.toNat false (by omega) (by omega) with ⟨e1,e2⟩|⟨e1,_,e2⟩
    ·rw[e1];exact h
    ·exact e2
theorem good_upd{n:Nat}{C:Nat→Bytes}{tx:List WrL}{b:Bytes}(hC:GoodC n C)(hb:GoodMap n b)(hm:b=mapC n (updC C tx))(ht:∀w∈tx,63≤w.1):GoodC n (updC C tx):=by
 refine⟨?_,by rw[←hm];exact hb⟩
 unfold updC
 rw[lastP_none _ _ _ (fun w hw e=>by have:=ht w hw;omega)]
 exact hC.title
theorem scommit_run{K:Nat}{σ:StL}{fr:List (List WrL)}{C:Nat→Bytes}(h:StInv K σ fr C)(hK:K+4<18446744073709551616):
  ((σ.commit).2=0∧(∃fr' ,StInv (K+2) σ.commit.1 fr' (updC C σ.tx))∧σ.commit.1.open_=false∧σ.state true=0∧σ.commit.1.map1=σ.map1) ∨
  ((σ.commit).2=15∧σ.commit.1=σ∧σ.open_=false) ∨
  ((σ.commit).2=4∧σ.commit.1.dead=true∧σ.commit.1.j.d.Ok∧σ.commit.1.n=σ.n∧GoodC σ.n (updC C σ.tx)∧¬σ.j.d.Free∧Safe 60 (K+2) σ.commit.1.j.d (fun D=>D=C∨D=updC C σ.tx)):=by
 have hlive:σ.dead=false:=h.inv.live
 unfold StL.commit
 cases ho:σ.open_ with
 | false =>
  right;left
  have e:σ.state true=15:=by
   unfold StL.state
   rw[hlive,ho];rfl
  rw[if_pos (by rw[e];decide)]
  exact⟨e,rfl,rfl⟩
 | true =>
  have e:σ.state true=0:=by unfold StL.state;rw[hlive,ho];rfl
  rw[if_neg (by rw[e];simp)]
  have hgood:=good_upd h.good h.map h.now (fun w hw=>(h.txok w hw).1)
  by_cases ht:σ.tx=[]
  ·rw[if_pos ht]
   left
   refine⟨rfl,⟨fr,?_⟩,rfl,e,rfl⟩
   have hu:updC C σ.tx=C:=by rw[ht];rfl
   have hn:=h.now
   rw[hu] at hgood hn ⊢
   exact⟨h.inv.mono (by omega),h.big,h.good,h.map,hn,List.Pairwise.nil,fun w hw=>by simp[StL.close] at hw,by simp[StL.close],fun hc=>by simp[StL.close] at hc,fun _=>rfl⟩
  ·rw[if_neg ht]
   have hm:=h.max
   have hw:WrOk σ.tx:=⟨by have:=List.length_pos_iff.2 ht;omega,h.short,fun w hw=>by have:=h.txok w hw;exact⟨by omega,this.2.2⟩⟩
   have hh:∀w∈σ.tx,2+60≤w.1∧w.1<σ.j.d.l.length:=fun w hw=>by have:=h.txok w hw;exact⟨by omega,this.2.1⟩
   rcases commit_run h.inv σ.tx hw hh hK with ⟨a,fr',b⟩|⟨a,b,c,d⟩
   ·rw[if_pos a]
    left
    have hn:(σ.j.commit σ.tx).1.d.l.length=σ.n:=JL.commit_len _ _
    refine⟨rfl,⟨fr',?_⟩,rfl,e,rfl⟩
    refine⟨b,?_,?_,?_,?_,List.Pairwise.nil,fun w hw=>by simp[StL.close] at hw,by simp[StL.close],fun hc=>by simp[StL.close] at hc,fun _=>rfl⟩
    ·show 128≤(σ.j.commit σ.tx).1.d.l.length
     rw[hn];exact h.big
    ·show GoodC (σ.j.commit σ.tx).1.d.l.length _
     rw[hn];exact hgood
    ·show GoodMap (σ.j.commit σ.tx).1.d.l.length σ.map1
     rw[hn];exact h.map
    ·show σ.map1=mapC (σ.j.commit σ.tx).1.d.l.length (updC (updC C σ.tx) [])
     rw[hn];exact h.now
   ·rw[if_neg (by rw[a];decide)]
    right;right
    refine⟨a,b,c,JL.commit_len _ _,hgood,fun hf=>?_,d⟩
    have:=(JL.commit_free hf σ.tx).2
    rw[b] at this;exact absurd this (by decide)
def mapD(d:DevL):Bytes:=((List.range (partsN d.l.length)).map fun i=>d.get (63+i)).flatten
theorem cnt_zero(b:Bytes)(k:Nat)(h:∀i,i<k→bit b i=true):cnt b k=0:=by
 induction k with
 | zero=>rfl
 | succ k ih=>rw[cnt,ih (fun i hi=>h i (by omega)),h k (by omega)];rfl
theorem cnt_high(b:Bytes)(n k:Nat)(h:∀i,n≤i→bit b i=false):cnt b (n+k)=cnt b n+k:=by
 induction k with
 | zero=>rfl
 | succ k ih=>rw[←Nat.add_assoc,cnt,ih,h (n+k) (by omega)];simp;omega
def formatW(log:Nat):List WrL:=(List.range (log+1)).map (fun i=>(i+1,noughtsL))++[(0,slotT ⟨1,1,log,0⟩)]
def formatJ(d:DevL)(log:Nat):DevL×Int:=d.lays (formatW log)
def bits0(n:Nat):Bytes:=setTo (zerosL (256*partsN n)) 0 true (firstD n)
def formatT(n:Nat):List WrL:=(62,titleL n)::(List.range (partsN n)).map fun i=>(63+i,partL (bits0 n) i)
def formatS(d:DevL):DevL×Int :=
 if d.l.length<128 then(d,2) else if (formatJ d 60).2≠0 then formatJ d 60 else
 if (openJ (formatJ d 60).1).2≠0 then((openJ (formatJ d 60).1).1.d,(openJ (formatJ d 60).1).2) else
 (((openJ (formatJ d 60).1).1.commit (formatT d.l.length)).1.d,((openJ (formatJ d 60).1).1.commit (formatT d.l.length)).2)
theorem bits0_good(n:Nat)(h:128≤n)(hm:n≤4096):GoodMap n (bits0 n):=by
 have hp:=partsN_pos n (by omega)
 have hf:=firstD_lt n h hm
 have hz:∀i,bit (zerosL (256*partsN n)) i=false:=fun i=>by
  unfold bit zerosL
  rw[List.getD_eq_getElem?_getD,List.getElem?_replicate]
  split<;>simp
 have hb:=fun j=>bit_setTo (zerosL (256*partsN n)) 0 (firstD n) j true (by rw[zerosL_length];omega)
 refine⟨by unfold bits0;rw[length_setTo,zerosL_length],fun i hi=>?_,fun i hi=>?_⟩
 ·unfold bits0;rw[hb,if_pos (by omega)]
 ·unfold bits0;rw[hb,if_neg (by omega),hz]
theorem formatT_map(n:Nat)(h:128≤n)(hm:n≤4096)(C:Nat→Bytes):mapC n (updC C (formatT n))=bits0 n∧updC C (formatT n) 62=titleL n∧(∀w∈formatT n,62≤w.1∧w.1<n∧w.2.length=256)∧(formatT n).length≤3:=by
 have hf:=firstD_lt n h hm
 have hb:=(bits0_good n h hm).len
 have hmem:∀w∈formatT n,w=(62,titleL n)∨∃i,i<partsN n∧w=(63+i,partL (bits0 n) i):=fun w hw=>by
  rcases List.mem_cons.1 hw with rfl|hw
  ·exact .inl rfl
  ·obtain⟨i,hi,rfl⟩:=List.mem_map.1 hw
   exact .inr ⟨i,List.mem_range.1 hi,rfl⟩
 refine⟨?_,?_,fun w hw=>?_,?_⟩
 ·have e:mapC n (updC C (formatT n))=((List.range (partsN n)).map (partL (bits0 n))).flatten:=by
   unfold mapC
   congr 1
   refine List.map_congr_left (fun i hi=>?_)
   unfold updC
   refine lastP_only (formatT n) (63+i,partL (bits0 n) i) _ (List.mem_cons_of_mem _ (List.mem_map.2 ⟨i,hi,rfl⟩)) (fun x hx e=>?_)
   rcases hmem x hx with rfl|⟨i2,_,rfl⟩
   ·simp only at e;omega
   ·simp only at e;rw[show i2=i by omega]
  rw[e]
  exact flat_parts _ _ hb
 ·unfold updC
  refine lastP_only (formatT n) (62,titleL n) _ (List.mem_cons_self ..) (fun x hx e=>?_)
  rcases hmem x hx with rfl|⟨i2,_,rfl⟩
  ·rfl
  ·simp only at e;omega
 ·rcases hmem w hw with rfl|⟨i,hi,rfl⟩
  ·exact⟨Nat.le_refl _,by simp only;omega,titleL_length n⟩
  ·refine⟨by simp only;omega,by simp only[firstD] at hf ⊢;omega,?_⟩
   show(partL (bits0 n) i).length=256
   unfold partL
   rw[List.length_take,List.length_drop,hb];omega
 ·simp only[formatT,List.length_cons,List.length_map,List.length_range];omega
theorem format_mid(n:Nat)(h:128≤n)(hm:n≤4096):
  (formatJ (DevL.new n) 60).2=0∧(formatJ (DevL.new n) 60).1.l.length=n∧(formatJ (DevL.new n) 60).1.p=[]∧(formatJ (DevL.new n) 60).1.Ok∧(openJ (formatJ (DevL.new n) 60).1).2=0∧JInv 60 2 (openJ (formatJ (DevL.new n) 60).1).1 [] (fun _=>noughtsL)∧(openJ (formatJ (DevL.new n) 60).1).1.d.l.length=n∧(openJ (formatJ (DevL.new n) 60).1).1.d.Free:=by
 have hl:(DevL.new n).l.length=n:=List.length_replicate
 have hok:=DevL.new_ok n (by omega) hm
 have hfree:(DevL.new n).Free:=⟨rfl,rfl⟩
 have hw:∀w∈formatW 60,w.1<(DevL.new n).l.length∧w.2.length=256:=fun w hw=>by
  rw[hl]
  rcases List.mem_append.1 hw with hw|hw
  ·obtain⟨i,hi,rfl⟩:=List.mem_map.1 hw
   have:=List.mem_range.1 hi
   exact⟨by simp only;omega,noughts_len⟩
  ·rw[List.mem_singleton] at hw;subst hw
   exact⟨by simp only;omega,slotT_length _⟩
 obtain⟨a,b,c,e⟩:(formatJ (DevL.new n) 60).2=0∧(formatJ (DevL.new n) 60).1.dead=false∧(formatJ (DevL.new n) 60).1.l=layP (DevL.new n).l ((DevL.new n).p++formatW 60)∧(formatJ (DevL.new n) 60).1.p=[]:=by
  rcases DevL.lays_run (formatW 60) (DevL.new n) rfl hw with h1|⟨_,h2,_⟩
  ·exact h1
  ·exfalso
   have:=(DevL.lays_free' hfree (formatW 60)).2
   rw[h2] at this;exact absurd this (by decide)
 have hfj:(formatJ (DevL.new n) 60).1.Free:=DevL.lays_free' hfree _
 have hlj:(formatJ (DevL.new n) 60).1.l.length=n:=by rw[c,layP_length,hl]
 have hnew:∀i,i<n→at' (DevL.new n).l i=noughtsL:=fun i hi=>by
  simp only[DevL.new,at',List.getD_eq_getElem?_getD,List.getElem?_replicate,if_pos hi,Option.getD_some]
 have hg:∀i,i<n→at' (formatJ (DevL.new n) 60).1.l i=if i=0 then slotT ⟨1,1,60,0⟩ else noughtsL:=fun i hi=>by
  rw[c,layP_at _ _ _ (by rw[hl];exact hi),hnew i hi]
  show lastP ([]++formatW 60) i noughtsL=_
  rw[List.nil_append]
  unfold formatW
  rw[lastP_snoc]
  by_cases h0:i=0
  ·rw[if_pos h0,if_pos h0.symm]
  ·rw[if_neg h0,if_neg (Ne.symm h0)]
   by_cases hx:∃w∈(List.range (60+1)).map (fun i=>(i+1,noughtsL)),w.1=i
   ·obtain⟨w,hw,_,e⟩:=lastP_mem _ i noughtsL hx
    obtain⟨m,_,rfl⟩:=List.mem_map.1 hw
    exact e
   ·exact lastP_none _ _ _ (fun w hw e=>hx ⟨w,hw,e⟩)
 have hso:(⟨1,1,60,0⟩:SlotL).Ok:=⟨by decide,by decide,by decide,by decide⟩
 have hrec:RecS (formatJ (DevL.new n) 60).1.l ⟨1,1,60,0⟩ 0 [] (fun _=>noughtsL):=by
  refine⟨by rw[hlj];exact hm,(DevL.lays_ok hok _).l,by decide,by rw[hlj];show 60+3≤n;omega,by decide,by decide,by decide,by decide,?_,?_,⟨by decide,?_⟩,fun i h1 h2=>?_⟩
  ·rw[hg 0 (by omega),if_pos rfl]
  ·refine OldX.other ?_ ⟨by decide,by decide,by decide,by decide⟩ (by decide)
   rw[hg _ (by omega),if_neg (by decide)]
   exact .inl rfl
  ·rw[show logAt ⟨1,1,60,0⟩ 0=2 from rfl,hg 2 (by omega),if_neg (by decide)]
   exact noughts_end
  ·rw[hlj] at h2
   show at' _ i=_
   rw[hg i h2,if_neg (by have:2+60≤i:=h1;omega)]
 have hpre:OpenPre 60 1 (formatJ (DevL.new n) 60).1 ⟨1,1,60,0⟩ 0 [] (fun _=>noughtsL) :=
  ⟨DevL.lays_ok hok _,b,hrec,rfl,by decide,by decide,fun w hw=>by rw[e] at hw;simp at hw⟩
 obtain⟨o1,o2,o3,o4⟩:(openJ (formatJ (DevL.new n) 60).1).2=0∧JInv 60 2 (openJ (formatJ (DevL.new n) 60).1).1 [] (fun _=>noughtsL)∧(openJ (formatJ (DevL.new n) 60).1).1.d.p=[]∧(openJ (formatJ (DevL.new n) 60).1).1.d.fuse = -1:=by
  rcases open_run hpre (by decide) with ⟨x1,x2,x3,x4⟩|⟨_,_,_,_,x5⟩
  ·exact⟨x1,x2,x3,x4 hfj.1⟩
  ·exact absurd hfj.1 x5
 have hol:(openJ (formatJ (DevL.new n) 60).1).1.d.l.length=n:=by rw[openJ_len,hlj]
 exact⟨a,hlj,e,DevL.lays_ok hok _,o1,o2,hol,⟨o4,o2.live⟩⟩
theorem format_run(n:Nat)(h:128≤n)(hm:n≤4096):
  (formatS (DevL.new n)).2=0∧(formatS (DevL.new n)).1.Free∧(formatS (DevL.new n)).1.l.length=n∧∃s k fr C,OpenPre 60 4 (formatS (DevL.new n)).1 s k fr C∧GoodC n C:=by
 have hl:(DevL.new n).l.length=n:=List.length_replicate
 obtain⟨a,hlj,_,_,o1,o2,hol,hof⟩:=format_mid n h hm
 obtain⟨t1,t2,t3,t4⟩:=formatT_map n h hm (fun _=>noughtsL)
 have hwo:WrOk (formatT n):=⟨by simp[formatT],by omega,fun w hw=>by have:=t3 w hw;exact⟨by omega,this.2.2⟩⟩
 obtain⟨q1,fr,q2⟩:((openJ (formatJ (DevL.new n) 60).1).1.commit (formatT n)).2=0∧∃fr',JInv 60 4 ((openJ (formatJ (DevL.new n) 60).1).1.commit (formatT n)).1 fr' (updC (fun _=>noughtsL) (formatT n)):=by
  rcases commit_run o2 (formatT n) hwo (fun w hw=>by rw[hol];have:=t3 w hw;exact⟨by omega,this.2.1⟩) (by decide) with x|⟨_,x,_⟩
  ·exact x
  ·exfalso
   have:=(JL.commit_free hof (formatT n)).2
   rw[x] at this;exact absurd this (by decide)
 have hfs:formatS (DevL.new n)=(((openJ (formatJ (DevL.new n) 60).1).1.commit (formatT n)).1.d,0):=by
  unfold formatS
  rw[if_neg (by rw[hl];omega),if_neg (by rw[a];simp),if_neg (by rw[o1];simp),hl,q1]
 rw[hfs]
 refine⟨rfl,JL.commit_free hof _,by rw[JL.commit_len,hol],_,_,fr,_,q2.toJPre.open,?_⟩
 exact⟨t2,by rw[t1];exact bits0_good n h hm⟩
def tellL(n:Nat)(b:Bytes)(f:Nat→Bytes):Bytes :=
 ((List.range n).filter fun k=>decide (firstD n≤k)&&bit b k).flatMap fun k=>UInt8.ofNat (k%256)::UInt8.ofNat (k / 256%256)::f k
def StL.tell(σ:StL):Bytes:=tellL σ.n σ.map1 σ.get
def tellC(n:Nat)(C:Nat→Bytes):Bytes:=tellL n (mapC n C) C
theorem tellL_ext{n:Nat}{b:Bytes}{f g:Nat→Bytes}(h:∀k,firstD n≤k→k<n→f k=g k):tellL n b f=tellL n b g:=by
 unfold tellL
 rw[List.flatMap_eq_foldl,List.flatMap_eq_foldl]
 have hm:∀k∈(List.range n).filter (fun k=>decide (firstD n≤k)&&bit b k),f k=g k:=fun k hk=>by
  obtain⟨h1,h2⟩:=List.mem_filter.1 hk
  have h3:=List.mem_range.1 h1
  simp only[Bool.and_eq_true,decide_eq_true_eq] at h2
  exact h k h2.1 h3
 generalize (List.range n).filter (fun k=>decide (firstD n≤k)&&bit b k)=l at *
 generalize ([]:Bytes)=acc
 induction l generalizing acc with
 | nil=>rfl
 | cons k l ih =>
  rw[List.foldl_cons,List.foldl_cons,hm k (List.mem_cons_self ..)]
  exact ih (fun x hx=>hm x (List.mem_cons_of_mem _ hx)) _
theorem StInv.tell{K:Nat}{σ:StL}{fr:List (List WrL)}{C:Nat→Bytes}(h:StInv K σ fr C):σ.tell=tellC σ.n (updC C σ.tx):=by
 unfold StL.tell tellC
 rw[←h.now]
 exact tellL_ext (fun k h1 h2=>h.get k (by unfold firstD at h1;omega) h2)
theorem abort_open(σ:StL):σ.abort.open_=false:=by
 unfold StL.abort
 cases h:σ.open_ with
 | true=>rfl
 | false=>rw[if_neg (by decide)];exact h
theorem abort_n(σ:StL):σ.abort.n=σ.n:=by
 unfold StL.abort
 split<;>rfl
theorem commit_n(σ:StL):σ.commit.1.n=σ.n:=by
 unfold StL.commit
 split
 ·rfl
 ·split
  ·rfl
  ·split
   ·exact JL.commit_len _ _
   ·exact JL.commit_len _ _
def usedL(b:Bytes)(lo:Nat):Nat→List (Nat×Nat)
 | 0=>[]
 | k+1 =>
  if bit b (lo+k) then
   (match (usedL b lo k).getLast? with
   | some r=>if r.1+r.2=lo+k then(usedL b lo k).dropLast++[(r.1,r.2+1)] else usedL b lo k++[(lo+k,1)]
   | none=>[(lo+k,1)])
  else usedL b lo k
theorem used_flat(b:Bytes)(lo k:Nat):(usedL b lo k).flatMap (fun r=>List.range' r.1 r.2)=(List.range' lo k).filter (fun i=>bit b i):=by
 induction k with
 | zero=>rfl
 | succ k ih =>
  rw[List.range'_1_concat,List.filter_append,←ih,usedL]
  cases hb:bit b (lo+k) with
  | false=>simp[hb]
  | true =>
   simp only[if_true]
   cases hl:(usedL b lo k).getLast? with
   | none =>
    have:usedL b lo k=[]:=List.getLast?_eq_none_iff.1 hl
    simp[this,hb]
   | some r =>
    obtain⟨ys,hys⟩:=List.getLast?_eq_some_iff.1 hl
    simp only[]
    split
    ·rename_i he
     have hu:usedL b lo k=(usedL b lo k).dropLast++[r]:=by
      rw[hys,List.dropLast_concat]
     conv=>rhs;rw[hu]
     rw[List.flatMap_append,List.flatMap_append,List.append_assoc]
     congr 1
     simp only[List.flatMap_cons,List.flatMap_nil,List.append_nil,List.filter_cons,hb,if_true,List.filter_nil]
     rw[List.range'_1_concat,he]
    ·simp[List.flatMap_append,hb]
theorem used_last(b:Bytes)(lo k:Nat):∀r∈usedL b lo k,1≤r.2∧r.1+r.2≤lo+k∧lo≤r.1∧bit b (r.1+r.2-1)=true:=by
 induction k with
 | zero=>intro r h;simp[usedL] at h
 | succ k ih =>
  intro r h
  rw[usedL] at h
  cases hb:bit b (lo+k) with
  | false =>
   rw[hb] at h
   simp only[Bool.false_eq_true,if_false] at h
   obtain⟨h1,h2,h3,h4⟩:=ih r h
   exact⟨h1,by omega,h3,h4⟩
  | true =>
   rw[hb] at h
   simp only[if_true] at h
   cases hl:(usedL b lo k).getLast? with
   | none =>
    rw[hl] at h
    simp only[List.mem_singleton] at h
    subst h
    exact⟨by omega,by simp only;omega,by simp only;omega,by simp only[Nat.add_sub_cancel];exact hb⟩
   | some q =>
    rw[hl] at h
    simp only[] at h
    have hq:=ih q (List.mem_of_getLast? hl)
    split at h
    ·rename_i he
     rcases List.mem_append.1 h with h|h
     ·obtain⟨h1,h2,h3,h4⟩:=ih r (List.dropLast_subset _ h)
      exact⟨h1,by omega,h3,h4⟩
     ·simp only[List.mem_singleton] at h
      subst h
      refine⟨by simp only;omega,by simp only;omega,hq.2.2.1,?_⟩
      show bit b (q.1+(q.2+1)-1)=true
      rw[show q.1+(q.2+1)-1=lo+k by omega];exact hb
    ·rcases List.mem_append.1 h with h|h
     ·obtain⟨h1,h2,h3,h4⟩:=ih r h
      exact⟨h1,by omega,h3,h4⟩
     ·simp only[List.mem_singleton] at h
      subst h
      exact⟨by omega,by simp only;omega,by simp only;omega,by simp only[Nat.add_sub_cancel];exact hb⟩
theorem used_skip(b:Bytes)(lo m t:Nat)(h:∀i,i<t→bit b (lo+m+i)=false):usedL b lo (m+t)=usedL b lo m:=by
 induction t with
 | zero=>rfl
 | succ t ih =>
  rw[←Nat.add_assoc,usedL,←Nat.add_assoc,h t (by omega),if_neg (by decide)]
  exact ih (fun i hi=>h i (by omega))
theorem used_run(b:Bytes)(lo m t:Nat)(ht:0<t)(h:∀i,i<t→bit b (lo+m+i)=true)(hm:m=0∨bit b (lo+m-1)=false):usedL b lo (m+t)=usedL b lo m++[(lo+m,t)]:=by
 induction t with
 | zero=>omega
 | succ t ih =>
  rw[←Nat.add_assoc,usedL,←Nat.add_assoc,h t (by omega),if_pos rfl]
  rcases Nat.eq_zero_or_pos t with rfl|htp
  ·rw[Nat.add_zero]
   cases hl:(usedL b lo m).getLast? with
   | none =>
    rw[List.getLast?_eq_none_iff.1 hl];rfl
   | some q =>
    obtain⟨q1,q2,q3,q4⟩:=used_last b lo m q (List.mem_of_getLast? hl)
    simp only[]
    rw[if_neg]
    ·rfl
    ·intro he
     rcases hm with rfl|hm
     ·simp[usedL] at hl
     ·rw[he,Nat.add_zero] at q4
      rw[q4] at hm;exact absurd hm (by decide)
  ·rw[ih htp (fun i hi=>h i (by omega)),List.getLast?_append]
   simp only[List.getLast?_singleton,Option.some_or,List.dropLast_concat]
   rw[if_pos trivial]
def usedStep(st:List (Nat×Nat)×Nat)(r:Nat×Nat):List (Nat×Nat)×Nat:=(if st.2<r.1 then st.1++[(st.2,r.1-st.2)] else st.1,r.1+r.2)
theorem used_fold(b:Bytes)(lo k:Nat)(hlow:∀i,i<lo→bit b i=true)(hk:lo≤k):
  ∃at_,(runsTo b k).foldl usedStep ([],lo)=(usedL b lo (at_-lo),at_)∧lo≤at_∧at_≤k∧(∀i,at_≤i→i<k→bit b i=true)∧(at_=lo∨bit b (at_-1)=false)∧(lo<k→bit b (k-1)=false→at_=k):=by
 obtain⟨d,rfl⟩:∃d,k=lo+d:=⟨k-lo,by omega⟩
 clear hk
 have h0:∀j,j≤lo→runsTo b j=[]:=fun j hj=>by
  induction j with
  | zero=>rfl
  | succ j ih=>rw[runsTo,hlow j (by omega),if_pos rfl];exact ih (by omega)
 induction d with
 | zero=>exact⟨lo,by rw[Nat.add_zero,h0 lo (Nat.le_refl _),Nat.sub_self];rfl,Nat.le_refl _,by omega,fun i h1 h2=>by omega,.inl rfl,fun h=>by omega⟩
 | succ d ih =>
  obtain⟨a,e,h1,h2,h3,h4,h5⟩:=ih
  rw[←Nat.add_assoc]
  cases hb:bit b (lo+d) with
  | true =>
   refine⟨a,by rw[runs_stay b _ hb];exact e,h1,by omega,fun i hi1 hi2=>?_,h4,fun _ hc=>?_⟩
   ·by_cases hi:i=lo+d
    ·rw[hi];exact hb
    ·exact h3 i hi1 (by omega)
   ·rw[Nat.add_sub_cancel,hb] at hc;exact absurd hc (by decide)
  | false =>
   refine⟨lo+d+1,?_,by omega,Nat.le_refl _,fun i hi1 hi2=>by omega,.inr (by rw[Nat.add_sub_cancel];exact hb),fun _ _=>rfl⟩
   rw[runsTo,hb,if_neg (by decide)]
   have hskip:usedL b lo (d+1)=usedL b lo d:=used_skip b lo d 1 (fun i hi=>by rw[show lo+d+i=lo+d by omega];exact hb)
   rw[show lo+d+1-lo=d+1 by omega,hskip]
   by_cases hc:0<lo+d∧bit b (lo+d-1)=false
   ·rw[if_pos hc]
    have hd:0<d:=by
     rcases Nat.eq_zero_or_pos d with rfl|hd
     ·have:=hlow (lo-1) (by omega)
      rw[Nat.add_zero] at hc;rw[this] at hc;exact absurd hc.2 (by decide)
     ·exact hd
    obtain rfl:=h5 (by omega) hc.2
    have hne:runsTo b (lo+d)≠[]:=fun hn=>by
     rw[hn] at e
     simp only[List.foldl_nil,Prod.mk.injEq] at e
     omega
    obtain⟨rs,r,hrs⟩:∃rs r,runsTo b (lo+d)=rs++[r]:=⟨_,_,(List.dropLast_concat_getLast hne).symm⟩
    rw[hrs] at e ⊢
    rw[bump_snoc,List.foldl_append]
    rw[List.foldl_append] at e
    simp only[List.foldl_cons,List.foldl_nil,usedStep,Prod.mk.injEq] at e ⊢
    rw[show lo+d-lo=d by omega] at e
    exact⟨e.1,by omega⟩
   ·rw[if_neg hc,List.foldl_append,e]
    simp only[List.foldl_cons,List.foldl_nil,usedStep,Prod.mk.injEq]
    refine⟨?_,trivial⟩
    by_cases ha:a<lo+d
    ·rw[if_pos ha]
     have:=used_run b lo (a-lo) (lo+d-a) (by omega) (fun i hi=>h3 _ (by omega) (by omega)) (by
      rcases h4 with h4|h4
      ·exact .inl (by omega)
      ·exact .inr (by rw[show lo+(a-lo)-1=a-1 by omega];exact h4))
     rw[show a-lo+(lo+d-a)=d by omega,show lo+(a-lo)=a by omega] at this
     exact this.symm
    ·rw[if_neg ha,show a-lo=d by omega]
def usedR(b:Bytes)(lo n:Nat):List (Nat×Nat):=((runsTo b n++[(n,0)]).foldl usedStep ([],lo)).1
theorem usedR_eq(b:Bytes)(lo n:Nat)(hlow:∀i,i<lo→bit b i=true)(hk:lo≤n):usedR b lo n=usedL b lo (n-lo):=by
 obtain⟨a,e,h1,h2,h3,h4,_⟩:=used_fold b lo n hlow hk
 unfold usedR
 rw[List.foldl_append,e]
 simp only[List.foldl_cons,List.foldl_nil,usedStep]
 by_cases ha:a<n
 ·rw[if_pos ha]
  have:=used_run b lo (a-lo) (n-a) (by omega) (fun i hi=>h3 _ (by omega) (by omega)) (by
   rcases h4 with h4|h4
   ·exact .inl (by omega)
   ·exact .inr (by rw[show lo+(a-lo)-1=a-1 by omega];exact h4))
  rw[show a-lo+(n-a)=n-lo by omega,show lo+(a-lo)=a by omega] at this
  exact this.symm
 ·rw[if_neg ha,show a-lo=n-lo by omega]
theorem used_total(b:Bytes)(lo k:Nat):total (usedL b lo k)=((List.range' lo k).filter fun i=>bit b i).length:=by
 rw[←used_flat,total]
 generalize usedL b lo k=l
 induction l with
 | nil=>rfl
 | cons r l ih=>rw[List.map_cons,List.sum_cons,ih,List.flatMap_cons,List.length_append,List.length_range']
theorem cnt_used(b:Bytes)(lo k:Nat)(hlow:∀i,i<lo→bit b i=true):((List.range' lo k).filter fun i=>bit b i).length+cnt b (lo+k)=k:=by
 induction k with
 | zero=>rw[Nat.add_zero,cnt_zero b lo hlow];rfl
 | succ k ih =>
  rw[List.range'_1_concat,List.filter_append,←Nat.add_assoc,cnt,List.length_append]
  cases hb:bit b (lo+k) with
  | true=>simp[hb];omega
  | false=>simp[hb];omega
theorem GoodMap.many{n:Nat}{b:Bytes}(h:GoodMap n b)(hn:firstD n≤n):total (usedL b (firstD n) (n-firstD n))+cnt b n=n-firstD n:=by
 have:=cnt_used b (firstD n) (n-firstD n) h.low
 rw[show firstD n+(n-firstD n)=n by omega] at this
 rw[used_total];exact this
end
section
open Go.RowKit Go.MapKept
def putI{α:Type}(k:Nat)(v:α):List (Nat×α)→List (Nat×α)
 | []=>[(k,v)]
 | x::m=>if x.1=k then(k,v)::m else x::putI k v m
def getI{α:Type}(k:Nat):List (Nat×α)→Option α
 | []=>none
 | x::m=>if x.1=k then some x.2 else getI k m
def delI{α:Type}(k:Nat):List (Nat×α)→List (Nat×α)
 | []=>[]
 | x::m=>if x.1=k then m else x::delI k m
abbrev keyI(k:Nat):Value:=.int .i64 (k:Nat)
abbrev kvI(e:MapEntry):Value×Value:=(e.key,e.val)
abbrev kvN(x:Nat×Value):Value×Value:=(keyI x.1,x.2)
def MapI(w:World)(b:Nat)(m:List (Nat×Value)):Prop :=
 ∃es clock,w.heap[b]?=some (.map es clock)∧Stamped es clock∧es.toList.map kvI=m.map kvN
theorem MapI.lt{w:World}{b:Nat}{m:List (Nat×Value)}(h:MapI w b m):b<w.heap.size:=by
 obtain⟨es,clock,hb,_⟩:=h
 exact(Array.getElem?_eq_some_iff.1 hb).1
theorem MapI.same{w w':World}{b:Nat}{m:List (Nat×Value)}(h:MapI w b m)(hb:w'.heap[b]?=w.heap[b]?):MapI w' b m:=by
 obtain⟨es,clock,h1,h2,h3⟩:=h
 exact⟨es,clock,hb.trans h1,h2,h3⟩
theorem MapI.made(w:World):MapI (w.alloc (.map #[] 0)) w.heap.size []:=⟨#[],0,(MapKept.heap_alloc w _).1,stamped_empty 0,rfl⟩
theorem keyI_inj{a b:Nat}(h:keyI a=keyI b):a=b:=by
 injection h with _ h;omega
theorem sameNow_int(a b:Nat):Instr.sameNow (.int .i64) (keyI a) (keyI b)=some (decide (a=b)):=by
 by_cases h:a=b
 ·subst h;simp[Instr.sameNow]
 ·have:¬((a:Int)=b):=by omega
  simp[Instr.sameNow,this,h]
theorem MapI.nodup{w:World}{b:Nat}{m:List (Nat×Value)}(h:MapI w b m):(m.map (·.1)).Nodup:=by
 obtain⟨es,clock,_,⟨_,_,h3⟩,h4⟩:=h
 have e:es.toList.map (·.key)=m.map fun x=>keyI x.1:=by
  have:=congrArg (List.map Prod.fst) h4
  simpa[List.map_map,Function.comp_def] using this
 rw[e] at h3
 have:(m.map fun x=>keyI x.1)=(m.map (·.1)).map keyI:=by simp[List.map_map,Function.comp_def]
 rw[this] at h3
 exact(List.pairwise_map.1 h3).imp (fun hne e=>hne (congrArg keyI e))
theorem findI(k:Nat):∀(m:List (Nat×Value)) (l:List MapEntry) (i:Nat),l.map kvI=m.map kvN →
  (getI k m=none∧Instr.findNow (.int .i64) (keyI k) l i=some none∧(∀e∈l,e.key≠keyI k)∧(∀v,putI k v m=m++[(k,v)])∧delI k m=m) ∨
  ∃j e v,l[j]?=some e∧e.key=keyI k∧e.val=v∧m[j]?=some (k,v)∧getI k m=some v∧Instr.findNow (.int .i64) (keyI k) l i=some (some (i+j,v))∧(∀v',putI k v' m=m.set j (k,v'))∧delI k m=m.eraseIdx j
 | [],l,i,h=>by
  have:l=[]:=by simpa using h
  subst this
  exact Or.inl ⟨rfl,rfl,by simp,fun _=>rfl,rfl⟩
 | x::m,l,i,h=>by
  cases l with
  | nil=>simp at h
  | cons e l =>
   simp only[List.map_cons,List.cons.injEq] at h
   obtain⟨h1,h2⟩:=h
   have hk:e.key=keyI x.1:=congrArg Prod.fst h1
   have hv:e.val=x.2:=congrArg Prod.snd h1
   by_cases hx:x.1=k
   ·refine Or.inr ⟨0,e,x.2,rfl,by rw[hk,hx],hv,by rw[←hx];rfl,by simp[getI,hx],?_,fun v'=>by simp[putI,hx],by simp[delI,hx]⟩
    have hs:=sameNow_int k k
    rw[decide_eq_true rfl] at hs
    simp[Instr.findNow,hk,hx,hv,hs]
   ·have hs:Instr.findNow (.int .i64) (keyI k) (e::l) i=Instr.findNow (.int .i64) (keyI k) l (i+1):=by
     have:=sameNow_int k x.1
     simp[Instr.findNow,hk,this,Ne.symm hx]
    rcases findI k m l (i+1) h2 with ⟨a,b,c,d,dd⟩|⟨j,e',v,a,b,c,d,f,g,p,dd⟩
    ·refine Or.inl ⟨by simp[getI,hx,a],by rw[hs,b],?_,fun v=>by simp[putI,hx,d],by simp[delI,hx,dd]⟩
     intro e' he'
     rcases List.mem_cons.1 he' with rfl|he'
     ·rw[hk]
      intro hh
      exact hx (keyI_inj hh)
     ·exact c e' he'
    ·exact Or.inr ⟨j+1,e',v,by simpa using a,b,c,by simpa using d,by simp[getI,hx,f],by rw[hs,g];simp;omega,fun v'=>by simp[putI,hx,p],by simp[delI,hx,dd]⟩
theorem run_lookup_int{P:Program}{w:World}{b:Nat}{m:List (Nat×Value)}(h:MapI w b m)(t kt et:TypeId)(hm:P.underlying t=some (.map kt et))(hd:P.underlying kt=some (.int .i64))(z:Value)(hz:(zeroValue et).run P w=.ok z w)(k:Nat)(ok:Bool):
  (Instr.lookup t (.map (some b)) (keyI k) ok).run P w=.ok (if ok then .tuple #[(getI k m).getD z,.bool (getI k m).isSome] else(getI k m).getD z) w:=by
 obtain⟨es,clock,hb,hs,hk⟩:=h
 have hkk:IsKey (.int .i64) (keyI k):=rfl
 rcases findI k m es.toList 0 hk with ⟨a,f,_,_⟩|⟨j,e,v,_,_,_,_,a,f,_⟩
 ·simp[Instr.lookup,run_underlying hm,MapKept.run_getObj_map hb,run_checkKey hd hkk,run_findKey hd f,hz,Result.andThen,a]
 ·simp[Instr.lookup,run_underlying hm,MapKept.run_getObj_map hb,run_checkKey hd hkk,run_findKey hd f,Result.andThen,a]
theorem run_update_int{P:Program}{w:World}{b:Nat}{m:List (Nat×Value)}(h:MapI w b m)(t kt et:TypeId)(hm:P.underlying t=some (.map kt et))(hd:P.underlying kt=some (.int .i64))(k:Nat)(v:Value):
  ∃w',(Instr.mapUpdate t (.map (some b)) (keyI k) v).run P w=.ok () w'∧MapI w' b (putI k v m)∧w.grownBy w' (some b)∧w'.heap.size=w.heap.size:=by
 obtain⟨es,clock,hb,hs,hk⟩:=h
 have hkk:IsKey (.int .i64) (keyI k):=rfl
 rcases findI k m es.toList 0 hk with ⟨a,f,g,p,_⟩|⟨j,e,u,hj,he,hv,hmj,a,f,p,_⟩
 ·refine⟨{ w with heap:=w.heap.setIfInBounds b (.map (es.push { key:=keyI k,val:=v,born:=clock }) (clock+1)) },?_,⟨_,_,(heap_set hb).1,stamped_push hs g,?_⟩,⟨rfl,rfl,rfl,by simp,fun i _ hi=>(heap_set hb).2 i (fun e=>hi (by rw[e]))⟩,by simp⟩
  ·simp[Instr.mapUpdate,run_underlying hm,MapKept.run_getObj_map hb,run_checkKey hd hkk,run_findKey hd f,run_setObj_map _ hb,Result.andThen]
  ·rw[p];simp[hk]
 ·have hj':es[j]?=some e:=by simpa using hj
  refine⟨{ w with heap:=w.heap.setIfInBounds b (.map (es.modify j fun e=>{ e with key:=keyI k,val:=v }) clock) },?_,⟨_,_,(heap_set hb).1,stamped_modify hs _ _ (fun _ _=>rfl) (fun e' _ he'=>by rw[hj'] at he';cases he';exact he.symm),?_⟩,⟨rfl,rfl,rfl,by simp,fun i _ hi=>(heap_set hb).2 i (fun e=>hi (by rw[e]))⟩,by simp⟩
  ·simp[Instr.mapUpdate,run_underlying hm,MapKept.run_getObj_map hb,run_checkKey hd hkk,run_findKey hd f,hj',he,run_keyThatStays hkk,run_setObj_map _ hb,Result.andThen]
  ·rw[p]
   apply List.ext_getElem?
   intro i
   have hi:=congrArg (fun l=>l[i]?) hk
   simp only[List.getElem?_map] at hi
   simp only[List.getElem?_map,Array.getElem?_toList,Array.getElem?_modify,List.getElem?_set]
   by_cases hij:j=i
   ·subst hij
    have hlt:j<m.length:=(List.getElem?_eq_some_iff.1 hmj).1
    simp[hj',hlt]
   ·simp[hij];simpa using hi
theorem map_eraseIdx'{α β:Type}(f:α→β):∀(l:List α) (j:Nat),(l.eraseIdx j).map f=(l.map f).eraseIdx j
 | [],j=>rfl
 | x::l,0=>rfl
 | x::l,j+1=>by simp[map_eraseIdx' f l j]
theorem run_delete_int{P:Program}{w:World}{b:Nat}{m:List (Nat×Value)}(h:MapI w b m)(t kt et:TypeId)(hm:P.underlying t=some (.map kt et))(hd:P.underlying kt=some (.int .i64))(k:Nat):
  ∃w',(∀ty,(Builtin.delete_ #[t,kt] ty #[.map (some b),keyI k]).run P w=.ok (.tuple #[]) w')∧MapI w' b (delI k m)∧w.grownBy w' (some b)∧w'.heap.size=w.heap.size:=by
 obtain⟨es,clock,hb,hs,hk⟩:=h
 have hkk:IsKey (.int .i64) (keyI k):=rfl
 rcases findI k m es.toList 0 hk with ⟨a,f,g,_,p⟩|⟨j,e,u,hj,he,hv,hmj,a,f,_,p⟩
 ·refine⟨{ w with heap:=w.heap.setIfInBounds b (.map es clock) },?_,⟨_,_,(heap_set hb).1,hs,by rw[p];exact hk⟩,⟨rfl,rfl,rfl,by simp,fun i _ hi=>(heap_set hb).2 i (fun e=>hi (by rw[e]))⟩,by simp⟩
  intro ty;simp[Builtin.delete_,run_underlying hm,MapKept.run_getObj_map hb,run_checkKey hd hkk,run_findKey hd f,run_setObj_map _ hb,Result.andThen]
 ·refine⟨{ w with heap:=w.heap.setIfInBounds b (.map (es.eraseIdxIfInBounds j) clock) },?_,⟨_,_,(heap_set hb).1,stamped_erase hs j,?_⟩,⟨rfl,rfl,rfl,by simp,fun i _ hi=>(heap_set hb).2 i (fun e=>hi (by rw[e]))⟩,by simp⟩
  ·intro ty;simp[Builtin.delete_,run_underlying hm,MapKept.run_getObj_map hb,run_checkKey hd hkk,run_findKey hd f,run_setObj_map _ hb,Result.andThen]
  ·have hlt:j<es.size:=by
    have:=(List.getElem?_eq_some_iff.1 hj).1
    simpa using this
   rw[p,map_eraseIdx',←hk,←map_eraseIdx']
   congr 1
   unfold Array.eraseIdxIfInBounds
   rw[dif_pos hlt]
   simp
theorem run_clear_int{P:Program}{w:World}{b:Nat}{m:List (Nat×Value)}(h:MapI w b m)(t kt et ty:TypeId)(hm:P.underlying t=some (.map kt et)):
  ∃w',(Builtin.clear_ #[t] ty #[.map (some b)]).run P w=.ok (.tuple #[]) w'∧MapI w' b []∧w.grownBy w' (some b)∧w'.heap.size=w.heap.size:=by
 obtain⟨es,clock,hb,hs,hk⟩:=h
 refine⟨{ w with heap:=w.heap.setIfInBounds b (.map #[] clock) },?_,⟨_,_,(heap_set hb).1,stamped_empty _,rfl⟩,⟨rfl,rfl,rfl,by simp,fun i _ hi=>(heap_set hb).2 i (fun e=>hi (by rw[e]))⟩,by simp⟩
 simp[Builtin.clear_,run_underlying hm,MapKept.run_getObj_map hb,run_setObj_map _ hb,Result.andThen]
section
variable {P:Program} (w:World) {ops:Array Oper} {rest:List Oper} {o:Oper} {a:Act} {Q:Exit→Act→World→Prop}
theorem wpList_update_int(hg:o.guard=none)(mo x vo:Operand)(t:TypeId)(hop:o.op=Op.mapUpdate t mo x vo)
  (kt et:TypeId) (hm:P.underlying t=some (.map kt et)) (hd:P.underlying kt=some (.int .i64)) (b:Nat) (m:List (Nat×Value)) (h:MapI w b m) (k:Nat) (v:Value) (hmo:a.eval mo=.map (some b)) (hx:a.eval x=keyI k) (hv:a.eval vo=v)
  (hK:∀w',MapI w' b (putI k v m)→w.grownBy w' (some b)→w'.heap.size=w.heap.size→wpList P ops Q rest (a.put o.dst undef) w'):wpList P ops Q (o::rest) a w:=by
 refine wpList_plain hg fun K' hK'=>?_
 obtain⟨w',hrun,r1,r2,r3⟩:=run_update_int h t kt et hm hd k v
 unfold Oper.wp
 simp[execOp,hop,hmo,hx,hv,hrun,Result.andThen]
 exact hK' _ _ (hK w' r1 r2 r3)
theorem wpList_lookup_int(hg:o.guard=none)(mo x:Operand)(t:TypeId)(ok:Bool)(hop:o.op=Op.lookup t mo x ok)
  (kt et:TypeId) (hm:P.underlying t=some (.map kt et)) (hd:P.underlying kt=some (.int .i64)) (z:Value) (hz:(zeroValue et).run P w=.ok z w) (b:Nat) (m:List (Nat×Value)) (h:MapI w b m) (k:Nat) (hmo:a.eval mo=.map (some b)) (hx:a.eval x=keyI k)
  (hK:wpList P ops Q rest (a.put o.dst (if ok then .tuple #[(getI k m).getD z,.bool (getI k m).isSome] else(getI k m).getD z)) w):wpList P ops Q (o::rest) a w:=by
 refine wpList_plain hg fun K' hK'=>?_
 have hrun:=run_lookup_int h t kt et hm hd z hz k ok
 unfold Oper.wp
 simp[execOp,hop,hmo,hx,hrun,Result.andThen]
 exact hK' _ _ hK
theorem run_len_int{P:Program}{w:World}{b:Nat}{m:List (Nat×Value)}(h:MapI w b m)(t kt et r:TypeId)(hm:P.underlying t=some (.map kt et)):
  (Builtin.len_ #[t] r #[.map (some b)]).run P w=.ok (.int .i64 m.length) w:=by
 obtain⟨es,clock,hb,hs,hk⟩:=h
 have:es.size=m.length:=by have:=congrArg List.length hk;simpa using this
 simp[Builtin.len_,run_underlying hm,MapKept.run_getObj_map hb,goInt,Result.andThen,this]
end
theorem getI_putI{α:Type}(k l:Nat)(v:α)(m:List (Nat×α)):getI l (putI k v m)=if k=l then some v else getI l m:=by
 induction m with
 | nil=>simp[putI,getI]
 | cons x m ih =>
  by_cases hx:x.1=k
  ·by_cases hl:k=l<;>simp[putI,getI,hx,hl]
  ·by_cases hl:k=l
   ·subst hl;simp[putI,getI,hx,ih]
   ·simp[putI,getI,hx,ih,hl]
theorem getI_mem{α:Type}{k:Nat}{v:α}{m:List (Nat×α)}(h:getI k m=some v):(k,v)∈m:=by
 induction m with
 | nil=>simp[getI] at h
 | cons x m ih =>
  unfold getI at h
  split at h
  ·rename_i hx
   injection h with h
   subst hx h
   exact List.mem_cons_self ..
  ·exact List.mem_cons_of_mem _ (ih h)
theorem getI_of_mem{α:Type}{k:Nat}{v:α}{m:List (Nat×α)}(hn:(m.map (·.1)).Nodup)(h:(k,v)∈m):getI k m=some v:=by
 induction m with
 | nil=>simp at h
 | cons x m ih =>
  simp only[List.map_cons,List.nodup_cons] at hn
  unfold getI
  rcases List.mem_cons.1 h with h|h
  ·subst h;simp
  ·rw[if_neg]
   ·exact ih hn.2 h
   ·intro e
    exact hn.1 (List.mem_map.2 ⟨(k,v),h,e.symm⟩)
theorem getI_none{α:Type}{k:Nat}{m:List (Nat×α)}:getI k m=none↔∀x∈m,x.1≠k:=by
 induction m with
 | nil=>simp[getI]
 | cons x m ih =>
  unfold getI
  by_cases hx:x.1=k
  ·simp[hx]
  ·simp[hx,ih]
theorem delI_eq{α:Type}(k:Nat)(m:List (Nat×α))(hn:(m.map (·.1)).Nodup):delI k m=m.filter fun x=>x.1 != k:=by
 induction m with
 | nil=>rfl
 | cons x m ih =>
  simp only[List.map_cons,List.nodup_cons] at hn
  unfold delI
  by_cases hx:x.1=k
  ·rw[if_pos hx,List.filter_cons_of_neg (by simp[hx])]
   symm
   refine List.filter_eq_self.2 (fun y hy=>?_)
   have:y.1≠k:=fun e=>hn.1 (List.mem_map.2 ⟨y,hy,by rw[e,hx]⟩)
   simpa using this
  ·rw[if_neg hx,ih hn.2,List.filter_cons_of_pos (by simpa using hx)]
theorem putI_length{α:Type}(k:Nat)(v:α)(m:List (Nat×α)):(putI k v m).length=if (getI k m).isSome then m.length else m.length+1:=by
 induction m with
 | nil=>rfl
 | cons x m ih =>
  unfold putI getI
  by_cases hx:x.1=k
  ·simp[hx]
  ·simp only[hx,if_false,List.length_cons,ih]
   split<;>rfl
theorem putI_map{α β:Type}(f:α→β)(k:Nat)(v:α)(m:List (Nat×α)):(putI k v m).map (fun x=>(x.1,f x.2))=putI k (f v) (m.map fun x=>(x.1,f x.2)):=by
 induction m with
 | nil=>rfl
 | cons x m ih =>
  unfold putI
  by_cases hx:x.1=k
  ·simp[hx]
  ·simp[hx,ih]
theorem getI_map{α β:Type}(f:α→β)(k:Nat)(m:List (Nat×α)):getI k (m.map fun x=>(x.1,f x.2))=(getI k m).map f:=by
 induction m with
 | nil=>rfl
 | cons x m ih =>
  simp only[List.map_cons,getI]
  by_cases hx:x.1=k
  ·simp[hx]
  ·simp[hx,ih]
theorem delI_map{α β:Type}(f:α→β)(k:Nat)(m:List (Nat×α)):(delI k m).map (fun x=>(x.1,f x.2))=delI k (m.map fun x=>(x.1,f x.2)):=by
 induction m with
 | nil=>rfl
 | cons x m ih =>
  unfold delI
  by_cases hx:x.1=k
  ·simp[hx]
  ·simp[hx,ih]
theorem putI_keys{α:Type}(k:Nat)(v:α)(m:List (Nat×α)):∀y,y∈(putI k v m).map (·.1)↔y=k∨y∈m.map (·.1):=by
 induction m with
 | nil=>simp[putI]
 | cons x m ih =>
  intro y
  unfold putI
  by_cases hx:x.1=k
  ·simp[hx]
  ·simp only[hx,if_false,List.map_cons,List.mem_cons,ih]
   grind
end
end Go.Proofs.YthcpkgfieoneeaaGreatDoor
