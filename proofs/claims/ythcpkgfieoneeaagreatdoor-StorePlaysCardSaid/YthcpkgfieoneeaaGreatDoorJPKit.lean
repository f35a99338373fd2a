/- Joined texts of one proof: what is needed of Kit, Mem, Mem3, Own, Range, Turn, Wire, SegSpec, Dev, DevM, RDevM, Wire2. -/
import Derived.WalkKit
import Derived.Lib.Hide
import Derived.Deep.QuietTactic
import Derived.BigQuiet
import Derived.Deep.Onto
import Derived.Deep.AppendLies
import Derived.RangeFuncBox
import Derived.RangeFuncNested
import Derived.RangeFuncLeaves
import Derived.RangeFuncBound
import Derived.RangeFuncCalls
import Derived.OwnWalkIn
import Derived.TacticsInMore
import Derived.LoopNIn
import Derived.LoopIn
import Derived.Lib.OthersKept
import Derived.Test.YthcpkgfieoneeaaGreatDoorProg
import Derived.Laws.OwnMore
set_option linter.unusedSimpArgs false
set_option linter.unusedVariables false
set_option linter.unnecessarySimpa false
set_option maxRecDepth 100000
set_option maxHeartbeats 16000000
namespace Go.Proofs.YthcpkgfieoneeaaGreatDoor
section
open Go.RowKit
theorem ret_int{k:IntKind}{a b:Int}(h:a=b):Ending.returned (.int k a)=.returned (.int k b):=by rw[h]
theorem ret_bool{a b:Bool}(h:a=b):Ending.returned (.bool a)=.returned (.bool b):=by rw[h]
theorem int_eq{k:IntKind}{a b:Int}(h:a=b):Value.int k a=.int k b:=by rw[h]
theorem w64b(b:UInt8):wrap64 (b.toNat:Int)=b.toNat:=by
 have:=UInt8.toNat_lt b
 exact IntWalk.wrap64_in _ (by omega)
theorem add_head(b j:Nat):(⟨b,0,none⟩:Addr).add j=⟨b,j,none⟩:=by unfold Addr.add;split<;>simp_all
theorem run_app{P:Program}(W:World)(t ty:TypeId)(base:Nat)(e e':TypeId)(i:TypeInfo)(z:Value)(size bytes:Nat)(ht:P.underlying t=some (.slice e))(hi:P.info? e=some i)(hz:i.zero=some z)
  (hsize:i.size=size) (hby:i.bytes=bytes) (hzs:z.cells.size=size) (hsz:0<size) (hbz:0<bytes)
  (v:Value) (n:Nat) (xs:List Value) (hown:W.ownsRow base e size v n xs)
  (news:Array Value) (hl:news.size=size) (h1:∀u∈news.toList,u.oneCell'=true) (hb:(n+1)*bytes≤140737488355328) (hbase:base≤W.heap.size) :
  ∃g cap w',(Builtin.append_ #[t,t] ty #[v,.slice (some ⟨W.heap.size,0,none⟩) 1 1]).run P (W.alloc (.cells news e'))=.ok (.slice (some ⟨g,0,none⟩) (n+1) cap) w' ∧
   w'.ownsRow base e size (.slice (some ⟨g,0,none⟩) (n+1) cap) (n+1) (xs++news.toList)∧W.grownBy w' v.ownBlock∧(v.ownBlock=some g∨W.heap.size<g)∧g<w'.heap.size∧W.heap.size<w'.heap.size:=by
 have h63:n+1≤maxLen:=by
  have:=Nat.le_mul_of_pos_right (n+1) hbz
  simp only[maxLen];omega
 obtain⟨g,cap,w',hr,h2,h3,h4,h5⟩:=run_append_lies (P:=P) (W.alloc (.cells news e')) t ty base e i z size bytes ht hi hz hsize hby hzs hsz v n xs (hown.alloc _) ⟨W.heap.size,0,none⟩ 1 1 news.toList (by simpa using hl)
  (fun j u hj=>by
   rw[add_head]
   simp only[World.cell?,heap_alloc_new]
   simpa using hj) h1 (by omega) h63 hb (by simp;omega) (W.heap.size+1) (by simp)
 refine⟨g,cap,w',hr,h2,⟨h3.os.trans rfl,h3.tape.trans rfl,h3.output.trans rfl,by have:=h3.size;simp at this;omega,fun k hk hne=>?_⟩,h4.imp id (fun h=>by omega),h5,by have:=h3.size;simp at this;omega⟩
 rw[h3.block k (by simp;omega) hne,Below.heap_alloc _ _ _ hk]
theorem wpList_app{P:Program}(W:World){ops:Array Oper}{rest:List Oper}{o:Oper}{a:Act}{Q:Exit→Act→World→Prop}(hgd:o.guard=none)(s x:Operand)(t:TypeId)
  (ho:o.op=.call { callee:=.builtin .append,args:=#[s,x],argTypes:=#[t,t] })
  (base:Nat) (e e':TypeId) (i:TypeInfo) (z:Value) (size bytes:Nat) (ht:P.underlying t=some (.slice e)) (hi:P.info? e=some i) (hz:i.zero=some z)
  (hsize:i.size=size) (hby:i.bytes=bytes) (hzs:z.cells.size=size) (hsz:0<size) (hbz:0<bytes)
  (v:Value) (n:Nat) (xs:List Value) (hs:a.eval s=v) (hown:W.ownsRow base e size v n xs)
  (news:Array Value) (hx:a.eval x=.slice (some ⟨W.heap.size,0,none⟩) 1 1) (hl:news.size=size) (h1:∀u∈news.toList,u.oneCell'=true)
  (hb:(n+1)*bytes≤140737488355328) (hbase:base≤W.heap.size)
  (h:∀g cap w',w'.ownsRow base e size (.slice (some ⟨g,0,none⟩) (n+1) cap) (n+1) (xs++news.toList)→W.grownBy w' v.ownBlock→(v.ownBlock=some g∨W.heap.size<g)→g<w'.heap.size→W.heap.size<w'.heap.size →
   wpList P ops Q rest (a.put o.dst (.slice (some ⟨g,0,none⟩) (n+1) cap)) w'):wpList P ops Q (o::rest) a (W.alloc (.cells news e')):=by
 obtain⟨g,cap,w',hr,h2,h3,h4,h5,h6⟩:=run_app (P:=P) W t o.type base e e' i z size bytes ht hi hz hsize hby hzs hsz hbz v n xs hown news hl h1 hb hbase
 refine wpList_plain hgd fun _ hK=>?_
 unfold Oper.wp execOp
 simp only[ho,resolve,invoke,builtin,Sem.run_bind,Sem.run_pure,Result.andThen_ok,List.map_toArray,List.map_cons,List.map_nil,hs,hx,hr]
 exact hK _ _ (h g cap w' h2 h3 h4 h5 h6)
theorem grown_below{B base:Nat}{w0 W w':World}{v:Value}{e:TypeId}{size n:Nat}{xs:List Value}(hb:Below B w0 W)(hown:W.ownsRow base e size v n xs)(hg:W.grownBy w' v.ownBlock)(hB:B≤base)(hW:B≤W.heap.size):Below B w0 w' :=
 hb.grown hg hW (fun k hk=>by have:=(hown.lt k hk).1;omega)
theorem grown_cell{base:Nat}{W w':World}{v:Value}{e:TypeId}{size n:Nat}{xs:List Value}(hown:W.ownsRow base e size v n xs)(hg:W.grownBy w' v.ownBlock){p:Addr}{u:Value}(hp:p.block<base)(hc:W.cell? p=some u):w'.cell? p=some u :=
 hg.cell hc (fun h=>by have:=(hown.lt p.block h.symm).1;omega)
theorem owns_value{w:World}{base:Nat}{e:TypeId}{size:Nat}{v:Value}{n:Nat}{xs:List Value}(h:w.ownsRow base e size v n xs):∃a cap,v=.slice a n cap∧(0<n→∃g,a=some ⟨g,0,none⟩):=by
 rcases h.2 with ⟨rfl,rfl⟩|⟨g,cap,cur,rfl,_⟩
 ·exact⟨none,0,rfl,fun h=>by omega⟩
 ·exact⟨_,cap,rfl,fun _=>⟨g,rfl⟩⟩
theorem ownsRow_below{w w':World}{base:Nat}{e:TypeId}{size:Nat}{v:Value}{n:Nat}{xs:List Value}(h:w.ownsRow base e size v n xs)(hb:Below w.heap.size w w'):w'.ownsRow base e size v n xs :=
 h.kept (row:=none) ⟨hb.os,hb.tape,hb.output,hb.size,fun k hk _=>hb.block k hk⟩ (by cases v.ownBlock<;>simp)
theorem bytes_extract(s:List UInt8)(a b:Nat):({ data:=s.toArray }:ByteArray).extract a b=⟨((s.drop a).take (b-a)).toArray⟩:=by
 apply ByteArray.ext
 rw[ByteArray.data_extract]
 simp[List.take_drop]
theorem bytes_drop(s:List UInt8)(a:Nat):({ data:=s.toArray }:ByteArray).extract a s.length=⟨(s.drop a).toArray⟩:=by
 rw[bytes_extract,List.take_of_length_le (by rw[List.length_drop];omega)]
theorem bytes_take(s:List UInt8)(a:Nat):({ data:=s.toArray }:ByteArray).extract 0 a=⟨(s.take a).toArray⟩:=by
 rw[bytes_extract];simp
theorem bytes_append(a b:List UInt8):({ data:=a.toArray }:ByteArray)++{ data:=b.toArray }=⟨(a++b).toArray⟩:=by
 apply ByteArray.ext
 simp
def Sl(w:World)(v:Value)(n size:Nat)(xs:List Value):Prop :=
 xs.length=n*size∧∃a cap,v=.slice a n cap∧(0<n→∃b off,a=some ⟨b,off,none⟩∧∀j u,xs[j]?=some u→w.cell? ⟨b,off+j,none⟩=some u)
theorem cell_lt{w:World}{a:Addr}{u:Value}(h:w.cell? a=some u):a.block<w.heap.size:=World.block_lt_of_cell? w a h
theorem cell_stays{w w':World}(hb:Below w.heap.size w w'){a:Addr}{u:Value}(h:w.cell? a=some u):w'.cell? a=some u :=
 (hb.cell (cell_lt h)).trans h
theorem Sl.stays{w w':World}{v:Value}{n size:Nat}{xs:List Value}(h:Sl w v n size xs)(hb:Below w.heap.size w w'):Sl w' v n size xs:=by
 obtain⟨h1,a,cap,h2,h3⟩:=h
 refine⟨h1,a,cap,h2,fun hn=>?_⟩
 obtain⟨b,off,h4,h5⟩:=h3 hn
 exact⟨b,off,h4,fun j u hj=>cell_stays hb (h5 j u hj)⟩
theorem Sl.nil(w:World)(size:Nat):Sl w (.slice none 0 0) 0 size []:=⟨by simp,none,0,rfl,fun h=>by omega⟩
theorem Sl.of_owns{w:World}{base:Nat}{e:TypeId}{size:Nat}{v:Value}{n:Nat}{xs:List Value}(h:w.ownsRow base e size v n xs):Sl w v n size xs:=by
 obtain⟨a,cap,rfl,hs⟩:=owns_value h
 refine⟨h.1,a,cap,rfl,fun hn=>?_⟩
 obtain⟨g,rfl⟩:=hs hn
 refine⟨g,0,rfl,fun j u hj=>?_⟩
 have hlt:j<n*size:=by rw[←h.1];exact(List.getElem?_eq_some_iff.1 hj).1
 rw[Nat.zero_add,h.cellAt j hlt];exact hj
theorem Sl.lit(w:World)(cs:Array Value)(e:TypeId)(n size:Nat)(h:cs.size=n*size):Sl (w.alloc (.cells cs e)) (.slice (some ⟨w.heap.size,0,none⟩) n n) n size cs.toList:=by
 refine⟨by simpa using h,_,n,rfl,fun hn=>⟨w.heap.size,0,rfl,fun j u hj=>?_⟩⟩
 rw[Nat.zero_add]
 simp only[World.cell?,heap_alloc_new]
 simpa using hj
theorem Sl.value{w:World}{v:Value}{n size:Nat}{xs:List Value}(h:Sl w v n size xs):∃a cap,v=.slice a n cap∧(0<n→∃b off,a=some ⟨b,off,none⟩∧∀j u,xs[j]?=some u→w.cell? ⟨b,off+j,none⟩=some u):=h.2
abbrev strV(l:List UInt8):Value:=.string ⟨l.toArray⟩
def Strs(w:World)(v:Value)(ps:List (List UInt8)):Prop:=Sl w v ps.length 1 (ps.map strV)
def U64s(w:World)(v:Value)(ns:List Nat):Prop:=Sl w v ns.length 1 (ns.map fun n:Nat=>.int .u64 (n:Int))
theorem Strs.stays{w w':World}{v:Value}{ps:List (List UInt8)}(h:Strs w v ps)(hb:Below w.heap.size w w'):Strs w' v ps:=Sl.stays h hb
theorem U64s.stays{w w':World}{v:Value}{ns:List Nat}(h:U64s w v ns)(hb:Below w.heap.size w w'):U64s w' v ns:=Sl.stays h hb
theorem Strs.value{w:World}{v:Value}{ps:List (List UInt8)}(h:Strs w v ps):∃a cap,v=.slice a ps.length cap∧(0<ps.length→∃b off,a=some ⟨b,off,none⟩∧∀j (hj:j<ps.length),w.cell? ⟨b,off+j,none⟩=some (.string ⟨ps[j].toArray⟩)):=by
 obtain⟨_,a,cap,h2,h3⟩:=h
 refine⟨a,cap,h2,fun hn=>?_⟩
 obtain⟨b,off,h4,h5⟩:=h3 hn
 exact⟨b,off,h4,fun j hj=>h5 j _ (by simp[hj])⟩
theorem U64s.value{w:World}{v:Value}{ns:List Nat}(h:U64s w v ns):∃a cap,v=.slice a ns.length cap∧(0<ns.length→∃b off,a=some ⟨b,off,none⟩∧∀j (hj:j<ns.length),w.cell? ⟨b,off+j,none⟩=some (.int .u64 (ns[j]:Nat))):=by
 obtain⟨_,a,cap,h2,h3⟩:=h
 refine⟨a,cap,h2,fun hn=>?_⟩
 obtain⟨b,off,h4,h5⟩:=h3 hn
 exact⟨b,off,h4,fun j hj=>h5 j _ (by simp[hj])⟩
def Q(w w':World):Prop:=Below w.heap.size w w'
theorem Q.refl(w:World):Q w w:=Below.refl _ _
theorem Q.trans{a b c:World}(h1:Q a b)(h2:Q b c):Q a c:=Below.trans h1 (Below.mono h2 h1.size)
theorem Q.of{w w':World}(h:Below w.heap.size w w'):Q w w':=h
theorem Q.alloc(w:World)(o:Obj):Q w (w.alloc o):=(Below.refl _ _).alloc (Nat.le_refl _) _
theorem Q.drewN(w:World)(n:Nat):Q w (w.drewN n):=⟨rfl,rfl,rfl,Nat.le_refl _,fun _ _=>rfl⟩
theorem Q.drew(w:World):Q w w.drew:=⟨rfl,rfl,rfl,Nat.le_refl _,fun _ _=>rfl⟩
def Blk(w:World)(k:Nat)(t:TypeId)(cs:Array Value):Prop:=w.heap[k]?=some (.cells cs t (0,0))
theorem Blk.new(w:World)(t:TypeId)(cs:Array Value):Blk (w.alloc (.cells cs t)) w.heap.size t cs:=World.alloc_heap_new w _
theorem Blk.lt{w:World}{k:Nat}{t:TypeId}{cs:Array Value}(h:Blk w k t cs):k<w.heap.size:=(Array.getElem?_eq_some_iff.1 h).1
theorem Blk.stays{w w':World}{k:Nat}{t:TypeId}{cs:Array Value}(h:Blk w k t cs)(q:Q w w'):Blk w' k t cs:=(q.block k h.lt).trans h
theorem Blk.alloc{w:World}{k:Nat}{t:TypeId}{cs:Array Value}(h:Blk w k t cs)(o:Obj):Blk (w.alloc o) k t cs:=h.stays (Q.alloc _ _)
theorem Blk.cell{w:World}{k:Nat}{t:TypeId}{cs:Array Value}(h:Blk w k t cs)(i:Nat)(v:Value)(hv:cs[i]?=some v):w.cell? ⟨k,i,none⟩=some v:=by
 simp only[World.cell?,show w.heap[k]?=_ from h]
 exact hv
theorem Blk.frozen{w:World}{k:Nat}{t:TypeId}{cs:Array Value}(h:Blk w k t cs)(i:Nat):w.frozen? ⟨k,i,none⟩=false:=by
 simp[World.frozen?,show w.heap[k]?=_ from h]
theorem Blk.set{w:World}{k:Nat}{t:TypeId}{cs:Array Value}(h:Blk w k t cs)(i:Nat)(v:Value):Blk (w.setCell ⟨k,i,none⟩ v) k t (cs.setIfInBounds i v):=by
 obtain⟨hlt,hk⟩:=Array.getElem?_eq_some_iff.1 h
 show(w.heap.modify k _)[k]?=_
 rw[Array.getElem?_eq_getElem (by rw[Array.size_modify];exact hlt),Array.getElem_modify_self,hk]
 rfl
theorem Blk.other{w:World}{k:Nat}{t:TypeId}{cs:Array Value}(h:Blk w k t cs)(a:Addr)(v:Value)(hne:k≠a.block):Blk (w.setCell a v) k t cs:=(Below.heap_setCell w a v k hne).trans h
theorem Blk.c2{w:World}{k:Nat}{t:TypeId}{a b:Value}(h:Blk w k t #[a,b]):w.cell? ⟨k,0,none⟩=some a∧w.cell? ⟨k,1,none⟩=some b∧w.frozen? ⟨k,0,none⟩=false∧w.frozen? ⟨k,1,none⟩=false :=
 ⟨h.cell 0 _ rfl,h.cell 1 _ rfl,h.frozen 0,h.frozen 1⟩
theorem Blk.c3{w:World}{k:Nat}{t:TypeId}{a b c:Value}(h:Blk w k t #[a,b,c]):w.cell? ⟨k,0,none⟩=some a∧w.cell? ⟨k,1,none⟩=some b∧w.cell? ⟨k,2,none⟩=some c∧w.frozen? ⟨k,0,none⟩=false∧w.frozen? ⟨k,1,none⟩=false∧w.frozen? ⟨k,2,none⟩=false :=
 ⟨h.cell 0 _ rfl,h.cell 1 _ rfl,h.cell 2 _ rfl,h.frozen 0,h.frozen 1,h.frozen 2⟩
theorem Blk.c4{w:World}{k:Nat}{t:TypeId}{a b c d:Value}(h:Blk w k t #[a,b,c,d]):w.cell? ⟨k,0,none⟩=some a∧w.cell? ⟨k,1,none⟩=some b∧w.cell? ⟨k,2,none⟩=some c∧w.cell? ⟨k,3,none⟩=some d∧w.frozen? ⟨k,0,none⟩=false∧w.frozen? ⟨k,1,none⟩=false∧w.frozen? ⟨k,2,none⟩=false∧w.frozen? ⟨k,3,none⟩=false :=
 ⟨h.cell 0 _ rfl,h.cell 1 _ rfl,h.cell 2 _ rfl,h.cell 3 _ rfl,h.frozen 0,h.frozen 1,h.frozen 2,h.frozen 3⟩
theorem Blk.s2{w:World}{k:Nat}{t:TypeId}{a b:Value}(h:Blk w k t #[a,b]):(∀x,(w.setCell ⟨k,0,none⟩ x).cell? ⟨k,0,none⟩=some x)∧(∀x y,((w.setCell ⟨k,0,none⟩ x).setCell ⟨k,1,none⟩ y).cell? ⟨k,1,none⟩=some y) :=
 ⟨fun x=>(h.set 0 x).cell 0 x rfl,fun x y=>((h.set 0 x).set 1 y).cell 1 y rfl⟩
theorem Blk.s3{w:World}{k:Nat}{t:TypeId}{a b c:Value}(h:Blk w k t #[a,b,c]):(∀x,(w.setCell ⟨k,0,none⟩ x).cell? ⟨k,0,none⟩=some x)∧(∀x y,((w.setCell ⟨k,0,none⟩ x).setCell ⟨k,1,none⟩ y).cell? ⟨k,1,none⟩=some y) ∧
  (∀x y z,(((w.setCell ⟨k,0,none⟩ x).setCell ⟨k,1,none⟩ y).setCell ⟨k,2,none⟩ z).cell? ⟨k,2,none⟩=some z) :=
 ⟨fun x=>(h.set 0 x).cell 0 x rfl,fun x y=>((h.set 0 x).set 1 y).cell 1 y rfl,fun x y z=>(((h.set 0 x).set 1 y).set 2 z).cell 2 z rfl⟩
theorem Blk.s4{w:World}{k:Nat}{t:TypeId}{a b c d:Value}(h:Blk w k t #[a,b,c,d]):(∀x,(w.setCell ⟨k,0,none⟩ x).cell? ⟨k,0,none⟩=some x)∧(∀x y,((w.setCell ⟨k,0,none⟩ x).setCell ⟨k,1,none⟩ y).cell? ⟨k,1,none⟩=some y) ∧
  (∀x y z,(((w.setCell ⟨k,0,none⟩ x).setCell ⟨k,1,none⟩ y).setCell ⟨k,2,none⟩ z).cell? ⟨k,2,none⟩=some z)∧(∀x y z u,((((w.setCell ⟨k,0,none⟩ x).setCell ⟨k,1,none⟩ y).setCell ⟨k,2,none⟩ z).setCell ⟨k,3,none⟩ u).cell? ⟨k,3,none⟩=some u) :=
 ⟨fun x=>(h.set 0 x).cell 0 x rfl,fun x y=>((h.set 0 x).set 1 y).cell 1 y rfl,fun x y z=>(((h.set 0 x).set 1 y).set 2 z).cell 2 z rfl,fun x y z u=>((((h.set 0 x).set 1 y).set 2 z).set 3 u).cell 3 u rfl⟩
theorem Blk.r3{w:World}{k:Nat}{t:TypeId}{a b c:Value}(h:Blk w k t #[a,b,c])(x y z:Value):(((w.setCell ⟨k,0,none⟩ x).setCell ⟨k,1,none⟩ y).setCell ⟨k,2,none⟩ z).cell? ⟨k,0,none⟩=some x∧(((w.setCell ⟨k,0,none⟩ x).setCell ⟨k,1,none⟩ y).setCell ⟨k,2,none⟩ z).cell? ⟨k,1,none⟩=some y ∧
  (((w.setCell ⟨k,0,none⟩ x).setCell ⟨k,1,none⟩ y).setCell ⟨k,2,none⟩ z).cell? ⟨k,2,none⟩=some z∧Blk (((w.setCell ⟨k,0,none⟩ x).setCell ⟨k,1,none⟩ y).setCell ⟨k,2,none⟩ z) k t #[x,y,z] :=
 ⟨(((h.set 0 x).set 1 y).set 2 z).cell 0 x rfl,(((h.set 0 x).set 1 y).set 2 z).cell 1 y rfl,(((h.set 0 x).set 1 y).set 2 z).cell 2 z rfl,((h.set 0 x).set 1 y).set 2 z⟩
theorem Blk.r4{w:World}{k:Nat}{t:TypeId}{a b c d:Value}(h:Blk w k t #[a,b,c,d])(x y z u:Value):((((w.setCell ⟨k,0,none⟩ x).setCell ⟨k,1,none⟩ y).setCell ⟨k,2,none⟩ z).setCell ⟨k,3,none⟩ u).cell? ⟨k,0,none⟩=some x∧((((w.setCell ⟨k,0,none⟩ x).setCell ⟨k,1,none⟩ y).setCell ⟨k,2,none⟩ z).setCell ⟨k,3,none⟩ u).cell? ⟨k,1,none⟩=some y ∧
  ((((w.setCell ⟨k,0,none⟩ x).setCell ⟨k,1,none⟩ y).setCell ⟨k,2,none⟩ z).setCell ⟨k,3,none⟩ u).cell? ⟨k,2,none⟩=some z∧((((w.setCell ⟨k,0,none⟩ x).setCell ⟨k,1,none⟩ y).setCell ⟨k,2,none⟩ z).setCell ⟨k,3,none⟩ u).cell? ⟨k,3,none⟩=some u ∧
  Blk ((((w.setCell ⟨k,0,none⟩ x).setCell ⟨k,1,none⟩ y).setCell ⟨k,2,none⟩ z).setCell ⟨k,3,none⟩ u) k t #[x,y,z,u] :=
 ⟨((((h.set 0 x).set 1 y).set 2 z).set 3 u).cell 0 x rfl,((((h.set 0 x).set 1 y).set 2 z).set 3 u).cell 1 y rfl,((((h.set 0 x).set 1 y).set 2 z).set 3 u).cell 2 z rfl,((((h.set 0 x).set 1 y).set 2 z).set 3 u).cell 3 u rfl,(((h.set 0 x).set 1 y).set 2 z).set 3 u⟩
theorem Q.setCell{w w':World}(h:Q w w'){a:Addr}(ha:w.heap.size≤a.block)(v:Value):Q w (w'.setCell a v):=Below.setCell h ha v
theorem owns_low{w:World}{base base':Nat}{e:TypeId}{size:Nat}{v:Value}{n:Nat}{xs:List Value}(h:w.ownsRow base e size v n xs)(hb:base'≤base):w.ownsRow base' e size v n xs:=by
 obtain⟨h1,h2⟩:=h
 refine⟨h1,?_⟩
 rcases h2 with h2|⟨g,cap,cur,rfl,hb2,hg,rest⟩
 ·exact .inl h2
 ·exact .inr ⟨g,cap,cur,rfl,Nat.le_trans hb hb2,hg,rest⟩
theorem owns_kind{w:World}{base:Nat}{e:TypeId}{size:Nat}{v:Value}{n:Nat}{xs:List Value}(h:w.ownsRow base e size v n xs):∀g,v.ownBlock=some g→∃cs,w.heap[g]?=some (.cells cs e (0,0)):=by
 intro g hg
 rcases h.2 with ⟨rfl,_⟩|⟨g',cap,cur,rfl,_,hgg,_⟩
 ·simp[Value.ownBlock] at hg
 ·simp only[Value.ownBlock,Option.some.injEq] at hg
  subst hg
  exact⟨_,hgg⟩
theorem rows_apart{w:World}{base base':Nat}{e e':TypeId}{size size':Nat}{v v':Value}{n n':Nat}{xs xs':List Value}(h:w.ownsRow base e size v n xs)(h':w.ownsRow base' e' size' v' n' xs')(hne:e≠e'){g:Nat}(hg:v'.ownBlock=some g):v.ownBlock≠some g:=by
 intro hb
 obtain⟨cs,hc⟩:=owns_kind h g hb
 obtain⟨cs',hc'⟩:=owns_kind h' g hg
 rw[hc] at hc'
 injection hc' with hc'
 injection hc' with _ hc' _
 exact hne hc'
theorem row_beside{w w':World}{base base':Nat}{e e':TypeId}{size size':Nat}{v v':Value}{n n':Nat}{xs xs':List Value}(h:w.ownsRow base e size v n xs)(h':w.ownsRow base' e' size' v' n' xs')(hg:w.grownBy w' v'.ownBlock)(hne:e≠e'):w'.ownsRow base e size v n xs:=by
 refine h.kept hg ?_
 cases hv:v'.ownBlock with
 | none=>cases hb:v.ownBlock with
  | none=>exact .inl rfl
  | some g=>exact .inr (by simp)
 | some g=>exact .inr (rows_apart h h' hne hv)
theorem blk_beside{w w':World}{base:Nat}{e:TypeId}{size:Nat}{v:Value}{n:Nat}{xs:List Value}{k:Nat}{t:TypeId}{cs:Array Value}(h:Blk w k t cs)(h':w.ownsRow base e size v n xs)(hg:w.grownBy w' v.ownBlock)(hne:t≠e):Blk w' k t cs:=by
 refine(hg.block k h.lt (fun e'=>?_)).trans h
 obtain⟨cs,hc⟩:=owns_kind h' k e'.symm
 rw[show _=_ from h] at hc
 injection hc with h3
 injection h3 with _ h3 _
 exact hne h3
theorem add_off(b off j:Nat):(⟨b,off,none⟩:Addr).add j=⟨b,off+j,none⟩:=by unfold Addr.add;split<;>simp_all
structure Itk (own:Nat→Prop) (lo:Nat) (A B:World):Prop where
 os:B.os=A.os
 tape:B.tape=A.tape
 output:B.output=A.output
 size:A.heap.size≤B.heap.size
 low:∀k,k<lo→k<A.heap.size→¬own k→B.heap[k]?=A.heap[k]?
 cells:∀(k:Nat) (o:Obj),A.heap[k]?=some o→o.isCells=true→¬own k→B.heap[k]?=some o
theorem Itk.refl(own:Nat→Prop)(lo:Nat)(A:World):Itk own lo A A:=⟨rfl,rfl,rfl,Nat.le_refl _,fun _ _ _ _=>rfl,fun _ _ h _ _=>h⟩
theorem Itk.trans{own:Nat→Prop}{lo:Nat}{A B C:World}(h:Itk own lo A B)(k:Itk own lo B C):Itk own lo A C :=
 ⟨k.os.trans h.os,k.tape.trans h.tape,k.output.trans h.output,Nat.le_trans h.size k.size,fun i h1 h2 h3=>(k.low i h1 (Nat.lt_of_lt_of_le h2 h.size) h3).trans (h.low i h1 h2 h3),
  fun i o h1 h2 h3=>k.cells i o (h.cells i o h1 h2 h3) h2 h3⟩
theorem Itk.mono{own own':Nat→Prop}{lo lo':Nat}{A B:World}(h:Itk own lo A B)(ho:∀k,own k→own' k)(hl:lo'≤lo):Itk own' lo' A B :=
 ⟨h.os,h.tape,h.output,h.size,fun k h1 h2 h3=>h.low k (by omega) h2 (fun e=>h3 (ho k e)),fun k o h1 h2 h3=>h.cells k o h1 h2 (fun e=>h3 (ho k e))⟩
theorem lt_of_get{A:World}{k:Nat}{o:Obj}(h:A.heap[k]?=some o):k<A.heap.size:=(Array.getElem?_eq_some_iff.1 h).1
theorem Itk.of_q{own:Nat→Prop}{lo:Nat}{A B:World}(h:Q A B):Itk own lo A B :=
 ⟨h.os,h.tape,h.output,h.size,fun k _ h2 _=>h.block k h2,fun k o h1 _ _=>(h.block k (lt_of_get h1)).trans h1⟩
theorem Itk.put{own:Nat→Prop}{lo:Nat}{A:World}{l:Nat}{o:Obj}(o':Obj)(h:A.heap[l]?=some o)(hc:o.isCells=false)(hl:lo≤l):Itk own lo A (A.putObj l o') :=
 ⟨rfl,rfl,rfl,by simp,fun k h1 _ _=>World.putObj_heap_other (by omega),fun k o2 h1 h2 _=>(World.putObj_heap_other (fun e=>by subst e;rw[h] at h1;cases h1;rw[hc] at h2;cases h2)).trans h1⟩
theorem Itk.get{own:Nat→Prop}{lo:Nat}{A B:World}(h:Itk own lo A B){k:Nat}{cs:Array Value}{e:TypeId}{fz:Nat×Nat}(hk:A.heap[k]?=some (.cells cs e fz))(ho:¬own k):B.heap[k]?=some (.cells cs e fz):=h.cells k _ hk rfl ho
theorem Itk.cell{own:Nat→Prop}{lo:Nat}{A B:World}(h:Itk own lo A B){a:Addr}{v:Value}(hc:A.cell? a=some v)(ho:¬own a.block):B.cell? a=some v:=by
 obtain⟨o,h1,h2⟩:=cells_of_cell hc
 exact(World.cell?_of_block ((h.cells _ o h1 h2 ho).trans h1.symm)).trans hc
theorem Itk.boxed{own:Nat→Prop}{lo:Nat}{A B:World}(h:Itk own lo A B){b:Nat}{t:TypeId}{v:Value}(hb:Boxed A b t v)(ho:¬own b):Boxed B b t v:=h.get hb ho
theorem Itk.below{own:Nat→Prop}{lo n:Nat}{w A B:World}(h:Itk own lo A B)(hw:Below n w A)(hn:n≤lo)(hs:n≤A.heap.size)(ho:∀k,own k→n≤k):Below n w B :=
 hw.trans ⟨h.os,h.tape,h.output,h.size,fun k hk=>h.low k (by omega) (by omega) (fun e=>by have:=ho k e;omega)⟩
theorem Itk.owns{own:Nat→Prop}{lo:Nat}{A B:World}(h:Itk own lo A B){base:Nat}{e:TypeId}{size:Nat}{v:Value}{n:Nat}{xs:List Value}(hr:A.ownsRow base e size v n xs)(ho:∀g,v.ownBlock=some g→¬own g):B.ownsRow base e size v n xs:=by
 obtain⟨h1,h2⟩:=hr
 refine⟨h1,?_⟩
 rcases h2 with h2|⟨g,cap,cur,rfl,hb,hg,rest⟩
 ·exact .inl h2
 ·exact .inr ⟨g,cap,cur,rfl,hb,h.get hg (ho g rfl),rest⟩
structure Bk (own:Nat→Prop) (n₀:Nat) (A B:World):Prop where
 below:Below n₀ A B
 own:∀k,own k→k<A.heap.size→B.heap[k]?=A.heap[k]?
 walks:∀(k:Nat) (o:Obj),A.heap[k]?=some o→o.isWalk=true→B.heap[k]?=some o
theorem Bk.refl(own:Nat→Prop)(n₀:Nat)(A:World):Bk own n₀ A A:=⟨Below.refl _ _,fun _ _ _=>rfl,fun _ _ h _=>h⟩
theorem Bk.trans{own:Nat→Prop}{n₀:Nat}{A B C:World}(h:Bk own n₀ A B)(k:Bk own n₀ B C):Bk own n₀ A C :=
 ⟨h.below.trans k.below,fun i h1 h2=>(k.own i h1 (Nat.lt_of_lt_of_le h2 h.below.size)).trans (h.own i h1 h2),fun i o h1 h2=>k.walks i o (h.walks i o h1 h2) h2⟩
theorem Bk.of_q{own:Nat→Prop}{n₀:Nat}{A B:World}(h:Q A B)(hn:n₀≤A.heap.size):Bk own n₀ A B :=
 ⟨Below.mono h hn,fun k _ h2=>h.block k h2,fun k o h1 _=>(h.block k (lt_of_get h1)).trans h1⟩
theorem Bk.mono{own own':Nat→Prop}{n₀ n₁:Nat}{A B:World}(h:Bk own n₀ A B)(ho:∀k,own' k→own k)(hn:n₁≤n₀):Bk own' n₁ A B :=
 ⟨h.below.mono hn,fun k h1 h2=>h.own k (ho k h1) h2,h.walks⟩
theorem Bk.put{own:Nat→Prop}{n₀:Nat}{A:World}{l:Nat}{o:Obj}(o':Obj)(h:A.heap[l]?=some o)(hc:o.isWalk=false)(hl:n₀≤l)(ho:¬own l):Bk own n₀ A (A.putObj l o') :=
 ⟨⟨rfl,rfl,rfl,by simp,fun k hk=>World.putObj_heap_other (by omega)⟩,fun k h1 _=>World.putObj_heap_other (fun e=>ho (by rw[←e];exact h1)),
  fun k o2 h1 h2=>(World.putObj_heap_other (fun e=>by subst e;rw[h] at h1;cases h1;rw[hc] at h2;cases h2)).trans h1⟩
theorem Bk.setCell{own:Nat→Prop}{n₀:Nat}(A:World){p:Addr}(hl:n₀≤p.block)(ho:¬own p.block)(v:Value):Bk own n₀ A (A.setCell p v) :=
 ⟨(Below.refl _ _).setCell hl v,fun k h1 _=>Below.heap_setCell _ _ _ _ (fun e=>ho (by rw[←e];exact h1)),(KeepsWalks.setCell A p v).same⟩
theorem Bk.grown{own:Nat→Prop}{n₀:Nat}{A B:World}{row:Option Nat}(hg:A.grownBy B row)(hn:n₀≤A.heap.size)(hr:∀k,row=some k→n₀≤k∧¬own k∧∃cs e fz,A.heap[k]?=some (.cells cs e fz)):Bk own n₀ A B :=
 ⟨(Below.refl _ _).grown hg hn (fun k hk=>(hr k hk).1),fun k h1 h2=>hg.block k h2 (fun e=>(hr k e.symm).2.1 h1),
  fun k o h1 h2=>(hg.block k (lt_of_get h1) (fun e=>by obtain⟨_,_,cs,e2,fz,h3⟩:=hr k e.symm;rw[h3] at h1;cases h1;cases h2)).trans h1⟩
def YieldW(P:Program)(l:Nat)(args:Array Value)(W:World)(R:Ending→World→Prop):Prop :=
 ∃fn tmps assign body,(Instr.yield l args).run P W=.ok (.round l fn tmps assign body) W∧∀m,RoundIn Fence.wide m P l fn tmps assign body W R
theorem YieldW.mono{P:Program}{l:Nat}{args:Array Value}{W:World}{R R':Ending→World→Prop}(h:YieldW P l args W R)(hr:∀e w,R e w→R' e w):YieldW P l args W R':=by
 obtain⟨fn,tmps,assign,body,hy,hR⟩:=h
 exact⟨fn,tmps,assign,body,hy,fun m=>(hR m).mono hr⟩
theorem round_any{n m:Nat}{P:Program}{l:Nat}{fn:FuncId}{tmps:Array Value}{assign body:Code}{W:World}{R:Ending→World→Prop}(h:RoundIn Fence.wide n P l fn tmps assign body W R):RoundIn Fence.wide m P l fn tmps assign body W R :=
 ⟨h.1,fun c cs _=>h.2 c cs (room_wide _)⟩
structure Turn (own:Nat→Prop) (A B:World):Prop where
 os:B.os=A.os
 tape:B.tape=A.tape
 output:B.output=A.output
 size:A.heap.size≤B.heap.size
 block:∀k,k<A.heap.size→¬own k→B.heap[k]?=A.heap[k]?
theorem Turn.refl(own:Nat→Prop)(A:World):Turn own A A:=⟨rfl,rfl,rfl,Nat.le_refl _,fun _ _ _=>rfl⟩
theorem Turn.trans{own:Nat→Prop}{A B C:World}(h:Turn own A B)(k:Turn own B C):Turn own A C :=
 ⟨k.os.trans h.os,k.tape.trans h.tape,k.output.trans h.output,Nat.le_trans h.size k.size,fun i h1 h2=>(k.block i (Nat.lt_of_lt_of_le h1 h.size) h2).trans (h.block i h1 h2)⟩
theorem Turn.of_q{own:Nat→Prop}{A B:World}(h:Q A B):Turn own A B:=⟨h.os,h.tape,h.output,h.size,fun k h1 _=>h.block k h1⟩
theorem Turn.mono{own own':Nat→Prop}{A B:World}(h:Turn own A B)(ho:∀k,own k→own' k):Turn own' A B:=⟨h.os,h.tape,h.output,h.size,fun k h1 h2=>h.block k h1 (fun e=>h2 (ho k e))⟩
theorem Turn.setCell{own:Nat→Prop}{A B:World}(h:Turn own A B){a:Addr}(ha:own a.block∨A.heap.size≤a.block)(v:Value):Turn own A (B.setCell a v) :=
 ⟨h.os,h.tape,h.output,Nat.le_trans h.size (KeepsWalks.setCell B a v).size,fun k h1 h2=>(Below.heap_setCell _ _ _ _ (fun e=>by
  rcases ha with ha|ha
  ·exact h2 (by rw[e];exact ha)
  ·omega)).trans (h.block k h1 h2)⟩
theorem Turn.below{own:Nat→Prop}{A B:World}{n:Nat}{w:World}(h:Turn own A B)(hw:Below n w A)(hn:n≤A.heap.size)(ho:∀k,own k→n≤k):Below n w B :=
 hw.trans ⟨h.os,h.tape,h.output,h.size,fun k hk=>h.block k (by omega) (fun e=>by have:=ho k e;omega)⟩
theorem Turn.itk{own:Nat→Prop}{lo:Nat}{A B:World}(h:Turn own A B):Itk own lo A B :=
 ⟨h.os,h.tape,h.output,h.size,fun k _ h2 h3=>h.block k h2 h3,fun k o h1 _ h3=>(h.block k (lt_of_get h1) h3).trans h1⟩
theorem Turn.blk{own:Nat→Prop}{A B:World}(h:Turn own A B){k:Nat}{t:TypeId}{cs:Array Value}(hb:Blk A k t cs)(ho:¬own k):Blk B k t cs:=(h.block k hb.lt ho).trans hb
theorem Turn.get{own:Nat→Prop}{A B:World}(h:Turn own A B){k:Nat}{o:Obj}(hb:A.heap[k]?=some o)(ho:¬own k):B.heap[k]?=some o:=(h.block k (lt_of_get hb) ho).trans hb
theorem Turn.owns{own:Nat→Prop}{A B:World}(h:Turn own A B){base:Nat}{e:TypeId}{size:Nat}{v:Value}{n:Nat}{xs:List Value}(hr:A.ownsRow base e size v n xs)(ho:∀g,v.ownBlock=some g→¬own g):B.ownsRow base e size v n xs:=(h.itk (lo:=0)).owns hr ho
theorem owns_not_blk{A:World}{base:Nat}{e:TypeId}{size:Nat}{v:Value}{n:Nat}{xs:List Value}(hr:A.ownsRow base e size v n xs){k:Nat}{t:TypeId}{cs:Array Value}(hb:Blk A k t cs)(hne:t≠e):∀g,v.ownBlock=some g→g≠k:=by
 intro g hg e'
 obtain⟨cs',hc⟩:=owns_kind hr g hg
 rw[e',show _=_ from hb] at hc
 injection hc with h3
 injection h3 with _ h3 _
 exact hne h3
theorem Turn.grown{own:Nat→Prop}{A B C:World}(h:Turn own A B){v:Value}{base:Nat}{e:TypeId}{size n:Nat}{xs:List Value}(hr:B.ownsRow base e size v n xs)(hg:B.grownBy C v.ownBlock)(hb:A.heap.size≤base):Turn own A C :=
 ⟨hg.os.trans h.os,hg.tape.trans h.tape,hg.output.trans h.output,Nat.le_trans h.size hg.size,fun k h1 h2=>(hg.block k (Nat.lt_of_lt_of_le h1 h.size) (fun e'=>by have:=(hr.lt k e'.symm).1;omega)).trans (h.block k h1 h2)⟩
end
section
abbrev Bytes:=List UInt8
def varF:Nat→Nat→Bytes
 | 0,_=>[]
 | n+1,v=>if v<128 then [UInt8.ofNat v] else UInt8.ofNat (v%128+128)::varF n (v / 128)
def varE(v:Nat):Bytes:=varF 10 v
theorem toNat_ofNat(n:Nat)(h:n<256):(UInt8.ofNat n).toNat=n:=by
 rw[UInt8.toNat_ofNat'];omega
theorem varF_inj(n u v:Nat)(hu:u<128 ^ n)(hv:v<128 ^ n)(r s:Bytes)(h:varF n u++r=varF n v++s):u=v∧r=s:=by
 induction n generalizing u v with
 | zero=>simp at hu hv;subst hu;subst hv;simpa[varF] using h
 | succ n ih =>
  rw[varF,varF] at h
  rw[Nat.pow_succ] at hu hv
  by_cases h1:u<128<;>by_cases h2:v<128
  ·rw[if_pos h1,if_pos h2] at h
   simp only[List.cons_append,List.nil_append,List.cons.injEq] at h
   have:=congrArg UInt8.toNat h.1
   rw[toNat_ofNat _ (by omega),toNat_ofNat _ (by omega)] at this
   exact⟨this,h.2⟩
  ·rw[if_pos h1,if_neg h2] at h
   simp only[List.cons_append,List.nil_append,List.cons.injEq] at h
   have:=congrArg UInt8.toNat h.1
   rw[toNat_ofNat _ (by omega),toNat_ofNat _ (by omega)] at this
   omega
  ·rw[if_neg h1,if_pos h2] at h
   simp only[List.cons_append,List.nil_append,List.cons.injEq] at h
   have:=congrArg UInt8.toNat h.1
   rw[toNat_ofNat _ (by omega),toNat_ofNat _ (by omega)] at this
   omega
  ·rw[if_neg h1,if_neg h2] at h
   simp only[List.cons_append,List.nil_append,List.cons.injEq] at h
   have:=congrArg UInt8.toNat h.1
   rw[toNat_ofNat _ (by omega),toNat_ofNat _ (by omega)] at this
   obtain⟨e,e2⟩:=ih (u / 128) (v / 128) (by rw[Nat.div_lt_iff_lt_mul (by omega)];omega) (by rw[Nat.div_lt_iff_lt_mul (by omega)];omega) h.2
   exact⟨by omega,e2⟩
theorem lt64(v:Nat)(h:v<18446744073709551616):v<128 ^ 10:=by
 have:(18446744073709551616:Nat)≤128 ^ 10:=by decide
 omega
theorem varE_inj(u v:Nat)(hu:u<18446744073709551616)(hv:v<18446744073709551616)(r s:Bytes)(h:varE u++r=varE v++s):u=v∧r=s :=
 varF_inj 10 u v (lt64 u hu) (lt64 v hv) r s h
def IsVar(s:Bytes)(v:Nat)(rest:Bytes):Prop:=v<18446744073709551616∧s=varE v++rest
theorem IsVar.one{s:Bytes}{u v:Nat}{r t:Bytes}(h:IsVar s u r)(k:IsVar s v t):u=v∧r=t :=
 varE_inj u v h.1 k.1 r t (h.2.symm.trans k.2)
def textE(s:Bytes):Bytes:=varE s.length++s
def IsText(s t rest:Bytes):Prop:=t.length<18446744073709551616∧s=textE t++rest
theorem IsText.one{s t u r v:Bytes}(h:IsText s t r)(k:IsText s u v):t=u∧r=v:=by
 have e:=h.2.symm.trans k.2
 unfold textE at e
 rw[List.append_assoc,List.append_assoc] at e
 obtain⟨e1,e2⟩:=varE_inj _ _ h.1 k.1 _ _ e
 exact List.append_inj e2 e1
def crcTurn(c:Nat):Nat:=if c%2=1 then(c / 2) ^^^ 3988292384 else c / 2
def crcTurns:Nat→Nat→Nat
 | 0,c=>c
 | k+1,c=>crcTurn (crcTurns k c)
def crcByte(c:Nat)(b:UInt8):Nat:=crcTurns 8 (c ^^^ b.toNat)
def crcRaw(s:Bytes):Nat:=s.foldl crcByte 4294967295
def crcL(s:Bytes):Nat:=crcRaw s ^^^ 4294967295
def fixedL(v:Nat):Bytes:=[UInt8.ofNat (v%256),UInt8.ofNat (v / 256%256),UInt8.ofNat (v / 65536%256),UInt8.ofNat (v / 16777216%256)]
theorem crcTurn_lt(c:Nat)(h:c<4294967296):crcTurn c<4294967296:=by
 unfold crcTurn
 split
 ·exact Nat.xor_lt_two_pow (n:=32) (by omega) (by decide)
 ·omega
theorem crcTurns_lt(k c:Nat)(h:c<4294967296):crcTurns k c<4294967296:=by
 induction k with
 | zero=>exact h
 | succ k ih=>exact crcTurn_lt _ ih
theorem crcByte_lt(c:Nat)(b:UInt8)(h:c<4294967296):crcByte c b<4294967296 :=
 crcTurns_lt 8 _ (Nat.xor_lt_two_pow (n:=32) h (Nat.lt_trans (UInt8.toNat_lt b) (by decide)))
theorem crcFold_lt(s:Bytes)(c:Nat)(h:c<4294967296):s.foldl crcByte c<4294967296:=by
 induction s generalizing c with
 | nil=>exact h
 | cons b s ih=>exact ih _ (crcByte_lt c b h)
theorem crcRaw_lt(s:Bytes):crcRaw s<4294967296:=crcFold_lt s _ (by decide)
theorem crcL_lt(s:Bytes):crcL s<4294967296:=Nat.xor_lt_two_pow (n:=32) (crcRaw_lt s) (by decide)
theorem crcRaw_snoc(s:Bytes)(b:UInt8):crcRaw (s++[b])=crcByte (crcRaw s) b:=by simp[crcRaw]
theorem length_fixedL(v:Nat):(fixedL v).length=4:=rfl
theorem crc_take(a p:Bytes)(j:Nat)(h:j<p.length):crcRaw (a++p.take (j+1))=crcTurns 8 (crcRaw (a++p.take j) ^^^ p[j].toNat):=by
 rw[List.take_succ_eq_append_getElem h,←List.append_assoc,crcRaw_snoc];rfl
theorem flat_take(ps:List Bytes)(k:Nat)(h:k<ps.length):(ps.take (k+1)).flatten=(ps.take k).flatten++ps[k]:=by
 rw[List.take_succ_eq_append_getElem h,List.flatten_append];simp
abbrev WrL:=Nat×Bytes
structure DevL where
 l:List Bytes
 p:List WrL
 fuse:Int
 dead:Bool
def lastP:List WrL→Nat→Bytes→Bytes
 | [],_,s=>s
 | w::p,i,s=>lastP p i (if w.1=i then w.2 else s)
def layP(l:List Bytes)(p:List WrL):List Bytes:=p.foldl (fun l w=>l.set w.1 w.2) l
def noughtsL:Bytes:=List.replicate 256 0
theorem lastP_append(p q:List WrL)(i:Nat)(s:Bytes):lastP (p++q) i s=lastP q i (lastP p i s):=by
 induction p generalizing s with
 | nil=>rfl
 | cons w p ih=>simp only[List.cons_append,lastP];exact ih _
theorem lastP_snoc(p:List WrL)(w:WrL)(i:Nat)(s:Bytes):lastP (p++[w]) i s=if w.1=i then w.2 else lastP p i s:=by
 rw[lastP_append];rfl
theorem lastP_none(p:List WrL)(i:Nat)(s:Bytes)(h:∀w∈p,w.1≠i):lastP p i s=s:=by
 induction p generalizing s with
 | nil=>rfl
 | cons w p ih =>
  rw[lastP,if_neg (h w (List.mem_cons_self ..))]
  exact ih s (fun x hx=>h x (List.mem_cons_of_mem _ hx))
theorem lastP_some(p:List WrL)(i:Nat)(s t:Bytes)(h:∃w∈p,w.1=i):lastP p i s=lastP p i t:=by
 induction p generalizing s t with
 | nil=>obtain⟨w,hw,_⟩:=h;simp at hw
 | cons w p ih =>
  simp only[lastP]
  by_cases hw:w.1=i
  ·rw[if_pos hw,if_pos hw]
  ·rw[if_neg hw,if_neg hw]
   obtain⟨x,hx,hxi⟩:=h
   rcases List.mem_cons.1 hx with rfl|hx
   ·exact absurd hxi hw
   ·exact ih s t ⟨x,hx,hxi⟩
theorem lastP_mem(p:List WrL)(i:Nat)(s:Bytes)(h:∃w∈p,w.1=i):∃w∈p,w.1=i∧lastP p i s=w.2:=by
 induction p generalizing s with
 | nil=>obtain⟨w,hw,_⟩:=h;simp at hw
 | cons w p ih =>
  simp only[lastP]
  by_cases hp:∃x∈p,x.1=i
  ·obtain⟨x,hx,h1,h2⟩:=ih (if w.1=i then w.2 else s) hp
   exact⟨x,List.mem_cons_of_mem _ hx,h1,h2⟩
  ·have hn:∀x∈p,x.1≠i:=fun x hx e=>hp ⟨x,hx,e⟩
   rw[lastP_none p i _ hn]
   obtain⟨x,hx,hxi⟩:=h
   rcases List.mem_cons.1 hx with rfl|hx
   ·exact⟨x,List.mem_cons_self ..,hxi,by rw[if_pos hxi]⟩
   ·exact absurd hxi (hn x hx)
theorem layP_length(l:List Bytes)(p:List WrL):(layP l p).length=l.length:=by
 unfold layP
 induction p generalizing l with
 | nil=>rfl
 | cons w p ih=>rw[List.foldl_cons,ih,List.length_set]
theorem layP_get(l:List Bytes)(p:List WrL)(i:Nat)(h:i<l.length):(layP l p).getD i []=lastP p i (l.getD i []):=by
 unfold layP
 induction p generalizing l with
 | nil=>rfl
 | cons w p ih =>
  rw[List.foldl_cons,ih (l.set w.1 w.2) (by rw[List.length_set];exact h),lastP]
  congr 1
  by_cases hw:w.1=i
  ·rw[if_pos hw,hw];simp[h]
  ·rw[if_neg hw];simp[List.getElem?_set_ne hw]
theorem layP_append(l:List Bytes)(p q:List WrL):layP l (p++q)=layP (layP l p) q:=by simp[layP]
theorem layP_all(l:List Bytes)(p:List WrL)(hl:∀s∈l,s.length=256)(hp:∀w∈p,w.2.length=256):∀s∈layP l p,s.length=256:=by
 unfold layP
 induction p generalizing l with
 | nil=>exact hl
 | cons w p ih =>
  rw[List.foldl_cons]
  refine ih _ (fun s hs=>?_) (fun x hx=>hp x (List.mem_cons_of_mem _ hx))
  rcases List.mem_or_eq_of_mem_set hs with hs|rfl
  ·exact hl s hs
  ·exact hp w (List.mem_cons_self ..)
namespace DevL
structure Ok (d:DevL):Prop where
 pos:0<d.l.length
 max:d.l.length≤4096
 l:∀s∈d.l,s.length=256
 p:∀w∈d.p,w.1<d.l.length∧w.2.length=256
 fuse : -1≤d.fuse
 fuse2:d.fuse≤9223372036854775807
def chk(d:DevL)(i:Int):Int:=if d.dead then 4 else if 0≤i∧i<d.l.length then 0 else 2
def get(d:DevL)(i:Nat):Bytes:=lastP d.p i (d.l.getD i [])
def read(d:DevL)(i:Int):Bytes×Int:=if d.chk i=0 then(d.get i.toNat,0) else([],d.chk i)
def turn(d:DevL):DevL:=if d.fuse=0 then { d with dead:=true } else { d with fuse:=max (d.fuse-1) (-1) }
def write(d:DevL)(i:Int)(s:Bytes):DevL×Int :=
 if d.chk i≠0 then(d,d.chk i) else if s.length≠256 then(d,3) else if d.fuse=0 then(d.turn,4) else({ d.turn with p:=d.p++[(i.toNat,s)] },0)
def flush(d:DevL):DevL×Int :=
 if d.dead then(d,4) else if d.fuse=0 then(d.turn,4) else({ d.turn with l:=layP d.l d.p,p:=[] },0)
def setFuse(d:DevL)(n:Int):DevL:={ d with fuse:=max n (-1) }
def crash1(keep:List Bool)(torn:Int)(cut:Nat)(k:Nat)(l:List Bytes)(w:WrL):List Bytes :=
 if keep.getD k false then l.set w.1 w.2 else if (k:Int)=torn then l.set w.1 (w.2.take cut++(l.getD w.1 []).drop cut) else l
def crashL(keep:List Bool)(torn:Int)(cut:Nat):Nat→List Bytes→List WrL→List Bytes
 | _,l,[]=>l
 | k,l,w::p=>crashL keep torn cut (k+1) (crash1 keep torn cut k l w) p
def cutN(cut:Int):Nat:=(min (max cut 0) 256).toNat
def crash(d:DevL)(keep:List Bool)(torn cut:Int):DevL:=⟨crashL keep torn (cutN cut) 0 d.l d.p,[],-1,false⟩
def writes(d:DevL):List WrL→DevL×Int
 | []=>(d,0)
 | w::l=>if (d.write w.1 w.2).2=0 then(d.write w.1 w.2).1.writes l else d.write w.1 w.2
def new(n:Nat):DevL:=⟨List.replicate n noughtsL,[],-1,false⟩
theorem new_ok(n:Nat)(h0:0<n)(h1:n≤4096):(new n).Ok :=
 ⟨by simpa[new] using h0,by simpa[new] using h1,fun s hs=>by rw[List.eq_of_mem_replicate hs];exact List.length_replicate,fun w hw=>by simp[new] at hw,by simp[new],by simp[new]⟩
theorem turn_l(d:DevL):d.turn.l=d.l∧d.turn.p=d.p:=by unfold turn;split<;>exact⟨rfl,rfl⟩
theorem turn_ok{d:DevL}(h:d.Ok):d.turn.Ok:=by
 have hf:=h.fuse;have hf2:=h.fuse2
 refine⟨by rw[(turn_l d).1];exact h.pos,by rw[(turn_l d).1];exact h.max,by rw[(turn_l d).1];exact h.l,by rw[(turn_l d).1,(turn_l d).2];exact h.p,?_,?_⟩<;>unfold turn<;>split
 ·exact hf
 ·simp only;omega
 ·exact hf2
 ·simp only;omega
theorem write_ok{d:DevL}(h:d.Ok)(i:Int)(s:Bytes):(d.write i s).1.Ok:=by
 unfold write
 split
 ·exact h
 ·rename_i hc
  split
  ·exact h
  ·rename_i hs
   split
   ·exact turn_ok h
   ·have ht:=turn_ok h
    have hi:0≤i∧i<d.l.length:=by
     unfold chk at hc
     cases hd:d.dead<;>simp[hd] at hc
     exact hc
    refine⟨ht.pos,ht.max,ht.l,fun w hw=>?_,ht.fuse,ht.fuse2⟩
    rcases List.mem_append.1 hw with hw|hw
    ·have:=ht.p w (by rw[(turn_l d).2];exact hw)
     exact this
    ·rw[List.mem_singleton] at hw
     subst hw
     refine⟨?_,by simpa using hs⟩
     show i.toNat<d.turn.l.length
     rw[(turn_l d).1];omega
theorem flush_ok{d:DevL}(h:d.Ok):d.flush.1.Ok:=by
 unfold flush
 split
 ·exact h
 ·split
  ·exact turn_ok h
  ·refine⟨?_,?_,?_,fun w hw=>by simp at hw,(turn_ok h).fuse,(turn_ok h).fuse2⟩
   ·show 0<(layP d.l d.p).length
    rw[layP_length];exact h.pos
   ·show(layP d.l d.p).length≤4096
    rw[layP_length];exact h.max
   ·exact layP_all _ _ h.l (fun w hw=>(h.p w hw).2)
theorem crash1_length(keep:List Bool)(torn:Int)(cut k:Nat)(l:List Bytes)(w:WrL):(crash1 keep torn cut k l w).length=l.length:=by
 unfold crash1;split
 ·simp
 ·split<;>simp
theorem crashL_length(keep:List Bool)(torn:Int)(cut:Nat)(p:List WrL):∀(k:Nat) (l:List Bytes),(crashL keep torn cut k l p).length=l.length:=by
 induction p with
 | nil=>intro k l;rfl
 | cons w p ih=>intro k l;rw[crashL,ih,crash1_length]
theorem getD_mem_length{l:List Bytes}{i n:Nat}(h:∀s∈l,s.length=n)(hi:i<l.length):(l.getD i []).length=n:=by
 rw[List.getD_eq_getElem?_getD,List.getElem?_eq_getElem hi];exact h _ (List.getElem_mem hi)
theorem crash1_all(keep:List Bool)(torn:Int)(cut k:Nat)(l:List Bytes)(w:WrL)(hc:cut≤256)(hl:∀s∈l,s.length=256)(hw:w.1<l.length)(hs:w.2.length=256):∀s∈crash1 keep torn cut k l w,s.length=256:=by
 intro s h
 unfold crash1 at h
 split at h
 ·rcases List.mem_or_eq_of_mem_set h with h|rfl
  ·exact hl s h
  ·exact hs
 ·split at h
  ·rcases List.mem_or_eq_of_mem_set h with h|rfl
   ·exact hl s h
   ·have:=getD_mem_length hl hw
    simp only[List.length_append,List.length_take,List.length_drop,hs,this];omega
  ·exact hl s h
theorem crashL_all(keep:List Bool)(torn:Int)(cut:Nat)(hc:cut≤256)(p:List WrL):∀(k:Nat) (l:List Bytes),(∀s∈l,s.length=256)→(∀w∈p,w.1<l.length∧w.2.length=256)→∀s∈crashL keep torn cut k l p,s.length=256:=by
 induction p with
 | nil=>intro k l hl _;exact hl
 | cons w p ih =>
  intro k l hl hp
  rw[crashL]
  exact ih _ _ (crash1_all keep torn cut k l w hc hl (hp w (List.mem_cons_self ..)).1 (hp w (List.mem_cons_self ..)).2) (fun x hx=>by rw[crash1_length];exact hp x (List.mem_cons_of_mem _ hx))
theorem cutN_le(cut:Int):cutN cut≤256:=by unfold cutN;omega
theorem crash_ok{d:DevL}(h:d.Ok)(keep:List Bool)(torn cut:Int):(d.crash keep torn cut).Ok:=by
 refine⟨?_,?_,?_,fun w hw=>by simp[crash] at hw,by simp[crash],by simp[crash]⟩
 ·simp only[crash,crashL_length];exact h.pos
 ·simp only[crash,crashL_length];exact h.max
 ·exact crashL_all keep torn _ (cutN_le cut) d.p 0 d.l h.l h.p
theorem writes_ok{d:DevL}(h:d.Ok)(l:List WrL):(d.writes l).1.Ok:=by
 induction l generalizing d with
 | nil=>exact h
 | cons w l ih =>
  rw[writes]
  split
  ·exact ih (write_ok h _ _)
  ·exact write_ok h _ _
theorem write_len(d:DevL)(i:Int)(s:Bytes):(d.write i s).1.l.length=d.l.length:=by
 unfold write
 split
 ·rfl
 ·split
  ·rfl
  ·split
   ·rw[(turn_l d).1]
   ·show d.turn.l.length=_
    rw[(turn_l d).1]
theorem flush_len(d:DevL):d.flush.1.l.length=d.l.length:=by
 unfold flush
 split
 ·rfl
 ·split
  ·rw[(turn_l d).1]
  ·exact layP_length _ _
theorem writes_len(d:DevL)(l:List WrL):(d.writes l).1.l.length=d.l.length:=by
 induction l generalizing d with
 | nil=>rfl
 | cons w l ih =>
  rw[writes]
  split
  ·rw[ih,write_len]
  ·exact write_len _ _ _
theorem get_len{d:DevL}(h:d.Ok)(i:Nat)(hi:i<d.l.length):(d.get i).length=256:=by
 unfold get
 by_cases hp:∃w∈d.p,w.1=i
 ·obtain⟨w,hw,_,e⟩:=lastP_mem d.p i (d.l.getD i []) hp
  rw[e];exact(h.p w hw).2
 ·rw[lastP_none _ _ _ (fun w hw e=>hp ⟨w,hw,e⟩)]
  exact getD_mem_length h.l hi
end DevL
end
section
open Go.RowKit
def grow(F:Nat→Prop)(A B:World):Nat→Prop:=fun k=>F k∨(A.heap.size≤k∧k<B.heap.size)
theorem grow_left{F:Nat→Prop}{A B:World}{k:Nat}(h:F k):grow F A B k:=.inl h
theorem grow_trans{F:Nat→Prop}{A B C:World}(h1:A.heap.size≤B.heap.size)(h2:B.heap.size≤C.heap.size){k:Nat}(h:grow (grow F A B) B C k):grow F A C k:=by
 rcases h with (h|h)|h
 ·exact .inl h
 ·exact .inr ⟨h.1,by omega⟩
 ·exact .inr ⟨by omega,h.2⟩
theorem Turn.step{F:Nat→Prop}{A B C:World}(h:Turn F A B)(k:Turn (grow F A B) B C):Turn F A C :=
 ⟨k.os.trans h.os,k.tape.trans h.tape,k.output.trans h.output,Nat.le_trans h.size k.size,fun i h1 h2=>(k.block i (Nat.lt_of_lt_of_le h1 h.size) (fun hg=>hg.elim h2 (fun hg=>by omega))).trans (h.block i h1 h2)⟩
def encW(w:WrL):List Value:=[.int .i64 (w.1:Nat),strV w.2]
def wrVs(l:List WrL):List Value:=l.flatMap encW
theorem wrVs_cons(w:WrL)(l:List WrL):wrVs (w::l)=encW w++wrVs l:=by simp[wrVs]
theorem wrVs_append(a b:List WrL):wrVs (a++b)=wrVs a++wrVs b:=by simp[wrVs]
theorem wrVs_at(l:List WrL)(j:Nat)(h:j<l.length):(wrVs l)[j*2]?=some (.int .i64 (l[j].1:Nat))∧(wrVs l)[j*2+1]?=some (strV l[j].2):=by
 induction l generalizing j with
 | nil=>simp at h
 | cons w l ih =>
  cases j with
  | zero=>simp[wrVs_cons,encW]
  | succ j =>
   have:=ih j (by simpa using h)
   rw[wrVs_cons]
   have e:encW w=[.int .i64 (w.1:Nat),strV w.2]:=rfl
   rw[e,show(j+1)*2=j*2+1+1 by omega,show j*2+1+1+1=(j*2+1)+1+1 by omega]
   simp only[List.cons_append,List.nil_append,List.getElem?_cons_succ,List.getElem_cons_succ]
   exact this
def strCs(l:List Bytes):Array Value:=(l.map strV).toArray
theorem strCs_at(l:List Bytes)(i:Nat)(h:i<l.length):(strCs l)[i]?=some (strV l[i]):=by simp[strCs,h]
theorem strCs_set(l:List Bytes)(i:Nat)(s:Bytes):(strCs l).setIfInBounds i (strV s)=strCs (l.set i s):=by
 simp[strCs,List.map_set]
structure DevG (w:World) (F:Nat→Prop) (b g:Nat) (cap:Nat) (pv:Value) (d:DevL):Prop where
 box:Blk w b 80 #[.slice (some ⟨g,0,none⟩) d.l.length cap,pv,.int .i64 d.fuse,.bool d.dead]
 fb:F b
 disk:Blk w g 9 (strCs d.l)
 fg:F g
 row:w.ownsRow 0 102 2 pv d.p.length (wrVs d.p)
 fp:∀k,pv.ownBlock=some k→F k
def DevAt(w:World)(F:Nat→Prop)(b:Nat)(d:DevL):Prop:=∃g cap pv,DevG w F b g cap pv d
theorem DevG.mono{w:World}{F G:Nat→Prop}{b g cap:Nat}{pv:Value}{d:DevL}(h:DevG w F b g cap pv d)(k:∀i,F i→G i):DevG w G b g cap pv d :=
 ⟨h.box,k _ h.fb,h.disk,k _ h.fg,h.row,fun i e=>k _ (h.fp i e)⟩
theorem DevAt.mono{w:World}{F G:Nat→Prop}{b:Nat}{d:DevL}(h:DevAt w F b d)(k:∀i,F i→G i):DevAt w G b d:=by
 obtain⟨g,cap,pv,h⟩:=h
 exact⟨g,cap,pv,h.mono k⟩
theorem DevG.beside{w w':World}{F G:Nat→Prop}{b g cap:Nat}{pv:Value}{d:DevL}(h:DevG w F b g cap pv d)(t:Turn G w w')(hd:∀k,F k→¬G k):DevG w' F b g cap pv d :=
 ⟨t.blk h.box (hd _ h.fb),h.fb,t.blk h.disk (hd _ h.fg),h.fg,t.owns h.row (fun k e=>hd _ (h.fp k e)),h.fp⟩
theorem DevAt.beside{w w':World}{F G:Nat→Prop}{b:Nat}{d:DevL}(h:DevAt w F b d)(t:Turn G w w')(hd:∀k,F k→¬G k):DevAt w' F b d:=by
 obtain⟨g,cap,pv,h⟩:=h
 exact⟨g,cap,pv,h.beside t hd⟩
theorem DevG.keep{w w':World}{F:Nat→Prop}{b g cap:Nat}{pv:Value}{d:DevL}(h:DevG w F b g cap pv d)(q:Q w w'):DevG w' F b g cap pv d :=
 h.beside (Turn.of_q (own:=fun _=>False) q) (fun _ _=>id)
theorem DevAt.keep{w w':World}{F:Nat→Prop}{b:Nat}{d:DevL}(h:DevAt w F b d)(q:Q w w'):DevAt w' F b d :=
 h.beside (Turn.of_q (own:=fun _=>False) q) (fun _ _=>id)
theorem blk_ne{w:World}{a b:Nat}{t u:TypeId}{cs ds:Array Value}(h:Blk w a t cs)(k:Blk w b u ds)(hne:t≠u):a≠b:=by
 rintro rfl
 unfold Blk at h k
 rw[h] at k
 injection k with k
 injection k with _ k _
 exact hne k
theorem setCell_size(w:World)(a:Addr)(v:Value):(w.setCell a v).heap.size=w.heap.size:=by
 unfold World.setCell
 split<;>simp
theorem DevG.ne{w:World}{F:Nat→Prop}{b g cap:Nat}{pv:Value}{d:DevL}(h:DevG w F b g cap pv d):g≠b∧(∀k,pv.ownBlock=some k→k≠b∧k≠g) :=
 ⟨(blk_ne h.box h.disk (by decide)).symm,fun k e=>⟨owns_not_blk h.row h.box (by decide) k e,owns_not_blk h.row h.disk (by decide) k e⟩⟩
theorem DevG.setBox{w:World}{F:Nat→Prop}{b g cap:Nat}{pv:Value}{d:DevL}(h:DevG w F b g cap pv d)(i:Nat)(v:Value):Turn F w (w.setCell ⟨b,i,none⟩ v)∧Blk (w.setCell ⟨b,i,none⟩ v) g 9 (strCs d.l) ∧
  (w.setCell ⟨b,i,none⟩ v).ownsRow 0 102 2 pv d.p.length (wrVs d.p)∧Blk (w.setCell ⟨b,i,none⟩ v) b 80 (#[.slice (some ⟨g,0,none⟩) d.l.length cap,pv,.int .i64 d.fuse,.bool d.dead].setIfInBounds i v):=by
 have t:Turn (fun k=>k=b) w (w.setCell ⟨b,i,none⟩ v):=Turn.setCell (a:=⟨b,i,none⟩) (Turn.refl (fun k=>k=b) w) (.inl rfl) v
 exact⟨(Turn.refl F w).setCell (.inl h.fb) v,t.blk h.disk h.ne.1,t.owns h.row (fun k e=>(h.ne.2 k e).1),h.box.set i v⟩
theorem DevG.fuse{w:World}{F:Nat→Prop}{b g cap:Nat}{pv:Value}{d:DevL}(h:DevG w F b g cap pv d)(f:Int):DevG (w.setCell ⟨b,2,none⟩ (.int .i64 f)) F b g cap pv { d with fuse:=f }∧Turn F w (w.setCell ⟨b,2,none⟩ (.int .i64 f)):=by
 obtain⟨h1,h2,h3,h4⟩:=h.setBox 2 (.int .i64 f)
 exact⟨⟨h4,h.fb,h2,h.fg,h3,h.fp⟩,h1⟩
theorem DevG.dead{w:World}{F:Nat→Prop}{b g cap:Nat}{pv:Value}{d:DevL}(h:DevG w F b g cap pv d)(x:Bool):DevG (w.setCell ⟨b,3,none⟩ (.bool x)) F b g cap pv { d with dead:=x }∧Turn F w (w.setCell ⟨b,3,none⟩ (.bool x)):=by
 obtain⟨h1,h2,h3,h4⟩:=h.setBox 3 (.bool x)
 exact⟨⟨h4,h.fb,h2,h.fg,h3,h.fp⟩,h1⟩
theorem DevG.empty{w:World}{F:Nat→Prop}{b g cap:Nat}{pv:Value}{d:DevL}(h:DevG w F b g cap pv d):DevG (w.setCell ⟨b,1,none⟩ (.slice none 0 0)) F b g cap (.slice none 0 0) { d with p:=[] }∧Turn F w (w.setCell ⟨b,1,none⟩ (.slice none 0 0)):=by
 obtain⟨h1,h2,h3,h4⟩:=h.setBox 1 (.slice none 0 0)
 exact⟨⟨h4,h.fb,h2,h.fg,⟨rfl,.inl ⟨rfl,rfl⟩⟩,fun k e=>by simp[Value.ownBlock] at e⟩,h1⟩
theorem DevG.append{w w2:World}{F:Nat→Prop}{b g cap:Nat}{pv:Value}{d:DevL}(h:DevG w F b g cap pv d)(x:WrL)(g2 cap2:Nat)(hr:w2.ownsRow 0 102 2 (.slice (some ⟨g2,0,none⟩) (d.p.length+1) cap2) (d.p.length+1) (wrVs d.p++encW x))(hg:w.grownBy w2 pv.ownBlock)(ho:pv.ownBlock=some g2∨w.heap.size<g2)(hlt:g2<w2.heap.size):
  Blk w2 b 80 #[.slice (some ⟨g,0,none⟩) d.l.length cap,pv,.int .i64 d.fuse,.bool d.dead] ∧
  DevG (w2.setCell ⟨b,1,none⟩ (.slice (some ⟨g2,0,none⟩) (d.p.length+1) cap2)) (grow F w (w2.setCell ⟨b,1,none⟩ (.slice (some ⟨g2,0,none⟩) (d.p.length+1) cap2))) b g cap (.slice (some ⟨g2,0,none⟩) (d.p.length+1) cap2) { d with p:=d.p++[x] } ∧
  Turn F w (w2.setCell ⟨b,1,none⟩ (.slice (some ⟨g2,0,none⟩) (d.p.length+1) cap2)):=by
 have hbox:Blk w2 b 80 #[.slice (some ⟨g,0,none⟩) d.l.length cap,pv,.int .i64 d.fuse,.bool d.dead]:=(hg.block b h.box.lt (fun e=>(h.ne.2 b e.symm).1 rfl)).trans h.box
 have hdisk:Blk w2 g 9 (strCs d.l):=(hg.block g h.disk.lt (fun e=>(h.ne.2 g e.symm).2 rfl)).trans h.disk
 have t:Turn (fun k=>k=b) w2 (w2.setCell ⟨b,1,none⟩ (.slice (some ⟨g2,0,none⟩) (d.p.length+1) cap2)):=Turn.setCell (a:=⟨b,1,none⟩) (Turn.refl (fun k=>k=b) w2) (.inl rfl) _
 have hsz:=setCell_size w2 ⟨b,1,none⟩ (.slice (some ⟨g2,0,none⟩) (d.p.length+1) cap2)
 have tw:Turn F w w2:=⟨hg.os,hg.tape,hg.output,hg.size,fun k h1 h2=>hg.block k h1 (fun e=>h2 (h.fp k e.symm))⟩
 refine⟨hbox,⟨hbox.set 1 _,.inl h.fb,t.blk hdisk h.ne.1,.inl h.fg,?_,fun k e=>?_⟩,tw.trans ((Turn.refl F w2).setCell (a:=⟨b,1,none⟩) (.inl h.fb) _)⟩
 ·rw[wrVs_append,show(d.p++[x]).length=d.p.length+1 by simp,show wrVs [x]=encW x by simp[wrVs]]
  exact t.owns hr (owns_not_blk hr hbox (by decide))
 ·simp only[Value.ownBlock,Option.some.injEq] at e
  subst e
  rcases ho with ho|ho
  ·exact .inl (h.fp g2 ho)
  ·exact .inr ⟨by omega,by rw[hsz];exact hlt⟩
theorem tinfoWr:(Tryz.prog.info? 102).map (fun i=>(i.zero,i.size,i.bytes))=some (some (.agg #[.int .i64 0,strV []]),2,24):=by kernel_rfl
theorem Qs.dr{A B:World}(h:Q A B):Q A B.drew:=h.trans (Q.drew _)
theorem Qs.al{A B:World}(h:Q A B)(o:Obj):Q A (B.alloc o):=h.trans (Q.alloc _ _)
theorem Qs.st{A B:World}(h:Q A B)(a:Addr)(v:Value)(ha:A.heap.size≤a.block):Q A (B.setCell a v):=Q.setCell h ha v
theorem cellQ{w w':World}{a:Addr}{v:Value}(q:Q w w')(h:w.cell? a=some v):w'.cell? a=some v:=cell_stays q h
theorem two{w w':World}(q:Q w w'){a0 a1:Addr}{v0 v1:Value}(h0:w.cell? a0=some v0)(h1:w.cell? a1=some v1):
  w'.cell? a0=some v0∧w'.cell? a1=some v1:=⟨cell_stays q h0,cell_stays q h1⟩
theorem five{w w':World}(q:Q w w'){a0 a1 a2 a3 a4:Addr}{v0 v1 v2 v3 v4:Value}(h0:w.cell? a0=some v0)(h1:w.cell? a1=some v1)(h2:w.cell? a2=some v2)(h3:w.cell? a3=some v3)(h4:w.cell? a4=some v4):
  w'.cell? a0=some v0∧w'.cell? a1=some v1∧w'.cell? a2=some v2∧w'.cell? a3=some v3∧w'.cell? a4=some v4:=⟨cell_stays q h0,cell_stays q h1,cell_stays q h2,cell_stays q h3,cell_stays q h4⟩
theorem three{w w':World}(q:Q w w'){a0 a1 a2:Addr}{v0 v1 v2:Value}(h0:w.cell? a0=some v0)(h1:w.cell? a1=some v1)(h2:w.cell? a2=some v2):
  w'.cell? a0=some v0∧w'.cell? a1=some v1∧w'.cell? a2=some v2:=⟨cell_stays q h0,cell_stays q h1,cell_stays q h2⟩
theorem DevG.lay{w:World}{F:Nat→Prop}{b g cap:Nat}{pv:Value}{d:DevL}(h:DevG w F b g cap pv d)(i:Nat)(s:Bytes):DevG (w.setCell ⟨g,i,none⟩ (strV s)) F b g cap pv { d with l:=d.l.set i s }∧Turn F w (w.setCell ⟨g,i,none⟩ (strV s)):=by
 have t:Turn (fun k=>k=g) w (w.setCell ⟨g,i,none⟩ (strV s)):=Turn.setCell (a:=⟨g,i,none⟩) (Turn.refl (fun k=>k=g) w) (.inl rfl) _
 have hbox:=t.blk h.box h.ne.1.symm
 refine⟨⟨?_,h.fb,?_,h.fg,t.owns h.row (fun k e=>(h.ne.2 k e).2),h.fp⟩,(Turn.refl F w).setCell (a:=⟨g,i,none⟩) (.inl h.fg) _⟩
 ·rw[show({ d with l:=d.l.set i s }:DevL).l.length=d.l.length from List.length_set];exact hbox
 ·have:=h.disk.set i (strV s)
  rw[strCs_set] at this;exact this
theorem Turn.q{F:Nat→Prop}{A B C:World}(h:Turn F A B)(k:Q B C):Turn F A C:=h.trans (Turn.of_q k)
theorem DevG.pcells{w:World}{F:Nat→Prop}{b g cap:Nat}{pv:Value}{d:DevL}(h:DevG w F b g cap pv d):∃pa pc,pv=.slice pa d.p.length pc∧∀m (hm:m<d.p.length),∃g2,pa=some ⟨g2,0,none⟩∧w.cell? ⟨g2,m*2,none⟩=some (.int .i64 (d.p[m].1:Nat))∧w.cell? ⟨g2,m*2+1,none⟩=some (strV d.p[m].2):=by
 obtain⟨pa,pc,hpv,hpa⟩:=owns_value h.row
 have hsl:=Sl.of_owns h.row
 subst hpv
 refine⟨pa,pc,rfl,fun m hm=>?_⟩
 obtain⟨g2,rfl⟩:=hpa (by omega)
 obtain⟨_,a,c,hv,hcc⟩:=hsl
 obtain⟨b2,off,ha,hcell⟩:=hcc (by omega)
 simp only[Value.slice.injEq] at hv
 rw[←hv.1] at ha
 simp only[Option.some.injEq,Addr.mk.injEq] at ha
 obtain⟨rfl,rfl,_⟩:=ha
 have h1:=hcell _ _ (wrVs_at d.p m hm).1
 have h2:=hcell _ _ (wrVs_at d.p m hm).2
 rw[Nat.zero_add] at h1 h2
 exact⟨g2,rfl,h1,h2⟩
theorem DevG.dcell{w:World}{F:Nat→Prop}{b g cap:Nat}{pv:Value}{d:DevL}(h:DevG w F b g cap pv d)(i:Nat)(hi:i<d.l.length):w.cell? ⟨g,i,none⟩=some (strV (d.l.getD i []))∧w.frozen? ⟨g,i,none⟩=false:=by
 refine⟨?_,h.disk.frozen i⟩
 rw[h.disk.cell i _ (strCs_at d.l i hi),List.getD_eq_getElem?_getD,List.getElem?_eq_getElem hi];rfl
theorem Turn.cell{F:Nat→Prop}{A B:World}(h:Turn F A B){a:Addr}{v:Value}(hc:A.cell? a=some v)(hn:¬F a.block):B.cell? a=some v:=by
 have:=cell_lt hc
 rw[←hc]
 simp only[World.cell?,h.block a.block this hn]
abbrev ptrV(b:Nat):Value:=.pointer (some ⟨b,0,none⟩)
def SlO(w:World)(F:Nat→Prop)(v:Value)(n size:Nat)(xs:List Value):Prop:=Sl w v n size xs∧(0<n→∃b off,(∃cap,v=.slice (some ⟨b,off,none⟩) n cap)∧b<w.heap.size∧¬F b)
theorem SlO.keep{w w':World}{F:Nat→Prop}{v:Value}{n size:Nat}{xs:List Value}(h:SlO w F v n size xs)(t:Turn F w w'):SlO w' (grow F w w') v n size xs:=by
 obtain⟨h1,h2⟩:=h
 refine⟨?_,fun hn=>?_⟩
 ·obtain⟨hl,a,cap,hv,hc⟩:=h1
  refine⟨hl,a,cap,hv,fun hn=>?_⟩
  obtain⟨b,off,⟨cap',e⟩,hb,hF⟩:=h2 hn
  obtain⟨b2,off2,rfl,hcells⟩:=hc hn
  rw[hv] at e
  simp only[Value.slice.injEq,Option.some.injEq,Addr.mk.injEq] at e
  obtain⟨⟨rfl,rfl,_⟩,_⟩:=e
  refine⟨b2,off2,rfl,fun j u hj=>?_⟩
  have:=hcells j u hj
  rw[←this]
  simp only[World.cell?,t.block b2 hb hF]
 ·obtain⟨b,off,e,hb,hF⟩:=h2 hn
  exact⟨b,off,e,Nat.lt_of_lt_of_le hb t.size,fun hg=>hg.elim hF (fun hg=>by omega)⟩
structure RDevG (w:World) (F:Nat→Prop) (b:Nat) (lv pv:Value) (d:DevL):Prop where
 box:Blk w b 51 #[lv,pv,.int .i64 d.fuse,.bool d.dead]
 fb:F b
 lrow:w.ownsRow 0 9 1 lv d.l.length (d.l.map strV)
 fl:∀k,lv.ownBlock=some k→F k
 prow:w.ownsRow 0 102 2 pv d.p.length (wrVs d.p)
 fp:∀k,pv.ownBlock=some k→F k
def RDevAt(w:World)(F:Nat→Prop)(b:Nat)(d:DevL):Prop:=∃lv pv,RDevG w F b lv pv d
theorem RDevG.mono{w:World}{F G:Nat→Prop}{b:Nat}{lv pv:Value}{d:DevL}(h:RDevG w F b lv pv d)(k:∀i,F i→G i):RDevG w G b lv pv d :=
 ⟨h.box,k _ h.fb,h.lrow,fun i e=>k _ (h.fl i e),h.prow,fun i e=>k _ (h.fp i e)⟩
theorem RDevAt.mono{w:World}{F G:Nat→Prop}{b:Nat}{d:DevL}(h:RDevAt w F b d)(k:∀i,F i→G i):RDevAt w G b d:=by
 obtain⟨lv,pv,h⟩:=h
 exact⟨lv,pv,h.mono k⟩
theorem RDevG.beside{w w':World}{F G:Nat→Prop}{b:Nat}{lv pv:Value}{d:DevL}(h:RDevG w F b lv pv d)(t:Turn G w w')(hd:∀k,F k→¬G k):RDevG w' F b lv pv d :=
 ⟨t.blk h.box (hd _ h.fb),h.fb,t.owns h.lrow (fun k e=>hd _ (h.fl k e)),h.fl,t.owns h.prow (fun k e=>hd _ (h.fp k e)),h.fp⟩
theorem RDevAt.beside{w w':World}{F G:Nat→Prop}{b:Nat}{d:DevL}(h:RDevAt w F b d)(t:Turn G w w')(hd:∀k,F k→¬G k):RDevAt w' F b d:=by
 obtain⟨lv,pv,h⟩:=h
 exact⟨lv,pv,h.beside t hd⟩
theorem RDevG.keep{w w':World}{F:Nat→Prop}{b:Nat}{lv pv:Value}{d:DevL}(h:RDevG w F b lv pv d)(q:Q w w'):RDevG w' F b lv pv d :=
 h.beside (Turn.of_q (own:=fun _=>False) q) (fun _ _=>id)
theorem RDevAt.keep{w w':World}{F:Nat→Prop}{b:Nat}{d:DevL}(h:RDevAt w F b d)(q:Q w w'):RDevAt w' F b d :=
 h.beside (Turn.of_q (own:=fun _=>False) q) (fun _ _=>id)
theorem RDevG.ne{w:World}{F:Nat→Prop}{b:Nat}{lv pv:Value}{d:DevL}(h:RDevG w F b lv pv d):(∀k,lv.ownBlock=some k→k≠b)∧(∀k,pv.ownBlock=some k→k≠b) :=
 ⟨fun k e=>owns_not_blk h.lrow h.box (by decide) k e,fun k e=>owns_not_blk h.prow h.box (by decide) k e⟩
theorem RDevG.setBox{w:World}{F:Nat→Prop}{b:Nat}{lv pv:Value}{d:DevL}(h:RDevG w F b lv pv d)(i:Nat)(v:Value):Turn F w (w.setCell ⟨b,i,none⟩ v)∧(w.setCell ⟨b,i,none⟩ v).ownsRow 0 9 1 lv d.l.length (d.l.map strV) ∧
  (w.setCell ⟨b,i,none⟩ v).ownsRow 0 102 2 pv d.p.length (wrVs d.p)∧Blk (w.setCell ⟨b,i,none⟩ v) b 51 (#[lv,pv,.int .i64 d.fuse,.bool d.dead].setIfInBounds i v):=by
 have t:Turn (fun k=>k=b) w (w.setCell ⟨b,i,none⟩ v):=Turn.setCell (a:=⟨b,i,none⟩) (Turn.refl (fun k=>k=b) w) (.inl rfl) v
 exact⟨(Turn.refl F w).setCell (.inl h.fb) v,t.owns h.lrow (fun k e=>h.ne.1 k e),t.owns h.prow (fun k e=>h.ne.2 k e),h.box.set i v⟩
theorem RDevG.fuse{w:World}{F:Nat→Prop}{b:Nat}{lv pv:Value}{d:DevL}(h:RDevG w F b lv pv d)(f:Int):RDevG (w.setCell ⟨b,2,none⟩ (.int .i64 f)) F b lv pv { d with fuse:=f }∧Turn F w (w.setCell ⟨b,2,none⟩ (.int .i64 f)):=by
 obtain⟨h1,h2,h3,h4⟩:=h.setBox 2 (.int .i64 f)
 exact⟨⟨h4,h.fb,h2,h.fl,h3,h.fp⟩,h1⟩
theorem RDevG.dead{w:World}{F:Nat→Prop}{b:Nat}{lv pv:Value}{d:DevL}(h:RDevG w F b lv pv d)(x:Bool):RDevG (w.setCell ⟨b,3,none⟩ (.bool x)) F b lv pv { d with dead:=x }∧Turn F w (w.setCell ⟨b,3,none⟩ (.bool x)):=by
 obtain⟨h1,h2,h3,h4⟩:=h.setBox 3 (.bool x)
 exact⟨⟨h4,h.fb,h2,h.fl,h3,h.fp⟩,h1⟩
theorem RDevG.empty{w:World}{F:Nat→Prop}{b:Nat}{lv pv:Value}{d:DevL}(h:RDevG w F b lv pv d):RDevG (w.setCell ⟨b,1,none⟩ (.slice none 0 0)) F b lv (.slice none 0 0) { d with p:=[] }∧Turn F w (w.setCell ⟨b,1,none⟩ (.slice none 0 0)):=by
 obtain⟨h1,h2,h3,h4⟩:=h.setBox 1 (.slice none 0 0)
 exact⟨⟨h4,h.fb,h2,h.fl,⟨rfl,.inl ⟨rfl,rfl⟩⟩,fun k e=>by simp[Value.ownBlock] at e⟩,h1⟩
theorem RDevG.lcells{w:World}{F:Nat→Prop}{b:Nat}{lv pv:Value}{d:DevL}(h:RDevG w F b lv pv d):∃la lc,lv=.slice la d.l.length lc∧∀m (hm:m<d.l.length),∃g2,la=some ⟨g2,0,none⟩∧w.cell? ⟨g2,m,none⟩=some (strV d.l[m])∧w.frozen? ⟨g2,m,none⟩=false:=by
 obtain⟨la,lc,hlv,hla⟩:=owns_value h.lrow
 have hr:=h.lrow
 subst hlv
 refine⟨la,lc,rfl,fun m hm=>?_⟩
 obtain⟨g2,rfl⟩:=hla (by omega)
 refine⟨g2,rfl,?_,hr.frozenAt m⟩
 rw[hr.cellAt m (by omega)]
 simp[hm]
theorem RDevG.pcells{w:World}{F:Nat→Prop}{b:Nat}{lv pv:Value}{d:DevL}(h:RDevG w F b lv pv d):∃pa pc,pv=.slice pa d.p.length pc∧∀m (hm:m<d.p.length),∃g2,pa=some ⟨g2,0,none⟩∧w.cell? ⟨g2,m*2,none⟩=some (.int .i64 (d.p[m].1:Nat))∧w.cell? ⟨g2,m*2+1,none⟩=some (strV d.p[m].2):=by
 obtain⟨pa,pc,hpv,hpa⟩:=owns_value h.prow
 have hr:=h.prow
 subst hpv
 refine⟨pa,pc,rfl,fun m hm=>?_⟩
 obtain⟨g2,rfl⟩:=hpa (by omega)
 refine⟨g2,rfl,?_,?_⟩
 ·rw[hr.cellAt _ (by omega)];exact(wrVs_at d.p m hm).1
 ·rw[hr.cellAt _ (by omega)];exact(wrVs_at d.p m hm).2
theorem RDevG.lay{w:World}{F:Nat→Prop}{b gl lc:Nat}{pv:Value}{d:DevL}(h:RDevG w F b (.slice (some ⟨gl,0,none⟩) d.l.length lc) pv d)(i:Nat)(s:Bytes):RDevG (w.setCell ⟨gl,i,none⟩ (strV s)) F b (.slice (some ⟨gl,0,none⟩) d.l.length lc) pv { d with l:=d.l.set i s }∧Turn F w (w.setCell ⟨gl,i,none⟩ (strV s)):=by
 have hF:F gl:=h.fl gl rfl
 have hne:b≠gl:=fun e=>h.ne.1 gl rfl e.symm
 have hpn:∀k,pv.ownBlock=some k→k≠gl:=fun k e e2=>by
  subst e2
  obtain⟨cs,hc⟩:=owns_kind h.prow k e
  obtain⟨ds,hd⟩:=owns_kind h.lrow k rfl
  rw[hc] at hd
  injection hd with hd
  injection hd with _ hd _
  exact absurd hd (by decide)
 have t:Turn (fun k=>k=gl) w (w.setCell ⟨gl,i,none⟩ (strV s)):=Turn.setCell (a:=⟨gl,i,none⟩) (Turn.refl (fun k=>k=gl) w) (.inl rfl) _
 have hr:=(h.lrow.stored i (strV s)).1
 rw[←List.map_set] at hr
 refine⟨⟨t.blk h.box hne,h.fb,?_,h.fl,t.owns h.prow hpn,h.fp⟩,(Turn.refl F w).setCell (a:=⟨gl,i,none⟩) (.inl hF) _⟩
 rw[show({ d with l:=d.l.set i s }:DevL).l.length=d.l.length from List.length_set]
 exact hr
end
section
def byteN(s:Bytes)(k:Nat):Nat:=(s.getD k 0).toNat
theorem byteN_lt(s:Bytes)(k:Nat):byteN s k<256:=UInt8.toNat_lt _
end
end Go.Proofs.YthcpkgfieoneeaaGreatDoor
