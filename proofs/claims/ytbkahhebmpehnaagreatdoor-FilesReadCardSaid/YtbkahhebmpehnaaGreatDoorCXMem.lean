/- Joined: Mem to MapI -/
import Derived.RangeFuncNested
import Derived.RangeFuncBound
import Derived.OwnWalkIn
import Derived.TacticsInMore
import Derived.LoopNIn
import Derived.LoopIn
import Derived.Lib.OthersKept
import Derived.Test.YtbkahhebmpehnaaGreatDoorProg
import Derived.Test.YtbkahhebmpehnaaGreatDoorCXBase2
set_option linter.all false
set_option maxRecDepth 100000
set_option maxHeartbeats 8000000
namespace Go.Proofs.YtbkahhebmpehnaaGreatDoor
open Go.Proofs.Tryz
section
open Go.RowKit
def Sl(w:World)(v:Value)(n size:Nat)(xs:List Value):Prop :=
 xs.length=n*size∧∃a cap,v=.slice a n cap∧(0<n→∃b off,a=some ⟨b,off,none⟩∧∀j u,xs[j]?=some u→w.cell? ⟨b,off+j,none⟩=some u)
theorem Io{w:World}{a:Addr}{u:Value}(h:w.cell? a=some u):a.block<w.heap.size:=World.block_lt_of_cell? w a h
theorem aj{w w':World}(hb:Below w.heap.size w w'){a:Addr}{u:Value}(h:w.cell? a=some u):w'.cell? a=some u :=
 (hb.cell (Io h)).trans h
theorem Sl.stays{w w':World}{v:Value}{n size:Nat}{xs:List Value}(h:Sl w v n size xs)(hb:Below w.heap.size w w'):Sl w' v n size xs:=by
 obtain⟨h1,a,cap,h2,h3⟩:=h;refine⟨h1,a,cap,h2,fun hn=>?_⟩
 obtain⟨b,off,h4,h5⟩:=h3 hn;exact⟨b,off,h4,fun j u hj=>aj hb (h5 j u hj)⟩
theorem Sl.nil(w:World)(size:Nat):Sl w (.slice none 0 0) 0 size []:=⟨κ,none,0,rfl,fun h=>U⟩
theorem Sl.cx{w:World}{base:Nat}{e:TypeId}{size:Nat}{v:Value}{n:Nat}{xs:List Value}(h:w.ownsRow base e size v n xs):Sl w v n size xs:=by
 obtain⟨a,cap,rfl,hs⟩:=aY h;refine⟨h.1,a,cap,rfl,fun hn=>?_⟩
 obtain⟨g,rfl⟩:=hs hn;refine⟨g,0,rfl,fun j u hj=>?_⟩
 have ay:j<n*size:=by rw[←h.1];exact(NX.1 hj).1
 rw[On,h.cellAt j ay];exact hj
theorem Sl.lit(w:World)(cs:Array Value)(e:TypeId)(n size:Nat)(h:cs.size=n*size):Sl (w.alloc (.cells cs e)) (.slice (some ⟨w.heap.size,0,none⟩) n n) n size cs.toList:=by
 refine⟨by simpa using h,_,n,rfl,fun hn=>⟨w.heap.size,0,rfl,fun j u hj=>?_⟩⟩
 rw[On];simp only[World.cell?,heap_alloc_new];simpa using hj
theorem Sl.value{w:World}{v:Value}{n size:Nat}{xs:List Value}(h:Sl w v n size xs):∃a cap,v=.slice a n cap∧(0<n→∃b off,a=some ⟨b,off,none⟩∧∀j u,xs[j]?=some u→w.cell? ⟨b,off+j,none⟩=some u):=h.2
abbrev ah(l:List UInt8):Value:=.string ⟨l.toArray⟩
def Strs(w:World)(v:Value)(ps:List (List UInt8)):Prop:=Sl w v ps.length 1 (ps.map ah)
def yy(w:World)(v:Value)(ns:List Nat):Prop:=Sl w v ns.length 1 (ns.map fun n:Nat=>.int .u64 (n:Int))
theorem Strs.stays{w w':World}{v:Value}{ps:List (List UInt8)}(h:Strs w v ps)(hb:Below w.heap.size w w'):Strs w' v ps:=Sl.stays h hb
theorem Strs.value{w:World}{v:Value}{ps:List (List UInt8)}(h:Strs w v ps):∃a cap,v=.slice a ps.length cap∧(0<ps.length→∃b off,a=some ⟨b,off,none⟩∧∀j (hj:j<ps.length),w.cell? ⟨b,off+j,none⟩=some (.string ⟨ps[j].toArray⟩)):=by
 obtain⟨_,a,cap,h2,h3⟩:=h;refine⟨a,cap,h2,fun hn=>?_⟩
 obtain⟨b,off,h4,h5⟩:=h3 hn;exact⟨b,off,h4,fun j hj=>h5 j _ (by simp[hj])⟩
theorem yy.value{w:World}{v:Value}{ns:List Nat}(h:yy w v ns):∃a cap,v=.slice a ns.length cap∧(0<ns.length→∃b off,a=some ⟨b,off,none⟩∧∀j (hj:j<ns.length),w.cell? ⟨b,off+j,none⟩=some (.int .u64 (ns[j]:Nat))):=by
 obtain⟨_,a,cap,h2,h3⟩:=h;refine⟨a,cap,h2,fun hn=>?_⟩
 obtain⟨b,off,h4,h5⟩:=h3 hn;exact⟨b,off,h4,fun j hj=>h5 j _ (by simp[hj])⟩
def Q(w w':World):Prop:=Below w.heap.size w w'
theorem Q.refl(w:World):Q w w:=Below.refl _ _
theorem Q.trans{a b c:World}(h1:Q a b)(h2:Q b c):Q a c:=Below.trans h1 (Below.mono h2 h1.size)
theorem Q.of{w w':World}(h:Below w.heap.size w w'):Q w w':=h
theorem Q.alloc(w:World)(o:Obj):Q w (w.alloc o):=(Below.refl _ _).alloc (Ω _) _
theorem Q.drewN(w:World)(n:Nat):Q w (w.drewN n):=⟨rfl,rfl,rfl,Ω _,fun _ _=>rfl⟩
theorem Q.drew(w:World):Q w w.drew:=⟨rfl,rfl,rfl,Ω _,fun _ _=>rfl⟩
def Blk(w:World)(k:Nat)(t:TypeId)(cs:Array Value):Prop:=w.heap[k]?=some (.cells cs t (0,0))
theorem Blk.new(w:World)(t:TypeId)(cs:Array Value):Blk (w.alloc (.cells cs t)) w.heap.size t cs:=World.alloc_heap_new w _
theorem Blk.lt{w:World}{k:Nat}{t:TypeId}{cs:Array Value}(h:Blk w k t cs):k<w.heap.size:=(Sp.1 h).1
theorem Blk.stays{w w':World}{k:Nat}{t:TypeId}{cs:Array Value}(h:Blk w k t cs)(q:Q w w'):Blk w' k t cs:=(q.block k h.lt).trans h
theorem Blk.alloc{w:World}{k:Nat}{t:TypeId}{cs:Array Value}(h:Blk w k t cs)(o:Obj):Blk (w.alloc o) k t cs:=h.stays (Q.alloc _ _)
theorem Blk.cell{w:World}{k:Nat}{t:TypeId}{cs:Array Value}(h:Blk w k t cs)(i:Nat)(v:Value)(hv:cs[i]?=some v):w.cell? ⟨k,i,none⟩=some v:=by
 simp only[World.cell?,show w.heap[k]?=_ from h]
 exact hv
theorem Blk.frozen{w:World}{k:Nat}{t:TypeId}{cs:Array Value}(h:Blk w k t cs)(i:Nat):w.frozen? ⟨k,i,none⟩=false:=by
 simp[World.frozen?,show w.heap[k]?=_ from h]
theorem Blk.set{w:World}{k:Nat}{t:TypeId}{cs:Array Value}(h:Blk w k t cs)(i:Nat)(v:Value):Blk (w.setCell ⟨k,i,none⟩ v) k t (cs.setIfInBounds i v):=by
 obtain⟨ay,hk⟩:=Sp.1 h;show(w.heap.modify k _)[k]?=_;rw[Array.getElem?_eq_getElem (by rw[Array.size_modify];exact ay),Array.getElem_modify_self,hk]
 rfl
theorem Blk.other{w:World}{k:Nat}{t:TypeId}{cs:Array Value}(h:Blk w k t cs)(a:Addr)(v:Value)(aU:k≠a.block):Blk (w.setCell a v) k t cs:=(Below.heap_setCell w a v k aU).trans h
theorem Blk.c2{w:World}{k:Nat}{t:TypeId}{a b:Value}(h:Blk w k t #[a,b]):w.cell? ⟨k,0,none⟩=some a∧w.cell? ⟨k,1,none⟩=some b∧w.frozen? ⟨k,0,none⟩=false∧w.frozen? ⟨k,1,none⟩=false :=
 ⟨h.cell 0 _ rfl,h.cell 1 _ rfl,h.frozen 0,h.frozen 1⟩
theorem Blk.c3{w:World}{k:Nat}{t:TypeId}{a b c:Value}(h:Blk w k t #[a,b,c]):w.cell? ⟨k,0,none⟩=some a∧w.cell? ⟨k,1,none⟩=some b∧w.cell? ⟨k,2,none⟩=some c∧w.frozen? ⟨k,0,none⟩=false∧w.frozen? ⟨k,1,none⟩=false∧w.frozen? ⟨k,2,none⟩=false :=
 ⟨h.cell 0 _ rfl,h.cell 1 _ rfl,h.cell 2 _ rfl,h.frozen 0,h.frozen 1,h.frozen 2⟩
theorem Blk.c4{w:World}{k:Nat}{t:TypeId}{a b c d:Value}(h:Blk w k t #[a,b,c,d]):w.cell? ⟨k,0,none⟩=some a∧w.cell? ⟨k,1,none⟩=some b∧w.cell? ⟨k,2,none⟩=some c∧w.cell? ⟨k,3,none⟩=some d∧w.frozen? ⟨k,0,none⟩=false∧w.frozen? ⟨k,1,none⟩=false∧w.frozen? ⟨k,2,none⟩=false∧w.frozen? ⟨k,3,none⟩=false :=
 ⟨h.cell 0 _ rfl,h.cell 1 _ rfl,h.cell 2 _ rfl,h.cell 3 _ rfl,h.frozen 0,h.frozen 1,h.frozen 2,h.frozen 3⟩
theorem Blk.r4{w:World}{k:Nat}{t:TypeId}{a b c d:Value}(h:Blk w k t #[a,b,c,d])(x y z u:Value):((((w.setCell ⟨k,0,none⟩ x).setCell ⟨k,1,none⟩ y).setCell ⟨k,2,none⟩ z).setCell ⟨k,3,none⟩ u).cell? ⟨k,0,none⟩=some x∧((((w.setCell ⟨k,0,none⟩ x).setCell ⟨k,1,none⟩ y).setCell ⟨k,2,none⟩ z).setCell ⟨k,3,none⟩ u).cell? ⟨k,1,none⟩=some y ∧
  ((((w.setCell ⟨k,0,none⟩ x).setCell ⟨k,1,none⟩ y).setCell ⟨k,2,none⟩ z).setCell ⟨k,3,none⟩ u).cell? ⟨k,2,none⟩=some z∧((((w.setCell ⟨k,0,none⟩ x).setCell ⟨k,1,none⟩ y).setCell ⟨k,2,none⟩ z).setCell ⟨k,3,none⟩ u).cell? ⟨k,3,none⟩=some u ∧
  Blk ((((w.setCell ⟨k,0,none⟩ x).setCell ⟨k,1,none⟩ y).setCell ⟨k,2,none⟩ z).setCell ⟨k,3,none⟩ u) k t #[x,y,z,u] :=
 ⟨((((h.set 0 x).set 1 y).set 2 z).set 3 u).cell 0 x rfl,((((h.set 0 x).set 1 y).set 2 z).set 3 u).cell 1 y rfl,((((h.set 0 x).set 1 y).set 2 z).set 3 u).cell 2 z rfl,((((h.set 0 x).set 1 y).set 2 z).set 3 u).cell 3 u rfl,(((h.set 0 x).set 1 y).set 2 z).set 3 u⟩
theorem Q.setCell{w w':World}(h:Q w w'){a:Addr}(ha:w.heap.size≤a.block)(v:Value):Q w (w'.setCell a v):=Below.setCell h ha v
theorem gT{w:World}{base base':Nat}{e:TypeId}{size:Nat}{v:Value}{n:Nat}{xs:List Value}(h:w.ownsRow base e size v n xs)(hb:base'≤base):w.ownsRow base' e size v n xs:=by
 obtain⟨h1,h2⟩:=h;refine⟨h1,?_⟩;rcases h2 with h2|⟨g,cap,cur,rfl,bN,hg,rest⟩
 ·exact .inl h2
 ·exact .inr ⟨g,cap,cur,rfl,LS hb bN,hg,rest⟩
theorem oH{w:World}{base:Nat}{e:TypeId}{size:Nat}{v:Value}{n:Nat}{xs:List Value}(h:w.ownsRow base e size v n xs):∀g,v.ownBlock=some g→∃cs,w.heap[g]?=some (.cells cs e (0,0)):=by
 intro g hg;rcases h.2 with ⟨rfl,_⟩|⟨g',cap,cur,rfl,_,GL,_⟩
 ·simp[Value.ownBlock] at hg
 ·simp only[Value.ownBlock,M3] at hg
  subst hg;exact⟨_,GL⟩
theorem WI{w:World}{base base':Nat}{e e':TypeId}{size size':Nat}{v v':Value}{n n':Nat}{xs xs':List Value}(h:w.ownsRow base e size v n xs)(h':w.ownsRow base' e' size' v' n' xs')(aU:e≠e'){g:Nat}(hg:v'.ownBlock=some g):v.ownBlock≠some g:=by
 intro hb;obtain⟨cs,hc⟩:=oH h g hb;obtain⟨cs',GN⟩:=oH h' g hg;rw[hc] at GN;injection GN with GN;injection GN with _ GN _;exact aU GN
theorem KU{w w':World}{base base':Nat}{e e':TypeId}{size size':Nat}{v v':Value}{n n':Nat}{xs xs':List Value}(h:w.ownsRow base e size v n xs)(h':w.ownsRow base' e' size' v' n' xs')(hg:w.grownBy w' v'.ownBlock)(aU:e≠e'):w'.ownsRow base e size v n xs:=by
 refine h.kept hg ?_;cases hv:v'.ownBlock with
 | none=>cases hb:v.ownBlock with
  | none=>exact .inl rfl
  | some g=>exact .inr κ
 | some g=>exact .inr (WI h h' aU hv)
theorem oI{w w':World}{base:Nat}{e:TypeId}{size:Nat}{v:Value}{n:Nat}{xs:List Value}{k:Nat}{t:TypeId}{cs:Array Value}(h:Blk w k t cs)(h':w.ownsRow base e size v n xs)(hg:w.grownBy w' v.ownBlock)(aU:t≠e):Blk w' k t cs:=by
 refine(hg.block k h.lt (fun e'=>?_)).trans h
 obtain⟨cs,hc⟩:=oH h' k e'.symm;rw[show _=_ from h] at hc
 injection hc with h3;injection h3 with _ h3 _;exact aU h3
theorem oD(b off j:Nat):(⟨b,off,none⟩:Addr).add j=⟨b,off+j,none⟩:=by unfold Addr.add;split<;>simp_all
structure Itk (own:Nat→Prop) (lo:Nat) (A B:World):Prop where
 os:B.os=A.os
 tape:B.tape=A.tape
 output:B.output=A.output
 size:A.heap.size≤B.heap.size
 low:∀k,k<lo→k<A.heap.size→¬own k→B.heap[k]?=A.heap[k]?
 cells:∀(k:Nat) (o:Obj),A.heap[k]?=some o→o.isCells=true→¬own k→B.heap[k]?=some o
theorem Itk.refl(own:Nat→Prop)(lo:Nat)(A:World):Itk own lo A A:=⟨rfl,rfl,rfl,Ω _,fun _ _ _ _=>rfl,fun _ _ h _ _=>h⟩
theorem Itk.trans{own:Nat→Prop}{lo:Nat}{A B C:World}(h:Itk own lo A B)(k:Itk own lo B C):Itk own lo A C :=
 ⟨k.os.trans h.os,k.tape.trans h.tape,k.output.trans h.output,LS h.size k.size,fun i h1 h2 h3=>(k.low i h1 (Ψ h2 h.size) h3).trans (h.low i h1 h2 h3),
  fun i o h1 h2 h3=>k.cells i o (h.cells i o h1 h2 h3) h2 h3⟩
theorem Itk.mono{own own':Nat→Prop}{lo lo':Nat}{A B:World}(h:Itk own lo A B)(ho:∀k,own k→own' k)(hl:lo'≤lo):Itk own' lo' A B :=
 ⟨h.os,h.tape,h.output,h.size,fun k h1 h2 h3=>h.low k U h2 (fun e=>h3 (ho k e)),fun k o h1 h2 h3=>h.cells k o h1 h2 (fun e=>h3 (ho k e))⟩
theorem aJ{A:World}{k:Nat}{o:Obj}(h:A.heap[k]?=some o):k<A.heap.size:=(Sp.1 h).1
theorem Itk.br{own:Nat→Prop}{lo:Nat}{A B:World}(h:Q A B):Itk own lo A B :=
 ⟨h.os,h.tape,h.output,h.size,fun k _ h2 _=>h.block k h2,fun k o h1 _ _=>(h.block k (aJ h1)).trans h1⟩
theorem Itk.put{own:Nat→Prop}{lo:Nat}{A:World}{l:Nat}{o:Obj}(o':Obj)(h:A.heap[l]?=some o)(hc:o.isCells=false)(hl:lo≤l):Itk own lo A (A.putObj l o') :=
 ⟨rfl,rfl,rfl,κ,fun k h1 _ _=>World.putObj_heap_other U,fun k o2 h1 h2 _=>(World.putObj_heap_other (fun e=>by subst e;rw[h] at h1;cases h1;rw[hc] at h2;cases h2)).trans h1⟩
theorem Itk.get{own:Nat→Prop}{lo:Nat}{A B:World}(h:Itk own lo A B){k:Nat}{cs:Array Value}{e:TypeId}{fz:Nat×Nat}(hk:A.heap[k]?=some (.cells cs e fz))(ho:¬own k):B.heap[k]?=some (.cells cs e fz):=h.cells k _ hk rfl ho
theorem Itk.boxed{own:Nat→Prop}{lo:Nat}{A B:World}(h:Itk own lo A B){b:Nat}{t:TypeId}{v:Value}(hb:Boxed A b t v)(ho:¬own b):Boxed B b t v:=h.get hb ho
theorem Itk.below{own:Nat→Prop}{lo n:Nat}{w A B:World}(h:Itk own lo A B)(hw:Below n w A)(hn:n≤lo)(hs:n≤A.heap.size)(ho:∀k,own k→n≤k):Below n w B :=
 hw.trans ⟨h.os,h.tape,h.output,h.size,fun k hk=>h.low k U U (fun e=>by have:=ho k e;omega)⟩
theorem Itk.owns{own:Nat→Prop}{lo:Nat}{A B:World}(h:Itk own lo A B){base:Nat}{e:TypeId}{size:Nat}{v:Value}{n:Nat}{xs:List Value}(hr:A.ownsRow base e size v n xs)(ho:∀g,v.ownBlock=some g→¬own g):B.ownsRow base e size v n xs:=by
 obtain⟨h1,h2⟩:=hr;refine⟨h1,?_⟩;rcases h2 with h2|⟨g,cap,cur,rfl,hb,hg,rest⟩
 ·exact .inl h2
 ·exact .inr ⟨g,cap,cur,rfl,hb,h.get hg (ho g rfl),rest⟩
structure Bk (own:Nat→Prop) (n₀:Nat) (A B:World):Prop where
 below:Below n₀ A B
 own:∀k,own k→k<A.heap.size→B.heap[k]?=A.heap[k]?
 walks:∀(k:Nat) (o:Obj),A.heap[k]?=some o→o.isWalk=true→B.heap[k]?=some o
theorem Bk.refl(own:Nat→Prop)(n₀:Nat)(A:World):Bk own n₀ A A:=⟨Below.refl _ _,fun _ _ _=>rfl,fun _ _ h _=>h⟩
theorem Bk.trans{own:Nat→Prop}{n₀:Nat}{A B C:World}(h:Bk own n₀ A B)(k:Bk own n₀ B C):Bk own n₀ A C :=
 ⟨h.below.trans k.below,fun i h1 h2=>(k.own i h1 (Ψ h2 h.below.size)).trans (h.own i h1 h2),fun i o h1 h2=>k.walks i o (h.walks i o h1 h2) h2⟩
theorem Bk.br{own:Nat→Prop}{n₀:Nat}{A B:World}(h:Q A B)(hn:n₀≤A.heap.size):Bk own n₀ A B :=
 ⟨Below.mono h hn,fun k _ h2=>h.block k h2,fun k o h1 _=>(h.block k (aJ h1)).trans h1⟩
theorem Bk.mono{own own':Nat→Prop}{n₀ n₁:Nat}{A B:World}(h:Bk own n₀ A B)(ho:∀k,own' k→own k)(hn:n₁≤n₀):Bk own' n₁ A B :=
 ⟨h.below.mono hn,fun k h1 h2=>h.own k (ho k h1) h2,h.walks⟩
theorem Bk.put{own:Nat→Prop}{n₀:Nat}{A:World}{l:Nat}{o:Obj}(o':Obj)(h:A.heap[l]?=some o)(hc:o.isWalk=false)(hl:n₀≤l)(ho:¬own l):Bk own n₀ A (A.putObj l o') :=
 ⟨⟨rfl,rfl,rfl,κ,fun k hk=>World.putObj_heap_other U⟩,fun k h1 _=>World.putObj_heap_other (fun e=>ho (by rw[←e];exact h1)),
  fun k o2 h1 h2=>(World.putObj_heap_other (fun e=>by subst e;rw[h] at h1;cases h1;rw[hc] at h2;cases h2)).trans h1⟩
theorem Bk.setCell{own:Nat→Prop}{n₀:Nat}(A:World){p:Addr}(hl:n₀≤p.block)(ho:¬own p.block)(v:Value):Bk own n₀ A (A.setCell p v) :=
 ⟨(Below.refl _ _).setCell hl v,fun k h1 _=>Below.heap_setCell _ _ _ _ (fun e=>ho (by rw[←e];exact h1)),(KeepsWalks.setCell A p v).same⟩
theorem Bk.grown{own:Nat→Prop}{n₀:Nat}{A B:World}{row:Option Nat}(hg:A.grownBy B row)(hn:n₀≤A.heap.size)(hr:∀k,row=some k→n₀≤k∧¬own k∧∃cs e fz,A.heap[k]?=some (.cells cs e fz)):Bk own n₀ A B :=
 ⟨(Below.refl _ _).grown hg hn (fun k hk=>(hr k hk).1),fun k h1 h2=>hg.block k h2 (fun e=>(hr k e.symm).2.1 h1),
  fun k o h1 h2=>(hg.block k (aJ h1) (fun e=>by obtain⟨_,_,cs,e2,fz,h3⟩:=hr k e.symm;rw[h3] at h1;cases h1;cases h2)).trans h1⟩
def IS(P:Program)(l:Nat)(args:Array Value)(W:World)(R:Ending→World→Prop):Prop :=
 ∃fn tmps assign body,(Instr.yield l args).run P W=.ok (.round l fn tmps assign body) W∧∀m,RoundIn Fence.wide m P l fn tmps assign body W R
theorem sx{n m:Nat}{P:Program}{l:Nat}{fn:FuncId}{tmps:Array Value}{assign body:Code}{W:World}{R:Ending→World→Prop}(h:RoundIn Fence.wide n P l fn tmps assign body W R):RoundIn Fence.wide m P l fn tmps assign body W R :=
 ⟨h.1,fun c cs _=>h.2 c cs (room_wide _)⟩
structure ae (own:Nat→Prop) (A B:World):Prop where
 os:B.os=A.os
 tape:B.tape=A.tape
 output:B.output=A.output
 size:A.heap.size≤B.heap.size
 block:∀k,k<A.heap.size→¬own k→B.heap[k]?=A.heap[k]?
theorem ae.refl(own:Nat→Prop)(A:World):ae own A A:=⟨rfl,rfl,rfl,Ω _,fun _ _ _=>rfl⟩
theorem ae.trans{own:Nat→Prop}{A B C:World}(h:ae own A B)(k:ae own B C):ae own A C :=
 ⟨k.os.trans h.os,k.tape.trans h.tape,k.output.trans h.output,LS h.size k.size,fun i h1 h2=>(k.block i (Ψ h1 h.size) h2).trans (h.block i h1 h2)⟩
theorem ae.br{own:Nat→Prop}{A B:World}(h:Q A B):ae own A B:=⟨h.os,h.tape,h.output,h.size,fun k h1 _=>h.block k h1⟩
theorem ae.mono{own own':Nat→Prop}{A B:World}(h:ae own A B)(ho:∀k,own k→own' k):ae own' A B:=⟨h.os,h.tape,h.output,h.size,fun k h1 h2=>h.block k h1 (fun e=>h2 (ho k e))⟩
theorem ae.setCell{own:Nat→Prop}{A B:World}(h:ae own A B){a:Addr}(ha:own a.block∨A.heap.size≤a.block)(v:Value):ae own A (B.setCell a v) :=
 ⟨h.os,h.tape,h.output,LS h.size (KeepsWalks.setCell B a v).size,fun k h1 h2=>(Below.heap_setCell _ _ _ _ (fun e=>by
  rcases ha with ha|ha
  ·exact h2 (by rw[e];exact ha)
  ·omega)).trans (h.block k h1 h2)⟩
theorem ae.below{own:Nat→Prop}{A B:World}{n:Nat}{w:World}(h:ae own A B)(hw:Below n w A)(hn:n≤A.heap.size)(ho:∀k,own k→n≤k):Below n w B :=
 hw.trans ⟨h.os,h.tape,h.output,h.size,fun k hk=>h.block k U (fun e=>by have:=ho k e;omega)⟩
theorem ae.itk{own:Nat→Prop}{lo:Nat}{A B:World}(h:ae own A B):Itk own lo A B :=
 ⟨h.os,h.tape,h.output,h.size,fun k _ h2 h3=>h.block k h2 h3,fun k o h1 _ h3=>(h.block k (aJ h1) h3).trans h1⟩
theorem ae.blk{own:Nat→Prop}{A B:World}(h:ae own A B){k:Nat}{t:TypeId}{cs:Array Value}(hb:Blk A k t cs)(ho:¬own k):Blk B k t cs:=(h.block k hb.lt ho).trans hb
theorem ae.owns{own:Nat→Prop}{A B:World}(h:ae own A B){base:Nat}{e:TypeId}{size:Nat}{v:Value}{n:Nat}{xs:List Value}(hr:A.ownsRow base e size v n xs)(ho:∀g,v.ownBlock=some g→¬own g):B.ownsRow base e size v n xs:=(h.itk (lo:=0)).owns hr ho
theorem kM{A:World}{base:Nat}{e:TypeId}{size:Nat}{v:Value}{n:Nat}{xs:List Value}(hr:A.ownsRow base e size v n xs){k:Nat}{t:TypeId}{cs:Array Value}(hb:Blk A k t cs)(aU:t≠e):∀g,v.ownBlock=some g→g≠k:=by
 intro g hg e';obtain⟨cs',hc⟩:=oH hr g hg;rw[e',show _=_ from hb] at hc
 injection hc with h3;injection h3 with _ h3 _;exact aU h3
theorem ae.grown{own:Nat→Prop}{A B C:World}(h:ae own A B){v:Value}{base:Nat}{e:TypeId}{size n:Nat}{xs:List Value}(hr:B.ownsRow base e size v n xs)(hg:B.grownBy C v.ownBlock)(hb:A.heap.size≤base):ae own A C :=
 ⟨hg.os.trans h.os,hg.tape.trans h.tape,hg.output.trans h.output,LS h.size hg.size,fun k h1 h2=>(hg.block k (Ψ h1 h.size) (fun e'=>by have:=(hr.lt k e'.symm).1;omega)).trans (h.block k h1 h2)⟩
def grow(F:Nat→Prop)(A B:World):Nat→Prop:=fun k=>F k∨(A.heap.size≤k∧k<B.heap.size)
theorem oJ{F:Nat→Prop}{A B:World}{k:Nat}(h:F k):grow F A B k:=.inl h
theorem lZ{F:Nat→Prop}{A B C:World}(h1:A.heap.size≤B.heap.size)(h2:B.heap.size≤C.heap.size){k:Nat}(h:grow (grow F A B) B C k):grow F A C k:=by
 rcases h with (h|h)|h
 ·exact .inl h
 ·exact .inr ⟨h.1,U⟩
 ·exact .inr ⟨U,h.2⟩
theorem ae.step{F:Nat→Prop}{A B C:World}(h:ae F A B)(k:ae (grow F A B) B C):ae F A C :=
 ⟨k.os.trans h.os,k.tape.trans h.tape,k.output.trans h.output,LS h.size k.size,fun i h1 h2=>(k.block i (Ψ h1 h.size) (fun hg=>hg.elim h2 (fun hg=>U))).trans (h.block i h1 h2)⟩
def mX(w:WrL):List Value:=[.int .i64 (w.1:Nat),ah w.2]
def aN(l:List WrL):List Value:=l.flatMap mX
theorem Np(w:WrL)(l:List WrL):aN (w::l)=mX w++aN l:=by simp[aN]
theorem iF(a b:List WrL):aN (a++b)=aN a++aN b:=by simp[aN]
theorem fQ(l:List WrL)(j:Nat)(h:j<l.length):(aN l)[j*2]?=some (.int .i64 (l[j].1:Nat))∧(aN l)[j*2+1]?=some (ah l[j].2):=by
 induction l generalizing j with
 | nil=>simp at h
 | cons w l ih =>
  cases j with
  | zero=>simp[Np,mX]
  | succ j =>
   have:=ih j (by simpa using h)
   rw[Np];have e:mX w=[.int .i64 (w.1:Nat),ah w.2]:=rfl;rw[e,show(j+1)*2=j*2+1+1 by omega,show j*2+1+1+1=(j*2+1)+1+1 by omega]
   simp only[Of,N0,Wg,abp];exact this
def sw(l:List Bytes):Array Value:=(l.map ah).toArray
theorem Qi(l:List Bytes)(i:Nat)(h:i<l.length):(sw l)[i]?=some (ah l[i]):=by simp[sw,h]
theorem uu(l:List Bytes)(i:Nat)(s:Bytes):(sw l).setIfInBounds i (ah s)=sw (l.set i s):=by
 simp[sw,List.map_set]
structure dq (w:World) (F:Nat→Prop) (b g:Nat) (cap:Nat) (pv:Value) (d:af):Prop where
 box:Blk w b 132 #[.slice (some ⟨g,0,none⟩) d.l.length cap,pv,.int .i64 d.b9,.bool d.dead]
 fb:F b
 disk:Blk w g 9 (sw d.l)
 fg:F g
 row:w.ownsRow 0 134 2 pv d.p.length (aN d.p)
 fp:∀k,pv.ownBlock=some k→F k
def cF(w:World)(F:Nat→Prop)(b:Nat)(d:af):Prop:=∃g cap pv,dq w F b g cap pv d
theorem dq.mono{w:World}{F G:Nat→Prop}{b g cap:Nat}{pv:Value}{d:af}(h:dq w F b g cap pv d)(k:∀i,F i→G i):dq w G b g cap pv d :=
 ⟨h.box,k _ h.fb,h.disk,k _ h.fg,h.row,fun i e=>k _ (h.fp i e)⟩
theorem cF.mono{w:World}{F G:Nat→Prop}{b:Nat}{d:af}(h:cF w F b d)(k:∀i,F i→G i):cF w G b d:=by
 obtain⟨g,cap,pv,h⟩:=h;exact⟨g,cap,pv,h.mono k⟩
theorem dq.beside{w w':World}{F G:Nat→Prop}{b g cap:Nat}{pv:Value}{d:af}(h:dq w F b g cap pv d)(t:ae G w w')(hd:∀k,F k→¬G k):dq w' F b g cap pv d :=
 ⟨t.blk h.box (hd _ h.fb),h.fb,t.blk h.disk (hd _ h.fg),h.fg,t.owns h.row (fun k e=>hd _ (h.fp k e)),h.fp⟩
theorem cF.beside{w w':World}{F G:Nat→Prop}{b:Nat}{d:af}(h:cF w F b d)(t:ae G w w')(hd:∀k,F k→¬G k):cF w' F b d:=by
 obtain⟨g,cap,pv,h⟩:=h;exact⟨g,cap,pv,h.beside t hd⟩
theorem dq.keep{w w':World}{F:Nat→Prop}{b g cap:Nat}{pv:Value}{d:af}(h:dq w F b g cap pv d)(q:Q w w'):dq w' F b g cap pv d :=
 h.beside (ae.br (own:=fun _=>False) q) (fun _ _=>id)
theorem cF.keep{w w':World}{F:Nat→Prop}{b:Nat}{d:af}(h:cF w F b d)(q:Q w w'):cF w' F b d :=
 h.beside (ae.br (own:=fun _=>False) q) (fun _ _=>id)
theorem Gb{w:World}{a b:Nat}{t u:TypeId}{cs ds:Array Value}(h:Blk w a t cs)(k:Blk w b u ds)(aU:t≠u):a≠b:=by
 rintro rfl;unfold Blk at h k;rw[h] at k;injection k with k;injection k with _ k _;exact aU k
theorem bO(w:World)(a:Addr)(v:Value):(w.setCell a v).heap.size=w.heap.size:=by
 unfold World.setCell;split<;>simp
theorem dq.ne{w:World}{F:Nat→Prop}{b g cap:Nat}{pv:Value}{d:af}(h:dq w F b g cap pv d):g≠b∧(∀k,pv.ownBlock=some k→k≠b∧k≠g) :=
 ⟨(Gb h.box h.disk Z).symm,fun k e=>⟨kM h.row h.box Z k e,kM h.row h.disk Z k e⟩⟩
theorem dq.ia{w:World}{F:Nat→Prop}{b g cap:Nat}{pv:Value}{d:af}(h:dq w F b g cap pv d)(i:Nat)(v:Value):ae F w (w.setCell ⟨b,i,none⟩ v)∧Blk (w.setCell ⟨b,i,none⟩ v) g 9 (sw d.l) ∧
  (w.setCell ⟨b,i,none⟩ v).ownsRow 0 134 2 pv d.p.length (aN d.p)∧Blk (w.setCell ⟨b,i,none⟩ v) b 132 (#[.slice (some ⟨g,0,none⟩) d.l.length cap,pv,.int .i64 d.b9,.bool d.dead].setIfInBounds i v):=by
 have t:ae (fun k=>k=b) w (w.setCell ⟨b,i,none⟩ v):=ae.setCell (a:=⟨b,i,none⟩) (ae.refl (fun k=>k=b) w) (.inl rfl) v
 exact⟨(ae.refl F w).setCell (.inl h.fb) v,t.blk h.disk h.ne.1,t.owns h.row (fun k e=>(h.ne.2 k e).1),h.box.set i v⟩
theorem dq.b9{w:World}{F:Nat→Prop}{b g cap:Nat}{pv:Value}{d:af}(h:dq w F b g cap pv d)(f:Int):dq (w.setCell ⟨b,2,none⟩ (.int .i64 f)) F b g cap pv { d with b9:=f }∧ae F w (w.setCell ⟨b,2,none⟩ (.int .i64 f)):=by
 obtain⟨h1,h2,h3,h4⟩:=h.ia 2 (.int .i64 f);exact⟨⟨h4,h.fb,h2,h.fg,h3,h.fp⟩,h1⟩
theorem dq.dead{w:World}{F:Nat→Prop}{b g cap:Nat}{pv:Value}{d:af}(h:dq w F b g cap pv d)(x:Bool):dq (w.setCell ⟨b,3,none⟩ (.bool x)) F b g cap pv { d with dead:=x }∧ae F w (w.setCell ⟨b,3,none⟩ (.bool x)):=by
 obtain⟨h1,h2,h3,h4⟩:=h.ia 3 (.bool x);exact⟨⟨h4,h.fb,h2,h.fg,h3,h.fp⟩,h1⟩
theorem dq.empty{w:World}{F:Nat→Prop}{b g cap:Nat}{pv:Value}{d:af}(h:dq w F b g cap pv d):dq (w.setCell ⟨b,1,none⟩ (.slice none 0 0)) F b g cap (.slice none 0 0) { d with p:=[] }∧ae F w (w.setCell ⟨b,1,none⟩ (.slice none 0 0)):=by
 obtain⟨h1,h2,h3,h4⟩:=h.ia 1 (.slice none 0 0);exact⟨⟨h4,h.fb,h2,h.fg,⟨rfl,.inl ⟨rfl,rfl⟩⟩,fun k e=>by simp[Value.ownBlock] at e⟩,h1⟩
theorem dq.append{w w2:World}{F:Nat→Prop}{b g cap:Nat}{pv:Value}{d:af}(h:dq w F b g cap pv d)(x:WrL)(g2 cap2:Nat)(hr:w2.ownsRow 0 134 2 (.slice (some ⟨g2,0,none⟩) (d.p.length+1) cap2) (d.p.length+1) (aN d.p++mX x))(hg:w.grownBy w2 pv.ownBlock)(ho:pv.ownBlock=some g2∨w.heap.size<g2)(ay:g2<w2.heap.size):
  Blk w2 b 132 #[.slice (some ⟨g,0,none⟩) d.l.length cap,pv,.int .i64 d.b9,.bool d.dead] ∧
  dq (w2.setCell ⟨b,1,none⟩ (.slice (some ⟨g2,0,none⟩) (d.p.length+1) cap2)) (grow F w (w2.setCell ⟨b,1,none⟩ (.slice (some ⟨g2,0,none⟩) (d.p.length+1) cap2))) b g cap (.slice (some ⟨g2,0,none⟩) (d.p.length+1) cap2) { d with p:=d.p++[x] } ∧
  ae F w (w2.setCell ⟨b,1,none⟩ (.slice (some ⟨g2,0,none⟩) (d.p.length+1) cap2)):=by
 have Bh:Blk w2 b 132 #[.slice (some ⟨g,0,none⟩) d.l.length cap,pv,.int .i64 d.b9,.bool d.dead]:=(hg.block b h.box.lt (fun e=>(h.ne.2 b e.symm).1 rfl)).trans h.box
 have Yo:Blk w2 g 9 (sw d.l):=(hg.block g h.disk.lt (fun e=>(h.ne.2 g e.symm).2 rfl)).trans h.disk
 have t:ae (fun k=>k=b) w2 (w2.setCell ⟨b,1,none⟩ (.slice (some ⟨g2,0,none⟩) (d.p.length+1) cap2)):=ae.setCell (a:=⟨b,1,none⟩) (ae.refl (fun k=>k=b) w2) (.inl rfl) _
 have bP:=bO w2 ⟨b,1,none⟩ (.slice (some ⟨g2,0,none⟩) (d.p.length+1) cap2);have tw:ae F w w2:=⟨hg.os,hg.tape,hg.output,hg.size,fun k h1 h2=>hg.block k h1 (fun e=>h2 (h.fp k e.symm))⟩
 refine⟨Bh,⟨Bh.set 1 _,.inl h.fb,t.blk Yo h.ne.1,.inl h.fg,?_,fun k e=>?_⟩,tw.trans ((ae.refl F w2).setCell (a:=⟨b,1,none⟩) (.inl h.fb) _)⟩
 ·rw[iF,show(d.p++[x]).length=d.p.length+1 by simp,show aN [x]=mX x by simp[aN]]
  exact t.owns hr (kM hr Bh Z)
 ·simp only[Value.ownBlock,M3] at e
  subst e;rcases ho with ho|ho
  ·exact .inl (h.fp g2 ho)
  ·exact .inr ⟨U,by rw[bP];exact ay⟩
theorem nC:(prog.info? 134).map (fun i=>(i.zero,i.size,i.bytes))=some (some (.agg #[.int .i64 0,ah []]),2,24):=by kernel_rfl
theorem Qs.dr{A B:World}(h:Q A B):Q A B.drew:=h.trans (Q.drew _)
theorem Qs.al{A B:World}(h:Q A B)(o:Obj):Q A (B.alloc o):=h.trans (Q.alloc _ _)
theorem Qs.st{A B:World}(h:Q A B)(a:Addr)(v:Value)(ha:A.heap.size≤a.block):Q A (B.setCell a v):=Q.setCell h ha v
theorem aI{w w':World}{a:Addr}{v:Value}(q:Q w w')(h:w.cell? a=some v):w'.cell? a=some v:=aj q h
theorem two{w w':World}(q:Q w w'){a0 a1:Addr}{v0 v1:Value}(h0:w.cell? a0=some v0)(h1:w.cell? a1=some v1):
  w'.cell? a0=some v0∧w'.cell? a1=some v1:=⟨aj q h0,aj q h1⟩
theorem five{w w':World}(q:Q w w'){a0 a1 a2 a3 a4:Addr}{v0 v1 v2 v3 v4:Value}(h0:w.cell? a0=some v0)(h1:w.cell? a1=some v1)(h2:w.cell? a2=some v2)(h3:w.cell? a3=some v3)(h4:w.cell? a4=some v4):
  w'.cell? a0=some v0∧w'.cell? a1=some v1∧w'.cell? a2=some v2∧w'.cell? a3=some v3∧w'.cell? a4=some v4:=⟨aj q h0,aj q h1,aj q h2,aj q h3,aj q h4⟩
theorem three{w w':World}(q:Q w w'){a0 a1 a2:Addr}{v0 v1 v2:Value}(h0:w.cell? a0=some v0)(h1:w.cell? a1=some v1)(h2:w.cell? a2=some v2):
  w'.cell? a0=some v0∧w'.cell? a1=some v1∧w'.cell? a2=some v2:=⟨aj q h0,aj q h1,aj q h2⟩
theorem dq.lay{w:World}{F:Nat→Prop}{b g cap:Nat}{pv:Value}{d:af}(h:dq w F b g cap pv d)(i:Nat)(s:Bytes):dq (w.setCell ⟨g,i,none⟩ (ah s)) F b g cap pv { d with l:=d.l.set i s }∧ae F w (w.setCell ⟨g,i,none⟩ (ah s)):=by
 have t:ae (fun k=>k=g) w (w.setCell ⟨g,i,none⟩ (ah s)):=ae.setCell (a:=⟨g,i,none⟩) (ae.refl (fun k=>k=g) w) (.inl rfl) _
 have Bh:=t.blk h.box h.ne.1.symm;refine⟨⟨?_,h.fb,?_,h.fg,t.owns h.row (fun k e=>(h.ne.2 k e).2),h.fp⟩,(ae.refl F w).setCell (a:=⟨g,i,none⟩) (.inl h.fg) _⟩
 ·rw[show({ d with l:=d.l.set i s }:af).l.length=d.l.length from Rx];exact Bh
 ·have:=h.disk.set i (ah s)
  rw[uu] at this;exact this
theorem ae.q{F:Nat→Prop}{A B C:World}(h:ae F A B)(k:Q B C):ae F A C:=h.trans (ae.br k)
theorem dq.js{w:World}{F:Nat→Prop}{b g cap:Nat}{pv:Value}{d:af}(h:dq w F b g cap pv d):∃pa pc,pv=.slice pa d.p.length pc∧∀m (hm:m<d.p.length),∃g2,pa=some ⟨g2,0,none⟩∧w.cell? ⟨g2,m*2,none⟩=some (.int .i64 (d.p[m].1:Nat))∧w.cell? ⟨g2,m*2+1,none⟩=some (ah d.p[m].2):=by
 obtain⟨pa,pc,D5,nO⟩:=aY h.row;have bX:=Sl.cx h.row;subst D5;refine⟨pa,pc,rfl,fun m hm=>?_⟩
 obtain⟨g2,rfl⟩:=nO U;obtain⟨_,a,c,hv,kR⟩:=bX;obtain⟨b2,off,ha,aP⟩:=kR U;simp only[Value.slice.injEq] at hv;rw[←hv.1] at ha;simp only[M3,Addr.mk.injEq] at ha;obtain⟨rfl,rfl,_⟩:=ha;have h1:=aP _ _ (fQ d.p m hm).1;have h2:=aP _ _ (fQ d.p m hm).2;rw[On] at h1 h2;exact⟨g2,rfl,h1,h2⟩
theorem dq.pw{w:World}{F:Nat→Prop}{b g cap:Nat}{pv:Value}{d:af}(h:dq w F b g cap pv d)(i:Nat)(hi:i<d.l.length):w.cell? ⟨g,i,none⟩=some (ah (d.l.getD i []))∧w.frozen? ⟨g,i,none⟩=false:=by
 refine⟨?_,h.disk.frozen i⟩;rw[h.disk.cell i _ (Qi d.l i hi),LR,LN hi];rfl
theorem ae.cell{F:Nat→Prop}{A B:World}(h:ae F A B){a:Addr}{v:Value}(hc:A.cell? a=some v)(hn:¬F a.block):B.cell? a=some v:=by
 have:=Io hc;rw[←hc];simp only[World.cell?,h.block a.block this hn]
abbrev au(b:Nat):Value:=.pointer (some ⟨b,0,none⟩)
def SlO(w:World)(F:Nat→Prop)(v:Value)(n size:Nat)(xs:List Value):Prop:=Sl w v n size xs∧(0<n→∃b off,(∃cap,v=.slice (some ⟨b,off,none⟩) n cap)∧b<w.heap.size∧¬F b)
theorem SlO.keep{w w':World}{F:Nat→Prop}{v:Value}{n size:Nat}{xs:List Value}(h:SlO w F v n size xs)(t:ae F w w'):SlO w' (grow F w w') v n size xs:=by
 obtain⟨h1,h2⟩:=h;refine⟨?_,fun hn=>?_⟩
 ·obtain⟨hl,a,cap,hv,hc⟩:=h1
  refine⟨hl,a,cap,hv,fun hn=>?_⟩
  obtain⟨b,off,⟨cap',e⟩,hb,hF⟩:=h2 hn;obtain⟨b2,off2,rfl,tO⟩:=hc hn;rw[hv] at e;simp only[Value.slice.injEq,M3,Addr.mk.injEq] at e;obtain⟨⟨rfl,rfl,_⟩,_⟩:=e;refine⟨b2,off2,rfl,fun j u hj=>?_⟩
  have:=tO j u hj;rw[←this];simp only[World.cell?,t.block b2 hb hF]
 ·obtain⟨b,off,e,hb,hF⟩:=h2 hn
  exact⟨b,off,e,Ψ hb t.size,fun hg=>hg.elim hF (fun hg=>U)⟩
def jd(b:Nat)(j:JL):Array Value:=#[au b,.int .u64 (j.s.e:Nat),.int .u64 (j.s.s:Nat),.int .i64 (j.s.log:Nat),.int .i64 (j.s.place:Nat),.int .i64 (j.k:Nat),.int .u64 (j.next:Nat),.int .i64 (j.used:Nat)]
structure cG (w:World) (F:Nat→Prop) (p b:Nat) (j:JL):Prop where
 box:Blk w p 216 (jd b j)
 fp:F p
 dev:cF w F b j.d
 lt:∀k,F k→k<w.heap.size
theorem cG.mono{w:World}{F G:Nat→Prop}{p b:Nat}{j:JL}(h:cG w F p b j)(k:∀i,F i→G i)(hl:∀i,G i→i<w.heap.size):cG w G p b j:=⟨h.box,k _ h.fp,h.dev.mono k,hl⟩
theorem cG.beside{w w':World}{F G:Nat→Prop}{p b:Nat}{j:JL}(h:cG w F p b j)(t:ae G w w')(hd:∀k,F k→¬G k):cG w' F p b j:=⟨t.blk h.box (hd _ h.fp),h.fp,h.dev.beside t hd,fun k hk=>Ψ (h.lt k hk) t.size⟩
theorem fW.pp{j:JL}(h:fW j):j.aE.Ok:=by
 have h1:=h.log2;have h2:=h.log;have:=Sx (j.s.place+j.used) h2;exact⟨Sx _ Z,h.next,by show j.s.log<_;omega,by show(j.s.place+j.used)%j.s.log<_;omega⟩
theorem cG.keep{w w':World}{F:Nat→Prop}{p b:Nat}{j:JL}(h:cG w F p b j)(q:Q w w'):cG w' F p b j:=h.beside (ae.br (own:=fun _=>False) q) (fun _ _=>id)
theorem Blk.c8{w:World}{k:Nat}{t:TypeId}{a0 a1 a2 a3 a4 a5 a6 a7:Value}(h:Blk w k t #[a0,a1,a2,a3,a4,a5,a6,a7]):
  w.cell? ⟨k,0,none⟩=some a0∧w.cell? ⟨k,1,none⟩=some a1∧w.cell? ⟨k,2,none⟩=some a2∧w.cell? ⟨k,3,none⟩=some a3∧w.cell? ⟨k,4,none⟩=some a4∧w.cell? ⟨k,5,none⟩=some a5∧w.cell? ⟨k,6,none⟩=some a6∧w.cell? ⟨k,7,none⟩=some a7 :=
 ⟨h.cell 0 _ rfl,h.cell 1 _ rfl,h.cell 2 _ rfl,h.cell 3 _ rfl,h.cell 4 _ rfl,h.cell 5 _ rfl,h.cell 6 _ rfl,h.cell 7 _ rfl⟩
theorem SlO.lit{w:World}{F:Nat→Prop}(cs:Array Value)(e:TypeId)(n size:Nat)(h:cs.size=n*size)(hF:¬F w.heap.size):SlO (w.alloc (.cells cs e)) F (.slice (some ⟨w.heap.size,0,none⟩) n n) n size cs.toList :=
 ⟨Sl.lit w cs e n size h,fun _=>⟨_,_,⟨_,rfl⟩,κ,hF⟩⟩
theorem SlO.value{w:World}{F:Nat→Prop}{v:Value}{n size:Nat}{xs:List Value}(h:SlO w F v n size xs):∃a cap,v=.slice a n cap∧(0<n→∃b off,a=some ⟨b,off,none⟩∧b<w.heap.size∧¬F b∧∀j u,xs[j]?=some u→w.cell? ⟨b,off+j,none⟩=some u):=by
 obtain⟨⟨_,a,cap,rfl,hc⟩,hF⟩:=h;refine⟨a,cap,rfl,fun hn=>?_⟩
 obtain⟨kb,ko,rfl,aP⟩:=hc hn;obtain⟨b,off,⟨cap',e⟩,hb,hFb⟩:=hF hn;simp only[Value.slice.injEq,M3,Addr.mk.injEq] at e;obtain⟨⟨rfl,_,_⟩,_⟩:=e;exact⟨_,_,rfl,hb,hFb,aP⟩
structure eC (w:World) (F:Nat→Prop) (v:Value) (ws:List WrL):Prop where
 sl:SlO w F v ws.length 2 (aN ws)
 num:∀x∈ws,x.1≤9223372036854775807∧x.2.length≤9223372036854775807
end
section
open Go.RowKit Go.MapKept
def cK{α:Type}(k:Nat)(v:α):List (Nat×α)→List (Nat×α)
 | []=>[(k,v)]
 | x::m=>if x.1=k then(k,v)::m else x::cK k v m
def bC{α:Type}(k:Nat):List (Nat×α)→Option α
 | []=>none
 | x::m=>if x.1=k then some x.2 else bC k m
def kN{α:Type}(k:Nat):List (Nat×α)→List (Nat×α)
 | []=>[]
 | x::m=>if x.1=k then m else x::kN k m
abbrev dX(k:Nat):Value:=.int .i64 (k:Nat)
abbrev kvI(e:MapEntry):Value×Value:=(e.key,e.val)
abbrev kvN(x:Nat×Value):Value×Value:=(dX x.1,x.2)
def di(w:World)(b:Nat)(m:List (Nat×Value)):Prop :=
 ∃es clock,w.heap[b]?=some (.map es clock)∧Stamped es clock∧es.toList.map kvI=m.map kvN
theorem di.lt{w:World}{b:Nat}{m:List (Nat×Value)}(h:di w b m):b<w.heap.size:=by
 obtain⟨es,clock,hb,_⟩:=h;exact(Sp.1 hb).1
theorem di.same{w w':World}{b:Nat}{m:List (Nat×Value)}(h:di w b m)(hb:w'.heap[b]?=w.heap[b]?):di w' b m:=by
 obtain⟨es,clock,h1,h2,h3⟩:=h;exact⟨es,clock,hb.trans h1,h2,h3⟩
theorem di.made(w:World):di (w.alloc (.map #[] 0)) w.heap.size []:=⟨#[],0,(MapKept.heap_alloc w _).1,stamped_empty 0,rfl⟩
theorem AG{a b:Nat}(h:dX a=dX b):a=b:=by
 injection h with _ h;omega
theorem IQ(a b:Nat):Instr.sameNow (.int .i64) (dX a) (dX b)=some (decide (a=b)):=by
 by_cases h:a=b
 ·subst h;simp[Instr.sameNow]
 ·have:¬((a:Int)=b):=U
  simp[Instr.sameNow,this,h]
theorem di.nodup{w:World}{b:Nat}{m:List (Nat×Value)}(h:di w b m):(m.map (·.1)).Nodup:=by
 obtain⟨es,clock,_,⟨_,_,h3⟩,h4⟩:=h;have e:es.toList.map (·.key)=m.map fun x=>dX x.1:=by
  have:=Pu (List.map Prod.fst) h4;simpa[Rr,Wb] using this
 rw[e] at h3;have:(m.map fun x=>dX x.1)=(m.map (·.1)).map dX:=by simp[Rr,Wb]
 rw[this] at h3;exact(abv.1 h3).imp (fun aU e=>aU (Pu dX e))
theorem lz(k:Nat):∀(m:List (Nat×Value)) (l:List MapEntry) (i:Nat),l.map kvI=m.map kvN →
  (bC k m=none∧Instr.findNow (.int .i64) (dX k) l i=some none∧(∀e∈l,e.key≠dX k)∧(∀v,cK k v m=m++[(k,v)])∧kN k m=m) ∨
  ∃j e v,l[j]?=some e∧e.key=dX k∧e.val=v∧m[j]?=some (k,v)∧bC k m=some v∧Instr.findNow (.int .i64) (dX k) l i=some (some (i+j,v))∧(∀v',cK k v' m=m.set j (k,v'))∧kN k m=m.eraseIdx j
 | [],l,i,h=>by
  have:l=[]:=by simpa using h
  subst this
  exact Or.inl ⟨rfl,rfl,κ,fun _=>rfl,rfl⟩
 | x::m,l,i,h=>by
  cases l with
  | nil=>simp at h
  | cons e l =>
   simp only[No,abg] at h
   obtain⟨h1,h2⟩:=h
   have hk:e.key=dX x.1:=Pu Prod.fst h1
   have hv:e.val=x.2:=Pu Prod.snd h1
   by_cases hx:x.1=k
   ·refine Or.inr ⟨0,e,x.2,rfl,by rw[hk,hx],hv,by rw[←hx];rfl,by simp[bC,hx],?_,fun v'=>by simp[cK,hx],by simp[kN,hx]⟩
    have hs:=IQ k k
    rw[MM rfl] at hs
    simp[Instr.findNow,hk,hx,hv,hs]
   ·have hs:Instr.findNow (.int .i64) (dX k) (e::l) i=Instr.findNow (.int .i64) (dX k) l (i+1):=by
     have:=IQ k x.1;simp[Instr.findNow,hk,this,Z3 hx]
    rcases lz k m l (i+1) h2 with ⟨a,b,c,d,dd⟩|⟨j,e',v,a,b,c,d,f,g,p,dd⟩
    ·refine Or.inl ⟨by simp[bC,hx,a],by rw[hs,b],?_,fun v=>by simp[cK,hx,d],by simp[kN,hx,dd]⟩
     intro e' OB;rcases MA.1 OB with rfl|OB
     ·rw[hk]
      intro hh;exact hx (AG hh)
     ·exact c e' OB
    ·exact Or.inr ⟨j+1,e',v,by simpa using a,b,c,by simpa using d,by simp[bC,hx,f],by rw[hs,g];simp;omega,fun v'=>by simp[cK,hx,p],by simp[kN,hx,dd]⟩
theorem uH{P:Program}{w:World}{b:Nat}{m:List (Nat×Value)}(h:di w b m)(t kt et:TypeId)(hm:P.underlying t=some (.map kt et))(hd:P.underlying kt=some (.int .i64))(z:Value)(hz:(zeroValue et).run P w=.ok z w)(k:Nat)(ok:Bool):
  (Instr.lookup t (.map (some b)) (dX k) ok).run P w=.ok (if ok then .tuple #[(bC k m).getD z,.bool (bC k m).isSome] else(bC k m).getD z) w:=by
 obtain⟨es,clock,hb,hs,hk⟩:=h;have iN:IsKey (.int .i64) (dX k):=rfl;rcases lz k m es.toList 0 hk with ⟨a,f,_,_⟩|⟨j,e,v,_,_,_,_,a,f,_⟩
 ·simp[Instr.lookup,run_underlying hm,MapKept.run_getObj_map hb,run_checkKey hd iN,run_findKey hd f,hz,Result.andThen,a]
 ·simp[Instr.lookup,run_underlying hm,MapKept.run_getObj_map hb,run_checkKey hd iN,run_findKey hd f,Result.andThen,a]
theorem ME{P:Program}{w:World}{b:Nat}{m:List (Nat×Value)}(h:di w b m)(t kt et:TypeId)(hm:P.underlying t=some (.map kt et))(hd:P.underlying kt=some (.int .i64))(k:Nat)(v:Value):
  ∃w',(Instr.mapUpdate t (.map (some b)) (dX k) v).run P w=.ok () w'∧di w' b (cK k v m)∧w.grownBy w' (some b)∧w'.heap.size=w.heap.size:=by
 obtain⟨es,clock,hb,hs,hk⟩:=h;have iN:IsKey (.int .i64) (dX k):=rfl;rcases lz k m es.toList 0 hk with ⟨a,f,g,p,_⟩|⟨j,e,u,hj,he,hv,hmj,a,f,p,_⟩
 ·refine⟨{ w with heap:=w.heap.setIfInBounds b (.map (es.push { key:=dX k,val:=v,born:=clock }) (clock+1)) },?_,⟨_,_,(heap_set hb).1,stamped_push hs g,?_⟩,⟨rfl,rfl,rfl,κ,fun i _ hi=>(heap_set hb).2 i (fun e=>hi (by rw[e]))⟩,κ⟩
  ·simp[Instr.mapUpdate,run_underlying hm,MapKept.run_getObj_map hb,run_checkKey hd iN,run_findKey hd f,run_setObj_map _ hb,Result.andThen]
  ·rw[p];simp[hk]
 ·have xR:es[j]?=some e:=by simpa using hj
  refine⟨{ w with heap:=w.heap.setIfInBounds b (.map (es.modify j fun e=>{ e with key:=dX k,val:=v }) clock) },?_,⟨_,_,(heap_set hb).1,stamped_modify hs _ _ (fun _ _=>rfl) (fun e' _ OB=>by rw[xR] at OB;cases OB;exact he.symm),?_⟩,⟨rfl,rfl,rfl,κ,fun i _ hi=>(heap_set hb).2 i (fun e=>hi (by rw[e]))⟩,κ⟩
  ·simp[Instr.mapUpdate,run_underlying hm,MapKept.run_getObj_map hb,run_checkKey hd iN,run_findKey hd f,xR,he,run_keyThatStays iN,run_setObj_map _ hb,Result.andThen]
  ·rw[p]
   apply List.ext_getElem?;intro i;have hi:=Pu (fun l=>l[i]?) hk
   simp only[SR] at hi;simp only[SR,Array.getElem?_toList,T0,abu];by_cases GQ:j=i
   ·subst GQ
    have ay:j<m.length:=(NX.1 hmj).1;simp[xR,ay]
   ·simp[GQ];simpa using hi
theorem rC{α β:Type}(f:α→β):∀(l:List α) (j:Nat),(l.eraseIdx j).map f=(l.map f).eraseIdx j
 | [],j=>rfl
 | x::l,0=>rfl
 | x::l,j+1=>by simp[rC f l j]
theorem MF{P:Program}{w:World}{b:Nat}{m:List (Nat×Value)}(h:di w b m)(t kt et:TypeId)(hm:P.underlying t=some (.map kt et))(hd:P.underlying kt=some (.int .i64))(k:Nat):
  ∃w',(∀ty,(Builtin.delete_ #[t,kt] ty #[.map (some b),dX k]).run P w=.ok (.tuple #[]) w')∧di w' b (kN k m)∧w.grownBy w' (some b)∧w'.heap.size=w.heap.size:=by
 obtain⟨es,clock,hb,hs,hk⟩:=h;have iN:IsKey (.int .i64) (dX k):=rfl;rcases lz k m es.toList 0 hk with ⟨a,f,g,_,p⟩|⟨j,e,u,hj,he,hv,hmj,a,f,_,p⟩
 ·refine⟨{ w with heap:=w.heap.setIfInBounds b (.map es clock) },?_,⟨_,_,(heap_set hb).1,hs,by rw[p];exact hk⟩,⟨rfl,rfl,rfl,κ,fun i _ hi=>(heap_set hb).2 i (fun e=>hi (by rw[e]))⟩,κ⟩
  intro ty;simp[Builtin.delete_,run_underlying hm,MapKept.run_getObj_map hb,run_checkKey hd iN,run_findKey hd f,run_setObj_map _ hb,Result.andThen]
 ·refine⟨{ w with heap:=w.heap.setIfInBounds b (.map (es.eraseIdxIfInBounds j) clock) },?_,⟨_,_,(heap_set hb).1,stamped_erase hs j,?_⟩,⟨rfl,rfl,rfl,κ,fun i _ hi=>(heap_set hb).2 i (fun e=>hi (by rw[e]))⟩,κ⟩
  ·intro ty;simp[Builtin.delete_,run_underlying hm,MapKept.run_getObj_map hb,run_checkKey hd iN,run_findKey hd f,run_setObj_map _ hb,Result.andThen]
  ·have ay:j<es.size:=by
    have:=(NX.1 hj).1;simpa using this
   rw[p,rC,←hk,←rC];congr 1;unfold Array.eraseIdxIfInBounds;rw[dif_pos ay];simp
theorem Px{P:Program}{w:World}{b:Nat}{m:List (Nat×Value)}(h:di w b m)(t kt et ty:TypeId)(hm:P.underlying t=some (.map kt et)):
  ∃w',(Builtin.clear_ #[t] ty #[.map (some b)]).run P w=.ok (.tuple #[]) w'∧di w' b []∧w.grownBy w' (some b)∧w'.heap.size=w.heap.size:=by
 obtain⟨es,clock,hb,hs,hk⟩:=h;refine⟨{ w with heap:=w.heap.setIfInBounds b (.map #[] clock) },?_,⟨_,_,(heap_set hb).1,stamped_empty _,rfl⟩,⟨rfl,rfl,rfl,κ,fun i _ hi=>(heap_set hb).2 i (fun e=>hi (by rw[e]))⟩,κ⟩
 simp[Builtin.clear_,run_underlying hm,MapKept.run_getObj_map hb,run_setObj_map _ hb,Result.andThen]
section
variable {P:Program} (w:World) {ops:Array Oper} {rest:List Oper} {o:Oper} {a:Act} {Q:Exit→Act→World→Prop}
theorem uR(hg:o.guard=none)(mo x vo:Operand)(t:TypeId)(fB:o.op=Op.mapUpdate t mo x vo)
  (kt et:TypeId) (hm:P.underlying t=some (.map kt et)) (hd:P.underlying kt=some (.int .i64)) (b:Nat) (m:List (Nat×Value)) (h:di w b m) (k:Nat) (v:Value) (Vv:a.eval mo=.map (some b)) (hx:a.eval x=dX k) (hv:a.eval vo=v)
  (hK:∀w',di w' b (cK k v m)→w.grownBy w' (some b)→w'.heap.size=w.heap.size→wpList P ops Q rest (a.put o.dst undef) w'):wpList P ops Q (o::rest) a w:=by
 refine wpList_plain hg fun K' hK'=>?_
 obtain⟨w',nP,r1,r2,r3⟩:=ME h t kt et hm hd k v;unfold Oper.wp;simp[execOp,fB,Vv,hx,hv,nP,Result.andThen];exact hK' _ _ (hK w' r1 r2 r3)
theorem jD(hg:o.guard=none)(mo x:Operand)(t:TypeId)(ok:Bool)(fB:o.op=Op.lookup t mo x ok)
  (kt et:TypeId) (hm:P.underlying t=some (.map kt et)) (hd:P.underlying kt=some (.int .i64)) (z:Value) (hz:(zeroValue et).run P w=.ok z w) (b:Nat) (m:List (Nat×Value)) (h:di w b m) (k:Nat) (Vv:a.eval mo=.map (some b)) (hx:a.eval x=dX k)
  (hK:wpList P ops Q rest (a.put o.dst (if ok then .tuple #[(bC k m).getD z,.bool (bC k m).isSome] else(bC k m).getD z)) w):wpList P ops Q (o::rest) a w:=by
 refine wpList_plain hg fun K' hK'=>?_
 have nP:=uH h t kt et hm hd z hz k ok;unfold Oper.wp;simp[execOp,fB,Vv,hx,nP,Result.andThen];exact hK' _ _ hK
theorem IU{P:Program}{w:World}{b:Nat}{m:List (Nat×Value)}(h:di w b m)(t kt et r:TypeId)(hm:P.underlying t=some (.map kt et)):
  (Builtin.len_ #[t] r #[.map (some b)]).run P w=.ok (.int .i64 m.length) w:=by
 obtain⟨es,clock,hb,hs,hk⟩:=h;have:es.size=m.length:=by have:=Pu List.length hk;simpa using this
 simp[Builtin.len_,run_underlying hm,MapKept.run_getObj_map hb,goInt,Result.andThen,this]
end
theorem y8{α:Type}(k l:Nat)(v:α)(m:List (Nat×α)):bC l (cK k v m)=if k=l then some v else bC l m:=by
 induction m with
 | nil=>simp[cK,bC]
 | cons x m ih =>
  by_cases hx:x.1=k
  ·by_cases hl:k=l<;>simp[cK,bC,hx,hl]
  ·by_cases hl:k=l
   ·subst hl;simp[cK,bC,hx,ih]
   ·simp[cK,bC,hx,ih,hl]
theorem gH{α:Type}{k:Nat}{v:α}{m:List (Nat×α)}(h:bC k m=some v):(k,v)∈m:=by
 induction m with
 | nil=>simp[bC] at h
 | cons x m ih =>
  unfold bC at h;split at h
  ·rename_i hx
   injection h with h;subst hx h;exact Mu ..
  ·exact Mn _ (ih h)
theorem kL{α:Type}{k:Nat}{v:α}{m:List (Nat×α)}(hn:(m.map (·.1)).Nodup)(h:(k,v)∈m):bC k m=some v:=by
 induction m with
 | nil=>simp at h
 | cons x m ih =>
  simp only[No,Sa] at hn;unfold bC;rcases MA.1 h with h|h
  ·subst h;simp
  ·rw[η]
   ·exact ih hn.2 h
   ·intro e
    exact hn.1 (MD.2 ⟨(k,v),h,e.symm⟩)
theorem oK{α:Type}{k:Nat}{m:List (Nat×α)}:bC k m=none↔∀x∈m,x.1≠k:=by
 induction m with
 | nil=>simp[bC]
 | cons x m ih =>
  unfold bC;by_cases hx:x.1=k
  ·simp[hx]
  ·simp[hx,ih]
theorem Ip{α:Type}(k:Nat)(m:List (Nat×α))(hn:(m.map (·.1)).Nodup):kN k m=m.filter fun x=>x.1 != k:=by
 induction m with
 | nil=>rfl
 | cons x m ih =>
  simp only[No,Sa] at hn;unfold kN;by_cases hx:x.1=k
  ·rw[Φ hx,adB (by simp[hx])]
   symm;refine acS.2 (fun y hy=>?_)
   have:y.1≠k:=fun e=>hn.1 (MD.2 ⟨y,hy,by rw[e,hx]⟩)
   simpa using this
  ·rw[η hx,ih hn.2,adK (by simpa using hx)]
theorem IV{α:Type}(k:Nat)(v:α)(m:List (Nat×α)):(cK k v m).length=if (bC k m).isSome then m.length else m.length+1:=by
 induction m with
 | nil=>rfl
 | cons x m ih =>
  unfold cK bC;by_cases hx:x.1=k
  ·simp[hx]
  ·simp only[hx,ON,Θ,ih]
   split<;>rfl
theorem Qj{α β:Type}(f:α→β)(k:Nat)(v:α)(m:List (Nat×α)):(cK k v m).map (fun x=>(x.1,f x.2))=cK k (f v) (m.map fun x=>(x.1,f x.2)):=by
 induction m with
 | nil=>rfl
 | cons x m ih =>
  unfold cK;by_cases hx:x.1=k
  ·simp[hx]
  ·simp[hx,ih]
theorem Qk{α β:Type}(f:α→β)(k:Nat)(m:List (Nat×α)):bC k (m.map fun x=>(x.1,f x.2))=(bC k m).map f:=by
 induction m with
 | nil=>rfl
 | cons x m ih =>
  simp only[No,bC];by_cases hx:x.1=k
  ·simp[hx]
  ·simp[hx,ih]
theorem Ql{α β:Type}(f:α→β)(k:Nat)(m:List (Nat×α)):(kN k m).map (fun x=>(x.1,f x.2))=kN k (m.map fun x=>(x.1,f x.2)):=by
 induction m with
 | nil=>rfl
 | cons x m ih =>
  unfold kN;by_cases hx:x.1=k
  ·simp[hx]
  ·simp[hx,ih]
theorem Nq{α:Type}(k:Nat)(v:α)(m:List (Nat×α)):∀y,y∈(cK k v m).map (·.1)↔y=k∨y∈m.map (·.1):=by
 induction m with
 | nil=>simp[cK]
 | cons x m ih =>
  intro y;unfold cK;by_cases hx:x.1=k
  ·simp[hx]
  ·simp only[hx,ON,No,MA,ih]
   grind
end
end Go.Proofs.YtbkahhebmpehnaaGreatDoor
