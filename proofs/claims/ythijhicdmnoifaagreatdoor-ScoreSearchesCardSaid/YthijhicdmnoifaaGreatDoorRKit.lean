/- Joined texts of one proof. -/
import Derived.Lib.Hide
import Derived.BigQuiet
import Derived.Deep.Onto
import Derived.Deep.AppendLies
import Derived.Lib.DecodeN
import Derived.Lib.RuneBytes
import Derived.Lib.Small
import Derived.Test.YthijhicdmnoifaaGreatDoorProg
import Derived.WalkSpells
import Derived.WalkLawsBesides
import Derived.RangeFuncBox
import Derived.Handy
import Derived.StillTailTactics
set_option linter.unusedSimpArgs false
set_option linter.unusedVariables false
set_option linter.unnecessarySimpa false
set_option maxRecDepth 100000
set_option maxHeartbeats 8000000
namespace Go.Proofs.YthijhicdmnoifaaGreatDoor
section
open Go.RowKit
theorem gV{k:IntKind}{a b:Int}(h:a=b):Ending.returned (.int k a)=.returned (.int k b):=by rw[h]
theorem kS{a b:Bool}(h:a=b):Ending.returned (.bool a)=.returned (.bool b):=by rw[h]
theorem ret_str{a b:List UInt8}(h:a=b):Ending.returned (.string ⟨a.toArray⟩)=.returned (.string ⟨b.toArray⟩):=by rw[h]
theorem int_eq{k:IntKind}{a b:Int}(h:a=b):Value.int k a=.int k b:=by rw[h]
theorem Jd(b j:Nat):(⟨b,0,none⟩:Addr).add j=⟨b,j,none⟩:=by unfold Addr.add;split<;>simp_all
theorem run_app{P:Program}(W:World)(t ty:TypeId)(base:Nat)(e e':TypeId)(i:TypeInfo)(z:Value)(size bytes:Nat)(ht:P.underlying t=some (.slice e))(hi:P.info? e=some i)(hz:i.zero=some z)
  (jA:i.size=size) (nH:i.bytes=bytes) (uU:z.cells.size=size) (aY:0<size) (Ef:0<bytes)
  (v:Value) (n:Nat) (xs:List Value) (aQ:W.ownsRow base e size v n xs)
  (news:Array Value) (hl:news.size=size) (h1:∀u∈news.toList,u.oneCell'=true) (hb:(n+1)*bytes≤140737488355328) (fC:base≤W.heap.size) :
  ∃g cap w',(Builtin.append_ #[t,t] ty #[v,.slice (some ⟨W.heap.size,0,none⟩) 1 1]).run P (W.alloc (.cells news e'))=.ok (.slice (some ⟨g,0,none⟩) (n+1) cap) w' ∧
   w'.ownsRow base e size (.slice (some ⟨g,0,none⟩) (n+1) cap) (n+1) (xs++news.toList)∧W.grownBy w' v.ownBlock∧(v.ownBlock=some g∨W.heap.size<g)∧g<w'.heap.size∧W.heap.size<w'.heap.size:=by
 have ru:n+1≤maxLen:=by
  have:=Nat.le_mul_of_pos_right (n+1) Ef;simp only[maxLen];omega
 obtain⟨g,cap,w',hr,h2,h3,h4,h5⟩:=run_append_lies (P:=P) (W.alloc (.cells news e')) t ty base e i z size bytes ht hi hz jA nH uU aY v n xs (aQ.alloc _) ⟨W.heap.size,0,none⟩ 1 1 news.toList (by simpa using hl)
  (fun j u hj=>by
   rw[Jd];simp only[World.cell?,heap_alloc_new];simpa using hj) h1 (by omega) ru hb (by simp;omega) (W.heap.size+1) (by simp)
 refine⟨g,cap,w',hr,h2,⟨h3.os.trans rfl,h3.tape.trans rfl,h3.output.trans rfl,by have:=h3.size;simp at this;omega,fun k hk aF=>?_⟩,h4.imp id (fun h=>by omega),h5,by have:=h3.size;simp at this;omega⟩
 rw[h3.block k (by simp;omega) aF,Below.heap_alloc _ _ _ hk]
theorem cZ{P:Program}(W:World){ops:Array Oper}{rest:List Oper}{o:Oper}{a:Act}{Q:Exit→Act→World→Prop}(uf:o.guard=none)(s x:Operand)(t:TypeId)
  (ho:o.op=.call { callee:=.builtin .append,args:=#[s,x],argTypes:=#[t,t] })
  (base:Nat) (e e':TypeId) (i:TypeInfo) (z:Value) (size bytes:Nat) (ht:P.underlying t=some (.slice e)) (hi:P.info? e=some i) (hz:i.zero=some z)
  (jA:i.size=size) (nH:i.bytes=bytes) (uU:z.cells.size=size) (aY:0<size) (Ef:0<bytes)
  (v:Value) (n:Nat) (xs:List Value) (hs:a.eval s=v) (aQ:W.ownsRow base e size v n xs)
  (news:Array Value) (hx:a.eval x=.slice (some ⟨W.heap.size,0,none⟩) 1 1) (hl:news.size=size) (h1:∀u∈news.toList,u.oneCell'=true)
  (hb:(n+1)*bytes≤140737488355328) (fC:base≤W.heap.size)
  (h:∀g cap w',w'.ownsRow base e size (.slice (some ⟨g,0,none⟩) (n+1) cap) (n+1) (xs++news.toList)→W.grownBy w' v.ownBlock→(v.ownBlock=some g∨W.heap.size<g)→g<w'.heap.size→W.heap.size<w'.heap.size →
   wpList P ops Q rest (a.put o.dst (.slice (some ⟨g,0,none⟩) (n+1) cap)) w'):wpList P ops Q (o::rest) a (W.alloc (.cells news e')):=by
 obtain⟨g,cap,w',hr,h2,h3,h4,h5,h6⟩:=run_app (P:=P) W t o.type base e e' i z size bytes ht hi hz jA nH uU aY Ef v n xs aQ news hl h1 hb fC;refine wpList_plain uf fun _ hK=>?_
 unfold Oper.wp execOp;simp only[ho,resolve,invoke,builtin,Sem.run_bind,Sem.run_pure,Result.andThen_ok,List.map_toArray,List.map_cons,List.map_nil,hs,hx,hr];exact hK _ _ (h g cap w' h2 h3 h4 h5 h6)
theorem aL{B base:Nat}{w0 W w':World}{v:Value}{e:TypeId}{size n:Nat}{xs:List Value}(hb:Below B w0 W)(aQ:W.ownsRow base e size v n xs)(hg:W.grownBy w' v.ownBlock)(hB:B≤base)(hW:B≤W.heap.size):Below B w0 w' :=
 hb.grown hg hW (fun k hk=>by have:=(aQ.lt k hk).1;omega)
theorem agE{base:Nat}{W w':World}{v:Value}{e:TypeId}{size n:Nat}{xs:List Value}(aQ:W.ownsRow base e size v n xs)(hg:W.grownBy w' v.ownBlock){p:Addr}{u:Value}(hp:p.block<base)(hc:W.cell? p=some u):w'.cell? p=some u :=
 hg.cell hc (fun h=>by have:=(aQ.lt p.block h.symm).1;omega)
theorem aT{w:World}{base:Nat}{e:TypeId}{size:Nat}{v:Value}{n:Nat}{xs:List Value}(h:w.ownsRow base e size v n xs):∃a cap,v=.slice a n cap∧(0<n→∃g,a=some ⟨g,0,none⟩):=by
 rcases h.2 with ⟨rfl,rfl⟩|⟨g,cap,cur,rfl,_⟩
 ·exact⟨none,0,rfl,fun h=>by omega⟩
 ·exact⟨_,cap,rfl,fun _=>⟨g,rfl⟩⟩
theorem ownsRow_below{w w':World}{base:Nat}{e:TypeId}{size:Nat}{v:Value}{n:Nat}{xs:List Value}(h:w.ownsRow base e size v n xs)(hb:Below w.heap.size w w'):w'.ownsRow base e size v n xs :=
 h.kept (row:=none) ⟨hb.os,hb.tape,hb.output,hb.size,fun k hk _=>hb.block k hk⟩ (by cases v.ownBlock<;>simp)
theorem Hf(s:List UInt8)(a b:Nat):({ data:=s.toArray }:ByteArray).extract a b=⟨((s.drop a).take (b-a)).toArray⟩:=by
 apply ByteArray.ext;rw[ByteArray.data_extract];simp[List.take_drop]
theorem iV(s:List UInt8)(a:Nat):({ data:=s.toArray }:ByteArray).extract a s.length=⟨(s.drop a).toArray⟩:=by
 rw[Hf,List.take_of_length_le (by rw[List.length_drop];omega)]
theorem og(s:List UInt8)(a:Nat):({ data:=s.toArray }:ByteArray).extract 0 a=⟨(s.take a).toArray⟩:=by
 rw[Hf];simp
theorem yL{k:IntKind}{x v:Int}{y:ByteArray}{r:List UInt8}{b:Bool}(h1:x=v)(h2:y=⟨r.toArray⟩):
  Ending.returned (.tuple #[.int k x,.string y,.bool b])=.returned (.tuple #[.int k v,.string ⟨r.toArray⟩,.bool b]):=by rw[h1,h2]
theorem ael{x y:ByteArray}{q r:List UInt8}{b:Bool}(h1:x=⟨q.toArray⟩)(h2:y=⟨r.toArray⟩):
  Ending.returned (.tuple #[.string x,.string y,.bool b])=.returned (.tuple #[.string ⟨q.toArray⟩,.string ⟨r.toArray⟩,.bool b]):=by rw[h1,h2]
theorem bytes_append(a b:List UInt8):({ data:=a.toArray }:ByteArray)++{ data:=b.toArray }=⟨(a++b).toArray⟩:=by
 apply ByteArray.ext;simp
theorem Hd{p:Prop}(h:p):RowKit.Hid p:=Lib.hid h
def Sl(w:World)(v:Value)(n size:Nat)(xs:List Value):Prop :=
 xs.length=n*size∧∃a cap,v=.slice a n cap∧(0<n→∃b off,a=some ⟨b,off,none⟩∧∀j u,xs[j]?=some u→w.cell? ⟨b,off+j,none⟩=some u)
theorem cK{w:World}{a:Addr}{u:Value}(h:w.cell? a=some u):a.block<w.heap.size:=World.block_lt_of_cell? w a h
theorem ah{w w':World}(hb:Below w.heap.size w w'){a:Addr}{u:Value}(h:w.cell? a=some u):w'.cell? a=some u :=
 (hb.cell (cK h)).trans h
theorem Sl.stays{w w':World}{v:Value}{n size:Nat}{xs:List Value}(h:Sl w v n size xs)(hb:Below w.heap.size w w'):Sl w' v n size xs:=by
 obtain⟨h1,a,cap,h2,h3⟩:=h;refine⟨h1,a,cap,h2,fun hn=>?_⟩
 obtain⟨b,off,h4,h5⟩:=h3 hn;exact⟨b,off,h4,fun j u hj=>ah hb (h5 j u hj)⟩
theorem Sl.nil(w:World)(size:Nat):Sl w (.slice none 0 0) 0 size []:=⟨by simp,none,0,rfl,fun h=>by omega⟩
theorem Sl.of_owns{w:World}{base:Nat}{e:TypeId}{size:Nat}{v:Value}{n:Nat}{xs:List Value}(h:w.ownsRow base e size v n xs):Sl w v n size xs:=by
 obtain⟨a,cap,rfl,hs⟩:=aT h;refine⟨h.1,a,cap,rfl,fun hn=>?_⟩
 obtain⟨g,rfl⟩:=hs hn;refine⟨g,0,rfl,fun j u hj=>?_⟩
 have hlt:j<n*size:=by rw[←h.1];exact(List.getElem?_eq_some_iff.1 hj).1
 rw[Nat.zero_add,h.cellAt j hlt];exact hj
theorem Sl.lit(w:World)(cs:Array Value)(e:TypeId)(n size:Nat)(h:cs.size=n*size):Sl (w.alloc (.cells cs e)) (.slice (some ⟨w.heap.size,0,none⟩) n n) n size cs.toList:=by
 refine⟨by simpa using h,_,n,rfl,fun hn=>⟨w.heap.size,0,rfl,fun j u hj=>?_⟩⟩
 rw[Nat.zero_add];simp only[World.cell?,heap_alloc_new];simpa using hj
theorem Sl.value{w:World}{v:Value}{n size:Nat}{xs:List Value}(h:Sl w v n size xs):∃a cap,v=.slice a n cap∧(0<n→∃b off,a=some ⟨b,off,none⟩∧∀j u,xs[j]?=some u→w.cell? ⟨b,off+j,none⟩=some u):=h.2
abbrev ak(l:List UInt8):Value:=.string ⟨l.toArray⟩
def Strs(w:World)(v:Value)(ps:List (List UInt8)):Prop:=Sl w v ps.length 1 (ps.map ak)
def U64s(w:World)(v:Value)(ns:List Nat):Prop:=Sl w v ns.length 1 (ns.map fun n:Nat=>.int .u64 (n:Int))
theorem Strs.stays{w w':World}{v:Value}{ps:List (List UInt8)}(h:Strs w v ps)(hb:Below w.heap.size w w'):Strs w' v ps:=Sl.stays h hb
theorem U64s.stays{w w':World}{v:Value}{ns:List Nat}(h:U64s w v ns)(hb:Below w.heap.size w w'):U64s w' v ns:=Sl.stays h hb
theorem Strs.value{w:World}{v:Value}{ps:List (List UInt8)}(h:Strs w v ps):∃a cap,v=.slice a ps.length cap∧(0<ps.length→∃b off,a=some ⟨b,off,none⟩∧∀j (hj:j<ps.length),w.cell? ⟨b,off+j,none⟩=some (.string ⟨ps[j].toArray⟩)):=by
 obtain⟨_,a,cap,h2,h3⟩:=h;refine⟨a,cap,h2,fun hn=>?_⟩
 obtain⟨b,off,h4,h5⟩:=h3 hn;exact⟨b,off,h4,fun j hj=>h5 j _ (by simp[hj])⟩
theorem U64s.value{w:World}{v:Value}{ns:List Nat}(h:U64s w v ns):∃a cap,v=.slice a ns.length cap∧(0<ns.length→∃b off,a=some ⟨b,off,none⟩∧∀j (hj:j<ns.length),w.cell? ⟨b,off+j,none⟩=some (.int .u64 (ns[j]:Nat))):=by
 obtain⟨_,a,cap,h2,h3⟩:=h;refine⟨a,cap,h2,fun hn=>?_⟩
 obtain⟨b,off,h4,h5⟩:=h3 hn;exact⟨b,off,h4,fun j hj=>h5 j _ (by simp[hj])⟩
def Q(w w':World):Prop:=Below w.heap.size w w'
theorem Q.refl(w:World):Q w w:=Below.refl _ _
theorem Q.trans{a b c:World}(h1:Q a b)(h2:Q b c):Q a c:=Below.trans h1 (Below.mono h2 h1.size)
theorem Q.of{w w':World}(h:Below w.heap.size w w'):Q w w':=h
theorem Q.alloc(w:World)(o:Obj):Q w (w.alloc o):=(Below.refl _ _).alloc (Nat.le_refl _) _
theorem Q.drewN(w:World)(n:Nat):Q w (w.drewN n):=⟨rfl,rfl,rfl,Nat.le_refl _,fun _ _=>rfl⟩
theorem Q.drew(w:World):Q w w.drew:=⟨rfl,rfl,rfl,Nat.le_refl _,fun _ _=>rfl⟩
end
section
abbrev Bytes:=List UInt8
def jC:Nat→Nat→Bytes
 | 0,_=>[]
 | n+1,v=>if v<128 then [UInt8.ofNat v] else UInt8.ofNat (v%128+128)::jC n (v / 128)
def bI(v:Nat):Bytes:=jC 10 v
theorem varF_pos(n v:Nat)(h:0<n):0<(jC n v).length:=by
 cases n with
 | zero=>omega
 | succ n=>rw[jC];split<;>simp
theorem varF_len(n v:Nat):(jC n v).length≤n:=by
 induction n generalizing v with
 | zero=>simp[jC]
 | succ n ih=>rw[jC];split<;>simp;exact ih _
theorem toNat_ofNat(n:Nat)(h:n<256):(UInt8.ofNat n).toNat=n:=by
 rw[UInt8.toNat_ofNat'];omega
theorem varF_inj(n u v:Nat)(hu:u<128 ^ n)(hv:v<128 ^ n)(r s:Bytes)(h:jC n u++r=jC n v++s):u=v∧r=s:=by
 induction n generalizing u v with
 | zero=>simp at hu hv;subst hu;subst hv;simpa[jC] using h
 | succ n ih =>
  rw[jC,jC] at h;rw[Nat.pow_succ] at hu hv;by_cases h1:u<128<;>by_cases h2:v<128
  ·rw[if_pos h1,if_pos h2] at h
   simp only[List.cons_append,List.nil_append,List.cons.injEq] at h;have:=congrArg UInt8.toNat h.1;rw[toNat_ofNat _ (by omega),toNat_ofNat _ (by omega)] at this
   exact⟨this,h.2⟩
  ·rw[if_pos h1,if_neg h2] at h
   simp only[List.cons_append,List.nil_append,List.cons.injEq] at h;have:=congrArg UInt8.toNat h.1;rw[toNat_ofNat _ (by omega),toNat_ofNat _ (by omega)] at this
   omega
  ·rw[if_neg h1,if_pos h2] at h
   simp only[List.cons_append,List.nil_append,List.cons.injEq] at h;have:=congrArg UInt8.toNat h.1;rw[toNat_ofNat _ (by omega),toNat_ofNat _ (by omega)] at this
   omega
  ·rw[if_neg h1,if_neg h2] at h
   simp only[List.cons_append,List.nil_append,List.cons.injEq] at h;have:=congrArg UInt8.toNat h.1;rw[toNat_ofNat _ (by omega),toNat_ofNat _ (by omega)] at this
   obtain⟨e,e2⟩:=ih (u / 128) (v / 128) (by rw[Nat.div_lt_iff_lt_mul (by omega)];omega) (by rw[Nat.div_lt_iff_lt_mul (by omega)];omega) h.2
   exact⟨by omega,e2⟩
theorem lt64(v:Nat)(h:v<18446744073709551616):v<128 ^ 10:=by
 have:(18446744073709551616:Nat)≤128 ^ 10:=by decide
 omega
theorem NG(u v:Nat)(hu:u<18446744073709551616)(hv:v<18446744073709551616)(r s:Bytes)(h:bI u++r=bI v++s):u=v∧r=s :=
 varF_inj 10 u v (lt64 u hu) (lt64 v hv) r s h
def IsVar(s:Bytes)(v:Nat)(rest:Bytes):Prop:=v<18446744073709551616∧s=bI v++rest
theorem IsVar.one{s:Bytes}{u v:Nat}{r t:Bytes}(h:IsVar s u r)(k:IsVar s v t):u=v∧r=t :=
 NG u v h.1 k.1 r t (h.2.symm.trans k.2)
def aM(s:Bytes):Bytes:=bI s.length++s
def IsText(s t rest:Bytes):Prop:=t.length<18446744073709551616∧s=aM t++rest
theorem IsText.one{s t u r v:Bytes}(h:IsText s t r)(k:IsText s u v):t=u∧r=v:=by
 have e:=h.2.symm.trans k.2;unfold aM at e;rw[List.append_assoc,List.append_assoc] at e;obtain⟨e1,e2⟩:=NG _ _ h.1 k.1 _ _ e;exact List.append_inj e2 e1
def dQ(l:List Nat):Bytes:=l.flatMap bI
theorem eP(v:Nat):(bI v).length≤10:=varF_len 10 v
theorem zx(l:List Nat):(dQ l).length≤10*l.length:=by
 induction l with
 | nil=>simp[dQ]
 | cons a l ih =>
  have:=eP a;simp only[dQ,List.flatMap_cons,List.length_append,List.length_cons] at ih ⊢;omega
theorem agF(l:List Nat)(k:Nat)(h:k<l.length):dQ (l.take (k+1))=dQ (l.take k)++bI l[k]:=by
 unfold dQ;rw[List.take_succ_eq_append_getElem h,List.flatMap_append];simp
theorem VD(m x:Nat)(hm:0<m)(h:x<128):jC m x=[UInt8.ofNat x]:=by
 cases m with
 | zero=>omega
 | succ m=>rw[jC,if_pos h]
theorem aa4(m x:Nat)(h:128≤x)(hx:x<128 ^ m):1<m∧jC m x=UInt8.ofNat (x%128+128)::jC (m-1) (x / 128)∧x / 128<128 ^ (m-1):=by
 cases m with
 | zero=>simp at hx;omega
 | succ m =>
  cases m with
  | zero=>simp at hx;omega
  | succ m =>
   rw[Nat.pow_succ] at hx;refine⟨by omega,?_,?_⟩
   ·rw[jC,if_neg (by omega)];rfl
   ·rw[show m+1+1-1=m+1 by omega,Nat.div_lt_iff_lt_mul (by omega)];omega
theorem or128(x:Nat):(x%256) ||| 128=x%128+128:=by
 have h:∀y:Fin 256,y.val ||| 128=y.val%128+128:=by decide +kernel
 have:=h ⟨x%256,Nat.mod_lt _ (by omega)⟩
 simp only at this;rw[this];omega
def jQ(l:List Bytes):Bytes:=l.flatMap aM
theorem SI(l:List Bytes)(k:Nat)(h:k<l.length):jQ (l.take (k+1))=jQ (l.take k)++aM l[k]:=by
 unfold jQ;rw[List.take_succ_eq_append_getElem h,List.flatMap_append];simp
theorem iF(s:Bytes):(aM s).length≤s.length+10:=by
 have:=eP s.length;unfold aM;rw[List.length_append];omega
theorem VE(l:List Bytes)(M:Nat)(h:∀s∈l,s.length≤M):(jQ l).length≤l.length*(M+10):=by
 induction l with
 | nil=>simp[jQ]
 | cons a l ih =>
  have h1:=ih (fun s hs=>h s (by simp[hs]))
  have h2:=iF a;have h3:=h a (by simp)
  simp only[jQ,List.flatMap_cons,List.length_append,List.length_cons,Nat.add_mul] at h1 ⊢;omega
def wH(c:Nat):Nat:=if c%2=1 then(c / 2) ^^^ 3988292384 else c / 2
def qp:Nat→Nat→Nat
 | 0,c=>c
 | k+1,c=>wH (qp k c)
def RN(c:Nat)(b:UInt8):Nat:=qp 8 (c ^^^ b.toNat)
def rW(s:Bytes):Nat:=s.foldl RN 4294967295
def wI(s:Bytes):Nat:=rW s ^^^ 4294967295
def oh(v:Nat):Bytes:=[UInt8.ofNat (v%256),UInt8.ofNat (v / 256%256),UInt8.ofNat (v / 65536%256),UInt8.ofNat (v / 16777216%256)]
theorem agG(c:Nat)(h:c<4294967296):wH c<4294967296:=by
 unfold wH;split
 ·exact Nat.xor_lt_two_pow (n:=32) (by omega) (by decide)
 ·omega
theorem Lr(k c:Nat)(h:c<4294967296):qp k c<4294967296:=by
 induction k with
 | zero=>exact h
 | succ k ih=>exact agG _ ih
theorem agH(c:Nat)(b:UInt8)(h:c<4294967296):RN c b<4294967296 :=
 Lr 8 _ (Nat.xor_lt_two_pow (n:=32) h (Nat.lt_trans (UInt8.toNat_lt b) (by decide)))
theorem agI(s:Bytes)(c:Nat)(h:c<4294967296):s.foldl RN c<4294967296:=by
 induction s generalizing c with
 | nil=>exact h
 | cons b s ih=>exact ih _ (agH c b h)
theorem Gm(s:Bytes):rW s<4294967296:=agI s _ (by decide)
theorem X6(s:Bytes):wI s<4294967296:=Nat.xor_lt_two_pow (n:=32) (Gm s) (by decide)
theorem aem(s:Bytes)(b:UInt8):rW (s++[b])=RN (rW s) b:=by simp[rW]
theorem Hg(v:Nat):(oh v).length=4:=rfl
abbrev au:=Bytes×Bytes
def jg:List au→Bytes
 | []=>[]
 | d::l=>aM d.1++(aM d.2++jg l)
def mX:Bytes:=[67,68,88,71]
def jU(l:List au)(d:Bytes):Bytes:=mX++(bI l.length++(jg l++aM d))
def jV(l:List au)(d:Bytes):Bytes:=jU l d++oh (wI (jU l d))
theorem Je(a b:List au):jg (a++b)=jg a++jg b:=by
 induction a with
 | nil=>rfl
 | cons d l ih=>simp[jg,ih]
def E8(d:au):Prop:=d.1.length<18446744073709551616∧d.2.length<18446744073709551616
theorem YD(a b:List au)(hl:a.length=b.length)(ha:∀d∈a,E8 d)(hb:∀d∈b,E8 d)(r s:Bytes)(h:jg a++r=jg b++s):a=b∧r=s:=by
 induction a generalizing b with
 | nil =>
  have:b=[]:=List.eq_nil_of_length_eq_zero hl.symm;subst this;exact⟨rfl,by simpa[jg] using h⟩
 | cons d a ih =>
  cases b with
  | nil=>simp at hl
  | cons e b =>
   obtain⟨d1,d2⟩:=d;obtain⟨e1,e2⟩:=e;have hd:=ha (d1,d2) (by simp)
   have he:=hb (e1,e2) (by simp)
   simp only[jg,List.append_assoc] at h;obtain⟨f1,f2⟩:=IsText.one (s:=aM d1++(aM d2++(jg a++r))) ⟨hd.1,rfl⟩ ⟨he.1,h⟩;obtain⟨f3,f4⟩:=IsText.one (s:=aM d2++(jg a++r)) ⟨hd.2,rfl⟩ ⟨he.2,f2⟩;obtain⟨f5,f6⟩:=ih b (by simpa using hl) (fun x hx=>ha x (by simp[hx])) (fun x hx=>hb x (by simp[hx])) f4
   simp only at f1 f3;exact⟨by rw[f1,f3,f5],f6⟩
theorem aen(a b:List au)(c d:Bytes)(ha:∀x∈a,E8 x)(hb:∀x∈b,E8 x)(la:a.length<18446744073709551616)(lb:b.length<18446744073709551616)
  (hc:c.length<18446744073709551616) (hd:d.length<18446744073709551616) (h:jU a c=jU b d):a=b∧c=d:=by
 unfold jU at h;have h1:=List.append_cancel_left h;obtain⟨h2,h3⟩:=NG _ _ la lb _ _ h1;obtain⟨h4,h5⟩:=YD a b h2 ha hb _ _ h3;obtain⟨h6,_⟩:=IsText.one (s:=aM c++[]) (r:=[]) (v:=[]) ⟨hc,rfl⟩ ⟨hd,by rw[h5]⟩
 exact⟨h4,h6⟩
theorem aa5(a p:Bytes)(j:Nat)(h:j<p.length):rW (a++p.take (j+1))=qp 8 (rW (a++p.take j) ^^^ p[j].toNat):=by
 rw[List.take_succ_eq_append_getElem h,←List.append_assoc,aem];rfl
theorem flat_take(ps:List Bytes)(k:Nat)(h:k<ps.length):(ps.take (k+1)).flatten=(ps.take k).flatten++ps[k]:=by
 rw[List.take_succ_eq_append_getElem h,List.flatten_append];simp
def aP(s:Bytes):Int×Nat :=
 match s with
 | []=>(-1,0)
 | _=>let d:=Lib.decodeN s.length (s.getD 0 0).toNat (s.getD 1 0).toNat (s.getD 2 0).toNat (s.getD 3 0).toNat
     if d.1=65533∧d.2<3 then(-1,d.2) else((d.1:Int),d.2)
theorem O8(n b0 b1 b2 b3:Nat)(hn:0<n):1≤(Lib.decodeN n b0 b1 b2 b3).2∧(Lib.decodeN n b0 b1 b2 b3).2≤n:=by
 unfold Lib.decodeN;repeat' split
 all_goals (simp only[];omega)
theorem Ac(n b0 b1 b2 b3:Nat):(Lib.decodeN n b0 b1 b2 b3).1≤1114111∧(Lib.decodeN n b0 b1 b2 b3).2≤4:=by
 unfold Lib.decodeN;repeat' split
 all_goals (simp only[];omega)
theorem lV(s:Bytes)(h:s≠[]):1≤(aP s).2∧(aP s).2≤s.length:=by
 cases s with
 | nil=>exact absurd rfl h
 | cons b s =>
  have:=O8 (b::s).length ((b::s).getD 0 0).toNat ((b::s).getD 1 0).toNat ((b::s).getD 2 0).toNat ((b::s).getD 3 0).toNat (by simp)
  unfold aP;simp only[];split<;>exact this
def iK:Nat→Bytes→List (Int×Bytes)
 | 0,_=>[]
 | n+1,s=>if s=[] then [] else((aP s).1,s.take (aP s).2)::iK n (s.drop (aP s).2)
def chunks(s:Bytes):List (Int×Bytes):=iK s.length s
theorem X7(n m:Nat)(s:Bytes)(hn:s.length≤n)(hm:s.length≤m):iK n s=iK m s:=by
 induction n generalizing m s with
 | zero =>
  have:s=[]:=List.eq_nil_of_length_eq_zero (by omega)
  subst this;cases m<;>simp[iK]
 | succ n ih =>
  cases m with
  | zero =>
   have:s=[]:=List.eq_nil_of_length_eq_zero (by omega)
   subst this;simp[iK]
  | succ m =>
   rw[iK,iK];split
   ·rfl
   ·rename_i h
    have:=lV s h;rw[ih m (s.drop (aP s).2) (by rw[List.length_drop];omega) (by rw[List.length_drop];omega)]
theorem kK(s:Bytes)(h:s≠[]):chunks s=((aP s).1,s.take (aP s).2)::chunks (s.drop (aP s).2):=by
 have h1:=lV s h;have hl:0<s.length:=by omega
 unfold chunks;obtain⟨k,hk⟩:∃k,s.length=k+1:=⟨s.length-1,by omega⟩
 rw[hk,iK,if_neg h,X7 k (s.drop (aP s).2).length _ (by rw[List.length_drop];omega) (Nat.le_refl _)]
theorem Dy:chunks []=[]:=rfl
theorem Pe(n:Nat)(s:Bytes)(h:s.length≤n):(iK n s).flatMap (·.2)=s:=by
 induction n generalizing s with
 | zero=>have:s=[]:=List.eq_nil_of_length_eq_zero (by omega);subst this;rfl
 | succ n ih =>
  rw[iK];split
  ·rename_i h;subst h;rfl
  ·rename_i aF
   have:=lV s aF;rw[List.flatMap_cons,ih _ (by rw[List.length_drop];omega),List.take_append_drop]
def pW(s:Bytes):Bool:=(chunks s).all fun c=>decide (0≤c.1)
def spansL:List (Int×Int×Int):=[
 (9,13,3),(32,32,3),(48,57,2),(65,90,1),(97,122,1),(133,133,3),(160,160,3),(170,170,1),(181,181,1),(186,186,1),
 (192,214,1),(216,246,1),(248,591,1),(880,884,1),(886,887,1),(890,893,1),(895,895,1),(902,902,1),(904,906,1),(908,908,1),
 (910,929,1),(931,1013,1),(1015,1153,1),(1162,1327,1),(1329,1366,1),(1377,1415,1),(1488,1514,1),(1632,1641,2),(2406,2415,2),(8192,8202,3),
 (8232,8233,3),(12288,12288,3),(19968,40959,1),(44032,55203,1)]
def qJ(r:Int):Int:=match spansL.find? (fun x=>decide (r≤x.2.1)) with
 | some x=>if x.1≤r then x.2.2 else 0
 | none=>0
def fG(r:Int):Bool:=decide (0≤r)&&(qJ r==1||qJ r==2)
def dJ:List (Int×Bytes)→Option Bytes→List Bytes
 | [],none=>[]
 | [],some w=>[w]
 | c::cs,none=>if fG c.1 then dJ cs (some c.2) else dJ cs none
 | c::cs,some w=>if fG c.1 then dJ cs (some (w++c.2)) else w::dJ cs none
def bT(s:Bytes):List Bytes:=dJ (chunks s) none
def inL(r lo hi:Int):Bool:=decide (lo≤r)&&decide (r≤hi)
def gI(r:Int):Int :=
 if r=215∨r=930 then r
 else if inL r 65 90||inL r 192 222||inL r 1040 1071||inL r 913 937 then r+32
 else if r=962 then 963
 else if inL r 1024 1039 then r+80
 else if inL r 256 303||inL r 330 375||inL r 1120 1153||inL r 1162 1215||inL r 1232 1327 then r+1-r%2
 else if inL r 313 328||inL r 377 382 then r+r%2
 else if inL r 1329 1366 then r+48
 else r
def kL(r:Int):Int:=if r<0∨1114111<r∨Lib.validRune r=false then 65533 else r
def pK(c:Int×Bytes):Bytes:=if c.1<0 then c.2.take 1 else Lib.encodeRune (kL (gI c.1))
def bQ(s:Bytes):Bytes:=(chunks s).flatMap pK
def stopsL:List Bytes:=["a","an","and","are","as","at","be","by","for","in","is","it","of","on","or","the","to","with"].map fun s=>s.toUTF8.data.toList
def xR(t:Bytes):Bool:=stopsL.contains t
def eY:List Bytes→Nat→List (Bytes×Nat)
 | [],_=>[]
 | w::ws,k=>if (bQ w).length≤40∧xR (bQ w)=false then(bQ w,k)::eY ws (k+1) else eY ws (k+1)
def aA(s:Bytes):List (Bytes×Nat):=eY (bT s) 0
abbrev aZ:=Int×List Int
def gW:Int→List Int→Int→Bool
 | _,[],_=>true
 | last,n::l,below=>decide (last<n)&&decide (n<below)&&gW n l below
def aV:Int→List aZ→Bool
 | _,[]=>true
 | last,p::l=>decide (last<p.1)&&decide (p.1<500) && !p.2.isEmpty&&gW (-1) p.2 2000&&aV p.1 l
def kG:Int→List Int→List Nat
 | _,[]=>[]
 | at_,k::l=>(k-at_).toNat::kG k l
def qM(p:aZ)(last:Int):Bytes:=dQ ((p.1-last).toNat::p.2.length::kG (-1) p.2)
structure Jf where
 skips:List Nat
 body:Bytes
 last:Int
 doc:Int
 from_:Nat
def oq(st:Jf)(i:Nat)(p:aZ):Jf :=
 if 0<i∧i%8=0 then
  { skips:=st.skips++[(st.doc-st.last).toNat,st.body.length-st.from_],body:=st.body++qM p st.doc,last:=st.doc,doc:=p.1,from_:=st.body.length }
 else { st with body:=st.body++qM p st.doc,doc:=p.1 }
def xU:Jf→Nat→List aZ→Jf
 | st,_,[]=>st
 | st,i,p::l=>xU (oq st i p) (i+1) l
def iG(l:List aZ):Bytes :=
 let st:=xU ⟨[],[],-1,-1,0⟩ 0 l
 bI l.length++(dQ st.skips++st.body)
def qW(l:List aZ):Bytes:=if aV (-1) l then iG l else []
def dW:Bytes→Bytes→Nat
 | a::s,b::t=>if a=b then dW s t+1 else 0
 | _,_=>0
def bU:Bytes→Bytes→Bool
 | [],[]=>false
 | [],_::_=>true
 | _::_,[]=>false
 | a::s,b::t=>if a=b then bU s t else decide (a.toNat<b.toNat)
abbrev aN:=Bytes×Bytes
def dw:Bytes→List aN→Bool
 | _,[]=>true
 | last,e::l=>bU last e.1&&decide (e.1.length≤40)&&decide (e.2.length≤4194304)&&dw e.1 l
def dU:Bytes→List aN→Bytes
 | _,[]=>[]
 | last,e::l=>bI (dW last e.1)++(aM (e.1.drop (dW last e.1))++(aM e.2++dU e.1 l))
def mQ:Nat→List aN→List (List aN)
 | 0,_=>[]
 | n+1,l=>if l=[] then [] else l.take 16::mQ n (l.drop 16)
def kV(l:List aN):Bytes :=
 bI l.length++((mQ l.length l).flatMap (fun g=>aM (g.headD ([],[])).1++bI (dU [] g).length)++(mQ l.length l).flatMap (dU []))
def Dz(l:List aN):Bytes:=if dw [] l&&decide (l.length≤1048576) then kV l else []
def placesIn(s:Bytes)(t:Bytes):List Int:=(aA s).filterMap fun x=>if x.1=t then some (x.2:Int) else none
def bf(t:Bytes):List au→Nat→List aZ
 | [],_=>[]
 | d::l,i=>if placesIn d.2 t=[] then bf t l (i+1) else((i:Int),placesIn d.2 t)::bf t l (i+1)
def ji(t:Bytes):List Bytes→List Bytes
 | []=>[t]
 | x::l=>if x=t then x::l else if bU t x then t::x::l else x::ji t l
def dK(l:List au):List Bytes:=(l.flatMap fun d=>(aA d.2).map (·.1)).foldl (fun a t=>ji t a) []
def Ci(l:List au):Bytes:=Dz ((dK l).map fun t=>(t,qW (bf t l 0)))
end
section
open Go.RowKit
theorem VF(a b:Bytes)(k:Nat)(ha:k<a.length)(hb:k<b.length):dW (a.drop k) (b.drop k)=if a[k]=b[k] then dW (a.drop (k+1)) (b.drop (k+1))+1 else 0:=by
 rw[List.drop_eq_getElem_cons ha,List.drop_eq_getElem_cons hb,dW]
theorem VG(a b:Bytes)(k:Nat)(h:¬(k<a.length∧k<b.length)):dW (a.drop k) (b.drop k)=0:=by
 by_cases ha:k<a.length
 ·rw[List.drop_eq_nil_of_le (show b.length≤k by omega)]
  cases a.drop k<;>rfl
 ·rw[List.drop_eq_nil_of_le (show a.length≤k by omega)];rfl
theorem byte_eq(a b:Bytes)(k:Nat)(ha:k<a.length)(hb:k<b.length):(((({ data:=a.toArray }:ByteArray)[k]'ha).toNat:Int)==((({ data:=b.toArray }:ByteArray)[k]'hb).toNat:Int))=decide (a[k]=b[k]):=by
 have e1:(({ data:=a.toArray }:ByteArray)[k]'ha)=a[k]:=rfl;have e2:(({ data:=b.toArray }:ByteArray)[k]'hb)=b[k]:=rfl;rw[e1,e2];by_cases h:a[k]=b[k]
 ·simp[h]
 ·rw[decide_eq_false h]
  simp only[beq_eq_false_iff_ne,ne_eq];intro hh;exact h (UInt8.toNat_inj.1 (by omega))
theorem alike_any(a b:Bytes)(w:World)(ha:a.length≤9223372036854775807)(hb:b.length≤9223372036854775807):
  Calls Tryz.prog 187 #[.string ⟨a.toArray⟩,.string ⟨b.toArray⟩] w fun e w'=>e=.returned (.int .i64 (dW a b))∧Q w w':=by
 go_enter Tryz.func187,Tryz.ntmps187;go_wp2_with fail;go_loopw [5] (fun i wr=>∃k:Nat,i=.int .i64 k∧k≤a.length∧k≤b.length∧Hid (dW a b=k+dW (a.drop k) (b.drop k))∧Hid (Q w wr)) (fun i _=>a.length-(intOf i).toNat)
 case atStart=>exact⟨0,rfl,by omega,by omega,by show _=_;simp,Q.refl w⟩
 case round =>
  obtain⟨k,rfl,FE,Ih,HA,HQ⟩:=hrel;by_cases hlt:k<a.length∧k<b.length
  ·obtain⟨h1,h2⟩:=hlt
   have hs:=VF a b k h1 h2;have he:=byte_eq a b k h1 h2;have HS:=Hd hs;clear hs;by_cases Az:a[k]=b[k]
   ·rw[decide_eq_true Az] at he
    have qy:=Hd Az;clear Az;by_cases Jv:b.length<a.length;all_goals
     go_wp2_with fail;go_quiet (fail);go_wp2_with fail;go_roundw;case rel=>exact⟨k+1,by go_num,by omega,by omega,by show _=_;rw[HA.out,HS.out,if_pos qy.out];omega,HQ.out.trans (Q.drewN _ _)⟩
     case measure=>simp[intOf];omega
   ·rw[decide_eq_false Az] at he
    have qy:=Hd Az;clear Az;by_cases Jv:b.length<a.length;all_goals
     go_wp2_with fail;go_quiet (fail);go_wp2_with fail;go_ret;exact⟨gV (by rw[HA.out,HS.out,if_neg qy.out];omega),HQ.out.trans (Q.drewN _ _)⟩
  ·have hs:=VG a b k hlt
   have HS:=Hd hs;clear hs;by_cases Jv:b.length<a.length
   ·have hk:decide (k<b.length)=false:=decide_eq_false (by omega)
    clear hlt;go_wp2_with fail;go_quiet (fail);go_wp2_with fail;go_ret;exact⟨gV (by rw[HA.out,HS.out];omega),HQ.out.trans (Q.drewN _ _)⟩
   ·have hk:decide (k<a.length)=false:=decide_eq_false (by omega)
    clear hlt;go_wp2_with fail;go_quiet (fail);go_wp2_with fail;go_ret;exact⟨gV (by rw[HA.out,HS.out];omega),HQ.out.trans (Q.drewN _ _)⟩
abbrev dV(l:List (Bytes×Bytes)):List Value:=l.flatMap fun d=>[ak d.1,ak d.2]
def Pairs(w:World)(v:Value)(l:List (Bytes×Bytes)):Prop:=Sl w v l.length 2 (dV l)
theorem Pairs.stays{w w':World}{v:Value}{l:List (Bytes×Bytes)}(h:Pairs w v l)(hb:Below w.heap.size w w'):Pairs w' v l:=Sl.stays h hb
theorem yA(l:List (Bytes×Bytes))(d:Bytes×Bytes):dV (l++[d])=dV l++[ak d.1,ak d.2]:=by simp[dV]
theorem Gn(l:List (Bytes×Bytes))(k:Nat)(h:k<l.length):(dV l)[k*2]?=some (ak l[k].1)∧(dV l)[k*2+1]?=some (ak l[k].2):=by
 induction l generalizing k with
 | nil=>simp at h
 | cons d l ih =>
  have e:dV (d::l)=ak d.1::ak d.2::dV l:=by simp[dV]
  cases k with
  | zero=>rw[e];exact⟨rfl,rfl⟩
  | succ k =>
   have:=ih k (by simpa using h)
   rw[e,show(k+1)*2=k*2+1+1 by omega]
   exact this
theorem Pairs.value{w:World}{v:Value}{l:List (Bytes×Bytes)}(h:Pairs w v l):∃a cap,v=.slice a l.length cap∧(0<l.length→∃b off,a=some ⟨b,off,none⟩∧∀j (hj:j<l.length),w.cell? ⟨b,off+j*2,none⟩=some (ak l[j].1)∧w.cell? ⟨b,off+j*2+1,none⟩=some (ak l[j].2)):=by
 obtain⟨_,a,cap,h2,h3⟩:=h;refine⟨a,cap,h2,fun hn=>?_⟩
 obtain⟨b,off,h4,h5⟩:=h3 hn;exact⟨b,off,h4,fun j hj=>⟨h5 _ _ (Gn l j hj).1,by rw[Nat.add_assoc];exact h5 _ _ (Gn l j hj).2⟩⟩
theorem ou(a b:Bytes):Op.bytesLess a b=bU a b:=by
 induction a generalizing b with
 | nil=>cases b<;>rfl
 | cons x a ih =>
  cases b with
  | nil=>rfl
  | cons y b =>
   rw[bU];unfold Op.bytesLess;by_cases h:x=y
   ·subst h
    have e:¬x<x:=by rw[UInt8.lt_iff_toNat_lt];omega
    simp[ih]
   ·have h2:(x==y)=false:=by simpa using h
    rw[if_neg h,h2,Bool.false_and,Bool.or_false];rw[Bool.eq_iff_iff];simp[UInt8.lt_iff_toNat_lt]
theorem JV(a b:Bytes):bU a b=true→bU b a=false∧b≠a:=by
 induction a generalizing b with
 | nil=>cases b<;>simp[bU]
 | cons x a ih =>
  cases b with
  | nil=>simp[bU]
  | cons y b =>
   rw[bU,bU];by_cases h:x=y
   ·subst h
    simp only[if_true];intro hh;exact⟨(ih b hh).1,fun e=>(ih b hh).2 (List.cons.inj e).2⟩
   ·rw[if_neg h,if_neg (Ne.symm h)]
    intro hh;simp only[decide_eq_true_eq] at hh;exact⟨decide_eq_false (by omega),fun e=>h (List.cons.inj e).1.symm⟩
theorem aa6(a b:Bytes):bU a b=false→bU b a=true∨b=a:=by
 induction a generalizing b with
 | nil=>cases b<;>simp[bU]
 | cons x a ih =>
  cases b with
  | nil=>simp[bU]
  | cons y b =>
   rw[bU,bU];by_cases h:x=y
   ·subst h
    simp only[if_true];intro hh;rcases ih b hh with h1|h1
    ·exact .inl h1
    ·exact .inr (by rw[h1])
   ·rw[if_neg h,if_neg (Ne.symm h)]
    intro hh;simp only[decide_eq_false_iff_not] at hh;have:x.toNat≠y.toNat:=fun e=>h (UInt8.toNat_inj.1 e)
    exact .inl (decide_eq_true (by omega))
theorem VH(v:Value)(l:List (Bytes×Bytes))(w:World)(hv:Pairs w v l)(hn:l.length≤9223372036854775807)(hl:∀e∈l,e.1.length≤9223372036854775807∧e.2.length≤9223372036854775807):
  Calls Tryz.prog 186 #[v] w fun e w'=>e=.returned (.bool (dw [] l&&decide (l.length≤1048576)))∧Q w w':=by
 obtain⟨a,cap,rfl,aJ⟩:=hv.value;have HC:=Hd aJ;have Ii:=Hd hl;clear aJ hv hl;go_enter Tryz.func186,Tryz.ntmps186;go_wp2_with fail;go_loopw [3,8] (fun ls i wr=>∃(k:Nat) (last:Bytes),k≤l.length∧i=.int .i64 k∧ls=ak last∧Hid (dw [] l=dw last (l.drop k))∧Hid (Q w wr)) (fun _ i _=>l.length-(intOf i).toNat)
 case atStart=>exact⟨0,[],by omega,rfl,rfl,rfl,Q.refl w⟩
 case round =>
  obtain⟨k,last,hk,rfl,rfl,HE,HQ⟩:=hrel;by_cases hlt:k<l.length
  ·obtain⟨b,off,rfl,hc⟩:=HC.out (by omega)
   obtain⟨gX,dM⟩:=hc k hlt;have lJ:=ah HQ.out gX;have nV:=ah HQ.out dM;have aD:=Ii.out _ (List.getElem_mem hlt);have bV:dw last (l.drop k)=(bU last l[k].1&&decide (l[k].1.length≤40)&&decide (l[k].2.length≤4194304)&&dw l[k].1 (l.drop (k+1))):=by
    rw[List.drop_eq_getElem_cons hlt,dw]
   clear hc gX dM;generalize l[k]=e at *;obtain⟨t,x⟩:=e;simp only at lJ nV aD bV;obtain⟨ht,hx⟩:=aD;have HS:=Hd bV;clear bV;cases CJ:bU last t with
   | true =>
    obtain⟨h1,h2⟩:=JV _ _ CJ;have hb:Op.bytesLess t last=false:=by rw[ou];exact h1
    have he:(t==last)=false:=by simpa using h2
    have HL:=Hd CJ;clear CJ h1;by_cases TV:t.length≤40
    ·by_cases h4m:x.length≤4194304
     ·go_wp2_with fail
      go_roundw;case rel=>exact⟨k+1,t,by omega,by go_num,rfl,by show _=_;rw[HE.out,HS.out,HL.out];simp[TV,h4m],HQ.out.trans (Q.alloc _ _)⟩
      case measure=>simp[intOf];omega
     ·go_wp2_with fail
      go_ret;exact⟨kS (by rw[HE.out,HS.out,HL.out,decide_eq_false (show ¬x.length≤4194304 by omega)];simp),HQ.out.trans (Q.alloc _ _)⟩
    ·go_wp2_with fail
     go_ret;exact⟨kS (by rw[HE.out,HS.out,HL.out,decide_eq_false (show ¬t.length≤40 by omega)];simp),HQ.out.trans (Q.alloc _ _)⟩
   | false =>
    have hr:(dw [] l&&decide (l.length≤1048576))=false:=by rw[HE.out,HS.out,CJ];rfl
    have HR:=Hd hr;clear hr;rcases aa6 _ _ CJ with h1|h1
    ·have hb:Op.bytesLess t last=true:=by rw[ou];exact h1
     clear CJ h1;go_wp2_with fail;go_ret;exact⟨kS HR.out.symm,HQ.out.trans (Q.alloc _ _)⟩
    ·subst h1
     have hb:Op.bytesLess t t=false:=by rw[ou];exact CJ
     clear CJ;go_wp2_with fail;go_ret;exact⟨kS HR.out.symm,HQ.out.trans (Q.alloc _ _)⟩
  ·have mP:l.length=k:=by omega
   have he:dw [] l=true:=by rw[HE.out,List.drop_eq_nil_of_le (by omega)];rfl
   have RA:=Hd he;clear he mP;by_cases pz:l.length≤1048576
   ·go_wp2_with fail
    go_ret;exact⟨kS (by rw[RA.out,Bool.true_and,Bool.eq_iff_iff];simp only[decide_eq_true_eq];omega),HQ.out⟩
   ·go_wp2_with fail
    go_ret;exact⟨kS (by rw[RA.out,Bool.true_and,Bool.eq_iff_iff];simp only[decide_eq_true_eq];omega),HQ.out⟩
end
section
def dH(s:Bytes)(k:Nat):Nat:=(s.getD k 0).toNat
def mG(s:Bytes):Nat→Nat
 | 0=>0
 | k+1=>mG s k+dH s k%128*128 ^ k
theorem vF(s:Bytes)(k:Nat):dH s k<256:=UInt8.toNat_lt _
theorem Md(s:Bytes)(k:Nat):mG s k<128 ^ k:=by
 induction k with
 | zero=>simp[mG]
 | succ k ih =>
  rw[mG,Nat.pow_succ];have h1:dH s k%128≤127:=by omega
  have h2:=Nat.mul_le_mul_right (128 ^ k) h1;omega
theorem YE(c:UInt8)(t:Bytes)(k:Nat):mG (c::t) (k+1)=c.toNat%128+128*mG t k:=by
 induction k with
 | zero=>simp[mG,dH]
 | succ k ih =>
  rw[mG,ih,mG];have:dH (c::t) (k+1)=dH t k:=rfl;rw[this,Nat.pow_succ,Nat.mul_add];have e:dH t k%128*(128 ^ k*128)=128*(dH t k%128*128 ^ k):=by rw[←Nat.mul_assoc,Nat.mul_comm]
  rw[e];omega
def Ends(s:Bytes)(k:Nat):Prop:=k<s.length∧(∀j,j<k→128≤dH s j)∧dH s k<128∧(0<k→dH s k≠0)
theorem accN_pos(s:Bytes)(k:Nat)(h:Ends s k)(hk:0<k):0<mG s (k+1):=by
 rw[mG];have h1:0<dH s k%128:=by have:=h.2.2.1;have:=h.2.2.2 hk;omega
 have:=Nat.mul_pos h1 (Nat.pow_pos (n:=k) (show 0<128 by omega))
 omega
theorem aa7(n k:Nat)(s:Bytes)(h:Ends s k)(hn:k<n):jC n (mG s (k+1))=s.take (k+1):=by
 induction k generalizing n s with
 | zero =>
  obtain⟨h1,_,h3,_⟩:=h;cases s with
  | nil=>simp at h1
  | cons c t =>
   cases n with
   | zero=>omega
   | succ n =>
    have e:mG (c::t) 1=c.toNat:=by
     have:c.toNat<128:=h3;simp[mG,dH];omega
    have hc:c.toNat<128:=h3;rw[Nat.zero_add,e,jC,if_pos hc];simp
 | succ k ih =>
  obtain⟨h1,h2,h3,h4⟩:=h;cases s with
  | nil=>simp at h1
  | cons c t =>
   cases n with
   | zero=>omega
   | succ n =>
    have ht:Ends t k:=⟨by simpa using h1,fun j hj=>h2 (j+1) (by omega),h3,fun _=>h4 (by omega)⟩
    have U9:0<mG t (k+1):=by
     by_cases hk:0<k
     ·exact accN_pos t k ht hk
     ·have gY:k=0:=by omega
      subst gY;have h5:dH t 0≠0:=h4 (by omega)
      have h6:dH t 0<128:=h3;have e:mG t (0+1)=dH t 0%128:=by simp[mG]
      rw[e];omega
    have hc:128≤c.toNat:=h2 0 (by omega)
    have dM:=UInt8.toNat_lt c;rw[YE,jC,if_neg (by omega),show(c.toNat%128+128*mG t (k+1))%128+128=c.toNat by omega,
     show(c.toNat%128+128*mG t (k+1)) / 128=mG t (k+1) by omega,ih n t ht (by omega)]
    simp
theorem aa8(n v:Nat)(hv:v<128 ^ n)(hn:0<n):∃k,k<n∧(jC n v).length=k+1∧Ends (jC n v) k∧mG (jC n v) (k+1)=v:=by
 induction n generalizing v with
 | zero=>omega
 | succ n ih =>
  rw[jC];by_cases h:v<128
  ·rw[if_pos h]
   have hb:dH [UInt8.ofNat v] 0=v:=toNat_ofNat v (by omega)
   exact⟨0,by omega,rfl,⟨by simp,fun j hj=>by omega,by rw[hb];exact h,fun h0=>by omega⟩,by simp[mG,hb];omega⟩
  ·rw[if_neg h]
   have Ij:0<n:=by
    rcases Nat.eq_zero_or_pos n with h0|h0
    ·subst h0;simp at hv;omega
    ·exact h0
   rw[Nat.pow_succ] at hv;obtain⟨k,h1,h2,⟨h3,h4,h5,h6⟩,h7⟩:=ih (v / 128) (by rw[Nat.div_lt_iff_lt_mul (by omega)];omega) Ij
   have hc:(UInt8.ofNat (v%128+128)).toNat=v%128+128:=toNat_ofNat _ (by omega)
   refine⟨k+1,by omega,by simp[h2],⟨by simpa using h3,fun j hj=>?_,h5,fun _=>?_⟩,?_⟩
   ·cases j with
    | zero=>show 128≤(UInt8.ofNat (v%128+128)).toNat;omega
    | succ j=>exact h4 j (by omega)
   ·show dH (jC n (v / 128)) k≠0
    by_cases hk:0<k
    ·exact h6 hk
    ·have gY:k=0:=by omega
     subst gY;rw[Nat.zero_add,mG,mG] at h7;simp at h7;omega
   ·rw[YE,h7,hc];omega
theorem pow9:(128:Nat) ^ 9=9223372036854775808:=by decide
theorem Hl(s:Bytes)(k:Nat)(h:Ends s k)(hk:k<10)(h9:k=9→dH s k≤1):IsVar s (mG s (k+1)) (s.drop (k+1)):=by
 refine⟨?_,?_⟩
 ·have h1:=Md s (k+1)
  by_cases e:k=9
  ·subst e
   have h2:=Md s 9;rw[mG];have h3:=h9 rfl;have h4:dH s 9%128≤1:=by omega
   have h5:=Nat.mul_le_mul_right (128 ^ 9) h4;rw[pow9] at h2 h5 ⊢;omega
  ·have:128 ^ (k+1)≤128 ^ 9:=Nat.pow_le_pow_right (by omega) (by omega)
   rw[pow9] at this;omega
 ·unfold bI
  rw[aa7 10 k s h hk,List.take_append_drop]
theorem DC(a b:Bytes)(k:Nat)(h:k<a.length):dH (a++b) k=dH a k:=by
 unfold dH;rw[List.getD_eq_getElem?_getD,List.getD_eq_getElem?_getD,List.getElem?_append_left h]
theorem OE(s:Bytes)(v:Nat)(r:Bytes)(h:IsVar s v r):∃k,k<10∧Ends s k∧(k=9→dH s k≤1):=by
 obtain⟨hv,rfl⟩:=h;unfold bI;obtain⟨k,h1,h2,⟨h3,h4,h5,h6⟩,h7⟩:=aa8 10 v (lt64 v hv) (by omega)
 refine⟨k,h1,⟨by simp;omega,fun j hj=>?_,?_,fun h0=>?_⟩,fun e=>?_⟩
 ·rw[DC _ _ _ (by omega)];exact h4 j hj
 ·rw[DC _ _ _ (by omega)];exact h5
 ·rw[DC _ _ _ (by omega)];exact h6 h0
 ·rw[DC _ _ _ (by omega)]
  subst e;rw[mG] at h7;have h8:dH (jC 10 v) 9%128=dH (jC 10 v) 9:=by omega
  rw[h8,pow9] at h7;by_cases h9:dH (jC 10 v) 9≤1
  ·exact h9
  ·have:2≤dH (jC 10 v) 9:=by omega
   have:=Nat.mul_le_mul_right 9223372036854775808 this;omega
end
section
open Go.RowKit
theorem fq(s:Bytes)(k:Nat)(h:k<s.length):((({ data:=s.toArray }:ByteArray)[k]'h).toNat:Int)=(dH s k:Nat):=by
 unfold dH;rw[List.getD_eq_getElem?_getD,List.getElem?_eq_getElem h];rfl
theorem RP(s:Bytes)(k b:Nat)(hb:dH s k=b)(hk:k<10)(h9:k=9→b≤1):
  bits .or .u64 ((mG s k:Nat):Int) (IntKind.u64.wrap (IntKind.u64.wrap (bits .and .u8 (b:Int) 127)*2 ^ (7*k)))=((mG s (k+1):Nat):Int):=by
 have hlt:b<256:=by rw[←hb];exact vF s k
 have h1:bits .and .u8 (b:Int) ((127:Nat):Int)=((b &&& 127:Nat):Int):=u8_and_nat b 127 hlt (by decide)
 rw[show((127:Nat):Int)=127 from rfl,nat_mask7] at h1
 rw[h1];have hp:(128:Nat) ^ k=2 ^ (7*k):=by rw[show 128=2 ^ 7 from rfl,←Nat.pow_mul]
 have axI:(2:Nat) ^ (7*k)≤2 ^ 63:=Nat.pow_le_pow_right (by omega) (by omega)
 have aiJ:=Md s k;rw[hp] at aiJ;have h2:b%128*2 ^ (7*k)<18446744073709551616:=by
  by_cases e:k=9
  ·subst e
   have:=h9 rfl;have h3:b%128≤1:=by omega
   have:=Nat.mul_le_mul_right (2 ^ (7*9)) h3;have h4:(2:Nat) ^ (7*9)=9223372036854775808:=by decide
   omega
  ·have h3:(2:Nat) ^ (7*k)≤2 ^ 56:=Nat.pow_le_pow_right (by omega) (by omega)
   have h4:b%128≤127:=by omega
   have:=Nat.mul_le_mul h4 h3;have h5:(127:Nat)*2 ^ 56<18446744073709551616:=by decide
   omega
 have w1:IntKind.u64.wrap ((b%128:Nat):Int)=((b%128:Nat):Int):=by
  simp only[IntKind.wrap,IntKind.bits,IntKind.signed];simp;omega
 have w2:IntKind.u64.wrap ((b%128*2 ^ (7*k):Nat):Int)=((b%128*2 ^ (7*k):Nat):Int):=by
  generalize b%128*2 ^ (7*k)=z at *;simp only[IntKind.wrap,IntKind.bits,IntKind.signed];simp;omega
 rw[w1,show(((b%128:Nat):Int)*2 ^ (7*k))=((b%128*2 ^ (7*k):Nat):Int) by simp,w2]
 have ru:(2:Nat) ^ 63=9223372036854775808:=by decide
 rw[u64_or_nat _ _ (by omega) h2]
 have hj:=nat_join (7*k) (b%128*2 ^ (7*k)) (mG s k) (by rw[Nat.mul_mod_left]) aiJ
 rw[Nat.or_comm,hj,mG,hb,hp];congr 1;omega
theorem DI(s:Bytes)(v:Nat)(r:Bytes)(w:World)(hs:s.length≤9223372036854775807)(h:IsVar s v r):
  Calls Tryz.prog 161 #[.string ⟨s.toArray⟩] w fun e w'=>e=.returned (.tuple #[.int .u64 v,.string ⟨r.toArray⟩,.bool true])∧Q w w':=by
 obtain⟨k0,Yu,W9,h9⟩:=OE s v r h;obtain⟨rfl,rfl⟩:=IsVar.one h (Hl s k0 W9 Yu h9);clear h;obtain⟨e1,e2,e3,e4⟩:=W9;have E2:=Hd e2;have E4:=Hd e4;have H9:=Hd h9;clear e2 e4 h9;by_cases hl:s.length≤10;all_goals
  go_enter Tryz.func161,Tryz.ntmps161;go_wp2_with fail;go_loop [11,5,6,7] (fun i x _ _=>∃k:Nat,k≤k0∧i=.int .i64 k∧x=.int .u64 (mG s k:Nat)) (fun i _ _ _=>10-(intOf i).toNat)
  case atStart=>exact⟨0,by omega,rfl,rfl⟩
  case round =>
   obtain⟨k,hk,rfl,rfl⟩:=hrel;have hb:=vF s k;have aiJ:=Md s k;have bY:k<s.length:=by omega
   have gK:((({ data:=s.toArray }:ByteArray)[k]'bY).toNat:Int)=(dH s k:Nat):=fq s k bY;by_cases hlt:k<k0
   ·have aO:=E2.out k hlt
    have hw:=RP s k (dH s k) rfl (by omega) (fun h=>by omega)
    have rC:(127:Int)<(({ data:=s.toArray }:ByteArray)[k]'bY).toNat:=by rw[gK];omega
    rw[←gK] at hw;have HW:=Hd hw;clear hw gK;go_wp2_with fail;go_round;case rel=>exact⟨k+1,by omega,by go_num,int_eq (by rw[←HW.out])⟩
    case measure=>simp[intOf];omega
   ·have jL:k=k0:=by omega
    subst jL;have hw:=RP s k (dH s k) rfl Yu H9.out;rw[←gK] at hw;have rC:(({ data:=s.toArray }:ByteArray)[k]'bY).toNat≤(127:Int):=by rw[gK];omega
    have Ql:(0:Int)≤(({ data:=s.toArray }:ByteArray)[k]'bY).toNat:=by omega
    have FJ:k=9→((({ data:=s.toArray }:ByteArray)[k]'bY).toNat:Int)≤1:=fun h=>by rw[gK];have:=H9.out h;omega
    have FL:0<k→((((({ data:=s.toArray }:ByteArray)[k]'bY).toNat:Int))==0)=false:=fun h=>by
     rw[beq_eq_false_iff_ne,gK];have:=E4.out h;omega
    have Eh:s.drop (k+1)=(s.drop (k+1)):=rfl;have HW:=Hd hw;have H9B:=Hd FJ;have FR:=Hd FL;clear hw gK FJ FL Eh;by_cases h9:k=9
    ·have q9:((k:Int)==9)=true:=by rw[beq_iff_eq];omega
     have q1:=H9B.out h9;have q0:=FR.out (by omega)
     have gY:0<k:=by omega
     clear h9;go_wp2_with fail;have z1:IntKind.i64.wrap ((k:Int)+1)=(k:Int)+1:=IntWalk.i64_in _ (by omega)
     have z2:(0:Int)≤(k:Int)+1:=by omega
     have z3:((k:Int)+1).toNat=k+1:=by omega
     go_quiet (fail);clear z1 z2 z3;go_wp2_with fail;go_ret3;exact⟨yL HW.out (iV s (k+1)),Q.drewN _ _⟩
    ·have q9:((k:Int)==9)=false:=by rw[beq_eq_false_iff_ne];omega
     clear h9;by_cases gY:0<k
     ·have q0:=FR.out gY
      go_wp2_with fail;have z1:IntKind.i64.wrap ((k:Int)+1)=(k:Int)+1:=IntWalk.i64_in _ (by omega)
      have z2:(0:Int)≤(k:Int)+1:=by omega
      have z3:((k:Int)+1).toNat=k+1:=by omega
      go_quiet (fail);clear z1 z2 z3;go_wp2_with fail;go_ret3;exact⟨yL HW.out (iV s (k+1)),Q.drewN _ _⟩
     ·have gY:k=0:=by omega
      subst gY;have ZJ:=HW.out;rw[show((2:Int) ^ (7*0))=1 from rfl,Int.mul_one] at ZJ
      have HW:=Hd ZJ;clear ZJ;go_wp2_with fail;have z1:IntKind.i64.wrap 1=1:=IntWalk.i64_in _ (by omega)
      go_quiet (fail);clear z1;go_wp2_with fail;go_ret3;exact⟨yL HW.out (iV s (0+1)),Q.drewN _ _⟩
theorem VI(s:Bytes)(w:World)(hs:s.length≤9223372036854775807)(h:∀v r,¬IsVar s v r):
  Calls Tryz.prog 161 #[.string ⟨s.toArray⟩] w fun e w'=>e=.returned (.tuple #[.int .u64 0,.string ⟨([]:Bytes).toArray⟩,.bool false])∧Q w w':=by
 have H:=Hd h;clear h;by_cases hl:s.length≤10;all_goals
  go_enter Tryz.func161,Tryz.ntmps161;go_wp2_with fail;go_loop [11,5,6,7] (fun i x _ _=>∃k:Nat,k≤s.length∧k≤10∧i=.int .i64 k∧(∃z:Int,x=.int .u64 z)∧Hid (∀j,j<k→128≤dH s j)) (fun i _ _ _=>10-(intOf i).toNat)
  case atStart=>exact⟨0,by omega,by omega,rfl,⟨0,rfl⟩,fun j h=>by omega⟩
  case round =>
   obtain⟨k,hk,Yu,rfl,⟨z,rfl⟩,HJ⟩:=hrel;have hb:=vF s k;by_cases hlt:k<s.length∧k<10
   ·obtain⟨bY,hk9⟩:=hlt
    have gK:((({ data:=s.toArray }:ByteArray)[k]'bY).toNat:Int)=(dH s k:Nat):=fq s k bY;by_cases hgo:128≤dH s k
    ·have rC:(127:Int)<(({ data:=s.toArray }:ByteArray)[k]'bY).toNat:=by rw[gK];omega
     clear gK;go_wp2_with fail;go_round;case rel=>exact⟨k+1,by omega,by omega,by go_num,⟨_,rfl⟩,fun j hj=>by
      by_cases e:j=k
      ·subst e;exact hgo
      ·exact HJ.out j (by omega)⟩
     case measure=>simp[intOf];omega
    ·have rC:(({ data:=s.toArray }:ByteArray)[k]'bY).toNat≤(127:Int):=by rw[gK];omega
     have Ql:(0:Int)≤(({ data:=s.toArray }:ByteArray)[k]'bY).toNat:=by omega
     by_cases c9:k=9∧1<dH s k
     ·have q9:((k:Int)==9)=true:=by rw[beq_iff_eq];omega
      have q1:(1:Int)<(({ data:=s.toArray }:ByteArray)[k]'bY).toNat:=by rw[gK];omega
      clear gK c9;go_wp2_with fail;go_ret3;exact⟨rfl,Q.refl _⟩
     ·by_cases c0:0<k∧dH s k=0
      ·obtain⟨gY,hz⟩:=c0
       have q0:((((({ data:=s.toArray }:ByteArray)[k]'bY).toNat:Int))==0)=true:=by rw[beq_iff_eq,gK];omega
       clear gK hz;by_cases e9:k=9
       ·have q9:((k:Int)==9)=true:=by rw[beq_iff_eq];omega
        have q1:(({ data:=s.toArray }:ByteArray)[k]'bY).toNat≤(1:Int):=by rw[beq_iff_eq] at q0;omega
        clear e9 c9;go_wp2_with fail;go_ret3;exact⟨rfl,Q.refl _⟩
       ·have q9:((k:Int)==9)=false:=by rw[beq_eq_false_iff_ne];omega
        clear e9 c9;go_wp2_with fail;go_ret3;exact⟨rfl,Q.refl _⟩
      ·exact absurd (Hl s k ⟨bY,HJ.out,by omega,fun h0 hz=>c0 ⟨h0,hz⟩⟩ hk9 (fun e=>by omega)) (H.out _ _)
   ·have MZ:s.length≤k∨10≤k:=by omega
    go_wp2_with fail;go_ret3;exact⟨rfl,Q.refl _⟩
theorem IsText.var{s t r:Bytes}(h:IsText s t r):IsVar s t.length (t++r):=by
 refine⟨h.1,?_⟩;rw[h.2,aM,List.append_assoc]
theorem IsText.of_var{s r:Bytes}{v:Nat}(h:IsVar s v r)(hv:v≤r.length):IsText s (r.take v) (r.drop v):=by
 have e:(r.take v).length=v:=by rw[List.length_take];omega
 refine⟨by rw[e];exact h.1,?_⟩
 rw[aM,e,List.append_assoc,List.take_append_drop];exact h.2
theorem FV(s t r:Bytes)(w:World)(hs:s.length≤9223372036854775807)(h:IsText s t r):
  Calls Tryz.prog 162 #[.string ⟨s.toArray⟩] w fun e w'=>e=.returned (.tuple #[.string ⟨t.toArray⟩,.string ⟨r.toArray⟩,.bool true])∧Q w w':=by
 have hv:=h.var;have aD:s.length=(bI t.length).length+(t.length+r.length):=by rw[hv.2,List.length_append,List.length_append]
 have c:=DI s t.length (t++r) w hs hv;obtain⟨rr,Dl⟩:∃rr,rr=t++r:=⟨_,rfl⟩;have BI:rr.length=t.length+r.length:=by rw[Dl,List.length_append]
 rw[←Dl] at c;have bR:t.length≤rr.length:=by omega
 have Yv:rr.length≤9223372036854775807:=by omega
 have e1:rr.take t.length=t:=by rw[Dl,List.take_left'];rfl
 have e2:rr.drop t.length=r:=by rw[Dl,List.drop_left'];rfl
 generalize t.length=n at *;have C:=Hd c;have E1:=Hd e1;have E2:=Hd e2;clear c e1 e2 BI aD hv Dl h;go_enter Tryz.func162,Tryz.ntmps162;go_wp2_with fail;refine C.out.mono ?_;rintro e w1 ⟨rfl,q1⟩;go_wp2_with fail;go_quiet (fail);go_wp2_with fail;go_ret3;exact⟨ael (by rw[og,E1.out]) (by rw[iV,E2.out]),q1.trans (Q.drewN _ _)⟩
theorem agJ(s:Bytes)(w:World)(hs:s.length≤9223372036854775807)(h:∀v r,¬IsVar s v r):
  Calls Tryz.prog 162 #[.string ⟨s.toArray⟩] w fun e w'=>e=.returned (.tuple #[.string ⟨([]:Bytes).toArray⟩,.string ⟨([]:Bytes).toArray⟩,.bool false])∧Q w w':=by
 have c:=VI s w hs h;have C:=Hd c;clear c h;go_enter Tryz.func162,Tryz.ntmps162;go_wp2_with fail;refine C.out.mono ?_;rintro e w1 ⟨rfl,q1⟩;go_wp2_with fail;go_ret3;exact⟨rfl,q1⟩
theorem aeo(s r:Bytes)(v:Nat)(w:World)(hs:s.length≤9223372036854775807)(h:IsVar s v r)(hv:r.length<v):
  Calls Tryz.prog 162 #[.string ⟨s.toArray⟩] w fun e w'=>e=.returned (.tuple #[.string ⟨([]:Bytes).toArray⟩,.string ⟨([]:Bytes).toArray⟩,.bool false])∧Q w w':=by
 have c:=DI s v r w hs h;have hr:r.length≤9223372036854775807:=by have:=congrArg List.length h.2;rw[List.length_append] at this;omega
 have wX:=h.1;have C:=Hd c;clear c h;go_enter Tryz.func162,Tryz.ntmps162;go_wp2_with fail;refine C.out.mono ?_;rintro e w1 ⟨rfl,q1⟩;go_wp2_with fail;go_ret3;exact⟨rfl,q1⟩
theorem FW(s:Bytes)(w:World)(hs:s.length≤9223372036854775807)(h:∀t r,¬IsText s t r):
  Calls Tryz.prog 162 #[.string ⟨s.toArray⟩] w fun e w'=>e=.returned (.tuple #[.string ⟨([]:Bytes).toArray⟩,.string ⟨([]:Bytes).toArray⟩,.bool false])∧Q w w':=by
 by_cases hv:∃v r,IsVar s v r
 ·obtain⟨v,r,hv⟩:=hv
  by_cases hl:v≤r.length
  ·exact absurd (IsText.of_var hv hl) (h _ _)
  ·exact aeo s r v w hs hv (by omega)
 ·exact agJ s w hs (fun v r y8=>hv ⟨v,r,y8⟩)
def Blk(w:World)(k:Nat)(t:TypeId)(cs:Array Value):Prop:=w.heap[k]?=some (.cells cs t (0,0))
theorem Blk.new(w:World)(t:TypeId)(cs:Array Value):Blk (w.alloc (.cells cs t)) w.heap.size t cs:=World.alloc_heap_new w _
theorem Blk.lt{w:World}{k:Nat}{t:TypeId}{cs:Array Value}(h:Blk w k t cs):k<w.heap.size:=(Array.getElem?_eq_some_iff.1 h).1
theorem Blk.stays{w w':World}{k:Nat}{t:TypeId}{cs:Array Value}(h:Blk w k t cs)(q:Q w w'):Blk w' k t cs:=(q.block k h.lt).trans h
theorem Blk.stays'{w w':World}{k n:Nat}{t:TypeId}{cs:Array Value}(h:Blk w k t cs)(q:Below n w w')(hk:k<n):Blk w' k t cs:=(q.block k hk).trans h
theorem Blk.alloc{w:World}{k:Nat}{t:TypeId}{cs:Array Value}(h:Blk w k t cs)(o:Obj):Blk (w.alloc o) k t cs:=h.stays (Q.alloc _ _)
theorem Blk.cell{w:World}{k:Nat}{t:TypeId}{cs:Array Value}(h:Blk w k t cs)(i:Nat)(v:Value)(hv:cs[i]?=some v):w.cell? ⟨k,i,none⟩=some v:=by
 simp only[World.cell?,show w.heap[k]?=_ from h]
 exact hv
theorem Blk.frozen{w:World}{k:Nat}{t:TypeId}{cs:Array Value}(h:Blk w k t cs)(i:Nat):w.frozen? ⟨k,i,none⟩=false:=by
 simp[World.frozen?,show w.heap[k]?=_ from h]
theorem Blk.set{w:World}{k:Nat}{t:TypeId}{cs:Array Value}(h:Blk w k t cs)(i:Nat)(v:Value):Blk (w.setCell ⟨k,i,none⟩ v) k t (cs.setIfInBounds i v):=by
 obtain⟨hlt,hk⟩:=Array.getElem?_eq_some_iff.1 h;show(w.heap.modify k _)[k]?=_;rw[Array.getElem?_eq_getElem (by rw[Array.size_modify];exact hlt),Array.getElem_modify_self,hk]
 rfl
theorem Blk.other{w:World}{k:Nat}{t:TypeId}{cs:Array Value}(h:Blk w k t cs)(a:Addr)(v:Value)(aF:k≠a.block):Blk (w.setCell a v) k t cs:=(Below.heap_setCell w a v k aF).trans h
theorem Blk.c2{w:World}{k:Nat}{t:TypeId}{a b:Value}(h:Blk w k t #[a,b]):w.cell? ⟨k,0,none⟩=some a∧w.cell? ⟨k,1,none⟩=some b∧w.frozen? ⟨k,0,none⟩=false∧w.frozen? ⟨k,1,none⟩=false :=
 ⟨h.cell 0 _ rfl,h.cell 1 _ rfl,h.frozen 0,h.frozen 1⟩
theorem Blk.c3{w:World}{k:Nat}{t:TypeId}{a b c:Value}(h:Blk w k t #[a,b,c]):w.cell? ⟨k,0,none⟩=some a∧w.cell? ⟨k,1,none⟩=some b∧w.cell? ⟨k,2,none⟩=some c∧w.frozen? ⟨k,0,none⟩=false∧w.frozen? ⟨k,1,none⟩=false∧w.frozen? ⟨k,2,none⟩=false :=
 ⟨h.cell 0 _ rfl,h.cell 1 _ rfl,h.cell 2 _ rfl,h.frozen 0,h.frozen 1,h.frozen 2⟩
theorem Blk.c4{w:World}{k:Nat}{t:TypeId}{a b c d:Value}(h:Blk w k t #[a,b,c,d]):w.cell? ⟨k,0,none⟩=some a∧w.cell? ⟨k,1,none⟩=some b∧w.cell? ⟨k,2,none⟩=some c∧w.cell? ⟨k,3,none⟩=some d∧w.frozen? ⟨k,0,none⟩=false∧w.frozen? ⟨k,1,none⟩=false∧w.frozen? ⟨k,2,none⟩=false∧w.frozen? ⟨k,3,none⟩=false :=
 ⟨h.cell 0 _ rfl,h.cell 1 _ rfl,h.cell 2 _ rfl,h.cell 3 _ rfl,h.frozen 0,h.frozen 1,h.frozen 2,h.frozen 3⟩
theorem Blk.s2{w:World}{k:Nat}{t:TypeId}{a b:Value}(h:Blk w k t #[a,b]):(∀x,(w.setCell ⟨k,0,none⟩ x).cell? ⟨k,0,none⟩=some x)∧(∀x y,((w.setCell ⟨k,0,none⟩ x).setCell ⟨k,1,none⟩ y).cell? ⟨k,1,none⟩=some y) :=
 ⟨fun x=>(h.set 0 x).cell 0 x rfl,fun x y=>((h.set 0 x).set 1 y).cell 1 y rfl⟩
theorem Blk.s3{w:World}{k:Nat}{t:TypeId}{a b c:Value}(h:Blk w k t #[a,b,c]):(∀x,(w.setCell ⟨k,0,none⟩ x).cell? ⟨k,0,none⟩=some x)∧(∀x y,((w.setCell ⟨k,0,none⟩ x).setCell ⟨k,1,none⟩ y).cell? ⟨k,1,none⟩=some y) ∧
  (∀x y z,(((w.setCell ⟨k,0,none⟩ x).setCell ⟨k,1,none⟩ y).setCell ⟨k,2,none⟩ z).cell? ⟨k,2,none⟩=some z) :=
 ⟨fun x=>(h.set 0 x).cell 0 x rfl,fun x y=>((h.set 0 x).set 1 y).cell 1 y rfl,fun x y z=>(((h.set 0 x).set 1 y).set 2 z).cell 2 z rfl⟩
theorem Blk.s4{w:World}{k:Nat}{t:TypeId}{a b c d:Value}(h:Blk w k t #[a,b,c,d]):(∀x,(w.setCell ⟨k,0,none⟩ x).cell? ⟨k,0,none⟩=some x)∧(∀x y,((w.setCell ⟨k,0,none⟩ x).setCell ⟨k,1,none⟩ y).cell? ⟨k,1,none⟩=some y) ∧
  (∀x y z,(((w.setCell ⟨k,0,none⟩ x).setCell ⟨k,1,none⟩ y).setCell ⟨k,2,none⟩ z).cell? ⟨k,2,none⟩=some z)∧(∀x y z u,((((w.setCell ⟨k,0,none⟩ x).setCell ⟨k,1,none⟩ y).setCell ⟨k,2,none⟩ z).setCell ⟨k,3,none⟩ u).cell? ⟨k,3,none⟩=some u) :=
 ⟨fun x=>(h.set 0 x).cell 0 x rfl,fun x y=>((h.set 0 x).set 1 y).cell 1 y rfl,fun x y z=>(((h.set 0 x).set 1 y).set 2 z).cell 2 z rfl,fun x y z u=>((((h.set 0 x).set 1 y).set 2 z).set 3 u).cell 3 u rfl⟩
theorem Blk.r3{w:World}{k:Nat}{t:TypeId}{a b c:Value}(h:Blk w k t #[a,b,c])(x y z:Value):(((w.setCell ⟨k,0,none⟩ x).setCell ⟨k,1,none⟩ y).setCell ⟨k,2,none⟩ z).cell? ⟨k,0,none⟩=some x∧(((w.setCell ⟨k,0,none⟩ x).setCell ⟨k,1,none⟩ y).setCell ⟨k,2,none⟩ z).cell? ⟨k,1,none⟩=some y ∧
  (((w.setCell ⟨k,0,none⟩ x).setCell ⟨k,1,none⟩ y).setCell ⟨k,2,none⟩ z).cell? ⟨k,2,none⟩=some z∧Blk (((w.setCell ⟨k,0,none⟩ x).setCell ⟨k,1,none⟩ y).setCell ⟨k,2,none⟩ z) k t #[x,y,z] :=
 ⟨(((h.set 0 x).set 1 y).set 2 z).cell 0 x rfl,(((h.set 0 x).set 1 y).set 2 z).cell 1 y rfl,(((h.set 0 x).set 1 y).set 2 z).cell 2 z rfl,((h.set 0 x).set 1 y).set 2 z⟩
theorem Blk.r4{w:World}{k:Nat}{t:TypeId}{a b c d:Value}(h:Blk w k t #[a,b,c,d])(x y z u:Value):((((w.setCell ⟨k,0,none⟩ x).setCell ⟨k,1,none⟩ y).setCell ⟨k,2,none⟩ z).setCell ⟨k,3,none⟩ u).cell? ⟨k,0,none⟩=some x∧((((w.setCell ⟨k,0,none⟩ x).setCell ⟨k,1,none⟩ y).setCell ⟨k,2,none⟩ z).setCell ⟨k,3,none⟩ u).cell? ⟨k,1,none⟩=some y ∧
  ((((w.setCell ⟨k,0,none⟩ x).setCell ⟨k,1,none⟩ y).setCell ⟨k,2,none⟩ z).setCell ⟨k,3,none⟩ u).cell? ⟨k,2,none⟩=some z∧((((w.setCell ⟨k,0,none⟩ x).setCell ⟨k,1,none⟩ y).setCell ⟨k,2,none⟩ z).setCell ⟨k,3,none⟩ u).cell? ⟨k,3,none⟩=some u ∧
  Blk ((((w.setCell ⟨k,0,none⟩ x).setCell ⟨k,1,none⟩ y).setCell ⟨k,2,none⟩ z).setCell ⟨k,3,none⟩ u) k t #[x,y,z,u] :=
 ⟨((((h.set 0 x).set 1 y).set 2 z).set 3 u).cell 0 x rfl,((((h.set 0 x).set 1 y).set 2 z).set 3 u).cell 1 y rfl,((((h.set 0 x).set 1 y).set 2 z).set 3 u).cell 2 z rfl,((((h.set 0 x).set 1 y).set 2 z).set 3 u).cell 3 u rfl,(((h.set 0 x).set 1 y).set 2 z).set 3 u⟩
theorem Q.setCell{w w':World}(h:Q w w'){a:Addr}(ha:w.heap.size≤a.block)(v:Value):Q w (w'.setCell a v):=Below.setCell h ha v
theorem NH(s:Bytes)(v:Nat)(r:Bytes)(most:Nat)(w:World)(hs:s.length≤9223372036854775807)(h:IsVar s v r)(hv:v≤most)(hm:most≤9223372036854775807):
  Calls Tryz.prog 211 #[.string ⟨s.toArray⟩,.int .i64 most] w fun e w'=>e=.returned (.agg #[.int .i64 v,ak r,.bool true])∧Q w w':=by
 have c:=fun w=>DI s v r w hs h
 have C:=Hd c;clear c h;go_enter Tryz.func211,Tryz.ntmps211;go_wp2_with fail;refine(C.out _).mono ?_;rintro e w1 ⟨rfl,q1⟩;have q2:=(Q.alloc w _).trans q1;have hb:=(Blk.new w _ _).stays q1;have HQ:=Hd q2;have HB:=Hd hb;obtain⟨c0,c1,c2,f0,f1,f2⟩:=hb.c3;obtain⟨s0,s1,s2⟩:=hb.s3;have S0:=Hd s0;have S1:=Hd s1;have S2:=Hd s2;clear s0 s1 s2;have hlt:¬most<v:=by omega
 clear q1 q2;go_wp2_with fail;refine bodyPost_ret (v:=.agg #[.int .i64 v,ak r,.bool true]) ?_ rfl ?_
 ·simp[results,Tryz.results211,go_sem,S0.out,S1.out,S2.out]
 exact⟨rfl,((HQ.out.setCell (by simp) _).setCell (by simp) _).setCell (by simp) _⟩
theorem Uz(s t r:Bytes)(w:World)(hs:s.length≤9223372036854775807)(h:IsText s t r):
  Calls Tryz.prog 212 #[.string ⟨s.toArray⟩] w fun e w'=>e=.returned (.agg #[ak t,ak r,.bool true])∧Q w w':=by
 have c:=fun w=>FV s t r w hs h
 have C:=Hd c;clear c h;go_enter Tryz.func212,Tryz.ntmps212;go_wp2_with fail;refine(C.out _).mono ?_;rintro e w1 ⟨rfl,q1⟩;have q2:=(Q.alloc w _).trans q1;have hb:=(Blk.new w _ _).stays q1;have HQ:=Hd q2;have HB:=Hd hb;obtain⟨c0,c1,c2,f0,f1,f2⟩:=hb.c3;obtain⟨s0,s1,s2⟩:=hb.s3;have S0:=Hd s0;have S1:=Hd s1;have S2:=Hd s2;clear s0 s1 s2;clear q1 q2;go_wp2_with fail;refine bodyPost_ret (v:=.agg #[ak t,ak r,.bool true]) ?_ rfl ?_
 ·simp[results,Tryz.results212,go_sem,S0.out,S1.out,S2.out]
 exact⟨rfl,((HQ.out.setCell (by simp) _).setCell (by simp) _).setCell (by simp) _⟩
end
section
theorem gu(a b:Bytes):bU a b=true↔a<b:=by
 induction a generalizing b with
 | nil=>cases b<;>simp[bU]
 | cons x a ih =>
  cases b with
  | nil=>simp[bU]
  | cons y b =>
   rw[bU,List.cons_lt_cons_iff];by_cases h:x=y
   ·subst h
    rw[if_pos rfl,ih];constructor
    ·exact fun h=>.inr ⟨rfl,h⟩
    ·rintro(h|⟨_,h⟩)
     ·exact absurd h (UInt8.lt_irrefl _)
     ·exact h
   ·rw[if_neg h,decide_eq_true_eq,←UInt8.lt_iff_toNat_lt]
    exact⟨.inl,fun h'=>h'.elim id (fun e=>absurd e.1 h)⟩
theorem NI{a b:Bytes}(h:¬a<b)(aF:a≠b):b<a:=by
 have h1:b≤a:=List.not_lt.1 h;rcases List.le_iff_lt_or_eq.1 h1 with h2|h2
 ·exact h2
 ·exact absurd h2.symm aF
abbrev y7:=Bytes×Bytes×Nat
def uH(g:List aN):y7:=((g.headD ([],[])).1,dU [] g,g.length)
def dA(l:List aN):List y7:=(mQ l.length l).map uH
def Fa(ps:List y7):Bytes:=ps.flatMap fun p=>aM p.1++bI p.2.1.length
def yU(ps:List y7):Bytes:=ps.flatMap fun p=>p.2.1
theorem Ls(l:List aN):kV l=bI l.length++(Fa (dA l)++yU (dA l)):=by
 unfold kV dA Fa yU;rw[List.flatMap_map,List.flatMap_map];rfl
theorem Lu(n:Nat)(l:List aN)(h:l.length≤n)(i:Nat):(mQ n l)[i]?=if 16*i<l.length then some ((l.drop (16*i)).take 16) else none:=by
 induction n generalizing l i with
 | zero =>
  have:l=[]:=List.eq_nil_of_length_eq_zero (by omega)
  subst this;simp[mQ]
 | succ n ih =>
  rw[mQ];by_cases hl:l=[]
  ·subst hl;simp
  ·rw[if_neg hl]
   have hp:0<l.length:=List.length_pos_iff.2 hl;cases i with
   | zero=>simp[hp]
   | succ i =>
    rw[List.getElem?_cons_succ,ih _ (by rw[List.length_drop];omega),List.length_drop,List.drop_drop]
    by_cases hlt:16*(i+1)<l.length
    ·rw[if_pos (by omega),if_pos hlt,show 16+16*i=16*(i+1) by omega]
    ·rw[if_neg (by omega),if_neg hlt]
theorem X8(n:Nat)(l:List aN)(h:l.length≤n):(mQ n l).length=(l.length+15) / 16:=by
 have hg:=Lu n l h;have h1:∀i,i<(mQ n l).length↔16*i<l.length:=by
  intro i;have Bt:=hg i;by_cases hi:16*i<l.length
  ·rw[if_pos hi] at Bt
   exact⟨fun _=>hi,fun _=>(List.getElem?_eq_some_iff.1 Bt).1⟩
  ·rw[if_neg hi] at Bt
   exact⟨fun h=>absurd (List.getElem?_eq_none_iff.1 Bt) (by omega),fun h=>absurd h hi⟩
 have a:=h1 ((l.length+15) / 16);have b:=h1 ((mQ n l).length);by_cases hz:(mQ n l).length=0
 ·have:=h1 0;omega
 ·have c:=h1 ((mQ n l).length-1);omega
theorem agK(l:List aN)(i:Nat):(dA l)[i]?=if 16*i<l.length then some (uH ((l.drop (16*i)).take 16)) else none:=by
 unfold dA;rw[List.getElem?_map,Lu _ l (Nat.le_refl _) i];split<;>rfl
theorem Ho(l:List aN):(dA l).length=(l.length+15) / 16:=by
 unfold dA;rw[List.length_map,X8 _ _ (Nat.le_refl _)]
theorem agL(a b:Bytes):a.take (dW a b)=b.take (dW a b):=by
 induction a generalizing b with
 | nil=>cases b<;>simp[dW]
 | cons x a ih =>
  cases b with
  | nil=>simp[dW]
  | cons y b =>
   rw[dW];by_cases h:x=y
   ·rw[if_pos h,List.take_succ_cons,List.take_succ_cons,ih b,h]
   ·rw[if_neg h];simp
theorem alike_le(a b:Bytes):dW a b≤a.length∧dW a b≤b.length:=by
 induction a generalizing b with
 | nil=>cases b<;>simp[dW]
 | cons x a ih =>
  cases b with
  | nil=>simp[dW]
  | cons y b =>
   rw[dW];split
   ·have:=ih b;simp;omega
   ·simp
theorem agM(a b:Bytes):a.take (dW a b)++b.drop (dW a b)=b:=by rw[agL,List.take_append_drop]
theorem AZ(last:Bytes)(l:List aN)(h:dw last l=true):(l.map (·.1)).Pairwise (·<·)∧(∀e∈l,last<e.1∧e.1.length≤40∧e.2.length≤4194304):=by
 induction l generalizing last with
 | nil=>simp
 | cons e l ih =>
  rw[dw] at h;simp only[Bool.and_eq_true,decide_eq_true_eq] at h;obtain⟨⟨⟨h1,h2⟩,h3⟩,h4⟩:=h;have h1:=(gu _ _).1 h1;obtain⟨i1,i2⟩:=ih e.1 h4;refine⟨?_,?_⟩
  ·rw[List.map_cons,List.pairwise_cons]
   refine⟨fun x hx=>?_,i1⟩
   obtain⟨y,hy,rfl⟩:=List.mem_map.1 hx;exact(i2 y hy).1
  ·intro x hx
   rcases List.mem_cons.1 hx with rfl|hx
   ·exact⟨h1,h2,h3⟩
   ·exact⟨List.lt_trans h1 (i2 x hx).1,(i2 x hx).2⟩
theorem VJ(last:Bytes)(l:List aN)(h1:(l.map (·.1)).Pairwise (·<·))(h2:∀e∈l,last<e.1∧e.1.length≤40∧e.2.length≤4194304):dw last l=true:=by
 induction l generalizing last with
 | nil=>rfl
 | cons e l ih =>
  rw[List.map_cons,List.pairwise_cons] at h1;rw[dw];have he:=h2 e (by simp)
  rw[(gu _ _).2 he.1,decide_eq_true he.2.1,decide_eq_true he.2.2,ih e.1 h1.2 (fun x hx=>⟨h1.1 x.1 (List.mem_map.2 ⟨x,hx,rfl⟩),(h2 x (by simp[hx])).2⟩)]
  rfl
theorem YF(p t:Bytes)(h:p <+: t):¬t<p:=by
 obtain⟨s,rfl⟩:=h;induction p with
 | nil=>simp
 | cons a p ih =>
  rw[List.cons_append,List.cons_lt_cons_iff];rintro(h|⟨_,h⟩)
  ·exact UInt8.lt_irrefl _ h
  ·exact ih h
theorem SK(p x t:Bytes)(h1:p<x)(h2:¬p <+: x)(h3:x<t):¬p <+: t:=by
 induction p generalizing x t with
 | nil=>exact absurd (List.nil_prefix) h2
 | cons a p ih =>
  cases x with
  | nil=>simp at h1
  | cons b x =>
   cases t with
   | nil=>simp at h3
   | cons c t =>
    rw[List.cons_lt_cons_iff] at h1 h3;rw[List.cons_prefix_cons] at h2 ⊢;rintro⟨rfl,h⟩;rcases h1 with h1|⟨rfl,h1⟩
    ·rcases h3 with h3|⟨rfl,_⟩
     ·exact absurd (UInt8.lt_trans h1 h3) (UInt8.lt_irrefl _)
     ·exact UInt8.lt_irrefl _ h1
    ·rcases h3 with h3|⟨_,h3⟩
     ·exact UInt8.lt_irrefl _ h3
     ·exact ih x t h1 (fun h'=>h2 ⟨rfl,h'⟩) h3 h
theorem xW(n:Nat)(l:List aN)(h:l.length≤n):(mQ n l).flatten=l:=by
 induction n generalizing l with
 | zero=>have:l=[]:=List.eq_nil_of_length_eq_zero (by omega);subst this;rfl
 | succ n ih =>
  rw[mQ];split
  ·rename_i e;subst e;rfl
  ·rename_i e
   have hp:0<l.length:=List.length_pos_iff.2 e;rw[List.flatten_cons,ih _ (by rw[List.length_drop];omega),List.take_append_drop]
abbrev eH(l:List aN):List (List aN):=mQ l.length l
theorem Iw(l:List aN):∀g∈eH l,g≠[]∧g.length≤16:=by
 intro g hg;obtain⟨i,hi⟩:=List.mem_iff_getElem?.1 hg;rw[Lu _ l (Nat.le_refl _) i] at hi;split at hi
 ·cases hi
  refine⟨?_,by rw[List.length_take];omega⟩
  intro e;have:=congrArg List.length e;rw[List.length_take,List.length_drop,List.length_nil] at this;omega
 ·cases hi
def jh(g:List aN):Bytes:=(g.headD ([],[])).1
def GrpsUp(gs:List (List aN)):Prop:=(∀g∈gs,g≠[])∧(gs.flatten.map (·.1)).Pairwise (·<·)
theorem X9(l:List aN)(h:(l.map (·.1)).Pairwise (·<·)):GrpsUp (eH l):=⟨fun g hg=>(Iw l g hg).1,by rw[xW _ _ (Nat.le_refl _)];exact h⟩
theorem GrpsUp.tail{g:List aN}{gs:List (List aN)}(h:GrpsUp (g::gs)):GrpsUp gs:=by
 refine⟨fun x hx=>h.1 x (by simp[hx]),?_⟩
 have:=h.2;rw[List.flatten_cons,List.map_append,List.pairwise_append] at this;exact this.2.1
theorem GrpsUp.drop{gs:List (List aN)}(h:GrpsUp gs)(k:Nat):GrpsUp (gs.drop k):=by
 induction k with
 | zero=>simpa using h
 | succ k ih =>
  by_cases hk:k<gs.length
  ·rw[List.drop_eq_getElem_cons hk] at ih
   exact ih.tail
  ·rw[List.drop_eq_nil_of_le (by omega)]
   exact⟨by simp,by simp⟩
theorem GrpsUp.head_le{g:List aN}{gs:List (List aN)}(h:GrpsUp (g::gs)):(∀e∈g,e.1=jh g∨jh g<e.1)∧(∀e∈gs.flatten,jh g<e.1)∧(∀e∈g,∀f∈gs.flatten,e.1<f.1)∧jh g∈g.map (·.1):=by
 have aF:=h.1 g (by simp)
 have hp:=h.2;rw[List.flatten_cons,List.map_append,List.pairwise_append] at hp;obtain⟨p1,p2,p3⟩:=hp;cases g with
 | nil=>exact absurd rfl aF
 | cons a g =>
  rw[List.map_cons,List.pairwise_cons] at p1;refine⟨fun e he=>?_,fun e he=>p3 _ (by simp[jh]) _ (List.mem_map.2 ⟨e,he,rfl⟩),fun e he f hf=>p3 _ (List.mem_map.2 ⟨e,he,rfl⟩) _ (List.mem_map.2 ⟨f,hf,rfl⟩),by simp[jh]⟩
  rcases List.mem_cons.1 he with rfl|he
  ·exact .inl rfl
  ·exact .inr (p1.1 _ (List.mem_map.2 ⟨e,he,rfl⟩))
theorem GrpsUp.firsts{gs:List (List aN)}(h:GrpsUp gs):(gs.map jh).Pairwise (·<·):=by
 induction gs with
 | nil=>simp
 | cons g gs ih =>
  rw[List.map_cons,List.pairwise_cons];refine⟨fun x hx=>?_,ih h.tail⟩
  obtain⟨y,hy,rfl⟩:=List.mem_map.1 hx;obtain⟨a,b,c,d⟩:=h.head_le;have as1:=h.1 y (by simp[hy])
  cases y with
  | nil=>exact absurd rfl as1
  | cons z y=>exact b z (List.mem_flatten.2 ⟨_,hy,by simp⟩)
def kW(gs:List (List aN))(t:Bytes):Nat:=gs.findIdx (fun g=>bU t (jh g))-1
def mO(l:List aN)(t:Bytes):Option Bytes:=(l.find? (fun e=>e.1==t)).map (·.2)
theorem YG{l:List aN}{t:Bytes}(h:∀e∈l,e.1≠t):mO l t=none:=by
 unfold mO;rw[List.find?_eq_none.2 (fun e he=>by simpa using h e he)]
 rfl
theorem Pg(a b:List aN)(t:Bytes):mO (a++b) t=(mO a t).or (mO b t):=by
 unfold mO;rw[List.find?_append];cases List.find? (fun e=>e.1==t) a<;>rfl
theorem aa9(gs:List (List aN))(t:Bytes)(h:GrpsUp gs):∀i,gs.findIdx (fun g=>bU t (jh g))≤i→∀g,gs[i]?=some g→t<jh g:=by
 intro i hi g hg;have hf:=h.firsts;obtain⟨hlt,he⟩:=List.getElem?_eq_some_iff.1 hg;have oN:gs.findIdx (fun g=>bU t (jh g))<gs.length:=by omega
 have h1:=List.findIdx_getElem (p:=fun g=>bU t (jh g)) (xs:=gs) (w:=oN)
 have h1:=(gu _ _).1 h1;rcases Nat.eq_or_lt_of_le hi with e|e
 ·subst he
  simp only[e] at h1;exact h1
 ·rw[List.pairwise_iff_getElem] at hf
  have:=hf _ _ (by rw[List.length_map];omega) (by rw[List.length_map];omega) e
  rw[List.getElem_map,List.getElem_map,he] at this;exact List.lt_trans h1 this
theorem abb(gs:List (List aN))(h:GrpsUp gs)(j:Nat)(g:List aN)(hg:gs[j]?=some g):∀e∈(gs.take j).flatten,e.1<jh g:=by
 induction gs generalizing j with
 | nil=>simp at hg
 | cons a gs ih =>
  cases j with
  | zero=>simp
  | succ j =>
   rw[List.getElem?_cons_succ] at hg;rw[List.take_succ_cons,List.flatten_cons];intro e he;rcases List.mem_append.1 he with he|he
   ·obtain⟨_,_,c,_⟩:=h.head_le
    have hm:=List.mem_of_getElem? hg;have aF:=h.1 g (by simp[hm])
    cases g with
    | nil=>exact absurd rfl aF
    | cons z y=>exact c e he z (List.mem_flatten.2 ⟨_,hm,by simp⟩)
   ·exact ih h.tail j hg e he
theorem abd(gs:List (List aN))(t:Bytes)(j:Nat)(hj:j=kW gs t)(g:List aN)(hg:gs[j]?=some g):j=0∨¬t<jh g:=by
 by_cases h0:j=0
 ·exact .inl h0
 ·refine .inr fun h=>?_
  unfold kW at hj;have:=List.not_of_lt_findIdx (p:=fun g=>bU t (jh g)) (xs:=gs) (i:=j) (by omega)
  obtain⟨hlt,he⟩:=List.getElem?_eq_some_iff.1 hg;rw[he] at this;rw[(gu _ _).2 h] at this;cases this
theorem agN(gs:List (List aN))(j:Nat)(g:List aN)(hg:gs[j]?=some g):gs.flatten=(gs.take j).flatten++(g++(gs.drop (j+1)).flatten):=by
 obtain⟨hlt,he⟩:=List.getElem?_eq_some_iff.1 hg;conv=>lhs;rw[←List.take_append_drop j gs,List.flatten_append,List.drop_eq_getElem_cons hlt,List.flatten_cons,he]
theorem get_group(gs:List (List aN))(h:GrpsUp gs)(t:Bytes)(g:List aN)(hg:gs[kW gs t]?=some g):mO gs.flatten t=mO g t:=by
 rw[agN gs _ g hg,Pg,Pg];have h1:mO (gs.take (kW gs t)).flatten t=none:=by
  rcases abd gs t _ rfl g hg with h0|h0
  ·rw[h0];rfl
  ·refine YG fun e he e2=>?_
   have:=abb gs h _ g hg e he;rw[e2] at this;exact h0 this
 have h2:mO (gs.drop (kW gs t+1)).flatten t=none:=by
  refine YG fun e he e2=>?_
  have bR:gs.findIdx (fun g=>bU t (jh g))≤kW gs t+1:=by unfold kW;omega
  obtain⟨y,hy,TW⟩:=List.mem_flatten.1 he;obtain⟨i,hi⟩:=List.mem_iff_getElem?.1 hy;rw[List.getElem?_drop] at hi;have hlt:=aa9 gs t h _ (by omega) y hi
  have ant:=h.drop (kW gs t+1+i);obtain⟨jB,he2⟩:=List.getElem?_eq_some_iff.1 hi;rw[List.drop_eq_getElem_cons jB,he2] at ant;rcases ant.head_le.1 e TW with h3|h3
  ·rw[←h3,e2] at hlt;exact List.lt_irrefl _ hlt
  ·rw[e2] at h3;exact List.lt_irrefl _ (List.lt_trans hlt h3)
 rw[h1,h2];simp
def wJ(p:Bytes):List (List aN)→List aN
 | []=>[]
 | g::gs=>if bU p (jh g) && !p.isPrefixOf (jh g) then [] else g.filter (fun e=>p.isPrefixOf e.1)++wJ p gs
theorem filter_none{l:List aN}{p:Bytes}(h:∀e∈l,¬p <+: e.1):l.filter (fun e=>p.isPrefixOf e.1)=[]:=by
 rw[List.filter_eq_nil_iff];intro e he h2;exact h e he (List.isPrefixOf_iff_prefix.1 h2)
theorem preG_eq(p:Bytes)(gs:List (List aN))(h:GrpsUp gs):wJ p gs=gs.flatten.filter (fun e=>p.isPrefixOf e.1):=by
 induction gs with
 | nil=>rfl
 | cons g gs ih =>
  rw[wJ,List.flatten_cons,List.filter_append];by_cases hb:bU p (jh g) && !p.isPrefixOf (jh g)
  ·rw[if_pos hb]
   simp only[Bool.and_eq_true,Bool.not_eq_true'] at hb;have h1:=(gu _ _).1 hb.1;have h2:¬p <+: jh g:=fun h=>by rw[List.isPrefixOf_iff_prefix.2 h] at hb;exact absurd hb.2 (by simp)
   obtain⟨a,b,_,_⟩:=h.head_le;rw[filter_none (fun e he=>?_),filter_none (fun e he=>SK p _ _ h1 h2 (b e he))]
   ·rfl
   ·rcases a e he with h3|h3
    ·rw[h3];exact h2
    ·exact SK p _ _ h1 h2 h3
  ·rw[if_neg hb,ih h.tail]
theorem aep(p:Bytes)(gs:List (List aN))(h:GrpsUp gs):wJ p (gs.drop (kW gs p))=gs.flatten.filter (fun e=>p.isPrefixOf e.1):=by
 rw[preG_eq p _ (h.drop _)];conv=>rhs;rw[←List.take_append_drop (kW gs p) gs,List.flatten_append,List.filter_append]
 rw[filter_none (l:=(gs.take (kW gs p)).flatten),List.nil_append];intro e he;cases hg:gs[kW gs p]? with
 | none =>
  have hl:gs.length≤kW gs p:=by simpa using hg
  have:=List.findIdx_le_length (p:=fun g=>bU p (jh g)) (xs:=gs)
  unfold kW at hl he;have:gs=[]:=List.eq_nil_of_length_eq_zero (by omega)
  subst this;simp at he
 | some g =>
  rcases abd gs p _ rfl g hg with h0|h0
  ·rw[h0] at he;simp at he
  ·have h1:=abb gs h _ g hg e he
   intro h2;rcases Classical.em (jh g<p) with h3|h3
   ·exact YF _ _ h2 (List.lt_trans h1 h3)
   ·rcases Classical.em (jh g=p) with h4|h4
    ·rw[h4] at h1;exact YF _ _ h2 h1
    ·exact h0 (NI h3 h4)
end
section
open Go.RowKit
theorem DEntry_ok(s last:Bytes)(e:aN)(r:Bytes)(w:World)(hs:s.length≤9223372036854775807)(hl:last.length≤1000000)(he:e.1.length≤1000000∧e.2.length≤1000000000)
  (h:s=bI (dW last e.1)++(aM (e.1.drop (dW last e.1))++(aM e.2++r))) :
  Calls Tryz.prog 203 #[.string ⟨s.toArray⟩,.string ⟨last.toArray⟩] w fun e' w'=>e'=.returned (.agg #[ak e.1,ak e.2,ak r,.bool true])∧Q w w':=by
 obtain⟨t,x⟩:=e;simp only at h he ⊢;have ha:=alike_le last t;have hj:=agM last t;generalize dW last t=n at *;have aD:=congrArg List.length h;simp only[List.length_append] at aD;have c:=fun w=>NH s n (aM (t.drop n)++(aM x++r)) last.length w hs ⟨by omega,h⟩ ha.1 (by omega)
 have qU:(aM (t.drop n)++(aM x++r)).length≤9223372036854775807:=by simp only[List.length_append];omega
 have jG:(aM x++r).length≤9223372036854775807:=by simp only[List.length_append];omega
 have Bu:(t.drop n).length≤1000000:=by rw[List.length_drop];omega
 have c2:=fun w=>Uz (aM (t.drop n)++(aM x++r)) (t.drop n) (aM x++r) w qU ⟨by omega,rfl⟩
 have c3:=fun w=>Uz (aM x++r) x r w jG ⟨by omega,rfl⟩
 generalize aM (t.drop n)++(aM x++r)=r1 at *;generalize aM x++r=r2 at *;have hx:({ data:=last.toArray }:ByteArray).extract 0 n=⟨(last.take n).toArray⟩:=og last n;have wK:({ data:=(last.take n).toArray }:ByteArray)++{ data:=(t.drop n).toArray }=⟨t.toArray⟩:=by rw[bytes_append,hj]
 have BI:r.length≤9223372036854775807:=by omega
 have C:=Hd c;have C2:=Hd c2;have C3:=Hd c3;have HX:=Hd hx;have as2:=Hd wK;have hn:=ha.1;have gU:(last.take n).length=n:=by rw[List.length_take];omega
 generalize hq:t.drop n=q at *;generalize gJ:last.take n=lt at *;clear c c2 c3 h hj hx wK aD ha hq gJ;go_enter Tryz.func203,Tryz.ntmps203;go_wp2_with fail;refine(C.out _).mono ?_;rintro e w1 ⟨rfl,q1⟩;have b1:=(Blk.new w _ _).stays q1;have q1':=(Q.alloc w _).trans q1;have B1:=Hd b1;have Q1:=Hd q1';clear b1 q1' q1;go_wp2_with fail;refine(C2.out _).mono ?_;rintro e w2 ⟨rfl,q2⟩;have n2:=(Blk.new w1 _ _).stays q2;have b2:=(B1.out.alloc _).stays q2;have q2':=(Q1.out.trans (Q.alloc _ _)).trans q2;have B2:=Hd b2;have Q2:=Hd q2';have N2:=Hd n2;obtain⟨nc0,nc1,nc2,_⟩:=n2.c3;clear b2 q2' q2 B1 Q1 n2;go_wp2_with fail;refine(C3.out _).mono ?_;rintro e w3 ⟨rfl,q3⟩;have t3:=(Blk.new w2 _ _).stays q3;have n3:=(N2.out.alloc _).stays q3;have b3:=(B2.out.alloc _).stays q3;have q3':=(Q2.out.trans (Q.alloc _ _)).trans q3;have B3:=Hd b3;have Q3:=Hd q3';obtain⟨nc0,nc1,nc2,_⟩:=n3.c3;obtain⟨tc0,tc1,tc2,_⟩:=t3.c3;have N3:=Hd n3;have T3:=Hd t3;clear b3 q3' q3 B2 Q2 n3 t3 N2;go_wp2_with fail;have v4:=Blk.new w3 303 #[.string ⟨x.toArray⟩,.string ⟨r.toArray⟩,.bool true];have b4:=B3.out.alloc (.cells #[.string ⟨x.toArray⟩,.string ⟨r.toArray⟩,.bool true] 303);have q4:=Q3.out.trans (Q.alloc w3 (.cells #[.string ⟨x.toArray⟩,.string ⟨r.toArray⟩,.bool true] 303));have n4:=N3.out.alloc (.cells #[.string ⟨x.toArray⟩,.string ⟨r.toArray⟩,.bool true] 303);have t4:=T3.out.alloc (.cells #[.string ⟨x.toArray⟩,.string ⟨r.toArray⟩,.bool true] 303);generalize w3.alloc (.cells #[.string ⟨x.toArray⟩,.string ⟨r.toArray⟩,.bool true] 303)=w4 at *;obtain⟨c0,c1,c2,c3,f0,f1,f2,f3⟩:=b4.c4;obtain⟨nc0,nc1,nc2,_⟩:=n4.c3;obtain⟨tc0,tc1,tc2,_⟩:=t4.c3;obtain⟨vc0,vc1,vc2,_⟩:=v4.c3;have B4:=Hd b4;have Q4:=Hd q4;clear b4 q4 n4 t4 v4 B3 Q3 N3 T3;have hx:=HX.out;have wK:=as2.out;have rD:(n:Int)≤(last.length:Int):=by omega
 have mY:∀W:World,(Op.stringOp .add ⟨lt.toArray⟩ ⟨q.toArray⟩).run Tryz.prog W=.ok (.string (⟨lt.toArray⟩++⟨q.toArray⟩)) W:=fun W=>run_string_add_sum W _ _ (by simp[ByteArray.size];omega)
 rw[wK] at mY;go_still_tail 23,(by kernel_rfl)
 change wpList _ _ _ _ _ w4.drew;have B5:=Hd (B4.out.stays (Q.drew _));have Q5:=Hd (Q4.out.trans (Q.drew _));generalize w4.drew=w5 at *;obtain⟨d0,d1,d2,d3,g0,g1,g2,g3⟩:=B5.out.c4;go_wp2_with fail;obtain⟨s0,s1,s2,s3⟩:=B5.out.s4;refine bodyPost_ret (v:=.agg #[ak t,ak x,ak r,.bool true]) ?_ rfl ?_
 ·simp[results,Tryz.results203,go_sem,s0,s1,s2,s3]
 exact⟨rfl,(((Q5.out.setCell (by simp) _).setCell (by simp) _).setCell (by simp) _).setCell (by simp) _⟩
theorem dO{w:World}{base base':Nat}{e:TypeId}{size:Nat}{v:Value}{n:Nat}{xs:List Value}(h:w.ownsRow base e size v n xs)(hb:base'≤base):w.ownsRow base' e size v n xs:=by
 obtain⟨h1,h2⟩:=h;refine⟨h1,?_⟩;rcases h2 with h2|⟨g,cap,cur,rfl,aO,hg,rest⟩
 ·exact .inl h2
 ·exact .inr ⟨g,cap,cur,rfl,Nat.le_trans hb aO,hg,rest⟩
theorem jE{w:World}{base:Nat}{e:TypeId}{size:Nat}{v:Value}{n:Nat}{xs:List Value}(h:w.ownsRow base e size v n xs):∀g,v.ownBlock=some g→∃cs,w.heap[g]?=some (.cells cs e (0,0)):=by
 intro g hg;rcases h.2 with ⟨rfl,_⟩|⟨g',cap,cur,rfl,_,BJ,_⟩
 ·simp[Value.ownBlock] at hg
 ·simp only[Value.ownBlock,Option.some.injEq] at hg
  subst hg;exact⟨_,BJ⟩
theorem kI{w:World}{base base':Nat}{e e':TypeId}{size size':Nat}{v v':Value}{n n':Nat}{xs xs':List Value}(h:w.ownsRow base e size v n xs)(h':w.ownsRow base' e' size' v' n' xs')(aF:e≠e'){g:Nat}(hg:v'.ownBlock=some g):v.ownBlock≠some g:=by
 intro hb;obtain⟨cs,hc⟩:=jE h g hb;obtain⟨cs',xG⟩:=jE h' g hg;rw[hc] at xG;injection xG with xG;injection xG with _ xG _;exact aF xG
theorem iW{w w':World}{base base':Nat}{e e':TypeId}{size size':Nat}{v v':Value}{n n':Nat}{xs xs':List Value}(h:w.ownsRow base e size v n xs)(h':w.ownsRow base' e' size' v' n' xs')(hg:w.grownBy w' v'.ownBlock)(aF:e≠e'):w'.ownsRow base e size v n xs:=by
 refine h.kept hg ?_;cases hv:v'.ownBlock with
 | none=>cases hb:v.ownBlock with
  | none=>exact .inl rfl
  | some g=>exact .inr (by simp)
 | some g=>exact .inr (kI h h' aF hv)
theorem lW{w w':World}{base:Nat}{e:TypeId}{size:Nat}{v:Value}{n:Nat}{xs:List Value}{k:Nat}{t:TypeId}{cs:Array Value}(h:Blk w k t cs)(h':w.ownsRow base e size v n xs)(hg:w.grownBy w' v.ownBlock)(aF:t≠e):Blk w' k t cs:=by
 refine(hg.block k h.lt (fun e'=>?_)).trans h
 obtain⟨cs,hc⟩:=jE h' k e'.symm;rw[show _=_ from h] at hc
 injection hc with h3;injection h3 with _ h3 _;exact aF h3
theorem yM(b off j:Nat):(⟨b,off,none⟩:Addr).add j=⟨b,off+j,none⟩:=by unfold Addr.add;split<;>simp_all
end
end Go.Proofs.YthijhicdmnoifaaGreatDoor
