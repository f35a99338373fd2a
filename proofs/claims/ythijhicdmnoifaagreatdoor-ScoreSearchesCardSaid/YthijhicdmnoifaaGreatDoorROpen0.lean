/- Joined texts of one proof. -/
import Derived.ShutString
import Derived.LaidMore
import Derived.Lay
import Derived.Lib.LaidU8T
import Derived.PinnedBridge
import Derived.Test.YthijhicdmnoifaaGreatDoorRows
import Derived.Test.YthijhicdmnoifaaGreatDoorRWBin
set_option linter.unusedSimpArgs false
set_option linter.unusedVariables false
set_option linter.unnecessarySimpa false
set_option maxRecDepth 100000
set_option maxHeartbeats 8000000
namespace Go.Proofs.YthijhicdmnoifaaGreatDoor
section
open Go.ChangeShapes Go.WideShapes Go.ChangeAt Go.RowKit Go.Deep
theorem ace(css:List (List Value))(sz:Nat)(h:∀c∈css,c.length=sz)(j:Nat)(u:Value)(hj:css.flatten[j]?=some u):∃i r c,css[i]?=some c∧c[r]?=some u∧j=i*sz+r∧r<sz:=by
 induction css generalizing j with
 | nil=>simp at hj
 | cons c css ih =>
  have hc:=h c (by simp)
  rw[List.flatten_cons] at hj;by_cases hlt:j<c.length
  ·rw[List.getElem?_append_left hlt] at hj
   exact⟨0,j,c,rfl,hj,by omega,by omega⟩
  ·rw[List.getElem?_append_right (by omega)] at hj
   obtain⟨i,r,c',h1,h2,h3,h4⟩:=ih (fun x hx=>h x (by simp[hx])) _ hj
   exact⟨i+1,r,c',by simpa using h1,h2,by rw[Nat.add_mul];omega,h4⟩
theorem iN(css:List (List Value))(sz:Nat)(h:∀c∈css,c.length=sz):css.flatten.length=css.length*sz:=by
 induction css with
 | nil=>simp
 | cons c css ih =>
  rw[List.flatten_cons,List.length_append,ih (fun x hx=>h x (by simp[hx])),h c (by simp),List.length_cons,Nat.add_mul];omega
section
variable {H:Type} {enc:TypeId×Value→H} {P:Program} {w:World} {base:Nat} {spare:Nat→Bool} {held:Bool}
theorem open_sl{α:Type}[Inhabited α]{t e:TypeId}(ht:P.underlying t=some (.slice e))(sz:Nat)(hC:P.cellsOf e=sz)(aY:0<sz)(R:List Value→α→Prop)
  (hR:∀n cs x,DataW.trod enc P w base spare held n e cs=some x→∃a,R cs a) {fuel:Nat} {v:Value} {x:DataW H×List MemPlace} (h:DataW.trod enc P w base spare held fuel t [v]=some x) :
  ∃(xs:List α) (css:List (List Value)),xs.length=css.length∧Sl w v xs.length sz css.flatten∧(∀(i:Nat) a c,css[i]?=some c→xs[i]?=some a→R c a)∧xs.length≤maxLen:=by
 rcases open_slice ht h with ⟨h0,_⟩|⟨a,len,cap,m,n,D,Pl,tN,_,hl,hm,vT,_,ES⟩
 ·obtain rfl:v=.slice none 0 0:=by simpa using h0
  exact⟨[],[],rfl,Sl.nil _ _,fun i a c hc=>by simp at hc,by simp⟩
 ·obtain rfl:v=.slice (some a) len cap:=by simpa using tN
  have AU:len≤m:=by rw[vT];split<;>omega
  have hex:∀i:Nat,∃p:List Value×α,i<len→(w.cells? base (a.add (i*sz)) sz=some p.1∧R p.1 p.2):=by
   intro i;by_cases hi:i<len
   ·obtain⟨cs',h1,h2⟩:=ES i (by omega)
    rw[hC] at h1;obtain⟨b,hb⟩:=hR _ _ _ h2;exact⟨(cs',b),fun _=>⟨h1,hb⟩⟩
   ·exact⟨([],default),fun h=>absurd h hi⟩
  obtain⟨f,hf⟩:=Classical.axiomOfChoice hex;have aD:∀c∈(List.range len).map (fun i=>(f i).1),c.length=sz:=by
   intro c hc;obtain⟨i,hi,rfl⟩:=List.mem_map.1 hc;exact(World.cells?_some (hf i (List.mem_range.1 hi)).1).2.1
  refine⟨(List.range len).map (fun i=>(f i).2),(List.range len).map (fun i=>(f i).1),by simp,⟨?_,some a,cap,by simp,fun hn=>?_⟩,fun i b c hc hb=>?_,by simp;omega⟩
  ·rw[iN _ sz aD];simp
  ·simp only[List.length_map,List.length_range] at hn
   have h0:=(World.cells?_some (hf 0 hn).1).2.2 0 aY;obtain⟨b,off,spot⟩:=a;have Xm:=(World.cells?_some (hf 0 hn).1).2.1;rw[List.getElem?_eq_getElem (by omega)] at h0
   have aje:spot=none:=by simpa[Addr.add] using World.cell?_spot h0
   subst aje;refine⟨b,off,rfl,fun j u hj=>?_⟩
   obtain⟨i,r,c,h1,h2,h3,h4⟩:=ace _ sz aD j u hj;rw[List.getElem?_map] at h1;cases hr:(List.range len)[i]? with
   | none=>rw[hr] at h1;cases h1
   | some i' =>
    rw[hr] at h1;cases h1;obtain⟨uj,KN⟩:=List.getElem?_eq_some_iff.1 hr;rw[List.getElem_range] at KN;subst KN;have:=(World.cells?_some (hf i (by simpa using uj)).1).2.2 r h4
    rw[h2,yM,yM] at this;rw[h3,←Nat.add_assoc];exact this
  ·rw[List.getElem?_map] at hc hb
   cases hr:(List.range len)[i]? with
   | none=>rw[hr] at hc;cases hc
   | some i' =>
    rw[hr] at hc hb;cases hc;cases hb;obtain⟨uj,KN⟩:=List.getElem?_eq_some_iff.1 hr;rw[List.getElem_range] at KN;subst KN;exact(hf i (by simpa using uj)).2
end
section
variable {H:Type} {enc:TypeId×Value→H} {w:World} {base:Nat} {spare:Nat→Bool} {held:Bool}
theorem U6{n:Nat}{cs:List Value}{x:DataW H×List MemPlace}(h:DataW.trod enc Tryz.prog w base spare held n 9 cs=some x):∃s:Bytes,cs=[ak s]∧s.length≤9223372036854775807:=by
 obtain⟨s,hs,_,hl⟩:=DataW.trod_string Tryz.underlying9 h;refine⟨s.data.toList,?_,?_⟩
 ·rw[hs]
 ·unfold maxLen at hl
  have e:s.data.toList.length=s.size:=Array.length_toList;rw[e];exact hl
theorem trod_doc{n:Nat}{cs:List Value}{x:DataW H×List MemPlace}(h:DataW.trod enc Tryz.prog w base spare held n 47 cs=some x):∃d:au,cs=[ak d.1,ak d.2]∧d.1.length≤9223372036854775807∧d.2.length≤9223372036854775807:=by
 have c9:Tryz.prog.cellsOf 9=1:=by kernel_rfl
 have c40:Tryz.prog.cellsOf 47=2:=by kernel_rfl
 obtain⟨xs,n',_,_,lD,rE,hf⟩:=DataW.trod_struct Tryz.underlying47 h;rw[c40] at lD;match cs,lD with
 | [a,b],_ =>
  have g0:DataW.trod enc Tryz.prog w base spare held n' 9 (([a,b].drop 0).take (Tryz.prog.cellsOf 9))=xs[0]?:=hf 0 _ rfl;rw[c9] at g0;have h0:DataW.trod enc Tryz.prog w base spare held n' 9 [a]=xs[0]?:=g0;have g1:DataW.trod enc Tryz.prog w base spare held n' 9 (([a,b].drop 1).take (Tryz.prog.cellsOf 9))=xs[1]?:=hf 1 _ rfl;rw[c9] at g1;have h1:DataW.trod enc Tryz.prog w base spare held n' 9 [b]=xs[1]?:=g1;have qE:xs.length=2:=rE;rw[List.getElem?_eq_getElem (by omega)] at h0 h1
  obtain⟨s,e0,l0⟩:=U6 h0;obtain⟨t,e1,l1⟩:=U6 h1;cases e0;cases e1;exact⟨(s,t),rfl,l0,l1⟩
end
end
section
open Go.ChangeShapes Go.WideShapes Go.ChangeAt Go.RowKit Go.Lib Go.Shelf
abbrev laidL:List (String×DataW Unit):=[("unicode/utf8.acceptRanges",Rows.laid_unicode_utf8_acceptRanges),("codex/utf.spans",Rows.laid_codex_utf_spans),("unicode/utf8.first",Rows.laid_unicode_utf8_first)]
theorem u8extra:U8Extra Tryz.prog Tryz.lays196_ren:=⟨by kernel_rfl,by kernel_rfl,by kernel_rfl,by kernel_rfl,by kernel_rfl,by kernel_rfl,by kernel_rfl⟩
theorem accept_eq:(Rows.laid_unicode_utf8_acceptRanges:DataW Unit)=acceptData:=by kernel_rfl
theorem first_eq:Rows.laid_unicode_utf8_first=firstData:=Pinned.utf8First_eq
theorem tabs_of{W:World}(h:laidMet Tryz.prog laidL W):Tabs W:=by
 have h1:=Lib.laidMet.reads h (n := "unicode/utf8.first") (d:=Rows.laid_unicode_utf8_first) (by simp)
 have h2:=Lib.laidMet.reads h (n := "unicode/utf8.acceptRanges") (d:=Rows.laid_unicode_utf8_acceptRanges) (by simp)
 rw[first_eq] at h1;rw[accept_eq] at h2;exact utf8Tabs_of_readsT (U8Types.of196 Tryz.lays196) u8extra h1 h2
def spansData:DataW Unit:=.agg (spansL.map fun x=>.agg [.lit (.int .i32 x.1),.lit (.int .i32 x.2.1),.lit (.int .i64 x.2.2)])
theorem spans_eq:(Rows.laid_codex_utf_spans:DataW Unit)=spansData:=by kernel_rfl
theorem spans_of{W:World}(h:laidMet Tryz.prog laidL W):Spans W:=by
 have h1:=Lib.laidMet.reads h (n := "codex/utf.spans") (d:=Rows.laid_codex_utf_spans) (by simp)
 rw[spans_eq] at h1;obtain⟨g,t,cs,fuel,p,hg,hty,atV,hd⟩:=h1;have n2:Tryz.prog.globalNamed "codex/utf.spans" = some 2:=by kernel_rfl
 have y2:(Tryz.prog.globals[2]?).map (·.type)=some 289:=by kernel_rfl
 obtain rfl:=Option.some.inj (n2.symm.trans hg);obtain rfl:=Option.some.inj (y2.symm.trans hty);have cE:Tryz.prog.cellsOf 288=3:=by kernel_rfl
 have c32:Tryz.prog.cellsOf 21=1:=by kernel_rfl
 have c64:Tryz.prog.cellsOf 3=1:=by kernel_rfl
 intro i x hx;have uj:i<34:=by have:=(List.getElem?_eq_some_iff.1 hx).1;rwa [Ph] at this
 obtain⟨fuel',d,q,Tw,he⟩:=array_elem Tryz.underlying289 hd i uj;rw[List.getElem?_map,hx] at Tw;cases Tw;rw[cE] at he;obtain⟨xs,n',_,Ey,lD,rE,hf⟩:=DataW.trod_struct Tryz.underlying288 he;rw[cE] at lD;have aJ:∀r,r<3→W.cell? ⟨2,i*3+r,none⟩=((cs.toList.drop (i*3)).take 3)[r]?:=by
  intro r hr;rw[World.var?_cell hg atV (i*3+r),←Array.getElem?_toList,List.getElem?_take,if_pos hr,List.getElem?_drop]
 generalize (cs.toList.drop (i*3)).take 3=c3 at *;match c3,lD with
 | [a,b,c],_ =>
  have g0:DataW.trod (fun _=>()) Tryz.prog W 0 (fun _=>true) false n' 21 (([a,b,c].drop 0).take (Tryz.prog.cellsOf 21))=xs[0]?:=hf 0 _ rfl
  have g1:DataW.trod (fun _=>()) Tryz.prog W 0 (fun _=>true) false n' 21 (([a,b,c].drop 1).take (Tryz.prog.cellsOf 21))=xs[1]?:=hf 1 _ rfl
  have g2:DataW.trod (fun _=>()) Tryz.prog W 0 (fun _=>true) false n' 3 (([a,b,c].drop 2).take (Tryz.prog.cellsOf 3))=xs[2]?:=hf 2 _ rfl
  rw[c32] at g0 g1;rw[c64] at g2;have tL:xs.length=3:=rE;match xs,tL with
  | [x0,x1,x2],_ =>
   obtain⟨z0,e0,f0,_⟩:=DataW.trod_int Tryz.underlying21 (show DataW.trod (fun _=>()) Tryz.prog W 0 (fun _=>true) false n' 21 [a]=some x0 from g0)
   obtain⟨z1,e1,f1,_⟩:=DataW.trod_int Tryz.underlying21 (show DataW.trod (fun _=>()) Tryz.prog W 0 (fun _=>true) false n' 21 [b]=some x1 from g1)
   obtain⟨z2,e2,f2,_⟩:=DataW.trod_int Tryz.underlying3 (show DataW.trod (fun _=>()) Tryz.prog W 0 (fun _=>true) false n' 3 [c]=some x2 from g2)
   cases e0;cases e1;cases e2;subst f0;subst f1;subst f2;simp only[Prod.mk.injEq,DataW.agg.injEq,List.map_cons,List.map_nil,List.cons.injEq,DataW.lit.injEq,Lit.int.injEq,true_and,and_true] at Ey;obtain⟨⟨q0,q1,q2⟩,_⟩:=Ey;rw[q0,q1,q2];exact⟨aJ 0 (by omega),aJ 1 (by omega),aJ 2 (by omega)⟩
end
section
theorem take1{s:Bytes}(h:0<s.length):s.take 1=[s.getD 0 0]:=by
 cases s with
 | nil=>simp at h
 | cons a s=>rfl
def encs(rs:List Nat):Bytes:=rs.flatMap fun r:Nat=>Lib.encodeRune (r:Int)
abbrev wG:=List OpL×Bool×Int×Int
def Ea(mg:Bool)(ps:List aG)(a:wG):List aG:=if a.2.1 then(if mg then(kX ps a.2.2.1 a.2.2.2).1 else ps) else(fB ps a.1).1
def je(mg:Bool)(l:List wG)(k:Nat):List aG:=(l.take k).foldl (Ea mg) []
theorem F9(mg:Bool)(l:List wG)(k:Nat)(h:k<l.length):je mg l (k+1)=Ea mg (je mg l k) l[k]:=by
 unfold je;rw[List.take_succ_eq_append_getElem h,List.foldl_append];rfl
theorem Zv(mg:Bool)(ps:List aG)(a:wG)(h:eu ps):eu (Ea mg ps a):=by
 unfold Ea;split
 ·split
  ·exact merge_ok _ _ _ h
  ·exact h
 ·exact Ji _ _ h
theorem aaM(mg:Bool)(ps:List aG)(a:wG):(Ea mg ps a).length≤ps.length+1:=by
 unfold Ea;split
 ·split
  ·exact Nat.le_trans (abq _ _ _) (Nat.le_succ _)
  ·exact Nat.le_succ _
 ·exact Pn _ _
theorem C9(mg:Bool)(l:List wG)(k:Nat)(hk:k≤l.length):eu (je mg l k)∧(je mg l k).length≤k:=by
 induction k with
 | zero=>exact⟨⟨fun p hp=>by simp[je] at hp,by simp[je,aH]⟩,by simp[je]⟩
 | succ k ih =>
  obtain⟨h1,h2⟩:=ih (by omega)
  rw[F9 mg l k hk];exact⟨Zv mg _ _ h1,by have:=aaM mg (je mg l k) l[k];omega⟩
theorem BD(ps:List aG)(h:eu ps)(q:QL):bA (aH ps) q=bA (bW ps) q:=(Wv q (Gq ps h.2)).symm
theorem count_one(t:Bytes)(l:bP):kC [(t,0)] l=(l.filter fun y=>y.1==t).length:=by
 unfold kC;simp
theorem acg(s t:Bytes):(placesIn s t).length=kC [(t,0)] (aA s):=by
 rw[count_one];unfold placesIn;induction aA s with
 | nil=>rfl
 | cons y l ih =>
  by_cases e:y.1=t
  ·rw[List.filterMap_cons_some (b:=(y.2:Int)) (by rw[if_pos e]),List.filter_cons_of_pos (by simp[e]),List.length_cons,List.length_cons,ih]
  ·rw[List.filterMap_cons_none (by rw[if_neg e]),List.filter_cons_of_neg (by simp[e]),ih]
end
section
open Go.Sort
abbrev jo:=List au×List Bool
def Sm(gs:List Bool):Nat→Bytes
 | 0=>jr gs.length
 | k+1=>nR (Sm gs k) k (gs.getD k false) 1
def bmpL(gs:List Bool):Bytes:=Sm gs gs.length
theorem P7(n:Nat)(h:n≤500):(jr n).length=(n+7) / 8∧∀j,bit (jr n) j=false:=by
 unfold jr;split
 ·refine⟨by rw[List.length_replicate];omega,fun j=>YO _ _⟩
 ·have:n=0:=by omega
  subst this;exact⟨rfl,fun j=>YJ _ _ (by simp)⟩
theorem Zw(gs:List Bool)(h:gs.length≤500)(k:Nat):(Sm gs k).length=(gs.length+7) / 8:=by
 induction k with
 | zero=>exact(P7 _ h).1
 | succ k ih=>rw[Sm,DL,ih]
theorem bmpTo_bit(gs:List Bool)(h:gs.length≤500)(k:Nat)(hk:k≤gs.length)(j:Nat):bit (Sm gs k) j=if j<k then gs.getD j false else false:=by
 induction k with
 | zero=>rw[if_neg (by omega)];exact(P7 _ h).2 j
 | succ k ih =>
  rw[Sm,JY _ _ _ _ _ (by rw[Zw gs h];omega),ih (by omega)]
  by_cases h1:k≤j∧j<k+1
  ·have:j=k:=by omega
   subst this;rw[if_pos h1,if_pos (by omega)]
  ·rw[if_neg h1]
   by_cases h2:j<k
   ·rw[if_pos h2,if_pos (by omega)]
   ·rw[if_neg h2,if_neg (by omega)]
theorem Oi(gs:List Bool)(h:gs.length≤500)(j:Nat):bit (bmpL gs) j=gs.getD j false:=by
 unfold bmpL;rw[bmpTo_bit gs h _ (Nat.le_refl _)];split
 ·rfl
 ·rw[List.getD_eq_getElem?_getD,List.getElem?_eq_none (by omega)];rfl
theorem ach(gs:List Bool)(h:gs.length≤500):(bmpL gs).length=(gs.length+7) / 8:=Zw gs h _
def toP(r:jo):aG:=(r.1,bmpL r.2)
def qL(ids:List Bytes)(r:jo):jo:=(r.1,(r.1.zip r.2).map fun x=>x.2||ids.contains x.1.1)
def RPartOk(r:jo):Prop:=r.2.length=r.1.length∧PartOk (toP r)
theorem RPartOk.len{r:jo}(h:RPartOk r):r.1.length≤500∧r.2.length≤500∧(r.1.map (·.1)).Nodup:=by
 have h1:r.1.length≤500:=h.2.2.2.1;have h2:=h.1;exact⟨h1,by omega,h.2.1.2⟩
theorem afm(id:Bytes)(p:aG)(hn:(p.1.map (·.1)).Nodup)(hl:p.2.length=(p.1.length+7) / 8)(j:Nat):bit (fM id p).2 j=(bit p.2 j||decide (∃d,p.1[j]?=some d∧d.1=id)):=by
 unfold fM;cases hf:oz p.1 id with
 | none =>
  have fE:¬∃d,p.1[j]?=some d∧d.1=id:=by
   rintro⟨d,hd,he⟩;exact NT p.1 id hf (List.mem_map.2 ⟨d,List.mem_of_getElem? hd,he⟩)
  rw[decide_eq_false fE,Bool.or_false]
 | some k =>
  obtain⟨d,hd,he⟩:=DT p.1 id k hf;obtain⟨hk,_⟩:=List.getElem?_eq_some_iff.1 hd;show bit (nR p.2 k true 1) j=_;rw[JY _ _ _ _ _ (by omega)]
  by_cases hj:k≤j∧j<k+1
  ·have:j=k:=by omega
   subst this;rw[if_pos hj,decide_eq_true ⟨d,hd,he⟩,Bool.or_true]
  ·have fE:¬∃d,p.1[j]?=some d∧d.1=id:=by
    rintro⟨d',hd',OI⟩;have:=at_one hn hd' hd (by rw[he,OI])
    omega
   rw[if_neg hj,decide_eq_false fE,Bool.or_false]
theorem aaQ(ids:List Bytes)(p:aG):(ids.foldl (fun p id=>fM id p) p).1=p.1:=by
 induction ids generalizing p with
 | nil=>rfl
 | cons id ids ih=>rw[List.foldl_cons,ih,qN]
theorem aci(ids:List Bytes)(p:aG):(ids.foldl (fun p id=>fM id p) p).2.length=p.2.length:=by
 induction ids generalizing p with
 | nil=>rfl
 | cons id ids ih=>rw[List.foldl_cons,ih,LC]
theorem acj(ids:List Bytes)(p:aG)(hn:(p.1.map (·.1)).Nodup)(hl:p.2.length=(p.1.length+7) / 8)(j:Nat):bit (ids.foldl (fun p id=>fM id p) p).2 j=(bit p.2 j||decide (∃d,p.1[j]?=some d∧d.1∈ids)):=by
 induction ids generalizing p with
 | nil=>simp
 | cons id ids ih =>
  rw[List.foldl_cons,ih _ (by rw[qN];exact hn) (by rw[qN,LC];exact hl),afm id p hn hl,qN,Bool.or_assoc]
  congr 1;rw[Bool.eq_iff_iff];simp only[Bool.or_eq_true,decide_eq_true_eq,List.mem_cons];constructor
  ·rintro(⟨d,h1,h2⟩|⟨d,h1,h2⟩)
   ·exact⟨d,h1,.inl h2⟩
   ·exact⟨d,h1,.inr h2⟩
  ·rintro⟨d,h1,h2|h2⟩
   ·exact .inl ⟨d,h1,h2⟩
   ·exact .inr ⟨d,h1,h2⟩
theorem afn(ids:List Bytes)(ps:List aG):iq ids ps=ps.map fun p=>ids.foldl (fun p id=>fM id p) p:=by
 induction ids generalizing ps with
 | nil=>rw[Tc];simp
 | cons id ids ih=>rw[wM,ih,List.map_map];rfl
theorem P8(ids:List Bytes)(r:jo)(h:r.2.length=r.1.length):(qL ids r).2.length=r.1.length:=by
 unfold qL;simp[h]
theorem goneR_toP(ids:List Bytes)(r:jo)(h:RPartOk r):ids.foldl (fun p id=>fM id p) (toP r)=toP (qL ids r):=by
 obtain⟨h1,h2,h3⟩:=h.len;have AA:=P8 ids r h.1;have gQ:(toP r).2.length=((toP r).1.length+7) / 8:=h.2.2.2.2;refine Prod.ext (aaQ ids _) ?_;refine abn _ _ ?_ (fun j _=>?_)
 ·rw[aci,gQ]
  show _=(bmpL (qL ids r).2).length;rw[ach _ (by omega),AA];rfl
 ·rw[acj ids (toP r) h3 gQ j]
  show(bit (bmpL r.2) j||decide (∃d,r.1[j]?=some d∧d.1∈ids))=bit (bmpL (qL ids r).2) j;rw[Oi _ h2,Oi _ (by omega)]
  unfold qL;simp only[List.getD_eq_getElem?_getD,List.getElem?_map,List.getElem?_zip_eq_some];by_cases hj:j<r.1.length
  ·have e1:r.1[j]?=some r.1[j]:=List.getElem?_eq_getElem hj
   have e2:r.2[j]?=some (r.2[j]'(by have:=h.1;omega)):=List.getElem?_eq_getElem (by have:=h.1;omega)
   have e3:(r.1.zip r.2)[j]?=some (r.1[j],r.2[j]'(by have:=h.1;omega)):=List.getElem?_zip_eq_some.2 ⟨e1,e2⟩
   rw[e2,e3,e1];simp
  ·have e1:r.1[j]?=none:=List.getElem?_eq_none (by omega)
   have e2:r.2[j]?=none:=List.getElem?_eq_none (by have:=h.1;omega)
   have e3:(r.1.zip r.2)[j]?=none:=List.getElem?_eq_none (by simp;omega)
   rw[e2,e3,e1];simp
def yD(l:List au):List jo:=if l=[] then [] else [(l,List.replicate l.length false)]
theorem WO(l:List au)(h:l.length≤500):(bG l).1=(yD l).map toP:=by
 unfold bG yD;by_cases he:l=[]
 ·rw[if_pos he,if_pos he];rfl
 ·rw[if_neg he,if_neg he]
  have hm:=P7 l.length h;have:jr l.length=bmpL (List.replicate l.length false):=by
   refine abn _ _ (by rw[hm.1,ach _ (by simpa using h)];simp) (fun j _=>?_)
   rw[hm.2,Oi _ (by simpa using h),List.getD_eq_getElem?_getD,List.getElem?_replicate]
   split<;>rfl
  simp only[List.map_cons,List.map_nil,toP];rw[this]
def nM(rs:List jo)(ops:List OpL):List jo×Bytes×Int :=
 if ops.length<1∨50<ops.length then(rs,[],6)
 else if ops.all dZ then(rs.map (qL (nI ops))++yD (bq ops),(if bq ops=[] then [] else jV (bq ops) (Ci (bq ops))),0) else(rs,[],1)
theorem apply_R(rs:List jo)(ops:List OpL)(h:∀r∈rs,RPartOk r):fB (rs.map toP) ops=((nM rs ops).1.map toP,(nM rs ops).2):=by
 unfold fB nM;split
 ·rfl
 ·rename_i h1
  split
  ·have hm:(bq ops).length≤500:=by
    have h2:(bq ops).length≤(fK ops).length:=by unfold bq;rw[List.length_map];exact List.length_filter_le _ _
    have h3:=(Gp ops).length_le;omega
   rw[afn,WO _ hm,List.map_map,List.map_append,List.map_map];have e:rs.map ((fun p=>(nI ops).foldl (fun p id=>fM id p) p) ∘ toP)=rs.map (toP ∘ qL (nI ops)):=List.map_congr_left (fun r hr=>goneR_toP _ r (h r hr))
   rw[e];unfold bG;split<;>rfl
  ·rfl
def Ce(r:jo):List au:=((r.1.zip r.2).filter fun x => !x.2).map (·.1)
theorem afo(g:Bytes)(l:List au)(gs:List Bool)(k:Nat)(hl:gs.length=l.length)(h:∀i,bit g (k+i)=gs.getD i false):nC g l k=((l.zip gs).filter fun x => !x.2).map (·.1):=by
 induction l generalizing gs k with
 | nil=>simp[nC]
 | cons d l ih =>
  cases gs with
  | nil=>simp at hl
  | cons b gs =>
   have h0:=h 0;simp only[Nat.add_zero,List.getD_cons_zero] at h0;have h1:=ih gs (k+1) (by simpa using hl) (fun i=>by have:=h (i+1);rw[show k+1+i=k+(i+1) by omega,this];simp)
   rw[nC,h0,h1,List.zip_cons_cons,List.filter_cons];cases b<;>simp
theorem live_toP(r:jo)(h:RPartOk r):rY (toP r)=Ce r:=by
 obtain⟨h1,h2,h3⟩:=h.len;unfold rY Ce toP;exact afo _ _ _ 0 h.1 (fun i=>by rw[Nat.zero_add];exact Oi _ h2 i)
theorem Zx(rs:List jo)(h:∀r∈rs,RPartOk r):aH (rs.map toP)=rs.flatMap Ce:=by
 unfold aH;rw[List.flatMap_map];induction rs with
 | nil=>rfl
 | cons r rs ih=>rw[List.flatMap_cons,List.flatMap_cons,ih (fun x hx=>h x (by simp[hx])),live_toP r (h r (by simp))]
def fP(d:au):List au→List au
 | []=>[d]
 | x::l=>if bU x.1 d.1 then x::fP d l else if x.1=d.1 then d::l else d::x::l
def Ja(l:List au):Prop:=l.Pairwise fun a b=>a.1<b.1
theorem afp(d:au)(l:List au)(hs:Ja l):Ja (fP d l)∧∀x,x∈fP d l↔x=d∨(x∈l∧x.1≠d.1):=by
 induction l with
 | nil=>exact⟨by simp[fP,Ja],fun x=>by simp[fP]⟩
 | cons y l ih =>
  obtain⟨h1,h2⟩:=List.pairwise_cons.1 hs;obtain⟨h3,h4⟩:=ih h2;rw[fP];by_cases hl:bU y.1 d.1=true
  ·rw[if_pos hl]
   have hlt:=(gu _ _).1 hl;refine⟨List.pairwise_cons.2 ⟨fun x hx=>?_,h3⟩,fun x=>?_⟩
   ·rcases (h4 x).1 hx with rfl|⟨hx,_⟩
    ·exact hlt
    ·exact h1 x hx
   ·simp only[List.mem_cons]
    rw[h4];constructor
    ·rintro(rfl|rfl|⟨h,hn⟩)
     ·exact .inr ⟨.inl rfl,fun e=>by rw[e] at hlt;exact List.lt_irrefl _ hlt⟩
     ·exact .inl rfl
     ·exact .inr ⟨.inr h,hn⟩
    ·rintro(rfl|⟨rfl|h,hn⟩)
     ·exact .inr (.inl rfl)
     ·exact .inl rfl
     ·exact .inr (.inr ⟨h,hn⟩)
  ·rw[if_neg hl]
   have MZ:¬y.1<d.1:=fun h=>hl ((gu _ _).2 h)
   by_cases he:y.1=d.1
   ·rw[if_pos he]
    refine⟨List.pairwise_cons.2 ⟨fun x hx=>by rw[←he];exact h1 x hx,h2⟩,fun x=>?_⟩
    simp only[List.mem_cons];constructor
    ·rintro(rfl|h)
     ·exact .inl rfl
     ·exact .inr ⟨.inr h,fun e=>by have:=h1 x h;rw[e,he] at this;exact List.lt_irrefl _ this⟩
    ·rintro(rfl|⟨rfl|h,hn⟩)
     ·exact .inl rfl
     ·exact absurd he hn
     ·exact .inr h
   ·rw[if_neg he]
    have Ui:d.1<y.1:=by
     rcases List.le_iff_lt_or_eq.1 (List.not_lt.1 MZ) with h|h
     ·exact h
     ·exact absurd h.symm he
    refine⟨List.pairwise_cons.2 ⟨fun x hx=>?_,hs⟩,fun x=>?_⟩
    ·rcases List.mem_cons.1 hx with rfl|hx
     ·exact Ui
     ·exact List.lt_trans Ui (h1 x hx)
    ·simp only[List.mem_cons]
     constructor
     ·rintro(rfl|rfl|h)
      ·exact .inl rfl
      ·exact .inr ⟨.inl rfl,he⟩
      ·exact .inr ⟨.inr h,fun e=>by have:=List.lt_trans Ui (h1 x h);rw[e] at this;exact List.lt_irrefl _ this⟩
     ·rintro(rfl|⟨h,hn⟩)
      ·exact .inl rfl
      ·exact .inr h
def pU(rs:List jo):List au:=(rs.flatMap Ce).foldl (fun a d=>fP d a) []
theorem Yo(ds a:List au)(ha:Ja a)(hn:((a++ds).map (·.1)).Nodup):Ja (ds.foldl (fun a d=>fP d a) a)∧∀x,x∈ds.foldl (fun a d=>fP d a) a↔x∈a∨x∈ds:=by
 induction ds generalizing a with
 | nil=>exact⟨ha,fun x=>by simp⟩
 | cons d ds ih =>
  obtain⟨h1,h2⟩:=afp d a ha;have hd:∀x∈a,x.1≠d.1:=fun x hx e=>by
   rw[List.map_append,List.nodup_append] at hn;exact hn.2.2 x.1 (List.mem_map_of_mem hx) d.1 (by simp) e
  have Rl:∀x,x∈fP d a↔x=d∨x∈a:=fun x=>by
   rw[h2];constructor
   ·rintro(h|⟨h,_⟩)
    ·exact .inl h
    ·exact .inr h
   ·rintro(h|h)
    ·exact .inl h
    ·exact .inr ⟨h,hd x h⟩
  have wB:((fP d a).map (·.1)).Nodup:=(List.pairwise_map.2 (h1.imp (fun h e=>by rw[e] at h;exact List.lt_irrefl _ h)):_)
  have rD:((fP d a++ds).map (·.1)).Nodup:=by
   rw[List.map_append,List.nodup_append] at hn ⊢;refine⟨wB,(List.nodup_cons.1 (by simpa using hn.2.1)).2,fun u hu v hv e=>?_⟩
   obtain⟨x,hx,rfl⟩:=List.mem_map.1 hu;rcases (Rl x).1 hx with rfl|hx
   ·subst e
    have h5:=(List.nodup_cons.1 (show(x.1::ds.map (·.1)).Nodup by simpa using hn.2.1)).1
    exact h5 hv
   ·exact hn.2.2 x.1 (List.mem_map_of_mem hx) v (by simp only[List.map_cons,List.mem_cons];exact .inr hv) e
  obtain⟨h3,h4⟩:=ih (fP d a) h1 rD;rw[List.foldl_cons];refine⟨h3,fun x=>?_⟩
  rw[h4,Rl,List.mem_cons];constructor
  ·rintro((h|h)|h)
   ·exact .inr (.inl h)
   ·exact .inl h
   ·exact .inr (.inr h)
  ·rintro(h|h|h)
   ·exact .inl (.inr h)
   ·exact .inl (.inl h)
   ·exact .inr h
theorem U8(rs:List jo)(h:∀r∈rs,RPartOk r)(hn:((aH (rs.map toP)).map (·.1)).Nodup):pU rs=bW (rs.map toP):=by
 have e:=Zx rs h;obtain⟨h1,h2⟩:=Yo (rs.flatMap Ce) [] (by simp[Ja]) (by rw[List.nil_append,←e];exact hn)
 refine VN _ _ ?_ ?_ ?_ (yN _ hn) (fun d=>?_)
 ·exact List.pairwise_map.2 (h1.imp (fun h=>by simp only[leB,decide_eq_true_eq];exact List.le_of_lt h))
 ·rw[J6];exact List.pairwise_mergeSort JZ J4 _
 ·exact List.pairwise_map.2 (h1.imp (fun h e=>by rw[e] at h;exact List.lt_irrefl _ h))
 ·rw[zy _ hn,e]
  show d∈pU rs↔_;unfold pU;rw[h2];simp
def pY(rs:List jo)(a b:Int):List jo×Bytes×Int :=
 if a<0∨b≤a∨(rs.length:Int)≤b then(rs,[],1)
 else
  if 500<(pU ((rs.take (b.toNat+1)).drop a.toNat)).length then(rs,[],6)
  else(rs.take a.toNat++(yD (pU ((rs.take (b.toNat+1)).drop a.toNat))++rs.drop (b.toNat+1)),(if pU ((rs.take (b.toNat+1)).drop a.toNat)=[] then [] else jV (pU ((rs.take (b.toNat+1)).drop a.toNat)) (Ci (pU ((rs.take (b.toNat+1)).drop a.toNat)))),0)
theorem merge_R(rs:List jo)(a b:Int)(h:∀r∈rs,RPartOk r)(hn:((aH (rs.map toP)).map (·.1)).Nodup):kX (rs.map toP) a b=((pY rs a b).1.map toP,(pY rs a b).2):=by
 unfold kX pY;rw[List.length_map];split
 ·rfl
 ·have CQ:((rs.take (b.toNat+1)).drop a.toNat).Sublist rs:=(List.drop_sublist _ _).trans (List.take_sublist _ _)
  have hd:bW (((rs.map toP).take (b.toNat+1)).drop a.toNat)=pU ((rs.take (b.toNat+1)).drop a.toNat):=by
   rw[←List.map_take,←List.map_drop];refine(U8 _ (fun r hr=>h r (CQ.subset hr)) ?_).symm
   exact((SY (CQ.map toP) rY).map _).nodup hn
  simp only[hd];split
  ·rfl
  ·rename_i h5
   rw[WO _ (by omega)]
   unfold bG;simp only[List.map_append,List.map_take,List.map_drop];split<;>rfl
end
section
def v0R(s:Bytes)(n:Nat):Int:=((s.getD 0 0).toNat:Int)-(if n=2 then 192 else if n=3 then 224 else if n=4 then 240 else 0)
def gq(s:Bytes)(n:Nat):Nat→Int
 | 0=>v0R s n
 | i+1=>64*gq s n i+((s.getD (i+1) 0).toNat:Int)-128
def okR(s:Bytes)(n:Nat):Bool:=Lib.validRune (gq s n (n-1))&&decide (Lib.encodeRune (gq s n (n-1))=s.take n)
theorem toNat8(x:Int)(h0:0≤x)(h1:x<256):(x.toNat.toUInt8).toNat=x.toNat:=by
 rw[Nat.toUInt8_eq,UInt8.toNat_ofNat'];omega
theorem jF(x:Int)(h0:0≤x)(h1:x<256)(b:UInt8):x.toNat.toUInt8=b↔x=(b.toNat:Int):=by
 rw[←UInt8.toNat_inj,toNat8 x h0 h1];omega
theorem nG(r:Int):Lib.validRune r=true↔(0≤r∧r<55296)∨(57343<r∧r≤1114111):=by
 unfold Lib.validRune;simp
theorem Sr(s:Bytes)(h:1≤s.length):okR s 1=true↔(s.getD 0 0).toNat<128:=by
 obtain⟨b0,t,rfl⟩:∃b t,s=b::t:=List.exists_cons_of_ne_nil (by intro e;subst e;simp at h)
 have hb:=b0.toNat_lt;have hv:gq (b0::t) 1 0=(b0.toNat:Int):=by simp[gq,v0R]
 simp only[okR,Nat.sub_self,hv,Bool.and_eq_true,nG,decide_eq_true_eq,List.take_succ_cons,List.take_zero,List.getD_cons_zero];constructor
 ·rintro⟨_,h2⟩
  by_cases hlt:b0.toNat<128
  ·exact hlt
  ·have:=congrArg List.length h2
   unfold Lib.encodeRune at this;rw[Lib.encodeRuneZ_two (by omega) (by omega)] at this
   simp at this
 ·intro hlt
  refine⟨.inl (by omega),?_⟩
  unfold Lib.encodeRune;rw[Lib.encodeRuneZ_one (by omega) (by omega)]
  simp
theorem Yp(b0 b1:UInt8)(t:Bytes):okR (b0::b1::t) 2=true↔b0.toNat / 32=6∧b1.toNat / 64=2∧128≤b0.toNat%32*64+b1.toNat%64:=by
 have hb:=b0.toNat_lt;have dS:=b1.toNat_lt;have hv:gq (b0::b1::t) 2 1=64*((b0.toNat:Int)-192)+(b1.toNat:Int)-128:=by simp[gq,v0R]
 simp only[okR,Nat.add_one_sub_one,hv,Bool.and_eq_true,nG,decide_eq_true_eq,List.take_succ_cons,List.take_zero];generalize hw:64*((b0.toNat:Int)-192)+(b1.toNat:Int)-128=v;constructor
 ·rintro⟨h1,h2⟩
  have hl:=congrArg List.length h2;unfold Lib.encodeRune at h2 hl;by_cases c1:v≤127
  ·rw[Lib.encodeRuneZ_one (by omega) (by omega)] at hl;simp at hl
  ·by_cases c2:v≤2047
   ·rw[Lib.encodeRuneZ_two (by omega) (by omega)] at h2
    simp only[List.map_cons,List.map_nil,List.cons.injEq,and_true] at h2;rw[jF _ (by omega) (by omega),jF _ (by omega) (by omega)] at h2
    omega
   ·by_cases c3:v≤65535
    ·rw[Lib.encodeRuneZ_three (by omega)] at hl;simp at hl
    ·rw[Lib.encodeRuneZ_four (by omega) (by omega)] at hl;simp at hl
 ·rintro⟨h1,h2,h3⟩
  refine⟨by omega,?_⟩
  unfold Lib.encodeRune;rw[Lib.encodeRuneZ_two (by omega) (by omega)]
  simp only[List.map_cons,List.map_nil,List.cons.injEq,and_true];rw[jF _ (by omega) (by omega),jF _ (by omega) (by omega)]
  omega
theorem Zy(b0 b1 b2:UInt8)(t:Bytes):okR (b0::b1::b2::t) 3=true↔b0.toNat / 16=14∧b1.toNat / 64=2∧b2.toNat / 64=2∧2048≤b0.toNat%16*4096+b1.toNat%64*64+b2.toNat%64∧(b0.toNat%16*4096+b1.toNat%64*64+b2.toNat%64<55296∨(57344≤b0.toNat%16*4096+b1.toNat%64*64+b2.toNat%64∧b0.toNat%16*4096+b1.toNat%64*64+b2.toNat%64≤1114111)):=by
 have hb:=b0.toNat_lt;have dS:=b1.toNat_lt;have aO:=b2.toNat_lt;have hv:gq (b0::b1::b2::t) 3 2=64*(64*((b0.toNat:Int)-224)+(b1.toNat:Int)-128)+(b2.toNat:Int)-128:=by simp[gq,v0R]
 simp only[okR,Nat.add_one_sub_one,hv,Bool.and_eq_true,nG,decide_eq_true_eq,List.take_succ_cons,List.take_zero];generalize hw:64*(64*((b0.toNat:Int)-224)+(b1.toNat:Int)-128)+(b2.toNat:Int)-128=v;constructor
 ·rintro⟨h1,h2⟩
  have hl:=congrArg List.length h2;unfold Lib.encodeRune at h2 hl;by_cases c1:v≤127
  ·rw[Lib.encodeRuneZ_one (by omega) (by omega)] at hl;simp at hl
  ·by_cases c2:v≤2047
   ·rw[Lib.encodeRuneZ_two (by omega) (by omega)] at hl;simp at hl
   ·by_cases c3:v≤65535
    ·rw[Lib.encodeRuneZ_three (by omega)] at h2
     simp only[List.map_cons,List.map_nil,List.cons.injEq,and_true] at h2;rw[jF _ (by omega) (by omega),jF _ (by omega) (by omega),jF _ (by omega) (by omega)] at h2
     omega
    ·rw[Lib.encodeRuneZ_four (by omega) (by omega)] at hl;simp at hl
 ·rintro⟨h1,h2,h3,h4,h5⟩
  refine⟨by omega,?_⟩
  unfold Lib.encodeRune;rw[Lib.encodeRuneZ_three (by omega)]
  simp only[List.map_cons,List.map_nil,List.cons.injEq,and_true];rw[jF _ (by omega) (by omega),jF _ (by omega) (by omega),jF _ (by omega) (by omega)]
  omega
theorem okR_four(b0 b1 b2 b3:UInt8)(t:Bytes):okR (b0::b1::b2::b3::t) 4=true↔b0.toNat / 8=30∧b1.toNat / 64=2∧b2.toNat / 64=2∧b3.toNat / 64=2∧65536≤b0.toNat%8*262144+b1.toNat%64*4096+b2.toNat%64*64+b3.toNat%64∧b0.toNat%8*262144+b1.toNat%64*4096+b2.toNat%64*64+b3.toNat%64≤1114111:=by
 have hb:=b0.toNat_lt;have dS:=b1.toNat_lt;have aO:=b2.toNat_lt;have jJ:=b3.toNat_lt;have hv:gq (b0::b1::b2::b3::t) 4 3=64*(64*(64*((b0.toNat:Int)-240)+(b1.toNat:Int)-128)+(b2.toNat:Int)-128)+(b3.toNat:Int)-128:=by simp[gq,v0R]
 simp only[okR,Nat.add_one_sub_one,hv,Bool.and_eq_true,nG,decide_eq_true_eq,List.take_succ_cons,List.take_zero];generalize hw:64*(64*(64*((b0.toNat:Int)-240)+(b1.toNat:Int)-128)+(b2.toNat:Int)-128)+(b3.toNat:Int)-128=v;constructor
 ·rintro⟨h1,h2⟩
  have hl:=congrArg List.length h2;unfold Lib.encodeRune at h2 hl;by_cases c1:v≤127
  ·rw[Lib.encodeRuneZ_one (by omega) (by omega)] at hl;simp at hl
  ·by_cases c2:v≤2047
   ·rw[Lib.encodeRuneZ_two (by omega) (by omega)] at hl;simp at hl
   ·by_cases c3:v≤65535
    ·rw[Lib.encodeRuneZ_three (by omega)] at hl;simp at hl
    ·rw[Lib.encodeRuneZ_four (by omega) (by omega)] at h2
     simp only[List.map_cons,List.map_nil,List.cons.injEq,and_true] at h2;rw[jF _ (by omega) (by omega),jF _ (by omega) (by omega),jF _ (by omega) (by omega),jF _ (by omega) (by omega)] at h2
     omega
 ·rintro⟨h1,h2,h3,h4,h5,h6⟩
  refine⟨by omega,?_⟩
  unfold Lib.encodeRune;rw[Lib.encodeRuneZ_four (by omega) (by omega)]
  simp only[List.map_cons,List.map_nil,List.cons.injEq,and_true];rw[jF _ (by omega) (by omega),jF _ (by omega) (by omega),jF _ (by omega) (by omega),jF _ (by omega) (by omega)]
  omega
def IK(s:Bytes):Int×Nat :=
 if s=[] then(-1,0)
 else if okR s 1 then(gq s 1 0,1)
 else if 2≤s.length∧okR s 2 then(gq s 2 1,2)
 else if 3≤s.length∧okR s 3 then(gq s 3 2,3)
 else if 4≤s.length∧okR s 4 then(gq s 4 3,4)
 else(-1,1)
theorem runeR_eq(s:Bytes):IK s=aP s:=by
 match s with
 | []=>rfl
 | [b0] =>
  have lK:=b0.toNat_lt;have e1:=Sr [b0] (by simp)
  unfold IK aP Lib.decodeN;simp only[e1,gq,v0R];simp
  repeat' split
  all_goals first|rfl|(exfalso;omega)|(apply Prod.ext<;>simp only<;>omega)
 | [b0,b1] =>
  have lK:=b0.toNat_lt;have dS:=b1.toNat_lt;have e1:=Sr [b0,b1] (by simp)
  have e2:=Yp b0 b1 [];unfold IK aP Lib.decodeN;simp only[e1,e2,gq,v0R];simp
  repeat' split
  all_goals first|rfl|(exfalso;omega)|(apply Prod.ext<;>simp only<;>omega)
 | [b0,b1,b2] =>
  have lK:=b0.toNat_lt;have dS:=b1.toNat_lt;have aO:=b2.toNat_lt;have e1:=Sr [b0,b1,b2] (by simp)
  have e2:=Yp b0 b1 [b2];have e3:=Zy b0 b1 b2 [];unfold IK aP Lib.decodeN;simp only[e1,e2,e3,gq,v0R];simp
  repeat' split
  all_goals first|rfl|(exfalso;omega)|(apply Prod.ext<;>simp only<;>omega)
 | b0::b1::b2::b3::t =>
  have lK:=b0.toNat_lt;have dS:=b1.toNat_lt;have aO:=b2.toNat_lt;have jJ:=b3.toNat_lt;have e1:=Sr (b0::b1::b2::b3::t) (by simp)
  have e2:=Yp b0 b1 (b2::b3::t);have e3:=Zy b0 b1 b2 (b3::t);have e4:=okR_four b0 b1 b2 b3 t;have hl:4≤(b0::b1::b2::b3::t).length:=by simp
  generalize hs:b0::b1::b2::b3::t=s at *;have g0:s.getD 0 0=b0:=by rw[←hs];rfl
  have g1:s.getD 1 0=b1:=by rw[←hs];rfl
  have g2:s.getD 2 0=b2:=by rw[←hs];rfl
  have g3:s.getD 3 0=b3:=by rw[←hs];rfl
  have aF:s≠[]:=by rw[←hs];simp
  have qU:aP s=if (Lib.decodeN s.length b0.toNat b1.toNat b2.toNat b3.toNat).1=65533∧(Lib.decodeN s.length b0.toNat b1.toNat b2.toNat b3.toNat).2<3 then(-1,(Lib.decodeN s.length b0.toNat b1.toNat b2.toNat b3.toNat).2) else(((Lib.decodeN s.length b0.toNat b1.toNat b2.toNat b3.toNat).1:Int),(Lib.decodeN s.length b0.toNat b1.toNat b2.toNat b3.toNat).2):=by
   rw[←hs];rfl
  rw[qU];clear qU hs;unfold IK Lib.decodeN;simp only[if_neg aF,e1,e2,e3,e4,gq,v0R,g0,g1,g2,g3];generalize s.length=n at *;clear e1 e2 e3 e4 g0 g1 g2 g3 aF;generalize b0.toNat=x0 at *;generalize b1.toNat=x1 at *;generalize b2.toNat=x2 at *;generalize b3.toNat=x3 at *;simp
  repeat' split
  all_goals first|rfl|(exfalso;omega)|(apply Prod.ext<;>simp only<;>omega)
end
section
open Go.RowKit
theorem Sv(r:Int)(w:World):
  Calls Tryz.prog 153 #[.int .i64 r] w fun e w'=>e=.returned (.bool (Lib.validRune r))∧w'=w:=by
 have hv:=nG r;have key:∀b:Bool,((Lib.validRune r=true)↔(b=true))→Lib.validRune r=b:=by intro b;cases b<;>cases Lib.validRune r<;>simp
 by_cases h0:0≤r
 ·by_cases h1:r≤1114111
  ·by_cases h2:r<55296
   ·rw[key true (by rw[hv];simp;omega)]
    clear hv key;go_enter Tryz.func153,Tryz.ntmps153;go_wp2_with fail;go_ret;exact⟨rfl,rfl⟩
   ·by_cases h3:57343<r
    ·rw[key true (by rw[hv];simp;omega)]
     clear hv key;go_enter Tryz.func153,Tryz.ntmps153;go_wp2_with fail;go_ret;exact⟨rfl,rfl⟩
    ·rw[key false (by rw[hv];simp;omega)]
     clear hv key;go_enter Tryz.func153,Tryz.ntmps153;go_wp2_with fail;go_ret;exact⟨rfl,rfl⟩
  ·rw[key false (by rw[hv];simp;omega)]
   clear hv key;go_enter Tryz.func153,Tryz.ntmps153;go_wp2_with fail;go_ret;exact⟨rfl,rfl⟩
 ·rw[key false (by rw[hv];simp;omega)]
  clear hv key;go_enter Tryz.func153,Tryz.ntmps153;go_wp2_with fail;go_ret;exact⟨rfl,rfl⟩
theorem KH(w:World)(zs:List Int)(hz:∀x∈zs,0≤x∧x<256)(n:Nat)(hn:zs.length=n):
  (convert 147 9 (.slice (some ⟨w.heap.size,0,none⟩) n n)).run Tryz.prog (w.alloc (.cells (zs.map (Value.int .u8)).toArray 5)) =
   .ok (ak (zs.map fun x=>x.toNat.toUInt8)) (w.alloc (.cells (zs.map (Value.int .u8)).toArray 5)):=by
 have h:=run_convert_bytes_back (P:=Tryz.prog) (w.alloc (.cells (zs.map (Value.int .u8)).toArray 5)) 147 9 5 ⟨w.heap.size,0,none⟩ n (zs.map fun x=>x.toNat.toUInt8) Tryz.underlying147 Tryz.underlying5 Tryz.underlying9 (fun j hj=>by
  rw[Jd];simp only[World.cell?,heap_alloc_new];have Es:j<zs.length:=by simpa using hj
  have hb:=hz zs[j] (List.getElem_mem Es);simp only[List.getElem_map,List.getElem?_toArray,List.getElem?_map,List.getElem?_eq_getElem Es,Option.map_some];rw[toNat8 _ hb.1 hb.2,Int.toNat_of_nonneg hb.1];simp)
 rw[List.length_map,hn] at h;exact h
theorem Eb(r:Int)(w:World)(hr:Lib.validRune r=true):
  Calls Tryz.prog 113 #[.int .i64 r] w fun e w'=>e=.returned (ak (Lib.encodeRune r))∧Q w w':=by
 rw[nG] at hr;have hz:=Lib.encodeRuneZ_byte r;unfold Lib.encodeRune;by_cases c1:r<128
 ·have h0:0≤r:=by omega
  rw[Lib.encodeRuneZ_one (by omega) (by omega)] at hz ⊢
  have k:(convert 147 9 (.slice (some ⟨w.heap.size,0,none⟩) 1 1)).run Tryz.prog (w.alloc (.cells #[.int .u8 r] 5))=.ok (ak ([r].map fun x=>x.toNat.toUInt8)) (w.alloc (.cells #[.int .u8 r] 5)):=KH w _ hz 1 rfl
  have hq:=Q.alloc w (.cells #[.int .u8 r] 5);generalize ([r].map fun x=>x.toNat.toUInt8)=bs at *
  clear hr hz;go_enter Tryz.func113,Tryz.ntmps113;go_wp2_with fail;go_ret;exact⟨rfl,hq⟩
 ·by_cases c2:r<2048
  ·rw[Lib.encodeRuneZ_two (by omega) (by omega)] at hz ⊢
   have k:(convert 147 9 (.slice (some ⟨w.heap.size,0,none⟩) 2 2)).run Tryz.prog (w.alloc (.cells #[.int .u8 (192+r / 64),.int .u8 (128+r%64)] 5))=.ok (ak ([192+r / 64,128+r%64].map fun x=>x.toNat.toUInt8)) (w.alloc (.cells #[.int .u8 (192+r / 64),.int .u8 (128+r%64)] 5)):=KH w _ hz 2 rfl
   have hq:=Q.alloc w (.cells #[.int .u8 (192+r / 64),.int .u8 (128+r%64)] 5);generalize ([192+r / 64,128+r%64].map fun x=>x.toNat.toUInt8)=bs at *
   clear hr hz;go_enter Tryz.func113,Tryz.ntmps113;go_wp2_with fail;go_ret;exact⟨rfl,hq⟩
  ·by_cases c3:r<65536
   ·rw[Lib.encodeRuneZ_three (by omega)] at hz ⊢
    have k:(convert 147 9 (.slice (some ⟨w.heap.size,0,none⟩) 3 3)).run Tryz.prog (w.alloc (.cells #[.int .u8 (224+r / 4096),.int .u8 (128+r / 64%64),.int .u8 (128+r%64)] 5))=.ok (ak ([224+r / 4096,128+r / 64%64,128+r%64].map fun x=>x.toNat.toUInt8)) (w.alloc (.cells #[.int .u8 (224+r / 4096),.int .u8 (128+r / 64%64),.int .u8 (128+r%64)] 5)):=KH w _ hz 3 rfl
    have hq:=Q.alloc w (.cells #[.int .u8 (224+r / 4096),.int .u8 (128+r / 64%64),.int .u8 (128+r%64)] 5);generalize ([224+r / 4096,128+r / 64%64,128+r%64].map fun x=>x.toNat.toUInt8)=bs at *
    clear hr hz;go_enter Tryz.func113,Tryz.ntmps113;go_wp2_with fail;go_ret;exact⟨rfl,hq⟩
   ·rw[Lib.encodeRuneZ_four (by omega) (by omega)] at hz ⊢
    have k:(convert 147 9 (.slice (some ⟨w.heap.size,0,none⟩) 4 4)).run Tryz.prog (w.alloc (.cells #[.int .u8 (240+r / 262144),.int .u8 (128+r / 4096%64),.int .u8 (128+r / 64%64),.int .u8 (128+r%64)] 5))=.ok (ak ([240+r / 262144,128+r / 4096%64,128+r / 64%64,128+r%64].map fun x=>x.toNat.toUInt8)) (w.alloc (.cells #[.int .u8 (240+r / 262144),.int .u8 (128+r / 4096%64),.int .u8 (128+r / 64%64),.int .u8 (128+r%64)] 5)):=KH w _ hz 4 rfl
    have hq:=Q.alloc w (.cells #[.int .u8 (240+r / 262144),.int .u8 (128+r / 4096%64),.int .u8 (128+r / 64%64),.int .u8 (128+r%64)] 5);generalize ([240+r / 262144,128+r / 4096%64,128+r / 64%64,128+r%64].map fun x=>x.toNat.toUInt8)=bs at *
    have XL:r≤1114111:=by omega
    clear hr hz;go_enter Tryz.func113,Tryz.ntmps113;go_wp2_with fail;go_ret;exact⟨rfl,hq⟩
theorem Gg(s:Bytes)(n:Nat)(h0:s≠[])(h1:1≤n)(h2:n≤4)(h3:n≤s.length)(fE:∀m,1≤m→m<n→okR s m=false)(bD:okR s n=true):IK s=(gq s n (n-1),n):=by
 unfold IK;have hc:n=1∨n=2∨n=3∨n=4:=by omega
 rcases hc with rfl|rfl|rfl|rfl
 ·rw[if_neg h0,if_pos bD]
 ·rw[if_neg h0,if_neg (by simp[fE 1 (by omega) (by omega)]),if_pos ⟨h3,bD⟩]
 ·rw[if_neg h0,if_neg (by simp[fE 1 (by omega) (by omega)]),if_neg (by simp[fE 2 (by omega) (by omega)]),if_pos ⟨h3,bD⟩]
 ·rw[if_neg h0,if_neg (by simp[fE 1 (by omega) (by omega)]),if_neg (by simp[fE 2 (by omega) (by omega)]),if_neg (by simp[fE 3 (by omega) (by omega)]),if_pos ⟨h3,bD⟩]
theorem ah4(s:Bytes)(n:Nat)(h0:s≠[])(h1:1≤n)(QH:¬(n≤4∧n≤s.length))(fE:∀m,1≤m→m<n→okR s m=false):IK s=(-1,1):=by
 have hl:=List.length_pos_iff.2 h0;unfold IK;rw[if_neg h0,if_neg (by simp[fE 1 (by omega) (by omega)]),if_neg (fun h=>by simp[fE 2 (by omega) (by omega)] at h),if_neg (fun h=>by simp[fE 3 (by omega) (by omega)] at h),if_neg (fun h=>by simp[fE 4 (by omega) (by omega)] at h)]
theorem KI(a b:Bytes):(({ data:=a.toArray }:ByteArray).toList==({ data:=b.toArray }:ByteArray).toList)=decide (a=b):=by
 rw[ByteArray.toList_eq,ByteArray.toList_eq];by_cases h:a=b<;>simp[h]
theorem IL(s:Bytes)(n j:Nat)(hj:j≤3): -100000000≤gq s n j∧gq s n j≤100000000:=by
 have h0 : -240≤v0R s n∧v0R s n≤255:=by
  have:=(s.getD 0 0).toNat_lt;unfold v0R;repeat' split
  all_goals omega
 have h1:=(s.getD 1 0).toNat_lt;have h2:=(s.getD 2 0).toNat_lt;have h3:=(s.getD 3 0).toNat_lt;match j,hj with
 | 0,_=>simp only[gq,Nat.zero_add,Nat.reduceAdd];omega
 | 1,_=>simp only[gq,Nat.zero_add,Nat.reduceAdd];omega
 | 2,_=>simp only[gq,Nat.zero_add,Nat.reduceAdd];omega
 | 3,_=>simp only[gq,Nat.zero_add,Nat.reduceAdd];omega
set_option maxRecDepth 1000000 in
theorem P9(s:Bytes)(w:World)(hs:s.length≤9223372036854775807):
  Calls Tryz.prog 111 #[ak s] w fun e w'=>e=.returned (.tuple #[.int .i64 (aP s).1,.int .i64 (aP s).2])∧Q w w':=by
 rw[←runeR_eq]
 by_cases aF:s=[]
 ·subst aF
  go_enter Tryz.func111,Tryz.ntmps111
  go_wp2_with fail
  go_returns
  exact⟨rfl,Q.refl _⟩
 ·have hl:0<s.length:=List.length_pos_iff.2 aF
  have adT:s.isEmpty=false:=by simpa using aF
  go_enter Tryz.func111,Tryz.ntmps111
  go_wp2_with fail
  go_loopw [4] (fun i wr=>∃n:Nat,1≤n∧n≤5∧n≤s.length+1∧i=.int .i64 (n:Nat)∧Hid (∀m,1≤m→m<n→okR s m=false)∧Hid (Q w wr)) (fun i _=>5-(intOf i).toNat)
  case atStart=>exact⟨1,by omega,by omega,by omega,rfl,fun m h1 h2=>by omega,Q.refl _⟩
  case round =>
   obtain⟨n,qC,hn5,vU,rfl,nN,HQ⟩:=hrel
   obtain⟨wo,rfl⟩:∃wo:World,wo=wr:=⟨_,rfl⟩
   by_cases hn:n≤4∧n≤s.length
   ·obtain⟨h4,Dx⟩:=hn
    have lK:((({ data:=s.toArray }:ByteArray)[0]'hl).toNat:Int)=(dH s 0:Nat):=fq s 0 hl
    have pG:gq s n 0=(dH s 0:Int)-(if n=2 then 192 else if n=3 then 224 else if n=4 then 240 else 0):=rfl
    have oQ:=vF s 0
    have oF:=Hd pG
    clear pG
    have hc:n=1∨n=2∨n=3∨n=4:=by omega
    rcases hc with rfl|rfl|rfl|rfl
    ·
     have pG:=oF.out
     simp only[Nat.reduceEqDiff,if_true,if_false,reduceIte,Int.sub_zero,Nat.reduceBEq,Nat.succ_ne_self] at pG
     have dN:(1:Int)≤(s.length:Int):=by omega
     go_wp2_with fail
     go_loopw [5,6] (fun v i wr=>∃j:Nat,j+1≤1∧v=.int .i64 (gq s 1 j)∧i=.int .i64 ((j:Int)+1)∧Hid (Q w wr)) (fun _ i _=>1-(intOf i).toNat)
     case atStart=>exact⟨0,by omega,by rw[pG],rfl,HQ⟩
     case round =>
      obtain⟨j,hj,rfl,rfl,aS⟩:=hrel
      obtain⟨wi,rfl⟩:∃wo:World,wo=wr:=⟨_,rfl⟩
      clear lK oQ pG
      by_cases ER:j+1<1
      ·have iI:j+1<s.length:=by omega
       have l6:((({ data:=s.toArray }:ByteArray)[j+1]'iI).toNat:Int)=(dH s (j+1):Nat):=fq s (j+1) iI
       have oQ:=vF s (j+1)
       obtain⟨ha0,Ut⟩:=IL s 1 j (by omega)
       have hji:(j:Int)+1<1:=by omega
       have alF:(j:Int)+1<(s.length:Int):=by omega
       have hj0:(0:Int)≤(j:Int)+1:=by omega
       have JI:((j:Int)+1).toNat=j+1:=by omega
       have bV:gq s 1 (j+1)=64*gq s 1 j+(dH s (j+1):Int)-128:=rfl
       have bJ:=Hd bV
       clear bV
       generalize dH s (j+1)=bj at *
       generalize gq s 1 j=aj at *
       go_wp2_with fail
       go_roundw
       case rel=>exact⟨j+1,by omega,by rw[bJ.out],by go_num,aS⟩
       case measure=>simp[intOf];omega
      ·have qh:j=1-1:=by omega
       subst qh
       have bD:okR s 1=(Lib.validRune (gq s 1 (1-1))&&decide (Lib.encodeRune (gq s 1 (1-1))=s.take 1)):=rfl
       have JM:=fun h=>Gg s 1 aF (by omega) (by omega) Dx nN.out h
       have ni:=Hd bD;have Ab:=Hd JM
       clear bD JM oF
       have cis:=fun w=>Sv (gq s 1 (1-1)) w
       have cby:=0
       simp only[Nat.reduceSub] at *
       have Vo:({ data:=s.toArray }:ByteArray).extract 0 1=⟨(s.take 1).toArray⟩:=og s _
       generalize gq s 1 (1-1)=a at *
       cases hv:Lib.validRune a with
       | false =>
        rw[hv] at cis
        go_wp2_with fail
        refine(cis _).mono ?_
        rintro e w5 ⟨rfl,rfl⟩
        have fE:∀m,1≤m→m<1+1→okR s m=false:=fun m h1 h2=>by
         by_cases hm:m=1
         ·subst hm;rw[ni.out,hv];rfl
         ·exact nN.out m h1 (by omega)
        have kQ:=Hd fE
        clear fE cis cby
        go_wp2_with fail
        go_region
        go_wp2_with fail
        go_roundw
        case rel=>exact⟨1+1,by omega,by omega,by omega,by go_num,kQ,aS.out.trans (Q.drew _)⟩
        case measure=>simp[intOf]
       | true =>
        rw[hv] at cis
        have cby:=fun W=>Eb a W hv
        have fu:=KI (Lib.encodeRune a) (s.take 1)
        have Rn:okR s 1=decide (Lib.encodeRune a=s.take 1):=by rw[ni.out,hv,Bool.true_and]
        have Ro:=Hd Rn;have Lm:=Hd cby
        clear Rn cby ni
        generalize Lib.encodeRune a=ea at *
        generalize s.take 1=st at *
        go_wp2_with fail
        refine(cis _).mono ?_
        rintro e w5 ⟨rfl,rfl⟩
        go_wp2_with fail
        go_region_law
         (go_simp;refine(Lm.out _).mono ?_;rintro e w6 ⟨rfl,q6⟩)
        have fQ:=Hd (aS.out.trans ((Q.drew _).trans q6))
        have OW:=Hd Dx
        clear q6 cis Lm fu Vo hv qC hn5 vU h4 Dx dN hj ER cby
        by_cases qI:ea=st
        ·rw[beq_iff_eq.2 qI]
         have Dl:=Ab.out (by rw[Ro.out,decide_eq_true qI])
         have qj:=Hd Dl
         have Al:=Hd qI
         clear qI Dl
         go_wp2_with fail
         go_returns
         exact⟨by rw[qj.out];rfl,fQ.out⟩
        ·rw[beq_false_of_ne qI]
         have fE:∀m,1≤m→m<1+1→okR s m=false:=fun m h1 h2=>by
          by_cases hm:m=1
          ·subst hm;rw[Ro.out,decide_eq_false qI]
          ·exact nN.out m h1 (by omega)
         have kQ:=Hd fE
         have Al:=Hd qI
         clear fE qI
         go_wp2_with fail
         go_roundw
         case rel=>exact⟨1+1,by omega,by omega,by have:=OW.out;omega,by go_num,kQ,fQ⟩
         case measure=>simp[intOf]
    ·
     have pG:=oF.out
     simp only[Nat.reduceEqDiff,if_true,if_false,reduceIte,Int.sub_zero,Nat.reduceBEq,Nat.succ_ne_self] at pG
     have dN:(2:Int)≤(s.length:Int):=by omega
     go_wp2_with fail
     go_loopw [5,6] (fun v i wr=>∃j:Nat,j+1≤2∧v=.int .i64 (gq s 2 j)∧i=.int .i64 ((j:Int)+1)∧Hid (Q w wr)) (fun _ i _=>2-(intOf i).toNat)
     case atStart=>exact⟨0,by omega,by rw[pG],rfl,HQ⟩
     case round =>
      obtain⟨j,hj,rfl,rfl,aS⟩:=hrel
      obtain⟨wi,rfl⟩:∃wo:World,wo=wr:=⟨_,rfl⟩
      clear lK oQ pG
      by_cases ER:j+1<2
      ·have iI:j+1<s.length:=by omega
       have l6:((({ data:=s.toArray }:ByteArray)[j+1]'iI).toNat:Int)=(dH s (j+1):Nat):=fq s (j+1) iI
       have oQ:=vF s (j+1)
       obtain⟨ha0,Ut⟩:=IL s 2 j (by omega)
       have hji:(j:Int)+1<2:=by omega
       have alF:(j:Int)+1<(s.length:Int):=by omega
       have hj0:(0:Int)≤(j:Int)+1:=by omega
       have JI:((j:Int)+1).toNat=j+1:=by omega
       have bV:gq s 2 (j+1)=64*gq s 2 j+(dH s (j+1):Int)-128:=rfl
       have bJ:=Hd bV
       clear bV
       generalize dH s (j+1)=bj at *
       generalize gq s 2 j=aj at *
       go_wp2_with fail
       go_roundw
       case rel=>exact⟨j+1,by omega,by rw[bJ.out],by go_num,aS⟩
       case measure=>simp[intOf];omega
      ·have qh:j=2-1:=by omega
       subst qh
       have bD:okR s 2=(Lib.validRune (gq s 2 (2-1))&&decide (Lib.encodeRune (gq s 2 (2-1))=s.take 2)):=rfl
       have JM:=fun h=>Gg s 2 aF (by omega) (by omega) Dx nN.out h
       have ni:=Hd bD;have Ab:=Hd JM
       clear bD JM oF
       have cis:=fun w=>Sv (gq s 2 (2-1)) w
       have cby:=0
       simp only[Nat.reduceSub] at *
       have Vo:({ data:=s.toArray }:ByteArray).extract 0 2=⟨(s.take 2).toArray⟩:=og s _
       generalize gq s 2 (2-1)=a at *
       cases hv:Lib.validRune a with
       | false =>
        rw[hv] at cis
        go_wp2_with fail
        refine(cis _).mono ?_
        rintro e w5 ⟨rfl,rfl⟩
        have fE:∀m,1≤m→m<2+1→okR s m=false:=fun m h1 h2=>by
         by_cases hm:m=2
         ·subst hm;rw[ni.out,hv];rfl
         ·exact nN.out m h1 (by omega)
        have kQ:=Hd fE
        clear fE cis cby
        go_wp2_with fail
        go_region
        go_wp2_with fail
        go_roundw
        case rel=>exact⟨2+1,by omega,by omega,by omega,by go_num,kQ,aS.out.trans (Q.drew _)⟩
        case measure=>simp[intOf]
       | true =>
        rw[hv] at cis
        have cby:=fun W=>Eb a W hv
        have fu:=KI (Lib.encodeRune a) (s.take 2)
        have Rn:okR s 2=decide (Lib.encodeRune a=s.take 2):=by rw[ni.out,hv,Bool.true_and]
        have Ro:=Hd Rn;have Lm:=Hd cby
        clear Rn cby ni
        generalize Lib.encodeRune a=ea at *
        generalize s.take 2=st at *
        go_wp2_with fail
        refine(cis _).mono ?_
        rintro e w5 ⟨rfl,rfl⟩
        go_wp2_with fail
        go_region_law
         (go_simp;refine(Lm.out _).mono ?_;rintro e w6 ⟨rfl,q6⟩)
        have fQ:=Hd (aS.out.trans ((Q.drew _).trans q6))
        have OW:=Hd Dx
        clear q6 cis Lm fu Vo hv qC hn5 vU h4 Dx dN hj ER cby
        by_cases qI:ea=st
        ·rw[beq_iff_eq.2 qI]
         have Dl:=Ab.out (by rw[Ro.out,decide_eq_true qI])
         have qj:=Hd Dl
         have Al:=Hd qI
         clear qI Dl
         go_wp2_with fail
         go_returns
         exact⟨by rw[qj.out];rfl,fQ.out⟩
        ·rw[beq_false_of_ne qI]
         have fE:∀m,1≤m→m<2+1→okR s m=false:=fun m h1 h2=>by
          by_cases hm:m=2
          ·subst hm;rw[Ro.out,decide_eq_false qI]
          ·exact nN.out m h1 (by omega)
         have kQ:=Hd fE
         have Al:=Hd qI
         clear fE qI
         go_wp2_with fail
         go_roundw
         case rel=>exact⟨2+1,by omega,by omega,by have:=OW.out;omega,by go_num,kQ,fQ⟩
         case measure=>simp[intOf]
    ·
     have pG:=oF.out
     simp only[Nat.reduceEqDiff,if_true,if_false,reduceIte,Int.sub_zero,Nat.reduceBEq,Nat.succ_ne_self] at pG
     have dN:(3:Int)≤(s.length:Int):=by omega
     go_wp2_with fail
     go_loopw [5,6] (fun v i wr=>∃j:Nat,j+1≤3∧v=.int .i64 (gq s 3 j)∧i=.int .i64 ((j:Int)+1)∧Hid (Q w wr)) (fun _ i _=>3-(intOf i).toNat)
     case atStart=>exact⟨0,by omega,by rw[pG],rfl,HQ⟩
     case round =>
      obtain⟨j,hj,rfl,rfl,aS⟩:=hrel
      obtain⟨wi,rfl⟩:∃wo:World,wo=wr:=⟨_,rfl⟩
      clear lK oQ pG
      by_cases ER:j+1<3
      ·have iI:j+1<s.length:=by omega
       have l6:((({ data:=s.toArray }:ByteArray)[j+1]'iI).toNat:Int)=(dH s (j+1):Nat):=fq s (j+1) iI
       have oQ:=vF s (j+1)
       obtain⟨ha0,Ut⟩:=IL s 3 j (by omega)
       have hji:(j:Int)+1<3:=by omega
       have alF:(j:Int)+1<(s.length:Int):=by omega
       have hj0:(0:Int)≤(j:Int)+1:=by omega
       have JI:((j:Int)+1).toNat=j+1:=by omega
       have bV:gq s 3 (j+1)=64*gq s 3 j+(dH s (j+1):Int)-128:=rfl
       have bJ:=Hd bV
       clear bV
       generalize dH s (j+1)=bj at *
       generalize gq s 3 j=aj at *
       go_wp2_with fail
       go_roundw
       case rel=>exact⟨j+1,by omega,by rw[bJ.out],by go_num,aS⟩
       case measure=>simp[intOf];omega
      ·have qh:j=3-1:=by omega
       subst qh
       have bD:okR s 3=(Lib.validRune (gq s 3 (3-1))&&decide (Lib.encodeRune (gq s 3 (3-1))=s.take 3)):=rfl
       have JM:=fun h=>Gg s 3 aF (by omega) (by omega) Dx nN.out h
       have ni:=Hd bD;have Ab:=Hd JM
       clear bD JM oF
       have cis:=fun w=>Sv (gq s 3 (3-1)) w
       have cby:=0
       simp only[Nat.reduceSub] at *
       have Vo:({ data:=s.toArray }:ByteArray).extract 0 3=⟨(s.take 3).toArray⟩:=og s _
       generalize gq s 3 (3-1)=a at *
       cases hv:Lib.validRune a with
       | false =>
        rw[hv] at cis
        go_wp2_with fail
        refine(cis _).mono ?_
        rintro e w5 ⟨rfl,rfl⟩
        have fE:∀m,1≤m→m<3+1→okR s m=false:=fun m h1 h2=>by
         by_cases hm:m=3
         ·subst hm;rw[ni.out,hv];rfl
         ·exact nN.out m h1 (by omega)
        have kQ:=Hd fE
        clear fE cis cby
        go_wp2_with fail
        go_region
        go_wp2_with fail
        go_roundw
        case rel=>exact⟨3+1,by omega,by omega,by omega,by go_num,kQ,aS.out.trans (Q.drew _)⟩
        case measure=>simp[intOf]
       | true =>
        rw[hv] at cis
        have cby:=fun W=>Eb a W hv
        have fu:=KI (Lib.encodeRune a) (s.take 3)
        have Rn:okR s 3=decide (Lib.encodeRune a=s.take 3):=by rw[ni.out,hv,Bool.true_and]
        have Ro:=Hd Rn;have Lm:=Hd cby
        clear Rn cby ni
        generalize Lib.encodeRune a=ea at *
        generalize s.take 3=st at *
        go_wp2_with fail
        refine(cis _).mono ?_
        rintro e w5 ⟨rfl,rfl⟩
        go_wp2_with fail
        go_region_law
         (go_simp;refine(Lm.out _).mono ?_;rintro e w6 ⟨rfl,q6⟩)
        have fQ:=Hd (aS.out.trans ((Q.drew _).trans q6))
        have OW:=Hd Dx
        clear q6 cis Lm fu Vo hv qC hn5 vU h4 Dx dN hj ER cby
        by_cases qI:ea=st
        ·rw[beq_iff_eq.2 qI]
         have Dl:=Ab.out (by rw[Ro.out,decide_eq_true qI])
         have qj:=Hd Dl
         have Al:=Hd qI
         clear qI Dl
         go_wp2_with fail
         go_returns
         exact⟨by rw[qj.out];rfl,fQ.out⟩
        ·rw[beq_false_of_ne qI]
         have fE:∀m,1≤m→m<3+1→okR s m=false:=fun m h1 h2=>by
          by_cases hm:m=3
          ·subst hm;rw[Ro.out,decide_eq_false qI]
          ·exact nN.out m h1 (by omega)
         have kQ:=Hd fE
         have Al:=Hd qI
         clear fE qI
         go_wp2_with fail
         go_roundw
         case rel=>exact⟨3+1,by omega,by omega,by have:=OW.out;omega,by go_num,kQ,fQ⟩
         case measure=>simp[intOf]
    ·
     have pG:=oF.out
     simp only[Nat.reduceEqDiff,if_true,if_false,reduceIte,Int.sub_zero,Nat.reduceBEq,Nat.succ_ne_self] at pG
     have dN:(4:Int)≤(s.length:Int):=by omega
     go_wp2_with fail
     go_loopw [5,6] (fun v i wr=>∃j:Nat,j+1≤4∧v=.int .i64 (gq s 4 j)∧i=.int .i64 ((j:Int)+1)∧Hid (Q w wr)) (fun _ i _=>4-(intOf i).toNat)
     case atStart=>exact⟨0,by omega,by rw[pG],rfl,HQ⟩
     case round =>
      obtain⟨j,hj,rfl,rfl,aS⟩:=hrel
      obtain⟨wi,rfl⟩:∃wo:World,wo=wr:=⟨_,rfl⟩
      clear lK oQ pG
      by_cases ER:j+1<4
      ·have iI:j+1<s.length:=by omega
       have l6:((({ data:=s.toArray }:ByteArray)[j+1]'iI).toNat:Int)=(dH s (j+1):Nat):=fq s (j+1) iI
       have oQ:=vF s (j+1)
       obtain⟨ha0,Ut⟩:=IL s 4 j (by omega)
       have hji:(j:Int)+1<4:=by omega
       have alF:(j:Int)+1<(s.length:Int):=by omega
       have hj0:(0:Int)≤(j:Int)+1:=by omega
       have JI:((j:Int)+1).toNat=j+1:=by omega
       have bV:gq s 4 (j+1)=64*gq s 4 j+(dH s (j+1):Int)-128:=rfl
       have bJ:=Hd bV
       clear bV
       generalize dH s (j+1)=bj at *
       generalize gq s 4 j=aj at *
       go_wp2_with fail
       go_roundw
       case rel=>exact⟨j+1,by omega,by rw[bJ.out],by go_num,aS⟩
       case measure=>simp[intOf];omega
      ·have qh:j=4-1:=by omega
       subst qh
       have bD:okR s 4=(Lib.validRune (gq s 4 (4-1))&&decide (Lib.encodeRune (gq s 4 (4-1))=s.take 4)):=rfl
       have JM:=fun h=>Gg s 4 aF (by omega) (by omega) Dx nN.out h
       have ni:=Hd bD;have Ab:=Hd JM
       clear bD JM oF
       have cis:=fun w=>Sv (gq s 4 (4-1)) w
       have cby:=0
       simp only[Nat.reduceSub] at *
       have Vo:({ data:=s.toArray }:ByteArray).extract 0 4=⟨(s.take 4).toArray⟩:=og s _
       generalize gq s 4 (4-1)=a at *
       cases hv:Lib.validRune a with
       | false =>
        rw[hv] at cis
        go_wp2_with fail
        refine(cis _).mono ?_
        rintro e w5 ⟨rfl,rfl⟩
        have fE:∀m,1≤m→m<4+1→okR s m=false:=fun m h1 h2=>by
         by_cases hm:m=4
         ·subst hm;rw[ni.out,hv];rfl
         ·exact nN.out m h1 (by omega)
        have kQ:=Hd fE
        clear fE cis cby
        go_wp2_with fail
        go_region
        go_wp2_with fail
        go_roundw
        case rel=>exact⟨4+1,by omega,by omega,by omega,by go_num,kQ,aS.out.trans (Q.drew _)⟩
        case measure=>simp[intOf]
       | true =>
        rw[hv] at cis
        have cby:=fun W=>Eb a W hv
        have fu:=KI (Lib.encodeRune a) (s.take 4)
        have Rn:okR s 4=decide (Lib.encodeRune a=s.take 4):=by rw[ni.out,hv,Bool.true_and]
        have Ro:=Hd Rn;have Lm:=Hd cby
        clear Rn cby ni
        generalize Lib.encodeRune a=ea at *
        generalize s.take 4=st at *
        go_wp2_with fail
        refine(cis _).mono ?_
        rintro e w5 ⟨rfl,rfl⟩
        go_wp2_with fail
        go_region_law
         (go_simp;refine(Lm.out _).mono ?_;rintro e w6 ⟨rfl,q6⟩)
        have fQ:=Hd (aS.out.trans ((Q.drew _).trans q6))
        have OW:=Hd Dx
        clear q6 cis Lm fu Vo hv qC hn5 vU h4 Dx dN hj ER cby
        by_cases qI:ea=st
        ·rw[beq_iff_eq.2 qI]
         have Dl:=Ab.out (by rw[Ro.out,decide_eq_true qI])
         have qj:=Hd Dl
         have Al:=Hd qI
         clear qI Dl
         go_wp2_with fail
         go_returns
         exact⟨by rw[qj.out];rfl,fQ.out⟩
        ·rw[beq_false_of_ne qI]
         have fE:∀m,1≤m→m<4+1→okR s m=false:=fun m h1 h2=>by
          by_cases hm:m=4
          ·subst hm;rw[Ro.out,decide_eq_false qI]
          ·exact nN.out m h1 (by omega)
         have kQ:=Hd fE
         have Al:=Hd qI
         clear fE qI
         go_wp2_with fail
         go_roundw
         case rel=>exact⟨4+1,by omega,by omega,by have:=OW.out;omega,by go_num,kQ,fQ⟩
         case measure=>simp[intOf]
   ·have Dl:=ah4 s n aF qC hn nN.out
    have qj:=Hd Dl
    clear Dl
    by_cases h4:n≤4
    ·have Dx:¬((n:Int)≤(s.length:Int)):=by omega
     go_wp2_with fail
     go_returns
     exact⟨by rw[qj.out];rfl,HQ.out⟩
    ·go_wp2_with fail
     go_returns
     exact⟨by rw[qj.out];rfl,HQ.out⟩
end
section
open Go.RowKit
theorem Yq(r lo hi:Int)(w:World):
  Calls Tryz.prog 155 #[.int .i64 r,.int .i64 lo,.int .i64 hi] w fun e w'=>e=.returned (.bool (inL r lo hi))∧w'=w:=by
 unfold inL;by_cases h0:lo≤r
 ·by_cases h1:r≤hi
  ·rw[decide_eq_true h0,decide_eq_true h1]
   go_enter Tryz.func155,Tryz.ntmps155;go_wp2_with fail;go_ret;exact⟨rfl,rfl⟩
  ·rw[decide_eq_true h0,decide_eq_false h1]
   go_enter Tryz.func155,Tryz.ntmps155;go_wp2_with fail;go_ret;exact⟨rfl,rfl⟩
 ·rw[decide_eq_false h0]
  go_enter Tryz.func155,Tryz.ntmps155;go_wp2_with fail;go_ret;exact⟨rfl,rfl⟩
theorem eX{x y:Bool}(h:x=y):Ending.returned (.bool x)=.returned (.bool y):=by rw[h]
def Jb(r:Int):Bool:=decide ((65≤r∧r≤90)∨(97≤r∧r≤122)∨r=170∨r=181∨r=186∨(192≤r∧r≤591∧r≠215∧r≠247) ∨
 (880≤r∧r≤1023∧r≠885∧r≠894∧r≠888∧r≠889∧¬(896≤r∧r≤901)∧r≠903∧r≠907∧r≠909∧r≠930∧r≠1014)∨(1024≤r∧r≤1327∧¬(1154≤r∧r≤1161)) ∨
 (1329≤r∧r≤1366)∨(1377≤r∧r≤1415)∨(1488≤r∧r≤1514)∨(19968≤r∧r≤40959)∨(44032≤r∧r≤55203))
theorem afq(r:Int)(w:World):
  Calls Tryz.prog 154 #[.int .i64 r] w fun e w'=>e=.returned (.bool (Jb r))∧w'=w:=by
 go_enter Tryz.func154,Tryz.ntmps154;go_wp2_with fail;iterate 14 (all_goals try (refine(Yq _ _ _ _).mono ?_;rintro e w1 ⟨rfl,rfl⟩;go_wp2_with fail))
 all_goals go_ret
 all_goals refine⟨eX (Bool.eq_iff_iff.2 ?_),rfl⟩
 all_goals simp[Jb,inL] at *
 all_goals omega
def Sz(r:Int):Int :=
 if Jb r=true then 1
 else if (48≤r∧r≤57)∨(1632≤r∧r≤1641)∨(2406≤r∧r≤2415) then 2
 else if (9≤r∧r≤13)∨r=32∨r=133∨r=160∨(8192≤r∧r≤8202)∨r=8232∨r=8233∨r=12288 then 3 else 0
def MQ(l:List (Int×Int×Int))(r:Int):Int:=match l.find? (fun x=>decide (r≤x.2.1)) with
 | some x=>if x.1≤r then x.2.2 else 0
 | none=>0
theorem afr(x:Int×Int×Int)(l:List (Int×Int×Int))(r:Int):MQ (x::l) r=if r≤x.2.1 then(if x.1≤r then x.2.2 else 0) else MQ l r:=by
 unfold MQ;rw[List.find?_cons];by_cases h:r≤x.2.1
 ·rw[if_pos h,decide_eq_true h]
 ·rw[if_neg h,decide_eq_false h]
theorem kind_step(x:Int×Int×Int)(l:List (Int×Int×Int))(r v:Int)(h1:r≤x.2.1→x.1≤r→v=x.2.2)(h2:r≤x.2.1→¬x.1≤r→v=0)(h3:¬r≤x.2.1→v=MQ l r):v=MQ (x::l) r:=by
 rw[afr];by_cases a:r≤x.2.1
 ·rw[if_pos a]
  by_cases b:x.1≤r
  ·rw[if_pos b];exact h1 a b
  ·rw[if_neg b];exact h2 a b
 ·rw[if_neg a];exact h3 a
theorem acn(r:Int):Sz r=qJ r:=by
 rw[show qJ r=MQ spansL r from rfl]
 unfold spansL;iterate 34
  refine kind_step _ _ _ _ (fun a b=>?_) (fun a b=>?_) (fun a=>?_)
  ·dsimp only at *;unfold Sz Jb;simp only[decide_eq_true_eq];repeat' split
   all_goals first|rfl|(exfalso;omega)
  ·dsimp only at *;unfold Sz Jb;simp only[decide_eq_true_eq];repeat' split
   all_goals first|rfl|(exfalso;omega)
  dsimp only at a
 show _=(0:Int);unfold Sz Jb;simp only[decide_eq_true_eq];repeat' split
 all_goals first|rfl|(exfalso;omega)
theorem aco{x y:Int}(h:x=y):Ending.returned (.int .i64 x)=.returned (.int .i64 y):=by rw[h]
theorem RKind_any(r:Int)(w:World):
  Calls Tryz.prog 112 #[.int .i64 r] w fun e w'=>e=.returned (.int .i64 (qJ r))∧w'=w:=by
 go_enter Tryz.func112,Tryz.ntmps112;go_wp2_with fail;refine(afq _ _).mono ?_;rintro e w1 ⟨rfl,rfl⟩;go_wp2_with fail;iterate 8 (all_goals try (refine(Yq _ _ _ _).mono ?_;rintro e w1 ⟨rfl,rfl⟩;go_wp2_with fail))
 all_goals go_ret
 all_goals refine⟨aco ?_,rfl⟩
 all_goals rw[←acn]
 all_goals unfold Sz
 all_goals simp[inL] at *
 all_goals repeat' split
 all_goals first|rfl|omega|simp_all
theorem RFold_any(r:Int)(w:World)(h0:0≤r)(h1:r≤1114111):
  Calls Tryz.prog 114 #[.int .i64 r] w fun e w'=>e=.returned (.int .i64 (gI r))∧w'=w:=by
 go_enter Tryz.func114,Tryz.ntmps114;go_wp2_with fail;iterate 16 (all_goals try (refine(Yq _ _ _ _).mono ?_;rintro e w1 ⟨rfl,rfl⟩;go_wp2_with fail))
 all_goals go_ret
 all_goals refine⟨aco ?_,rfl⟩
 all_goals unfold gI
 all_goals simp[inL] at *
 all_goals repeat' split
 all_goals first|rfl|omega|simp_all
theorem Qa(s:Bytes)(h:s≠[]): -1≤(aP s).1∧(aP s).1≤1114111:=by
 cases s with
 | nil=>exact absurd rfl h
 | cons b s =>
  have:=Ac (b::s).length ((b::s).getD 0 0).toNat ((b::s).getD 1 0).toNat ((b::s).getD 2 0).toNat ((b::s).getD 3 0).toNat;unfold aP;simp only[];split<;>simp only<;>omega
theorem TI(s:Bytes)(h:s≠[]):pW s=(decide (0≤(aP s).1)&&pW (s.drop (aP s).2)):=by
 unfold pW;rw[kK s h];rfl
theorem IQ(s:Bytes)(w:World)(hs:s.length≤9223372036854775807):
  Calls Tryz.prog 126 #[ak s] w fun e w'=>e=.returned (.bool (pW s))∧Q w w':=by
 go_enter Tryz.func126,Tryz.ntmps126;go_wp2_with fail;go_loopw [0] (fun v wr=>∃t:Bytes,v=ak t∧t.length≤s.length∧Hid (pW s=pW t)∧Hid (Q w wr)) (fun v _=>(match v with | .string b=>b.size|_=>0))
 case atStart=>exact⟨s,rfl,Nat.le_refl _,rfl,Q.refl _⟩
 case round =>
  obtain⟨t,rfl,vg,pE,HQ⟩:=hrel;obtain⟨wo,rfl⟩:∃wo:World,wo=wr:=⟨_,rfl⟩;by_cases aF:t=[]
  ·subst aF
   go_wp2_with fail;go_ret;exact⟨by rw[pE.out];rfl,HQ.out⟩
  ·have hl:0<t.length:=List.length_pos_iff.2 aF
   have OP:(0:Int)<(t.length:Int):=by omega
   obtain⟨qC,rD⟩:=lV t aF;have zu:=Qa t aF;have aI:=TI t aF;have cr:=fun W=>P9 t W (by omega)
   have xJ:({ data:=t.toArray }:ByteArray).extract (aP t).2 t.length=⟨(t.drop (aP t).2).toArray⟩:=iV t _;have ku:(t.drop (aP t).2).length=t.length-(aP t).2:=List.length_drop;generalize hr:aP t=rn at *;obtain⟨r,n⟩:=rn;simp only at qC rD zu aI cr xJ ku;generalize t.drop n=td at *;have Cw:(n:Int)≤(t.length:Int):=by omega
   have Ij:(0:Int)≤(n:Int):=by omega
   have bJ:=Hd aI;have zW:=Hd ku;clear aI hr aF ku;by_cases h0:r<0
   ·go_wp2_with fail
    refine(cr _).mono ?_;rintro e w1 ⟨rfl,q1⟩;have aC:=Hd (HQ.out.trans q1);clear q1;go_wp2_with fail;go_ret;exact⟨by rw[pE.out,bJ.out,decide_eq_false (by omega)];rfl,aC.out⟩
   ·go_wp2_with fail
    refine(cr _).mono ?_;rintro e w1 ⟨rfl,q1⟩;have aC:=Hd (HQ.out.trans q1);clear q1;go_wp2_with fail;go_roundw;case rel=>exact⟨td,rfl,by have:=zW.out;omega,by show _=_;rw[pE.out,bJ.out,decide_eq_true (by omega)];rfl,aC⟩
    case measure=>show td.length<t.length;have:=zW.out;omega
theorem Yr{P:Program}(W:World){ops:Array Oper}{rest:List Oper}{o:Oper}{a:Act}{Q:Exit→Act→World→Prop}(uf:o.guard=none)(sl x:Operand)(t u:TypeId)
  (ho:o.op=.call { callee:=.builtin .append,args:=#[sl,x],argTypes:=#[t,u] })
  (base:Nat) (e:TypeId) (i:TypeInfo) (ht:P.underlying t=some (.slice e)) (hu:P.underlying u=some .string) (hi:P.info? e=some i) (hz:i.zero=some (.int .u8 0)) (jA:i.size=1) (nH:i.bytes=1)
  (v:Value) (n:Nat) (xs:List Value) (hs:a.eval sl=v) (aQ:W.ownsRow base e 1 v n xs) (s:ByteArray) (hx:a.eval x=.string s) (gB:n+s.size≤140737488355328) (fC:base≤W.heap.size)
  (h:∀v' w',w'.ownsRow base e 1 v' (n+s.size) (xs++Lib.strCells s)→W.grownBy w' v.ownBlock→wpList P ops Q rest (a.put o.dst v') w'):wpList P ops Q (o::rest) a W:=by
 obtain⟨v',w',hr,h2,h3,_⟩:=Lib.run_append_own_string (P:=P) W base t u o.type e i ht hu hi hz jA nH v n xs aQ s (by unfold maxLen;omega) gB fC
 refine wpList_plain uf fun _ hK=>?_
 unfold Oper.wp execOp;simp only[ho,resolve,invoke,builtin,Sem.run_bind,Sem.run_pure,Result.andThen_ok,List.map_toArray,List.map_cons,List.map_nil,hs,hx,hr];exact hK _ _ (h v' w' h2 h3)
theorem WQ{w:World}{base:Nat}{v:Value}{l:Bytes}(h:w.ownsRow base 5 1 v l.length (jR l)):
  (convert 147 9 v).run Tryz.prog w=.ok (ak l) w:=by
 obtain⟨a,cap,rfl,hg⟩:=aT h;by_cases hl:l=[]
 ·subst hl
  rcases h.2 with ⟨hv,_⟩|⟨g,c,cur,hv,_⟩
  ·cases hv
   show(convert 147 9 (.slice none 0 0)).run Tryz.prog w=_;rw[run_convert_bytes_string w 147 9 5 none 0 0 Tryz.underlying147 Tryz.underlying5 Tryz.underlying9];rfl
  ·cases hv
   exact run_convert_bytes_back (P:=Tryz.prog) w 147 9 5 ⟨g,0,none⟩ cap [] Tryz.underlying147 Tryz.underlying5 Tryz.underlying9 (fun j hj=>by simp at hj)
 ·obtain⟨g,rfl⟩:=hg (List.length_pos_iff.2 hl)
  refine run_convert_bytes_back (P:=Tryz.prog) w 147 9 5 ⟨g,0,none⟩ cap l Tryz.underlying147 Tryz.underlying5 Tryz.underlying9 (fun j hj=>?_)
  rw[yM,Nat.zero_add,h.cellAt j (by omega)]
  simp[jR,Lib.byteCells,hj]
theorem decodeN_valid(n b0 b1 b2 b3:Nat):(Lib.decodeN n b0 b1 b2 b3).1<55296∨(57344≤(Lib.decodeN n b0 b1 b2 b3).1∧(Lib.decodeN n b0 b1 b2 b3).1≤1114111):=by
 unfold Lib.decodeN;repeat' split
 all_goals (simp only[];omega)
theorem TJ(s:Bytes)(h:s≠[])(h0:0≤(aP s).1):Lib.validRune (aP s).1=true:=by
 cases s with
 | nil=>exact absurd rfl h
 | cons b s =>
  have hv:=decodeN_valid (b::s).length ((b::s).getD 0 0).toNat ((b::s).getD 1 0).toNat ((b::s).getD 2 0).toNat ((b::s).getD 3 0).toNat;rw[nG];unfold aP at h0 ⊢;simp only[] at h0 ⊢;split at h0
  ·simp only at h0;omega
  ·rename_i hh;rw[if_neg hh];simp only at h0 ⊢;omega
theorem TK(r:Int)(h:Lib.validRune r=true):Lib.validRune (gI r)=true:=by
 rw[nG] at h ⊢;unfold gI;simp only[inL,Bool.and_eq_true,Bool.or_eq_true,decide_eq_true_eq];repeat' split
 all_goals omega
theorem aaR(r:Int)(h:Lib.validRune r=true):kL r=r:=by
 have h2:=h;rw[nG] at h;unfold kL;rw[if_neg (by simp only[h2];simp;omega)]
theorem acp(s:Bytes)(h:s≠[]):bQ s=pK ((aP s).1,s.take (aP s).2)++bQ (s.drop (aP s).2):=by
 unfold bQ;rw[kK s h];rfl
theorem foldC_neg(s:Bytes)(h:s≠[])(h0:(aP s).1<0):pK ((aP s).1,s.take (aP s).2)=[s.getD 0 0]:=by
 have:=lV s h;unfold pK;rw[if_pos h0];obtain⟨b,t,rfl⟩:=List.exists_cons_of_ne_nil h;obtain⟨k,hk⟩:∃k,(aP (b::t)).2=k+1:=⟨(aP (b::t)).2-1,by omega⟩
 simp only[hk];simp
theorem foldC_pos(s:Bytes)(h:s≠[])(h0:0≤(aP s).1):pK ((aP s).1,s.take (aP s).2)=Lib.encodeRune (gI (aP s).1):=by
 unfold pK;rw[if_neg (by simp only;omega),aaR _ (TK _ (TJ s h h0))]
theorem TL(s:Bytes)(w:World)(hs:s.length≤1000000000):
  Calls Tryz.prog 61 #[ak s] w fun e w'=>e=.returned (ak (bQ s))∧Q w w':=by
 obtain⟨i0,hi,fJ,eU,fD⟩:=info_parts (show(Tryz.prog.info? 5).map (fun i=>(i.zero,i.size,i.bytes))=some (some (.int .u8 0),1,1) by kernel_rfl)
 go_enter Tryz.func61,Tryz.ntmps61;go_wp2_with fail;go_loopw [3,0] (fun bv v wr=>∃t l:Bytes,v=ak t∧l.length+4*t.length≤4*s.length∧Hid (bQ s=l++bQ t)∧Hid (wr.ownsRow w.heap.size 5 1 bv l.length (jR l))∧Hid (Q w wr)) (fun _ v _=>(match v with | .string b=>b.size|_=>0))
 case atStart=>exact⟨s,[],rfl,by simp,rfl,World.ownsRow_nil _ _ _ _,Q.refl _⟩
 case round =>
  obtain⟨t,l,rfl,vg,QW,HO,HQ⟩:=hrel;obtain⟨wo,rfl⟩:∃wo:World,wo=wr:=⟨_,rfl⟩;by_cases aF:t=[]
  ·subst aF
   have hc:=WQ HO.out;go_wp2_with fail;go_ret;exact⟨by rw[QW.out,show bQ []=[] from rfl,List.append_nil];rfl,HQ.out⟩
  ·have hl:0<t.length:=List.length_pos_iff.2 aF
   have OP:(0:Int)<(t.length:Int):=by omega
   obtain⟨qC,rD⟩:=lV t aF;have zu:=Qa t aF;have aI:=acp t aF;have cr:=fun W=>P9 t W (by omega)
   have xJ:({ data:=t.toArray }:ByteArray).extract (aP t).2 t.length=⟨(t.drop (aP t).2).toArray⟩:=iV t _;have ku:(t.drop (aP t).2).length=t.length-(aP t).2:=List.length_drop;have ZN:=foldC_neg t aF;have Cu:=foldC_pos t aF;have EI:=TJ t aF;have lK:((({ data:=t.toArray }:ByteArray)[0]'hl).toNat:Int)=(dH t 0:Nat):=fq t 0 hl;have uf:t.getD 0 0=UInt8.ofNat (dH t 0):=by unfold dH;simp
   have oQ:=vF t 0;generalize bC:pK ((aP t).1,t.take (aP t).2)=fc at *;generalize hr:aP t=rn at *;obtain⟨r,n⟩:=rn;simp only at qC rD zu aI cr xJ ku ZN Cu EI;generalize t.drop n=td at *;have Cw:(n:Int)≤(t.length:Int):=by omega
   have Ij:(0:Int)≤(n:Int):=by omega
   have bJ:=Hd aI;have zW:=Hd ku;have HFN:=Hd ZN;have HFP:=Hd Cu;have HVA:=Hd EI;have Sy:=Hd uf;clear aI hr aF ku bC ZN Cu EI uf;by_cases h0:r<0
   ·have O0:=HFN.out h0
    generalize dH t 0=b0 at *;have HFC:=Hd O0;clear O0;go_wp2_with fail;refine(cr _).mono ?_;rintro e w1 ⟨rfl,q1⟩;have aC:=Hd (HQ.out.trans q1);have jf:=ownsRow_below HO.out q1;have aY:w.heap.size≤w1.heap.size:=aC.out.size;clear q1 HO HQ;go_wp2_with (at_builtin;go_must (refine cZ w1 (by rfl) _ _ 147 (by rfl) w.heap.size 5 _ i0 (.int .u8 0) 1 1 Tryz.underlying147 hi fJ eU fD rfl (by decide) (by decide) _ _ _ (by rfl) jf #[.int .u8 (b0:Nat)] (by simp[Act.eval]) rfl ?c1 ?c2 aY ?_))
    case c1=>simp[Value.oneCell']
    case c2=>omega
    intro g6 cap6 w6 aW dB iL uz tq;have q6:Q w w6:=aL aC.out jf dB (Nat.le_refl _) (by omega)
    rw[show jR l++(#[Value.int .u8 (b0:Nat)]:Array Value).toList=jR (l++fc) by
     rw[HFC.out,Sy.out,uF];simp[jR,Lib.byteCells];omega,show l.length+1=(l++fc).length by rw[HFC.out];simp] at aW
    have aD:(l++fc).length=l.length+1:=by rw[HFC.out];simp
    have rH:=Hd aW;have fQ:=Hd q6;have Ii:=Hd aD;rw[←aD];clear aW q6 dB iL jf aD;generalize ZV:l++fc=lf at *;have HLF:=Hd ZV;clear ZV;go_wp2_with fail;go_roundw;case rel=>exact⟨td,lf,rfl,by have:=zW.out;have:=Ii.out;omega,by show _=_;rw[QW.out,bJ.out,←HLF.out,List.append_assoc],rH,fQ⟩
    case measure=>show td.length<t.length;have:=zW.out;omega
   ·have O0:=HFP.out (by omega)
    have y8:=HVA.out (by omega)
    have cfo:=fun W=>RFold_any r W (by omega) (by omega)
    have cby:=fun W=>Eb (gI r) W (TK r y8)
    have ES:(Lib.encodeRune (gI r)).length≤4:=by unfold Lib.encodeRune;rw[List.length_map];exact(Lib.encodeRuneZ_length (gI r)).2
    rw[←O0] at ES cby
    have Lm:=Hd cby
    generalize gI r=fr at *;clear O0 y8 cby
    go_wp2_with fail;refine(cr _).mono ?_;rintro e w1 ⟨rfl,q1⟩;have aC:=Hd (HQ.out.trans q1);have jH:=Hd (ownsRow_below HO.out q1);clear q1 HO HQ;go_wp2_with fail;refine(cfo _).mono ?_;rintro e w2 ⟨rfl,rfl⟩;go_wp2_with fail;refine(Lm.out _).mono ?_;rintro e w3 ⟨rfl,q3⟩;have bZ:=Hd (aC.out.trans q3);have zY:=ownsRow_below jH.out q3;have aY:w.heap.size≤w3.heap.size:=bZ.out.size;have gB:l.length+({ data:=fc.toArray }:ByteArray).size≤140737488355328:=by show l.length+fc.length≤_;omega
    clear q3 jH aC Lm;go_wp2_with (at_builtin;go_must (refine Yr w3 (by rfl) _ _ 147 9 (by rfl) w.heap.size 5 i0 Tryz.underlying147 Tryz.underlying9 hi fJ eU fD _ _ _ (by rfl) zY { data:=fc.toArray } (by rfl) gB aY ?_))
    intro v6 w6 aW dB;have q6:Q w w6:=aL bZ.out zY dB (Nat.le_refl _) (by omega)
    have aW:w6.ownsRow w.heap.size 5 1 v6 (l++fc).length (jR (l++fc)):=by
     rw[List.length_append,uF,←MF];exact aW
    have aD:(l++fc).length=l.length+fc.length:=List.length_append;have rH:=Hd aW;have fQ:=Hd q6;have Ii:=Hd aD;clear aW q6 dB zY aD;generalize ZV:l++fc=lf at *;have HLF:=Hd ZV;clear ZV;go_wp2_with fail;go_roundw;case rel=>exact⟨td,lf,rfl,by have:=zW.out;have:=Ii.out;omega,by show _=_;rw[QW.out,bJ.out,←HLF.out,List.append_assoc],rH,fQ⟩
    case measure=>show td.length<t.length;have:=zW.out;omega
end
end Go.Proofs.YthijhicdmnoifaaGreatDoor
