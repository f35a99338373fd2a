/- Joined texts of one proof: what is needed of OpenSl, Open7, Tabs7. -/
import Derived.Test.YthcpkgfieoneeaaGreatDoorProg
import Derived.Test.YthcpkgfieoneeaaGreatDoorJPKit
import Derived.Deep.Slices
import Derived.ProofKit
import Derived.OpenShut
import Derived.ShutString
import Derived.Carry
import Derived.LaidMore
import Derived.Lay
import Derived.Lib.LaidU8T
import Derived.PinnedBridge
import Derived.Test.YthcpkgfieoneeaaGreatDoorJPPly7
import Derived.Test.YthcpkgfieoneeaaGreatDoorRows
set_option linter.unusedSimpArgs false
set_option linter.unusedVariables false
set_option linter.unnecessarySimpa false
set_option maxRecDepth 100000
set_option maxHeartbeats 16000000
namespace Go.Proofs.YthcpkgfieoneeaaGreatDoor
section
open Go.ChangeShapes Go.WideShapes Go.ChangeAt Go.RowKit Go.Deep
theorem flatD_at(css:List (List Value))(sz:Nat)(h:∀c∈css,c.length=sz)(j:Nat)(u:Value)(hj:css.flatten[j]?=some u):∃i r c,css[i]?=some c∧c[r]?=some u∧j=i*sz+r∧r<sz:=by
 induction css generalizing j with
 | nil=>simp at hj
 | cons c css ih =>
  have hc:=h c (by simp)
  rw[List.flatten_cons] at hj
  by_cases hlt:j<c.length
  ·rw[List.getElem?_append_left hlt] at hj
   exact⟨0,j,c,rfl,hj,by omega,by omega⟩
  ·rw[List.getElem?_append_right (by omega)] at hj
   obtain⟨i,r,c',h1,h2,h3,h4⟩:=ih (fun x hx=>h x (by simp[hx])) _ hj
   exact⟨i+1,r,c',by simpa using h1,h2,by rw[Nat.add_mul];omega,h4⟩
theorem flat_length(css:List (List Value))(sz:Nat)(h:∀c∈css,c.length=sz):css.flatten.length=css.length*sz:=by
 induction css with
 | nil=>simp
 | cons c css ih =>
  rw[List.flatten_cons,List.length_append,ih (fun x hx=>h x (by simp[hx])),h c (by simp),List.length_cons,Nat.add_mul];omega
section
variable {H:Type} {enc:TypeId×Value→H} {P:Program} {w:World} {base:Nat} {spare:Nat→Bool} {held:Bool}
theorem open_sl{α:Type}[Inhabited α]{t e:TypeId}(ht:P.underlying t=some (.slice e))(sz:Nat)(hC:P.cellsOf e=sz)(hsz:0<sz)(R:List Value→α→Prop)
  (hR:∀n cs x,DataW.trod enc P w base spare held n e cs=some x→∃a,R cs a) {fuel:Nat} {v:Value} {x:DataW H×List MemPlace} (h:DataW.trod enc P w base spare held fuel t [v]=some x) :
  ∃(xs:List α) (css:List (List Value)),xs.length=css.length∧Sl w v xs.length sz css.flatten∧(∀(i:Nat) a c,css[i]?=some c→xs[i]?=some a→R c a)∧xs.length≤maxLen:=by
 rcases open_slice ht h with ⟨h0,_⟩|⟨a,len,cap,m,n,D,Pl,hcs,_,hl,hm,hmm,_,hel⟩
 ·obtain rfl:v=.slice none 0 0:=by simpa using h0
  exact⟨[],[],rfl,Sl.nil _ _,fun i a c hc=>by simp at hc,by simp⟩
 ·obtain rfl:v=.slice (some a) len cap:=by simpa using hcs
  have hlm:len≤m:=by rw[hmm];split<;>omega
  have hex:∀i:Nat,∃p:List Value×α,i<len→(w.cells? base (a.add (i*sz)) sz=some p.1∧R p.1 p.2):=by
   intro i
   by_cases hi:i<len
   ·obtain⟨cs',h1,h2⟩:=hel i (by omega)
    rw[hC] at h1
    obtain⟨b,hb⟩:=hR _ _ _ h2
    exact⟨(cs',b),fun _=>⟨h1,hb⟩⟩
   ·exact⟨([],default),fun h=>absurd h hi⟩
  obtain⟨f,hf⟩:=Classical.axiomOfChoice hex
  have hlen:∀c∈(List.range len).map (fun i=>(f i).1),c.length=sz:=by
   intro c hc
   obtain⟨i,hi,rfl⟩:=List.mem_map.1 hc
   exact(World.cells?_some (hf i (List.mem_range.1 hi)).1).2.1
  refine⟨(List.range len).map (fun i=>(f i).2),(List.range len).map (fun i=>(f i).1),by simp,⟨?_,some a,cap,by simp,fun hn=>?_⟩,fun i b c hc hb=>?_,by simp;omega⟩
  ·rw[flat_length _ sz hlen];simp
  ·simp only[List.length_map,List.length_range] at hn
   have h0:=(World.cells?_some (hf 0 hn).1).2.2 0 hsz
   obtain⟨b,off,spot⟩:=a
   have hl0:=(World.cells?_some (hf 0 hn).1).2.1
   rw[List.getElem?_eq_getElem (by omega)] at h0
   have hspot:spot=none:=by simpa[Addr.add] using World.cell?_spot h0
   subst hspot
   refine⟨b,off,rfl,fun j u hj=>?_⟩
   obtain⟨i,r,c,h1,h2,h3,h4⟩:=flatD_at _ sz hlen j u hj
   rw[List.getElem?_map] at h1
   cases hr:(List.range len)[i]? with
   | none=>rw[hr] at h1;cases h1
   | some i' =>
    rw[hr] at h1
    cases h1
    obtain⟨hil,hii⟩:=List.getElem?_eq_some_iff.1 hr
    rw[List.getElem_range] at hii
    subst hii
    have:=(World.cells?_some (hf i (by simpa using hil)).1).2.2 r h4
    rw[h2,add_off,add_off] at this
    rw[h3,←Nat.add_assoc];exact this
  ·rw[List.getElem?_map] at hc hb
   cases hr:(List.range len)[i]? with
   | none=>rw[hr] at hc;cases hc
   | some i' =>
    rw[hr] at hc hb
    cases hc;cases hb
    obtain⟨hil,hii⟩:=List.getElem?_eq_some_iff.1 hr
    rw[List.getElem_range] at hii
    subst hii
    exact(hf i (by simpa using hil)).2
end
end
section
open Go.ChangeShapes Go.WideShapes Go.ChangeAt Go.RowKit Go.Deep
instance inhAct7:Inhabited Act7:=⟨⟨0,0,0,[],0⟩⟩
section
variable {H:Type} {enc:TypeId×Value→H} {w:World} {base:Nat} {spare:Nat→Bool} {held:Bool}
theorem flat_bools(bs:List Bool)(css:List (List Value))(hl:bs.length=css.length)(h:∀(i:Nat) a c,css[i]?=some c→bs[i]?=some a→c=[Value.bool a]):css.flatten=bs.map .bool:=by
 induction bs generalizing css with
 | nil=>have:css=[]:=List.eq_nil_of_length_eq_zero hl.symm;subst this;rfl
 | cons o bs ih =>
  cases css with
  | nil=>simp at hl
  | cons c css =>
   have h0:=h 0 o c rfl rfl
   rw[List.flatten_cons,ih css (by simpa using hl) (fun i a c hc ha=>h (i+1) a c (by simpa using hc) (by simpa using ha)),h0]
   rfl
theorem open_bools{fuel:Nat}{v:Value}{x:DataW H×List MemPlace}(h:DataW.trod enc Tryz.prog w base spare held fuel 33 [v]=some x):∃l:List Bool,Bools w v l∧l.length≤9223372036854775807:=by
 obtain⟨bs,css,hl,hs,hr,hm⟩:=open_sl (α:=Bool) Tryz.underlying33 1 (by kernel_rfl) (by decide) (fun cs b=>cs=[Value.bool b]) (fun n cs x h=>by
  obtain⟨b0,e0,_⟩:=DataW.trod_bool Tryz.underlying4 h
  exact⟨b0,e0⟩) h
 refine⟨bs,?_,by unfold maxLen at hm;exact hm⟩
 unfold Bools;rw[←flat_bools bs css hl hr];exact hs
def ActR7(w:World)(cs:List Value)(a:Value×Act7):Prop:=cs=[.int .i64 a.2.op,.int .i64 a.2.at_,.int .i64 a.2.n,a.1,.int .u8 (a.2.byte.toNat:Nat)]∧Bools w a.1 a.2.keep∧a.2.Wf
theorem trod_act7{n:Nat}{cs:List Value}{x:DataW H×List MemPlace}(h:DataW.trod enc Tryz.prog w base spare held n 35 cs=some x):∃a:Value×Act7,ActR7 w cs a:=by
 have c3:Tryz.prog.cellsOf 3=1:=by kernel_rfl
 have c23:Tryz.prog.cellsOf 33=1:=by kernel_rfl
 have c8:Tryz.prog.cellsOf 5=1:=by kernel_rfl
 have c27:Tryz.prog.cellsOf 35=5:=by kernel_rfl
 obtain⟨xs,n',_,_,hcl,hxl,hf⟩:=DataW.trod_struct Tryz.underlying35 h
 rw[c27] at hcl
 match cs,hcl with
 | [a,b,c,d,e],_ =>
  have g0:DataW.trod enc Tryz.prog w base spare held n' 3 (([a,b,c,d,e].drop 0).take (Tryz.prog.cellsOf 3))=xs[0]?:=hf 0 _ rfl
  rw[c3] at g0
  have h0:DataW.trod enc Tryz.prog w base spare held n' 3 [a]=xs[0]?:=g0
  have g1:DataW.trod enc Tryz.prog w base spare held n' 3 (([a,b,c,d,e].drop 1).take (Tryz.prog.cellsOf 3))=xs[1]?:=hf 1 _ rfl
  rw[c3] at g1
  have h1:DataW.trod enc Tryz.prog w base spare held n' 3 [b]=xs[1]?:=g1
  have g2:DataW.trod enc Tryz.prog w base spare held n' 3 (([a,b,c,d,e].drop 2).take (Tryz.prog.cellsOf 3))=xs[2]?:=hf 2 _ rfl
  rw[c3] at g2
  have h2:DataW.trod enc Tryz.prog w base spare held n' 3 [c]=xs[2]?:=g2
  have g3:DataW.trod enc Tryz.prog w base spare held n' 33 (([a,b,c,d,e].drop 3).take (Tryz.prog.cellsOf 33))=xs[3]?:=hf 3 _ rfl
  rw[c23] at g3
  have h3:DataW.trod enc Tryz.prog w base spare held n' 33 [d]=xs[3]?:=g3
  have g4:DataW.trod enc Tryz.prog w base spare held n' 5 (([a,b,c,d,e].drop 4).take (Tryz.prog.cellsOf 5))=xs[4]?:=hf 4 _ rfl
  rw[c8] at g4
  have h4:DataW.trod enc Tryz.prog w base spare held n' 5 [e]=xs[4]?:=g4
  have hx2:xs.length=5:=hxl
  rw[List.getElem?_eq_getElem (by omega)] at h0 h1 h2 h3 h4
  obtain⟨i0,e0,_,w0⟩:=DataW.trod_int Tryz.underlying3 h0
  obtain⟨i1,e1,_,w1⟩:=DataW.trod_int Tryz.underlying3 h1
  obtain⟨i2,e2,_,w2⟩:=DataW.trod_int Tryz.underlying3 h2
  obtain⟨bs,hb,hw⟩:=open_bools h3
  obtain⟨i4,e4,_,w4⟩:=DataW.trod_int Tryz.underlying5 h4
  cases e0;cases e1;cases e2;cases e4
  have hb8:=bounds_u8 w4
  refine⟨(d,⟨i0,i1,i2,bs,UInt8.ofNat i4.toNat⟩),?_,hb,⟨bounds_i64 w0,bounds_i64 w1,bounds_i64 w2,hw⟩⟩
  have:((UInt8.ofNat i4.toNat).toNat:Int)=i4:=by rw[UInt8.toNat_ofNat',Nat.mod_eq_of_lt (by omega)];omega
  simp only[this]
theorem flat_acts7(al:List (Value×Act7))(css:List (List Value))(w:World)(hl:al.length=css.length)(h:∀(i:Nat) a c,css[i]?=some c→al[i]?=some a→ActR7 w c a):css.flatten=act7Vs (al.map (·.1)) (al.map (·.2)):=by
 induction al generalizing css with
 | nil=>have:css=[]:=List.eq_nil_of_length_eq_zero hl.symm;subst this;rfl
 | cons o al ih =>
  cases css with
  | nil=>simp at hl
  | cons c css =>
   have h0:=(h 0 o c rfl rfl).1
   rw[List.flatten_cons,ih css (by simpa using hl) (fun i a c hc ha=>h (i+1) a c (by simpa using hc) (by simpa using ha)),h0]
   simp[act7Vs]
theorem open_acts7{fuel:Nat}{v:Value}{x:DataW H×List MemPlace}(h:DataW.trod enc Tryz.prog w base spare held fuel 22 [v]=some x):∃l:List Act7,Acts7 w v l∧Acts7Wf l:=by
 obtain⟨al,css,hl,hs,hr,hm⟩:=open_sl (α:=Value×Act7) Tryz.underlying22 5 (by kernel_rfl) (by decide) (ActR7 w) (fun n cs x h=>trod_act7 h) h
 refine⟨al.map (·.2),⟨al.map (·.1),by simp,?_,fun i a b ha hb=>?_⟩,by unfold maxLen at hm;simpa using hm,fun a ha=>?_⟩
 ·rw[List.length_map,←flat_acts7 al css w hl hr];exact hs
 ·rw[List.getElem?_map] at ha hb
  cases hi:al[i]? with
  | none=>rw[hi] at ha;cases ha
  | some y =>
   rw[hi] at ha hb
   cases ha;cases hb
   have hil:=(List.getElem?_eq_some_iff.1 hi).1
   exact(hr i y _ (List.getElem?_eq_getElem (by omega)) hi).2.1
 ·obtain⟨y,hy,rfl⟩:=List.mem_map.1 ha
  obtain⟨i,hi⟩:=List.getElem?_of_mem hy
  have hil:=(List.getElem?_eq_some_iff.1 hi).1
  exact(hr i y _ (List.getElem?_eq_getElem (by omega)) hi).2.2
theorem open_act7{n:Nat}{cs:Array Value}{x:DataW H×List MemPlace}(h:DataW.trod enc Tryz.prog w base spare held n 35 cs.toList=some x):∃a:Act7,ActA w (.agg cs) a∧a.Wf:=by
 obtain⟨a,hc,hb,hw⟩:=trod_act7 h
 refine⟨a.2,⟨a.1,?_,hb⟩,hw⟩
 unfold actV
 congr 1
 exact Array.ext' hc
end
end
section
open Go.ChangeShapes Go.WideShapes Go.ChangeAt Go.RowKit
abbrev laidL:List (String×DataW Unit):=[("unicode/utf8.acceptRanges",Rows.laid_unicode_utf8_acceptRanges),("unicode/utf8.first",Rows.laid_unicode_utf8_first)]
end
end Go.Proofs.YthcpkgfieoneeaaGreatDoor
