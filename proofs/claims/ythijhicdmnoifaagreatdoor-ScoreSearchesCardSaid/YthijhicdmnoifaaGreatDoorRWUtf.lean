/- Joined texts of one proof. -/
import Derived.Test.YthijhicdmnoifaaGreatDoorRMaps
set_option linter.unusedSimpArgs false
set_option linter.unusedVariables false
set_option linter.unnecessarySimpa false
set_option maxRecDepth 100000
set_option maxHeartbeats 8000000
namespace Go.Proofs.YthijhicdmnoifaaGreatDoor
section
open Go.RowKit
def Tabs(w:World):Prop:=Lib.Utf8Tabs 0 1 w
theorem Tabs.stays{w w':World}(h:Tabs w)(hb:Q w w'):Tabs w':=Utf8Tabs_below h hb
theorem CY(s:Bytes)(w:World)(hs:s.length≤9223372036854775807)(hT:Tabs w):
  Calls Tryz.prog 71 #[.string ⟨s.toArray⟩] w fun e w'=>e=.returned (.bool (Lib.validD s))∧Q w w':=by
 have c:=Tryz.utf8_ValidString ⟨s.toArray⟩ w (by simpa[ByteArray.size] using hs) hT
 have C:=Hd c;clear c hT;go_enter Tryz.func71,Tryz.ntmps71;go_wp2_with fail;refine C.out.mono ?_;rintro e w1 ⟨rfl,q1⟩;go_wp2_with fail;go_ret;exact⟨rfl,q1⟩
theorem YU(id text:Bytes)(w:World)(h1:id.length≤9223372036854775807)(h2:text.length≤9223372036854775807)(hT:Tabs w):
  Calls Tryz.prog 72 #[.agg #[.string ⟨id.toArray⟩,.string ⟨text.toArray⟩]] w fun e w'=>e=.returned (.bool (iT id text))∧Q w w':=by
 have Qw:Tabs (w.alloc (.cells #[.string ⟨id.toArray⟩,.string ⟨text.toArray⟩] 47)):=hT.stays (Q.alloc _ _);have HT:=Hd Qw;clear hT Qw;have hR:iT id text=(!id.isEmpty&&decide (id.length≤40)&&decide (text.length≤2000)&&Lib.validD id&&Lib.validD text):=rfl;generalize iT id text=R at *;by_cases he:id=[]
 ·subst he
  have HR:=Hd hR;clear hR;go_enter Tryz.func72,Tryz.ntmps72;go_wp2_with fail;go_ret;exact⟨by rw[HR.out];rfl,Q.alloc _ _⟩
 ·have aF:id.isEmpty=false:=by simpa using he
  rw[aF] at hR;by_cases TV:id.length≤40
  ·by_cases ame:text.length≤2000
   ·rw[decide_eq_true TV,decide_eq_true ame] at hR
    have HR:=Hd hR;have HE:=Hd he;clear hR he;cases hv:Lib.validD id with
    | false =>
     have HV:=Hd hv;clear hv;go_enter Tryz.func72,Tryz.ntmps72;go_wp2_with fail;refine(CY id _ h1 HT.out).mono ?_;rintro e w1 ⟨rfl,q1⟩;rw[HV.out];go_wp2_with fail;go_ret;exact⟨by rw[HR.out,HV.out];rfl,(Q.alloc _ _).trans q1⟩
    | true =>
     have HV:=Hd hv;clear hv;go_enter Tryz.func72,Tryz.ntmps72;go_wp2_with fail;refine(CY id _ h1 HT.out).mono ?_;rintro e w1 ⟨rfl,q1⟩;rw[HV.out];have hc:w1.cell? ⟨w.heap.size,1,none⟩=some (.string ⟨text.toArray⟩):=ah q1 (by simp only[World.cell?,heap_alloc_new];simp)
     have Qw:Tabs w1:=HT.out.stays q1;have mR:=Hd Qw;have HQ:=Hd q1;clear Qw q1;go_wp2_with fail;refine(CY text _ h2 mR.out).mono ?_;rintro e w2 ⟨rfl,q2⟩;have aS:=Hd q2;clear q2;go_wp2_with fail;go_ret;exact⟨by rw[HR.out,HV.out];rfl,((Q.alloc _ _).trans HQ.out).trans aS.out⟩
   ·rw[decide_eq_false ame] at hR
    have HR:=Hd hR;have HE:=Hd he;clear hR he;go_enter Tryz.func72,Tryz.ntmps72;go_wp2_with fail;go_ret;exact⟨by rw[HR.out];simp,Q.alloc _ _⟩
  ·rw[decide_eq_false TV] at hR
   have HR:=Hd hR;have HE:=Hd he;clear hR he;go_enter Tryz.func72,Tryz.ntmps72;go_wp2_with fail;go_ret;exact⟨by rw[HR.out];simp,Q.alloc _ _⟩
abbrev jR(l:Bytes):List Value:=Lib.byteCells l
def Bld(w:World)(B b:Nat)(r:Option Nat)(l:Bytes):Prop :=
 B≤b∧∃p v,w.heap[b]?=some (.cells #[p,v] 179 (0,0))∧(p=.pointer none∨p=.pointer (some ⟨b,0,none⟩))∧w.ownsRowF B 5 1 v l.length (jR l)∧v.ownBlock=r∧r≠some b∧(l=[]→r=none)
structure Step2 (w w':World) (b:Nat) (r:Option Nat):Prop where
 os:w'.os=w.os
 tape:w'.tape=w.tape
 output:w'.output=w.output
 size:w.heap.size≤w'.heap.size
 block:∀k,k<w.heap.size→k≠b→some k≠r→w'.heap[k]?=w.heap[k]?
theorem Step2.refl(w:World)(b:Nat)(r:Option Nat):Step2 w w b r:=⟨rfl,rfl,rfl,Nat.le_refl _,fun _ _ _ _=>rfl⟩
theorem Step2.below{w w':World}{b:Nat}{r:Option Nat}{B:Nat}(h:Step2 w w' b r)(hb:B≤b)(hr:∀k,r=some k→B≤k)(hB:B≤w.heap.size):Below B w w' :=
 ⟨h.os,h.tape,h.output,h.size,fun k hk=>h.block k (by omega) (by omega) (fun e=>by have:=hr k e.symm;omega)⟩
theorem Bld.lt{w:World}{B b:Nat}{r:Option Nat}{l:Bytes}(h:Bld w B b r l):b<w.heap.size:=by
 obtain⟨_,p,v,hb,_⟩:=h;exact(Array.getElem?_eq_some_iff.1 hb).1
theorem Bld.row{w:World}{B b:Nat}{r:Option Nat}{l:Bytes}(h:Bld w B b r l):∀k,r=some k→B≤k∧k<w.heap.size:=by
 obtain⟨_,p,v,hb,_,ho,hr,_,_⟩:=h;intro k hk;exact ho.lt k (hr.trans hk)
theorem Bld.below{w w':World}{B b:Nat}{r:Option Nat}{l:Bytes}(h:Bld w B b r l)(hs:Step2 w w' b r)(hB:B≤w.heap.size):Below B w w' :=
 hs.below h.1 (fun k hk=>(h.row k hk).1) hB
theorem Bld.stays{w w':World}{B b:Nat}{r:Option Nat}{l:Bytes}(h:Bld w B b r l)(hb:w'.heap[b]?=w.heap[b]?)(hr:∀k,r=some k→w'.heap[k]?=w.heap[k]?)(aY:w.heap.size≤w'.heap.size):Bld w' B b r l:=by
 obtain⟨h1,p,v,h2,h3,ho,h4,h5⟩:=h;refine⟨h1,p,v,hb.trans h2,h3,⟨ho.1,?_⟩,h4,h5⟩;rcases ho.2 with hn|⟨g,cap,cur,fz,rfl,zS,hg,rest⟩
 ·exact .inl hn
 ·exact .inr ⟨g,cap,cur,fz,rfl,zS,(hr g (by rw[←h4];rfl)).trans hg,rest⟩
theorem Bld.alloc{w:World}{B b:Nat}{r:Option Nat}{l:Bytes}(h:Bld w B b r l)(o:Obj):Bld (w.alloc o) B b r l :=
 h.stays (Below.heap_alloc _ _ _ h.lt) (fun k hk=>Below.heap_alloc _ _ _ (h.row k hk).2) (by simp)
theorem Bld.step{w w':World}{B b b2:Nat}{r r2:Option Nat}{l:Bytes}(h:Bld w B b r l)(hs:Step2 w w' b2 r2)(h1:b≠b2)(h2:some b≠r2)(h3:r≠some b2)(h4:r=none∨r≠r2):Bld w' B b r l :=
 h.stays (hs.block b h.lt h1 h2) (fun k hk=>hs.block k (h.row k hk).2 (fun e=>h3 (by rw[hk,e])) (fun e=>by
  rcases h4 with h4|h4
  ·rw[h4] at hk;cases hk
  ·exact h4 (hk.trans e))) hs.size
theorem Bld.new(w:World)(B:Nat)(hB:B≤w.heap.size):Bld (w.alloc (.cells #[.pointer none,.slice none 0 0] 179)) B w.heap.size none [] :=
 ⟨hB,_,_,heap_alloc_new w _,.inl rfl,World.ownsRowF_nil _ _ _ _,rfl,by simp,fun _=>rfl⟩
theorem sizeBuilder:(Tryz.prog.info? 179).map (·.size)=some 2:=by kernel_rfl
theorem liesBuilder:liesAt Tryz.prog Tryz.prog.depth 179 (2 / Tryz.prog.cellsOf 179) 0 179 1=true:=by kernel_rfl
theorem infoByte:(Tryz.prog.info? 5).map (fun i=>(i.zero,i.size,i.bytes))=some (some (.int .u8 0),1,1):=by kernel_rfl
theorem VR(b:Nat)(w:World)(h0:w.cell? ⟨b,0,none⟩=some (.pointer none))(Xj:w.shape? b=some (179,2))(Ch:w.frozen? ⟨b,0,none⟩=false):
  Calls Tryz.prog 141 #[.pointer (some ⟨b,0,none⟩)] w fun e w'=>e=.returned (.tuple #[])∧w'=w.setCell ⟨b,0,none⟩ (.pointer (some ⟨b,0,none⟩)):=by
 obtain⟨j,hj,hjs⟩:=Option.map_eq_some_iff.1 sizeBuilder;go_enter Tryz.func141,Tryz.ntmps141;go_wp2;rw[Lib.run_to_unsafe w ⟨b,0,none⟩ Tryz.underlying177 Tryz.underlying272 hj (by rw[hjs];decide) Xj (Nat.zero_lt_succ 1)]
 simp only[Result.andThen];rw[Oper.upon_value];go_wp2;rw[run_callFunc_extern Tryz.func176 (by kernel_rfl) (by kernel_rfl) (by kernel_rfl) (e:=Extern.AbiNoEscape.same) (by kernel_rfl)]
 rw[Lib.run_noEscape];simp only[Result.andThen];rw[Oper.upon_value];go_wp2;rw[Lib.run_from_unsafe w ⟨b,0,none⟩ Tryz.underlying272 Tryz.underlying177 hj Xj liesBuilder];simp only[Result.andThen];rw[Oper.upon_value];go_wp2;go_end0;exact⟨rfl,rfl⟩
theorem Yf(b:Nat)(w:World)(h0:w.cell? ⟨b,0,none⟩=some (.pointer (some ⟨b,0,none⟩))):
  Calls Tryz.prog 141 #[.pointer (some ⟨b,0,none⟩)] w fun e w'=>e=.returned (.tuple #[])∧w'=w:=by
 obtain⟨j,hj,_⟩:=Option.map_eq_some_iff.1 sizeBuilder;go_enter Tryz.func141,Tryz.ntmps141;go_wp2;rw[Lib.run_neq_ptr_same w _ Tryz.underlying177 hj];go_wp2;go_end0;exact⟨rfl,rfl⟩
theorem Ht(B b:Nat)(r:Option Nat)(l:Bytes)(w:World)(h:Bld w B b r l):
  Calls Tryz.prog 141 #[.pointer (some ⟨b,0,none⟩)] w fun e w'=>e=.returned (.tuple #[])∧Step2 w w' b none ∧
   ∃v,w'.heap[b]?=some (.cells #[.pointer (some ⟨b,0,none⟩),v] 179 (0,0))∧w'.ownsRowF B 5 1 v l.length (jR l)∧v.ownBlock=r:=by
 obtain⟨h1,p,v,h2,h3,ho,h4,h5,h6⟩:=h;rcases h3 with rfl|rfl
 ·refine(VR b w (by simp[World.cell?,h2]) (by simp[World.shape?,h2]) (by simp[World.frozen?,h2])).mono ?_
  rintro e w' ⟨rfl,rfl⟩;refine⟨rfl,⟨rfl,rfl,rfl,by simp[World.setCell],fun k hk hb _=>Below.heap_setCell _ _ _ _ (by simpa using hb)⟩,v,?_,?_,h4⟩
  ·simp[World.setCell,Array.getElem?_modify,h2]
  ·refine⟨ho.1,?_⟩
   rcases ho.2 with hn|⟨g,cap,cur,fz,rfl,zS,hg,rest⟩
   ·exact .inl hn
   ·refine .inr ⟨g,cap,cur,fz,rfl,zS,?_,rest⟩
    have aF:g≠b:=by rintro rfl;exact h5 (by rw[←h4];rfl)
    rw[Below.heap_setCell _ _ _ _ (by simpa using aF)]
    exact hg
 ·refine(Yf b w (by simp[World.cell?,h2])).mono ?_
  rintro e w' ⟨rfl,rfl⟩;exact⟨rfl,Step2.refl _ _ _,v,h2,ho,h4⟩
def J7(w:World)(r r':Option Nat):Prop:=r'=r∨∃g,r'=some g∧w.heap.size≤g
theorem abr{P:Program}(W:World)(base:Nat)(t u ty e:TypeId)(i:TypeInfo)(ht:P.underlying t=some (.slice e))(hu:P.underlying u=some .string)(hi:P.info? e=some i)(hz:i.zero=some (.int .u8 0))
  (jA:i.size=1) (nH:i.bytes=1) (v:Value) (n:Nat) (xs:List Value) (aQ:W.ownsRowF base e 1 v n xs) (s:ByteArray) (gB:n+s.size≤140737488355328) (fC:base≤W.heap.size) :
  ∃v' w',(Builtin.append_ #[t,u] ty #[v,.string s]).run P W=.ok v' w'∧w'.ownsRowF base e 1 v' (n+s.size) (xs++Lib.strCells s)∧W.grownBy w' v.ownBlock∧J7 W v.ownBlock v'.ownBlock∧(v'=.slice none 0 0↔v=.slice none 0 0∧s.size=0):=by
 obtain⟨v',w',hr,ho,hg,hn⟩:=Lib.run_append_own_stringF (P:=P) W base t u ty e i ht hu hi hz jA nH v n xs aQ s (by unfold maxLen;omega) gB fC
 refine⟨v',w',hr,ho,hg,?_,hn⟩;rcases aQ.2 with ⟨rfl,rfl⟩|⟨g,cap,cur,fz,rfl,zS,BJ,Ch,Ud,KT,tN,SG⟩
 ·obtain⟨v2,w2,jG,jI,_⟩:=Lib.run_append_own_string (P:=P) W W.heap.size t u ty e i ht hu hi hz jA nH (.slice none 0 0) 0 [] (World.ownsRow_nil _ _ _ _) s (by unfold maxLen;omega) gB (Nat.le_refl _)
  rw[hr] at jG;simp only[Result.ok.injEq] at jG;obtain⟨rfl,rfl⟩:=jG;cases hk:v'.ownBlock with
  | none=>exact Or.inl rfl
  | some g=>exact Or.inr ⟨g,rfl,(jI.lt g hk).1⟩
 ·by_cases aiP:n+s.size≤cap
  ·have h2:=Lib.run_append_room_stringF (P:=P) W t u ty e i ht hu hi jA g n cap cur fz BJ (by omega) s aiP (by omega)
   rw[hr] at h2;simp only[Result.ok.injEq] at h2;rw[h2.1];exact Or.inl rfl
  ·have holds:∀j x,xs[j]?=some x→W.cell? ((⟨g,0,none⟩:Addr).add j)=some x:=aQ.cells (g:=g) rfl
   have h2:=Lib.run_append_grow_string (P:=P) W t u ty e i (.int .u8 0) ht hu hi hz ⟨g,0,none⟩ n cap xs (by rw[jA];exact aQ.1) holds s (by omega) (by omega) (by rw[nH];exact growslice_fits (by omega) (by omega))
   rw[hr] at h2;simp only[Result.ok.injEq] at h2;rw[h2.1];exact Or.inr ⟨_,rfl,Nat.le_refl _⟩
theorem aaw{P:Program}(W:World)(base:Nat)(t ty e:TypeId)(i:TypeInfo)(ht:P.underlying t=some (.slice e))(hi:P.info? e=some i)(hz:i.zero=some (.int .u8 0))
  (jA:i.size=1) (nH:i.bytes=1) (v:Value) (n:Nat) (xs:List Value) (aQ:W.ownsRowF base e 1 v n xs) (e':TypeId) (c:Int) (gB:n+1≤140737488355328) (fC:base≤W.heap.size) :
  ∃v' w',(Builtin.append_ #[t,t] ty #[v,.slice (some ⟨W.heap.size,0,none⟩) 1 1]).run P (W.alloc (.cells #[.int .u8 c] e'))=.ok v' w'∧w'.ownsRowF base e 1 v' (n+1) (xs++[.int .u8 c])∧W.grownBy w' v.ownBlock∧J7 W v.ownBlock v'.ownBlock:=by
 have aaW:∀j u,([.int .u8 c]:List Value)[j]?=some u→(W.alloc (.cells #[.int .u8 c] e')).cell? ((⟨W.heap.size,0,none⟩:Addr).add j)=some u:=by
  intro j u hj;rw[Jd];simp only[World.cell?,heap_alloc_new];simpa using hj
 have h1:∀u∈([.int .u8 c]:List Value),u.oneCell'=true:=by intro u hu;simp at hu;subst hu;rfl
 obtain⟨v',w',hr,ho,hg,hn⟩:=run_append_ownF (P:=P) (W.alloc (.cells #[.int .u8 c] e')) base t ty e i (.int .u8 0) 1 1 ht hi hz jA nH rfl (by decide) v n xs (aQ.alloc _) ⟨W.heap.size,0,none⟩ 1 1 [.int .u8 c] rfl aaW h1 (by unfold maxLen;omega) (by omega) (by simp;omega)
 refine⟨v',w',hr,ho,⟨hg.os.trans rfl,hg.tape.trans rfl,hg.output.trans rfl,by have:=hg.size;simp at this;omega,fun k hk aF=>?_⟩,?_⟩
 ·rw[hg.block k (by simp;omega) aF,Below.heap_alloc _ _ _ hk]
 ·rcases (aQ.alloc (.cells #[.int .u8 c] e')).2 with ⟨rfl,rfl⟩|⟨g,cap,cur,fz,rfl,zS,BJ,Ch,Ud,KT,tN,SG⟩
  ·obtain⟨v2,w2,jG,jI,_⟩:=run_append_own (P:=P) (W.alloc (.cells #[.int .u8 c] e')) W.heap.size t ty e i (.int .u8 0) 1 1 ht hi hz jA nH rfl (by decide) (.slice none 0 0) 0 [] (World.ownsRow_nil _ _ _ _) ⟨W.heap.size,0,none⟩ 1 1 [.int .u8 c] rfl aaW h1 (by decide) (by decide) (by simp)
   rw[hr] at jG;simp only[Result.ok.injEq] at jG;obtain⟨rfl,rfl⟩:=jG;cases hk:v'.ownBlock with
   | none=>exact Or.inl rfl
   | some g=>exact Or.inr ⟨g,rfl,(jI.lt g hk).1⟩
  ·by_cases aiP:n+1≤cap
   ·have h2:=run_append_roomF (P:=P) (W.alloc (.cells #[.int .u8 c] e')) t ty e i ht hi g n cap cur fz BJ (by rw[jA];exact Ch) ⟨W.heap.size,0,none⟩ 1 1 [.int .u8 c] (by rw[jA];rfl) aaW h1 aiP (by rw[jA];simp;omega)
    rw[hr] at h2;simp only[Result.ok.injEq] at h2;rw[h2.1];exact Or.inl rfl
   ·have holds:∀j x,xs[j]?=some x→(W.alloc (.cells #[.int .u8 c] e')).cell? ((⟨g,0,none⟩:Addr).add j)=some x:=(aQ.alloc _).cells (g:=g) rfl
    have h2:=run_append_grow (P:=P) (W.alloc (.cells #[.int .u8 c] e')) t ty e i (.int .u8 0) ht hi hz ⟨g,0,none⟩ n cap xs (by rw[jA];exact aQ.1) holds ⟨W.heap.size,0,none⟩ 1 1 [.int .u8 c] (by rw[jA];rfl) aaW (by omega) (by omega) (by rw[nH];exact growslice_fits (by omega) (by omega))
    rw[hr] at h2;simp only[Result.ok.injEq] at h2;rw[h2.1];exact Or.inr ⟨_,rfl,by simp⟩
theorem UD{P:Program}(W:World){ops:Array Oper}{rest:List Oper}{o:Oper}{a:Act}{Q:Exit→Act→World→Prop}(uf:o.guard=none)(s x:Operand)(t:TypeId)
  (ho:o.op=.call { callee:=.builtin .append,args:=#[s,x],argTypes:=#[t,t] })
  (base:Nat) (e e':TypeId) (i:TypeInfo) (ht:P.underlying t=some (.slice e)) (hi:P.info? e=some i) (hz:i.zero=some (.int .u8 0)) (jA:i.size=1) (nH:i.bytes=1)
  (v:Value) (n:Nat) (xs:List Value) (hs:a.eval s=v) (aQ:W.ownsRowF base e 1 v n xs) (c:Int) (hx:a.eval x=.slice (some ⟨W.heap.size,0,none⟩) 1 1) (gB:n+1≤140737488355328) (fC:base≤W.heap.size)
  (h:∀v' w',w'.ownsRowF base e 1 v' (n+1) (xs++[.int .u8 c])→W.grownBy w' v.ownBlock→J7 W v.ownBlock v'.ownBlock→wpList P ops Q rest (a.put o.dst v') w'):wpList P ops Q (o::rest) a (W.alloc (.cells #[.int .u8 c] e')):=by
 obtain⟨v',w',hr,h2,h3,h4⟩:=aaw (P:=P) W base t o.type e i ht hi hz jA nH v n xs aQ e' c gB fC;refine wpList_plain uf fun _ hK=>?_
 unfold Oper.wp execOp;simp only[ho,resolve,invoke,builtin,Sem.run_bind,Sem.run_pure,Result.andThen_ok,List.map_toArray,List.map_cons,List.map_nil,hs,hx,hr];exact hK _ _ (h v' w' h2 h3 h4)
theorem VT{P:Program}(W:World){ops:Array Oper}{rest:List Oper}{o:Oper}{a:Act}{Q:Exit→Act→World→Prop}(uf:o.guard=none)(sl x:Operand)(t u:TypeId)
  (ho:o.op=.call { callee:=.builtin .append,args:=#[sl,x],argTypes:=#[t,u] })
  (base:Nat) (e:TypeId) (i:TypeInfo) (ht:P.underlying t=some (.slice e)) (hu:P.underlying u=some .string) (hi:P.info? e=some i) (hz:i.zero=some (.int .u8 0)) (jA:i.size=1) (nH:i.bytes=1)
  (v:Value) (n:Nat) (xs:List Value) (hs:a.eval sl=v) (aQ:W.ownsRowF base e 1 v n xs) (s:ByteArray) (hx:a.eval x=.string s) (gB:n+s.size≤140737488355328) (fC:base≤W.heap.size)
  (h:∀v' w',w'.ownsRowF base e 1 v' (n+s.size) (xs++Lib.strCells s)→W.grownBy w' v.ownBlock→J7 W v.ownBlock v'.ownBlock→(v'=.slice none 0 0↔v=.slice none 0 0∧s.size=0)→wpList P ops Q rest (a.put o.dst v') w'):wpList P ops Q (o::rest) a W:=by
 obtain⟨v',w',hr,h2,h3,h4,h5⟩:=abr (P:=P) W base t u o.type e i ht hu hi hz jA nH v n xs aQ s gB fC;refine wpList_plain uf fun _ hK=>?_
 unfold Oper.wp execOp;simp only[ho,resolve,invoke,builtin,Sem.run_bind,Sem.run_pure,Result.andThen_ok,List.map_toArray,List.map_cons,List.map_nil,hs,hx,hr];exact hK _ _ (h v' w' h2 h3 h4 h5)
theorem uF(a b:Bytes):jR (a++b)=jR a++jR b:=by simp[jR,Lib.byteCells]
theorem MF(l:Bytes):Lib.strCells ⟨l.toArray⟩=jR l:=by simp[Lib.strCells,jR,Lib.byteCells]
theorem Bld.put{w1 w2:World}{B b:Nat}{r:Option Nat}{l l':Bytes}{v v':Value}(hB:B≤b)(aO:w2.heap[b]?=some (.cells #[.pointer (some ⟨b,0,none⟩),v] 179 (0,0)))
  (yj:w2.ownsRowF B 5 1 v' l'.length (jR l')) (hr:v'.ownBlock≠some b) (Bf:l'=[]→v'.ownBlock=none):Bld (w2.setCell ⟨b,1,none⟩ v') B b v'.ownBlock l':=by
 refine⟨hB,_,v',?_,.inr rfl,⟨yj.1,?_⟩,rfl,hr,Bf⟩
 ·simp[World.setCell,Array.getElem?_modify,aO]
 ·rcases yj.2 with hn|⟨g,cap,cur,fz,rfl,zS,hg,rest⟩
  ·exact .inl hn
  ·refine .inr ⟨g,cap,cur,fz,rfl,zS,?_,rest⟩
   have aF:g≠b:=by rintro rfl;exact hr rfl
   rw[Below.heap_setCell _ _ _ _ (by simpa using aF)]
   exact hg
theorem Step2.append{w w1 w2:World}{b:Nat}{r:Option Nat}{v v':Value}(dN:Step2 w w1 b none)(hg:w1.grownBy w2 v.ownBlock)(hv:v.ownBlock=r):Step2 w (w2.setCell ⟨b,1,none⟩ v') b r:=by
 refine⟨hg.os.trans dN.os,hg.tape.trans dN.tape,hg.output.trans dN.output,by have:=hg.size;have:=dN.size;simp[World.setCell];omega,fun k hk Ih tT=>?_⟩
 rw[Below.heap_setCell _ _ _ _ (by simpa using Ih),hg.block k (by have:=dN.size;omega) (by rw[hv];exact tT),dN.block k hk Ih (by simp)]
theorem Hu(B b:Nat)(r:Option Nat)(l:Bytes)(x:UInt8)(c:Int)(w:World)(h:Bld w B b r l)(hc:c=x.toNat)(aD:l.length+1≤140737488355328)(hB:B≤w.heap.size):
  Calls Tryz.prog 94 #[.pointer (some ⟨b,0,none⟩),.int .u8 c] w fun e w'=>e=.returned .nilIface∧Step2 w w' b r∧∃r',Bld w' B b r' (l++[x])∧J7 w r r':=by
 obtain⟨i0,hi,fJ,eU,fD⟩:=info_parts infoByte;have Ke:=h.1;have Ot:=h.lt;have Xk:r≠some b:=by obtain⟨_,_,_,_,_,_,_,h5,_⟩:=h;exact h5
 have C:=Ht B b r l w h;have aF:some b≠r:=fun e=>Xk e.symm
 have HC:=Hd C;have HN:=Hd Xk;have HX:=Hd hc;clear C Xk aF hc h;go_enter Tryz.func94,Tryz.ntmps94;go_wp2_with (go_at_call 141;refine HC.out.mono ?_);rintro e w1 ⟨rfl,dN,v,gK,aQ,y8⟩;have c0:w1.cell? ⟨b,0,none⟩=some (.pointer (some ⟨b,0,none⟩)):=by simp[World.cell?,gK]
 have c1:w1.cell? ⟨b,1,none⟩=some v:=by simp[World.cell?,gK]
 have l9:=dN.size;have su:=Hd dN;have Qy:=Hd y8;have KU:=Hd gK;clear dN y8 gK;go_wp2_with (at_builtin;refine UD w1 (by rfl) _ _ 147 (by rfl) B 5 _ i0 Tryz.underlying147 hi fJ eU fD v l.length (jR l) (by rfl) aQ c (by rfl) ?c4 ?c5 ?_)
 case c4=>omega
 case c5=>omega
 intro v' w2 yj rJ qg;have Xl:b<w1.heap.size:=by omega
 have Ik:v.ownBlock≠some b:=by rw[Qy.out];exact HN.out
 have aO:w2.heap[b]?=some (.cells #[.pointer (some ⟨b,0,none⟩),v] 179 (0,0)):=by
  rw[rJ.block b Xl (fun e=>Ik e.symm)];exact KU.out
 have d1:w2.cell? ⟨b,1,none⟩=some v:=by simp[World.cell?,aO]
 have f1:w2.frozen? ⟨b,1,none⟩=false:=by simp[World.frozen?,aO]
 have Dn:v'.ownBlock≠some b:=by
  rcases qg with qg|⟨g,hg,AA⟩
  ·rw[qg];exact Ik
  ·rw[hg];intro e;simp at e;omega
 obtain⟨ao,n',cap,rfl⟩:∃ao n' cap,v'=.slice ao n' cap:=by
  rcases yj.2 with ⟨hv,_⟩|⟨g,cap,cur,fz,hv,_⟩
  ·exact⟨_,_,_,hv⟩
  ·exact⟨_,_,_,hv⟩
 have ZP:=Hd yj;have HG:=Hd rJ;have Kg:=Hd qg;have eG:=Hd aO;have HV:=Hd Dn;clear yj rJ qg aO Dn Ik aQ;go_wp2;go_ret;refine⟨rfl,su.out.append HG.out Qy.out,_,Bld.put (w1:=w1) (l:=l) (r:=r) Ke eG.out ?_ HV.out (fun e=>by simp at e),?_⟩
 ·rw[List.length_append,uF]
  have:=ZP.out;rw[HX.out] at this;exact this
 ·rcases Kg.out with e|⟨g,e1,e2⟩
  ·exact Or.inl (e.trans Qy.out)
  ·exact Or.inr ⟨g,e1,by omega⟩
theorem iM(B b:Nat)(r:Option Nat)(l s:Bytes)(w:World)(h:Bld w B b r l)(aD:l.length+s.length≤140737488355328)(hB:B≤w.heap.size):
  Calls Tryz.prog 118 #[.pointer (some ⟨b,0,none⟩),.string ⟨s.toArray⟩] w fun e w'=>e=.returned (.tuple #[.int .i64 s.length,.nilIface])∧Step2 w w' b r∧∃r',Bld w' B b r' (l++s)∧J7 w r r':=by
 obtain⟨i0,hi,fJ,eU,fD⟩:=info_parts infoByte;have Ke:=h.1;have Ot:=h.lt;have Xk:r≠some b:=by obtain⟨_,_,_,_,_,_,_,h5,_⟩:=h;exact h5
 have vU:l=[]→r=none:=by obtain⟨_,_,_,_,_,_,_,_,h6⟩:=h;exact h6
 have uE:=Hd vU;clear vU;have C:=Ht B b r l w h;have HC:=Hd C;have HN:=Hd Xk;clear C Xk h;go_enter Tryz.func118,Tryz.ntmps118;go_wp2_with (go_at_call 141;refine HC.out.mono ?_);rintro e w1 ⟨rfl,dN,v,gK,aQ,y8⟩;have c0:w1.cell? ⟨b,0,none⟩=some (.pointer (some ⟨b,0,none⟩)):=by simp[World.cell?,gK]
 have c1:w1.cell? ⟨b,1,none⟩=some v:=by simp[World.cell?,gK]
 have l9:=dN.size;have Jz:({ data:=s.toArray }:ByteArray).size=s.length:=by simp[ByteArray.size]
 have AL:=Hd Jz;have su:=Hd dN;have Qy:=Hd y8;have KU:=Hd gK;clear dN y8 gK Jz;go_wp2_with (at_builtin;refine VT w1 (by rfl) _ _ 147 9 (by rfl) B 5 i0 Tryz.underlying147 Tryz.underlying9 hi fJ eU fD v l.length (jR l) (by rfl) aQ ⟨s.toArray⟩ (by rfl) ?c4 ?c5 ?_)
 case c4=>rw[AL.out];omega
 case c5=>omega
 intro v' w2 yj rJ qg Qz;have amf:l++s=[]→v'.ownBlock=none:=fun e=>by
  have hl:l=[]:=by cases l with|nil=>rfl|cons a l=>simp at e
  have hs:s=[]:=by subst hl;simpa using e
  have pG:v=.slice none 0 0:=by
   rcases aQ.2 with ⟨hv,_⟩|⟨g,cap,cur,fz,hv,_⟩
   ·exact hv
   ·exfalso;have:=Qy.out;rw[uE.out hl,hv] at this;cases this
  rw[Qz.2 ⟨pG,hs⟩];rfl
 have Vb:=Hd amf;clear amf Qz;have Xl:b<w1.heap.size:=by omega
 have Ik:v.ownBlock≠some b:=by rw[Qy.out];exact HN.out
 have aO:w2.heap[b]?=some (.cells #[.pointer (some ⟨b,0,none⟩),v] 179 (0,0)):=by
  rw[rJ.block b Xl (fun e=>Ik e.symm)];exact KU.out
 have d1:w2.cell? ⟨b,1,none⟩=some v:=by simp[World.cell?,aO]
 have f1:w2.frozen? ⟨b,1,none⟩=false:=by simp[World.frozen?,aO]
 have Dn:v'.ownBlock≠some b:=by
  rcases qg with qg|⟨g,hg,AA⟩
  ·rw[qg];exact Ik
  ·rw[hg];intro e;simp at e;omega
 obtain⟨ao,n',cap,rfl⟩:∃ao n' cap,v'=.slice ao n' cap:=by
  rcases yj.2 with ⟨hv,_⟩|⟨g,cap,cur,fz,hv,_⟩
  ·exact⟨_,_,_,hv⟩
  ·exact⟨_,_,_,hv⟩
 have ZP:=Hd yj;have HG:=Hd rJ;have Kg:=Hd qg;have eG:=Hd aO;have HV:=Hd Dn;clear yj rJ qg aO Dn Ik aQ;go_wp2;go_ret2;refine⟨rfl,su.out.append HG.out Qy.out,_,Bld.put (w1:=w1) (l:=l) (r:=r) Ke eG.out ?_ HV.out Vb.out,?_⟩
 ·rw[List.length_append,uF]
  have:=ZP.out;rw[MF] at this;exact this
 ·rcases Kg.out with e|⟨g,e1,e2⟩
  ·exact Or.inl (e.trans Qy.out)
  ·exact Or.inr ⟨g,e1,by omega⟩
theorem cellsByte:Tryz.prog.cellsOf 5=1:=by kernel_rfl
theorem Po(w:World)(g n k:Nat)(h:k≠g):(w.freeze ⟨g,0,none⟩ n).heap[k]?=w.heap[k]?:=by
 unfold World.freeze;split
 ·rfl
 ·simp only[Array.getElem?_modify]
  rw[if_neg (by omega)]
theorem aeH(w:World)(g n:Nat):(w.freeze ⟨g,0,none⟩ n).heap.size=w.heap.size:=by
 unfold World.freeze;split
 ·rfl
 ·simp
theorem aeI(w:World)(g n:Nat):(w.freeze ⟨g,0,none⟩ n).os=w.os∧(w.freeze ⟨g,0,none⟩ n).tape=w.tape∧(w.freeze ⟨g,0,none⟩ n).output=w.output:=by
 unfold World.freeze;split<;>exact⟨rfl,rfl,rfl⟩
theorem FX(B b:Nat)(r:Option Nat)(l:Bytes)(w:World)(h:Bld w B b r l)(h0:l≠[]):
  Calls Tryz.prog 98 #[.pointer (some ⟨b,0,none⟩)] w fun e w'=>e=.returned (.string ⟨l.toArray⟩)∧Step2 w w' b r∧Bld w' B b r l:=by
 obtain⟨hB,p,v,gK,hp,aQ,y8,aF,vU⟩:=h;have Xm:l.length≠0:=by simpa using h0
 obtain⟨g,cap,cur,fz,rfl,zS,hg,Ch,Ud,KT,tN,SG⟩:∃g cap cur fz,v=.slice (some ⟨g,0,none⟩) l.length cap∧B≤g∧w.heap[g]?=some (.cells cur 5 fz)∧fz.2≤l.length*1∧l.length≤cap∧cap≤maxLen∧cur.size=cap*1∧cur.toList.take (l.length*1)=jR l:=by
  rcases aQ.2 with ⟨_,hz⟩|⟨g,cap,cur,fz,hv,rest⟩
  ·exact absurd hz Xm
  ·exact⟨g,cap,cur,fz,hv,rest⟩
 have hrg:r=some g:=y8.symm;have Cq:g≠b:=by rintro rfl;exact aF hrg
 have c1:w.drew.cell? ⟨b,1,none⟩=some (.slice (some ⟨g,0,none⟩) l.length cap):=by
  have:w.drew.heap[b]?=some (.cells #[p,.slice (some ⟨g,0,none⟩) l.length cap] 179 (0,0)):=gK;simp[World.cell?,this]
 have hSD:(Builtin.unsafeSliceData_ #[147] 235 #[.slice (some ⟨g,0,none⟩) l.length cap]).run Tryz.prog w.drew=.ok (.pointer (some ⟨g,0,none⟩)) w.drew :=
  Lib.run_unsafeSliceData_row _ _ _ _ _ _ (by omega)
 have hUS:(Builtin.unsafeString_ #[235,3] 9 #[.pointer (some ⟨g,0,none⟩),.int .i64 l.length]).run Tryz.prog w.drew=.ok (.string ⟨l.toArray⟩) (w.drew.freeze ⟨g,0,none⟩ l.length):=by
  refine Lib.run_unsafeString_row w.drew 235 3 9 5 Tryz.underlying235 cellsByte g cur.size (by have uL:w.drew.heap[g]?=some (.cells cur 5 fz):=hg;simp[World.shape?,uL]) l h0 (by omega) (by unfold maxLen at KT;omega) ?_
  intro j x hx;have:=aQ.cells (g:=g) rfl j (.int .u8 x.toNat) (by simp[jR,Lib.byteCells,hx])
  exact this
 have hA:Lib.BuilderAtF 179 5 B b p (Lib.byteCells l) w.drew:=⟨hB,_,gK,by rw[Lib.byteCells_length];exact aQ,by rw[y8];exact aF⟩
 have hF:=hA.froze (g:=g) (cap:=cap) (by rw[Lib.byteCells_length];exact c1)
 rw[Lib.byteCells_length] at hF;have IY:Bld (w.drew.freeze ⟨g,0,none⟩ l.length) B b r l:=by
  obtain⟨k1,v2,k2,k3,k4⟩:=hF;have e2:(w.drew.freeze ⟨g,0,none⟩ l.length).heap[b]?=some (.cells #[p,.slice (some ⟨g,0,none⟩) l.length cap] 179 (0,0)):=by
   rw[Po _ _ _ _ (fun e=>Cq e.symm)];exact gK
  rw[e2] at k2;simp only[Option.some.injEq,Obj.cells.injEq] at k2;have e3:v2=.slice (some ⟨g,0,none⟩) l.length cap:=by have:=k2.1;simp at this;exact this.symm
  subst e3;rw[Lib.byteCells_length] at k3;exact⟨hB,p,_,e2,hp,k3,y8,aF,vU⟩
 have bV:Step2 w (w.drew.freeze ⟨g,0,none⟩ l.length) b r:=by
  obtain⟨f1,f2,f3⟩:=aeI w.drew g l.length;exact⟨f1,f2,f3,by rw[aeH];exact Nat.le_refl _,fun k hk Ih tT=>by rw[Po _ _ _ _ (fun e=>tT (by rw[hrg,e]))];rfl⟩
 have HK:=Hd IY;have bJ:=Hd bV;clear IY bV hF hA aF hrg Cq y8 vU;go_enter Tryz.func98,Tryz.ntmps98;go_wp2;go_region;all_goals (go_wp2;go_ret;exact⟨rfl,bJ.out,HK.out⟩)
theorem VU(B b:Nat)(r:Option Nat)(w:World)(h:Bld w B b r []):
  Calls Tryz.prog 98 #[.pointer (some ⟨b,0,none⟩)] w fun e w'=>e=.returned (.string ⟨([]:Bytes).toArray⟩)∧Q w w':=by
 obtain⟨hB,p,v,gK,hp,aQ,y8,aF,vU⟩:=h;have pG:v=.slice none 0 0:=by
  rcases aQ.2 with ⟨hv,_⟩|⟨g,cap,cur,fz,hv,_⟩
  ·exact hv
  ·exfalso;rw[vU rfl,hv] at y8;cases y8
 subst pG;have c1:w.drew.cell? ⟨b,1,none⟩=some (.slice none 0 0):=by
  have:w.drew.heap[b]?=some (.cells #[p,.slice none 0 0] 179 (0,0)):=gK;simp[World.cell?,this]
 have hSD:(Builtin.unsafeSliceData_ #[147] 235 #[.slice none 0 0]).run Tryz.prog w.drew=.ok (.pointer none) w.drew:=rfl;have hUS:(Builtin.unsafeString_ #[235,3] 9 #[.pointer none,.int .i64 0]).run Tryz.prog w.drew=.ok (.string ⟨#[]⟩) w.drew:=by kernel_rfl
 clear aQ vU y8 aF;go_enter Tryz.func98,Tryz.ntmps98;go_wp2;go_region;all_goals (go_wp2;go_ret;exact⟨rfl,Q.drew _⟩)
theorem NW(B b:Nat)(r:Option Nat)(l:Bytes)(w:World)(h:Bld w B b r l)(hB:B≤w.heap.size):
  Calls Tryz.prog 98 #[.pointer (some ⟨b,0,none⟩)] w fun e w'=>e=.returned (.string ⟨l.toArray⟩)∧Below B w w':=by
 cases l with
 | nil=>exact(VU B b r w h).mono fun e w' ⟨h1,h2⟩=>⟨h1,Below.mono h2 hB⟩
 | cons x l=>exact(FX B b r (x::l) w h (by simp)).mono fun e w' ⟨h1,h2,_⟩=>⟨h1,h.below h2 hB⟩
theorem abt(s:Bytes):Lib.decodeGo ⟨s.toArray⟩=if s=[] then(65533,0) else Lib.decodeN s.length (s.getD 0 0).toNat (s.getD 1 0).toNat (s.getD 2 0).toNat (s.getD 3 0).toNat:=by
 unfold Lib.decodeGo;by_cases h:s=[]
 ·subst h;rfl
 ·have hs:({ data:=s.toArray }:ByteArray).size≠0:=by
   show s.toArray.size≠0;simpa using h
  rw[if_neg hs,if_neg h];exact Lib.decodeL_N s
theorem UE{k j:IntKind}{x y u v:Int}(h1:x=u)(h2:y=v):Ending.returned (.tuple #[.int k x,.int j y])=.returned (.tuple #[.int k u,.int j v]):=by rw[h1,h2]
theorem Rune_any(s:Bytes)(w:World)(hs:s≠[])(hT:Tabs w):
  Calls Tryz.prog 140 #[.string ⟨s.toArray⟩] w fun e w'=>e=.returned (.tuple #[.int .i64 (aP s).1,.int .i64 (aP s).2])∧Q w w':=by
 have c:=Tryz.utf8_DecodeRuneInString ⟨s.toArray⟩ w hT;have hd:=O8 s.length (s.getD 0 0).toNat (s.getD 1 0).toNat (s.getD 2 0).toNat (s.getD 3 0).toNat (List.length_pos_iff.2 hs);have he:aP s=if (Lib.decodeGo ⟨s.toArray⟩).1=65533∧(Lib.decodeGo ⟨s.toArray⟩).2<3 then(-1,(Lib.decodeGo ⟨s.toArray⟩).2) else(((Lib.decodeGo ⟨s.toArray⟩).1:Int),(Lib.decodeGo ⟨s.toArray⟩).2):=by
  rw[abt,if_neg hs];cases s with
  | nil=>exact absurd rfl hs
  | cons b s=>rfl
 have hb:(Lib.decodeGo ⟨s.toArray⟩).1≤1114111∧(Lib.decodeGo ⟨s.toArray⟩).2≤4:=by
  rw[abt,if_neg hs];exact Ac _ _ _ _ _
 generalize Lib.decodeGo ⟨s.toArray⟩=d at *;obtain⟨r,n⟩:=d;simp only at he hb c;obtain⟨dS,aO⟩:=hb;clear hd hT;by_cases h1:r=65533
 ·by_cases h2:n<3
  ·rw[if_pos ⟨h1,h2⟩] at he
   have e1:(aP s).1 = -1:=by rw[he]
   have e2:(aP s).2=n:=by rw[he]
   have E1:=Hd e1;have E2:=Hd e2;have C:=Hd c;clear he e1 e2 c;subst h1;have hd:decide ((n:Int)<3)=true:=decide_eq_true (by omega)
   go_enter Tryz.func140,Tryz.ntmps140;go_wp2_with fail;refine C.out.mono ?_;rintro e w1 ⟨rfl,q1⟩;go_wp2_with fail;go_ret2;exact⟨UE E1.out.symm (by rw[E2.out]),q1⟩
  ·rw[if_neg (fun h=>h2 h.2)] at he
   have e1:(aP s).1=r:=by rw[he]
   have e2:(aP s).2=n:=by rw[he]
   have E1:=Hd e1;have E2:=Hd e2;have C:=Hd c;clear he e1 e2 c;subst h1;have hd:decide ((n:Int)<3)=false:=decide_eq_false (by omega)
   go_enter Tryz.func140,Tryz.ntmps140;go_wp2_with fail;refine C.out.mono ?_;rintro e w1 ⟨rfl,q1⟩;go_wp2_with fail;go_ret2;exact⟨UE E1.out.symm (by rw[E2.out]),q1⟩
 ·rw[if_neg (fun h=>h1 h.1)] at he
  have e1:(aP s).1=r:=by rw[he]
  have e2:(aP s).2=n:=by rw[he]
  have E1:=Hd e1;have E2:=Hd e2;have C:=Hd c;clear he e1 e2 c;have lK:((r:Int)==65533)=false:=by simp;omega
  go_enter Tryz.func140,Tryz.ntmps140;go_wp2_with fail;refine C.out.mono ?_;rintro e w1 ⟨rfl,q1⟩;go_wp2_with fail;go_ret2;exact⟨UE E1.out.symm (by rw[E2.out]),q1⟩
theorem ag1(r:Int)(w:World)(h1 : -9223372036854775808≤r)(h2:r≤9223372036854775807):
  Calls Tryz.prog 96 #[.int .i64 r] w fun e w'=>e=.returned (.int .i32 (kL r))∧w=w':=by
 by_cases hn:r<0
 ·have he:kL r=65533:=by unfold kL;rw[if_pos (.inl hn)]
  have HE:=Hd he;clear he;go_enter Tryz.func96,Tryz.ntmps96;go_wp2_with fail;go_ret;exact⟨gV HE.out.symm,rfl⟩
 ·by_cases hx:1114111<r
  ·have he:kL r=65533:=by unfold kL;rw[if_pos (.inr (.inl hx))]
   have HE:=Hd he;clear he;go_enter Tryz.func96,Tryz.ntmps96;go_wp2_with fail;go_ret;exact⟨gV HE.out.symm,rfl⟩
  ·have c:=Tryz.utf8_ValidRune r w
   cases hv:Lib.validRune r with
   | false =>
    have he:kL r=65533:=by unfold kL;rw[if_pos (.inr (.inr hv))]
    rw[hv] at c;have HE:=Hd he;have C:=Hd c;clear he c hv;go_enter Tryz.func96,Tryz.ntmps96;go_wp2_with fail;refine C.out.mono ?_;rintro e w1 ⟨rfl,rfl⟩;go_wp2_with fail;go_ret;exact⟨gV HE.out.symm,rfl⟩
   | true =>
    have he:kL r=r:=by unfold kL;rw[if_neg (by rw[hv];simp;omega)]
    rw[hv] at c;have HE:=Hd he;have C:=Hd c;clear he c hv;go_enter Tryz.func96,Tryz.ntmps96;go_wp2_with fail;refine C.out.mono ?_;rintro e w1 ⟨rfl,rfl⟩;go_wp2_with fail;go_ret;exact⟨gV HE.out.symm,rfl⟩
def RuneP(B b:Nat)(r:Option Nat)(l:Bytes)(w:World)(e:Ending)(w':World):Prop :=
 (∃n,e=.returned (.tuple #[.int .i64 n,.nilIface]))∧Step2 w w' b r∧∃r',Bld w' B b r' l
theorem aax(B b:Nat)(r:Option Nat)(l:Bytes)(x:Int)(w:World)(h:Bld w B b r l)(Ql : -2147483648≤x)(rC:x≤2147483647)(aD:l.length+4≤140737488355328)(hB:B≤w.heap.size):
  Calls Tryz.prog 95 #[.pointer (some ⟨b,0,none⟩),.int .i32 x] w (RuneP B b r (l++Lib.encodeRune x) w):=by
 have Ke:=h.1;have Ot:=h.lt;have Xk:r≠some b:=by obtain⟨_,_,_,_,_,_,_,h5,_⟩:=h;exact h5
 have C:=Ht B b r l w h;have HC:=Hd C;have HN:=Hd Xk;clear C Xk h;go_enter Tryz.func95,Tryz.ntmps95;go_wp2_with fail;refine HC.out.mono ?_;rintro e w1 ⟨rfl,dN,v,gK,aQ,y8⟩;have c0:w1.cell? ⟨b,0,none⟩=some (.pointer (some ⟨b,0,none⟩)):=by simp[World.cell?,gK]
 have c1:w1.cell? ⟨b,1,none⟩=some v:=by simp[World.cell?,gK]
 have l9:=dN.size;have c2:=Tryz.utf8_AppendRune_row B v l.length (jR l) x Ql rC w1 aQ aD (by omega)
 obtain⟨ao,n',cap,rfl⟩:∃ao n' cap,v=.slice ao n' cap:=by
  rcases aQ.2 with ⟨hv,_⟩|⟨g,cap,cur,fz,hv,_⟩
  ·exact⟨_,_,_,hv⟩
  ·exact⟨_,_,_,hv⟩
 have su:=Hd dN;have Qy:=Hd y8;have KU:=Hd gK;have C2:=Hd c2;have axO:=Hd aQ;clear dN y8 gK c2 aQ;go_wp2_with fail;refine C2.out.mono ?_;rintro e w2 ⟨v',rfl,yj,o,rJ⟩;have oO:w1.grownBy w2 (Value.slice ao n' cap).ownBlock:=⟨rJ.os,rJ.tape,rJ.output,by have:=rJ.size;simp at this;omega,fun k hk aF=>(rJ.block k (by simp;omega) aF).trans (Below.heap_alloc _ _ _ hk)⟩
 have Xl:b<w1.heap.size:=by omega
 have Ik:(Value.slice ao n' cap).ownBlock≠some b:=by rw[Qy.out];exact HN.out
 have aO:w2.heap[b]?=some (.cells #[.pointer (some ⟨b,0,none⟩),.slice ao n' cap] 179 (0,0)):=by
  rw[oO.block b Xl (fun e=>Ik e.symm)];exact KU.out
 have d1:w2.cell? ⟨b,1,none⟩=some (.slice ao n' cap):=by simp[World.cell?,aO]
 have f1:w2.frozen? ⟨b,1,none⟩=false:=by simp[World.frozen?,aO]
 have Dn:v'.ownBlock≠some b:=by
  rcases yj.2 with ⟨hv,_⟩|⟨g,cp,cur,fz,hv,_,hg,_⟩
  ·rw[hv];simp[Value.ownBlock]
  ·rw[hv]
   intro e;simp only[Value.ownBlock,Option.some.injEq] at e;subst e;rw[aO] at hg;cases hg
 obtain⟨ao2,n2,cap2,rfl⟩:∃ao n' cap,v'=.slice ao n' cap:=by
  rcases yj.2 with ⟨hv,_⟩|⟨g,cap,cur,fz,hv,_⟩
  ·exact⟨_,_,_,hv⟩
  ·exact⟨_,_,_,hv⟩
 have ZP:=Hd yj;have HG:=Hd oO;have eG:=Hd aO;have HV:=Hd Dn;clear yj rJ oO aO Dn Ik;go_wp2_with fail;go_ret2;refine⟨⟨_,rfl⟩,su.out.append HG.out Qy.out,_,Bld.put (w1:=w1) (l:=l) (r:=r) Ke eG.out ?_ HV.out (fun e=>?_)⟩
 ·rw[List.length_append,uF,←Lib.runeCells_length]
  have e:jR (Lib.encodeRune x)=Lib.runeCells x:=Lib.byteCells_encodeRune x;rw[e];exact ZP.out
 ·have h1:=(Lib.runeCells_le x).1
  rw[Lib.runeCells_length] at h1;have:=congrArg List.length e;rw[List.length_append,List.length_nil] at this;omega
end
section
open Go.RowKit
attribute [local go_sem] Oper.semAt_some
def mV:Nat→List (Int×Bytes)→List (Nat×Int)
 | _,[]=>[]
 | p,c::cs=>(p,c.1)::mV (p+c.2.length) cs
abbrev dD(s:Bytes):List (Nat×Int):=mV 0 (chunks s)
abbrev MG(x:Nat×Int):Array Value:=#[.int .i64 x.1,.int .i64 x.2]
theorem YV(s:Bytes)(w:World):
  Calls Tryz.prog 93 #[.string ⟨s.toArray⟩] w fun e w'=>e=.returned (.func (.func 139) #[] #[.pointer (some ⟨w.heap.size,0,none⟩)])∧w.alloc (.cells #[ak s] 9)=w':=by
 go_enter Tryz.func93,Tryz.ntmps93;go_wp2_with fail;go_ret;exact⟨rfl,rfl⟩
theorem wO(p:Nat)(cs:List (Int×Bytes)):(mV p cs).length=cs.length:=by
 induction cs generalizing p with
 | nil=>rfl
 | cons c cs ih=>simp[mV,ih]
theorem Tv(s:Bytes)(p:Nat)(hp:p<s.length):
  (aP (s.drop p)).2=(Utf8.decode ⟨s.toArray⟩ p).2∧((Utf8.decode ⟨s.toArray⟩ p).1≠65533→(aP (s.drop p)).1=(Utf8.decode ⟨s.toArray⟩ p).1)∧(Utf8.decode ⟨s.toArray⟩ p).1≤1114111:=by
 have aF:s.drop p≠[]:=fun h=>by have:=congrArg List.length h;rw[List.length_drop] at this;simp at this;omega
 have hd:Utf8.decode ⟨s.toArray⟩ p=Lib.decodeN (s.drop p).length ((s.drop p).getD 0 0).toNat ((s.drop p).getD 1 0).toNat ((s.drop p).getD 2 0).toNat ((s.drop p).getD 3 0).toNat:=by
  rw[Lib.decode_at];have hg:∀i,(ByteArray.mk s.toArray).get! (p+i)=(s.drop p).getD i 0:=by
   intro i;rw[List.getD_eq_getElem?_getD,List.getElem?_drop];show s.toArray[p+i]! = _;simp[getElem!_def];cases s[p+i]?<;>rfl
  have h0:=hg 0;rw[Nat.add_zero] at h0;rw[h0,hg 1,hg 2,hg 3];congr 1;show s.toArray.size-p=_;rw[List.length_drop];simp
 rw[hd];refine and_assoc.1 ⟨?_,(Ac _ _ _ _ _).1⟩;cases hs:s.drop p with
 | nil=>exact absurd hs aF
 | cons b t =>
  unfold aP;simp only[];split
  ·rename_i h;exact⟨rfl,fun h2=>absurd h.1 h2⟩
  ·exact⟨rfl,fun _=>rfl⟩
theorem aB{w w':World}(hb:Q w w'){k:Nat}{o:Obj}(h:w.heap[k]?=some o):w'.heap[k]?=some o:=(hb.block k (Array.getElem?_eq_some_iff.1 h).1).trans h
theorem YW(s:Bytes)(B n₀:Nat)(W:World)(hs:s.length≤9223372036854775807)(hb:Boxed W B 9 (ak s))(hn:n₀≤W.heap.size)(Kh:∀W',Below n₀ W W'→Tabs W'):
  Seq Tryz.prog 139 #[.pointer (some ⟨B,0,none⟩)] MG (fun _=>False) (fun k=>k=B) n₀ (dD s) W:=by
 intro n l J Jx hJ Ug hY h0;refine callsIn_of_wp Tryz.func139 rfl trivial ?_ rfl;simp only[Tryz.ntmps139,List.size_toArray,List.length_cons,List.length_nil,Nat.reduceAdd,Nat.reduceSub,Array.replicate_succ,Array.replicate_zero,List.push_toArray,List.append_toArray,List.nil_append,List.cons_append];have hc:=hb.cell;have iR:Q W (W.alloc (.stringIter ⟨s.toArray⟩ 0)):=Q.alloc _ _;have H0:=Hd h0;have jk:=Hd iR;have gM:=Hd Kh;have pI:=Hd hb;have HYH:=Hd hY;have as4:=hb.lt;clear h0 iR Kh hb hY;gi_wp2;gi_loopw [3] (fun _ wr=>∃(k pos:Nat),pos≤s.length∧k≤(dD s).length∧Hid (wr.heap[W.heap.size]?=some (.stringIter ⟨s.toArray⟩ pos))∧Hid (Below n₀ W wr)∧Hid (Boxed wr B 9 (ak s))∧Hid (J k wr)∧Hid ((dD s).drop k=mV pos (chunks (s.drop pos)))) (fun _ wr=>s.length-wr.iterPos W.heap.size)
 case atStart =>
  exact⟨0,0,by omega,by omega,World.alloc_heap_new _ _,Below.mono jk.out hn,pI.out.alloc _,hJ _ _ _ H0.out (Itk.of_q jk.out),by show _=_;simp[dD]⟩
 case round =>
  obtain⟨k,pos,hp,axP,HI,HB,Ej,HJ,HD⟩:=hrel;obtain⟨wo,rfl⟩:∃wo:World,wo=wr:=⟨_,rfl⟩;by_cases hlt:pos<s.length
  ·have aF:s.drop pos≠[]:=fun h=>by have:=congrArg List.length h;rw[List.length_drop] at this;simp at this;omega
   have tN:=kK (s.drop pos) aF;have aY:=lV (s.drop pos) aF;rw[List.length_drop] at aY;obtain⟨d1,d2,d3⟩:=Tv s pos hlt;have hx:=HD.out;rw[tN,mV,List.length_take,List.length_drop,Nat.min_eq_left (by omega),List.drop_drop] at hx
   have xH:k<(dD s).length:=by
    rcases Nat.lt_or_ge k (dD s).length with h|h
    ·exact h
    ·rw[List.drop_eq_nil_of_le h] at hx;cases hx
   rw[List.drop_eq_getElem_cons xH] at hx;injection hx with rC qE;have kR:∀ty,(Instr.next (.pointer (some ⟨W.heap.size,0,none⟩)) true ty).run Tryz.prog wo=_:=fun ty=>Lib.run_next_any_at wo W.heap.size ⟨s.toArray⟩ pos ty HI.out hlt
   have hR:=Rune_any (s.drop pos);rw[d1] at aY qE;simp only[] at rC;generalize (aP (s.drop pos)).1=R at *;generalize (aP (s.drop pos)).2=N0 at *;generalize anR:Utf8.decode ⟨s.toArray⟩ pos=dc at *;obtain⟨c,N⟩:=dc;simp only[] at d1 d2 d3 aY qE kR;subst d1;have HX:=Hd rC;have HD2:=Hd qE;have Ca:=Hd hR;have Cr:=Hd d2;have axQ:=Hd anR;have QD:=Hd tN;have uZ:=Hd aF;have hjw:J k (wo.iterAt W.heap.size ⟨s.toArray⟩ (pos+N0)):=hJ _ _ _ HJ.out (Itk.iterAt _ HI.out (Nat.le_refl _));have hiw:=Lib.iterAt_heap wo W.heap.size ⟨s.toArray⟩ pos (pos+N0) HI.out;have GH:Below n₀ W (wo.iterAt W.heap.size ⟨s.toArray⟩ (pos+N0)):=Lib.below_iterAt HB.out hn _ _;have zk:Boxed (wo.iterAt W.heap.size ⟨s.toArray⟩ (pos+N0)) B 9 (ak s):=(Lib.iterAt_other _ _ _ _ _ (by omega)).trans Ej.out
   have hcw:=zk.cell;have aiQ:=Hd zk;have HJW:=Hd hjw;have HIW:=Hd hiw;have Et:=Hd GH;clear rC qE hR d2 anR tN hjw hiw GH aF zk;generalize wo.iterAt W.heap.size ⟨s.toArray⟩ (pos+N0)=wi at *;by_cases hc5:c=65533
   ·subst hc5
    have hTi:Tabs wi:=gM.out _ Et.out;have HTI:=Hd hTi;clear hTi;gi_wp2;rw[iV];refine⟨trivial,fun h=>(by cases h),(callsIn_wide.2 (Ca.out wi uZ.out HTI.out)).mono ?_⟩
    rintro e w2 ⟨rfl,q2⟩;have ER:J k w2:=hJ _ _ _ HJW.out (Itk.of_q q2);have mD:=aB q2 HIW.out;have aO:Below n₀ W w2:=Et.out.trans (Below.mono q2 (by have:=Et.out.size;omega))
    have ala:=Hd (aB q2 aiQ.out);have HJ2:=Hd ER;have HI2:=Hd mD;have eG:=Hd aO;clear ER mD aO q2;obtain⟨fn,tmps,assign,body,hy,hR⟩:=HYH.out k xH w2 HJ2.out (fun b h=>by rw[h];exact aU ala.out)
    rw[HX.out] at hy;dsimp only[MG] at hy;have HYY:=Hd hR;clear hR;gi_wp2;refine⟨fun h=>(by cases h),(HYY.out _).mono ?_⟩
    rintro e W3 (⟨rfl,Kj,jO⟩|⟨rfl,ac4,_⟩)
    ·have rZ:W3.heap[W.heap.size]?=some (.stringIter ⟨s.toArray⟩ (pos+N0)):=jO.walks _ _ HI2.out rfl
     have gZ:Boxed W3 B 9 (ak s):=(jO.own B rfl (aU ala.out)).trans ala.out;have alb:=Hd gZ;clear gZ;have jJ:Below n₀ W W3:=eG.out.trans jO.below;have Kk:=Hd rZ;have iZ:=Hd jJ;have HJ3:=Hd Kj;clear rZ jJ Kj jO;gi_wp2;go_roundw;case rel=>exact⟨k+1,pos+N0,by omega,by omega,Kk,iZ,alb,HJ3,HD2⟩
     case measure=>rw[World.iterPos,Kk.out,World.iterPos,HI.out];simp only[];omega
    ·have QE:=Hd ac4;clear ac4
     gi_wp2;refine bodyPost_ret (results_none rfl _ _ _) rfl ?_;exact⟨⟨_,rfl⟩,.inr ⟨k+1,by omega,QE.out⟩⟩
   ·have hRc:R=(c:Int):=Cr.out hc5
    subst hRc;have Sc:((c:Int)==65533)=false:=by simp;omega
    obtain⟨fn,tmps,assign,body,hy,hR⟩:=HYH.out k xH wi HJW.out (fun b h=>by rw[h];exact aU aiQ.out)
    rw[HX.out] at hy;dsimp only[MG] at hy;have HYY:=Hd hR;clear hR;gi_wp2;refine⟨fun h=>(by cases h),(HYY.out _).mono ?_⟩
    rintro e W3 (⟨rfl,Kj,jO⟩|⟨rfl,ac4,_⟩)
    ·have rZ:W3.heap[W.heap.size]?=some (.stringIter ⟨s.toArray⟩ (pos+N0)):=jO.walks _ _ HIW.out rfl
     have gZ:Boxed W3 B 9 (ak s):=(jO.own B rfl (aU aiQ.out)).trans aiQ.out;have alb:=Hd gZ;clear gZ;have jJ:Below n₀ W W3:=Et.out.trans jO.below;have Kk:=Hd rZ;have iZ:=Hd jJ;have HJ3:=Hd Kj;clear rZ jJ Kj jO;gi_wp2;go_roundw;case rel=>exact⟨k+1,pos+N0,by omega,by omega,Kk,iZ,alb,HJ3,HD2⟩
     case measure=>rw[World.iterPos,Kk.out,World.iterPos,HI.out];simp only[];omega
    ·have QE:=Hd ac4;clear ac4
     gi_wp2;refine bodyPost_ret (results_none rfl _ _ _) rfl ?_;exact⟨⟨_,rfl⟩,.inr ⟨k+1,by omega,QE.out⟩⟩
  ·have kR:∀ty,(Instr.next (.pointer (some ⟨W.heap.size,0,none⟩)) true ty).run Tryz.prog wo=_:=fun ty=>Lib.run_next_end_at wo W.heap.size ⟨s.toArray⟩ pos ty HI.out hlt
   have xH:(dD s).length≤k:=by
    have:=HD.out;rw[List.drop_eq_nil_of_le (show s.length≤pos by omega),Dy,mV] at this
    have:=congrArg List.length this;simp at this;omega
   have jL:k=(dD s).length:=by omega
   have hj:J (dD s).length wo:=by rw[←jL];exact HJ.out
   have HJF:=Hd hj;clear xH jL hj;gi_wp2;go_end0;exact⟨⟨_,rfl⟩,.inl HJF.out⟩
end
section
open Go.RowKit
theorem ag2(lo hi r:Int)(B:Nat)(w:World)(hc:w.cell? ⟨B,0,none⟩=some (.int .i64 r)):
  Calls Tryz.prog 144 #[.int .i64 lo,.int .i64 hi,.pointer (some ⟨B,0,none⟩)] w fun e w'=>e=.returned (.bool (inL r lo hi))∧w=w':=by
 by_cases h1:lo≤r
 ·by_cases h2:r≤hi
  ·go_enter Tryz.func144,Tryz.ntmps144
   go_wp2;go_ret;exact⟨kS (by simp[inL,h1,h2]),rfl⟩
  ·go_enter Tryz.func144,Tryz.ntmps144
   go_wp2;go_ret;exact⟨kS (by simp[inL,h1,h2]),rfl⟩
 ·go_enter Tryz.func144,Tryz.ntmps144
  go_wp2;go_ret;exact⟨kS (by rw[inL,decide_eq_false (by omega)];rfl),rfl⟩
theorem or_one(n:Nat)(h:n<9223372036854775808):bits .or .i64 (n:Int) 1=(n:Int)+1-(n:Int)%2:=by
 have h2:((n ||| 1:Nat):Int)=(n:Int)+1-(n:Int)%2:=by
  have:n ||| 1=n+1-n%2:=by
   apply Nat.eq_of_testBit_eq;intro i;rw[Nat.testBit_or];rcases Nat.mod_two_eq_zero_or_one n with h|h
   ·have e:n+1-n%2=2*(n / 2)+1:=by omega
    rw[e];cases i with
    | zero=>simp[Nat.testBit_zero]
    | succ i =>
     rw[Nat.testBit_succ,Nat.testBit_succ,Nat.testBit_succ];have:(2*(n / 2)+1) / 2=n / 2:=by omega
     rw[this];simp
   ·have e:n+1-n%2=n:=by omega
    rw[e];cases i with
    | zero=>simp[Nat.testBit_zero,h]
    | succ i=>rw[Nat.testBit_succ,Nat.testBit_succ];simp
  rw[this];omega
 rw[←h2];have hx:n ||| 1<2 ^ 63:=Nat.or_lt_two_pow (by omega) (by omega)
 show IntKind.i64.wrap ((BitVec.ofInt 64 (n:Int) ||| BitVec.ofInt 64 (1:Int)).toNat:Int)=_;have e1:(BitVec.ofInt 64 (n:Int)).toNat=n:=by rw[BitVec.ofInt_natCast,BitVec.toNat_ofNat];exact Nat.mod_eq_of_lt (by omega)
 have e2:(BitVec.ofInt 64 (1:Int)).toNat=1:=by decide
 rw[BitVec.toNat_or,e1,e2,IntKind.wrap_i64];omega
theorem and_one'(n:Nat)(h:n<9223372036854775808):bits .and .i64 (n:Int) 1=(n:Int)%2:=by
 have h2:((n &&& 1:Nat):Int)=(n:Int)%2:=by rw[Nat.and_one_is_mod];omega
 rw[←h2];have hx:n &&& 1<2 ^ 63:=Nat.and_lt_two_pow _ (by omega)
 show IntKind.i64.wrap ((BitVec.ofInt 64 (n:Int) &&& BitVec.ofInt 64 (1:Int)).toNat:Int)=_;have e1:(BitVec.ofInt 64 (n:Int)).toNat=n:=by rw[BitVec.ofInt_natCast,BitVec.toNat_ofNat];exact Nat.mod_eq_of_lt (by omega)
 have e2:(BitVec.ofInt 64 (1:Int)).toNat=1:=by decide
 rw[BitVec.toNat_and,e1,e2,IntKind.wrap_i64];omega
theorem Fold_any(n:Nat)(w:World)(h1:n≤1114111):
  Calls Tryz.prog 97 #[.int .i64 n] w fun e w'=>e=.returned (.int .i64 (gI n))∧Q w w':=by
 have c:=fun lo hi=>ag2 lo hi n w.heap.size (w.alloc (.cells #[.int .i64 n] 3)) (by simp only[World.cell?,heap_alloc_new];rfl)
 have C:=Hd c;clear c;have hq:Q w (w.alloc (.cells #[.int .i64 n] 3)):=Q.alloc _ _;have HQ:=Hd hq;clear hq;by_cases as5:n=215
 ·subst as5
  go_enter Tryz.func97,Tryz.ntmps97;go_wp2_with fail;go_ret;exact⟨rfl,HQ.out⟩
 by_cases as6:n=930
 ·subst as6
  go_enter Tryz.func97,Tryz.ntmps97;go_wp2_with fail;go_ret;exact⟨rfl,HQ.out⟩
 have hor:=or_one n (by omega)
 have hand:bits .and .i64 (n:Int) 1=(n:Int)%2:=by rw[and_one' n (by omega)]
 have hw:wrap64 ((n:Int)+(n:Int)%2)=(n:Int)+(n:Int)%2:=IntWalk.wrap64_in _ (by omega)
 have HW:=Hd hw;clear hw;have i215:¬(n:Int)=215:=by omega
 have i930:¬(n:Int)=930:=by omega
 have HX:=Hd i215;have HY:=Hd i930;clear i215 i930;have b215:((n:Int)==215)=false:=by simpa using HX.out
 have b930:((n:Int)==930)=false:=by simpa using HY.out
 go_enter Tryz.func97,Tryz.ntmps97;go_wp2_with fail;refine(C.out 65 90).mono ?_;rintro e w1 ⟨rfl,rfl⟩;cases dS:inL n 65 90 with
 | true =>
  have jT:=Hd dS;clear dS;go_wp2_with fail;go_ret;exact⟨gV (by simp[gI,hand,HW.out,HX.out,HY.out,jT.out]),HQ.out⟩
 | false =>
  have jT:=Hd dS;clear dS;go_wp2_with fail;refine(C.out 192 222).mono ?_;rintro e w1 ⟨rfl,rfl⟩;cases aO:inL n 192 222 with
  | true =>
   have eG:=Hd aO;clear aO;go_wp2_with fail;go_ret;exact⟨gV (by simp[gI,hand,HW.out,HX.out,HY.out,jT.out,eG.out]),HQ.out⟩
  | false =>
  have eG:=Hd aO;clear aO;go_wp2_with fail;refine(C.out 1040 1071).mono ?_;rintro e w1 ⟨rfl,rfl⟩;cases jJ:inL n 1040 1071 with
  | true =>
   have iZ:=Hd jJ;clear jJ;go_wp2_with fail;go_ret;exact⟨gV (by simp[gI,hand,HW.out,HX.out,HY.out,jT.out,eG.out,iZ.out]),HQ.out⟩
  | false =>
   have iZ:=Hd jJ;clear jJ;go_wp2_with fail;refine(C.out 913 937).mono ?_;rintro e w1 ⟨rfl,rfl⟩;cases gZ:inL n 913 937 with
   | true =>
    have lQ:=Hd gZ;clear gZ;go_wp2_with fail;go_ret;exact⟨gV (by simp[gI,hand,HW.out,HX.out,HY.out,jT.out,eG.out,iZ.out,lQ.out]),HQ.out⟩
   | false =>
   have lQ:=Hd gZ;clear gZ;by_cases as7:n=962
   ·subst as7
    go_wp2_with fail;go_ret;exact⟨rfl,HQ.out⟩
   have i962:¬(n:Int)=962:=by omega
   have HZ:=Hd i962;clear i962;have b962:((n:Int)==962)=false:=by simpa using HZ.out
   go_wp2_with fail;refine(C.out 1024 1039).mono ?_;rintro e w1 ⟨rfl,rfl⟩;cases nO:inL n 1024 1039 with
   | true =>
    have lS:=Hd nO;clear nO;go_wp2_with fail;go_ret;exact⟨gV (by simp[gI,hand,HW.out,HX.out,HY.out,jT.out,eG.out,iZ.out,lQ.out,HZ.out,lS.out]),HQ.out⟩
   | false =>
    have lS:=Hd nO;clear nO;go_wp2_with fail;refine(C.out 256 303).mono ?_;rintro e w1 ⟨rfl,rfl⟩;cases zl:inL n 256 303 with
    | true =>
     have vX:=Hd zl;clear zl;go_wp2_with fail;go_ret;exact⟨gV (by simp[gI,hand,HW.out,HX.out,HY.out,jT.out,eG.out,iZ.out,lQ.out,HZ.out,lS.out,vX.out]),HQ.out⟩
    | false =>
    have vX:=Hd zl;clear zl;go_wp2_with fail;refine(C.out 330 375).mono ?_;rintro e w1 ⟨rfl,rfl⟩;cases zn:inL n 330 375 with
    | true =>
     have vY:=Hd zn;clear zn;go_wp2_with fail;go_ret;exact⟨gV (by simp[gI,hand,HW.out,HX.out,HY.out,jT.out,eG.out,iZ.out,lQ.out,HZ.out,lS.out,vX.out,vY.out]),HQ.out⟩
    | false =>
     have vY:=Hd zn;clear zn;go_wp2_with fail;refine(C.out 1120 1153).mono ?_;rintro e w1 ⟨rfl,rfl⟩;cases ZQ:inL n 1120 1153 with
     | true =>
      have OJ:=Hd ZQ;clear ZQ;go_wp2_with fail;go_ret;exact⟨gV (by simp[gI,hand,HW.out,HX.out,HY.out,jT.out,eG.out,iZ.out,lQ.out,HZ.out,lS.out,vX.out,vY.out,OJ.out]),HQ.out⟩
     | false =>
     have OJ:=Hd ZQ;clear ZQ;go_wp2_with fail;refine(C.out 1162 1215).mono ?_;rintro e w1 ⟨rfl,rfl⟩;cases Uh:inL n 1162 1215 with
     | true =>
      have KW:=Hd Uh;clear Uh;go_wp2_with fail;go_ret;exact⟨gV (by simp[gI,hand,HW.out,HX.out,HY.out,jT.out,eG.out,iZ.out,lQ.out,HZ.out,lS.out,vX.out,vY.out,OJ.out,KW.out]),HQ.out⟩
     | false =>
      have KW:=Hd Uh;clear Uh;go_wp2_with fail;refine(C.out 1232 1327).mono ?_;rintro e w1 ⟨rfl,rfl⟩;cases Ve:inL n 1232 1327 with
      | true =>
       have FM:=Hd Ve;clear Ve;go_wp2_with fail;go_ret;exact⟨gV (by simp[gI,hand,HW.out,HX.out,HY.out,jT.out,eG.out,iZ.out,lQ.out,HZ.out,lS.out,vX.out,vY.out,OJ.out,KW.out,FM.out]),HQ.out⟩
      | false =>
      have FM:=Hd Ve;clear Ve;go_wp2_with fail;refine(C.out 313 328).mono ?_;rintro e w1 ⟨rfl,rfl⟩;cases aiR:inL n 313 328 with
      | true =>
       have ac5:=Hd aiR;clear aiR;go_wp2_with fail;go_ret;exact⟨gV (by simp[gI,hand,HW.out,HX.out,HY.out,jT.out,eG.out,iZ.out,lQ.out,HZ.out,lS.out,vX.out,vY.out,OJ.out,KW.out,FM.out,ac5.out]),HQ.out⟩
      | false =>
       have ac5:=Hd aiR;clear aiR;go_wp2_with fail;refine(C.out 377 382).mono ?_;rintro e w1 ⟨rfl,rfl⟩;cases aiS:inL n 377 382 with
       | true =>
        have aiT:=Hd aiS;clear aiS;go_wp2_with fail;go_ret;exact⟨gV (by simp[gI,hand,HW.out,HX.out,HY.out,jT.out,eG.out,iZ.out,lQ.out,HZ.out,lS.out,vX.out,vY.out,OJ.out,KW.out,FM.out,ac5.out,aiT.out]),HQ.out⟩
       | false =>
       have aiT:=Hd aiS;clear aiS;go_wp2_with fail;refine(C.out 1329 1366).mono ?_;rintro e w1 ⟨rfl,rfl⟩;cases aiU:inL n 1329 1366 with
       | true =>
        have alc:=Hd aiU;clear aiU;go_wp2_with fail;go_ret;exact⟨gV (by simp[gI,hand,HW.out,HX.out,HY.out,jT.out,eG.out,iZ.out,lQ.out,HZ.out,lS.out,vX.out,vY.out,OJ.out,KW.out,FM.out,ac5.out,aiT.out,alc.out]),HQ.out⟩
       | false =>
        have alc:=Hd aiU;clear aiU;go_wp2_with fail;go_ret;exact⟨gV (by simp[gI,hand,HW.out,HX.out,HY.out,jT.out,eG.out,iZ.out,lQ.out,HZ.out,lS.out,vX.out,vY.out,OJ.out,KW.out,FM.out,ac5.out,aiT.out,alc.out]),HQ.out⟩
theorem walk_byte(x:Nat):bits .or .u8 ((x:Int)%256) 128=((UInt8.ofNat (x%128+128)).toNat:Int):=by
 have h:=u8_or_nat (x%256) 128 (by omega) (by decide)
 rw[or128] at h;rw[toNat_ofNat _ (by omega)]
 rw[←h];rfl
theorem Ai(v:Value)(ns:List Nat)(w:World)(hv:U64s w v ns)(hn:ns.length≤1000000000000)(h64:∀n∈ns,n<18446744073709551616):
  Calls Tryz.prog 119 #[v] w fun e w'=>e=.returned (.string ⟨(dQ ns).toArray⟩)∧Q w w':=by
 obtain⟨a,cap,rfl,aJ⟩:=hv.value;have HC:=Hd aJ;have H64:=Hd h64;clear aJ hv h64;go_enter Tryz.func119,Tryz.ntmps119;go_wp2_with fail;go_loopw [8,5] (fun i _ wr=>∃k:Nat,k≤ns.length∧i=.int .i64 k∧Hid (∃r,Bld wr w.heap.size w.heap.size r (dQ (ns.take k)))∧Hid (Below w.heap.size w wr)) (fun i _ _=>ns.length-(intOf i).toNat)
 case atStart=>exact⟨0,by omega,rfl,⟨none,Bld.new w _ (Nat.le_refl _)⟩,(Below.refl _ _).alloc (Nat.le_refl _) _⟩
 case round =>
  obtain⟨k,hk,rfl,HB,HW⟩:=hrel;obtain⟨wo,rfl⟩:∃wo:World,wo=wr:=⟨_,rfl⟩;by_cases hlt:k<ns.length
  ·obtain⟨b,off,rfl,hc⟩:=HC.out (by omega)
   have zo:=hc k hlt;have hcw:wo.cell? ⟨b,off+k,none⟩=some (.int .u64 (ns[k]:Nat)):=ah HW.out zo;have aiV:=H64.out _ (List.getElem_mem hlt);have ZR:=agF ns k hlt;have Dp:=zx (ns.take k);have vg:(ns.take k).length≤k:=List.length_take_le _ _;generalize ns[k]=n at *;generalize dQ (ns.take k)=pre at *;have Kl:=Hd ZR;have rM:=Hd hc;clear ZR hc zo;go_wp2_with fail;go_loopw [5] (fun x wr=>∃(y m:Nat),x=.int .u64 y∧y<18446744073709551616∧m≤10∧Hid (0<m∧y<128 ^ m)∧Hid (∃r l,Bld wr w.heap.size w.heap.size r l∧l++jC m y=pre++bI n)∧Hid (Below w.heap.size w wr)) (fun x _=>(intOf x).toNat)
   case atStart =>
    obtain⟨r,hr⟩:=HB.out;exact⟨n,10,rfl,aiV,by omega,⟨by omega,lt64 n aiV⟩,⟨r,pre,hr,rfl⟩,HW⟩
   case round =>
    obtain⟨wo2,rfl⟩:∃wo2:World,wo2=wr:=⟨_,rfl⟩;obtain⟨y,m,rfl,hy,hm,HM,HL,OL⟩:=hrel;obtain⟨r,l,nU,hl⟩:=HL.out;obtain⟨Il,Km⟩:=HM.out;have aD:l.length≤10*k+10:=by
     have e:=congrArg List.length hl;rw[List.length_append,List.length_append] at e;have:=eP n;omega
    have QG:=OL.out;have aY:=QG.size;by_cases yX:128≤y
    ·obtain⟨yI,Ik,Ct⟩:=aa4 m y yX Km
     have rO:=walk_byte y;have c:=Hu w.heap.size w.heap.size r l (UInt8.ofNat (y%128+128)) _ wo2 nU rO (by omega) (by omega)
     have aI:l++jC m y=(l++[UInt8.ofNat (y%128+128)])++jC (m-1) (y / 128):=by rw[Ik];simp
     have C:=Hd c;have bJ:=Hd aI;have HHL:=Hd hl;have Eu:=Hd nU;clear c aI hl nU rO Ik;go_wp2_with fail;refine C.out.mono ?_;rintro e w3 ⟨rfl,kE,r',lF,qg⟩;have eG:=Hd (OL.out.trans (Eu.out.below kE (by omega)))
     have zh:=Hd lF;clear kE lF qg QG;go_wp2_with fail;go_roundw;case rel=>exact⟨y / 128,m-1,by go_num,by omega,by omega,⟨by omega,Ct⟩,⟨r',_,zh.out,by rw[←bJ.out];exact HHL.out⟩,eG⟩
     case measure=>simp[intOf];omega
    ·have Dq:=VD m y Il (by omega)
     have c:=Hu w.heap.size w.heap.size r l (UInt8.ofNat y) (y:Int) wo2 nU (by rw[toNat_ofNat _ (by omega)]) (by omega) (by omega)
     have QH:l++[UInt8.ofNat y]=dQ (ns.take (k+1)):=by rw[Kl.out,←hl,Dq]
     have C:=Hd c;have HE:=Hd QH;have Eu:=Hd nU;clear c QH hl nU Dq;go_wp2_with fail
     ((with_reducible refine C.out.mono ?_);rintro e w3 ⟨rfl,kE,r',lF,qg⟩)
     have eG:=Hd (OL.out.trans (Eu.out.below kE (by omega)))
     have zh:=Hd lF;clear kE lF qg QG;go_wp2_with fail;go_roundw;case rel=>exact⟨k+1,by omega,by go_num,⟨r',by rw[←HE.out];exact zh.out⟩,eG⟩
     case measure=>simp[intOf];omega
  ·have jL:k=ns.length:=by omega
   subst jL;rw[List.take_length] at HB;obtain⟨r,nU⟩:=HB.out;have hW:=HW.out;have aY:=hW.size;have c:=NW w.heap.size w.heap.size r (dQ ns) wo nU (by omega)
   have C:=Hd c;clear c nU hW;go_wp2_with fail;refine C.out.mono ?_;rintro e w3 ⟨rfl,jJ⟩;have iZ:=Hd (HW.out.trans jJ);clear jJ;go_wp2_with fail;go_ret;exact⟨rfl,iZ.out⟩
theorem Bld.q{w w':World}{B b:Nat}{r:Option Nat}{l:Bytes}(h:Bld w B b r l)(hq:Q w w'):Bld w' B b r l :=
 h.stays (hq.block _ h.lt) (fun k hk=>hq.block _ (h.row k hk).2) hq.size
theorem UF(v:Value)(ps:List Bytes)(w:World)(hv:Strs w v ps)(hn:ps.length≤1000)(hp:∀p∈ps,p.length≤100000000000):
  Calls Tryz.prog 120 #[v] w fun e w'=>e=.returned (.string ⟨(jQ ps).toArray⟩)∧Q w w':=by
 obtain⟨a,cap,rfl,aJ⟩:=hv.value;have HC:=Hd aJ;have HP:=Hd hp;clear aJ hv hp;go_enter Tryz.func120,Tryz.ntmps120;go_wp2_with fail;go_loopw [8,5] (fun i _ wr=>∃k:Nat,k≤ps.length∧i=.int .i64 k∧Hid (∃r,Bld wr w.heap.size w.heap.size r (jQ (ps.take k)))∧Hid (Below w.heap.size w wr)) (fun i _ _=>ps.length-(intOf i).toNat)
 case atStart=>exact⟨0,by omega,rfl,⟨none,Bld.new w _ (Nat.le_refl _)⟩,(Below.refl _ _).alloc (Nat.le_refl _) _⟩
 case round =>
  obtain⟨k,hk,rfl,HB,HW⟩:=hrel;obtain⟨wo,rfl⟩:∃wo:World,wo=wr:=⟨_,rfl⟩;by_cases hlt:k<ps.length
  ·obtain⟨b,off,rfl,hc⟩:=HC.out (by omega)
   have zo:=hc k hlt;have hcw:wo.cell? ⟨b,off+k,none⟩=some (.string ⟨ps[k].toArray⟩):=ah HW.out zo;have gQ:=HP.out _ (List.getElem_mem hlt);have ZR:=SI ps k hlt;have Dp:=VE (ps.take k) 100000000000 (fun s hs=>HP.out s (List.mem_of_mem_take hs))
   have vg:(ps.take k).length≤k:=List.length_take_le _ _;have ald:(jQ (ps.take k)).length≤100000000010000:=Nat.le_trans Dp (Nat.le_trans (Nat.mul_le_mul_right _ (show _≤1000 by omega)) (by decide))
   generalize ps[k]=p at *;generalize jQ (ps.take k)=pre at *;clear Dp vg;have as8:=eP p.length;have hW:=HW.out;have aY:=hW.size;obtain⟨r,nU⟩:=HB.out;have cv:=Ai (.slice (some ⟨wo.heap.size,0,none⟩) 1 1) [p.length] (wo.alloc (.cells #[.int .u64 (p.length:Nat)] 144)) (Sl.lit wo #[.int .u64 (p.length:Nat)] 144 1 1 rfl) (by simp) (by intro n hn;simp at hn;omega)
   have Nk:dQ [p.length]=bI p.length:=by simp[dQ]
   rw[Nk] at cv;have Kl:=Hd ZR;have rM:=Hd hc;have CV:=Hd cv;have Eu:=Hd nU;clear ZR hc zo cv Nk nU hW;go_wp2_with fail;refine CV.out.mono ?_;rintro e w2 ⟨rfl,q2⟩;have gJ:Q wo w2:=(Q.alloc _ _).trans q2;have aO:=Eu.out.q gJ;have QG:Below w.heap.size w w2:=HW.out.trans (Below.mono gJ (by omega))
   have Ou:=QG.size;have cw:=iM w.heap.size w.heap.size r pre (bI p.length++p) w2 aO (by rw[List.length_append];omega) (by omega)
   have aI:pre++(bI p.length++p)=jQ (ps.take (k+1)):=by rw[Kl.out];rfl
   rw[aI] at cw;have CW:=Hd cw;have OL:=Hd QG;have eG:=Hd aO;clear q2 gJ aO QG cw aI;go_wp2_with fail;rw[bytes_append];refine CW.out.mono ?_;rintro e w3 ⟨rfl,kP,r',lF,qg⟩;have iZ:=Hd (OL.out.trans (eG.out.below kP (by omega)))
   have zh:=Hd lF;clear kP lF qg;go_wp2_with fail;go_roundw;case rel=>exact⟨k+1,by omega,by go_num,⟨r',zh.out⟩,iZ⟩
   case measure=>simp[intOf];omega
  ·have jL:k=ps.length:=by omega
   subst jL;rw[List.take_length] at HB;obtain⟨r,nU⟩:=HB.out;have hW:=HW.out;have aY:=hW.size;have c:=NW w.heap.size w.heap.size r (jQ ps) wo nU (by omega)
   have C:=Hd c;clear c nU hW;go_wp2_with fail;refine C.out.mono ?_;rintro e w3 ⟨rfl,jJ⟩;have iZ:=Hd (HW.out.trans jJ);clear jJ;go_wp2_with fail;go_ret;exact⟨rfl,iZ.out⟩
end
section
open Go.RowKit
attribute [local go_sem] Oper.semAt_some
theorem Bv(B b:Nat)(r:Option Nat)(l:Bytes)(w:World)(h:Bld w B b r l):
  Calls Tryz.prog 98 #[.pointer (some ⟨b,0,none⟩)] w fun e w'=>e=.returned (.string ⟨l.toArray⟩)∧Step2 w w' b r:=by
 cases l with
 | nil=>exact(VU B b r w h).mono fun e w' ⟨h1,h2⟩=>⟨h1,⟨h2.os,h2.tape,h2.output,h2.size,fun k hk _ _=>h2.block k hk⟩⟩
 | cons x l=>exact(FX B b r (x::l) w h (by simp)).mono fun e w' ⟨h1,h2,_⟩=>⟨h1,h2⟩
theorem Bld.cellsRow{w:World}{B b:Nat}{r:Option Nat}{l:Bytes}(h:Bld w B b r l):∀g,r=some g→∃cs fz,w.heap[g]?=some (.cells cs 5 fz):=by
 obtain⟨_,p,v,_,_,ho,hr,_,_⟩:=h;intro g hg;rcases ho.2 with ⟨hv,_⟩|⟨g',cap,cur,fz,hv,_,BJ,_⟩
 ·rw[hv,hg] at hr;cases hr
 ·rw[hv,hg] at hr
  simp only[Value.ownBlock,Option.some.injEq] at hr;subst hr;exact⟨_,_,BJ⟩
theorem Bld.itk{w w':World}{B b:Nat}{r:Option Nat}{l:Bytes}{own:Nat→Prop}{lo:Nat}(h:Bld w B b r l)(hi:Itk own lo w w')(hb:¬own b)(hr:∀g,r=some g→¬own g):Bld w' B b r l:=by
 obtain⟨p,v,gK⟩:∃p v,w.heap[b]?=some (.cells #[p,v] 179 (0,0)):=by obtain⟨_,p,v,h2,_⟩:=h;exact⟨p,v,h2⟩
 refine h.stays ((hi.get gK hb).trans gK.symm) (fun g hg=>?_) hi.size
 obtain⟨cs,fz,hc⟩:=h.cellsRow g hg;exact(hi.get hc (hr g hg)).trans hc.symm
theorem Bld.not_box{w:World}{B b:Nat}{r:Option Nat}{l:Bytes}(h:Bld w B b r l){k:Nat}{t:TypeId}{v:Value}(hx:Boxed w k t v)(h1:t≠5)(h2:t≠179):k≠b∧some k≠r:=by
 refine⟨fun e=>?_,fun e=>?_⟩
 ·obtain⟨_,p,v',h3,_⟩:=h
  rw[←e,show w.heap[k]?=_ from hx] at h3
  injection h3 with h3;injection h3 with _ h3 _;exact h2 h3
 ·obtain⟨cs,fz,hc⟩:=h.cellsRow k e.symm
  rw[show w.heap[k]?=_ from hx] at hc
  cases hc;exact h1 rfl
theorem Step2.boxed{w w':World}{B b:Nat}{r:Option Nat}{l:Bytes}(hs:Step2 w w' b r)(h:Bld w B b r l){k:Nat}{t:TypeId}{v:Value}(hx:Boxed w k t v)(h1:t≠5)(h2:t≠179):Boxed w' k t v:=by
 obtain⟨a,b'⟩:=h.not_box hx h1 h2;exact(hs.block k hx.lt a b').trans hx
theorem Step2.walks{w w':World}{B b:Nat}{r:Option Nat}{l:Bytes}(hs:Step2 w w' b r)(h:Bld w B b r l){k:Nat}{o:Obj}(hk:w.heap[k]?=some o)(ho:o.isCells=false):w'.heap[k]?=some o:=by
 refine(hs.block k (aU hk) (fun e=>?_) (fun e=>?_)).trans hk
 ·obtain⟨_,p,v',h3,_⟩:=h
  rw[e,h3] at hk;cases hk;cases ho
 ·obtain⟨cs,fz,hc⟩:=h.cellsRow k e.symm
  rw[hc] at hk;cases hk;cases ho
theorem Bk.of_step{W W':World}{B b:Nat}{r:Option Nat}{l:Bytes}{keep:Nat→Prop}(h:Bld W B b r l)(hs:Step2 W W' b r)(hB:B≤W.heap.size)(hk:∀k,keep k→k<W.heap.size→k≠b∧some k≠r):Bk keep B W W' :=
 ⟨h.below hs hB,fun k h1 h2=>hs.block k h2 (hk k h1 h2).1 (hk k h1 h2).2,fun k o h1 h2=>hs.walks h h1 (Obj.not_cells_of_walk h2)⟩
theorem Bld.not_other{w:World}{B b:Nat}{r:Option Nat}{l:Bytes}(h:Bld w B b r l){k:Nat}{o:Obj}(hk:w.heap[k]?=some o)(ho:o.isCells=false):k≠b∧some k≠r:=by
 refine⟨fun e=>?_,fun e=>?_⟩
 ·obtain⟨_,p,v',h3,_⟩:=h
  rw[e,h3] at hk;cases hk;cases ho
 ·obtain⟨cs,fz,hc⟩:=h.cellsRow k e.symm
  rw[hc] at hk;cases hk;cases ho
theorem ag3(s:Bytes)(n p:Nat)(h:(s.drop p).length≤n)(k:Nat)(c:Int×Bytes)(hc:(iK n (s.drop p))[k]?=some c):
  ∃q,(mV p (iK n (s.drop p)))[k]?=some (q,c.1)∧q<s.length∧c.2.take 1=[s.getD q 0] ∧ -1≤c.1∧c.1≤1114111:=by
 induction n generalizing p k with
 | zero=>simp[iK] at hc
 | succ n ih =>
  rw[iK] at hc ⊢;by_cases h0:s.drop p=[]
  ·rw[if_pos h0] at hc;simp at hc
  ·rw[if_neg h0] at hc ⊢
   have aY:=lV _ h0;rw[List.length_drop] at aY h;cases k with
   | zero =>
    simp only[List.getElem?_cons_zero,Option.some.injEq] at hc;subst hc;refine⟨p,by simp[mV],by omega,?_,?_⟩
    ·rw[List.take_take,Nat.min_eq_left (by omega)]
     cases hd:s.drop p with
     | nil=>exact absurd hd h0
     | cons b t =>
      have hb:s.getD p 0=b:=by
       have:s[p]?=some b:=by
        have:=congrArg (fun l=>l[0]?) hd
        simpa[List.getElem?_drop] using this
       rw[List.getD_eq_getElem?_getD,this];rfl
      rw[hb];rfl
    ·have:=(Tv s p (by omega))
     cases hd:s.drop p with
     | nil=>exact absurd hd h0
     | cons b t =>
      have hb:=(Ac (b::t).length ((b::t).getD 0 0).toNat ((b::t).getD 1 0).toNat ((b::t).getD 2 0).toNat ((b::t).getD 3 0).toNat).1;unfold aP;simp only[];split<;>simp only[]<;>omega
   | succ k =>
    rw[List.getElem?_cons_succ] at hc;rw[List.drop_drop] at hc;obtain⟨q,h1,h2⟩:=ih (p+(aP (s.drop p)).2) (by rw[List.length_drop];omega) k hc
    refine⟨q,?_,h2⟩;rw[mV,List.getElem?_cons_succ,List.length_take,List.length_drop,Nat.min_eq_left (by omega),List.drop_drop]
    exact h1
theorem abu(s:Bytes)(k:Nat)(x:Nat×Int)(hx:(dD s)[k]?=some x):∃c,(chunks s)[k]?=some c∧x.2=c.1∧x.1<s.length∧c.2.take 1=[s.getD x.1 0] ∧ -1≤c.1∧c.1≤1114111:=by
 have hk:k<(chunks s).length:=by
  have:=(List.getElem?_eq_some_iff.1 hx).1;rwa [wO] at this
 obtain⟨q,h1,h2⟩:=ag3 s s.length 0 (by simp) k (chunks s)[k] (by simpa[chunks] using hk)
 rw[List.drop_zero] at h1;have:(dD s)[k]?=some (q,(chunks s)[k].1):=h1;rw[hx] at this;cases this;exact⟨_,List.getElem?_eq_getElem hk,rfl,h2⟩
theorem foldC_len(c:Int×Bytes):(pK c).length≤4:=by
 unfold pK;split
 ·rw[List.length_take];omega
 ·have:=(Lib.runeCells_le (kL (gI c.1))).2
  rwa [Lib.runeCells_length] at this
theorem VW(l:List (Int×Bytes)):(l.flatMap pK).length≤4*l.length:=by
 induction l with
 | nil=>simp
 | cons c l ih =>
  have:=foldC_len c;rw[List.flatMap_cons,List.length_append,List.length_cons];omega
theorem LG(n:Nat)(s:Bytes):(iK n s).length≤n:=by
 induction n generalizing s with
 | zero=>simp[iK]
 | succ n ih=>rw[iK];split<;>simp;exact ih _
theorem abv(r:Int)(h0:0≤r)(h1:r≤1114111): -9223372036854775808≤gI r∧gI r≤9223372036854775807:=by
 unfold gI;repeat' split
 all_goals omega
theorem Yg(r:Int): -2147483648≤kL r∧kL r≤2147483647:=by
 unfold kL;split<;>omega
theorem VX(s:Bytes)(w:World)(hs:s.length≤10000000000000)(hT:Tabs w):
  Calls Tryz.prog 53 #[.string ⟨s.toArray⟩] w fun e w'=>e=.returned (.string ⟨(bQ s).toArray⟩)∧Q w w':=by
 refine(callsIn_wide (n:=0)).1 ?_;refine callsIn_of_wp_marks Tryz.func53 rfl trivial ?_ rfl;simp only[Tryz.ntmps53,List.size_toArray,List.length_cons,List.length_nil,Nat.reduceAdd,Nat.reduceSub,Array.replicate_succ,Array.replicate_zero,List.push_toArray,List.append_toArray,List.nil_append,List.cons_append];gi_wp2_with fail;refine⟨trivial,rfl,(callsIn_wide.2 (YV s _)).mono ?_⟩;rintro e w1 ⟨rfl,rfl⟩;gi_wp2_with fail;have ZT:Below w.heap.size w (((w.alloc (.cells #[ak s] 9)).alloc (.cells #[.pointer none,.slice none 0 0] 179)).alloc (.cells #[ak s] 9)):=(((Below.refl _ w).alloc (Nat.le_refl _) _).alloc (by simp) _).alloc (by simp;omega) _
 have aY:(((w.alloc (.cells #[ak s] 9)).alloc (.cells #[.pointer none,.slice none 0 0] 179)).alloc (.cells #[ak s] 9)).heap.size=w.heap.size+3:=by simp
 have b0:Boxed (((w.alloc (.cells #[ak s] 9)).alloc (.cells #[.pointer none,.slice none 0 0] 179)).alloc (.cells #[ak s] 9)) w.heap.size 9 (ak s):=((Boxed.new w _ _).alloc _).alloc _;have b2:Boxed (((w.alloc (.cells #[ak s] 9)).alloc (.cells #[.pointer none,.slice none 0 0] 179)).alloc (.cells #[ak s] 9)) (w.heap.size+2) 9 (ak s):=by
  have:=Boxed.new ((w.alloc (.cells #[ak s] 9)).alloc (.cells #[.pointer none,.slice none 0 0] 179)) 9 (ak s);simpa using this
 have b1:Bld (((w.alloc (.cells #[ak s] 9)).alloc (.cells #[.pointer none,.slice none 0 0] 179)).alloc (.cells #[ak s] 9)) w.heap.size (w.heap.size+1) none []:=by
  have:=(Bld.new (w.alloc (.cells #[ak s] 9)) w.heap.size (by simp)).alloc (.cells #[ak s] 9)
  simpa using this
 have HT:=Hd hT;clear hT;obtain⟨W0,ZU⟩:∃W0,((w.alloc (.cells #[ak s] 9)).alloc (.cells #[.pointer none,.slice none 0 0] 179)).alloc (.cells #[ak s] 9)=W0:=⟨_,rfl⟩;rw[ZU] at ZT aY b0 b1 b2 ⊢;clear ZU;refine UA (gf:=139) (lb:=#[.pointer (some ⟨w.heap.size+1+1,0,none⟩)]) rfl (enters_of Tryz.func139 (by kernel_rfl) rfl) (encs:=MG) (own:=fun _=>False) (keep:=fun k=>k=w.heap.size+2) (n₀:=w.heap.size) (xs:=dD s)
  (fun W1 hq hz=>YW s (w.heap.size+2) w.heap.size W1 (by omega) (aB hq b2) (by omega) (fun W' hb=>HT.out.stays ((ZT.trans (Below.mono hq (by omega))).trans hb)))
  (fun _ h=>h.elim) (fun k h=>by omega) (by omega) (fun _=>rfl)
  (fun k W=>(∃r,Bld W w.heap.size (w.heap.size+1) r (((chunks s).take k).flatMap pK))∧Boxed W w.heap.size 9 (ak s)∧Boxed W (w.heap.size+2) 9 (ak s)∧Below w.heap.size w W)
  (fun _ _ _=>False)
  (fun k a' _=>∃(x:Nat×Int),(dD s)[k]?=some x∧a'={ tmps:=#[.string ⟨s.toArray⟩,.pointer (some ⟨w.heap.size,0,none⟩),.string ⟨#[]⟩,.pointer (some ⟨w.heap.size+1,0,none⟩),.int .i64 x.1,.int .i64 x.2,.string ⟨s.toArray⟩,.func (.func 139) #[] #[.pointer (some ⟨w.heap.size+1+1,0,none⟩)],.int .i64 x.1,.int .i64 x.2,undef,undef,undef,undef,undef,undef,undef,undef,undef,undef,undef],defers:=[] })
  (fun k A B hI hi=>by
   obtain⟨⟨r,hr⟩,h0,h2,hb⟩:=hI;exact⟨⟨r,hr.itk hi (fun h=>h) (fun _ _ h=>h)⟩,hi.boxed h0 (fun h=>h),hi.boxed h2 (fun h=>h),hi.below hb (by omega) hb.size (fun _ h=>h.elim)⟩)
  (fun _ _ _ _ h _=>h) (fun _ _ _ _ h _=>h) ⟨⟨none,b1⟩,b0,b2,ZT⟩ ?assign ?body ?done ?stop
 case assign =>
  intro l k hk W K hi hz hK;gi_wp2;exact hK _ _ (Q.refl _) hi ⟨_,List.getElem?_eq_getElem hk,rfl⟩
 case body =>
  rintro l k hk a' W ⟨⟨rc,Nl⟩,Dt⟩ hl ⟨⟨r,hr⟩,h0,h2,hb⟩ ⟨x,hx,rfl⟩ _ hz;obtain⟨c,zo,gX,hp,EO,BO,KQ⟩:=abu s k x hx;obtain⟨p,rr⟩:=x;simp only at gX hp EO ⊢;subst gX;have xH:k<(chunks s).length:=(List.getElem?_eq_some_iff.1 zo).1;have bV:((chunks s).take (k+1)).flatMap pK=((chunks s).take k).flatMap pK++pK c:=by
   rw[List.take_succ_eq_append_getElem xH,List.flatMap_append];have:(chunks s)[k]=c:=Option.some.inj ((List.getElem?_eq_getElem xH).symm.trans zo);rw[this];simp
  have aD:=VW ((chunks s).take k);have jB:=LG s.length s;have lC:((chunks s).take k).length≤(chunks s).length:=by rw[List.length_take];omega
  have En:(chunks s).length≤s.length:=jB;have Xn:=hb.size;have c0:=h0.cell;subst hl;have Np:∀j,(j=w.heap.size+2∨j=W0.heap.size∨j=W0.heap.size+1)→j<W.heap.size→j≠w.heap.size+1∧some j≠r:=by
   rintro j (rfl|rfl|rfl) _
   ·exact hr.not_box h2 (by decide) (by decide)
   ·exact hr.not_other Dt rfl
   ·exact hr.not_other Nl rfl
  have Nq:=Hd Np;clear Np Dt;have bJ:=Hd bV;have HR:=Hd hr;have xq:=Hd h0;have eG:=Hd h2;have HB:=Hd hb;clear bV hr h0 h2 hb jB;generalize ac6:((chunks s).take k).flatMap pK=pre at *;have uR:=Hd ac6;clear ac6 hx zo Nl;by_cases anY:c.1<0
  ·have uf:s.getD p 0=s[p]:=by rw[List.getD_eq_getElem?_getD,List.getElem?_eq_getElem hp];rfl
   have hf:pK c=[s[p]]:=by unfold pK;rw[if_pos anY,EO,uf]
   have cw:=Hu w.heap.size (w.heap.size+1) r pre s[p] (({ data:=s.toArray }:ByteArray)[p]'hp).toNat W HR.out rfl (by omega) (by omega)
   have CW:=Hd cw;have HF:=Hd hf;clear cw hf uf EO;gi_wp2_with fail;refine⟨trivial,rfl,(nZ _ CW.out).mono ?_⟩;rintro e w3 ⟨rfl,kP,r',lF,qg⟩;have e1:=kP.boxed HR.out xq.out (by decide) (by decide)
   have e2:=kP.boxed HR.out eG.out (by decide) (by decide)
   have e3:=HB.out.trans (HR.out.below kP Xn);have e4:=Bk.of_step (keep:=fun j=>j=w.heap.size+2∨j=W0.heap.size∨j=W0.heap.size+1) HR.out kP Xn Nq.out
   rw[←HF.out,←bJ.out] at lF;have zh:=Hd lF;have E1:=Hd e1;have E2:=Hd e2;have E3:=Hd e3;have E4:=Hd e4;clear kP lF qg e1 e2 e3 e4;gi_wp2_with fail;exact⟨E4.out,⟨r',zh.out⟩,E1.out,E2.out,E3.out⟩
  ·have qG:((c.1.toNat:Nat):Int)=c.1:=by omega
   have hf:pK c=Lib.encodeRune (kL (gI c.1)):=by unfold pK;rw[if_neg anY]
   have cf:=Fold_any c.1.toNat W (by omega)
   rw[qG] at cf;obtain⟨g1,g2⟩:=abv c.1 (by omega) KQ
   obtain⟨g3,g4⟩:=Yg (gI c.1);have CF:=Hd cf;have HF:=Hd hf;clear cf hf EO qG;generalize gI c.1=fr at *;gi_wp2_with fail;refine⟨trivial,rfl,(nZ _ CF.out).mono ?_⟩;rintro e w3 ⟨rfl,q3⟩;have Ew:=HR.out.q q3;have k0:=aB q3 xq.out;have k2:=aB q3 eG.out;have kb:=HB.out.trans (Below.mono q3 Xn);have kk:Bk (fun j=>j=w.heap.size+2∨j=W0.heap.size∨j=W0.heap.size+1) w.heap.size W w3:=Bk.of_q q3 Xn
   have kp:∀j,(j=w.heap.size+2∨j=W0.heap.size∨j=W0.heap.size+1)→j<w3.heap.size→j≠w.heap.size+1∧some j≠r:=fun j h1 h2=>Nq.out j h1 (by have:=aU eG.out;rcases h1 with h1|h1|h1<;>omega)
   have kP:=kb.size;have cw:=aax w.heap.size (w.heap.size+1) r pre (kL fr) w3 Ew g3 g4 (by omega) (by omega)
   have co:=ag1 fr w3 g1 g2;have CW:=Hd cw;have CO:=Hd co;have uW:=Hd Ew;have K0:=Hd k0;have K2:=Hd k2;have KB:=Hd kb;have KK:=Hd kk;have KP:=Hd kp;clear cw co Ew k0 k2 kb kk kp q3;gi_wp2_with fail;refine⟨trivial,rfl,(nZ _ CO.out).mono ?_⟩;rintro e w4 ⟨rfl,rfl⟩;gi_wp2_with fail;refine⟨trivial,rfl,(nZ _ CW.out).mono ?_⟩;rintro e w4 ⟨⟨nn,rfl⟩,vN,r',lF⟩;have e1:=vN.boxed uW.out K0.out (by decide) (by decide)
   have e2:=vN.boxed uW.out K2.out (by decide) (by decide)
   have e3:=KB.out.trans (uW.out.below vN kP);have e4:=KK.out.trans (Bk.of_step (keep:=fun j=>j=w.heap.size+2∨j=W0.heap.size∨j=W0.heap.size+1) uW.out vN kP KP.out)
   rw[←HF.out,←bJ.out] at lF;have zh:=Hd lF;have E1:=Hd e1;have E2:=Hd e2;have E3:=Hd e3;have E4:=Hd e4;clear vN lF e1 e2 e3 e4;gi_wp2_with fail;exact⟨E4.out,⟨r',zh.out⟩,E1.out,E2.out,E3.out⟩
 case done =>
  rintro D W hD _ ⟨⟨r,hr⟩,h0,h2,hb⟩ hK;obtain rfl:D=w.heap.size+3:=by omega
  clear hD aY;have ZV:(dD s).length=(chunks s).length:=wO _ _;rw[ZV,List.take_length] at hr;have Xn:=hb.size;have c:=Bv w.heap.size (w.heap.size+1) r (bQ s) W hr;have Eu:=Hd hr;have hDc:r≠some (w.heap.size+3)∧w.heap.size+3≠w.heap.size+1:=by
   obtain⟨a,b⟩:=hr.not_other hK rfl;exact⟨fun e=>b e.symm,a⟩
  have C:=Hd c;have HB:=Hd hb;have HK:=Hd hK;have HDD:=Hd hDc;clear c hb hK h0 h2 hr ZV hDc;gi_wp2_with fail;refine⟨trivial,rfl,(callsIn_wide.2 C.out).mono ?_⟩;rintro e w3 ⟨rfl,kP⟩;have jO:=kP.walks Eu.out HK.out rfl;have jJ:=HB.out.trans (Eu.out.below kP Xn);have iZ:=Hd jJ;have ZW:=Hd jO;clear kP jJ jO;gi_wp2_with fail;refine⟨by simp,.inl ⟨_,_,rfl,run_takeDeferred ZW.out,?_⟩⟩
  exact⟨_,results_tmp rfl _ _ _,rfl,iZ.out.trans (Bk.put (own:=fun _=>False) (n₀:=w.heap.size) _ ZW.out rfl (by omega) (fun h=>h)).below⟩
 case stop =>
  rintro D c k W _ _ h _;exact h.elim
end
section
open Go.RowKit
theorem Yh(B b:Nat)(r:Option Nat)(l:Bytes)(w:World)(h:Bld w B b r l):
  Calls Tryz.prog 184 #[.pointer (some ⟨b,0,none⟩)] w fun e w'=>e=.returned (.int .i64 l.length)∧w=w':=by
 obtain⟨hB,p,v,gK,hp,aQ,y8,aF,vU⟩:=h;have c1:w.cell? ⟨b,1,none⟩=some v:=by simp[World.cell?,gK]
 obtain⟨ao,cap,rfl⟩:∃ao cap,v=.slice ao l.length cap:=by
  rcases aQ.2 with ⟨hv,h0⟩|⟨g,cap,cur,fz,hv,_⟩
  ·exact⟨_,_,by rw[hv,h0]⟩
  ·exact⟨_,_,hv⟩
 clear aQ y8 aF vU hp gK;go_enter Tryz.func184,Tryz.ntmps184;go_wp2_with fail;go_ret;exact⟨rfl,rfl⟩
theorem abw{P:Program}(W:World)(t ty:TypeId)(base:Nat)(e e':TypeId)(i:TypeInfo)(z:Value)(size bytes:Nat)(ht:P.underlying t=some (.slice e))(hi:P.info? e=some i)(hz:i.zero=some z)
  (jA:i.size=size) (nH:i.bytes=bytes) (uU:z.cells.size=size) (aY:0<size) (Ef:0<bytes)
  (v:Value) (n:Nat) (xs:List Value) (aQ:W.ownsRow base e size v n xs)
  (m:Nat) (hm:0<m) (news:Array Value) (hl:news.size=m*size) (h1:∀u∈news.toList,u.oneCell'=true) (hb:(n+m)*bytes≤140737488355328) (fC:base≤W.heap.size) :
  ∃g cap w',(Builtin.append_ #[t,t] ty #[v,.slice (some ⟨W.heap.size,0,none⟩) m m]).run P (W.alloc (.cells news e'))=.ok (.slice (some ⟨g,0,none⟩) (n+m) cap) w' ∧
   w'.ownsRow base e size (.slice (some ⟨g,0,none⟩) (n+m) cap) (n+m) (xs++news.toList)∧W.grownBy w' v.ownBlock∧(v.ownBlock=some g∨W.heap.size<g)∧g<w'.heap.size∧W.heap.size<w'.heap.size:=by
 have ru:n+m≤maxLen:=by
  have:=Nat.le_mul_of_pos_right (n+m) Ef;simp only[maxLen];omega
 obtain⟨g,cap,w',hr,h2,h3,h4,h5⟩:=run_append_lies (P:=P) (W.alloc (.cells news e')) t ty base e i z size bytes ht hi hz jA nH uU aY v n xs (aQ.alloc _) ⟨W.heap.size,0,none⟩ m m news.toList (by simpa using hl)
  (fun j u hj=>by
   rw[Jd];simp only[World.cell?,heap_alloc_new];simpa using hj) h1 hm ru hb (by simp;omega) (W.heap.size+1) (by simp)
 refine⟨g,cap,w',hr,h2,⟨h3.os.trans rfl,h3.tape.trans rfl,h3.output.trans rfl,by have:=h3.size;simp at this;omega,fun k hk aF=>?_⟩,h4.imp id (fun h=>by omega),h5,by have:=h3.size;simp at this;omega⟩
 rw[h3.block k (by simp;omega) aF,Below.heap_alloc _ _ _ hk]
theorem FY{P:Program}(W:World){ops:Array Oper}{rest:List Oper}{o:Oper}{a:Act}{Q:Exit→Act→World→Prop}(uf:o.guard=none)(s x:Operand)(t:TypeId)
  (ho:o.op=.call { callee:=.builtin .append,args:=#[s,x],argTypes:=#[t,t] })
  (base:Nat) (e e':TypeId) (i:TypeInfo) (z:Value) (size bytes:Nat) (ht:P.underlying t=some (.slice e)) (hi:P.info? e=some i) (hz:i.zero=some z)
  (jA:i.size=size) (nH:i.bytes=bytes) (uU:z.cells.size=size) (aY:0<size) (Ef:0<bytes)
  (v:Value) (n:Nat) (xs:List Value) (hs:a.eval s=v) (aQ:W.ownsRow base e size v n xs)
  (m:Nat) (hm:0<m) (news:Array Value) (hx:a.eval x=.slice (some ⟨W.heap.size,0,none⟩) m m) (hl:news.size=m*size) (h1:∀u∈news.toList,u.oneCell'=true)
  (hb:(n+m)*bytes≤140737488355328) (fC:base≤W.heap.size)
  (h:∀g cap w',w'.ownsRow base e size (.slice (some ⟨g,0,none⟩) (n+m) cap) (n+m) (xs++news.toList)→W.grownBy w' v.ownBlock→(v.ownBlock=some g∨W.heap.size<g)→g<w'.heap.size→W.heap.size<w'.heap.size →
   wpList P ops Q rest (a.put o.dst (.slice (some ⟨g,0,none⟩) (n+m) cap)) w'):wpList P ops Q (o::rest) a (W.alloc (.cells news e')):=by
 obtain⟨g,cap,w',hr,h2,h3,h4,h5,h6⟩:=abw (P:=P) W t o.type base e e' i z size bytes ht hi hz jA nH uU aY Ef v n xs aQ m hm news hl h1 hb fC;refine wpList_plain uf fun _ hK=>?_
 unfold Oper.wp execOp;simp only[ho,resolve,invoke,builtin,Sem.run_bind,Sem.run_pure,Result.andThen_ok,List.map_toArray,List.map_cons,List.map_nil,hs,hx,hr];exact hK _ _ (h g cap w' h2 h3 h4 h5 h6)
theorem Bld.not_cells{w:World}{B b:Nat}{r:Option Nat}{l:Bytes}(h:Bld w B b r l){k:Nat}{cs:Array Value}{t:TypeId}{fz:Nat×Nat}(hk:w.heap[k]?=some (.cells cs t fz))(h1:t≠5)(h2:t≠179):k≠b∧some k≠r:=by
 refine⟨fun e'=>?_,fun e'=>?_⟩
 ·obtain⟨_,p,v',h3,_⟩:=h
  rw[←e',hk] at h3;injection h3 with h3;injection h3 with _ h3 _;exact h2 h3
 ·obtain⟨cs',fz',xG⟩:=h.cellsRow k e'.symm
  rw[hk] at xG;injection xG with h3;injection h3 with _ h3 _;exact h1 h3
theorem Step2.cells{w w':World}{B b:Nat}{r:Option Nat}{l:Bytes}(hs:Step2 w w' b r)(h:Bld w B b r l){k:Nat}{cs:Array Value}{t:TypeId}{fz:Nat×Nat}(hk:w.heap[k]?=some (.cells cs t fz))(h1:t≠5)(h2:t≠179):w'.heap[k]?=some (.cells cs t fz):=by
 obtain⟨a,b'⟩:=h.not_cells hk h1 h2;exact(hs.block k (aU hk) a b').trans hk
theorem bN{w:World}{k:Nat}{x y:Value}{t:TypeId}(h:w.heap[k]?=some (.cells #[x,y] t (0,0))):w.cell? ⟨k,0,none⟩=some x∧w.cell? ⟨k,1,none⟩=some y:=by
 simp[World.cell?,h]
theorem Bld.not_row{w:World}{B b:Nat}{r:Option Nat}{l:Bytes}(h:Bld w B b r l){base:Nat}{e:TypeId}{size:Nat}{v:Value}{n:Nat}{xs:List Value}(ho:w.ownsRow base e size v n xs)(h1:e≠5)(h2:e≠179):
  ∀g,v.ownBlock=some g→g≠b∧some g≠r:=by
 intro g hg;obtain⟨cs,hc⟩:=jE ho g hg;refine⟨fun e'=>?_,fun e'=>?_⟩
 ·obtain⟨_,p,v',h3,_⟩:=h
  rw[←e',hc] at h3;injection h3 with h3;injection h3 with _ h3 _;exact h2 h3
 ·obtain⟨cs',fz,xG⟩:=h.cellsRow g e'.symm
  rw[hc] at xG;injection xG with h3;injection h3 with _ h3 _;exact h1 h3
theorem Step2.owns{w w':World}{B b:Nat}{r:Option Nat}{l:Bytes}(hs:Step2 w w' b r)(h:Bld w B b r l){base:Nat}{e:TypeId}{size:Nat}{v:Value}{n:Nat}{xs:List Value}(ho:w.ownsRow base e size v n xs)(h1:e≠5)(h2:e≠179):w'.ownsRow base e size v n xs:=by
 have hn:=h.not_row ho h1 h2;obtain⟨a1,a2⟩:=ho;refine⟨a1,?_⟩;rcases a2 with a2|⟨g,cap,cur,rfl,hb,hg,rest⟩
 ·exact .inl a2
 ·obtain⟨n1,n2⟩:=hn g rfl
  exact .inr ⟨g,cap,cur,rfl,hb,(hs.block g (aU hg) n1 n2).trans hg,rest⟩
theorem Bld.grown{w w':World}{B b:Nat}{r:Option Nat}{l:Bytes}(h:Bld w B b r l){base:Nat}{e:TypeId}{size:Nat}{v:Value}{n:Nat}{xs:List Value}(ho:w.ownsRow base e size v n xs)(h1:e≠5)(h2:e≠179)(hg:w.grownBy w' v.ownBlock):Bld w' B b r l:=by
 have hn:=h.not_row ho h1 h2;exact h.stays (hg.block b h.lt (fun e'=>(hn b e'.symm).1 rfl)) (fun k hk=>hg.block k (h.row k hk).2 (fun e'=>(hn k e'.symm).2 hk.symm)) hg.size
end
end Go.Proofs.YthijhicdmnoifaaGreatDoor
