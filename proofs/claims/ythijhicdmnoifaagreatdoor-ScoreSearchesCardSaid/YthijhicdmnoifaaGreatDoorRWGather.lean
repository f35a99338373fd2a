/- Joined texts of one proof. -/
import Derived.Test.YthijhicdmnoifaaGreatDoorRMaps2
import Derived.Test.YthijhicdmnoifaaGreatDoorRIter
set_option linter.unusedSimpArgs false
set_option linter.unusedVariables false
set_option linter.unnecessarySimpa false
set_option maxRecDepth 100000
set_option maxHeartbeats 8000000
namespace Go.Proofs.YthijhicdmnoifaaGreatDoor
section
open Go.RowKit
def nT(l:List au):Nat→List (Bytes×Value)
 | 0=>[]
 | k+1=>fU (l.getD k ([],[])).1 (.int .i64 k) (nT l k)
theorem entK_keys(l:List au)(k:Nat)(hk:k≤l.length):(∀id,id∈(nT l k).map (·.1)↔id∈(l.take k).map (·.1))∧(nT l k).length≤k∧((nT l k).length=k↔((l.take k).map (·.1)).Nodup):=by
 induction k with
 | zero=>simp[nT]
 | succ k ih =>
  obtain⟨h1,h2,h3⟩:=ih (by omega)
  have hlt:k<l.length:=by omega
  have hg:l.getD k ([],[])=l[k]:=by rw[List.getD_eq_getElem?_getD,List.getElem?_eq_getElem hlt];rfl
  have ht:l.take (k+1)=l.take k++[l[k]]:=by rw[List.take_succ_eq_append_getElem hlt]
  have yt:=NR l[k].1 (Value.int .i64 k) (nT l k);have aD:(nT l (k+1)).length=((nT l (k+1)).map (·.1)).length:=by simp
  have amr:((nT l k).map (·.1)).length=(nT l k).length:=by simp
  rw[nT,hg] at *;by_cases hm:l[k].1∈(nT l k).map (·.1)
  ·rw[if_pos hm] at yt
   rw[yt,amr] at aD;refine⟨fun id=>?_,by omega,?_⟩
   ·rw[yt,h1,ht,List.map_append,List.mem_append]
    constructor
    ·exact Or.inl
    ·rintro(e|e)
     ·exact e
     ·simp at e;rw[e];exact(h1 _).1 hm
   ·constructor
    ·intro e;omega
    ·intro hn
     rw[ht,List.map_append,List.nodup_append] at hn;exact absurd rfl (hn.2.2 _ ((h1 _).1 hm) _ (by simp))
  ·rw[if_neg hm] at yt
   rw[yt,List.length_append,amr] at aD;simp only[List.length_cons,List.length_nil] at aD;refine⟨fun id=>?_,by omega,?_⟩
   ·rw[yt,List.mem_append,h1,ht,List.map_append,List.mem_append];simp
   ·rw[aD,ht,List.map_append,List.nodup_append]
    constructor
    ·intro e
     refine⟨h3.1 (by omega),by simp,?_⟩
     intro a ha b hb e;simp at hb;subst hb;subst e;exact hm ((h1 _).2 ha)
    ·intro hn
     have:=h3.2 hn.1;omega
theorem entK_get(l:List au)(hn:(l.map (·.1)).Nodup)(k:Nat)(hk:k≤l.length)(id:Bytes):getM id (nT l k)=((oz (l.take k) id).map fun i=>Value.int .i64 (i:Nat)):=by
 induction k with
 | zero=>simp[nT,getM,oz]
 | succ k ih =>
  have hlt:k<l.length:=by omega
  have hg:l.getD k ([],[])=l[k]:=by rw[List.getD_eq_getElem?_getD,List.getElem?_eq_getElem hlt];rfl
  have ht:l.take (k+1)=l.take k++[l[k]]:=by rw[List.take_succ_eq_append_getElem hlt]
  rw[nT,hg,get_put,ih (by omega)]
  by_cases h:l[k].1=id
  ·rw[if_pos h]
   have qC:((l.take (k+1)).map (·.1)).Nodup:=by rw[List.map_take];exact hn.sublist (List.take_sublist _ _)
   have:=findL_of (l.take (k+1)) qC k l[k] (by rw[List.getElem?_take];simp[hlt])
   rw[h] at this;rw[this];rfl
  ·rw[if_neg h,ht]
   unfold oz;rw[List.findIdx?_append];have:List.findIdx? (fun d:au=>d.1==id) [l[k]]=none:=by simp[List.findIdx?_cons,h]
   rw[this];simp
def GatherP(l:List au)(lv:Value)(w:World)(e:Ending)(w':World):Prop :=
 Q w w'∧(((∀d∈l,iT d.1 d.2=true)∧∃b,e=.returned (.tuple #[.agg #[lv,.map (some b)],.bool (decide ((l.map (·.1)).Nodup))])∧MapS w' b (nT l l.length)) ∨
  ((¬∀d∈l,iT d.1 d.2=true)∧∃b,e=.returned (.tuple #[.agg #[lv,.map (some b)],.bool false])))
theorem Jo(l:List au)(k:Nat)(h:k<l.length):(bK l)[k*2]?=some (ak l[k].1)∧(bK l)[k*2+1]?=some (ak l[k].2):=by
 induction l generalizing k with
 | nil=>simp at h
 | cons d l ih =>
  have e:bK (d::l)=ak d.1::ak d.2::bK l:=by simp[bK]
  cases k with
  | zero=>rw[e];exact⟨rfl,rfl⟩
  | succ k =>
   have:=ih k (by simpa using h)
   rw[e,show(k+1)*2=k*2+1+1 by omega]
   exact this
theorem Docs.value{w:World}{v:Value}{l:List au}(h:Docs w v l):∃a cap,v=.slice a l.length cap∧(0<l.length→∃b off,a=some ⟨b,off,none⟩∧∀j (hj:j<l.length),w.cell? ⟨b,off+j*2,none⟩=some (ak l[j].1)∧w.cell? ⟨b,off+j*2+1,none⟩=some (ak l[j].2)):=by
 obtain⟨_,a,cap,h2,h3⟩:=h;refine⟨a,cap,h2,fun hn=>?_⟩
 obtain⟨b,off,h4,h5⟩:=h3 hn;exact⟨b,off,h4,fun j hj=>⟨h5 _ _ (Jo l j hj).1,by rw[Nat.add_assoc];exact h5 _ _ (Jo l j hj).2⟩⟩
theorem Bz{w w':World}(hb:Q w w'){k:Nat}{o:Obj}(h:w.heap[k]?=some o):w'.heap[k]?=some o:=(hb.block k (Array.getElem?_eq_some_iff.1 h).1).trans h
theorem res2{W:World}{B:Nat}{x y:Value}{T:TypeId}(h:W.heap[B]?=some (.cells #[x,y] T (0,0)))(u v:Value):
  (W.setCell ⟨B,0,none⟩ u).cell? ⟨B,0,none⟩=some u∧((W.setCell ⟨B,0,none⟩ u).setCell ⟨B,1,none⟩ v).cell? ⟨B,1,none⟩=some v∧((W.setCell ⟨B,0,none⟩ u).setCell ⟨B,1,none⟩ v).cell? ⟨B,0,none⟩=some u:=by
 simp[World.cell?,World.setCell,Array.getElem?_modify,h]
theorem N8(lv:Value)(l:List au)(w:World)(hv:Docs w lv l)(hn:l.length≤1000000)(hl:∀d∈l,d.1.length≤9223372036854775807∧d.2.length≤9223372036854775807)(hT:Tabs w):
  Calls Tryz.prog 117 #[lv] w (GatherP l lv w):=by
 obtain⟨a,cap,rfl,aJ⟩:=hv.value;have HC:=Hd aJ;have HL:=Hd hl;have HT:=Hd hT;clear aJ hv hl hT;have vT:=@run_makeMap Tryz.prog;go_enter Tryz.func117,Tryz.ntmps117;go_wp2_with fail;go_loopw [12] (fun i wr=>∃k:Nat,k≤l.length∧i=.int .i64 k∧Hid (∀j (h:j<l.length),j<k→iT l[j].1 l[j].2=true)∧Hid (MapS wr (w.heap.size+1) (nT l k))∧Hid (Below w.heap.size w wr) ∧
   Hid (wr.heap[w.heap.size]?=some (.cells #[.slice none 0 0,.map none] 73 (0,0)))∧Hid (wr.heap[w.heap.size+2]?=some (.cells #[.slice a l.length cap,.map (some (w.heap.size+1))] 73 (0,0)))) (fun i _=>l.length-(intOf i).toNat)
 case atStart =>
  refine⟨0,by omega,rfl,fun j h hj=>by omega,?_,(((Below.refl _ _).alloc (Nat.le_refl _) _).alloc (by simp) _).alloc (by simp;omega) _,?_,?_⟩
  ·have:=MapS.made (w.alloc (.cells #[.slice none 0 0,.map none] 73))
   simp only[World.size_alloc] at this;exact this.same (Below.heap_alloc _ _ _ (by simp))
  ·show _=_
   rw[Below.heap_alloc _ _ _ (by simp;omega),Below.heap_alloc _ _ _ (by simp),heap_alloc_new]
  ·show _=_
   have:=heap_alloc_new ((w.alloc (.cells #[.slice none 0 0,.map none] 73)).alloc (.map #[] 0)) (.cells #[.slice a l.length cap,.map (some (w.heap.size+1))] 73);simpa using this
 case round =>
  obtain⟨k,hk,rfl,HG,HM,HB,H0,H2⟩:=hrel;obtain⟨wo,rfl⟩:∃wo:World,wo=wr:=⟨_,rfl⟩;have CJ:=(Array.getElem?_eq_some_iff.1 H2.out).1;have c2a:wo.cell? ⟨w.heap.size+2,0,none⟩=some (.slice a l.length cap):=by simp[World.cell?,H2.out]
  have c2b:wo.cell? ⟨w.heap.size+2,1,none⟩=some (.map (some (w.heap.size+1))):=by simp[World.cell?,H2.out]
  have c0a:wo.cell? ⟨w.heap.size,0,none⟩=some (.slice none 0 0):=by simp[World.cell?,H0.out]
  have c0b:wo.cell? ⟨w.heap.size,1,none⟩=some (.map none):=by simp[World.cell?,H0.out]
  have f0a:wo.frozen? ⟨w.heap.size,0,none⟩=false:=by simp[World.frozen?,H0.out]
  have f0b:wo.frozen? ⟨w.heap.size,1,none⟩=false:=by simp[World.frozen?,H0.out]
  by_cases hlt:k<l.length
  ·obtain⟨b,off,rfl,hc⟩:=HC.out (by omega)
   obtain⟨gX,dM⟩:=hc k hlt;have lJ:=ah HB.out gX;have nV:=ah HB.out dM;have aD:=HL.out _ (List.getElem_mem hlt);have uf:(l.getD k ([],[])).1=l[k].1:=by rw[List.getD_eq_getElem?_getD,List.getElem?_eq_getElem hlt];rfl
   have Sy:=Hd uf;clear hc gX dM uf;have hx:=fun (h:∀d∈l,iT d.1 d.2=true)=>h _ (List.getElem_mem hlt)
   have vV:iT l[k].1 l[k].2=true→∀j (h:j<l.length),j<k+1→iT l[j].1 l[j].2=true:=fun h1 j h hj=>by
    rcases Nat.lt_or_ge j k with h2|h2
    ·exact HG.out j h h2
    ·have:j=k:=by omega
     subst this;exact h1
   generalize l[k]=d at *;obtain⟨id,tx⟩:=d;simp only at lJ nV aD hx vV Sy;have HX:=Hd hx;have SF:=Hd vV;clear hx vV;have Qw:Tabs (wo.alloc (.cells #[.string ⟨id.toArray⟩,.string ⟨tx.toArray⟩] 47)):=(HT.out.stays HB.out).stays (Q.alloc _ _);have c:=YU id tx _ aD.1 aD.2 Qw;have C:=Hd c;clear c Qw;have Lc:=Hd CJ;clear CJ;go_wp2_with fail;refine C.out.mono ?_;rintro e w1 ⟨rfl,q1⟩;have hq:Q wo w1:=(Q.alloc _ _).trans q1;have d1:w1.cell? ⟨wo.heap.size,0,none⟩=some (.string ⟨id.toArray⟩):=ah q1 (by simp only[World.cell?,heap_alloc_new];rfl)
   have d2a:=ah hq c2a;have d2b:=ah hq c2b;have d0a:=ah hq c0a;have d0b:=ah hq c0b;have g0a:w1.frozen? ⟨w.heap.size,0,none⟩=false:=by have:=Bz hq H0.out;simp[World.frozen?,this]
   have g0b:w1.frozen? ⟨w.heap.size,1,none⟩=false:=by have:=Bz hq H0.out;simp[World.frozen?,this]
   have HQ:=Hd hq;clear q1 hq c2a c2b c0a c0b f0a f0b;cases hr:iT id tx with
   | false =>
    have HR:=Hd hr;clear hr;go_wp2_with fail;obtain⟨r1,r2,r3⟩:=res2 (Bz HQ.out H0.out) (.slice (some ⟨b,off,none⟩) l.length cap) (.map (some (w.heap.size+1)));refine bodyPost_ret (v:=.tuple #[.agg #[.slice (some ⟨b,off,none⟩) l.length cap,.map (some (w.heap.size+1))],.bool false]) ?_ rfl ?_
    ·simp[results,Tryz.results117,go_sem,r1,r2]
    ·exact⟨(HB.out.trans (Below.mono HQ.out HB.out.size)).setCell (by simp) _ |>.setCell (by simp) _,.inr ⟨fun h=>(by have:=HX.out h;rw[HR.out] at this;cases this),_,rfl⟩⟩
   | true =>
    have HR:=Hd hr;clear hr;have yI:MapS w1 (w.heap.size+1) (nT l k):=HM.out.stays HQ.out;have Ta:=Hd yI;clear HM;go_wp2_with (at_mapUpdate;go_must (refine mJ w1 (by rfl) _ _ _ 65 (by rfl) 9 3 Tryz.underlying65 Tryz.underlying9 (w.heap.size+1) (nT l k) yI id (.int .i64 k) (by rfl) (by rfl) (by rfl) ?_))
    intro w2 yK vV;have Cv:Below w.heap.size w w2:=(HB.out.trans (Below.mono HQ.out HB.out.size)).grown vV (by have:=HB.out.size;have:=HQ.out.size;omega) (fun j hj=>by cases hj;omega)
    have e0:=(vV.block w.heap.size (by have:=HQ.out.size;have:=Lc.out;omega) (by simp)).trans (Bz HQ.out H0.out)
    have e2:=(vV.block (w.heap.size+2) (by have:=HQ.out.size;have:=Lc.out;omega) (by simp)).trans (Bz HQ.out H2.out)
    have rP:MapS w2 (w.heap.size+1) (nT l (k+1)):=by rw[nT,Sy.out];exact yK
    have HE0:=Hd e0;have HE2:=Hd e2;have Du:=Hd rP;have eG:=Hd Cv;clear e0 e2 rP Cv yK vV yI;go_wp2_with fail;go_roundw;case rel=>exact⟨k+1,by omega,by go_num,SF.out HR.out,Du,eG,HE0,HE2⟩
    case measure=>simp[intOf];omega
  ·have jL:k=l.length:=by omega
   subst jL;obtain⟨h1,h2,h3⟩:=entK_keys l l.length (Nat.le_refl _);rw[List.take_length] at h3;have H3:=Hd h3;clear h1 h2 h3;have yI:=HM.out;go_wp2_with (at_len;refine MC wo (by rfl) _ 65 (by rfl) 9 3 Tryz.underlying65 (w.heap.size+1) (nT l l.length) yI (by rfl) ?_)
   obtain⟨r1,r2,r3⟩:=res2 H0.out (.slice a l.length cap) (.map (some (w.heap.size+1)));refine bodyPost_ret (v:=.tuple #[.agg #[.slice a l.length cap,.map (some (w.heap.size+1))],.bool (decide ((l.map (·.1)).Nodup))]) ?_ rfl ?_
   ·have hb:(((nT l l.length).length:Int)==(l.length:Int))=decide ((l.map (·.1)).Nodup):=by
     rw[Bool.eq_iff_iff,decide_eq_true_eq,←H3.out];simp;omega
    simp[results,Tryz.results117,go_sem,r1,r2,hb]
   ·exact⟨HB.out.setCell (by simp) _ |>.setCell (by simp) _,.inl ⟨fun d hd=>by
     obtain⟨j,hj,e⟩:=List.getElem_of_mem hd;rw[←e];exact HG.out j hj hj,_,rfl,(HM.out.same (by rw[Below.heap_setCell _ _ _ _ (by simp),Below.heap_setCell _ _ _ _ (by simp)]))⟩⟩
theorem tokVs_at(l:List (Bytes×Nat))(k:Nat)(h:k<l.length):(dF l)[k*2]?=some (ak l[k].1)∧(dF l)[k*2+1]?=some (.int .i64 (l[k].2:Nat)):=by
 induction l generalizing k with
 | nil=>simp at h
 | cons d l ih =>
  have e:dF (d::l)=ak d.1::.int .i64 (d.2:Nat)::dF l:=by simp[dF]
  cases k with
  | zero=>rw[e];exact⟨rfl,rfl⟩
  | succ k =>
   have:=ih k (by simpa using h)
   rw[e,show(k+1)*2=k*2+1+1 by omega]
   exact this
theorem wP{w:World}{base:Nat}{e:TypeId}{size:Nat}{v:Value}{n:Nat}{xs:List Value}(h:w.ownsRow base e size v n xs):∃a cap,v=.slice a n cap∧(0<n→∃g,a=some ⟨g,0,none⟩∧∀j u,xs[j]?=some u→w.cell? ⟨g,j,none⟩=some u):=by
 rcases h.2 with ⟨rfl,h0⟩|⟨g,cap,cur,rfl,_⟩
 ·exact⟨none,0,by rw[h0],fun hn=>by omega⟩
 ·refine⟨_,cap,rfl,fun _=>⟨g,rfl,fun j u hu=>?_⟩⟩
  have:=h.cells (g:=g) rfl j u hu;rwa [show(⟨g,0,none⟩:Addr).add j=⟨g,j,none⟩ by unfold Addr.add;split<;>simp_all] at this
theorem tinfo201:(Tryz.prog.info? 201).map (fun i=>(i.zero,i.size,i.bytes))=some (some (.agg #[.int .i64 0,.slice none 0 0]),2,32):=by kernel_rfl
theorem tinfo231:(Tryz.prog.info? 231).map (fun i=>(i.zero,i.size,i.bytes))=some (some (.agg #[ak [],ak []]),2,32):=by kernel_rfl
theorem tinfo157:(Tryz.prog.info? 157).map (fun i=>(i.zero,i.size,i.bytes))=some (some (.slice none 0 0),1,24):=by kernel_rfl
def IxQ(W:World)(mb:Nat)(A:IxA):Prop:=∃m F,IxW W mb mb m F∧qA m=A
theorem gD{w:World}{base:Nat}{e:TypeId}{size g n cap:Nat}{xs:List Value}(h:w.ownsRow base e size (.slice (some ⟨g,0,none⟩) n cap) n xs){j:Nat}{u:Value}(hu:xs[j]?=some u):w.cell? ⟨g,j,none⟩=some u:=by
 have:=h.cells (g:=g) rfl j u hu;rwa [show(⟨g,0,none⟩:Addr).add j=⟨g,j,none⟩ by unfold Addr.add;split<;>simp_all] at this
theorem Y8{w:World}{base:Nat}{e:TypeId}{size g n cap:Nat}{xs:List Value}(h:w.ownsRow base e size (.slice (some ⟨g,0,none⟩) n cap) n xs)(j:Nat):w.frozen? ⟨g,j,none⟩=false:=by
 obtain⟨cs,hc⟩:=jE h g rfl;simp[World.frozen?,hc]
theorem cur_cases{m:IxV}{k:Int}{j:Nat}(hw:AWf (qA m) k j)(t:Bytes):
  dL m t=(.slice none 0 0,[])∨(∃l0 y,(dL m t).2=l0++[y]∧∀x∈l0++[y],x.1<k)∨∃l0 pv ps,(dL m t).2=l0++[(k,pv,ps)]∧(∀x∈l0,x.1<k)∧ps.length≤j:=by
 unfold dL;cases hg:getM t m with
 | none=>exact .inl rfl
 | some e =>
  obtain⟨v,l⟩:=e;right;have hp:=hw.posts t (aK l) (by rw[Jl,hg];rfl)
  have aF:l≠[]:=fun e=>hp.some (by rw[e];rfl)
  obtain⟨l0,y,rfl⟩:∃l0 y,l=l0++[y]:=⟨l.dropLast,l.getLast aF,(List.dropLast_concat_getLast aF).symm⟩;rcases hp.parts with ⟨p0,ps,e,hlt,oP⟩|hlt
  ·right
   rw[show aK (l0++[y])=aK l0++[postOf y] by simp[aK]] at e
   obtain⟨e1,e2⟩:=List.append_inj' e rfl;simp only[List.cons.injEq,and_true] at e2;obtain⟨d,pv,ps'⟩:=y;simp only[postOf,Prod.mk.injEq] at e2;obtain⟨rfl,rfl⟩:=e2;exact⟨l0,pv,_,rfl,fun x hx=>by rw[←e1] at hlt;exact hlt (postOf x) (List.mem_map_of_mem hx),oP⟩
  ·left
   exact⟨l0,y,rfl,fun x hx=>hlt (postOf x) (List.mem_map_of_mem hx)⟩
theorem Yk{m:IxV}{k:Int}{j:Nat}(hk:0≤k)(hw:AWf (qA m) k j)(t:Bytes):((dL m t).2.length:Int)≤k+1:=by
 unfold dL;cases hg:getM t m with
 | none=>simp;omega
 | some e =>
  have hp:=hw.posts t (aK e.2) (by rw[Jl,hg];rfl)
  have:=hp.length hk;simpa using this
theorem Yl{m:IxV}{t:Bytes}{k q:Int}{l0:List aR}{pv nw:Value}{ps:List Int}(h:(ps=[]∧(dL m t).2=l0∧∀x∈l0,x.1≠k)∨(dL m t).2=l0++[(k,pv,ps)]):
  addP k q ((getM t (qA m)).getD [])=aK (l0++[(k,nw,ps++[q])]):=by
 have e:(getM t (qA m)).getD []=aK (dL m t).2:=by
  rw[Jl];unfold dL;cases getM t m<;>rfl
 rw[e];rcases h with ⟨rfl,h1,h2⟩|h1
 ·rw[h1,UJ _ _ _ (fun x hx=>by obtain⟨y,hy,rfl⟩:=List.mem_map.1 hx;exact h2 y hy)]
  simp[aK,postOf]
 ·rw[h1,show aK (l0++[(k,pv,ps)])=aK l0++[(k,ps)] by simp[aK,postOf],UH]
  simp[aK,postOf]
theorem IxT.reads{W:World}{base mb:Nat}{m:IxV}{F:rV→Option qw}{t:Bytes}{i:Int}{g cap:Nat}{l0:List aR}{pv:Value}{ps:List Int}(h:IxT W base mb m F t i g cap l0 pv ps):
  W.cell? ⟨g,l0.length*2+1,none⟩=some pv∧W.frozen? ⟨g,l0.length*2+1,none⟩=false∧W.ownsRow base 3 1 pv ps.length (kH ps)∧pv.ownBlock≠some g∧base≤g∧(∀b,pv.ownBlock=some b→base≤b):=by
 have jZ:(l0++[((i,pv,ps):aR)]).length=l0.length+1:=by simp
 have o1:W.ownsRow base 201 2 (.slice (some ⟨g,0,none⟩) (l0.length+1) cap) (l0++[((i,pv,ps):aR)]).length (fH (l0++[(i,pv,ps)])):=h.fam.owns _ _ h.row;rw[jZ] at o1;have o2:W.ownsRow base 3 1 pv ps.length (kH ps):=h.fam.owns _ _ h.last;have hc:=(J9 (l0++[(i,pv,ps)]) l0.length (by simp)).2
 rw[List.getElem_append_right (Nat.le_refl _)] at hc;simp only[Nat.sub_self,List.getElem_cons_zero] at hc;exact⟨gD o1 hc,Y8 o1 _,o2,kI o2 o1 (by decide) rfl,(o1.lt g rfl).1,fun b hb=>(o2.lt b hb).1⟩
theorem IxT.place2{W0 W wa:World}{mb:Nat}{m:IxV}{F:rV→Option qw}{t:Bytes}{i:Int}{g cap:Nat}{l0:List aR}{pv:Value}{ps:List Int}(h:IxT W W0.heap.size mb m F t i g cap l0 pv ps)(q:Int){g2 cap2:Nat}
  (ho:wa.ownsRow W0.heap.size 3 1 (.slice (some ⟨g2,0,none⟩) (ps.length+1) cap2) (ps.length+1) (kH (ps++[q]))) (hg:W.grownBy wa pv.ownBlock) (lN:pv.ownBlock=some g2∨W.heap.size<g2) (hb:Below W0.heap.size W0 W) :
  (∃F',IxT (wa.setCell ⟨g,l0.length*2+1,none⟩ (.slice (some ⟨g2,0,none⟩) (ps.length+1) cap2)) W0.heap.size mb m F' t i g cap l0 (.slice (some ⟨g2,0,none⟩) (ps.length+1) cap2) (ps++[q])) ∧
  Below W0.heap.size W0 (wa.setCell ⟨g,l0.length*2+1,none⟩ (.slice (some ⟨g2,0,none⟩) (ps.length+1) cap2))∧Ki W (wa.setCell ⟨g,l0.length*2+1,none⟩ (.slice (some ⟨g2,0,none⟩) (ps.length+1) cap2)):=by
 obtain⟨_,_,o2,aF,zS,hbp⟩:=h.reads;have jZ:(l0++[((i,pv,ps):aR)]).length=l0.length+1:=by simp
 have o1:W.ownsRow W0.heap.size 201 2 (.slice (some ⟨g,0,none⟩) (l0.length+1) cap) (l0++[((i,pv,ps):aR)]).length (fH (l0++[(i,pv,ps)])):=h.fam.owns _ _ h.row;have o1a:=o1.kept hg (.inr (fun e=>aF e.symm))
 refine⟨h.place q ho hg lN,(hb.grown hg hb.size (fun k hk=>hbp k hk)).setCell zS _,(Ki.grown hg (fun b hb cs ty fz hc=>?_)).trans (Ki.grown (kN _ _ _ _) (fun b hb cs ty fz hc=>?_))⟩
 ·obtain⟨cs',xG⟩:=jE o2 b hb
  rw[hc] at xG;cases xG;exact .inl rfl
 ·cases hb
  obtain⟨cs',xG⟩:=jE o1a g rfl;rw[hc] at xG;cases xG;exact .inr rfl
theorem Y9{W:World}{base:Nat}{v:Value}{l l0:List aR}{y:aR}(h:W.ownsRow base 201 2 v l.length (fH l))(hc:l=l0++[y]):
  ∃g cap,v=.slice (some ⟨g,0,none⟩) (l0.length+1) cap∧W.cell? ⟨g,l0.length*2,none⟩=some (.int .i64 y.1)∧W.ownsRow base 201 2 (.slice (some ⟨g,0,none⟩) (l0.length+1) cap) (l0.length+1) (fH l):=by
 have hl:l.length=l0.length+1:=by rw[hc];simp
 rw[hl] at h;obtain⟨g,cap,rfl⟩:=ownsRow_succ h;have hp:=(J9 l l0.length (by omega)).1
 have:l[l0.length]'(by omega)=y:=by simp[hc]
 rw[this] at hp;exact⟨g,cap,rfl,gD h hp,h⟩
theorem Ki.map{A B:World}{mb:Nat}{m:List (Bytes×Value)}(h:MapS A mb m)(hg:A.grownBy B (some mb)):Ki A B :=
 Ki.grown hg (fun b hb cs ty fz hc=>by
  cases hb
  obtain⟨es,clock,h1,_⟩:=h
  rw[hc] at h1;cases h1)
theorem mM{P:Program}(w:World){ops:Array Oper}{rest:List Oper}{o:Oper}{a:Act}{Q:Exit→Act→World→Prop}(hg:o.guard=none)(mo x:Operand)(t:TypeId)(Qv:o.op=Op.lookup t mo x false)
  (kt et:TypeId) (hm:P.underlying t=some (.map kt et)) (hd:P.underlying kt=some .string) (z:Value) (hz:(zeroValue et).run P w=.ok z w) (b:Nat) (m:List (List UInt8×Value)) (h:MapS w b m) (k:List UInt8) (Ue:a.eval mo=.map (some b)) (hx:a.eval x=ak k)
  (u:Value) (hu:(getM k m).getD z=u) (hK:wpList P ops Q rest (a.put o.dst u) w):wpList P ops Q (o::rest) a w :=
 rX w hg mo x t false Qv kt et hm hd z hz b m h k Ue hx (by rw[hu];exact hK)
theorem Kt(w:World):(zeroValue 157).run Tryz.prog w=.ok (.slice none 0 0) w:=by
 obtain⟨i,hi,hz,_⟩:=info_parts tinfo157;simp[zeroValue,go_sem];rw[show Tryz.t157.zero=some (.slice none 0 0) from by kernel_rfl]
 rfl
theorem IxW.posts{W:World}{base mb:Nat}{m:IxV}{F:rV→Option qw}(h:IxW W base mb m F)(t:Bytes):Posts W (dL m t).1 (dL m t).2:=by
 refine⟨Sl.of_owns (h.cur t).1,fun x hx=>?_⟩
 unfold dL at hx;cases hg:getM t m with
 | none=>rw[hg] at hx;simp at hx
 | some e =>
  rw[hg] at hx;have:=(h.held t e.1 e.2 hg).2 x hx;have ho:W.ownsRow base 3 1 x.2.1 x.2.2.length (kH x.2.2):=h.fam.owns _ _ this;exact Sl.of_owns ho
theorem cur_long{m:IxV}{k:Int}{j:Nat}(hw:AWf (qA m) k j)(t:Bytes):∀x∈(dL m t).2,x.2.2.length≤2001:=by
 unfold dL;cases hg:getM t m with
 | none=>simp
 | some e =>
  have hp:=hw.posts t (aK e.2) (by rw[Jl,hg];rfl)
  exact fun x hx=>hp.long (postOf x) (List.mem_map_of_mem hx)
theorem packL_len(l:List aZ)(hl:l.length≤1000):(qW l).length≤100000000:=by
 unfold qW;split
 ·rename_i h
  have hk:=packOk l h hl l.length (Nat.le_refl _);have hb:=hk.body;have hs:=hk.skips;have ht:iH l l.length=xU ⟨[],[],-1,-1,0⟩ 0 l:=by unfold iH;rw[List.take_length]
  rw[ht] at hb hs;have h1:=eP l.length;have h2:=zx (xU ⟨[],[],-1,-1,0⟩ 0 l).skips;simp only[iG,List.length_append];omega
 ·simp
theorem Gs(last:Bytes)(l:List aN)(h:dw last l=true):Small l:=by
 induction l generalizing last with
 | nil=>intro e he;cases he
 | cons x l ih =>
  simp only[dw,Bool.and_eq_true,decide_eq_true_eq] at h;intro e he;rcases List.mem_cons.1 he with rfl|he
  ·exact⟨h.1.1.2,h.1.2⟩
  ·exact ih _ h.2 e he
theorem DPack_any(v:Value)(l:List aN)(w:World)(base:Nat)(aQ:w.ownsRow base 231 2 v l.length (dV l))(hn:l.length≤9223372036854775807)(hl:∀e∈l,e.1.length≤9223372036854775807∧e.2.length≤9223372036854775807):
  Calls Tryz.prog 159 #[v] w fun e w'=>(∃n,e=.returned (.tuple #[.string ⟨(Dz l).toArray⟩,.int .i64 n]))∧Q w w':=by
 unfold Dz;cases hr:(dw [] l&&decide (l.length≤1048576)) with
 | false =>
  refine(DPack_bad v l w (Sl.of_owns aQ) hn hl hr).mono ?_;rintro e w' ⟨rfl,q⟩;exact⟨⟨1,rfl⟩,q⟩
 | true =>
  simp only[Bool.and_eq_true,decide_eq_true_eq] at hr;refine(DPack_ok v l w base aQ hr.1 hr.2 (Gs _ _ hr.1)).mono ?_;rintro e w' ⟨rfl,q⟩;exact⟨⟨0,rfl⟩,q⟩
theorem Index_any(v:Value)(docs:List au)(w:World)(hv:Docs w v docs)(hn:docs.length≤500)(hl:∀d∈docs,d.2.length≤2000)(hT:Tabs w)(gG:Spans w):
  Calls Tryz.prog 121 #[v] w fun e w'=>e=.returned (.string ⟨(eF docs).toArray⟩)∧Q w w':=by
 obtain⟨ip,BN,vG,vH,vI⟩:=info_parts tinfo201;obtain⟨ie,Dv,atc,atd,ate⟩:=info_parts tinfo231;obtain⟨a,cap,rfl,aJ⟩:=hv.value;have HC:=Hd aJ;have HT:=Hd hT;have nX:=Hd gG;have HL:=Hd hl;clear hv aJ hT gG hl;have vT:=@run_makeMap Tryz.prog;go_enter Tryz.func121,Tryz.ntmps121;go_wp2_with fail;have h0:IxQ (w.alloc (.map #[] 0)) w.heap.size (zB docs 0):=⟨[],_,IxW.start (MapS.made w),rfl⟩;have lK:Below w.heap.size w (w.alloc (.map #[] 0)):=(Below.refl _ w).alloc (Nat.le_refl _) _;have H0:=Hd h0;have xq:=Hd lK;clear h0 lK;go_loopw [20] (fun i wr=>∃k:Nat,i=.int .i64 (k:Nat)∧k≤docs.length∧Hid (IxQ wr w.heap.size (zB docs k))∧Hid (Below w.heap.size w wr)) (fun i _=>docs.length-(intOf i).toNat)
 case atStart=>exact⟨0,rfl,by omega,H0,xq⟩
 case round =>
  obtain⟨k,rfl,hk,HI,HB⟩:=hrel;obtain⟨wo,rfl⟩:∃wo:World,wo=wr:=⟨_,rfl⟩;have Fb:=HB.out.size;by_cases hlt:k<docs.length
  ·obtain⟨b,off,rfl,hc⟩:=HC.out (by omega)
   obtain⟨gX,dM⟩:=hc k hlt;have lJ:=ah HB.out gX;have nV:=ah HB.out dM;have qH:=ixTo_wf docs HL.out k hk;have vg:=HL.out _ (List.getElem_mem hlt);have kR:=Ko docs k hlt;have Uk:=Hd qH;have xu:=Hd kR;clear hc gX dM qH kR;generalize docs[k]=dk at *;obtain⟨id,tx⟩:=dk;simp only at lJ nV vg xu;have lU:=HB.out.alloc Fb (.cells #[ak id,ak tx] 47);have ct:=V6 tx (wo.alloc (.cells #[ak id,ak tx] 47)) (by omega) (HT.out.stays lU) (nX.out.stays lU)
   have Xq:IxQ (wo.alloc (.cells #[ak id,ak tx] 47)) w.heap.size (zB docs k):=by
    obtain⟨m,F,h1,h2⟩:=HI.out;exact⟨m,F,h1.q (Q.alloc _ _),h2⟩
   have Te:=lM tx vg;have CT:=Hd ct;have pI:=Hd lU;have LA:=Hd Xq;have Tg:=Hd Te;clear ct lU Xq Te HI HB;go_wp2_with fail;refine CT.out.mono ?_;rintro e w2 ⟨tv,rfl,otk,q2⟩;obtain⟨ta,tcap,rfl,Z4⟩:=wP otk;have aO:=pI.out.trans (Below.mono q2 pI.out.size);have mD:IxQ w2 w.heap.size (Hy docs k (aA tx) 0):=by
    obtain⟨m,F,h1,h2⟩:=LA.out;exact⟨m,F,h1.q q2,h2⟩
   have OT:=Hd otk;have HTC:=Hd Z4;have eG:=Hd aO;have HI2:=Hd mD;clear otk Z4 aO mD q2 CT pI LA;generalize aA tx=ts at *;go_wp2_with fail;go_loopw [29] (fun x wr=>∃j:Nat,x=.int .i64 (j:Nat)∧j≤ts.length∧Hid (IxQ wr w.heap.size (Hy docs k ts j))∧Hid (Below w.heap.size w wr)∧Hid (Ki w2 wr)) (fun x _=>ts.length-(intOf x).toNat)
   case atStart=>exact⟨0,rfl,by omega,HI2,eG,Ki.refl _⟩
   case round =>
    obtain⟨j,rfl,hj,HI,HB,HK⟩:=hrel;obtain⟨wi,rfl⟩:∃wi:World,wi=wr:=⟨_,rfl⟩;have JC:=HB.out.size;by_cases iI:j<ts.length
    ·obtain⟨gt,rfl,_⟩:=HTC.out (by omega)
     have ot:=HK.out.owns OT.out (by decide) (by decide)
     obtain⟨EO,JD⟩:=tokVs_at ts j iI;have Io:=gD ot EO;have hw4:=gD ot JD;have qH:=ixIn_wf docs k ts Uk.out Tg.out.1 (fun x hx=>(Tg.out.2 x hx).1) j hj
     have kR:=Y1 docs k ts j iI;have Te:=Tg.out.2 _ (List.getElem_mem iI);obtain⟨m,F,Xq,hA⟩:=HI.out;rw[←hA] at qH kR;have aiY:=Hd kR;have aoc:=Hd qH;clear ot EO JD kR qH;generalize ts[j]=tj at *;obtain⟨t,q⟩:=tj;simp only at Io hw4 Te aiY;have Ey:=heap_alloc_new wi (.cells #[ak t,.int .i64 (q:Nat)] 129);have aiZ:=Xq.q (Q.alloc wi (.cells #[ak t,.int .i64 (q:Nat)] 129));have dS:=HB.out.alloc JC (.cells #[ak t,.int .i64 (q:Nat)] 129);have vO:=HK.out.trans (Ki.of_q (Q.alloc wi (.cells #[ak t,.int .i64 (q:Nat)] 129)));have cx0:=(bN Ey).1;have vT:=aiZ.map;obtain⟨Ez,ali,Mc⟩:=aiZ.cur t;have aaY:=Yk (by omega) aoc.out t
     have Ld:w.heap.size≤(wi.alloc (.cells #[ak t,.int .i64 (q:Nat)] 129)).heap.size:=dS.size;have bC:=cur_cases aoc.out t;have OM:=Hd Ey;have alj:=Hd aiZ;have jT:=Hd dS;have vP:=Hd vO;clear Ey aiZ dS vO Xq HI HB HK hA;have QK:=Tg.out.1;have jM:∀u∈(#[.int .i64 (k:Nat),.slice none 0 0]:Array Value).toList,u.oneCell'=true:=by simp[Value.oneCell']
     rcases bC with bC|⟨l0,y,bC,Ot⟩|⟨l0,pv,ps,bC,Ot,oP⟩
     ·have sJ:=fun g cap W4=>alj.out.new t (k:Nat) (g:=g) (cap:=cap) (w4:=W4) (by rw[bC];simp)
      have yY:=fun nw=>Yl (m:=m) (t:=t) (k:=(k:Nat)) (q:=(q:Nat)) (l0:=[]) (pv:=.slice none 0 0) (nw:=nw) (ps:=[]) (.inl ⟨rfl,by rw[bC],by simp⟩)
      rw[bC] at Ez Mc sJ;have adi:=Hd yY;have Bg:=Hd sJ;have gB:(([]:List aR).length+1)*32≤140737488355328:=by decide
      clear yY sJ ali;go_wp2_with (first|(at_lookup;go_must (refine mM (wi.alloc (.cells #[ak t,.int .i64 (q:Nat)] 129)) (by rfl) _ _ 250 (by rfl) 9 157 Tryz.underlying250 Tryz.underlying9 (.slice none 0 0) (Kt _) w.heap.size (yV m) vT t (by rfl) (by rfl) _ Mc ?_))|(at_builtin;go_must (refine FY (wi.alloc (.cells #[ak t,.int .i64 (q:Nat)] 129)) (by rfl) _ _ 157 (by rfl) w.heap.size 201 _ ip (.agg #[.int .i64 0,.slice none 0 0]) 2 32 Tryz.underlying157 BN vG vH vI rfl (by decide) (by decide) _ _ _ (by rfl) Ez 1 (by decide) #[.int .i64 (k:Nat),.slice none 0 0] (by rw[World.size_alloc];rfl) rfl jM gB Ld ?_)))
      intro g capg W1 vS xI Ov _ _;have kg:Ki (wi.alloc (.cells #[ak t,.int .i64 (q:Nat)] 129)) W1:=Ki.grown xI (fun b hb cs ty fz hc=>by obtain⟨cs',xG⟩:=jE Ez b hb;rw[hc] at xG;cases xG;exact .inr rfl)
      have rC:=kg.get _ _ _ _ OM.out (by decide) (by decide)
      have Ns:=vP.out.trans kg;have zf:=jT.out.grown xI Ld (fun x hx=>(Ez.lt x hx).1)
      have QM:=Bg.out g capg W1 vS xI (Ov.imp_right (fun h=>by simpa[World.size_alloc] using h))
      have Z7:=Hd QM;have EC:=Hd rC;have zU:=Hd zf;have Xr:=Hd Ns;clear QM rC zf Ns kg vS xI Ov Ez vT cx0;go_wp2_with fail;obtain⟨r1,r2,r3,r4,r5,r6⟩:=Z7.out.reads;have cX:=(bN EC.out).2;have l9:=zU.out.size;have DZ:(([]:List aR)).length=0:=rfl
      (try rw[DZ] at r1 r2)
      refine Yj w.heap.size g ((0)*2) wi.heap.size ((q:Nat):Int) (.slice none 0 0) [] W1 r1 r2 cX r3 l9 (by simp) r4 _ _ _ _ _ _ _ _ _ _ _ _ _ _ _ _ _ _ _ _ _ _ _ _ _ _ _ _ _ _ _ _ _ _ _ _ _ _ _ _ _ _ _ _ _ _ _ _ _ _ _ _ _ _ _ _ _ _ _ _ _ _ _ _ _ _ _ _ _ _ _ _ _ _ _ _ _ _ _ _ _ _ _ _ _ _ _ _ _ _ _ _ _ _ _ _ _ _ _ _ _ _ _ _ _ ?_
      intro wa g2 cap2 z61 z62 z63 z64 z65 z66 z67 z68 z69 z70 z71 QN QO QS Gw;have gQ:=Z7.out.place2 _ QN QO QS zU.out
      (try rw[DZ] at gQ)
      generalize wa.setCell ⟨g,(0)*2+1,none⟩ (.slice (some ⟨g2,0,none⟩) (([]).length+1) cap2)=W2 at *;obtain⟨⟨F',hp⟩,aO,mP⟩:=gQ;have qE:=mP.get _ _ _ _ EC.out (by decide) (by decide)
      have cx2:=(bN qE).1;have yK:=hp.map;have jO:=Xr.out.trans mP;have HP:=Hd hp;have QT:=Hd aO;have ZW:=Hd jO;clear hp aO mP jO qE QN QO QS r1 r2 r3 r4 r5 r6 cX;go_wp2_with (at_mapUpdate;go_must (refine mJ _ (by rfl) _ _ _ 250 (by rfl) 9 157 Tryz.underlying250 Tryz.underlying9 w.heap.size (yV m) yK t (.slice (some ⟨g,0,none⟩) ((0)+1) capg) (by rfl) (by rfl) (by rfl) ?_))
      intro w5 ED uh;have h5:=HP.out.put (by first|exact ED|(rw[DZ];exact ED)) uh
      have nO:=QT.out.grown uh QT.out.size (fun x hx=>by cases hx;exact Nat.le_refl _)
      have vZ:=ZW.out.trans (Ki.map yK uh);have Z8:IxQ w5 w.heap.size (Hy docs k ts (j+1)):=⟨_,F',h5,by rw[UK,aiY.out];unfold oG;rw[adi.out]⟩
      have LB:=Hd Z8;have lS:=Hd nO;have Ma:=Hd vZ;clear Z8 nO vZ h5 ED uh yK;go_wp2_with fail;go_roundw;case rel=>exact⟨j+1,by go_num,by omega,LB,lS,Ma⟩
      case measure=>simp[intOf];omega
     ·obtain⟨g0,cap0,pG,aod,Xt⟩:=Y9 Ez bC
      have Dw:(dL m t).2.length=l0.length+1:=by rw[bC];simp
      have Mf:y.1≠(k:Int):=by have:=Ot y (by simp);omega
      have axV:(y.1==(k:Int))=false:=by simpa using Mf
      have axW:(y.1 != (k:Int))=true:=by simpa using Mf
      have ai0:∀x∈(dL m t).2,x.1≠(k:Int):=fun x hx=>by rw[bC] at hx;have:=Ot x hx;omega
      have yY:=fun nw=>Yl (m:=m) (t:=t) (k:=(k:Nat)) (q:=(q:Nat)) (l0:=(dL m t).2) (pv:=.slice none 0 0) (nw:=nw) (ps:=[]) (.inl ⟨rfl,rfl,ai0⟩)
      have sJ:=fun g cap W4=>alj.out.new t (k:Nat) (g:=g) (cap:=cap) (w4:=W4) ai0
      rw[pG] at Mc sJ Ez;have aqH:l0.length≤500:=by omega
      generalize y.1=yd at *;clear bC Ot ai0 ali;generalize dL m t=cur at *;obtain⟨cv,lc⟩:=cur;simp only at Dw yY sJ Xt pG aaY;rw[Dw] at sJ;generalize fH lc=xs1 at *;generalize l0.length=n0 at *;have adi:=Hd yY;have Bg:=Hd sJ;have Cx:=Hd Dw;have Ez:=Xt;have gB:(n0+1+1)*32≤140737488355328:=by omega
      clear yY sJ Dw pG Xt;go_wp2_with (first|(at_lookup;go_must (refine mM (wi.alloc (.cells #[ak t,.int .i64 (q:Nat)] 129)) (by rfl) _ _ 250 (by rfl) 9 157 Tryz.underlying250 Tryz.underlying9 (.slice none 0 0) (Kt _) w.heap.size (yV m) vT t (by rfl) (by rfl) _ Mc ?_))|(at_builtin;go_must (refine FY (wi.alloc (.cells #[ak t,.int .i64 (q:Nat)] 129)) (by rfl) _ _ 157 (by rfl) w.heap.size 201 _ ip (.agg #[.int .i64 0,.slice none 0 0]) 2 32 Tryz.underlying157 BN vG vH vI rfl (by decide) (by decide) _ _ _ (by rfl) Ez 1 (by decide) #[.int .i64 (k:Nat),.slice none 0 0] (by rw[World.size_alloc];rfl) rfl jM gB Ld ?_)))
      intro g capg W1 vS xI Ov _ _;have kg:Ki (wi.alloc (.cells #[ak t,.int .i64 (q:Nat)] 129)) W1:=Ki.grown xI (fun b hb cs ty fz hc=>by obtain⟨cs',xG⟩:=jE Ez b hb;rw[hc] at xG;cases xG;exact .inr rfl)
      have rC:=kg.get _ _ _ _ OM.out (by decide) (by decide)
      have Ns:=vP.out.trans kg;have zf:=jT.out.grown xI Ld (fun x hx=>(Ez.lt x hx).1)
      have QM:=Bg.out g capg W1 vS xI (Ov.imp_right (fun h=>by simpa[World.size_alloc] using h))
      have Z7:=Hd QM;have EC:=Hd rC;have zU:=Hd zf;have Xr:=Hd Ns;clear QM rC zf Ns kg vS xI Ov Ez vT cx0;go_wp2_with fail;obtain⟨r1,r2,r3,r4,r5,r6⟩:=Z7.out.reads;have cX:=(bN EC.out).2;have l9:=zU.out.size;have DZ:(lc).length=n0+1:=Cx.out
      (try rw[DZ] at r1 r2)
      refine Yj w.heap.size g ((n0+1)*2) wi.heap.size ((q:Nat):Int) (.slice none 0 0) [] W1 r1 r2 cX r3 l9 (by simp) r4 _ _ _ _ _ _ _ _ _ _ _ _ _ _ _ _ _ _ _ _ _ _ _ _ _ _ _ _ _ _ _ _ _ _ _ _ _ _ _ _ _ _ _ _ _ _ _ _ _ _ _ _ _ _ _ _ _ _ _ _ _ _ _ _ _ _ _ _ _ _ _ _ _ _ _ _ _ _ _ _ _ _ _ _ _ _ _ _ _ _ _ _ _ _ _ _ _ _ _ _ _ _ _ _ _ ?_
      intro wa g2 cap2 z61 z62 z63 z64 z65 z66 z67 z68 z69 z70 z71 QN QO QS Gw;have gQ:=Z7.out.place2 _ QN QO QS zU.out
      (try rw[DZ] at gQ)
      generalize wa.setCell ⟨g,(n0+1)*2+1,none⟩ (.slice (some ⟨g2,0,none⟩) (([]).length+1) cap2)=W2 at *;obtain⟨⟨F',hp⟩,aO,mP⟩:=gQ;have qE:=mP.get _ _ _ _ EC.out (by decide) (by decide)
      have cx2:=(bN qE).1;have yK:=hp.map;have jO:=Xr.out.trans mP;have HP:=Hd hp;have QT:=Hd aO;have ZW:=Hd jO;clear hp aO mP jO qE QN QO QS r1 r2 r3 r4 r5 r6 cX;go_wp2_with (at_mapUpdate;go_must (refine mJ _ (by rfl) _ _ _ 250 (by rfl) 9 157 Tryz.underlying250 Tryz.underlying9 w.heap.size (yV m) yK t (.slice (some ⟨g,0,none⟩) ((n0+1)+1) capg) (by rfl) (by rfl) (by rfl) ?_))
      intro w5 ED uh;have h5:=HP.out.put (by first|exact ED|(rw[DZ];exact ED)) uh
      have nO:=QT.out.grown uh QT.out.size (fun x hx=>by cases hx;exact Nat.le_refl _)
      have vZ:=ZW.out.trans (Ki.map yK uh);have Z8:IxQ w5 w.heap.size (Hy docs k ts (j+1)):=⟨_,F',h5,by rw[UK,aiY.out];unfold oG;rw[adi.out]⟩
      have LB:=Hd Z8;have lS:=Hd nO;have Ma:=Hd vZ;clear Z8 nO vZ h5 ED uh yK;go_wp2_with fail;go_roundw;case rel=>exact⟨j+1,by go_num,by omega,LB,lS,Ma⟩
      case measure=>simp[intOf];omega
     ·obtain⟨g,capg,pG,aod,Xt⟩:=Y9 Ez bC
      have aoe:∀x∈l0,x.1≠(k:Int):=fun x hx=>by have:=Ot x hx;omega
      have yY:=fun nw=>Yl (m:=m) (t:=t) (k:=(k:Nat)) (q:=(q:Nat)) (l0:=l0) (pv:=pv) (nw:=nw) (ps:=ps) (.inr bC)
      obtain⟨g0,cap0,uV,QM⟩:=alj.out.old t (k:Nat) bC aoe;rw[uV] at pG Mc;cases pG;simp only at aod;have aqH:l0.length≤500:=by rw[bC] at aaY;simp at aaY;omega
      have adi:=Hd yY;have Z7:=Hd QM;have zU:=jT;have Xr:=vP;have EC:=OM;clear yY QM bC Ot aoe ali uV Ez Xt aaY;go_wp2_with (at_lookup;go_must (refine mM (wi.alloc (.cells #[ak t,.int .i64 (q:Nat)] 129)) (by rfl) _ _ 250 (by rfl) 9 157 Tryz.underlying250 Tryz.underlying9 (.slice none 0 0) (Kt _) w.heap.size (yV m) vT t (by rfl) (by rfl) _ Mc ?_))
      generalize wi.alloc (.cells #[ak t,.int .i64 (q:Nat)] 129)=W1 at *;obtain⟨r1,r2,r3,r4,r5,r6⟩:=Z7.out.reads;have cX:=(bN EC.out).2;have l9:=zU.out.size;have DZ:(l0).length=l0.length:=rfl
      (try rw[DZ] at r1 r2)
      refine Yj w.heap.size g ((l0.length)*2) wi.heap.size ((q:Nat):Int) pv ps W1 r1 r2 cX r3 l9 (by omega) r4 _ _ _ _ _ _ _ _ _ _ _ _ _ _ _ _ _ _ _ _ _ _ _ _ _ _ _ _ _ _ _ _ _ _ _ _ _ _ _ _ _ _ _ _ _ _ _ _ _ _ _ _ _ _ _ _ _ _ _ _ _ _ _ _ _ _ _ _ _ _ _ _ _ _ _ _ _ _ _ _ _ _ _ _ _ _ _ _ _ _ _ _ _ _ _ _ _ _ _ _ _ _ _ _ _ ?_
      intro wa g2 cap2 z61 z62 z63 z64 z65 z66 z67 z68 z69 z70 z71 QN QO QS Gw;have gQ:=Z7.out.place2 _ QN QO QS zU.out
      (try rw[DZ] at gQ)
      generalize wa.setCell ⟨g,(l0.length)*2+1,none⟩ (.slice (some ⟨g2,0,none⟩) ((ps).length+1) cap2)=W2 at *;obtain⟨⟨F',hp⟩,aO,mP⟩:=gQ;have qE:=mP.get _ _ _ _ EC.out (by decide) (by decide)
      have cx2:=(bN qE).1;have yK:=hp.map;have jO:=Xr.out.trans mP;have HP:=Hd hp;have QT:=Hd aO;have ZW:=Hd jO;clear hp aO mP jO qE QN QO QS r1 r2 r3 r4 r5 r6 cX;go_wp2_with (at_mapUpdate;go_must (refine mJ _ (by rfl) _ _ _ 250 (by rfl) 9 157 Tryz.underlying250 Tryz.underlying9 w.heap.size (yV m) yK t (.slice (some ⟨g,0,none⟩) ((l0.length)+1) capg) (by rfl) (by rfl) (by rfl) ?_))
      intro w5 ED uh;have h5:=HP.out.put (by first|exact ED|(rw[DZ];exact ED)) uh
      have nO:=QT.out.grown uh QT.out.size (fun x hx=>by cases hx;exact Nat.le_refl _)
      have vZ:=ZW.out.trans (Ki.map yK uh);have Z8:IxQ w5 w.heap.size (Hy docs k ts (j+1)):=⟨_,F',h5,by rw[UK,aiY.out];unfold oG;rw[adi.out]⟩
      have LB:=Hd Z8;have lS:=Hd nO;have Ma:=Hd vZ;clear Z8 nO vZ h5 ED uh yK;go_wp2_with fail;go_roundw;case rel=>exact⟨j+1,by go_num,by omega,LB,lS,Ma⟩
      case measure=>simp[intOf];omega
    ·have qh:j=ts.length:=by omega
     subst qh;rw[←xu.out] at HI;clear HK;go_wp2_with fail;go_roundw;case rel=>exact⟨k+1,by go_num,by omega,HI,HB⟩
     case measure=>simp[intOf];omega
  ·have cO:k=docs.length:=by omega
   subst cO;obtain⟨m,F,Xq,hA⟩:=HI.out;have qH:=ixTo_wf docs HL.out docs.length (Nat.le_refl _);rw[←hA] at qH;have avG:=qH.count;have ET:m.length=(qA m).length:=by simp
   have alk:(yV m).length=m.length:=by simp
   have yt:∀x∈yV m,x.1.length≤maxLen:=by
    intro x hx;obtain⟨y,hy,rfl⟩:=List.mem_map.1 hx;have:=qH.small (y.1,aK y.2.2) (List.mem_map_of_mem (f:=fun e:Bytes×(Value×List aR)=>(e.1,aK e.2.2)) hy)
    show y.1.length≤maxLen;unfold maxLen;simp only at this;omega
   obtain⟨D,hD,wh,Mg⟩:=Xq.map.owns (P:=Tryz.prog) 9 Tryz.underlying9 (by rw[alk];unfold maxLen;omega) yt
   have c1:=callsIn_wide.1 (Tryz.maps_Keys_157 (some w.heap.size) wo);have c2:=callsIn_wide.1 (Tryz.slices_Sorted_keys_88_157 w.heap.size (yV m).length D noR wo hD (by rw[wh,alk];unfold maxLen;omega) (by rw[wh,alk];omega))
   have C1:=Hd c1;have C2:=Hd c2;have LA:=Hd Xq;have Uk:=Hd qH;have Mh:=Hd Mg;have Tk:=Hd hA;clear c1 c2 Xq qH hD wh Mg yt hA;go_wp2_with fail;refine C1.out.mono ?_;rintro e w2 ⟨rfl,rfl⟩;go_wp2_with fail;refine C2.out.mono ?_;rintro e w3 ⟨sv,ss,rfl,hp,ho,_,jJ⟩;have wD:ss.mergeSort (fun x y=>decide (x≤y))=bE ((qA m).map (·.1)):=by
    have uY:ss.Perm ((qA m).map (·.1)):=by
     refine hp.trans (Mh.out.trans (List.Perm.of_eq ?_));simp[List.map_map]
    exact V9 uY
   rw[wD] at ho;have bY:ss.length=(bE ((qA m).map (·.1))).length:=by rw[←wD];simp
   rw[bY] at ho;have FK:(bE ((qA m).map (·.1))).length=m.length:=by simp[bE]
   have xH:∀x∈bE ((qA m).map (·.1)),x.length≤40:=by
    intro x hx;have qE:x∈(qA m).map (·.1):=by simpa[bE] using hx
    obtain⟨y,hy,rfl⟩:=List.mem_map.1 qE;exact Uk.out.small y hy
   obtain⟨sa,scap,rfl,zV⟩:=wP ho;have ng:Q wo w3:=(Q.alloc wo _).trans jJ;have alm:=LA.out.q ng;have aof:=HB.out.trans (Below.mono ng HB.out.size);have sV:=fun t=>alm.posts t
   have EG:eF docs=Dz ((bE ((qA m).map (·.1))).map (Ba (qA m))):=by unfold eF sF;rw[←Tk.out]
   have Vg:∀t,Ba (qA m) t=(t,qW (aK (dL m t).2)):=by
    intro t;unfold Ba dL;rw[Jl];cases getM t m<;>rfl
   have GN:=Hd zV;have atf:=Hd alm;have iZ:=Hd aof;have uq:=Hd sV;have Tp:=Hd xH;have atg:=Hd EG;have ai1:=Hd Vg;clear hp ho jJ wD ng alm aof sV zV xH EG Vg Mh LA HB Tk C1 C2;generalize bE ((qA m).map (·.1))=ks at *
   have axC:ks.length≤2000000:=by omega
   clear bY FK;go_wp2_with fail;go_loopw [10,82] (fun ev x wr=>∃j:Nat,x=.int .i64 (j:Nat)∧j≤ks.length∧Hid (wr.ownsRow w3.heap.size 231 2 ev j (dV ((ks.take j).map (Ba (qA m)))))∧Hid (Below w3.heap.size w3 wr)) (fun ev x _=>ks.length-(intOf x).toNat)
   case atStart=>exact⟨0,rfl,by omega,World.ownsRow_nil _ _ _ _,Below.refl _ _⟩
   case round =>
    obtain⟨j,rfl,hj,HO,HQ⟩:=hrel;obtain⟨wi,rfl⟩:∃wi:World,wi=wr:=⟨_,rfl⟩;have JC:=HQ.out.size;by_cases iI:j<ks.length
    ·obtain⟨gs,rfl,zV⟩:=GN.out (by omega)
     have lJ:=ah HQ.out (zV j (ak ks[j]) (by simp[encStr]))
     have hkj:=Tp.out _ (List.getElem_mem iI);have gU:(ks.take (j+1)).map (Ba (qA m))=(ks.take j).map (Ba (qA m))++[(ks[j],qW (aK (dL m ks[j]).2))]:=by
      rw[List.take_succ_eq_append_getElem iI,List.map_append,List.map_singleton,ai1.out]
     have sV:=(uq.out ks[j]).stays HQ.out;have aln:=atf.out.q HQ.out;have vT:=aln.map;have Mc:=(aln.cur ks[j]).2.2;have lD:=Yk (by omega) Uk.out ks[j]
     have adn:dV ((ks.take (j+1)).map (Ba (qA m)))=dV ((ks.take j).map (Ba (qA m)))++[ak ks[j],ak (qW (aK (dL m ks[j]).2))]:=by rw[gU,yA]
     have aog:=cur_long Uk.out ks[j];have c:=PPack_any _ _ wi sV (by omega) (fun p hp=>by have:=aog p hp;omega)
     obtain⟨pa,jc,TY⟩:∃pa jc,(dL m ks[j]).1=.slice pa (dL m ks[j]).2.length jc:=by obtain⟨x,y,h,_⟩:=sV.value;exact⟨x,y,h⟩
     rw[TY] at Mc c;generalize qW (aK (dL m ks[j]).2)=pk at *;obtain⟨pn,KX⟩:∃pn,pn=(dL m ks[j]).2.length:=⟨_,rfl⟩;rw[←KX] at c Mc;generalize (if aV (-1) (aK (dL m ks[j]).2)=true then(0:Int) else 1)=en at *
     have Cy:=HO.out;generalize dV ((ks.take j).map (Ba (qA m)))=xs0 at *;generalize ks[j]=t at *;have C:=Hd c;have qV:=Hd adn;clear zV gU adn aln c sV aog TY HO KX;go_wp2_with (at_lookup;go_must (refine mM wi (by rfl) _ _ 250 (by rfl) 9 157 Tryz.underlying250 Tryz.underlying9 (.slice none 0 0) (Kt _) w.heap.size (yV m) vT t (by rfl) (by rfl) _ Mc ?_))
     refine C.out.mono ?_;rintro e w4 ⟨rfl,q4⟩;have o4:=ownsRow_below Cy q4;have gZ:=HQ.out.trans (Below.mono q4 JC);have Yx:=gZ.size;have jM:∀u∈(#[ak t,ak pk]:Array Value).toList,u.oneCell'=true:=by simp[Value.oneCell']
     have gB:(j+1)*32≤140737488355328:=by omega
     have lQ:=Hd gZ;clear Cy q4 gZ C vT HQ;go_wp2_with (at_builtin;go_must (refine FY w4 (by rfl) _ _ 229 (by rfl) w3.heap.size 231 _ ie (.agg #[ak [],ak []]) 2 32 Tryz.underlying229 Dv atc atd ate rfl (by decide) (by decide) _ _ _ (by rfl) o4 1 (by decide) #[ak t,ak pk] (by rfl) rfl jM gB Yx ?_))
     intro g5 cap5 w5 Mi uh ak4 _ _;have nO:=lQ.out.grown uh Yx (fun x hx=>(o4.lt x hx).1)
     have EM:=Hd Mi;have lS:=Hd nO;clear Mi uh ak4 o4 nO;go_wp2_with fail;go_roundw;case rel=>exact⟨j+1,by go_num,by omega,by show World.ownsRow _ _ _ _ _ _ _;rw[qV.out];exact EM.out,lS⟩
     case measure=>simp[intOf];omega
    ·have qh:j=ks.length:=by omega
     subst qh;have Le:=HO.out;rw[List.take_length] at Le;have c:=DPack_any u10 (ks.map (Ba (qA m))) wi w3.heap.size (by rw[List.length_map];exact Le) (by rw[List.length_map];omega) (fun e he=>by
      obtain⟨t,ht,rfl⟩:=List.mem_map.1 he;have h1:=Tp.out t ht;have h2:=Yk (by omega) Uk.out t
      have h3:=packL_len (aK (dL m t).2) (by rw[List.length_map];omega)
      rw[ai1.out];exact⟨by simp only;omega,by simp only;omega⟩)
     rw[←atg.out] at c;have zl:=iZ.out.trans (HQ.out.mono iZ.out.size);have C:=Hd c;have vX:=Hd zl;clear c zl Le HO;go_wp2_with fail;refine C.out.mono ?_;rintro e w5 ⟨⟨n,rfl⟩,q5⟩;have zn:=vX.out.trans (Below.mono q5 vX.out.size);have vY:=Hd zn;clear q5 zn;go_wp2_with fail;go_ret;exact⟨rfl,vY.out⟩
theorem Text_gen(M:Nat)(v:Value)(ps:List Bytes)(w:World)(hv:Strs w v ps)(hM:ps.length*(M+10)≤140000000000000)(hp:∀p∈ps,p.length≤M):
  Calls Tryz.prog 120 #[v] w fun e w'=>e=.returned (.string ⟨(jQ ps).toArray⟩)∧Q w w':=by
 have qG:ps.length≤140000000000000:=Nat.le_trans (Nat.le_mul_of_pos_right _ (by omega)) hM
 obtain⟨a,cap,rfl,aJ⟩:=hv.value;have HC:=Hd aJ;have HP:=Hd hp;clear aJ hv hp;go_enter Tryz.func120,Tryz.ntmps120;go_wp2_with fail;go_loopw [8,5] (fun i _ wr=>∃k:Nat,k≤ps.length∧i=.int .i64 k∧Hid (∃r,Bld wr w.heap.size w.heap.size r (jQ (ps.take k)))∧Hid (Below w.heap.size w wr)) (fun i _ _=>ps.length-(intOf i).toNat)
 case atStart=>exact⟨0,by omega,rfl,⟨none,Bld.new w _ (Nat.le_refl _)⟩,(Below.refl _ _).alloc (Nat.le_refl _) _⟩
 case round =>
  obtain⟨k,hk,rfl,HB,HW⟩:=hrel;obtain⟨wo,rfl⟩:∃wo:World,wo=wr:=⟨_,rfl⟩;by_cases hlt:k<ps.length
  ·obtain⟨b,off,rfl,hc⟩:=HC.out (by omega)
   have zo:=hc k hlt;have hcw:wo.cell? ⟨b,off+k,none⟩=some (.string ⟨ps[k].toArray⟩):=ah HW.out zo;have gQ:=HP.out _ (List.getElem_mem hlt);have ZR:=SI ps k hlt;have Dp:=VE (ps.take k) M (fun s hs=>HP.out s (List.mem_of_mem_take hs))
   have vg:(ps.take k).length≤k:=List.length_take_le _ _;have ald:(jQ (ps.take k)).length+(M+10)≤140000000000000:=by
    have h1:(ps.take k).length*(M+10)≤k*(M+10):=Nat.mul_le_mul_right _ vg;have h2:(k+1)*(M+10)≤ps.length*(M+10):=Nat.mul_le_mul_right _ (by omega)
    rw[Nat.succ_mul] at h2;omega
   generalize ps[k]=p at *;generalize jQ (ps.take k)=pre at *;clear Dp vg;have as8:=eP p.length;have hW:=HW.out;have aY:=hW.size;obtain⟨r,nU⟩:=HB.out;have cv:=Ai (.slice (some ⟨wo.heap.size,0,none⟩) 1 1) [p.length] (wo.alloc (.cells #[.int .u64 (p.length:Nat)] 144)) (Sl.lit wo #[.int .u64 (p.length:Nat)] 144 1 1 rfl) (by simp) (by intro n hn;simp at hn;omega)
   have Nk:dQ [p.length]=bI p.length:=by simp[dQ]
   rw[Nk] at cv;have Kl:=Hd ZR;have rM:=Hd hc;have CV:=Hd cv;have Eu:=Hd nU;clear ZR hc zo cv Nk nU hW;go_wp2_with fail;refine CV.out.mono ?_;rintro e w2 ⟨rfl,q2⟩;have gJ:Q wo w2:=(Q.alloc _ _).trans q2;have aO:=Eu.out.q gJ;have QG:Below w.heap.size w w2:=HW.out.trans (Below.mono gJ (by omega))
   have Ou:=QG.size;have cw:=iM w.heap.size w.heap.size r pre (bI p.length++p) w2 aO (by rw[List.length_append];omega) (by omega)
   have aI:pre++(bI p.length++p)=jQ (ps.take (k+1)):=by rw[Kl.out];rfl
   rw[aI] at cw;have CW:=Hd cw;have OL:=Hd QG;have eG:=Hd aO;clear q2 gJ aO QG cw aI;go_wp2_with fail;rw[bytes_append];refine CW.out.mono ?_;rintro e w3 ⟨rfl,kP,r',lF,qg⟩;have iZ:=Hd (OL.out.trans (eG.out.below kP (by omega)))
   have zh:=Hd lF;clear kP lF qg;go_wp2_with fail;go_roundw;case rel=>exact⟨k+1,by omega,by go_num,⟨r',zh.out⟩,iZ⟩
   case measure=>simp[intOf];omega
  ·have jL:k=ps.length:=by omega
   subst jL;rw[List.take_length] at HB;obtain⟨r,nU⟩:=HB.out;have hW:=HW.out;have aY:=hW.size;have c:=NW w.heap.size w.heap.size r (jQ ps) wo nU (by omega)
   have C:=Hd c;clear c nU hW;go_wp2_with fail;refine C.out.mono ?_;rintro e w3 ⟨rfl,jJ⟩;have iZ:=Hd (HW.out.trans jJ);clear jJ;go_wp2_with fail;go_ret;exact⟨rfl,iZ.out⟩
end
section
open Go.RowKit
theorem aeV(c:Nat)(h:c<4294967296):bits .xor .u32 ((c:Int) / 2) (bits .and .u32 3988292384 (-(bits .and .u32 (c:Int) 1)%4294967296))=((wH c:Nat):Int):=by
 have h1:bits .and .u32 (c:Int) ((1:Nat):Int)=((c &&& 1:Nat):Int):=u32_and_nat c 1 h (by decide)
 rw[show((1:Nat):Int)=1 from rfl,Nat.and_one_is_mod] at h1
 rw[h1,show((c:Int) / 2)=((c / 2:Nat):Int) from rfl]
 have h2:c / 2<4294967296:=by omega
 unfold wH;rcases Nat.mod_two_eq_zero_or_one c with e|e
 ·rw[e]
  rw[show(-((0:Nat):Int))%4294967296=((0:Nat):Int) by decide,show(3988292384:Int)=((3988292384:Nat):Int) from rfl,
   u32_and_nat _ _ (by decide) (by decide),u32_xor_nat _ _ h2 (by decide)]
  simp
 ·rw[e]
  rw[show(-((1:Nat):Int))%4294967296=((4294967295:Nat):Int) by decide,show(3988292384:Int)=((3988292384:Nat):Int) from rfl,
   u32_and_nat _ _ (by decide) (by decide),u32_xor_nat _ _ h2 (by decide)]
  rw[if_pos rfl];congr 1
theorem Crc_any(v:Value)(ps:List Bytes)(w:World)(hv:Strs w v ps)(hn:ps.length≤9223372036854775807)(hs:∀p∈ps,p.length≤9223372036854775807):
  Calls Tryz.prog 123 #[v] w fun e w'=>e=.returned (.int .u32 (wI ps.flatten:Nat))∧w=w':=by
 obtain⟨a,cap,rfl,aJ⟩:=hv.value;have HC:=Hd aJ;have HS:=Hd hs;clear aJ hs hv;go_enter Tryz.func123,Tryz.ntmps123;go_wp2_with fail;go_loop [9,3,5,6] (fun i c _ _=>∃k:Nat,k≤ps.length∧i=.int .i64 k∧c=.int .u32 (rW (ps.take k).flatten:Nat)) (fun i _ _ _=>ps.length-(intOf i).toNat)
 case atStart=>exact⟨0,by omega,rfl,rfl⟩
 case round =>
  obtain⟨k,hk,rfl,rfl⟩:=hrel;by_cases hlt:k<ps.length
  ·obtain⟨b,off,rfl,hc⟩:=HC.out (by omega)
   have zo:=hc k hlt;have gQ:=HS.out _ (List.getElem_mem hlt);have wN:=flat_take ps k hlt;generalize ps[k]=p at *;generalize (ps.take k).flatten=pre at *;have HF:=Hd wN;have rM:=Hd hc;clear wN hc;go_wp2_with fail;go_loop [15,3,6] (fun i c _=>∃j:Nat,j≤p.length∧i=.int .i64 j∧c=.int .u32 (rW (pre++p.take j):Nat)) (fun i _ _=>p.length-(intOf i).toNat)
   case atStart=>exact⟨0,by omega,rfl,by simp⟩
   case round =>
    obtain⟨j,hj,rfl,rfl⟩:=hrel;have FI:=Gm (pre++p.take j);by_cases iI:j<p.length
    ·have aI:=aa5 pre p j iI
     have hx:(p[j]).toNat<256:=UInt8.toNat_lt _;generalize hy:rW (pre++p.take j)=c at *;have HY:=Hd hy;have bJ:=Hd aI;clear hy aI;go_wp2_with fail;have rE:c ^^^ (p[j]).toNat<4294967296:=Nat.xor_lt_two_pow (n:=32) FI (by omega)
     go_loop [24,3] (fun i d=>∃m:Nat,m≤8∧i=.int .i64 m∧d=.int .u32 (qp m (c ^^^ (p[j]).toNat):Nat)) (fun i _=>8-(intOf i).toNat)
     case atStart=>exact⟨0,by omega,rfl,int_eq (by
      rw[show((({ data:=List.toArray p }:ByteArray)[j]).toNat:Int)%4294967296=((p[j]).toNat:Int) from Int.emod_eq_of_lt (by omega) (by show((p[j]).toNat:Int)<_;omega)]
      exact u32_xor_nat c (p[j]).toNat FI (by omega))⟩
     case round =>
      obtain⟨m,hm,rfl,rfl⟩:=hrel;have vg:=Lr m _ rE;by_cases ET:m<8
      ·have zV:qp (m+1) (c ^^^ (p[j]).toNat)=wH (qp m (c ^^^ (p[j]).toNat)):=rfl
       generalize qp m (c ^^^ (p[j]).toNat)=d at *;have OQ:=aeV d vg;have GN:=Hd zV;have Z9:=Hd OQ;clear zV OQ;go_wp2_with fail;go_round;case rel=>exact⟨m+1,by omega,by go_num,int_eq (by rw[GN.out,←Z9.out])⟩
       case measure=>simp[intOf];omega
      ·have nk:m=8:=by omega
       subst nk;go_wp2_with fail;go_round;case rel=>exact⟨j+1,by omega,by go_num,by rw[bJ.out]⟩
       case measure=>simp[intOf];omega
    ·have Ck:j=p.length:=by omega
     subst Ck;go_wp2_with fail;go_round;case rel=>exact⟨k+1,by omega,by go_num,by rw[HF.out,List.take_length]⟩
     case measure=>simp[intOf];omega
  ·have jL:k=ps.length:=by omega
   have hx:=Gm ps.flatten;subst jL;rw[List.take_length];generalize hc:rW ps.flatten=c at *;have HCR:=Hd hc;clear hc;go_wp2_with fail;go_ret;refine⟨gV ?_,rfl⟩;show bits BinOp.xor IntKind.u32 IntKind.u32.max (c:Int)=_;rw[show IntKind.u32.max=((4294967295:Nat):Int) by decide,u32_xor_nat _ _ (by decide) hx,Nat.xor_comm]
   unfold wI;rw[HCR.out]
theorem Za(w:World)(a b c d:Nat)(ha:a<256)(hb:b<256)(hc:c<256)(hd:d<256)(r:Bytes)(hr:r=[UInt8.ofNat a,UInt8.ofNat b,UInt8.ofNat c,UInt8.ofNat d]):
  (convert 147 9 (.slice (some ⟨w.heap.size,0,none⟩) 4 4)).run Tryz.prog (w.alloc (.cells #[.int .u8 a,.int .u8 b,.int .u8 c,.int .u8 d] 5)) =
   .ok (.string ⟨r.toArray⟩) (w.alloc (.cells #[.int .u8 a,.int .u8 b,.int .u8 c,.int .u8 d] 5)):=by
 subst hr;refine run_convert_bytes_back (P:=Tryz.prog) _ 147 9 5 ⟨w.heap.size,0,none⟩ 4 [UInt8.ofNat a,UInt8.ofNat b,UInt8.ofNat c,UInt8.ofNat d] Tryz.underlying147 Tryz.underlying5 Tryz.underlying9 ?_;intro j hj;rw[Jd];simp only[World.cell?,heap_alloc_new];match j,hj with
 | 0,_=>simp[Nat.mod_eq_of_lt ha]
 | 1,_=>simp[Nat.mod_eq_of_lt hb]
 | 2,_=>simp[Nat.mod_eq_of_lt hc]
 | 3,_=>simp[Nat.mod_eq_of_lt hd]
set_option maxRecDepth 20000 in
theorem Zb(v:Nat)(w:World)(hv:v<4294967296):
  Calls Tryz.prog 122 #[.int .u32 v] w fun e w'=>e=.returned (.string ⟨(oh v).toArray⟩)∧Q w w':=by
 have k4:=Za w (v%256) (v / 256%256) (v / 65536%256) (v / 16777216) (by omega) (by omega) (by omega) (by omega) (oh v) (by unfold oh;rw[show v / 16777216%256=v / 16777216 by omega])
 simp only[Int.natCast_emod,Int.natCast_ediv,Int.cast_ofNat_Int] at k4
 generalize oh v=r at *
 go_enter Tryz.func122,Tryz.ntmps122
 go_wp2_with fail
 go_ret
 exact⟨rfl,Q.alloc _ _⟩
end
section
open Go.RowKit
theorem PE(l:List aN):(Dz l).length≤4500000000000:=by
 unfold Dz;split
 ·rename_i h
  simp only[Bool.and_eq_true,decide_eq_true_eq] at h;have hs:=Gs _ _ h.1;obtain⟨m,yI,yK⟩:∃m,l.length≤16*m∧(m=0∨16*(m-1)<l.length):=⟨(l.length+15) / 16,by omega,by omega⟩
  rw[UN l m yI yK,List.length_append];have h1:=Kq hs m;have h2:=Kr hs m;have h3:m≤65537:=by omega
  have h4:m*67110400≤65537*67110400:=Nat.mul_le_mul_right _ h3;omega
 ·simp
noncomputable def oH(l:List au):Bytes×Int:=by
 classical
 exact if l.length<1∨500<l.length then([],6) else if fV l then(jV l (eF l),0) else([],1)
theorem Wp(l:List au)(k:Nat)(h:k<l.length):jg (l.take (k+1))=jg (l.take k)++(aM l[k].1++aM l[k].2):=by
 rw[List.take_succ_eq_append_getElem h,Je];simp[jg]
theorem PG(l:List au)(h:∀d∈l,d.1.length≤40∧d.2.length≤2000):(jg l).length≤l.length*2100:=by
 induction l with
 | nil=>simp[jg]
 | cons d l ih =>
  have h1:=ih (fun x hx=>h x (List.mem_cons_of_mem _ hx))
  have h2:=h d (List.mem_cons_self ..);have h3:=iF d.1;have h4:=iF d.2;simp only[jg,List.length_append,List.length_cons];omega
theorem Strs.pair(w:World)(a b:Bytes)(e:TypeId):Strs (w.alloc (.cells #[.string ⟨a.toArray⟩,.string ⟨b.toArray⟩] e)) (.slice (some ⟨w.heap.size,0,none⟩) 2 2) [a,b]:=Sl.lit w #[.string ⟨a.toArray⟩,.string ⟨b.toArray⟩] e 2 1 rfl
theorem oI{a b:Bytes}(h:iT a b=true):a.length≤40∧b.length≤2000:=by
 simp only[iT,Bool.and_eq_true,decide_eq_true_eq] at h;exact⟨h.1.1.1.2,h.1.1.2⟩
theorem ahf(v:Value)(l:List au)(w:World)(hv:Docs w v l)(h:l.length<1∨500<l.length)(hn:l.length≤9223372036854775807):
  Calls Tryz.prog 73 #[v] w fun e w'=>e=.returned (.tuple #[.string ⟨([]:Bytes).toArray⟩,.int .i64 6])∧Q w w':=by
 obtain⟨a,cap,rfl,_⟩:=hv.value;clear hv;rcases h with h|h;all_goals
  go_enter Tryz.func73,Tryz.ntmps73;go_wp2_with fail;go_ret2;exact⟨rfl,Q.refl _⟩
theorem Build_bad(v:Value)(l:List au)(w:World)(hv:Docs w v l)(h:¬(l.length<1∨500<l.length))(QU:¬fV l)(hl:∀d∈l,d.1.length≤9223372036854775807∧d.2.length≤9223372036854775807)(hT:Tabs w):
  Calls Tryz.prog 73 #[v] w fun e w'=>e=.returned (.tuple #[.string ⟨([]:Bytes).toArray⟩,.int .i64 1])∧Q w w':=by
 have c:=N8 v l w hv (by omega) hl hT
 obtain⟨a,cap,rfl,_⟩:=hv.value;have C:=Hd c;have HB:=Hd QU;clear c hv QU hl hT;go_enter Tryz.func73,Tryz.ntmps73;go_wp2_with fail;refine C.out.mono ?_;rintro e w1 ⟨q1,hg⟩;obtain⟨b,rfl⟩:∃b,e=.returned (.tuple #[.agg #[.slice a l.length cap,.map (some b)],.bool false]):=by
  rcases hg with ⟨h1,b,h2,_⟩|⟨_,b,h2⟩
  ·refine⟨b,?_⟩
   rw[h2,decide_eq_false (fun h3=>HB.out ⟨h1,h3⟩)]
  ·exact⟨b,h2⟩
 have hb:=(show Below w.heap.size w w1 from q1)
 have aY:=q1.size;have HQ:=Hd hb;clear hb hg q1;go_wp2_with fail;go_ret2;exact⟨rfl,HQ.out.alloc aY _⟩
theorem abM(v:Value)(l:List au)(w:World)(hv:Docs w v l)(h:¬(l.length<1∨500<l.length))(bD:fV l)(hT:Tabs w)(gG:Spans w):
  Calls Tryz.prog 73 #[v] w fun e w'=>e=.returned (.tuple #[.string ⟨(jV l (eF l)).toArray⟩,.int .i64 0])∧Q w w':=by
 have aD:∀d∈l,d.1.length≤40∧d.2.length≤2000:=fun d hd=>oI (bD.1 d hd)
 have c:=N8 v l w hv (by omega) (fun d hd=>by have:=aD d hd;omega) hT
 have pG:=hv;obtain⟨a,cap,rfl,aJ⟩:=hv.value;have C:=Hd c;have ni:=Hd bD;have HV:=Hd pG;have HC:=Hd aJ;have HT:=Hd hT;have nX:=Hd gG;have HL:=Hd aD;clear c hv pG bD aJ hT gG aD;go_enter Tryz.func73,Tryz.ntmps73;go_wp2_with fail;refine C.out.mono ?_;rintro e w1 ⟨q1,hg⟩;obtain⟨mb,rfl⟩:∃b,e=.returned (.tuple #[.agg #[.slice a l.length cap,.map (some b)],.bool true]):=by
  rcases hg with ⟨h1,b,h2,_⟩|⟨h1,_⟩
  ·refine⟨b,?_⟩
   rw[h2,decide_eq_true ni.out.2]
  ·exact absurd ni.out.1 h1
 have dS:=(show Below w.heap.size w w1 from q1)
 have l9:=q1.size;clear hg q1 C;obtain⟨wa,Xu⟩:∃wa,w1.alloc (.cells #[.slice a l.length cap,.map (some mb)] 73)=wa:=⟨_,rfl⟩;have Jv:Below w.heap.size w wa:=by rw[←Xu];exact dS.alloc l9 _
 have nU:Bld (wa.alloc (.cells #[.pointer none,.slice none 0 0] 179)) w.heap.size wa.heap.size none []:=Bld.new wa _ Jv.size;have zk:=Jv.alloc Jv.size (.cells #[.pointer none,.slice none 0 0] 179);have cv:=Ai _ [l.length] ((wa.alloc (.cells #[.pointer none,.slice none 0 0] 179)).alloc (.cells #[.int .u64 (l.length:Nat)] 144)) (Sl.lit _ #[.int .u64 (l.length:Nat)] 144 1 1 rfl) (by simp) (by intro n vE;simp at vE;omega)
 rw[show dQ [l.length]=bI l.length by simp[dQ]] at cv
 have Dp:=eP l.length;have ath:wa.heap.size=w1.heap.size+1:=by rw[←Xu];simp
 have Vh:=nU.alloc (.cells #[.int .u64 (l.length:Nat)] 144);simp only[World.size_alloc,ath] at cv Vh;have CV:=Hd cv;have HB:=Hd (zk.alloc zk.size (.cells #[.int .u64 (l.length:Nat)] 144));have zh:=Hd Vh;have HWA:=Hd Xu;clear cv zk nU Jv dS Xu Vh;go_wp2_with fail;rw[HWA.out];refine CV.out.mono ?_;rintro e w2 ⟨rfl,q2⟩;have aO:=HB.out.trans (Below.mono q2 HB.out.size);have Vh:=zh.out.q q2;have cw:=iM w.heap.size (w1.heap.size+1) none [] (mX++bI l.length) w2 Vh (by simp[mX];omega) aO.size
 have CW:=Hd cw;have eG:=Hd aO;have aoi:=Hd Vh;clear cw aO Vh q2 HB zh CV;go_wp2_with fail;rw[show({ data:=#[67,68,88,71] }:ByteArray)++⟨(bI l.length).toArray⟩=⟨(mX++bI l.length).toArray⟩ from bytes_append mX (bI l.length)]
 refine CW.out.mono ?_;rintro e w3 ⟨rfl,kP,r3,aoj,_⟩;have jJ:=eG.out.trans (aoi.out.below kP eG.out.size);have iZ:=Hd jJ;have ati:=Hd aoj;clear jJ aoj kP CW eG aoi;go_wp2_with fail;go_loopw [33] (fun i wr=>∃k:Nat,i=.int .i64 (k:Nat)∧k≤l.length∧Hid (∃r,Bld wr w.heap.size (w1.heap.size+1) r (mX++(bI l.length++jg (l.take k))))∧Hid (Below w.heap.size w wr)) (fun i _=>l.length-(intOf i).toNat)
 case atStart=>exact⟨0,rfl,by omega,⟨r3,by simpa[jg] using ati.out⟩,iZ⟩
 case round =>
  obtain⟨k,rfl,hk,KU,HB⟩:=hrel;obtain⟨wo,rfl⟩:∃wo:World,wo=wr:=⟨_,rfl⟩;have Fb:=HB.out.size;by_cases hlt:k<l.length
  ·obtain⟨b,off,rfl,hc⟩:=HC.out (by omega)
   obtain⟨gX,dM⟩:=hc k hlt;have lJ:=ah HB.out gX;have nV:=ah HB.out dM;have ku:=HL.out _ (List.getElem_mem hlt);have Xv:=Wp l k hlt;have wT:=PG (l.take k) (fun d hd=>HL.out d (List.mem_of_mem_take hd))
   rw[List.length_take] at wT;have Cz:=Hd Xv;clear hc gX dM Xv;generalize l[k]=d at *;obtain⟨id,tx⟩:=d;simp only at lJ nV ku Cz;have Ey:=heap_alloc_new wo (.cells #[.string ⟨id.toArray⟩,.string ⟨tx.toArray⟩] 47);obtain⟨cx0,cx1⟩:=bN Ey;have dS:=HB.out.alloc Fb (.cells #[.string ⟨id.toArray⟩,.string ⟨tx.toArray⟩] 47);have ct:=UF _ [id,tx] ((wo.alloc (.cells #[.string ⟨id.toArray⟩,.string ⟨tx.toArray⟩] 47)).alloc (.cells #[.string ⟨id.toArray⟩,.string ⟨tx.toArray⟩] 9)) (Strs.pair _ id tx 9) (by simp) (by intro p hp;simp at hp;rcases hp with rfl|rfl<;>omega)
   rw[show jQ [id,tx]=aM id++aM tx by simp[jQ]] at ct
   simp only[World.size_alloc] at ct;have EO:=iF id;have JD:=iF tx;obtain⟨r,gK⟩:=KU.out;have CT:=Hd ct;have zU:=Hd ((gK.alloc (.cells #[.string ⟨id.toArray⟩,.string ⟨tx.toArray⟩] 47)).alloc (.cells #[.string ⟨id.toArray⟩,.string ⟨tx.toArray⟩] 9));have jT:=Hd (dS.alloc dS.size (.cells #[.string ⟨id.toArray⟩,.string ⟨tx.toArray⟩] 9));clear ct gK dS Ey KU HB;go_wp2_with fail;refine CT.out.mono ?_;rintro e w4 ⟨rfl,q4⟩;have gZ:=jT.out.trans (Below.mono q4 jT.out.size);have Yz:=zU.out.q q4;have cw:=iM w.heap.size (w1.heap.size+1) r _ (aM id++aM tx) w4 Yz (by simp only[List.length_append,mX,List.length_cons,List.length_nil];omega) gZ.size
   have CW:=Hd cw;have lQ:=Hd gZ;have adq:=Hd Yz;clear cw gZ Yz q4 jT zU CT cx0 cx1;go_wp2_with fail;refine CW.out.mono ?_;rintro e w5 ⟨rfl,Nc,r5,Vj,_⟩;have nO:=lQ.out.trans (adq.out.below Nc lQ.out.size);rw[List.append_assoc,List.append_assoc,←Cz.out] at Vj;have lS:=Hd nO;have ai2:=Hd Vj;clear nO Vj Nc CW lQ adq;go_wp2_with fail;go_roundw;case rel=>exact⟨k+1,by go_num,by omega,⟨r5,ai2.out⟩,lS⟩
   case measure=>simp[intOf];omega
  ·have cO:k=l.length:=by omega
   subst cO;rw[List.take_length] at KU;have wT:=PG l HL.out;have Tw:=PE ((bE ((sF l).map (·.1))).map (Ba (sF l)))
   have ci:=Index_any _ l wo (HV.out.stays HB.out) (by omega) (fun d hd=>(HL.out d hd).2) (HT.out.stays HB.out) (nX.out.stays HB.out)
   rw[show Dz ((bE ((sF l).map (·.1))).map (Ba (sF l)))=eF l from rfl] at Tw
   have yu:jV l (eF l)=(mX++(bI l.length++jg l))++aM (eF l)++oh (wI ((mX++(bI l.length++jg l))++aM (eF l))):=by simp[jV,jU]
   have ET:(mX++(bI l.length++jg l)).length≤2000000:=by simp only[List.length_append,mX,List.length_cons,List.length_nil];omega
   have hmn:mX++(bI l.length++jg l)≠[]:=by simp[mX]
   obtain⟨r,gK⟩:=KU.out;have CI:=Hd ci;have atj:=Hd yu;have zh:=Hd gK;have HMN:=Hd hmn;clear ci yu gK KU hmn;generalize mX++(bI l.length++jg l)=pre at *;generalize aol:eF l=dx at *;have Mj:=Hd aol;clear aol;go_wp2_with fail;refine CI.out.mono ?_;rintro e w4 ⟨rfl,q4⟩;have gZ:=HB.out.trans (Below.mono q4 Fb);have Yz:=zh.out.q q4;have ct:=Text_gen 5000000000000 _ [dx] (w4.alloc (.cells #[.string ⟨dx.toArray⟩] 9)) (Strs.lit1 w4 dx 9) (by simp) (by intro p hp;rw[List.mem_singleton] at hp;subst hp;omega)
   rw[show jQ [dx]=aM dx by simp[jQ]] at ct
   have vg:=iF dx;have CT:=Hd ct;have lQ:=Hd (gZ.alloc gZ.size (.cells #[.string ⟨dx.toArray⟩] 9));have adq:=Hd (Yz.alloc (.cells #[.string ⟨dx.toArray⟩] 9));clear ct gZ Yz q4 CI zh HB;go_wp2_with fail;refine CT.out.mono ?_;rintro e w5 ⟨rfl,q5⟩;have nO:=lQ.out.trans (Below.mono q5 lQ.out.size);have Vj:=adq.out.q q5;have cw:=iM w.heap.size (w1.heap.size+1) r pre (aM dx) w5 Vj (by omega) nO.size
   have CW:=Hd cw;have lS:=Hd nO;have ai2:=Hd Vj;clear cw nO Vj q5 CT lQ adq;go_wp2_with fail;refine CW.out.mono ?_;rintro e w6 ⟨rfl,jP,r6,alo,_⟩;have zl:=lS.out.trans (ai2.out.below jP lS.out.size);have ZO:pre++aM dx≠[]:=by intro e;exact HMN.out (List.append_eq_nil_iff.1 e).1
   have axX:(pre++aM dx).length≤5000000000000:=by rw[List.length_append];omega
   have vX:=Hd zl;clear jP zl CW lS ai2;generalize pre++aM dx=body at *;have cs:=FX w.heap.size (w1.heap.size+1) r6 body w6 alo ZO;have CS:=Hd cs;have aom:=Hd alo;clear cs alo;go_wp2_with fail;refine CS.out.mono ?_;rintro e w7 ⟨rfl,hs7,alp⟩;have zn:=vX.out.trans (aom.out.below hs7 vX.out.size);have cs:=FX w.heap.size (w1.heap.size+1) r6 body w7 alp ZO;have CS2:=Hd cs;have aon:=Hd alp;have vY:=Hd zn;clear cs alp zn hs7 CS vX aom;go_wp2_with fail;refine CS2.out.mono ?_;rintro e w8 ⟨rfl,Xw,atl⟩;have ZQ:=vY.out.trans (aon.out.below Xw vY.out.size);have cc:=Crc_any _ [body] (w8.alloc (.cells #[.string ⟨body.toArray⟩] 9)) (Strs.lit1 w8 body 9) (by simp) (by intro p hp;rw[List.mem_singleton] at hp;subst hp;omega)
   rw[show [body].flatten=body by simp] at cc
   have cf:=Zb (wI body) (w8.alloc (.cells #[.string ⟨body.toArray⟩] 9)) (X6 body);have rG:=Hg (wI body);have CC:=Hd cc;have CF:=Hd cf;have OJ:=Hd (ZQ.alloc ZQ.size (.cells #[.string ⟨body.toArray⟩] 9));clear cc cf ZQ atl Xw CS2 vY aon;generalize oh (wI body)=fx at *;generalize wI body=cr at *;go_wp2_with fail;refine CC.out.mono ?_;rintro e w9 ⟨rfl,rfl⟩;go_wp2_with fail;refine CF.out.mono ?_;rintro e w9 ⟨rfl,q9⟩;have Uh:=OJ.out.trans (Below.mono q9 OJ.out.size);have KW:=Hd Uh;clear Uh q9 CF CC OJ;go_wp2_with fail;go_ret2;exact⟨LJ (by rw[bytes_append,Mj.out,atj.out]),KW.out⟩
open Classical in
theorem Build_any(v:Value)(l:List au)(w:World)(hv:Docs w v l)(hn:l.length≤9223372036854775807)(hl:∀d∈l,d.1.length≤9223372036854775807∧d.2.length≤9223372036854775807)(hT:Tabs w)(gG:Spans w):
  Calls Tryz.prog 73 #[v] w fun e w'=>e=.returned (.tuple #[.string ⟨(oH l).1.toArray⟩,.int .i64 (oH l).2])∧Q w w':=by
 unfold oH
 by_cases h:l.length<1∨500<l.length
 ·simp only[if_pos h]
  exact ahf v l w hv h hn
 ·simp only[if_neg h]
  by_cases bD:fV l
  ·simp only[if_pos bD]
   exact abM v l w hv h bD hT gG
  ·simp only[if_neg bD]
   exact Build_bad v l w hv h bD hl hT
def Told(w:World)(base:Nat)(v:Value)(xs:List aZ):Prop :=
 ∃rs:List aR,aK rs=xs∧w.ownsRow base 201 2 v rs.length (fH rs)∧∀r∈rs,w.ownsRow base 3 1 r.2.1 r.2.2.length (kH r.2.2)
theorem Told.stays{w w':World}{base:Nat}{v:Value}{xs:List aZ}(h:Told w base v xs)(q:Q w w'):Told w' base v xs:=by
 obtain⟨rs,h1,h2,h3⟩:=h;exact⟨rs,h1,ownsRow_below h2 q,fun r hr=>ownsRow_below (h3 r hr) q⟩
theorem Told.low{w:World}{base base':Nat}{v:Value}{xs:List aZ}(h:Told w base v xs)(hb:base'≤base):Told w base' v xs:=by
 obtain⟨rs,h1,h2,h3⟩:=h;exact⟨rs,h1,dO h2 hb,fun r hr=>dO (h3 r hr) hb⟩
theorem Told.posts{w:World}{base:Nat}{v:Value}{xs:List aZ}(h:Told w base v xs):∃rs:List aR,aK rs=xs∧Posts w v rs:=by
 obtain⟨rs,h1,h2,h3⟩:=h;exact⟨rs,h1,Sl.of_owns h2,fun r hr=>Sl.of_owns (h3 r hr)⟩
theorem Told.nil(w:World)(base:Nat):Told w base (.slice none 0 0) []:=⟨[],rfl,World.ownsRow_nil _ _ _ _,by simp⟩
theorem tinfoPo:(Tryz.prog.info? 201).map (fun i=>(i.zero,i.size,i.bytes))=some (some (.agg #[.int .i64 0,.slice none 0 0]),2,32):=by kernel_rfl
theorem IG{l:List au}(h:l.length≤500)(bD:fV l)(t:Bytes):aV (-1) (bf t l 0)=true :=
 PD t l 0 (by omega) (fun d hd=>(oI (bD.1 d hd)).2) (-1) (by omega)
def SeqP{α:Type}(P:Program)(g:Nat)(lb:Array Value)(encs:α→World→Array Value→Prop)(own keep:Nat→Prop)(n₀:Nat)(xs:List α)(W:World):Prop :=
 ∀(n l:Nat) (J Jx:Nat→World→Prop),
  (∀s A B,J s A→Itk own W.heap.size A B→J s B)→(∀s A B,Jx s A→Itk own W.heap.size A B→Jx s B) →
  (∀k (hk:k<xs.length) W1 args,J k W1→encs xs[k] W1 args→(∀b,keep b→b<W1.heap.size)→YieldW P l args W1 fun e W' =>
   (e=.returned (.bool true)∧J (k+1) W'∧Bk keep n₀ W1 W')∨(e=.returned (.bool false)∧Jx (k+1) W'∧Bk keep n₀ W1 W')) →
  J 0 W →
  CallsIn Fence.wide n P g (#[.func (.yield l) #[] #[]]++lb) W fun e W'=>(∃v,e=.returned v)∧(J xs.length W'∨∃k,k≤xs.length∧Jx k W')
theorem PI{α:Type}{P:Program}{n:Nat}{g:Operand}{ps:Array Tmp}{assign body:Code}{Qx:Exit→Act→World→Prop}{a:Act}{w:World}
  {gf:Nat} {lb:Array Value} (hg:a.eval g=.func (.func gf) #[] lb) (eg:∀args w,(callFunc gf args).run P w=.ok (.enter gf args) w)
  {encs:α→World→Array Value→Prop} {own keep:Nat→Prop} {n₀:Nat} {xs:List α}
  (Oo:∀W1,Q w W1→W1.heap.size=w.heap.size+2→SeqP P gf lb encs own keep n₀ xs W1)
  (aQ:∀k,own k→k≠w.heap.size∧k≠w.heap.size+1) (IY:∀k,keep k→k≠w.heap.size∧k≠w.heap.size+1) (hn₀:n₀≤w.heap.size) (oP:∀x W args,encs x W args→args.size=ps.size)
  (I:Nat→World→Prop) (Ix:Code→Nat→World→Prop) (Ax:Nat→Act→World→Prop)
  (hI:∀s A B,I s A→Itk own w.heap.size A B→I s B) (hIx:∀c s A B,Ix c s A→Itk own w.heap.size A B→Ix c s B) (hAx:∀k a' A B,Ax k a' A→Itk own w.heap.size A B→Ax k a' B)
  (h0:I 0 w)
  (Yw:∀(l k:Nat) (hk:k<xs.length) (W:World) (args:Array Value) (K:Act→World→Prop),I k W→encs xs[k] W args→w.heap.size+2≤W.heap.size→(∀a' W',Q W W'→I k W'→Ax k a' W'→K a' W') →
   assign.wpIn (Fence.wide.inRound l) (n-1-1) P (Exit.then K (fun _ _ _=>False)) { tmps:=(ps.zip args).foldl (fun t (p,v)=>t.setIfInBounds p v) a.tmps,defers:=[] } W)
  (aiL:∀(l k:Nat) (hk:k<xs.length) (a':Act) (W:World),((∃r,W.heap[l]?=some (.loop r))∧W.heap[w.heap.size]?=some (.deferred (some [])))→l=w.heap.size+1→I k W→Ax k a' W→(∀b,keep b→b<W.heap.size)→w.heap.size+2≤W.heap.size →
   body.wpIn (Fence.wide.inRound l) (n-1-1) P (roundQ (Bk (fun b=>keep b∨b=w.heap.size∨b=w.heap.size+1) n₀) I Ix k W) a' W)
  (aiM:∀(D:Nat) (W:World),D=w.heap.size→w.heap.size+2≤W.heap.size→I xs.length W→W.heap[D]?=some (.deferred (some []))→Qx .normal { a with defers:={ target:=.collected D,args:=#[] }::a.defers } W)
  (aiN:∀(D:Nat) (c:Code) (k:Nat) (W:World),D=w.heap.size→k≤xs.length→Ix c k W→W.heap[D]?=some (.deferred (some []))→c.wpIn Fence.wide n P Qx { a with defers:={ target:=.collected D,args:=#[] }::a.defers } W) :
  (Code.rangeFunc g ps assign body).wpIn Fence.wide n P Qx a w:=by
 refine wpIn_rangeFunc ?_;intro fn ZN;obtain⟨rec,vM⟩:∃rec:LoopState→Option Code→Loop,rec=fun st pe=>{ state:=st,pending:=pe,fn,tmps:=a.tmps,params:=ps,assign,body,defers:=w.heap.size }:=⟨_,rfl⟩
 obtain⟨W1,Qp⟩:∃W1,(w.alloc (.deferred (some []))).alloc (.loop (rec .ready none))=W1:=⟨_,rfl⟩;have jS:Q w W1:=by rw[←Qp];exact(Q.alloc w _).trans (Q.alloc _ _)
 have dN:W1.heap.size=w.heap.size+2:=by rw[←Qp];simp
 have hL1:W1.heap[w.heap.size+1]?=some (.loop (rec .ready none)):=by
  rw[←Qp];have:=World.alloc_heap_new (w.alloc (.deferred (some []))) (.loop (rec .ready none));rwa [World.size_alloc] at this
 have hK1:W1.heap[w.heap.size]?=some (.deferred (some [])):=by
  rw[←Qp];exact(Below.heap_alloc _ _ _ (by simp)).trans (World.alloc_heap_new w _)
 have hI1:I 0 W1:=hI _ _ _ h0 (Itk.of_q jS);have jf:¬own (w.heap.size+1):=fun h=>(aQ _ h).2 rfl
 have acO:¬keep (w.heap.size+1):=fun h=>(IY _ h).2 rfl
 have Xe:¬own w.heap.size:=fun h=>(aQ _ h).1 rfl
 refine⟨w.heap.size+1,[{ target:=.collected w.heap.size,args:=#[] }],W1,{ target:=.fn (.func gf) lb,args:=#[.func (.yield (w.heap.size+1)) #[] #[]] },W1,gf,
  #[.func (.yield (w.heap.size+1)) #[] #[]]++lb,W1,?_,?_,fun _ _=>trivial,?_,fun h=>(by cases h),?_⟩
 ·rw[←Qp,vM];exact run_enterLoop_outer _ _ _ _ _
 ·simp only[resolve,hg]
  simp[go_sem]
 ·simp[invoke,go_sem,eg]
 ·refine(Oo W1 jS dN (n-1) (w.heap.size+1)
   (fun k W=>I k W∧W.heap[w.heap.size+1]?=some (.loop (rec .ready none))∧W.heap[w.heap.size]?=some (.deferred (some [])))
   (fun k W=>∃c,Ix c k W∧W.heap[w.heap.size+1]?=some (.loop (rec .done (some c)))∧W.heap[w.heap.size]?=some (.deferred (some [])))
   (fun s A B hs hi=>⟨hI s A B hs.1 (hi.mono (fun _ h=>h) (by omega)),(hi.low _ (by omega) (aU hs.2.1) jf).trans hs.2.1,(hi.low _ (by omega) (aU hs.2.2) Xe).trans hs.2.2⟩)
   (fun s A B hs hi=>by
    obtain⟨c,hc,hl,hk⟩:=hs;exact⟨c,hIx c s A B hc (hi.mono (fun _ h=>h) (by omega)),(hi.low _ (by omega) (aU hl) jf).trans hl,(hi.low _ (by omega) (aU hk) Xe).trans hk⟩)
   ?_ ⟨hI1,hL1,hK1⟩).mono ?_
  ·
   rintro k hk W args ⟨hi,hl,jL⟩ QV hob;have hy:=run_yield (P:=P) (args:=args) hl (by rw[vM];exact oP _ _ _ QV)
   rw[vM] at hy;refine⟨fn,_,assign,body,hy,fun m=>YH (n:=n-1-1) (roundIn_of_wpIn trivial (Yw _ k hk W args _ hi QV (aU hl) ?_))⟩
   clear hy;intro a' Wa ng hia EN;have Gw:=(ng.block _ (aU hl)).trans hl;have FE:=(ng.block _ (aU jL)).trans jL;refine⟨_,run_beginRound Gw (by rw[vM]),?_⟩
   have jB:(Wa.putObj (w.heap.size+1) (.loop { rec .ready none with state:=.busy })).heap[w.heap.size+1]?=some (.loop { rec .ready none with state:=.busy }):=World.putObj_heap_same (aU Gw);have mP:(Wa.putObj (w.heap.size+1) (.loop { rec .ready none with state:=.busy })).heap[w.heap.size]?=some (.deferred (some [])):=(World.putObj_heap_other (by omega)).trans FE
   have mD:Itk own w.heap.size Wa (Wa.putObj (w.heap.size+1) (.loop { rec .ready none with state:=.busy })):=Itk.put _ Gw rfl (by omega)
   have aO:Bk keep n₀ W (Wa.putObj (w.heap.size+1) (.loop { rec .ready none with state:=.busy })):=(Bk.of_q ng (by have:=aU hl;omega)).trans (Bk.put _ Gw rfl (by omega) acO)
   refine wpIn_mono (aiL _ k hk a' _ ⟨⟨_,jB⟩,mP⟩ rfl (hI _ _ _ hia mD) (hAx _ _ _ _ EN mD) (fun b hb=>by have:=hob b hb;have:=ng.size;simp;omega) (by have:=aU Gw;simp;omega)) ?_
   have fin:∀(jump:Option Code) (W3:World),Bk (fun b=>keep b∨b=w.heap.size∨b=w.heap.size+1) n₀ (Wa.putObj (w.heap.size+1) (.loop { rec .ready none with state:=.busy })) W3 →
     (Instr.endRound (w.heap.size+1) jump).run P W3=.ok (.bool jump.isNone) (W3.putObj (w.heap.size+1) (.loop (rec (if jump.isNone then .ready else .done) jump))) ∧
     W3.heap[w.heap.size+1]?=some (.loop { rec .ready none with state:=.busy }) ∧
     (W3.putObj (w.heap.size+1) (.loop (rec (if jump.isNone then .ready else .done) jump))).heap[w.heap.size+1]?=some (.loop (rec (if jump.isNone then .ready else .done) jump)) ∧
     (W3.putObj (w.heap.size+1) (.loop (rec (if jump.isNone then .ready else .done) jump))).heap[w.heap.size]?=some (.deferred (some [])) ∧
     Itk own w.heap.size W3 (W3.putObj (w.heap.size+1) (.loop (rec (if jump.isNone then .ready else .done) jump))) ∧
     Bk keep n₀ W (W3.putObj (w.heap.size+1) (.loop (rec (if jump.isNone then .ready else .done) jump))):=fun jump W3 jO=>by
    have lC:=(jO.own _ (.inr (.inr rfl)) (aU jB)).trans jB;have rT:=(jO.own _ (.inr (.inl rfl)) (aU mP)).trans mP;have:=run_endRound (P:=P) jump lC;rw[vM] at this ⊢;rw[vM] at lC;exact⟨this,lC,World.putObj_heap_same (aU lC),(World.putObj_heap_other (by omega)).trans rT,Itk.put _ lC rfl (by omega),
     (aO.trans (jO.mono (fun _ h=>.inl h) (Nat.le_refl _))).trans (Bk.put _ lC rfl (by omega) acO)⟩
   rintro e a3 W3 hp;cases e with
   | normal =>
    obtain⟨jO,rZ⟩:=hp;obtain⟨hr,lC,En,Eo,Gx,gZ⟩:=fin none W3 jO;exact⟨_,_,hr,.inl ⟨rfl,⟨hI _ _ _ rZ Gx,En,Eo⟩,gZ⟩⟩
   | ret =>
    obtain⟨jO,rZ⟩:=hp;obtain⟨hr,lC,En,Eo,Gx,gZ⟩:=fin (some .ret) W3 jO;exact⟨_,_,hr,.inr ⟨rfl,⟨.ret,hIx _ _ _ _ rZ Gx,En,Eo⟩,gZ⟩⟩
   | exit id =>
    obtain⟨jO,rZ⟩:=hp;obtain⟨hr,lC,En,Eo,Gx,gZ⟩:=fin (some (.exit id)) W3 jO;exact⟨_,_,hr,.inr ⟨rfl,⟨.exit id,hIx _ _ _ _ rZ Gx,En,Eo⟩,gZ⟩⟩
   | goto t =>
    obtain⟨jO,rZ⟩:=hp;obtain⟨hr,lC,En,Eo,Gx,gZ⟩:=fin (some (.goto t)) W3 jO;exact⟨_,_,hr,.inr ⟨rfl,⟨.goto t,hIx _ _ _ _ rZ Gx,En,Eo⟩,gZ⟩⟩
   | panic ch=>exact hp.elim
   | outgrown=>exact hp.elim
  ·
   rintro e W2 ⟨⟨v,rfl⟩,(⟨hi,hl,hk⟩|⟨k,xH,c,hi,hl,hk⟩)⟩
   ·exact⟨none,_,by have:=run_endLoop (P:=P) hl (by rw[vM];simp);rw[vM] at this;exact this,aiM _ _ rfl (by have:=aU hl;simp;omega) (hI _ _ _ hi (Itk.put _ hl rfl (by omega))) ((World.putObj_heap_other (by omega)).trans hk)⟩
   ·exact⟨some c,_,by have:=run_endLoop (P:=P) hl (by rw[vM];simp);rw[vM] at this;exact this,aiN _ c k _ rfl xH (hIx c _ _ _ hi (Itk.put _ hl rfl (by omega))) ((World.putObj_heap_other (by omega)).trans hk)⟩
end
end Go.Proofs.YthijhicdmnoifaaGreatDoor
