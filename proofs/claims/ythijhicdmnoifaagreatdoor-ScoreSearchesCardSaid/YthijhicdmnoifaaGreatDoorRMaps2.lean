/- Joined texts of one proof. -/
import Derived.Test.YthijhicdmnoifaaGreatDoorRWWordsR
set_option linter.unusedSimpArgs false
set_option linter.unusedVariables false
set_option linter.unnecessarySimpa false
set_option maxRecDepth 100000
set_option maxHeartbeats 8000000
namespace Go.Proofs.YthijhicdmnoifaaGreatDoor
section
open Go.RowKit Go.MapKept Go.Maps Go.Sort Go.WideShapes Go.WideMaps
abbrev noR:Value→Option (DataW Unit×List MemPlace):=fun _=>some (.nil,[])
theorem MapS.owns{P:Program}{w:World}{b:Nat}{m:List (List UInt8×Value)}(h:MapS w b m)(k:TypeId)(hk:P.underlying k=some .string)(aD:m.length≤maxLen)(yt:∀x∈m,x.1.length≤maxLen):
  ∃D:DataW Unit,w.ownsMap P k noR b m.length D∧Maps.size D=m.length∧(strKeys D).Perm (m.map (·.1)):=by
 obtain⟨es,clock,hb,hs,he⟩:=h;have aY:es.size=m.length:=by have:=congrArg List.length he;simpa using this
 have hrd:∀x∈es.toList,∃y∈m,WideElems.rd P k noR x=some (.string y.1,.nil):=by
  intro x hx;have h1:kvE x∈es.toList.map kvE:=List.mem_map_of_mem hx;rw[he] at h1;obtain⟨y,hy,e⟩:=List.mem_map.1 h1;refine⟨y,hy,?_⟩;have ale:x.key=ak y.1:=(congrArg Prod.fst e).symm;unfold WideElems.rd;rw[ale,keyOf_string_mk hk (by show y.1.toArray.size≤maxLen;simpa using yt y hy)]
  rfl
 have aiW:es.toList.map (WideElems.rg P k noR)=m.map (fun x=>((.string x.1:Lit),(.nil:DataW Unit))):=by
  apply List.ext_getElem?;intro i;have hi:=congrArg (fun l=>l[i]?) he
  simp only[List.getElem?_map] at hi ⊢;cases hx:es.toList[i]? with
  | none =>
   rw[hx] at hi;cases hm:m[i]? with
   | none=>rfl
   | some y=>rw[hm] at hi;simp at hi
  | some x =>
   rw[hx] at hi;cases hm:m[i]? with
   | none=>rw[hm] at hi;simp at hi
   | some y =>
    rw[hm] at hi;simp only[Option.map_some,Option.some.injEq] at hi ⊢;have ale:x.key=ak y.1:=congrArg Prod.fst hi;unfold WideElems.rg WideElems.rd;rw[ale,keyOf_string_mk hk (by show y.1.toArray.size≤maxLen;simpa using yt y (List.mem_of_getElem? hm))]
    rfl
 refine⟨.map ((es.toList.map (WideElems.rg P k noR)).foldr DataW.insert []),⟨es,clock,hb,⟨by omega,hs,fun x hx=>?_⟩,by omega,rfl⟩,?_,?_⟩
 ·obtain⟨y,_,h⟩:=hrd x hx
  exact⟨_,h⟩
 ·rw[size_eq,(sorted_perm _).length_eq,aiW,List.length_map]
 ·have:=(sorted_perm (es.toList.map (WideElems.rg P k noR))).map (fun p=>strOf p.1)
  rw[aiW] at this ⊢;unfold strKeys;refine this.trans ?_;rw[List.map_map];exact List.Perm.of_eq (List.map_congr_left fun x _=>rfl)
abbrev leL(x y:List UInt8):Bool:=decide (x≤y)
def bE(l:List (List UInt8)):List (List UInt8):=l.mergeSort leL
theorem V9{l l':List (List UInt8)}(h:l.Perm l'):bE l=bE l':=mergeSort_of_perm h
end
section
open Go.RowKit
def ixF:List au→Nat→IxA→IxA
 | [],_,A=>A
 | d::l,i,A=>ixF l (i+1) ((aA d.2).foldl (oG (i:Nat)) A)
theorem ixF_snoc(l:List au)(d:au)(i:Nat)(A:IxA):ixF (l++[d]) i A=(aA d.2).foldl (oG ((i+l.length:Nat):Int)) (ixF l i A):=by
 induction l generalizing i A with
 | nil=>simp[ixF]
 | cons a l ih=>rw[List.cons_append,ixF,ixF,ih];congr 2;simp;omega
def zB(l:List au)(k:Nat):IxA:=ixF (l.take k) 0 []
def Hy(l:List au)(k:Nat)(ts:List (Bytes×Nat))(j:Nat):IxA:=(ts.take j).foldl (oG (k:Nat)) (zB l k)
theorem Ko(l:List au)(k:Nat)(h:k<l.length):zB l (k+1)=Hy l k (aA l[k].2) (aA l[k].2).length:=by
 unfold zB Hy zB;rw[List.take_succ_eq_append_getElem h,ixF_snoc,List.length_take,Nat.min_eq_left (by omega),List.take_length,Nat.zero_add]
theorem Y1(l:List au)(k:Nat)(ts:List (Bytes×Nat))(j:Nat)(h:j<ts.length):Hy l k ts (j+1)=oG (k:Nat) (Hy l k ts j) ts[j]:=by
 unfold Hy;rw[List.take_succ_eq_append_getElem h,List.foldl_append];rfl
theorem aaz(ws:List Bytes)(k:Nat):∀x∈eY ws k,x.1.length≤40∧x.2<k+ws.length:=by
 induction ws generalizing k with
 | nil=>simp[eY]
 | cons w ws ih =>
  intro x hx;rw[eY] at hx;simp only[List.length_cons];split at hx
  ·rename_i h
   rcases List.mem_cons.1 hx with rfl|hx
   ·exact⟨h.1,by simp⟩
   ·have:=ih (k+1) x hx;exact⟨this.1,by omega⟩
  ·have:=ih (k+1) x hx;exact⟨this.1,by omega⟩
theorem lM(s:Bytes)(hs:s.length≤2000):(aA s).length≤2001∧∀x∈aA s,x.1.length≤40∧x.2≤2001:=by
 have h1:=(uJ s).1;have h2:=sK (bT s) 0;refine⟨by unfold aA;omega,fun x hx=>?_⟩
 have:=aaz _ _ x hx;exact⟨this.1,by omega⟩
theorem ixIn_wf(l:List au)(k:Nat)(ts:List (Bytes×Nat))(h:AWf (zB l k) k 0)(ht:ts.length≤2001)(hx:∀x∈ts,x.1.length≤40)(j:Nat)(hj:j≤ts.length):AWf (Hy l k ts j) k j:=by
 induction j with
 | zero=>exact h
 | succ j ih =>
  rw[Y1 l k ts j (by omega)]
  exact(ih (by omega)).add (by omega) (by omega) _ (hx _ (List.getElem_mem _))
theorem ixTo_wf(l:List au)(hl:∀d∈l,d.2.length≤2000)(k:Nat)(hk:k≤l.length):AWf (zB l k) k 0:=by
 induction k with
 | zero=>exact AWf.nil
 | succ k ih =>
  have hf:=lM l[k].2 (hl _ (List.getElem_mem _));rw[Ko l k (by omega)]
  have:=(ixIn_wf l k _ (ih (by omega)) hf.1 (fun x hx=>(hf.2 x hx).1) _ (Nat.le_refl _)).next hf.1
  simpa using this
def sF(l:List au):IxA:=zB l l.length
def Ba(A:IxA)(t:Bytes):aN:=(t,qW ((getM t A).getD []))
def eF(l:List au):Bytes:=Dz ((bE ((sF l).map (·.1))).map (Ba (sF l)))
end
section
theorem snoc_ind{α:Type}{P:List α→Prop}(h0:P [])(h1:∀l a,P l→P (l++[a]))(l:List α):P l:=by
 have:∀n (l:List α),l.length=n→P l:=by
  intro n;induction n with
  | zero=>intro l hl;rw[List.eq_nil_of_length_eq_zero hl];exact h0
  | succ n ih =>
   intro l hl;have aF:l≠[]:=by intro e;simp[e] at hl
   rw[←List.dropLast_concat_getLast aF];exact h1 _ _ (ih _ (by simp;omega))
 exact this _ l rfl
def placesOf(ts:List (Bytes×Nat))(t:Bytes):List Int:=ts.filterMap fun x=>if x.1=t then some (x.2:Int) else none
theorem aaA(ts:List (Bytes×Nat))(x:Bytes×Nat)(t:Bytes):placesOf (ts++[x]) t=placesOf ts t++(if x.1=t then [(x.2:Int)] else []):=by
 unfold placesOf;rw[List.filterMap_append];by_cases h:x.1=t<;>simp[h]
theorem aeL(i:Int)(t:Bytes)(A:IxA)(hlt:∀l,getM t A=some l→∀x∈l,x.1≠i)(ts:List (Bytes×Nat)):
  getM t (ts.foldl (oG i) A)=if placesOf ts t=[] then getM t A else some ((getM t A).getD []++[(i,placesOf ts t)]):=by
 induction ts using snoc_ind with
 | h0=>simp[placesOf]
 | h1 ts x ih =>
  rw[List.foldl_append,List.foldl_cons,List.foldl_nil,aaA];rw[show oG i (ts.foldl (oG i) A) x=fU x.1 (addP i x.2 ((getM x.1 (ts.foldl (oG i) A)).getD [])) (ts.foldl (oG i) A) from rfl,get_put]
  by_cases hx:x.1=t
  ·rw[if_pos hx,if_pos hx,hx,ih]
   have aF:∀y∈(getM t A).getD [],y.1≠i:=by
    intro y hy;cases hg:getM t A with
    | none=>rw[hg] at hy;simp at hy
    | some l=>rw[hg] at hy;exact hlt l hg y hy
   by_cases hp:placesOf ts t=[]
   ·rw[if_pos hp,hp,UJ i _ _ aF];simp
   ·rw[if_neg hp]
    simp only[Option.getD_some];rw[UH];simp
  ·rw[if_neg hx,if_neg hx,List.append_nil];exact ih
theorem aeM(t:Bytes)(l:List au)(d:au)(i:Nat):bf t (l++[d]) i=bf t l i++(if placesIn d.2 t=[] then [] else [(((i+l.length:Nat):Int),placesIn d.2 t)]):=by
 induction l generalizing i with
 | nil=>simp[bf]
 | cons a l ih =>
  rw[List.cons_append,bf,bf,ih,List.length_cons,show i+1+l.length=i+(l.length+1) by omega]
  by_cases h:placesIn a.2 t=[]
  ·rw[if_pos h,if_pos h]
  ·rw[if_neg h,if_neg h,List.cons_append]
theorem aeN(t:Bytes)(l:List au)(i:Nat):∀x∈bf t l i,(i:Int)≤x.1∧x.1<((i+l.length:Nat):Int):=by
 induction l generalizing i with
 | nil=>simp[bf]
 | cons a l ih =>
  intro x hx;rw[bf] at hx;rw[List.length_cons];split at hx
  ·have:=ih (i+1) x hx;omega
  ·rcases List.mem_cons.1 hx with rfl|hx
   ·simp only;omega
   ·have:=ih (i+1) x hx;omega
theorem abE(l:List au)(t:Bytes)(k:Nat)(hk:k≤l.length):getM t (zB l k)=if bf t (l.take k) 0=[] then none else some (bf t (l.take k) 0):=by
 induction k with
 | zero=>simp[zB,ixF,getM,bf]
 | succ k ih =>
  have hlt:k<l.length:=by omega
  have ih:=ih (by omega)
  have hd:∀x∈bf t (l.take k) 0,x.1<(k:Int):=by
   intro x hx;have:=(aeN t (l.take k) 0 x hx).2;rw[List.length_take,Nat.min_eq_left (by omega)] at this
   omega
  rw[Ko l k hlt];unfold Hy;rw[List.take_length,aeL (k:Nat) t (zB l k) (fun m hm x hx=>by
   rw[ih] at hm;split at hm
   ·cases hm
   ·cases hm;have:=hd x hx;omega),ih,List.take_succ_eq_append_getElem hlt,aeM,List.length_take,Nat.min_eq_left (by omega),Nat.zero_add]
  have he:placesOf (aA l[k].2) t=placesIn l[k].2 t:=rfl;rw[he];by_cases hp:placesIn l[k].2 t=[]
  ·rw[if_pos hp,if_pos hp,List.append_nil]
  ·rw[if_neg hp,if_neg hp,if_neg (show ¬(bf t (l.take k) 0++[((k:Int),placesIn l[k].2 t)]=[]) by simp)]
   by_cases hq:bf t (l.take k) 0=[]
   ·rw[if_pos hq,hq];rfl
   ·rw[if_neg hq];rfl
theorem get_ixAll(l:List au)(t:Bytes):(getM t (sF l)).getD []=bf t l 0:=by
 unfold sF;rw[abE l t l.length (Nat.le_refl _),List.take_length];by_cases h:bf t l 0=[]
 ·rw[if_pos h,h];rfl
 ·rw[if_neg h];rfl
theorem aeO(s t:Bytes):placesIn s t≠[]↔t∈(aA s).map (·.1):=by
 unfold placesIn;rw[ne_eq,List.filterMap_eq_nil_iff];simp only[List.mem_map];constructor
 ·intro h
  apply Classical.byContradiction;intro hn;exact h (fun x hx=>by rw[if_neg (fun e=>hn ⟨x,hx,e⟩)])
 ·rintro⟨x,hx,e⟩ h
  have:=h x hx;rw[if_pos e] at this;cases this
theorem Wh(t:Bytes)(l:List au)(i:Nat):bf t l i≠[]↔t∈l.flatMap fun d=>(aA d.2).map (·.1):=by
 induction l generalizing i with
 | nil=>simp[bf]
 | cons a l ih =>
  rw[bf,List.flatMap_cons,List.mem_append,←aeO,←ih (i+1)];by_cases h:placesIn a.2 t=[]
  ·rw[if_pos h];simp[h]
  ·rw[if_neg h];simp[h]
theorem ag6(l:List au)(t:Bytes):t∈(sF l).map (·.1)↔t∈l.flatMap fun d=>(aA d.2).map (·.1):=by
 have h:=getM_some t (sF l);rw[←Wh t l 0];unfold sF at h ⊢;rw[abE l t l.length (Nat.le_refl _),List.take_length] at h;by_cases hp:bf t l 0=[]
 ·rw[if_pos hp] at h
  have:¬t∈(zB l l.length).map (·.1):=fun e=>by rw[decide_eq_true e] at h;cases h
  simp only[this,hp,ne_eq,not_true]
 ·rw[if_neg hp] at h
  have:t∈(zB l l.length).map (·.1):=of_decide_eq_true h.symm
  simp only[this,hp,ne_eq,not_false_eq_true]
theorem nodup_put{α:Type}(k:Bytes)(v:α)(m:List (Bytes×α))(h:(m.map (·.1)).Nodup):((fU k v m).map (·.1)).Nodup:=by
 rw[NR];split
 ·exact h
 ·rename_i hn
  rw[List.nodup_append];exact⟨h,by simp,fun a ha b hb=>by simp at hb;subst hb;exact fun e=>hn (e▸ha)⟩
theorem aaB(i:Int)(ts:List (Bytes×Nat))(A:IxA)(h:(A.map (·.1)).Nodup):((ts.foldl (oG i) A).map (·.1)).Nodup:=by
 induction ts generalizing A with
 | nil=>exact h
 | cons x ts ih=>exact ih _ (nodup_put _ _ _ h)
theorem aeP(l:List au):((sF l).map (·.1)).Nodup:=by
 unfold sF;have:∀k,k≤l.length→((zB l k).map (·.1)).Nodup:=by
  intro k;induction k with
  | zero=>intro _;simp[zB,ixF]
  | succ k ih =>
   intro hk;rw[Ko l k (by omega)]
   exact aaB _ _ _ (ih (by omega))
 exact this _ (Nat.le_refl _)
theorem abG(t:Bytes)(l:List Bytes)(x:Bytes):x∈ji t l↔x=t∨x∈l:=by
 induction l with
 | nil=>simp[ji]
 | cons y l ih =>
  rw[ji];split
  ·rename_i h
   subst h;simp
  ·split
   ·simp
   ·simp only[List.mem_cons,ih]
    constructor
    ·rintro(h|h|h)
     ·exact .inr (.inl h)
     ·exact .inl h
     ·exact .inr (.inr h)
    ·rintro(h|h|h)
     ·exact .inr (.inl h)
     ·exact .inl h
     ·exact .inr (.inr h)
theorem putL_rise(t:Bytes)(l:List Bytes)(h:l.Pairwise (·<·)):(ji t l).Pairwise (·<·):=by
 induction l with
 | nil=>simp[ji]
 | cons y l ih =>
  rw[List.pairwise_cons] at h;rw[ji];split
  ·exact List.pairwise_cons.2 h
  ·rename_i aF
   split
   ·rename_i hl
    have hl:=(gu _ _).1 hl;refine List.pairwise_cons.2 ⟨fun z hz=>?_,List.pairwise_cons.2 h⟩
    rcases List.mem_cons.1 hz with rfl|hz
    ·exact hl
    ·exact List.lt_trans hl (h.1 z hz)
   ·rename_i hl
    refine List.pairwise_cons.2 ⟨fun z hz=>?_,ih h.2⟩
    rcases (abG _ _ _).1 hz with rfl|hz
    ·exact NI (fun e=>hl ((gu _ _).2 e)) (fun e=>aF e.symm)
    ·exact h.1 z hz
theorem Hz(ts l:List Bytes)(h:l.Pairwise (·<·)):(ts.foldl (fun a t=>ji t a) l).Pairwise (·<·):=by
 induction ts generalizing l with
 | nil=>exact h
 | cons t ts ih=>exact ih _ (putL_rise t l h)
theorem Px(ts l:List Bytes)(x:Bytes):x∈ts.foldl (fun a t=>ji t a) l↔x∈ts∨x∈l:=by
 induction ts generalizing l with
 | nil=>simp
 | cons t ts ih =>
  rw[List.foldl_cons,ih,abG,List.mem_cons];constructor
  ·rintro(h|h|h)
   ·exact .inl (.inr h)
   ·exact .inl (.inl h)
   ·exact .inr h
  ·rintro((h|h)|h)
   ·exact .inr (.inl h)
   ·exact .inl h
   ·exact .inr (.inr h)
theorem rise_ext(a b:List Bytes)(ha:a.Pairwise (·<·))(hb:b.Pairwise (·<·))(h:∀x,x∈a↔x∈b):a=b:=by
 have na:a.Nodup:=ha.imp (fun h e=>by subst e;exact List.lt_irrefl _ h)
 have nb:b.Nodup:=hb.imp (fun h e=>by subst e;exact List.lt_irrefl _ h)
 have hp:a.Perm b:=(List.perm_ext_iff_of_nodup na nb).2 h;exact List.Perm.eq_of_pairwise (le:=fun x y=>x<y) (fun x y _ _ h1 h2=>absurd h2 (List.lt_asymm h1)) ha hb hp
theorem ag7(l:List Bytes)(h:l.Nodup):(bE l).Pairwise (·<·):=by
 have h1:(bE l).Pairwise (fun x y=>leB x y=true):=List.pairwise_mergeSort JZ J4 l
 have h2:(bE l).Nodup:=(List.mergeSort_perm l leL).nodup_iff.2 h;refine(h1.and h2).imp fun {x y} KV=>?_
 have h3:x≤y:=by simpa[leB] using KV.1
 rcases List.le_iff_lt_or_eq.1 h3 with h4|h4
 ·exact h4
 ·exact absurd h4 KV.2
theorem terms_eq(l:List au):bE ((sF l).map (·.1))=dK l:=by
 refine rise_ext _ _ (ag7 _ (aeP l)) (Hz _ _ List.Pairwise.nil) (fun x=>?_)
 unfold dK;rw[Px];unfold bE;rw[List.mem_mergeSort,ag6];simp
theorem idx_eq(l:List au):eF l=Ci l:=by
 unfold eF Ci;rw[terms_eq];congr 1;refine List.map_congr_left fun t _=>?_
 unfold Ba;rw[get_ixAll]
theorem Wi(n:Nat)(s:Bytes):∀c∈iK n s,c.2≠[]:=by
 induction n generalizing s with
 | zero=>simp[iK]
 | succ n ih =>
  rw[iK];split
  ·simp
  ·rename_i h
   have hs:=lV s h;intro c hc;rcases List.mem_cons.1 hc with rfl|hc
   ·intro e
    have:=congrArg List.length e;rw[List.length_take,List.length_nil] at this;omega
   ·exact ih _ c hc
theorem wordsF_ne(cs:List (Int×Bytes))(st:Option Bytes)(h:∀c∈cs,c.2≠[])(aI:∀w,st=some w→w≠[]):∀w∈dJ cs st,w≠[]:=by
 induction cs generalizing st with
 | nil =>
  cases st with
  | none=>simp[dJ]
  | some w=>intro x hx;simp[dJ] at hx;subst hx;exact aI _ rfl
 | cons c cs ih =>
  have hc:=h c (by simp)
  have tN:∀c∈cs,c.2≠[]:=fun x hx=>h x (by simp[hx])
  cases st with
  | none =>
   rw[dJ];split
   ·exact ih _ tN (fun w e=>by cases e;exact hc)
   ·exact ih _ tN (fun w e=>by cases e)
  | some v =>
   rw[dJ];split
   ·exact ih _ tN (fun w e=>by cases e;simp[hc])
   ·intro w hw
    rcases List.mem_cons.1 hw with rfl|hw
    ·exact aI _ rfl
    ·exact ih _ tN (fun w e=>by cases e) w hw
theorem Y2(s:Bytes):∀w∈bT s,w≠[]:=wordsF_ne _ _ (Wi _ _) (fun w e=>by cases e)
theorem flat_len(l:List Bytes)(h:∀w∈l,w≠[]):l.length≤l.flatten.length:=by
 induction l with
 | nil=>simp
 | cons a l ih =>
  have:=ih (fun w hw=>h w (by simp[hw]))
  have ha:=List.length_pos_iff.2 (h a (by simp))
  rw[List.flatten_cons,List.length_append,List.length_cons];omega
theorem Py(s:Bytes):(bT s).length≤s.length:=by
 have h1:=(VZ (chunks s) none).1;have h2:=flat_len _ (Y2 s);have h4:=Pe s.length s (Nat.le_refl _);rw[show iK s.length s=chunks s from rfl] at h4
 rw[h4] at h1;unfold bT at h2 ⊢;rw[show(none:Option Bytes).getD []=[] from rfl,List.length_nil,Nat.zero_add] at h1
 omega
theorem foldC_ne(c:Int×Bytes)(h:c.2≠[]):pK c≠[]:=by
 unfold pK;split
 ·intro e
  have:=congrArg List.length e;have hp:=List.length_pos_iff.2 h;rw[List.length_take,List.length_nil] at this;omega
 ·intro e
  have:=Lib.encodeRuneZ_length (kL (gI c.1));have e2:=congrArg List.length e;unfold Lib.encodeRune at e2;rw[List.length_map,List.length_nil] at e2;omega
theorem ag8(s:Bytes)(h:s≠[]):bQ s≠[]:=by
 have hc:=kK s h;have aF:∀c∈chunks s,c.2≠[]:=Wi _ _;unfold bQ;rw[hc] at aF ⊢;rw[List.flatMap_cons];intro e;exact foldC_ne _ (aF _ (by simp)) (List.append_eq_nil_iff.1 e).1
theorem abH(ws:List Bytes)(k:Nat)(h:∀w∈ws,w≠[]):((eY ws k).map (·.2)).Pairwise (·<·)∧∀x∈eY ws k,x.1≠[]∧x.1.length≤40∧k≤x.2∧x.2<k+ws.length:=by
 induction ws generalizing k with
 | nil=>simp[eY]
 | cons w ws ih =>
  obtain⟨i1,i2⟩:=ih (k+1) (fun x hx=>h x (by simp[hx]))
  have hw:=h w (by simp)
  rw[eY];simp only[List.length_cons];split
  ·rename_i hc
   refine⟨?_,fun x hx=>?_⟩
   ·rw[List.map_cons,List.pairwise_cons]
    refine⟨fun y hy=>?_,i1⟩
    obtain⟨z,hz,rfl⟩:=List.mem_map.1 hy;have:=(i2 z hz).2.2.1;simp only;omega
   ·rcases List.mem_cons.1 hx with rfl|hx
    ·exact⟨ag8 w hw,hc.1,by simp,by simp⟩
    ·have:=i2 x hx
     exact⟨this.1,this.2.1,by omega,by omega⟩
  ·exact⟨i1,fun x hx=>by have:=i2 x hx;exact⟨this.1,this.2.1,by omega,by omega⟩⟩
theorem qQ(s:Bytes):((aA s).map (·.2)).Pairwise (·<·)∧∀x∈aA s,x.1≠[]∧x.1.length≤40∧x.2<s.length:=by
 obtain⟨a,b⟩:=abH (bT s) 0 (Y2 s);have:=Py s;exact⟨a,fun x hx=>⟨(b x hx).1,(b x hx).2.1,by have:=(b x hx).2.2.2;omega⟩⟩
theorem Pz(last:Int)(l:List Int)(m:Int)(h1:l.Pairwise (·<·))(h2:∀x∈l,last<x∧x<m):gW last l m=true:=by
 induction l generalizing last with
 | nil=>rfl
 | cons a l ih =>
  rw[List.pairwise_cons] at h1;have ha:=h2 a (by simp)
  rw[gW,decide_eq_true ha.1,decide_eq_true ha.2,ih a h1.2 (fun x hx=>⟨h1.1 x hx,(h2 x (by simp[hx])).2⟩)]
  rfl
theorem H8(s t:Bytes):(placesIn s t).Pairwise (·<·)∧∀x∈placesIn s t,-1<x∧x<s.length:=by
 obtain⟨a,b⟩:=qQ s;unfold placesIn;refine⟨?_,fun x hx=>?_⟩
 ·refine List.Pairwise.filterMap _ (fun x y KV=>?_) (List.Pairwise.of_map (S:=(·<·)) (·.2) (fun _ _ h=>h) a)
  intro p hp q hq;split at hp
  ·split at hq
   ·cases hp;cases hq;omega
   ·cases hq
  ·cases hp
 ·obtain⟨y,hy,hx⟩:=List.mem_filterMap.1 hx
  split at hx
  ·cases hx;have:=(b y hy).2.2;omega
  ·cases hx
theorem PD(t:Bytes)(l:List au)(i:Nat)(hn:i+l.length≤500)(hl:∀d∈l,d.2.length≤2000)(last:Int)(hi:last<i):aV last (bf t l i)=true:=by
 induction l generalizing i last with
 | nil=>simp[bf,aV]
 | cons d l ih =>
  rw[List.length_cons] at hn;have hl':∀d∈l,d.2.length≤2000:=fun x hx=>hl x (by simp[hx])
  rw[bf];split
  ·exact ih (i+1) (by omega) hl' last (by omega)
  ·rename_i aF
   rw[aV,ih (i+1) (by omega) hl' (i:Nat) (by omega)]
   obtain⟨a,b⟩:=H8 d.2 t;have hd:=hl d (by simp)
   rw[Pz (-1) _ 2000 a (fun x hx=>by have:=b x hx;omega)]
   cases hp:placesIn d.2 t with
   | nil=>exact absurd hp aF
   | cons _ _=>simp;omega
theorem varE_two(v:Nat)(h:v<16384):(bI v).length≤2:=by
 unfold bI;rw[jC];split
 ·simp
 ·rw[jC]
  split
  ·simp
  ·omega
theorem varE_five(v:Nat)(h:v<34359738368):(bI v).length≤5:=by
 unfold bI;rw[jC];split
 ·simp
 ·rw[jC];split
  ·simp
  ·rw[jC];split
   ·simp
   ·rw[jC];split
    ·simp
    ·rw[jC];split
     ·simp
     ·omega
theorem Y4(l:List Nat)(c:Nat)(hc:∀v∈l,(bI v).length≤c):(dQ l).length≤c*l.length:=by
 induction l with
 | nil=>simp[dQ]
 | cons a l ih =>
  have h1:=hc a (by simp)
  have h2:=ih (fun v hv=>hc v (by simp[hv]))
  simp only[dQ,List.flatMap_cons,List.length_append,List.length_cons] at h2 ⊢;rw[Nat.mul_add];omega
theorem aeQ(at_:Int)(l:List Int)(m:Int)(h:gW at_ l m=true)(h0 : -1≤at_)(hm:m≤2000):∀v∈kG at_ l,v<16384:=by
 induction l generalizing at_ with
 | nil=>simp[kG]
 | cons a l ih =>
  rw[gW] at h;simp only[Bool.and_eq_true,decide_eq_true_eq] at h;intro v hv;rw[kG] at hv;rcases List.mem_cons.1 hv with rfl|hv
  ·omega
  ·exact ih a h.2 (by omega) v hv
theorem oneE_two(p:aZ)(last:Int)(h0 : -1≤last)(h1:p.1<500)(h2:gW (-1) p.2 2000=true)(h3:p.2.length≤2000):(qM p last).length≤4004:=by
 have:=Y4 ((p.1-last).toNat::p.2.length::kG (-1) p.2) 2 (fun v hv=>by
  refine varE_two v ?_;rcases List.mem_cons.1 hv with rfl|hv
  ·omega
  ·rcases List.mem_cons.1 hv with rfl|hv
   ·omega
   ·exact aeQ _ _ _ h2 (by omega) (by omega) v hv)
 rw[List.length_cons,List.length_cons,Pm] at this;unfold qM;omega
theorem bodyF_two(last:Int)(l:List aZ)(h0 : -1≤last)(h:aV last l=true)(hl:last<500):(jm last l).length≤4004*l.length:=by
 induction l generalizing last with
 | nil=>simp[jm]
 | cons p l ih =>
  obtain⟨a,b,c,d,e⟩:=qX h;have h1:=oneE_two p last h0 b d (by have:=Bq (-1) p.2 2000 d (by omega);omega)
  have h2:=ih p.1 (by omega) e b
  rw[jm,List.length_append,List.length_cons,Nat.mul_add];omega
theorem aaC(l:List aZ)(h:aV (-1) l=true)(m:Nat):∀v∈lX l m,v<34359738368:=by
 have hb:=(vJ l h).2.2;induction m with
 | zero=>simp[lX]
 | succ m ih =>
  intro v hv;rw[lX] at hv;have h1:=qK l h (8*(m+1));have h2:=qK l h (8*m);have h3:=sAt_le l (8*(m+1));rcases List.mem_append.1 hv with hv|hv
  ·exact ih v hv
  ·simp only[List.mem_cons,List.not_mem_nil,or_false] at hv
   rcases hv with rfl|rfl
   ·omega
   ·omega
theorem ag9(l:List aZ)(h:aV (-1) l=true):(iG l).length≤2100000:=by
 have h1:=vJ l h;have h2:=eP l.length;have h3:=Y4 (lX l ((l.length-1) / 8)) 5 (fun v hv=>varE_five v (aaC l h _ v hv))
 rw[Ad] at h3;have h4:=bodyF_two (-1) l (by omega) h (by omega)
 rw[Pj,List.length_append,List.length_append];omega
theorem TA(l:List aZ)(h:aV (-1) l=true):qW l=iG l:=by unfold qW;rw[if_pos h]
theorem TB(l:List au):(dK l).Pairwise (·<·):=Hz _ _ List.Pairwise.nil
theorem NZ(l:List au)(t:Bytes):t∈dK l↔t∈l.flatMap fun d=>(aA d.2).map (·.1):=by
 unfold dK;rw[Px];simp
theorem UL(l:List au)(t:Bytes):t∈dK l↔bf t l 0≠[]:=by rw[NZ,←Wh t l 0]
theorem aeR(l:List au):∀t∈dK l,[]<t∧t.length≤40:=by
 intro t ht;rw[NZ] at ht;obtain⟨d,hd,ht⟩:=List.mem_flatMap.1 ht;obtain⟨x,hx,rfl⟩:=List.mem_map.1 ht;have:=(qQ d.2).2 x hx;refine⟨?_,this.2.1⟩;cases rC:x.1 with
 | nil=>exact absurd rC this.1
 | cons a b=>simp
theorem Jm(t:Bytes)(l:List Bytes):(ji t l).length≤l.length+1:=by
 induction l with
 | nil=>simp[ji]
 | cons x l ih =>
  rw[ji];split
  ·simp
  ·split
   ·simp
   ·rw[List.length_cons,List.length_cons];omega
theorem abI(ts l:List Bytes):(ts.foldl (fun a t=>ji t a) l).length≤l.length+ts.length:=by
 induction ts generalizing l with
 | nil=>simp
 | cons t ts ih =>
  have:=ih (ji t l);have:=Jm t l;rw[List.foldl_cons,List.length_cons];omega
theorem aha(l:List au)(hl:∀d∈l,d.2.length≤2000):(l.flatMap fun d=>(aA d.2).map (·.1)).length≤2000*l.length:=by
 induction l with
 | nil=>simp
 | cons d l ih =>
  have h1:=ih (fun x hx=>hl x (by simp[hx]))
  have h2:=sK (bT d.2) 0;have h3:=Py d.2;have h4:=hl d (by simp)
  rw[List.flatMap_cons,List.length_append,List.length_map,List.length_cons,Nat.mul_add];have:(aA d.2).length≤2000:=by unfold aA;omega
  omega
theorem IC(l:List au)(hn:l.length≤500)(hl:∀d∈l,d.2.length≤2000):(dK l).length≤1000000:=by
 have h1:=aha l hl;have h2:=abI (l.flatMap fun d=>(aA d.2).map (·.1)) []
 unfold dK;rw[List.length_nil] at h2;omega
def iO(l:List au):List aN:=(dK l).map fun t=>(t,qW (bf t l 0))
theorem entsL_fst(l:List au):(iO l).map (·.1)=dK l:=by unfold iO;rw[List.map_map];exact(List.map_congr_left (fun _ _=>rfl)).trans (List.map_id _)
theorem LH(l:List au)(hn:l.length≤500)(hl:∀d∈l,d.2.length≤2000):dw [] (iO l)=true:=by
 refine VJ _ _ (by rw[entsL_fst];exact TB l) (fun e he=>?_)
 obtain⟨t,ht,rfl⟩:=List.mem_map.1 he;have h1:=aeR l t ht;have h2:=PD t l 0 (by omega) hl (-1) (by omega)
 refine⟨h1.1,h1.2,?_⟩;have:=ag9 _ h2;simp only[TA _ h2];omega
theorem abJ(l:List au)(hn:l.length≤500)(hl:∀d∈l,d.2.length≤2000):eF l=kV (iO l):=by
 have h:=IC l hn hl;have vk:(iO l).length≤1048576:=by unfold iO;rw[List.length_map];omega
 rw[idx_eq];unfold Ci Dz;rw[show(dK l).map (fun t=>(t,qW (bf t l 0)))=iO l from rfl,LH l hn hl,decide_eq_true vk]
 rfl
theorem ahb(l:List au)(t:Bytes):mO (iO l) t=if t∈dK l then some (qW (bf t l 0)) else none:=by
 unfold iO mO;generalize hx:dK l=ts;clear hx;induction ts with
 | nil=>rfl
 | cons a ts ih =>
  rw[List.map_cons,List.find?_cons];by_cases h:a=t
  ·subst h;simp
  ·have h2:(a==t)=false:=by simpa using h
   simp only[h2];rw[ih];simp only[List.mem_cons,Ne.symm h,false_or]
theorem abK(l:List au)(p:Bytes):((iO l).filter (fun e=>p.isPrefixOf e.1)).map (·.1)=(dK l).filter (fun t=>p.isPrefixOf t):=by
 unfold iO;rw[List.filter_map,List.map_map];exact(List.map_congr_left (fun _ _=>rfl)).trans (List.map_id _)
end
section
open Go.RowKit
theorem LJ{k:IntKind}{x:ByteArray}{y:Bytes}{n:Int}(h:x=⟨y.toArray⟩):Ending.returned (.tuple #[.string x,.int k n])=.returned (.tuple #[.string ⟨y.toArray⟩,.int k n]):=by rw[h]
def iH(l:List aZ)(k:Nat):Jf:=xU ⟨[],[],-1,-1,0⟩ 0 (l.take k)
theorem ahc(st:Jf)(i:Nat)(l:List aZ)(p:aZ):xU st i (l++[p])=oq (xU st i l) (i+l.length) p:=by
 induction l generalizing st i with
 | nil=>simp[xU]
 | cons q l ih=>rw[List.cons_append,xU,xU,ih,List.length_cons];congr 1;omega
theorem LK(l:List aZ)(k:Nat)(h:k<l.length):iH l (k+1)=oq (iH l k) k l[k]:=by
 unfold iH;rw[List.take_succ_eq_append_getElem h,ahc,List.length_take,Nat.min_eq_left (by omega),Nat.zero_add]
structure PackOk (l:List aZ) (k:Nat):Prop where
 doc:(iH l k).doc=if k=0 then -1 else(l.getD (k-1) (0,[])).1
 last : -1≤(iH l k).last∧(iH l k).last≤(iH l k).doc
 from_:(iH l k).from_≤(iH l k).body.length
 body:(iH l k).body.length≤k*21000
 skips:(iH l k).skips.length≤2*k
 small:∀n∈(iH l k).skips,n<18446744073709551616
theorem Ia(last:Int)(l:List aZ)(h:aV last l=true)(k:Nat)(hk:k<l.length):(if k=0 then last else(l.getD (k-1) (0,[])).1)<l[k].1∧l[k].1<500∧l[k].2.isEmpty=false∧gW (-1) l[k].2 2000=true∧last≤(if k=0 then last else(l.getD (k-1) (0,[])).1):=by
 induction l generalizing last k with
 | nil=>simp at hk
 | cons p l ih =>
  simp only[aV,Bool.and_eq_true,decide_eq_true_eq,Bool.not_eq_true'] at h;obtain⟨⟨⟨⟨h1,h2⟩,h3⟩,h4⟩,h5⟩:=h;cases k with
  | zero=>exact⟨by simpa using h1,h2,h3,h4,by simp⟩
  | succ k =>
   have:=ih p.1 h5 k (by simpa using hk)
   cases k with
   | zero=>simp at this ⊢;exact⟨this.1,this.2.1,this.2.2.1,this.2.2.2,by omega⟩
   | succ k=>simp at this ⊢;exact⟨this.1,this.2.1,this.2.2.1,this.2.2.2.1,by omega⟩
theorem rises_len(a:Int)(l:List Int)(h:Rises a l):(l.length:Int)≤2000-a∨l=[]:=by
 induction l generalizing a with
 | nil=>exact .inr rfl
 | cons x l ih =>
  left;obtain⟨h1,h2,h3⟩:=h;rcases ih x h3 with h4|h4
  ·simp only[List.length_cons];omega
  ·subst h4;simp;omega
theorem UM(p:aZ)(last:Int)(h:Rises (-1) p.2):(qM p last).length≤21000:=by
 have:=zx ((p.1-last).toNat::p.2.length::kG (-1) p.2);have hr:=rises_len _ _ h;unfold qM;simp only[List.length_cons,Tz] at this;rcases hr with hr|hr
 ·omega
 ·rw[hr] at this ⊢;simp at this ⊢;omega
theorem packOk(l:List aZ)(h:aV (-1) l=true)(hl:l.length≤1000)(k:Nat)(hk:k≤l.length):PackOk l k:=by
 induction k with
 | zero=>exact⟨rfl,⟨Int.le_refl _,Int.le_refl _⟩,Nat.le_refl _,Nat.le_refl _,Nat.le_refl _,by simp[iH,xU]⟩
 | succ k ih =>
  have hlt:k<l.length:=by omega
  obtain⟨a1,a2,a3,a4,a5,a6⟩:=ih (by omega)
  obtain⟨b1,b2,b3,b4,b5⟩:=Ia _ _ h k hlt;have hr:=UG _ _ b4;have ho:=UM l[k] (iH l k).doc hr;rw[←a1] at b1 b5;have hd:(l.getD (k+1-1) (0,[])).1=l[k].1:=by rw[List.getD_eq_getElem?_getD,show k+1-1=k by omega,List.getElem?_eq_getElem hlt];rfl
  have e0:(if k+1=0 then(-1:Int) else(l.getD (k+1-1) (0,[])).1)=l[k].1:=by rw[if_neg (by omega),hd]
  refine⟨?_,?_,?_,?_,?_,?_⟩<;>rw[LK l k hlt]<;>unfold oq
  ·rw[e0];split<;>rfl
  ·split
   ·exact⟨by simp only;omega,by simp only;omega⟩
   ·exact⟨by simp only;omega,by simp only;omega⟩
  ·split
   ·simp
   ·simp;omega
  ·split
   ·simp only[List.length_append];omega
   ·simp only[List.length_append];omega
  ·split
   ·simp only[List.length_append,List.length_cons,List.length_nil];omega
   ·simp only;omega
  ·split
   ·intro n hn
    simp only[List.mem_append,List.mem_cons,List.not_mem_nil,or_false] at hn;rcases hn with hn|hn|hn
    ·exact a6 n hn
    ·have:(iH l k).doc<500:=by omega
     omega
    ·omega
   ·exact a6
theorem PPack_bad(v:Value)(l:List aR)(w:World)(hv:Posts w v l)(hn:l.length≤1000)(hl:∀p∈l,p.2.2.length≤1000000)(hr:aV (-1) (aK l)=false):
  Calls Tryz.prog 158 #[v] w fun e w'=>e=.returned (.tuple #[.string ⟨([]:Bytes).toArray⟩,.int .i64 1])∧Q w w':=by
 have c:=V7 v l w hv (by omega) (fun p hp=>by have:=hl p hp;omega)
 rw[hr] at c;obtain⟨a,cap,rfl,aJ⟩:=hv.value;have C:=Hd c;clear c hv hl aJ hr;go_enter Tryz.func158,Tryz.ntmps158;go_wp2_with fail;refine C.out.mono ?_;rintro e w1 ⟨rfl,q1⟩;go_wp2_with fail;go_ret2;exact⟨rfl,q1⟩
theorem PPack_ok(v:Value)(l:List aR)(w:World)(hv:Posts w v l)(hn:l.length≤1000)(hl:∀p∈l,p.2.2.length≤1000000)(hr:aV (-1) (aK l)=true):
  Calls Tryz.prog 158 #[v] w fun e w'=>e=.returned (.tuple #[.string ⟨(iG (aK l)).toArray⟩,.int .i64 0])∧Q w w':=by
 have c:=V7 v l w hv (by omega) (fun p hp=>by have:=hl p hp;omega)
 rw[hr] at c;obtain⟨a,cap,rfl,aJ⟩:=hv.value;obtain⟨i0,hi,fJ,eU,fD⟩:=info_parts pQ;have qF:=hv.2;have C:=Hd c;have HC:=Hd aJ;have JB:=Hd qF;have HL:=Hd hl;have HR:=Hd hr;clear c hv hl aJ qF hr;go_enter Tryz.func158,Tryz.ntmps158;go_wp2_with fail;refine C.out.mono ?_;rintro e w1 ⟨rfl,q1⟩;have l9:=q1.size;have aC:=Hd q1;clear q1;go_wp2_with fail;go_loopw [4,6,7,8,16] (fun sv lv dv fv iv wr=>∃k:Nat,k≤l.length∧iv=.int .i64 k∧lv=.int .i64 (iH (aK l) k).last∧dv=.int .i64 (iH (aK l) k).doc∧fv=.int .i64 ((iH (aK l) k).from_:Nat) ∧
   Hid (wr.ownsRow w.heap.size 144 1 sv (iH (aK l) k).skips.length (DX (iH (aK l) k).skips))∧Hid (∃r,Bld wr w.heap.size w1.heap.size r (iH (aK l) k).body)∧Hid (Below w.heap.size w wr)) (fun _ _ _ _ iv _=>l.length-(intOf iv).toNat)
 case atStart=>exact⟨0,by omega,rfl,rfl,rfl,rfl,World.ownsRow_nil _ _ _ _,⟨none,Bld.new w1 w.heap.size l9⟩,(show Below w.heap.size w w1 from aC.out).alloc l9 _⟩
 case round =>
  obtain⟨k,hk,rfl,rfl,rfl,rfl,HO,zh,HB⟩:=hrel;obtain⟨wo,rfl⟩:∃wo:World,wo=wr:=⟨_,rfl⟩;have EP:=packOk (aK l) HR.out (by simpa using hn) k (by simpa using hk)
  obtain⟨a1,a2,a3,a4,a5,a6⟩:=EP;have alf:=HB.out.size;obtain⟨r,nU⟩:=zh.out;by_cases hlt:k<l.length
  ·obtain⟨b,off,rfl,hc⟩:=HC.out (by omega)
   obtain⟨gX,dM⟩:=hc k hlt;have lJ:=ah HB.out gX;have nV:=ah HB.out dM;have oN:k<(aK l).length:=by simpa using hlt
   obtain⟨b1,b2,b3,b4,b5⟩:=Ia _ _ HR.out k oN;rw[←a1] at b1 b5;have ES:(aK l)[k]=(l[k].1,l[k].2.2):=by simp
   have hs:=LK (aK l) k oN;rw[ES] at hs b1 b2 b3 b4;have cB:=(JB.out _ (List.getElem_mem hlt)).stays HB.out;have gQ:=HL.out _ (List.getElem_mem hlt);have MZ:=List.getElem?_eq_getElem hlt;have HGE:=Hd MZ;clear MZ;clear hc gX dM ES oN;generalize l[k]=p at *;obtain⟨d,pv,ps⟩:=p;simp only at lJ nV b1 b2 b3 b4 hs cB gQ;have vW:=UG _ _ b4;have sD:=UM (d,ps) (iH (aK l) k).doc vW;obtain⟨pa,jc,TY⟩:∃pa jc,pv=.slice pa ps.length jc:=by obtain⟨x,y,h,_⟩:=cB.value;exact⟨x,y,h⟩
   subst TY;have HS:=Hd hs;have K8:=Hd a6;have vB:=Hd vW;have axT:=Hd cB;have Eu:=Hd nU;clear hs a6 vW cB nU a1 b3 b4;generalize iH (aK l) k=st at *;obtain⟨sk,bd,la,dc,fr⟩:=st;simp only at a2 a3 a4 a5 b1 b5 sD HS K8 HO Eu;have an4:=JB.out _ (List.mem_of_getElem? HGE.out);have alg:=Hd an4;clear an4;by_cases hg:0<k∧k%8=0
   ·have bV:oq ⟨sk,bd,la,dc,fr⟩ k (d,ps)=⟨sk++[(dc-la).toNat,bd.length-fr],bd++qM (d,ps) dc,dc,d,bd.length⟩:=by unfold oq;rw[if_pos hg]
    rw[bV] at HS;obtain⟨oO,vV⟩:=hg;have hk8:((k:Int)%8==0)=true:=by simp;omega
    have lU:=(Eu.out.alloc (.cells #[.int .i64 d,.slice pa ps.length jc] 201));have ZX:=(HO.out.alloc (.cells #[.int .i64 d,.slice pa ps.length jc] 201));have Ey:=heap_alloc_new wo (.cells #[.int .i64 d,.slice pa ps.length jc] 201);have GH:=HB.out.alloc alf (.cells #[.int .i64 d,.slice pa ps.length jc] 201);have um:(wo.alloc (.cells #[.int .i64 d,.slice pa ps.length jc] 201)).heap.size=wo.heap.size+1:=by simp
    have cl:=Yh _ _ _ _ _ lU;have CL:=Hd cl;clear cl bV;go_wp2_with fail;refine CL.out.mono ?_;rintro e w2 ⟨rfl,rfl⟩;obtain⟨wx,KY⟩:∃wx,wo.alloc (.cells #[.int .i64 d,.slice pa ps.length jc] 201)=wx:=⟨_,rfl⟩;rw[KY] at lU ZX Ey GH um ⊢;clear KY CL;have pI:=Hd lU;have OM:=Hd Ey;have Et:=Hd GH;have Nr:=Hd um;clear lU Ey GH um;have Ou:w.heap.size≤wx.heap.size:=Et.out.size;have sO:(sk.length+2)*8≤140737488355328:=by omega
    go_wp2_with (at_builtin;go_must (refine FY wx (by rfl) _ _ 249 (by rfl) w.heap.size 144 _ i0 (.int .u64 0) 1 8 Tryz.underlying249 hi fJ eU fD rfl (by decide) (by decide) _ _ _ (by rfl) ZX 2 (by decide) #[.int .u64 (dc-la),.int .u64 ((bd.length:Int)-fr)] (by rfl) rfl ?c1 ?c2 Ou ?_))
    case c1=>simp[Value.oneCell']
    try (case c2=>exact sO)
    intro g cp w4 nS aiX lN FI axB;have e1:DX sk++(#[.int .u64 (dc-la),.int .u64 ((bd.length:Int)-fr)]:Array Value).toList=DX (sk++[(dc-la).toNat,bd.length-fr]):=by
     have h1:((dc-la).toNat:Int)=dc-la:=by omega
     have h2:((bd.length-fr:Nat):Int)=(bd.length:Int)-fr:=by omega
     simp[DX,h1,h2]
    have e2:sk.length+2=(sk++[(dc-la).toNat,bd.length-fr]).length:=by simp
    rw[e1,e2] at nS;have xx4:=(aiX.block wo.heap.size (by rw[Nr.out];omega) (fun e=>by have:=(HO.out.lt _ e.symm).2;omega)).trans OM.out
    have bl4:=pI.out.grown ZX (by decide) (by decide) aiX
    have gZ:=Et.out.grown aiX Ou (fun k hk=>by have:=(ZX.lt k hk).1;omega)
    have E2:=Hd e2;have K9:=Hd nS;have X4:=Hd xx4;have vD:=Hd bl4;have lQ:=Hd gZ;have cl:=Yh _ _ _ _ _ bl4;have CL:=Hd cl;clear e1 e2 nS xx4 bl4 gZ aiX lN ZX cl;rw[E2.out];go_wp2_with fail;refine CL.out.mono ?_;rintro e w2 ⟨rfl,rfl⟩
    ·skip
     have co:=mq d dc (.slice pa ps.length jc) ps w4 ((alg.out).stays lQ.out) b1 b5 b2 vB.out gQ;obtain⟨x0,x1⟩:=bN X4.out;have CO:=Hd co;clear co;go_wp2_with fail;refine CO.out.mono ?_;rintro e w5 ⟨rfl,q5⟩;have bl5:=vD.out.q q5;have ow5:=ownsRow_below K9.out q5;have xx5:=aB q5 X4.out;have nO:=lQ.out.trans (Below.mono q5 lQ.out.size);have cw:=iM w.heap.size w1.heap.size r bd (qM (d,ps) dc) w5 bl5 (by omega) nO.size
     have CW:=Hd cw;have QJ:=Hd bl5;have Lb:=Hd ow5;have X5:=Hd xx5;have lS:=Hd nO;clear cw bl5 ow5 xx5 nO q5 x0 x1;go_wp2_with fail;refine CW.out.mono ?_;rintro e w6 ⟨rfl,jP,r',lF,qg⟩;have ow6:=jP.owns QJ.out Lb.out (by decide) (by decide)
     have xx6:=jP.cells QJ.out X5.out (by decide) (by decide)
     have zl:=lS.out.trans (QJ.out.below jP lS.out.size);obtain⟨x0,x1⟩:=bN xx6;have Lf:=Hd lF;have Lg:=Hd ow6;have vX:=Hd zl;clear jP lF qg ow6 xx6 zl;go_wp2_with fail;go_roundw;case rel=>exact⟨k+1,by omega,by go_num,by rw[HS.out],by rw[HS.out],by rw[HS.out],by have h:=Lg.out;rw[←E2.out] at h;show World.ownsRow _ _ _ _ _ _ _;rw[HS.out];show World.ownsRow _ _ _ _ _ (sk++[(dc-la).toNat,bd.length-fr]).length (DX (sk++[(dc-la).toNat,bd.length-fr]));rw[←E2.out];exact h,by show ∃r,_;rw[HS.out];exact⟨r',Lf.out⟩,vX⟩
     case measure=>simp[intOf];omega
   ·have bV:oq ⟨sk,bd,la,dc,fr⟩ k (d,ps)=⟨sk,bd++qM (d,ps) dc,la,d,fr⟩:=by unfold oq;rw[if_neg hg]
    rw[bV] at HS;clear bV;have lU:=(Eu.out.alloc (.cells #[.int .i64 d,.slice pa ps.length jc] 201));have ZX:=(HO.out.alloc (.cells #[.int .i64 d,.slice pa ps.length jc] 201));have Ey:=heap_alloc_new wo (.cells #[.int .i64 d,.slice pa ps.length jc] 201);have GH:=HB.out.alloc alf (.cells #[.int .i64 d,.slice pa ps.length jc] 201);have pI:=Hd lU;have HOX:=Hd ZX;have OM:=Hd Ey;have Et:=Hd GH;clear lU ZX Ey GH;by_cases gY:k=0
    ·subst gY
     clear hg;simp only[Nat.zero_mul,Nat.add_zero] at lJ nV;have co:=mq d dc (.slice pa ps.length jc) ps _ ((alg.out).stays Et.out) b1 b5 b2 vB.out gQ;have CO:=Hd co;clear co;go_wp2_with fail;revert CO pI HOX OM Et;generalize wo.alloc (.cells #[.int .i64 d,.slice pa ps.length jc] 201)=w4;intro vD K9 X4 lQ CO;refine CO.out.mono ?_;rintro e w5 ⟨rfl,q5⟩;have bl5:=vD.out.q q5;have ow5:=ownsRow_below K9.out q5;have xx5:=aB q5 X4.out;have nO:=lQ.out.trans (Below.mono q5 lQ.out.size);have cw:=iM w.heap.size w1.heap.size r bd (qM (d,ps) dc) w5 bl5 (by omega) nO.size
     have CW:=Hd cw;have QJ:=Hd bl5;have Lb:=Hd ow5;have X5:=Hd xx5;have lS:=Hd nO;clear cw bl5 ow5 xx5 nO q5;go_wp2_with fail;refine CW.out.mono ?_;rintro e w6 ⟨rfl,jP,r',lF,qg⟩;have ow6:=jP.owns QJ.out Lb.out (by decide) (by decide)
     have xx6:=jP.cells QJ.out X5.out (by decide) (by decide)
     have zl:=lS.out.trans (QJ.out.below jP lS.out.size);obtain⟨x0,x1⟩:=bN xx6;have Lf:=Hd lF;have Lg:=Hd ow6;have vX:=Hd zl;clear jP lF qg ow6 xx6 zl;go_wp2_with fail;go_roundw;case rel=>exact⟨0+1,by omega,by go_num,by rw[HS.out],by rw[HS.out],by rw[HS.out],by show World.ownsRow _ _ _ _ _ _ _;rw[HS.out];exact Lg.out,by show ∃r,_;rw[HS.out];exact⟨r',Lf.out⟩,vX⟩
     case measure=>simp[intOf];omega
    ·have hk8:((k:Int)%8==0)=false:=by simp;omega
     have Np:0<k:=by omega
     clear hg gY;have co:=mq d dc (.slice pa ps.length jc) ps _ ((alg.out).stays Et.out) b1 b5 b2 vB.out gQ;have CO:=Hd co;clear co;go_wp2_with fail;revert CO pI HOX OM Et;generalize wo.alloc (.cells #[.int .i64 d,.slice pa ps.length jc] 201)=w4;intro vD K9 X4 lQ CO;refine CO.out.mono ?_;rintro e w5 ⟨rfl,q5⟩;have bl5:=vD.out.q q5;have ow5:=ownsRow_below K9.out q5;have xx5:=aB q5 X4.out;have nO:=lQ.out.trans (Below.mono q5 lQ.out.size);have cw:=iM w.heap.size w1.heap.size r bd (qM (d,ps) dc) w5 bl5 (by omega) nO.size
     have CW:=Hd cw;have QJ:=Hd bl5;have Lb:=Hd ow5;have X5:=Hd xx5;have lS:=Hd nO;clear cw bl5 ow5 xx5 nO q5;go_wp2_with fail;refine CW.out.mono ?_;rintro e w6 ⟨rfl,jP,r',lF,qg⟩;have ow6:=jP.owns QJ.out Lb.out (by decide) (by decide)
     have xx6:=jP.cells QJ.out X5.out (by decide) (by decide)
     have zl:=lS.out.trans (QJ.out.below jP lS.out.size);obtain⟨x0,x1⟩:=bN xx6;have Lf:=Hd lF;have Lg:=Hd ow6;have vX:=Hd zl;clear jP lF qg ow6 xx6 zl;go_wp2_with fail;go_roundw;case rel=>exact⟨k+1,by omega,by go_num,by rw[HS.out],by rw[HS.out],by rw[HS.out],by show World.ownsRow _ _ _ _ _ _ _;rw[HS.out];exact Lg.out,by show ∃r,_;rw[HS.out];exact⟨r',Lf.out⟩,vX⟩
     case measure=>simp[intOf];omega
  ·have jL:k=l.length:=by omega
   subst jL;have Xp:iH (aK l) l.length=xU ⟨[],[],-1,-1,0⟩ 0 (aK l):=by unfold iH;rw[List.take_of_length_le (by simp)]
   have tV:iG (aK l)=bI l.length++(dQ (iH (aK l) l.length).skips++(iH (aK l) l.length).body):=by rw[Xp];simp[iG]
   have HF:=Hd tV;clear tV Xp a1;generalize iH (aK l) l.length=st at *;obtain⟨sk,bd,la,dc,fr⟩:=st;simp only at a2 a3 a4 a5 a6 HF HO nU;have c1:=Ai (.slice (some ⟨wo.heap.size,0,none⟩) 1 1) [l.length] (wo.alloc (.cells #[.int .u64 (l.length:Nat)] 144)) (Sl.lit wo #[.int .u64 (l.length:Nat)] 144 1 1 rfl) (by simp) (by intro n vE;simp at vE;omega)
   have Nk:dQ [l.length]=bI l.length:=by simp[dQ]
   rw[Nk] at c1;have axU:=eP l.length;have ald:=zx sk;have C1:=Hd c1;have Eu:=Hd nU;have K8:=Hd a6;clear Nk;clear c1 nU a6;go_wp2_with fail;refine C1.out.mono ?_;rintro e w3 ⟨rfl,q3⟩;have tX:Q wo w3:=(Q.alloc _ _).trans q3;have jJ:=HB.out.trans (Below.mono tX alf);have c2:=Ai _ sk w3 (Sl.of_owns (ownsRow_below HO.out tX)) (by omega) K8.out
   have bl3:=Eu.out.q tX;have C2:=Hd c2;have iZ:=Hd jJ;have BL3:=Hd bl3;clear c2 jJ bl3 tX q3;go_wp2_with fail;refine C2.out.mono ?_;rintro e w4 ⟨rfl,q4⟩;have gZ:=iZ.out.trans (Below.mono q4 iZ.out.size);have bl4:=BL3.out.q q4;have c3:=Bv _ _ _ _ _ bl4;have C3:=Hd c3;have lQ:=Hd gZ;have vD:=Hd bl4;clear c3 gZ bl4 q4;go_wp2_with fail;refine C3.out.mono ?_;rintro e w5 ⟨rfl,Nc⟩;have nO:=lQ.out.trans (vD.out.below Nc lQ.out.size);have lS:=Hd nO;clear nO Nc;go_wp2_with fail;go_ret2;exact⟨LJ (by rw[bytes_append,bytes_append,HF.out,List.append_assoc]),lS.out⟩
theorem PPack_any(v:Value)(l:List aR)(w:World)(hv:Posts w v l)(hn:l.length≤1000)(hl:∀p∈l,p.2.2.length≤1000000):
  Calls Tryz.prog 158 #[v] w fun e w'=>e=.returned (.tuple #[.string ⟨(qW (aK l)).toArray⟩,.int .i64 (if aV (-1) (aK l) then 0 else 1)])∧Q w w':=by
 unfold qW;cases hr:aV (-1) (aK l) with
 | true=>exact PPack_ok v l w hv hn hl hr
 | false=>exact PPack_bad v l w hv hn hl hr
def Far(r r':Option Nat):Prop:=r=none∨r≠r'
theorem Far.fresh{w:World}{r r2 r2':Option Nat}(h:Far r r2)(hf:J7 w r2 r2')(hl:∀k,r=some k→k<w.heap.size):Far r r2':=by
 rcases hf with e|⟨g,e,hg⟩
 ·rw[e];exact h
 ·cases r with
  | none=>exact .inl rfl
  | some k=>right;rw[e];intro e2;cases e2;have:=hl _ rfl;omega
theorem Far.fresh'{w:World}{r r' r2:Option Nat}(h:Far r r2)(hf:J7 w r r')(hl:∀k,r2=some k→k<w.heap.size):Far r' r2:=by
 rcases hf with e|⟨g,e,hg⟩
 ·rw[e];exact h
 ·right;rw[e];intro e2;have:=hl _ e2.symm;omega
theorem Far.new{r:Option Nat}:Far r none:=by
 cases r with
 | none=>exact .inl rfl
 | some k=>right;simp
theorem Bld.row_ne{w:World}{B b b2:Nat}{r r2:Option Nat}{l l2:Bytes}(h:Bld w B b r l)(h2:Bld w B b2 r2 l2):r≠some b2∧some b2≠r:=by
 obtain⟨_,p,v,h3,_⟩:=h2;have aF:some b2≠r:=by
  intro e;obtain⟨cs,fz,hc⟩:=h.cellsRow b2 e.symm;rw[h3] at hc;injection hc with h4;injection h4 with _ h4 _;revert h4;decide
 exact⟨fun e=>aF e.symm,aF⟩
theorem Bld.aside{w w':World}{B b b2:Nat}{r r2:Option Nat}{l l2:Bytes}(h:Bld w B b r l)(h2:Bld w B b2 r2 l2)(hs:Step2 w w' b2 r2)(hb:b≠b2)(hf:Far r r2):Bld w' B b r l :=
 h.step hs hb (h2.row_ne h).2 (h.row_ne h2).1 hf
def Bs2(W:World)(B b1 b2:Nat)(l1 l2:Bytes):Prop:=∃r1 r2,Bld W B b1 r1 l1∧Bld W B b2 r2 l2∧Far r1 r2
def Bs3(W:World)(B b1 b2 b3:Nat)(l1 l2 l3:Bytes):Prop:=∃r1 r2 r3,Bld W B b1 r1 l1∧Bld W B b2 r2 l2∧Bld W B b3 r3 l3∧Far r1 r2∧Far r1 r3∧Far r2 r3
theorem Bs3.q{W W':World}{B b1 b2 b3:Nat}{l1 l2 l3:Bytes}(h:Bs3 W B b1 b2 b3 l1 l2 l3)(hq:Q W W'):Bs3 W' B b1 b2 b3 l1 l2 l3:=by
 obtain⟨r1,r2,r3,h1,h2,h3,f⟩:=h;exact⟨r1,r2,r3,h1.q hq,h2.q hq,h3.q hq,f⟩
def PK(w0 w:World)(base b1 b2 b3 X:Nat)(l1 l2 l3 t v:Bytes):Prop :=
 Bs3 w base b1 b2 b3 l1 l2 l3∧w.heap[X]?=some (.cells #[.string ⟨t.toArray⟩,.string ⟨v.toArray⟩] 231 (0,0))∧Below base w0 w∧base≤w0.heap.size
theorem PK.q{w0 w w':World}{base b1 b2 b3 X:Nat}{l1 l2 l3 t v:Bytes}(h:PK w0 w base b1 b2 b3 X l1 l2 l3 t v)(hq:Q w w'):PK w0 w' base b1 b2 b3 X l1 l2 l3 t v :=
 ⟨h.1.q hq,aB hq h.2.1,h.2.2.1.trans (Below.mono hq (Nat.le_trans h.2.2.2 h.2.2.1.size)),h.2.2.2⟩
theorem PK.al{w0 w:World}{base b1 b2 b3 X:Nat}{l1 l2 l3 t v:Bytes}{o:Obj}(h:PK w0 w base b1 b2 b3 X l1 l2 l3 t v):PK w0 (w.alloc o) base b1 b2 b3 X l1 l2 l3 t v:=h.q (Q.alloc w o)
theorem PK.dr{w0 w:World}{base b1 b2 b3 X:Nat}{l1 l2 l3 t v:Bytes}(h:PK w0 w base b1 b2 b3 X l1 l2 l3 t v):PK w0 w.drew base b1 b2 b3 X l1 l2 l3 t v:=h.q (Q.drew w)
theorem PK_write(x:ByteArray)(w0 w:World)(base b1 b2 b3 X:Nat)(l1 l2 l3 t v s:Bytes)(hx:x=⟨s.toArray⟩)(h:PK w0 w base b1 b2 b3 X l1 l2 l3 t v)(vL:b1≠b3)(Li:b2≠b3)(hl:l3.length+s.length≤140737488355328):
  Calls Tryz.prog 118 #[.pointer (some ⟨b3,0,none⟩),.string x] w fun e w'=>e=.returned (.tuple #[.int .i64 s.length,.nilIface])∧PK w0 w' base b1 b2 b3 X l1 l2 (l3++s) t v:=by
 subst hx;obtain⟨⟨r1,r2,r3,h1,h2,h3,f12,f13,f23⟩,hX,hB,hb⟩:=h;have aY:=Nat.le_trans hb hB.size;refine(iM base b3 r3 l3 s w h3 hl aY).mono ?_;rintro e w' ⟨rfl,hs,r',Jy,qg⟩;refine⟨rfl,⟨r1,r2,r',h1.aside h3 hs vL f13,h2.aside h3 hs Li f23,Jy,f12,f13.fresh qg (fun k hk=>(h1.row k hk).2),f23.fresh qg (fun k hk=>(h2.row k hk).2)⟩,hs.cells h3 hX (by decide) (by decide),hB.trans (h3.below hs aY),hb⟩
noncomputable def packRow:Code:=((Tryz.f159.body.bind (iw 14)).getD .skip)
theorem Strs.two(w:World)(x:ByteArray)(a b:Bytes)(e:TypeId)(hx:x=⟨a.toArray⟩):Strs (w.alloc (.cells #[.string x,.string ⟨b.toArray⟩] e)) (.slice (some ⟨w.heap.size,0,none⟩) 2 2) [a,b]:=by
 subst hx;exact Sl.lit w #[.string ⟨a.toArray⟩,.string ⟨b.toArray⟩] e 2 1 rfl
theorem U64s.one(w:World)(n:Nat)(e:TypeId):U64s (w.alloc (.cells #[.int .u64 (n:Nat)] e)) (.slice (some ⟨w.heap.size,0,none⟩) 1 1) [n]:=Sl.lit w #[.int .u64 (n:Nat)] e 1 1 rfl
theorem Strs.two'(w:World)(x:ByteArray)(a b:Bytes)(e:TypeId)(g:Nat)(hx:x=⟨a.toArray⟩)(hg:g=w.heap.size):Strs (w.alloc (.cells #[.string x,.string ⟨b.toArray⟩] e)) (.slice (some ⟨g,0,none⟩) 2 2) [a,b]:=hg▸Strs.two w x a b e hx
theorem U64s.one'(w:World)(n:Nat)(e:TypeId)(g:Nat)(hg:g=w.heap.size):U64s (w.alloc (.cells #[.int .u64 (n:Nat)] e)) (.slice (some ⟨g,0,none⟩) 1 1) [n]:=hg▸U64s.one w n e
theorem U64s.stq{w w':World}{v:Value}{ns:List Nat}(h:U64s w v ns)(q:Q w w'):U64s w' v ns:=h.stays q
theorem Strs.stq{w w':World}{v:Value}{ns:List Bytes}(h:Strs w v ns)(q:Q w w'):Strs w' v ns:=h.stays q
theorem World.drew_size(w:World):w.drew.heap.size=w.heap.size:=rfl
theorem PK.cells{w0 w:World}{base b1 b2 b3 X:Nat}{l1 l2 l3 t v:Bytes}(h:PK w0 w base b1 b2 b3 X l1 l2 l3 t v):w.cell? ⟨X,0,none⟩=some (.string ⟨t.toArray⟩)∧w.cell? ⟨X,1,none⟩=some (.string ⟨v.toArray⟩):=bN h.2.1
theorem U64s.al{w:World}{v:Value}{ns:List Nat}{o:Obj}(h:U64s w v ns):U64s (w.alloc o) v ns:=h.stays (Q.alloc w o)
theorem U64s.dr{w:World}{v:Value}{ns:List Nat}(h:U64s w v ns):U64s w.drew v ns:=h.stays (Q.drew w)
theorem Strs.al{w:World}{v:Value}{ns:List Bytes}{o:Obj}(h:Strs w v ns):Strs (w.alloc o) v ns:=h.stays (Q.alloc w o)
theorem Strs.dr{w:World}{v:Value}{ns:List Bytes}(h:Strs w v ns):Strs w.drew v ns:=h.stays (Q.drew w)
theorem pack_row(base b1 b2 b3 X n:Nat)(l1 l2 l3 t v:Bytes)(w0 w:World)(hK:PK w0 w base b1 b2 b3 X l1 l2 l3 t v)(vL:b1≠b3)(Li:b2≠b3)(hnt:n≤t.length)(ht:t.length≤40)(hv:v.length≤4194304)(lC:l3.length≤100000000)
  (Qx:Exit→Act→World→Prop) (x0 x1 x2 x3 x4 x5 x6 x8 x9 x12 x13 x14 x15 x16 x17 x18 x19 x20 x21 x22 x23 x24 x25 x26 x27 x28 x29 x30 x31 x32 x33 x34 x35 x36 x37 x38 x39 x40 x41 x42 x43 x44 x45 x46 x47 x48 x49 x50 x51 x52 x53 x54 x55 x56 x57 x58 x59 x60 x61 x62 x63 x64 x65 x66 x67 x68 x69 x70 x71 x72 x73 x74 x75 x76 x77 x78:Value)
  (hQ:∀w4 z44 z45 z46 z47 z48 z49 z50 z51 z52 z53 z54 z55 z56 z57,PK w0 w4 base b1 b2 b3 X l1 l2 (l3++(bI n++(aM (t.drop n)++aM v))) t v→Qx .normal ⟨#[x0,x1,x2,x3,x4,x5,x6,.pointer (some ⟨b3,0,none⟩),x8,x9,.pointer (some ⟨X,0,none⟩),.int .i64 (n:Nat),x12,x13,x14,x15,x16,x17,x18,x19,x20,x21,x22,x23,x24,x25,x26,x27,x28,x29,x30,x31,x32,x33,x34,x35,x36,x37,x38,x39,x40,x41,x42,x43,z44,z45,z46,z47,z48,z49,z50,z51,z52,z53,z54,z55,z56,z57,x58,x59,x60,x61,x62,x63,x64,x65,x66,x67,x68,x69,x70,x71,x72,x73,x74,x75,x76,x77,x78],[]⟩ w4) :
  packRow.wp Tryz.prog Qx ⟨#[x0,x1,x2,x3,x4,x5,x6,.pointer (some ⟨b3,0,none⟩),x8,x9,.pointer (some ⟨X,0,none⟩),.int .i64 (n:Nat),x12,x13,x14,x15,x16,x17,x18,x19,x20,x21,x22,x23,x24,x25,x26,x27,x28,x29,x30,x31,x32,x33,x34,x35,x36,x37,x38,x39,x40,x41,x42,x43,x44,x45,x46,x47,x48,x49,x50,x51,x52,x53,x54,x55,x56,x57,x58,x59,x60,x61,x62,x63,x64,x65,x66,x67,x68,x69,x70,x71,x72,x73,x74,x75,x76,x77,x78],[]⟩ w:=by
 conv=>arg 2;whnf
 have pz:Tryz.prog.follows .mixedOrders=true:=by kernel_rfl
 have zq:=Hd hQ;clear hQ;have KK:=Hd hK;obtain⟨c0,c1⟩:=bN hK.2.1;clear hK;have Cw:(0:Int)≤(n:Int)∧(n:Int)≤(t.length:Int):=by omega
 obtain⟨Ij,qC⟩:=Cw;have xJ:=iV t n;have La:IntKind.u64.wrap (n:Int)=n:=IntWalk.u64_in _ (by omega)
 have Nk:dQ [n]=bI n:=by simp[dQ]
 have hte:jQ [t.drop n,v]=aM (t.drop n)++aM v:=by simp[jQ]
 have jM:[n].length≤1000000000000:=by simp
 have aiV:∀m∈[n],m<18446744073709551616:=by intro m hm;simp at hm;omega
 have ata:[t.drop n,v].length≤1000:=by simp
 have oP:∀p∈[t.drop n,v],p.length≤100000000000:=by intro p hp;simp at hp;rcases hp with rfl|rfl<;>(try rw[List.length_drop])<;>omega
 have Dp:=eP n;have vg:(aM (t.drop n)++aM v).length≤5000000:=by have:=iF (t.drop n);have:=iF v;rw[List.length_append];rw[List.length_drop] at *;omega
 generalize bI n=vn at *;generalize aM (t.drop n)++aM v=tv at *;have aD:l3.length+(vn++tv).length≤140737488355328:=by rw[List.length_append];omega
 have yY:vn.length+tv.length≤9223372036854775807:=by omega
 have mY:∀W:World,(Op.stringOp .add ⟨vn.toArray⟩ ⟨tv.toArray⟩).run Tryz.prog W=.ok (.string (⟨vn.toArray⟩++⟨tv.toArray⟩)) W:=fun W=>run_string_add_sum W _ _ (by simpa[ByteArray.size] using yY)
 go_region_held3 (fun w'=>w'.cell? ⟨X,0,none⟩=some (.string ⟨t.toArray⟩)∧w'.cell? ⟨X,1,none⟩=some (.string ⟨v.toArray⟩)) (first|exact PK.cells (by repeat (first|with_reducible exact KK.out|with_reducible apply PK.al|with_reducible apply PK.dr))|exact PK.cells KZ.out)
  (first
   | (go_at_call 119;refine(Ai _ [n] _ (by repeat (first|(with_reducible refine U64s.one' _ _ _ _ ?_;simp only[World.size_alloc,World.drew_size];done)|with_reducible apply U64s.al|with_reducible apply U64s.dr|with_reducible refine U64s.stq ?_ q)) jM aiV).mono ?_;rw[Nk];rintro e w' ⟨rfl,q⟩;have k':PK w0 w' base b1 b2 b3 X l1 l2 l3 t v:=PK.q (by repeat (first|with_reducible exact KK.out|with_reducible apply PK.al|with_reducible apply PK.dr)) q;clear KK;have KK:=Hd k';clear k')
   | (go_at_call 120;refine(UF _ [t.drop n,v] _ (by repeat (first|(with_reducible refine Strs.two' _ _ _ _ _ _ rfl ?_;simp only[World.size_alloc,World.drew_size];done)|with_reducible apply Strs.al|with_reducible apply Strs.dr|with_reducible refine Strs.stq ?_ q)) ata oP).mono ?_;rw[hte];rintro e w' ⟨rfl,q⟩;have k':PK w0 w' base b1 b2 b3 X l1 l2 l3 t v:=PK.q (by repeat (first|with_reducible exact KK.out|with_reducible apply PK.al|with_reducible apply PK.dr)) q;clear KK;have KK:=Hd k';clear k')
   | (go_at_call 118;refine(PK_write _ w0 _ base b1 b2 b3 X l1 l2 l3 t v _ (bytes_append _ _) KK.out vL Li aD).mono ?_;rintro e w' ⟨rfl,k'⟩;have KZ:=Hd k';clear k'))
 all_goals exact zq.out _ _ _ _ _ _ _ _ _ _ _ _ _ _ _ KZ.out
def iE(l:List aN)(m:Nat):List aN:=(l.drop (16*m)).take 16
def wC(l:List aN)(m:Nat):Bytes:=bI l.length++(List.range m).flatMap fun i=>aM ((iE l i).headD ([],[])).1++bI (dU [] (iE l i)).length
def wE(l:List aN)(m:Nat):Bytes:=(List.range m).flatMap fun i=>dU [] (iE l i)
theorem Wn(l:List aN)(m:Nat):wC l (m+1)=wC l m++(aM ((iE l m).headD ([],[])).1++bI (dU [] (iE l m)).length):=by
 simp[wC,List.range_succ]
theorem N7(l:List aN)(m:Nat):wE l (m+1)=wE l m++dU [] (iE l m):=by
 simp[wE,List.range_succ]
theorem abL(n:Nat)(l:List aN)(m:Nat)(h:l.length≤n)(h1:l.length≤16*m)(h2:m=0∨16*(m-1)<l.length):mQ n l=(List.range m).map (iE l):=by
 induction n generalizing l m with
 | zero =>
  have:l=[]:=List.eq_nil_of_length_eq_zero (by omega)
  subst this;have:m=0:=by simp at h2;omega
  subst this;rfl
 | succ n ih =>
  rw[mQ];by_cases h0:l=[]
  ·subst h0
   have:m=0:=by simp at h2;omega
   subst this;rfl
  ·rw[if_neg h0]
   have hl:0<l.length:=List.length_pos_iff.2 h0;obtain⟨k,rfl⟩:∃k,m=k+1:=⟨m-1,by omega⟩
   rw[ih (l.drop 16) k (by rw[List.length_drop];omega) (by rw[List.length_drop];omega) (by rw[List.length_drop];omega),List.range_succ_eq_map,List.map_cons,List.map_map]
   congr 1;apply List.map_congr_left;intro i _;show(List.drop (16*i) (List.drop 16 l)).take 16=(l.drop (16*(i+1))).take 16;rw[List.drop_drop,show 16+16*i=16*(i+1) by omega]
theorem UN(l:List aN)(m:Nat)(h1:l.length≤16*m)(h2:m=0∨16*(m-1)<l.length):kV l=wC l m++wE l m:=by
 unfold kV;rw[abL l.length l m (Nat.le_refl _) h1 h2];simp[wC,wE,List.flatMap_map]
theorem aeS(last:Bytes)(l:List aN)(e:aN):dU last (l++[e])=dU last l++(bI (dW (if l=[] then last else(l.getLastD ([],[])).1) e.1)++(aM (e.1.drop (dW (if l=[] then last else(l.getLastD ([],[])).1) e.1))++aM e.2)):=by
 induction l generalizing last with
 | nil=>simp[dU]
 | cons a l ih =>
  rw[List.cons_append,dU,dU,ih];cases l with
  | nil=>simp
  | cons b l=>simp[List.getLastD]
def pX(g:List aN)(j:Nat):Bytes:=if j=0 then [] else(g.getD (j-1) ([],[])).1
theorem TD(g:List aN)(j:Nat)(h:j<g.length):dU [] (g.take (j+1))=dU [] (g.take j)++(bI (dW (pX g j) g[j].1)++(aM (g[j].1.drop (dW (pX g j) g[j].1))++aM g[j].2)):=by
 have e:(if g.take j=[] then [] else((g.take j).getLastD ([],[])).1)=pX g j:=by
  unfold pX;by_cases hj:j=0
  ·subst hj;simp
  ·have aF:g.take j≠[]:=fun e=>by have:=congrArg List.length e;rw[List.length_take,List.length_nil] at this;omega
   rw[if_neg aF,if_neg hj];congr 1;rw[List.getLastD_eq_getLast?,List.getLast?_eq_getElem?,List.length_take,Nat.min_eq_left (by omega),List.getElem?_take,if_pos (by omega),List.getD_eq_getElem?_getD]
 rw[List.take_succ_eq_append_getElem h,aeS,e]
theorem Y6(a b:Bytes):dW a b≤b.length∧dW a b≤a.length:=by
 induction a generalizing b with
 | nil=>cases b<;>simp[dW]
 | cons x a ih =>
  cases b with
  | nil=>simp[dW]
  | cons y b =>
   rw[dW];split
   ·have:=ih b;simp only[List.length_cons];omega
   ·simp
theorem DPack_bad(v:Value)(l:List aN)(w:World)(hv:Pairs w v l)(hn:l.length≤9223372036854775807)(hl:∀e∈l,e.1.length≤9223372036854775807∧e.2.length≤9223372036854775807)(hr:(dw [] l&&decide (l.length≤1048576))=false):
  Calls Tryz.prog 159 #[v] w fun e w'=>e=.returned (.tuple #[.string ⟨([]:Bytes).toArray⟩,.int .i64 1])∧Q w w':=by
 have c:=VH v l w hv hn hl;rw[hr] at c;obtain⟨a,cap,rfl,aJ⟩:=hv.value;have C:=Hd c;clear c hv hl aJ hr;go_enter Tryz.func159,Tryz.ntmps159;go_wp2_with fail;refine C.out.mono ?_;rintro e w1 ⟨rfl,q1⟩;go_wp2_with fail;go_ret2;exact⟨rfl,q1⟩
theorem Far.symm{r r2:Option Nat}(h:Far r r2):Far r2 r:=by
 rcases h with rfl|h
 ·exact Far.new
 ·exact .inr (Ne.symm h)
def B3(W0 w:World)(b1 b2 b3:Nat)(l1 l2 l3:Bytes):Prop:=Bs3 w W0.heap.size b1 b2 b3 l1 l2 l3∧Below W0.heap.size W0 w
theorem B3.q{W0 w w':World}{b1 b2 b3:Nat}{l1 l2 l3:Bytes}(h:B3 W0 w b1 b2 b3 l1 l2 l3)(hq:Q w w'):B3 W0 w' b1 b2 b3 l1 l2 l3:=⟨h.1.q hq,h.2.trans (Below.mono hq h.2.size)⟩
theorem B3.al{W0 w:World}{b1 b2 b3:Nat}{l1 l2 l3:Bytes}(h:B3 W0 w b1 b2 b3 l1 l2 l3)(o:Obj):B3 W0 (w.alloc o) b1 b2 b3 l1 l2 l3:=h.q (Q.alloc _ _)
theorem B3_write1(x:ByteArray)(W0 w:World)(b1 b2 b3:Nat)(l1 l2 l3 s:Bytes)(hx:x=⟨s.toArray⟩)(h:B3 W0 w b1 b2 b3 l1 l2 l3)(ZY:b1≠b2)(vL:b1≠b3)(hl:l1.length+s.length≤140737488355328):
  Calls Tryz.prog 118 #[.pointer (some ⟨b1,0,none⟩),.string x] w fun e w'=>e=.returned (.tuple #[.int .i64 s.length,.nilIface])∧B3 W0 w' b1 b2 b3 (l1++s) l2 l3:=by
 subst hx;obtain⟨⟨r1,r2,r3,h1,h2,h3,f12,f13,f23⟩,hB⟩:=h;refine(iM _ b1 r1 l1 s w h1 hl hB.size).mono ?_;rintro e w' ⟨rfl,hs,r',Jy,qg⟩;exact⟨rfl,⟨r',r2,r3,Jy,h2.aside h1 hs (Ne.symm ZY) f12.symm,h3.aside h1 hs (Ne.symm vL) f13.symm,f12.fresh' qg (fun k hk=>(h2.row k hk).2),f13.fresh' qg (fun k hk=>(h3.row k hk).2),f23⟩,hB.trans (h1.below hs hB.size)⟩
theorem B3_string(W0 w:World)(b1 b2 b3:Nat)(l1 l2 l3:Bytes)(h:B3 W0 w b1 b2 b3 l1 l2 l3)(vL:b1≠b3)(Li:b2≠b3):
  Calls Tryz.prog 98 #[.pointer (some ⟨b3,0,none⟩)] w fun e w'=>e=.returned (.string ⟨l3.toArray⟩)∧Bs2 w' W0.heap.size b1 b2 l1 l2∧Below W0.heap.size W0 w':=by
 obtain⟨⟨r1,r2,r3,h1,h2,h3,f12,f13,f23⟩,hB⟩:=h;refine(Bv _ _ _ _ _ h3).mono ?_;rintro e w' ⟨rfl,hs⟩;exact⟨rfl,⟨r1,r2,h1.aside h3 hs vL f13,h2.aside h3 hs Li f23,f12⟩,hB.trans (h3.below hs hB.size)⟩
theorem ahd(x:ByteArray)(W0 w:World)(b1 b2:Nat)(l1 l2 s:Bytes)(hx:x=⟨s.toArray⟩)(h:Bs2 w W0.heap.size b1 b2 l1 l2)(hB:Below W0.heap.size W0 w)(ZY:b1≠b2)(hl:l2.length+s.length≤140737488355328):
  Calls Tryz.prog 118 #[.pointer (some ⟨b2,0,none⟩),.string x] w fun e w'=>e=.returned (.tuple #[.int .i64 s.length,.nilIface])∧Bs2 w' W0.heap.size b1 b2 l1 (l2++s)∧Below W0.heap.size W0 w':=by
 subst hx;obtain⟨r1,r2,h1,h2,f12⟩:=h;refine(iM _ b2 r2 l2 s w h2 hl hB.size).mono ?_;rintro e w' ⟨rfl,hs,r',Jy,qg⟩;exact⟨rfl,⟨r1,r',h1.aside h2 hs ZY f12,Jy,f12.fresh qg (fun k hk=>(h1.row k hk).2)⟩,hB.trans (h2.below hs hB.size)⟩
theorem aeT(W0 w:World)(b1 b2:Nat)(l1 l2:Bytes)(h:Bs2 w W0.heap.size b1 b2 l1 l2)(hB:Below W0.heap.size W0 w)(ZY:b1≠b2):
  Calls Tryz.prog 98 #[.pointer (some ⟨b1,0,none⟩)] w fun e w'=>e=.returned (.string ⟨l1.toArray⟩)∧(∃r2,Bld w' W0.heap.size b2 r2 l2)∧Below W0.heap.size W0 w':=by
 obtain⟨r1,r2,h1,h2,f12⟩:=h;refine(Bv _ _ _ _ _ h1).mono ?_;rintro e w' ⟨rfl,hs⟩;exact⟨rfl,⟨r2,h2.aside h1 hs (Ne.symm ZY) f12.symm⟩,hB.trans (h1.below hs hB.size)⟩
theorem Bs3_len(w:World)(B b1 b2 b3:Nat)(l1 l2 l3:Bytes)(h:Bs3 w B b1 b2 b3 l1 l2 l3):
  Calls Tryz.prog 184 #[.pointer (some ⟨b3,0,none⟩)] w fun e w'=>e=.returned (.int .i64 l3.length)∧w=w':=by
 obtain⟨r1,r2,r3,h1,h2,h3,_⟩:=h;exact Yh B b3 r3 l3 w h3
theorem Strs.lit1(w:World)(a:Bytes)(e:TypeId):Strs (w.alloc (.cells #[.string ⟨a.toArray⟩] e)) (.slice (some ⟨w.heap.size,0,none⟩) 1 1) [a]:=Sl.lit w #[.string ⟨a.toArray⟩] e 1 1 rfl
theorem LM(l:List aN)(m:Nat):(iE l m).length=min 16 (l.length-16*m):=by simp[iE]
theorem grpL_at(l:List aN)(m j:Nat)(h:j<(iE l m).length)(h2:16*m+j<l.length):(iE l m)[j]=l[16*m+j]:=by simp[iE]
theorem aeU(g:List aN)(j:Nat)(h:j<g.length):pX g (j+1)=g[j].1:=by
 simp[pX,List.getD_eq_getElem?_getD,h]
def Small(l:List aN):Prop:=∀e∈l,e.1.length≤40∧e.2.length≤4194304
theorem sG{l:List aN}(h:Small l)(m:Nat):Small (iE l m):=fun e he=>h e (List.mem_of_mem_drop (List.mem_of_mem_take he))
theorem ahe{g:List aN}(h:Small g)(j:Nat)(hj:j<g.length):(pX g j).length≤40:=by
 unfold pX;split
 ·simp
 ·rw[List.getD_eq_getElem?_getD,List.getElem?_eq_getElem (by omega)]
  exact(h _ (List.getElem_mem _)).1
theorem IE{g:List aN}(h:Small g)(last:Bytes):(dU last g).length≤g.length*4194400:=by
 induction g generalizing last with
 | nil=>simp[dU]
 | cons e g ih =>
  have h1:=ih (fun x hx=>h x (List.mem_cons_of_mem _ hx)) e.1
  have h2:=h e (List.mem_cons_self ..);have h3:=eP (dW last e.1);have h4:=iF (e.1.drop (dW last e.1));have h5:=iF e.2;simp only[dU,List.length_append,List.length_cons];rw[List.length_drop] at h4;omega
theorem Y7{g:List aN}(h:Small g):(g.headD ([],[])).1.length≤40:=by
 cases g with
 | nil=>simp
 | cons e g=>exact(h e (List.mem_cons_self ..)).1
theorem Kq{l:List aN}(h:Small l)(m:Nat):(wC l m).length≤10+m*60:=by
 induction m with
 | zero=>have:=eP l.length;simp[wC];omega
 | succ m ih =>
  rw[Wn];have h1:=Y7 (sG h m);have h2:=iF ((iE l m).headD ([],[])).1;have h3:=eP (dU [] (iE l m)).length;simp only[List.length_append];omega
theorem Kr{l:List aN}(h:Small l)(m:Nat):(wE l m).length≤m*67110400:=by
 induction m with
 | zero=>simp[wE]
 | succ m ih =>
  rw[N7];have h1:=IE (sG h m) [];have h2:=LM l m;rw[List.length_append];omega
theorem DPack_ok(v:Value)(l:List aN)(w:World)(base:Nat)(aQ:w.ownsRow base 231 2 v l.length (dV l))(qU:dw [] l=true)(jG:l.length≤1048576)(hl:Small l):
  Calls Tryz.prog 159 #[v] w fun e w'=>e=.returned (.tuple #[.string ⟨(kV l).toArray⟩,.int .i64 0])∧Q w w':=by
 have hv:Pairs w v l:=Sl.of_owns aQ;have c:=VH v l w hv (by omega) (fun e he=>by have:=hl e he;omega)
 rw[qU,decide_eq_true jG,Bool.and_true] at c;obtain⟨a,cap,rfl,aJ⟩:=hv.value;have zT:l.length≤cap∧(cap:Int)≤9223372036854775807:=by
  rcases aQ.2 with ⟨h,h0⟩|⟨g,cp,cur,h,_,_,h1,h2,_⟩
  ·injection h with e1 e2 e3;omega
  ·injection h with e1 e2 e3;unfold maxLen at h2;subst e3;exact⟨h1,by omega⟩
 obtain⟨aaX,amm⟩:=zT;have C:=Hd c;have HC:=Hd aJ;have HL:=Hd hl;clear c hv hl aJ qU aQ;go_enter Tryz.func159,Tryz.ntmps159;go_wp2_with fail;refine C.out.mono ?_;rintro e w1 ⟨rfl,q1⟩;have l9:=q1.size;have cv:=Ai _ [l.length] (((w1.alloc (.cells #[.pointer none,.slice none 0 0] 179)).alloc (.cells #[.pointer none,.slice none 0 0] 179)).alloc (.cells #[.int .u64 (l.length:Nat)] 144)) (Sl.lit _ #[.int .u64 (l.length:Nat)] 144 1 1 rfl) (by simp) (by intro n vE;simp at vE;omega)
 simp only[World.size_alloc] at cv;have Nk:dQ [l.length]=bI l.length:=by simp[dQ]
 rw[Nk] at cv;have dS:Bld (((w1.alloc (.cells #[.pointer none,.slice none 0 0] 179)).alloc (.cells #[.pointer none,.slice none 0 0] 179)).alloc (.cells #[.int .u64 (l.length:Nat)] 144)) w.heap.size w1.heap.size none []:=((Bld.new w1 _ l9).alloc _).alloc _;have aO:Bld (((w1.alloc (.cells #[.pointer none,.slice none 0 0] 179)).alloc (.cells #[.pointer none,.slice none 0 0] 179)).alloc (.cells #[.int .u64 (l.length:Nat)] 144)) w.heap.size (w1.heap.size+1) none []:=by
  have:=(Bld.new (w1.alloc (.cells #[.pointer none,.slice none 0 0] 179)) w.heap.size (by simp;omega)).alloc (.cells #[.int .u64 (l.length:Nat)] 144)
  simpa using this
 have zk:Below w.heap.size w (((w1.alloc (.cells #[.pointer none,.slice none 0 0] 179)).alloc (.cells #[.pointer none,.slice none 0 0] 179)).alloc (.cells #[.int .u64 (l.length:Nat)] 144)):=(((show Below w.heap.size w w1 from q1).alloc l9 _).alloc (by simp;omega) _).alloc (by simp;omega) _
 have CV:=Hd cv;have jT:=Hd dS;have eG:=Hd aO;have Ej:=Hd zk;clear cv Nk dS aO zk q1;go_wp2_with fail;refine CV.out.mono ?_;rintro e w2 ⟨rfl,q2⟩;have k1:=jT.out.q q2;have k2:=eG.out.q q2;have kb:=Ej.out.trans (Below.mono q2 Ej.out.size);have Dp:=eP l.length;have cw:=iM w.heap.size w1.heap.size none [] (bI l.length) w2 k1 (by simp;omega) kb.size
 have CW:=Hd cw;have K1:=Hd k1;have K2:=Hd k2;have KB:=Hd kb;clear cw k1 k2 kb q2 jT eG Ej CV;go_wp2_with fail;refine CW.out.mono ?_;rintro e w3 ⟨rfl,kP,r1,amn,atb⟩;have m2:=K2.out.aside K1.out kP (by omega) Far.new
 have mb:=KB.out.trans (K1.out.below kP KB.out.size);have aI:Bs2 w3 w.heap.size w1.heap.size (w1.heap.size+1) (wC l 0) (wE l 0):=⟨r1,none,by simpa[wC] using amn,by simpa[wE] using m2,Far.new⟩
 have bJ:=Hd aI;have MB:=Hd mb;clear aI mb m2 kP amn atb K1 K2 KB CW;go_wp2_with fail;go_loopw [6] (fun i wr=>∃m:Nat,i=.int .i64 (16*(m:Int))∧(m=0∨16*(m-1)<l.length)∧Hid (Bs2 wr w.heap.size w1.heap.size (w1.heap.size+1) (wC l m) (wE l m))∧Hid (Below w.heap.size w wr)) (fun i _=>l.length+16-(intOf i).toNat)
 case atStart=>exact⟨0,rfl,.inl rfl,bJ,MB⟩
 case round =>
  obtain⟨m,rfl,hm,HS,HB⟩:=hrel;obtain⟨wo,rfl⟩:∃wo:World,wo=wr:=⟨_,rfl⟩;have Fb:=HB.out.size;by_cases hlt:16*m<l.length
  ·obtain⟨b,off,rfl,hc⟩:=HC.out (by omega)
   have rM:=Hd hc;clear hc;have aF:¬cap=16*m:=by omega
   have AA:=LM l m;have hg:(min (l.length:Int) (16*(m:Int)+16)).toNat-16*m=(iE l m).length:=by rw[AA];omega
   have vT:m≤65536:=by omega
   have Lv:=Hd AA;have ZO:Bs3 (wo.alloc (.cells #[.pointer none,.slice none 0 0] 179)) w.heap.size w1.heap.size (w1.heap.size+1) wo.heap.size (wC l m) (wE l m) []:=by
    obtain⟨r1,r2,h1,h2,hf⟩:=HS.out;exact⟨r1,r2,none,h1.alloc _,h2.alloc _,Bld.new wo _ Fb,hf,Far.new,Far.new⟩
   have alh:w1.heap.size+1<wo.heap.size:=by obtain⟨_,_,_,h2,_⟩:=HS.out;exact h2.lt
   have mU:=HB.out.alloc Fb (.cells #[.pointer none,.slice none 0 0] 179);have HG:=Hd hg;have HBN:=Hd ZO;have HBO:=Hd mU;clear hg ZO mU HS HB AA;by_cases Vf:16*m+16<l.length;all_goals
    go_wp2_with fail;simp only[HG.out,decide_eq_true (show 16*(m:Int)<(l.length:Int) by omega)]
    go_loopw [8,36] (fun last i wr=>∃j:Nat,j≤(iE l m).length∧i=.int .i64 (j:Nat)∧last=.string ⟨(pX (iE l m) j).toArray⟩∧Hid (Bs3 wr w.heap.size w1.heap.size (w1.heap.size+1) wo.heap.size (wC l m) (wE l m) (dU [] ((iE l m).take j)))∧Hid (Below w.heap.size w wr)) (fun last i _=>(iE l m).length-(intOf i).toNat)
    case atStart=>exact⟨0,by omega,rfl,rfl,HBN,HBO⟩
    case round =>
     obtain⟨j,hj,rfl,rfl,oU,iZ⟩:=hrel;obtain⟨wi,rfl⟩:∃wi:World,wi=wr:=⟨_,rfl⟩;have JC:=iZ.out.size;by_cases iI:j<(iE l m).length
     ·have ET:16*m+j<l.length:=by rw[Lv.out] at iI;omega
      have ES:=grpL_at l m j iI ET;obtain⟨gX,dM⟩:=rM.out (16*m+j) ET;have lJ:=ah iZ.out gX;have nV:=ah iZ.out dM;rw[←ES,show off+(16*m+j)*2=off+16*m*2+j*2 by omega] at lJ nV
      have aD:=sG HL.out m _ (List.getElem_mem iI);have sO:=ahe (sG HL.out m) j iI;have vQ:=TD (iE l m) j iI;have rR:=aeU (iE l m) j iI;have oQ:=IE (g:=(iE l m).take j) (fun e he=>sG HL.out m e (List.mem_of_mem_take he)) []
      rw[List.length_take,Lv.out] at oQ;have Lx:=Hd vQ;have HLS:=Hd rR;clear gX dM ES vQ rR;generalize (iE l m)[j]=el at *;obtain⟨t,v⟩:=el;simp only at lJ nV aD Lx HLS;have yJ:=Y6 (pX (iE l m) j) t;have hk:PK w (wi.alloc (.cells #[.string ⟨t.toArray⟩,.string ⟨v.toArray⟩] 231)) w.heap.size w1.heap.size (w1.heap.size+1) wo.heap.size wi.heap.size (wC l m) (wE l m) (dU [] ((iE l m).take j)) t v :=
       ⟨(oU.out).q (Q.alloc _ _),heap_alloc_new _ _,(iZ.out).alloc JC _,Nat.le_refl _⟩
      have ca:=alike_any (pX (iE l m) j) t (wi.alloc (.cells #[.string ⟨t.toArray⟩,.string ⟨v.toArray⟩] 231)) (by omega) (by omega)
      have CA:=Hd ca;have KK:=Hd hk;have vR:=Hd yJ.1;clear ca hk yJ;go_wp2_with fail;refine CA.out.mono ?_;rintro e w5 ⟨rfl,q5⟩;have k5:=KK.out.q q5;have K5:=Hd k5;clear k5 q5 CA KK;go_wp2_with fail;refine pack_row w.heap.size w1.heap.size (w1.heap.size+1) wo.heap.size wi.heap.size (dW (pX (iE l m) j) t) _ _ _ t v w w5 K5.out (by omega) (by omega) vR.out aD.1 aD.2 (by omega) _ _ _ _ _ _ _ _ _ _ _ _ _ _ _ _ _ _ _ _ _ _ _ _ _ _ _ _ _ _ _ _ _ _ _ _ _ _ _ _ _ _ _ _ _ _ _ _ _ _ _ _ _ _ _ _ _ _ _ _ _ _ _ _ _ _ _ _ _ _ _ _ _ _ _ _ _ ?_
      intro w6 z44 z45 z46 z47 z48 z49 z50 z51 z52 z53 z54 z55 z56 z57 k6;obtain⟨x0,x1⟩:=bN k6.2.1;have S6:=Hd k6.1;have B6:=Hd k6.2.2.1;clear k6 K5;go_wp2_with fail;go_roundw;case rel=>exact⟨j+1,by omega,by go_num,by rw[HLS.out],by show Bs3 _ _ _ _ _ _ _ _;rw[Lx.out];exact S6.out,B6.out⟩
      case measure=>simp[intOf];omega
     ·have qh:j=(iE l m).length:=by omega
      subst qh;rw[List.take_length] at oU;obtain⟨gX,_⟩:=rM.out (16*m) hlt;have lJ:=ah iZ.out gX;have OH:(l[16*m]).1=((iE l m).headD ([],[])).1:=by simp[iE,List.headD_eq_head?_getD,List.head?_eq_getElem?,List.getElem?_take,hlt]
      rw[OH,show off+(16*m)*2=off+16*m*2 by omega] at lJ
      have uj:=Kq HL.out m;have dI:=Kr HL.out m;have oQ:=IE (sG HL.out m) [];have Sw:=Y7 (sG HL.out m);have his:=Wn l m;have has:=N7 l m;have HIS:=Hd his;have HAS:=Hd has;clear gX OH his has;generalize ((iE l m).headD ([],[])).1=hd at *;have Uj:(iE l m).length≤16:=by rw[Lv.out];omega
      have h3:B3 w wi w1.heap.size (w1.heap.size+1) wo.heap.size (wC l m) (wE l m) (dU [] (iE l m)):=⟨oU.out,iZ.out⟩;generalize dU [] (iE l m)=bk at *;have ct:=UF _ [hd] _ (Strs.lit1 wi hd 9) (by simp) (by intro p hp;rw[List.mem_singleton] at hp;subst hp;omega)
      rw[show jQ [hd]=aM hd by simp[jQ]] at ct
      have vg:=iF hd;have CT:=Hd ct;have H3:=Hd (h3.al (.cells #[.string ⟨hd.toArray⟩] 9));clear ct h3 oU iZ;go_wp2_with fail;refine CT.out.mono ?_;rintro e w5 ⟨rfl,q5⟩;have h5:=H3.out.q q5;have cl:=Bs3_len _ _ _ _ _ _ _ _ h5.1;have cv:=Ai _ [bk.length] (w5.alloc (.cells #[.int .u64 (bk.length:Nat)] 144)) (Sl.lit _ #[.int .u64 (bk.length:Nat)] 144 1 1 rfl) (by simp) (by intro n vE;simp at vE;omega)
      rw[show dQ [bk.length]=bI bk.length by simp[dQ]] at cv
      have ald:=eP bk.length;have CL:=Hd cl;have CV:=Hd cv;have H5:=Hd (h5.al (.cells #[.int .u64 (bk.length:Nat)] 144));clear cl cv h5 q5 CT H3;go_wp2_with fail;refine CL.out.mono ?_;rintro e w6 ⟨rfl,rfl⟩;go_wp2_with fail;refine CV.out.mono ?_;rintro e w7 ⟨rfl,q7⟩;have h7:=H5.out.q q7;have cw:=B3_write1 _ w w7 w1.heap.size (w1.heap.size+1) wo.heap.size _ _ _ _ (bytes_append (aM hd) (bI bk.length)) h7 (by omega) (by omega) (by rw[List.length_append];omega)
      rw[←HIS.out] at cw;have CW:=Hd cw;clear cw h7 q7 CL CV H5;go_wp2_with fail;refine CW.out.mono ?_;rintro e w8 ⟨rfl,h8⟩;have cs:=B3_string _ _ _ _ _ _ _ _ h8 (by omega) (by omega)
      have CS:=Hd cs;clear cs h8 CW;go_wp2_with fail;refine CS.out.mono ?_;rintro e w9 ⟨rfl,h9,Uh⟩;have cw:=ahd _ w w9 w1.heap.size (w1.heap.size+1) _ _ bk rfl h9 Uh (by omega) (by omega)
      rw[←HAS.out] at cw;have CW:=Hd cw;clear cw h9 Uh CS;go_wp2_with fail;refine CW.out.mono ?_;rintro e w10 ⟨rfl,h10,Ve⟩;have H10:=Hd h10;have FM:=Hd Ve;clear h10 Ve CW;go_wp2_with fail;go_roundw;case rel=>exact⟨m+1,by go_num,.inr (by omega),H10,FM⟩
      case measure=>simp[intOf];omega
  ·have tV:=UN l m (by omega) hm
   have uj:=Kq HL.out m;have dI:=Kr HL.out m;have yK:m≤65537:=by omega
   have c1:=aeT w wo w1.heap.size (w1.heap.size+1) _ _ HS.out HB.out (by omega)
   have HF:=Hd tV;have C1:=Hd c1;clear tV c1 HS HB;generalize wC l m=il at *;generalize wE l m=al at *;go_wp2_with fail;refine C1.out.mono ?_;rintro e w3 ⟨rfl,⟨r2,jJ⟩,an8⟩;have c2:=Bv _ _ _ _ _ jJ;have C2:=Hd c2;have iZ:=Hd jJ;have HE3:=Hd an8;clear c2 jJ an8 C1;go_wp2_with fail;refine C2.out.mono ?_;rintro e w4 ⟨rfl,hs⟩;have gZ:=HE3.out.trans (iZ.out.below hs HE3.out.size);have lQ:=Hd gZ;clear gZ hs C2 iZ HE3;go_wp2_with fail;go_ret2;exact⟨LJ (by rw[bytes_append,HF.out]),lQ.out⟩
end
section
def IsRead(s:Bytes)(l:List au)(d:Bytes):Prop :=
 l.length≤500∧(∀x∈l,E8 x)∧d.length<18446744073709551616∧s=bI l.length++(jg l++aM d)
def Mid(s:Bytes)(n:Nat)(l:List au)(r:Bytes):Prop :=
 n≤500∧(∀x∈l,E8 x)∧l.length≤n∧s=bI n++(jg l++r)
theorem Mid.step{s:Bytes}{n:Nat}{l:List au}{r i r1 t r2:Bytes}(h:Mid s n l r)(hl:l.length<n)(h1:IsText r i r1)(h2:IsText r1 t r2):Mid s n (l++[(i,t)]) r2:=by
 obtain⟨a,b,c,e⟩:=h;refine⟨a,?_,by simp;omega,?_⟩
 ·intro x hx
  simp only[List.mem_append,List.mem_singleton] at hx;rcases hx with hx|rfl
  ·exact b x hx
  ·exact⟨h1.1,h2.1⟩
 ·rw[e,Je,h1.2,h2.2];simp[jg]
theorem Mid.len{s:Bytes}{n:Nat}{l:List au}{r:Bytes}(h:Mid s n l r):r.length≤s.length:=by
 rw[h.2.2.2];simp;omega
theorem Mid.done{s:Bytes}{n:Nat}{l:List au}{r d:Bytes}(h:Mid s n l r)(hl:l.length=n)(h1:IsText r d []):IsRead s l d:=by
 obtain⟨a,b,c,e⟩:=h;exact⟨by omega,b,h1.1,by rw[e,h1.2,hl];simp⟩
theorem Mid.begins{s:Bytes}{n:Nat}{l m:List au}{r d:Bytes}(h:Mid s n l r)(hr:IsRead s m d):m.length=n∧r=jg (m.drop l.length)++aM d:=by
 obtain⟨a,b,c,e⟩:=h;obtain⟨a',b',c',e'⟩:=hr;rw[e] at e';obtain⟨h1,h2⟩:=NG _ _ (by omega) (by omega) _ _ e'
 refine⟨h1.symm,?_⟩;have hm:m=m.take l.length++m.drop l.length:=(List.take_append_drop _ _).symm;rw[hm,Je,List.append_assoc] at h2;have aD:l.length=(m.take l.length).length:=by rw[List.length_take];omega
 exact(YD l (m.take l.length) aD b (fun x hx=>b' x (List.mem_of_mem_take hx)) _ _ h2).2
theorem Mid.next{s:Bytes}{n:Nat}{l m:List au}{r d:Bytes}(h:Mid s n l r)(hr:IsRead s m d)(hl:l.length<n):∃i t r1 r2,IsText r i r1∧IsText r1 t r2:=by
 obtain⟨h1,h2⟩:=h.begins hr;have hlt:l.length<m.length:=by omega
 rw[List.drop_eq_getElem_cons hlt] at h2;have hs:=hr.2.1 m[l.length] (List.getElem_mem hlt);exact⟨_,_,_,_,⟨hs.1,by rw[h2];simp[jg];rfl⟩,⟨hs.2,rfl⟩⟩
theorem Mid.last{s:Bytes}{n:Nat}{l m:List au}{r d:Bytes}(h:Mid s n l r)(hr:IsRead s m d)(hl:l.length=n):IsText r d []:=by
 obtain⟨h1,h2⟩:=h.begins hr;have:m.drop l.length=[]:=List.drop_eq_nil_of_le (by omega)
 rw[this] at h2;exact⟨hr.2.2.1,by rw[h2];simp[jg]⟩
end
section
open Go.RowKit
abbrev bK(l:List au):List Value:=l.flatMap fun d=>[ak d.1,ak d.2]
def Docs(w:World)(v:Value)(l:List au):Prop:=Sl w v l.length 2 (bK l)
theorem Docs.stays{w w':World}{v:Value}{l:List au}(h:Docs w v l)(hb:Below w.heap.size w w'):Docs w' v l:=Sl.stays h hb
theorem DY(l:List au)(d:au):bK (l++[d])=bK l++[ak d.1,ak d.2]:=by simp[bK]
theorem fT:(Tryz.prog.info? 47).map (fun i=>(i.zero,i.size,i.bytes))=some (some (.agg #[ak [],ak []]),2,32):=by kernel_rfl
theorem IsRead.var{s d:Bytes}{l:List au}(h:IsRead s l d):IsVar s l.length (jg l++aM d):=⟨by have:=h.1;omega,h.2.2.2⟩
theorem read_any(s:Bytes)(w:World)(hs:s.length≤9223372036854775807):
  Calls Tryz.prog 125 #[.string ⟨s.toArray⟩] w fun e w'=>Q w w'∧((∃v l d,IsRead s l d∧w'.ownsRow w.heap.size 47 2 v l.length (bK l)∧e=.returned (.tuple #[v,ak d,.bool true]))∨((∀l d,¬IsRead s l d)∧∃u v,e=.returned (.tuple #[u,v,.bool false]))):=by
 by_cases hv:∃v r,IsVar s v r
 ·obtain⟨n,r,hv⟩:=hv
  have c:=DI s n r w hs hv;have hn:=hv.1;have HV:=Hd hv;clear hv;obtain⟨i0,hi,fJ,eU,fD⟩:=info_parts fT;have C:=Hd c;clear c;by_cases h5:n≤500
  ·go_enter Tryz.func125,Tryz.ntmps125
   go_wp2_with fail;refine C.out.mono ?_;rintro e w1 ⟨rfl,q1⟩;have aC:=Hd q1;clear q1;go_wp2_with fail;have amq:Mid s n [] r:=⟨h5,by simp,by simp,by rw[HV.out.2];rfl⟩
   have HM0:=Hd amq;clear amq;go_loopw [0,7,27] (fun sv lv x wr=>∃(k:Nat) (l:List au) (r':Bytes),x=.int .u64 k∧k≤n∧sv=.string ⟨r'.toArray⟩∧Hid (Mid s n l r')∧l.length=k∧Hid (wr.ownsRow w.heap.size 47 2 lv l.length (bK l))∧Hid (Below w.heap.size w wr)) (fun _ _ x _=>n-(intOf x).toNat)
   case atStart=>exact⟨0,[],r,rfl,by omega,rfl,HM0,rfl,World.ownsRow_nil _ _ _ _,aC⟩
   case round =>
    obtain⟨k,l,r',rfl,hk,rfl,HM,OO,HO,HB⟩:=hrel;obtain⟨wo,rfl⟩:∃wo:World,wo=wr:=⟨_,rfl⟩;have wY:r'.length≤9223372036854775807:=by have:=HM.out.len;omega
    by_cases lq:k<n
    ·by_cases hx:∃i r1,IsText r' i r1
     ·obtain⟨i,r1,hx⟩:=hx
      have rC:r1.length≤9223372036854775807:=by have:=congrArg List.length hx.2;rw[List.length_append] at this;omega
      have c:=fun w=>FV r' i r1 w wY hx
      have HX:=Hd hx;by_cases hy:∃t r2,IsText r1 t r2
      ·obtain⟨t,r2,hy⟩:=hy
       have c2:=fun w=>FV r1 t r2 w rC hy
       have HY:=Hd hy;have C:=Hd c;have C2:=Hd c2;clear c c2 hx hy;go_wp2_with fail;refine(C.out _).mono ?_;rintro e w2 ⟨rfl,q2⟩;have aS:=Hd q2;clear q2;go_wp2_with fail;refine(C2.out _).mono ?_;rintro e w3 ⟨rfl,q3⟩;have zi:=Hd (ownsRow_below (ownsRow_below HO.out aS.out) q3);have iZ:=Hd ((HB.out.trans (aS.out.mono (by have:=HB.out.size;omega))).trans (q3.mono (by have:=HB.out.size;have:=aS.out.size;omega)))
       have Oq:w.heap.size≤w3.heap.size:=iZ.out.size;have aQ:=zi.out;clear q3 aS HO HB;have sO:(l.length+1)*32≤140737488355328:=by omega
       go_wp2_with (at_builtin;go_must (refine cZ w3 (by rfl) _ _ 39 (by rfl) w.heap.size 47 _ i0 (.agg #[ak [],ak []]) 2 32 Tryz.underlying39 hi fJ eU fD rfl (by decide) (by decide) _ _ _ (by rfl) aQ #[ak i,ak t] (by rfl) rfl ?c1 ?c2 Oq ?_))
       case c1=>simp[Value.oneCell']
       case c2=>exact sO
       intro g cap w4 nS oO lN FI l9;have dS:=iZ.out.grown oO iZ.out.size (fun k hk=>by have:=(aQ.lt k hk).1;omega)
       have e:bK l++(#[ak i,ak t]:Array Value).toList=bK (l++[(i,t)]):=by rw[DY]
       rw[e] at nS;clear aQ lN oO iZ e zi;have HB:=Hd dS;have jH:=Hd nS;clear dS nS;go_wp2_with fail;go_roundw;case rel=>exact⟨k+1,l++[(i,t)],r2,by go_num,by omega,rfl,HM.out.step (by omega) HX.out HY.out,by simp;omega,by rw[List.length_append,OO];exact jH,HB⟩
       case measure=>simp[intOf];omega
      ·have c2:=fun w=>FW r1 w rC (fun t r2 h=>hy ⟨t,r2,h⟩)
       have fE:∀m d,¬IsRead s m d:=fun m d h=>by
        obtain⟨i',t',r1',r2',e1,e2⟩:=HM.out.next h (by omega)
        have:=(HX.out.one e1).2;subst this;exact hy ⟨_,_,e2⟩
       have nN:=Hd fE;have C:=Hd c;have C2:=Hd c2;clear c c2 hx hy fE;go_wp2_with fail;refine(C.out _).mono ?_;rintro e w2 ⟨rfl,q2⟩;have aS:=Hd q2;clear q2;go_wp2_with fail;refine(C2.out _).mono ?_;rintro e w3 ⟨rfl,q3⟩;have bZ:=Hd q3;clear q3;go_wp2_with fail;go_ret3;exact⟨(HB.out.trans (aS.out.mono (by have:=HB.out.size;omega))).trans (bZ.out.mono (by have:=HB.out.size;have:=aS.out.size;omega)),Or.inr ⟨nN.out,_,_,rfl⟩⟩
     ·have c:=fun w=>FW r' w wY (fun i r1 h=>hx ⟨i,r1,h⟩)
      have c2:=fun w=>FW [] w (by simp) (fun i r1 h=>by have e:=congrArg List.length h.2;have:=varF_pos 10 i.length (by omega);simp only[aM,bI,List.length_append,List.length_nil] at e;omega)
      have fE:∀m d,¬IsRead s m d:=fun m d h=>by
       obtain⟨i',t',r1',r2',e1,e2⟩:=HM.out.next h (by omega)
       exact hx ⟨_,_,e1⟩
      have nN:=Hd fE;have C:=Hd c;have C2:=Hd c2;clear c c2 hx fE;go_wp2_with fail;refine(C.out _).mono ?_;rintro e w2 ⟨rfl,q2⟩;have aS:=Hd q2;clear q2;go_wp2_with fail;refine(C2.out _).mono ?_;rintro e w3 ⟨rfl,q3⟩;have bZ:=Hd q3;clear q3;go_wp2_with fail;go_ret3;exact⟨(HB.out.trans (aS.out.mono (by have:=HB.out.size;omega))).trans (bZ.out.mono (by have:=HB.out.size;have:=aS.out.size;omega)),Or.inr ⟨nN.out,_,_,rfl⟩⟩
    ·have lq:l.length=n:=by omega
     by_cases hx:∃d r1,IsText r' d r1
     ·obtain⟨d,r1,hx⟩:=hx
      have c:=fun w=>FV r' d r1 w wY hx
      have HX:=Hd hx;have C:=Hd c;clear c hx;cases r1 with
      | nil =>
       go_wp2_with fail;refine(C.out _).mono ?_;rintro e w2 ⟨rfl,q2⟩;have aS:=Hd q2;clear q2;go_wp2_with fail;go_ret3;exact⟨HB.out.trans (aS.out.mono (by have:=HB.out.size;omega)),Or.inl ⟨_,l,d,HM.out.done lq HX.out,ownsRow_below HO.out aS.out,rfl⟩⟩
      | cons b r1 =>
       have fE:∀m d,¬IsRead s m d:=fun m d h=>by
        have:=(HX.out.one (HM.out.last h lq)).2;simp at this
       have nN:=Hd fE;clear fE;go_wp2_with fail;refine(C.out _).mono ?_;rintro e w2 ⟨rfl,q2⟩;have aS:=Hd q2;clear q2;go_wp2_with fail;go_ret3;exact⟨HB.out.trans (aS.out.mono (by have:=HB.out.size;omega)),Or.inr ⟨nN.out,_,_,rfl⟩⟩
     ·have c:=fun w=>FW r' w wY (fun i r1 h=>hx ⟨i,r1,h⟩)
      have fE:∀m d,¬IsRead s m d:=fun m d h=>hx ⟨_,_,HM.out.last h lq⟩
      have nN:=Hd fE;have C:=Hd c;clear c hx fE;go_wp2_with fail;refine(C.out _).mono ?_;rintro e w2 ⟨rfl,q2⟩;have aS:=Hd q2;clear q2;go_wp2_with fail;go_ret3;exact⟨HB.out.trans (aS.out.mono (by have:=HB.out.size;omega)),Or.inr ⟨nN.out,_,_,rfl⟩⟩
  ·go_enter Tryz.func125,Tryz.ntmps125
   go_wp2_with fail;refine C.out.mono ?_;rintro e w1 ⟨rfl,q1⟩;have aC:=Hd q1;clear q1;go_wp2_with fail;go_ret3;exact⟨aC.out,Or.inr ⟨fun l d h=>h5 (by have:=(HV.out.one h.var).1;have:=h.1;omega),_,_,rfl⟩⟩
 ·have c:=VI s w hs (fun v r h=>hv ⟨v,r,h⟩)
  have HV:=Hd hv;have C:=Hd c;clear c hv;go_enter Tryz.func125,Tryz.ntmps125;go_wp2_with fail;refine C.out.mono ?_;rintro e w1 ⟨rfl,q1⟩;have aC:=Hd q1;clear q1;go_wp2_with fail;go_ret3;exact⟨aC.out,Or.inr ⟨fun l d h=>HV.out ⟨_,_,h.var⟩,_,_,rfl⟩⟩
end
end Go.Proofs.YthijhicdmnoifaaGreatDoor
