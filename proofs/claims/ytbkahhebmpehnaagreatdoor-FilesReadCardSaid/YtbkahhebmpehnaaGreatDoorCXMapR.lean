/- Joined: MapR to WCrc -/
import Derived.Test.YtbkahhebmpehnaaGreatDoorCXCac
import Derived.WalkSpells
import Derived.WalkLawsBesides
set_option linter.all false
set_option maxRecDepth 100000
set_option maxHeartbeats 8000000
namespace Go.Proofs.YtbkahhebmpehnaaGreatDoor
open Go.Proofs.Tryz
section
open Go.RowKit Go.MapKept Go.Maps
open Go.ChangeMaps (setBlock)
def kp:Value→Nat
 | .int _ x=>x.toNat
 | _=>0
theorem JR(k:Nat):kp (dX k)=k:=by simp[kp]
def cX(w:World)(b r:Nat)(m:List (Nat×Value))(left:List Nat):Prop :=
 ∃es clock since seen c0,w.heap[b]?=some (.map es clock)∧Stamped es clock∧es.toList.map kvI=m.map kvN∧w.heap[r]?=some (.mapIter (some b) since seen c0)∧(∀x∈es.toList,x.born<since)∧since≤c0∧since≤clock ∧
  left=(leftOf es seen).toList.map fun e=>kp e.key
theorem cX.map{w:World}{b r:Nat}{m:List (Nat×Value)}{left:List Nat}(h:cX w b r m left):di w b m:=by
 obtain⟨es,clock,since,seen,c0,h1,h2,h3,_⟩:=h;exact⟨es,clock,h1,h2,h3⟩
theorem cX.same{w w':World}{b r:Nat}{m:List (Nat×Value)}{left:List Nat}(h:cX w b r m left)(hb:w'.heap[b]?=w.heap[b]?)(hr:w'.heap[r]?=w.heap[r]?):cX w' b r m left:=by
 obtain⟨es,clock,since,seen,c0,h1,h2,h3,h4,rest⟩:=h;exact⟨es,clock,since,seen,c0,hb.trans h1,h2,h3,hr.trans h4,rest⟩
theorem cX.iter{w:World}{b r:Nat}{m:List (Nat×Value)}{left:List Nat}(h:cX w b r m left):∃since seen c0,w.heap[r]?=some (.mapIter (some b) since seen c0):=by
 obtain⟨es,clock,since,seen,c0,h1,h2,h3,h4,rest⟩:=h;exact⟨_,_,_,h4⟩
theorem ox{l:List MapEntry}{m:List (Nat×Value)}(h:l.map kvI=m.map kvN):l.map (fun e=>kp e.key)=m.map (·.1):=by
 have:=Pu (List.map fun x:Value×Value=>kp x.1) h
 simp only[Rr,Wb,JR] at this;exact this
theorem cX.made{P:Program}{w:World}{b:Nat}{m:List (Nat×Value)}(h:di w b m)(t kt et:TypeId)(ht:P.underlying t=some (.map kt et)):
  ∃o,(Instr.range t (.map (some b))).run P w=.ok (.pointer (some ⟨w.heap.size,0,none⟩)) (w.alloc o)∧cX (w.alloc o) b w.heap.size m (m.map (·.1)):=by
 have ay:=h.lt;obtain⟨es,clock,hb,hs,hm⟩:=h;refine⟨_,run_range_map w t kt et b es clock ht hb,es,clock,clock,#[],clock,((MapKept.heap_alloc w _).2 b ay).trans hb,hs,hm,(MapKept.heap_alloc w _).1,hs.1,Ω _,Ω _,?_⟩;rw[←ox hm];congr 1;simp only[leftOf,Array.toList_filter];exact(acS.2 (fun e _=>κ)).symm
theorem UF{es:Array MapEntry}{clock:Nat}(hs:Stamped es clock)(seen:Array Nat){e:MapEntry}(he:e∈(leftOf es seen).toList):
  ((leftOf es seen).toList).Perm (e::(leftOf es (seen.push e.born)).toList):=by
 have hb:=((stamped_iff es clock).1 hs).2.1;have lU:es.toList.Nodup:=(abv.1 hb).imp (fun aU e=>aU (Pu _ e))
 have h1:(leftOf es seen).toList=es.toList.filter fun x => !seen.contains x.born:=by simp[leftOf]
 have h2:(leftOf es (seen.push e.born)).toList=es.toList.filter fun x => !(seen.push e.born).contains x.born:=by simp[leftOf]
 have zy:e∈es.toList:=by rw[h1] at he;exact(PF.1 he).1
 have xV:(!seen.contains e.born)=true:=by rw[h1] at he;exact(PF.1 he).2
 refine(W4 ?_ ?_).2 (fun x=>?_)
 ·rw[h1];exact lU.filter _
 ·rw[Sa,h2]
  refine⟨fun hc=>?_,lU.filter _⟩
  have:=(PF.1 hc).2;simp[acU] at this
 ·rw[h1,MA,h2,PF,PF]
  have inj:∀x∈es.toList,x.born=e.born→x=e:=fun x hx sH=>born_inj hb hx zy sH
  constructor
  ·rintro⟨hx,mh⟩
   by_cases sH:x.born=e.born
   ·exact .inl (inj x hx sH)
   ·refine .inr ⟨hx,?_⟩
    simp only[acU,Bool.not_or,acn];exact⟨mh,by simpa using sH⟩
  ·rintro(rfl|⟨hx,mh⟩)
   ·exact⟨zy,xV⟩
   ·simp only[acU,Bool.not_or,acn] at mh
    exact⟨hx,mh.1⟩
theorem cX.next{P:Program}{w:World}{b r:Nat}{m:List (Nat×Value)}{left:List Nat}(h:cX w b r m left):
  (left=[]∧∀ty,(Instr.next (.pointer (some ⟨r,0,none⟩)) false ty).run P w=.ok (.tuple #[.bool false]) w) ∨
  ∃k v left' w',(k,v)∈m∧left.Perm (k::left')∧(∀ty,(Instr.next (.pointer (some ⟨r,0,none⟩)) false ty).run P w=.ok (.tuple #[.bool true,dX k,v]) w')∧cX w' b r m left'∧w.grownBy w' (some r)∧w'.heap.size=w.heap.size ∧
   (Instr.entry (.pointer (some ⟨r,0,none⟩))).run P w'=.ok (.tuple #[dX k,v]) w':=by
 obtain⟨es,clock,since,seen,c0,hb,hs,hm,hr,hold,z8,Fu,rfl⟩:=h;have aU:r≠b:=by rintro rfl;rw[hb] at hr;cases hr
 rcases run_next_at (P:=P) w 0 r b since c0 seen es clock hr hb hold z8 with ⟨h0,_⟩|⟨e,he,w1,jy,nP⟩
 ·left
  refine⟨by rw[List.map_eq_nil_iff];exact NL (by simpa using h0),fun ty=>?_⟩
  rcases run_next_at (P:=P) w ty r b since c0 seen es clock hr hb hold z8 with ⟨_,nP⟩|⟨e,he,_⟩
  ·exact nP
  ·have:=List.length_pos_of_mem he
   simp only[QP] at this;omega
 ·right
  obtain⟨zy,xV⟩:=mem_left he;have GU:kvI e∈m.map kvN:=by rw[←hm];exact MD.2 ⟨e,zy,rfl⟩
  obtain⟨⟨k,v⟩,LQ,hke⟩:=MD.1 GU;have hk:e.key=dX k:=(Pu Prod.fst hke).symm;have hv:e.val=v:=(Pu Prod.snd hke).symm;have Fv:w1.heap[r]?=some (.mapIter (some b) since seen c0):=by rcases jy with rfl|rfl<;>exact hr
  have hb1:w1.heap[b]?=some (.map es clock):=by rcases jy with rfl|rfl<;>exact hb
  have kE:=heap_set (o':=.mapIter (some b) since (seen.push e.born) clock) Fv;have LU:(setBlock w1 r (.mapIter (some b) since (seen.push e.born) clock)).heap[b]?=some (.map es clock):=(kE.2 b (fun e1=>aU e1.symm)).trans hb1
  refine⟨k,v,(leftOf es (seen.push e.born)).toList.map fun e=>kp e.key,setBlock w1 r (.mapIter (some b) since (seen.push e.born) clock),LQ,?_,fun ty=>?_,⟨es,clock,since,seen.push e.born,clock,LU,hs,hm,kE.1,hold,Fu,Fu,rfl⟩,?_,?_,?_⟩
  ·have:=(UF hs seen he).map fun e=>kp e.key
   rw[No,hk,JR] at this;exact this
  ·have afC:(Instr.next (.pointer (some ⟨r,0,none⟩)) false ty).run P w=(Instr.next (.pointer (some ⟨r,0,none⟩)) false 0).run P w:=by
    simp only[Instr.next]
   rw[afC,nP,hk,hv]
  ·rcases jy with rfl|rfl<;>exact⟨rfl,rfl,rfl,by simp[setBlock],fun i _ hi=>kE.2 i (fun e1=>hi (by rw[e1]))⟩
  ·rcases jy with rfl|rfl<;>simp[setBlock]
  ·have:=run_entry_at (P:=P) _ r b since seen es clock e kE.1 LU zy ((stamped_iff es clock).1 hs).2.1
   rw[hk,hv] at this;exact this
theorem cX.nodup{w:World}{b r:Nat}{m:List (Nat×Value)}{left:List Nat}(h:cX w b r m left):left.Nodup∧∀k∈left,k∈m.map (·.1):=by
 have hmn:=h.map.nodup;obtain⟨es,clock,since,seen,c0,hb,hs,hm,hr,hold,z8,Fu,rfl⟩:=h;have h1:(leftOf es seen).toList=es.toList.filter fun x => !seen.contains x.born:=by simp[leftOf]
 have mq:((leftOf es seen).toList.map fun e=>kp e.key).Sublist (m.map (·.1)):=by
  rw[←ox hm,h1];exact List.filter_sublist.map _
 exact⟨mq.nodup hmn,fun k hk=>mq.subset hk⟩
theorem BQ{α:Type}(p:α→Bool):∀(l:List α) (j:Nat) (x:α),l[j]?=some x→p x=false→(l.eraseIdx j).filter p=l.filter p
 | [],j,x,h,_=>by simp at h
 | y::l,0,x,h,hp=>by
  simp at h;subst h
  simp[hp]
 | y::l,j+1,x,h,hp=>by
  have:=BQ p l j x (by simpa using h) hp
  simp[adt,this]
theorem cX.delete{P:Program}{w:World}{b r:Nat}{m:List (Nat×Value)}{left:List Nat}(h:cX w b r m left){k:Nat}(hk:k∉left)(hm:k∈m.map (·.1))(t kt et:TypeId)(ht:P.underlying t=some (.map kt et))(hd:P.underlying kt=some (.int .i64)):
  ∃w',(∀ty,(Builtin.delete_ #[t,kt] ty #[.map (some b),dX k]).run P w=.ok (.tuple #[]) w')∧cX w' b r (kN k m) left∧w.grownBy w' (some b)∧w'.heap.size=w.heap.size:=by
 obtain⟨es,clock,since,seen,c0,hb,hs,zX,hr,hold,z8,Fu,rfl⟩:=h;have aU:r≠b:=by rintro rfl;rw[hb] at hr;cases hr
 have iN:IsKey (.int .i64) (dX k):=rfl;rcases lz k m es.toList 0 zX with ⟨a,f,g,_,p⟩|⟨j,e,u,hj,he,hv,hmj,a,f,_,p⟩
 ·obtain⟨x,hx,e⟩:=MD.1 hm
  exact absurd e (oK.1 a x hx)
 ·have ay:j<es.size:=by
   have:=(NX.1 hj).1;simpa using this
  have xV:(es.eraseIdxIfInBounds j).toList=es.toList.eraseIdx j:=by
   unfold Array.eraseIdxIfInBounds;rw[dif_pos ay];simp
  have zy:e∈es.toList:=ad4 hj;have h1:∀es':Array MapEntry,(leftOf es' seen).toList=es'.toList.filter fun x => !seen.contains x.born:=fun es'=>by simp[leftOf]
  have zA:(!seen.contains e.born)=false:=by
   cases hc:(!seen.contains e.born) with
   | false=>rfl
   | true =>
    refine absurd (MD.2 ⟨e,?_,by rw[he,JR]⟩) hk
    rw[h1];exact PF.2 ⟨zy,hc⟩
  refine⟨{ w with heap:=w.heap.setIfInBounds b (.map (es.eraseIdxIfInBounds j) clock) },fun ty=>?_,⟨es.eraseIdxIfInBounds j,clock,since,seen,c0,(heap_set hb).1,stamped_erase hs j,?_,((heap_set hb).2 r aU).trans hr,fun x hx=>hold x ?_,z8,Fu,?_⟩,⟨rfl,rfl,rfl,κ,fun i _ hi=>(heap_set hb).2 i (fun e=>hi (by rw[e]))⟩,κ⟩
  ·simp[Builtin.delete_,run_underlying ht,MapKept.run_getObj_map hb,run_checkKey hd iN,run_findKey hd f,run_setObj_map _ hb,Result.andThen]
  ·rw[p,rC,←zX,←rC,xV]
  ·rw[xV] at hx;exact Ts hx
  ·rw[h1,h1,xV,BQ _ _ j e hj zA]
theorem cX.len{w:World}{b r:Nat}{m:List (Nat×Value)}{left:List Nat}(h:cX w b r m left):w.rangeLeft b r=left.length:=by
 obtain⟨es,clock,since,seen,c0,hb,hs,hm,hr,hold,z8,Fu,rfl⟩:=h;simp only[World.rangeLeft,hb,hr,NE,QP]
theorem Itk.turned{own:Nat→Prop}{lo:Nat}{A B:World}{l:Nat}{o:Obj}(hg:A.grownBy B (some l))(h:A.heap[l]?=some o)(hc:o.isCells=false)(hl:lo≤l):Itk own lo A B :=
 ⟨hg.os,hg.tape,hg.output,hg.size,fun k h1 h2 _=>hg.block k h2 (fun e=>by injection e with e;omega),fun k o2 h1 h2 _=>(hg.block k (aJ h1) (fun e=>by injection e with e;subst e;rw[h] at h1;cases h1;rw[hc] at h2;cases h2)).trans h1⟩
end
section
open Go.RowKit
def Cl{σ:Type}(P:Program)(g:Nat)(lb:Array Value)(step:σ→World→Array Value→σ→Prop)(fin:σ→Prop)(own keep:Nat→Prop)(n₀:Nat)(s0:σ)(W:World):Prop :=
 ∀(n l:Nat) (J Jx:σ→World→Prop),
  (∀s A B,J s A→Itk own W.heap.size A B→J s B)→(∀s A B,Jx s A→Itk own W.heap.size A B→Jx s B) →
  (∀s s2 W1 args,J s W1→step s W1 args s2→(∀b,keep b→b<W1.heap.size)→IS P l args W1 fun e W' =>
   (e=.returned (.bool true)∧J s2 W'∧Bk keep n₀ W1 W')∨(e=.returned (.bool false)∧Jx s2 W')) →
  J s0 W →
  CallsIn Fence.wide n P g (#[.func (.yield l) #[] #[]]++lb) W fun e W'=>(∃v,e=.returned v)∧((∃s,fin s∧J s W')∨∃s,Jx s W')
structure BkS (own:Nat→Prop) (A B:World):Prop where
 size:A.heap.size≤B.heap.size
 own:∀k,own k→k<A.heap.size→B.heap[k]?=A.heap[k]?
theorem BkS.mono{own own':Nat→Prop}{A B:World}(h:BkS own A B)(k:∀i,own' i→own i):BkS own' A B:=⟨h.size,fun i h1 h2=>h.own i (k i h1) h2⟩
theorem BkS.LF{own:Nat→Prop}{n₀:Nat}{A B:World}(h:Bk own n₀ A B):BkS own A B:=⟨h.below.size,h.own⟩
def KB{σ:Type}(Bw Bs:World→World→Prop)(I:σ→World→Prop)(Ix:Code→σ→World→Prop)(s:σ)(W:World):Exit→Act→World→Prop
 | .normal,_,W'=>Bw W W'∧I s W'
 | .ret,_,W'=>Bs W W'∧Ix .ret s W'
 | .exit id,_,W'=>Bs W W'∧Ix (.exit id) s W'
 | .goto t,_,W'=>Bs W W'∧Ix (.goto t) s W'
 | .panic _,_,_=>False
 | .outgrown,_,_=>False
theorem Ns{σ:Type}{P:Program}{n:Nat}{g:Operand}{ps:Array Tmp}{assign body:Code}{Qx:Exit→Act→World→Prop}{a:Act}{w:World}
  {gf:Nat} {lb:Array Value} (hg:a.eval g=.func (.func gf) #[] lb) (eg:∀args w,(callFunc gf args).run P w=.ok (.enter gf args) w)
  {step:σ→World→Array Value→σ→Prop} {fin':σ→Prop} {s0:σ} {own keep:Nat→Prop} {n₀:Nat}
  (Yq:∀W1,Q w W1→W1.heap.size=w.heap.size+2→Cl P gf lb step fin' own keep n₀ s0 W1)
  (aF:∀k,own k→k≠w.heap.size∧k≠w.heap.size+1) (sM:∀k,keep k→k≠w.heap.size∧k≠w.heap.size+1) (hn₀:n₀≤w.heap.size) (hps:∀x W args y,step x W args y→args.size=ps.size)
  (I:σ→World→Prop) (Ix:Code→σ→World→Prop) (Ax:σ→σ→Act→World→Prop)
  (hI:∀s A B,I s A→Itk own w.heap.size A B→I s B) (hIx:∀c s A B,Ix c s A→Itk own w.heap.size A B→Ix c s B) (hAx:∀k k2 a' A B,Ax k k2 a' A→Itk own w.heap.size A B→Ax k k2 a' B)
  (h0:I s0 w)
  (acy:∀(l:Nat) (k k2:σ) (W:World) (args:Array Value) (K:Act→World→Prop),I k W→step k W args k2→w.heap.size+2≤W.heap.size→(∀a' W',Q W W'→I k W'→Ax k k2 a' W'→K a' W') →
   assign.wpIn (Fence.wide.inRound l) (n-1-1) P (Exit.then K (fun _ _ _=>False)) { tmps:=(ps.zip args).foldl (fun t (p,v)=>t.setIfInBounds p v) a.tmps,defers:=[] } W)
  (LH:∀(l:Nat) (k k2:σ) (a':Act) (W:World),((∃r,W.heap[l]?=some (.loop r))∧W.heap[w.heap.size]?=some (.deferred (some [])))→l=w.heap.size+1→I k W→Ax k k2 a' W→(∀b,keep b→b<W.heap.size)→w.heap.size+2≤W.heap.size →
   body.wpIn (Fence.wide.inRound l) (n-1-1) P (KB (Bk (fun b=>keep b∨b=w.heap.size∨b=w.heap.size+1) n₀) (BkS (fun b=>b=w.heap.size∨b=w.heap.size+1)) I Ix k2 W) a' W)
  (afD:∀(D:Nat) (s:σ) (W:World),D=w.heap.size→w.heap.size+2≤W.heap.size→fin' s→I s W→W.heap[D]?=some (.deferred (some []))→Qx .normal { a with defers:={ target:=.collected D,args:=#[] }::a.defers } W)
  (afE:∀(D:Nat) (c:Code) (k:σ) (W:World),D=w.heap.size→Ix c k W→W.heap[D]?=some (.deferred (some []))→c.wpIn Fence.wide n P Qx { a with defers:={ target:=.collected D,args:=#[] }::a.defers } W) :
  (Code.rangeFunc g ps assign body).wpIn Fence.wide n P Qx a w:=by
 refine wpIn_rangeFunc ?_;intro fn ku;obtain⟨rec,hrec⟩:∃rec:LoopState→Option Code→Loop,rec=fun st pe=>{ state:=st,pending:=pe,fn,tmps:=a.tmps,params:=ps,assign,body,defers:=w.heap.size }:=⟨_,rfl⟩
 obtain⟨W1,oU⟩:∃W1,(w.alloc (.deferred (some []))).alloc (.loop (rec .ready none))=W1:=⟨_,rfl⟩;have pR:Q w W1:=by rw[←oU];exact(Q.alloc w _).trans (Q.alloc _ _)
 have oV:W1.heap.size=w.heap.size+2:=by rw[←oU];simp
 have GV:W1.heap[w.heap.size+1]?=some (.loop (rec .ready none)):=by
  rw[←oU];have:=World.alloc_heap_new (w.alloc (.deferred (some []))) (.loop (rec .ready none));rwa [World.size_alloc] at this
 have hK1:W1.heap[w.heap.size]?=some (.deferred (some [])):=by
  rw[←oU];exact(Below.heap_alloc _ _ _ κ).trans (World.alloc_heap_new w _)
 have hI1:I s0 W1:=hI _ _ _ h0 (Itk.br pR);have ho1:¬own (w.heap.size+1):=fun h=>(aF _ h).2 rfl
 have acM:¬keep (w.heap.size+1):=fun h=>(sM _ h).2 rfl
 have ho0:¬own w.heap.size:=fun h=>(aF _ h).1 rfl
 refine⟨w.heap.size+1,[{ target:=.collected w.heap.size,args:=#[] }],W1,{ target:=.fn (.func gf) lb,args:=#[.func (.yield (w.heap.size+1)) #[] #[]] },W1,gf,
  #[.func (.yield (w.heap.size+1)) #[] #[]]++lb,W1,?_,?_,fun _ _=>trivial,?_,fun h=>(by cases h),?_⟩
 ·rw[←oU,hrec];exact run_enterLoop_outer _ _ _ _ _
 ·simp only[resolve,hg]
  simp[go_sem]
 ·simp[invoke,go_sem,eg]
 ·refine(Yq W1 pR oV (n-1) (w.heap.size+1)
   (fun k W=>I k W∧W.heap[w.heap.size+1]?=some (.loop (rec .ready none))∧W.heap[w.heap.size]?=some (.deferred (some [])))
   (fun k W=>∃c,Ix c k W∧W.heap[w.heap.size+1]?=some (.loop (rec .done (some c)))∧W.heap[w.heap.size]?=some (.deferred (some [])))
   (fun s A B hs hi=>⟨hI s A B hs.1 (hi.mono (fun _ h=>h) U),(hi.low _ U (aJ hs.2.1) ho1).trans hs.2.1,(hi.low _ U (aJ hs.2.2) ho0).trans hs.2.2⟩)
   (fun s A B hs hi=>by
    obtain⟨c,hc,hl,hk⟩:=hs;exact⟨c,hIx c s A B hc (hi.mono (fun _ h=>h) U),(hi.low _ U (aJ hl) ho1).trans hl,(hi.low _ U (aJ hk) ho0).trans hk⟩)
   ?_ ⟨hI1,GV,hK1⟩).mono ?_
  ·
   rintro k k2 W args ⟨hi,hl,iN⟩ acN hob;have hy:=run_yield (P:=P) (args:=args) hl (by rw[hrec];exact hps _ _ _ _ acN)
   rw[hrec] at hy;refine⟨fn,_,assign,body,hy,fun m=>sx (n:=n-1-1) (roundIn_of_wpIn trivial (acy _ k k2 W args _ hi acN (aJ hl) ?_))⟩
   clear hy;intro a' Wa jJ hia hax;have om:=(jJ.block _ (aJ hl)).trans hl;have RN:=(jJ.block _ (aJ iN)).trans iN;refine⟨_,run_beginRound om (by rw[hrec]),?_⟩
   have fF:(Wa.putObj (w.heap.size+1) (.loop { rec .ready none with state:=.busy })).heap[w.heap.size+1]?=some (.loop { rec .ready none with state:=.busy }):=World.putObj_heap_same (aJ om);have kW:(Wa.putObj (w.heap.size+1) (.loop { rec .ready none with state:=.busy })).heap[w.heap.size]?=some (.deferred (some [])):=(World.putObj_heap_other U).trans RN;have zq:Itk own w.heap.size Wa (Wa.putObj (w.heap.size+1) (.loop { rec .ready none with state:=.busy })):=Itk.put _ om rfl U;have bN:Bk keep n₀ W (Wa.putObj (w.heap.size+1) (.loop { rec .ready none with state:=.busy })):=(Bk.br jJ (by have:=aJ hl;omega)).trans (Bk.put _ om rfl U acM)
   refine wpIn_mono (LH _ k k2 a' _ ⟨⟨_,fF⟩,kW⟩ rfl (hI _ _ _ hia zq) (hAx _ _ _ _ _ hax zq) (fun b hb=>by have:=hob b hb;have:=jJ.size;simp;omega) (by have:=aJ om;simp;omega)) ?_
   have fin:∀(jump:Option Code) (W3:World),BkS (fun b=>b=w.heap.size∨b=w.heap.size+1) (Wa.putObj (w.heap.size+1) (.loop { rec .ready none with state:=.busy })) W3 →
     (Instr.endRound (w.heap.size+1) jump).run P W3=.ok (.bool jump.isNone) (W3.putObj (w.heap.size+1) (.loop (rec (if jump.isNone then .ready else .done) jump))) ∧
     W3.heap[w.heap.size+1]?=some (.loop { rec .ready none with state:=.busy }) ∧
     (W3.putObj (w.heap.size+1) (.loop (rec (if jump.isNone then .ready else .done) jump))).heap[w.heap.size+1]?=some (.loop (rec (if jump.isNone then .ready else .done) jump)) ∧
     (W3.putObj (w.heap.size+1) (.loop (rec (if jump.isNone then .ready else .done) jump))).heap[w.heap.size]?=some (.deferred (some [])) ∧
     Itk own w.heap.size W3 (W3.putObj (w.heap.size+1) (.loop (rec (if jump.isNone then .ready else .done) jump))):=fun jump W3 rH=>by
    have nL:=(rH.own _ (.inr rfl) (aJ fF)).trans fF;have Y7:=(rH.own _ (.inl rfl) (aJ kW)).trans kW;have:=run_endRound (P:=P) jump nL;rw[hrec] at this ⊢;rw[hrec] at nL;exact⟨this,nL,World.putObj_heap_same (aJ nL),(World.putObj_heap_other U).trans Y7,Itk.put _ nL rfl U⟩
   rintro e a3 W3 hp;cases e with
   | normal =>
    obtain⟨rH,uW⟩:=hp;obtain⟨hr,nL,LV,rG,RQ⟩:=fin none W3 ((BkS.LF rH).mono (fun _ h=>.inr h))
    exact⟨_,_,hr,.inl ⟨rfl,⟨hI _ _ _ uW RQ,LV,rG⟩,(bN.trans (rH.mono (fun _ h=>.inl h) (Ω _))).trans (Bk.put _ nL rfl U acM)⟩⟩
   | ret =>
    obtain⟨rH,uW⟩:=hp;obtain⟨hr,nL,LV,rG,RQ⟩:=fin (some .ret) W3 rH;exact⟨_,_,hr,.inr ⟨rfl,⟨.ret,hIx _ _ _ _ uW RQ,LV,rG⟩⟩⟩
   | exit id =>
    obtain⟨rH,uW⟩:=hp;obtain⟨hr,nL,LV,rG,RQ⟩:=fin (some (.exit id)) W3 rH;exact⟨_,_,hr,.inr ⟨rfl,⟨.exit id,hIx _ _ _ _ uW RQ,LV,rG⟩⟩⟩
   | goto t =>
    obtain⟨rH,uW⟩:=hp;obtain⟨hr,nL,LV,rG,RQ⟩:=fin (some (.goto t)) W3 rH;exact⟨_,_,hr,.inr ⟨rfl,⟨.goto t,hIx _ _ _ _ uW RQ,LV,rG⟩⟩⟩
   | panic ch=>exact hp.elim
   | outgrown=>exact hp.elim
  ·
   rintro e W2 ⟨⟨v,rfl⟩,(⟨k,oq,hi,hl,hk⟩|⟨k,c,hi,hl,hk⟩)⟩
   ·exact⟨none,_,by have:=run_endLoop (P:=P) hl (by rw[hrec];simp);rw[hrec] at this;exact this,afD _ k _ rfl (by have:=aJ hl;simp;omega) oq (hI _ _ _ hi (Itk.put _ hl rfl U)) ((World.putObj_heap_other U).trans hk)⟩
   ·exact⟨some c,_,by have:=run_endLoop (P:=P) hl (by rw[hrec];simp);rw[hrec] at this;exact this,afE _ c k _ rfl (hIx c _ _ _ hi (Itk.put _ hl rfl U)) ((World.putObj_heap_other U).trans hk)⟩
end
section
open Go.RowKit
attribute [local go_sem] Oper.semAt_some
theorem Qm(mb:Nat)(w:World):
  Calls prog 197 #[.map (some mb)] w fun e w'=>e=.returned (.func (.func 254) #[] #[.pointer (some ⟨w.heap.size,0,none⟩)])∧w.alloc (.cells #[.map (some mb)] 256)=w':=by
 go_enter func197,ntmps197;go_wp2_with fail;go_ret;exact⟨rfl,rfl⟩
def oB(K:List Nat)(ks:List Nat)(W:World)(args:Array Value)(ks2:List Nat):Prop:=∃k∈K,k∉ks∧args=#[dX k]∧ks2=ks++[k]
theorem zE(B mb n₀:Nat)(m:List (Nat×Value))(W:World)(hb:Boxed W B 256 (.map (some mb)))(hm:di W mb m)(hn:n₀≤W.heap.size):
  Cl prog 254 #[.pointer (some ⟨B,0,none⟩)] (oB (m.map (·.1))) (fun ks=>ks.Perm (m.map (·.1))) (fun _=>False) (fun k=>k=B∨k=mb) n₀ [] W:=by
 intro n l J Jx hJ hJx hY h0;refine callsIn_of_wp func254 rfl trivial ?_ rfl;simp only[ntmps254,Tr,Θ,Nm,Nat.reduceAdd,Nat.reduceSub,abF,abG,ab3,abO,N0,Of];have hc:=hb.cell;obtain⟨o,LW,Co⟩:=cX.made (P:=prog) hm 256 3 257 underlying256;have ji:Q W (W.alloc o):=Q.alloc _ _;have H0:=Hd h0;have mF:=Hd ji;have ou:=Hd hb;have HYH:=Hd hY;have LX:=Hd Co;have Jt:=Hd hm.lt;have ah8:=hb.lt;clear h0 ji hb hY Co hm;gi_wp2;clear LW;gi_loopw [3] (fun _ wr=>∃(ks left:List Nat),Hid (cX wr mb W.heap.size m left)∧Hid ((ks++left).Perm (m.map (·.1)))∧Hid (Below n₀ W wr)∧Hid (Boxed wr B 256 (.map (some mb)))∧Hid (J ks wr)) (fun _ wr=>wr.rangeLeft mb W.heap.size)
 case atStart =>
  exact⟨[],_,LX,Hd (adX _),Hd (Below.mono mF.out hn),Hd (ou.out.alloc _),Hd (hJ _ _ _ H0.out (Itk.br mF.out))⟩
 case round =>
  obtain⟨ks,left,HR,HP,HB,Ju,HJ⟩:=hrel;have lU:=HR.out.map.nodup;rcases cX.next (P:=prog) HR.out with ⟨uX,gU⟩|⟨k,v,left',w',GU,qH,gU,qA,hg,hz,GX⟩
  ·have dK:ks.Perm (m.map (·.1)):=by have:=HP.out;rw[uX,NF] at this;exact this
   have HF:=Hd dK;clear uX dK lU;gi_wp2;go_end0;exact⟨⟨_,rfl⟩,.inl ⟨ks,HF.out,HJ.out⟩⟩
  ·obtain⟨since,seen,c0,hit⟩:=HR.out.iter
   have xR:J ks w':=hJ _ _ _ HJ.out (Itk.turned hg hit rfl (Ω _));have LU:Boxed w' B 256 (.map (some mb)):=(hg.block B (aJ Ju.out) (fun e=>by injection e with e;omega)).trans Ju.out
   have PW:(ks++k::left').Perm (m.map (·.1)):=((qH.symm).append_left ks).trans HP.out
   have acQ:(ks++k::left').Nodup:=PW.nodup_iff.2 lU;have Jv:k∉ks:=fun hc=>(PT.1 acQ).2.2 k hc k (Mu ..) rfl
   have LQ:k∈m.map (·.1):=PW.mem_iff.1 (abA _ (Mu ..))
   have Vx:Below n₀ W w':=HB.out.trans ⟨hg.os,hg.tape,hg.output,hg.size,fun i hi=>hg.block i (by have:=HB.out.size;omega) (fun e=>by injection e with e;omega)⟩
   obtain⟨fn,tmps,assign,body,hy,hRR⟩:=HYH.out ks (ks++[k]) w' #[dX k] xR ⟨k,LQ,Jv,rfl,rfl⟩ (fun b hb=>by
    rcases hb with rfl|rfl
    ·exact aJ LU
    ·exact qA.map.lt)
   have hlen:w'.rangeLeft mb W.heap.size<wr.rangeLeft mb W.heap.size:=by rw[qA.len,HR.out.len,qH.length_eq];simp
   have iq:((ks++[k])++left').Perm (m.map (·.1)):=by rw[Mm];exact PW
   have HYY:=Hd hRR;have Yr:=Hd qA;have HBW:=Hd Vx;have HB':=Hd LU;have kX:=Hd iq;have uN:=Hd hlen;clear xR LU PW acQ Jv LQ Vx hRR qA hlen iq qH GU hg hz hit lU;gi_wp2;refine⟨fun h=>(by cases h),(HYY.out _).mono ?_⟩
   rintro e W3 (⟨rfl,Y8,rH⟩|⟨rfl,RS⟩)
   ·obtain⟨since,seen,c0,hit⟩:=Yr.out.iter
    have uW:cX W3 mb W.heap.size m left':=Yr.out.same (rH.own mb (.inr rfl) Yr.out.map.lt) ((rH.walks _ _ hit rfl).trans hit.symm);have gI:Boxed W3 B 256 (.map (some mb)):=(rH.own B (.inl rfl) (aJ HB'.out)).trans HB'.out;have acR:W3.rangeLeft mb W.heap.size<wr.rangeLeft mb W.heap.size:=by rw[uW.len];have:=uN.out;rw[Yr.out.len] at this;exact this
    have HI3:=Hd uW;have qI:=Hd gI;have Y9:=Hd Y8;have ah9:=Hd (HBW.out.trans rH.below);have HL3:=Hd acR;clear uW gI Y8 rH hit acR;gi_wp2;go_roundw;case rel=>exact⟨ks++[k],left',HI3,kX,ah9,qI,Y9⟩
    case measure=>exact HL3.out
   ·have Vy:=Hd RS;clear RS
    gi_wp2;refine bodyPost_ret (results_none rfl _ _ _) rfl ?_;exact⟨⟨_,rfl⟩,.inr ⟨_,Vy.out⟩⟩
end
section
open Go.RowKit
theorem zc{P:Program}(W:World)(t ty:TypeId)(base:Nat)(e e':TypeId)(i:TypeInfo)(z:Value)(size bytes:Nat)(ht:P.underlying t=some (.slice e))(hi:P.info? e=some i)(hz:i.zero=some z)
  (iE:i.size=size) (iT:i.bytes=bytes) (jl:z.cells.size=size) (bP:0<size) (rE:0<bytes)
  (v:Value) (n:Nat) (xs:List Value) (aF:W.ownsRow base e size v n xs)
  (m:Nat) (hm:0<m) (news:Array Value) (hl:news.size=m*size) (h1:∀u∈news.toList,u.oneCell'=true) (hb:(n+m)*bytes≤140737488355328) (fP:base≤W.heap.size) :
  ∃g cap w',(Builtin.append_ #[t,t] ty #[v,.slice (some ⟨W.heap.size,0,none⟩) m m]).run P (W.alloc (.cells news e'))=.ok (.slice (some ⟨g,0,none⟩) (n+m) cap) w' ∧
   w'.ownsRow base e size (.slice (some ⟨g,0,none⟩) (n+m) cap) (n+m) (xs++news.toList)∧W.grownBy w' v.ownBlock∧(v.ownBlock=some g∨W.heap.size<g)∧g<w'.heap.size∧W.heap.size<w'.heap.size:=by
 have DY:n+m≤maxLen:=by
  have:=adA (n+m) rE;simp only[maxLen];omega
 obtain⟨g,cap,w',hr,h2,h3,h4,h5⟩:=run_append_lies (P:=P) (W.alloc (.cells news e')) t ty base e i z size bytes ht hi hz iE iT jl bP v n xs (aF.alloc _) ⟨W.heap.size,0,none⟩ m m news.toList (by simpa using hl)
  (fun j u hj=>by
   rw[Ep];simp only[World.cell?,heap_alloc_new];simpa using hj) h1 hm DY hb (by simp;omega) (W.heap.size+1) κ
 refine⟨g,cap,w',hr,h2,⟨h3.os.trans rfl,h3.tape.trans rfl,h3.output.trans rfl,by have:=h3.size;simp at this;omega,fun k hk aU=>?_⟩,h4.imp id (fun h=>U),h5,by have:=h3.size;simp at this;omega⟩
 rw[h3.block k (by simp;omega) aU,Below.heap_alloc _ _ _ hk]
theorem Py{F:Fence}{n':Nat}{P:Program}(W:World){ops:Array Oper}{rest:List Oper}{o:Oper}{a:Act}{Q:Exit→Act→World→Prop}(pQ:o.guard=none)(s x:Operand)(t:TypeId)
  (ho:o.op=.call { callee:=.builtin .append,args:=#[s,x],argTypes:=#[t,t] })
  (base:Nat) (e e':TypeId) (i:TypeInfo) (z:Value) (size bytes:Nat) (ht:P.underlying t=some (.slice e)) (hi:P.info? e=some i) (hz:i.zero=some z)
  (iE:i.size=size) (iT:i.bytes=bytes) (jl:z.cells.size=size) (bP:0<size) (rE:0<bytes)
  (v:Value) (n:Nat) (xs:List Value) (hs:a.eval s=v) (aF:W.ownsRow base e size v n xs)
  (m:Nat) (hm:0<m) (news:Array Value) (hx:a.eval x=.slice (some ⟨W.heap.size,0,none⟩) m m) (hl:news.size=m*size) (h1:∀u∈news.toList,u.oneCell'=true)
  (hb:(n+m)*bytes≤140737488355328) (fP:base≤W.heap.size)
  (h:∀g cap w',w'.ownsRow base e size (.slice (some ⟨g,0,none⟩) (n+m) cap) (n+m) (xs++news.toList)→W.grownBy w' v.ownBlock→(v.ownBlock=some g∨W.heap.size<g)→g<w'.heap.size→W.heap.size<w'.heap.size →
   wpListIn F n' P ops Q rest (a.put o.dst (.slice (some ⟨g,0,none⟩) (n+m) cap)) w'):wpListIn F n' P ops Q (o::rest) a (W.alloc (.cells news e')):=by
 obtain⟨g,cap,w',hr,h2,h3,h4,h5,h6⟩:=zc (P:=P) W t o.type base e e' i z size bytes ht hi hz iE iT jl bP rE v n xs aF m hm news hl h1 hb fP;refine wpListIn_plain pQ fun _ hK=>?_
 unfold Oper.wpIn;refine⟨?_,?_⟩
 ·simp[Oper.about,ho,resolve,Target.leads,Sem.run_pure]
 ·rw[Oper.semAt_plain F _ _ (by rw[ho];intro c GN;cases GN)]
  unfold execOp;simp only[ho,resolve,invoke,builtin,Sem.run_bind,Sem.run_pure,Result.andThen_ok,abC,No,VC,hs,hx,hr];exact hK _ _ (h g cap w' h2 h3 h4 h5 h6)
end
section
open Go.RowKit
theorem UL(c:Nat)(h:c<4294967296):bits .xor .u32 ((c:Int) / 2) (bits .and .u32 3988292384 (-(bits .and .u32 (c:Int) 1)%4294967296))=((p9 c:Nat):Int):=by
 have h1:bits .and .u32 (c:Int) ((1:Nat):Int)=((c &&& 1:Nat):Int):=u32_and_nat c 1 h Z;rw[show((1:Nat):Int)=1 from rfl,aer] at h1
 rw[h1,show((c:Int) / 2)=((c / 2:Nat):Int) from rfl]
 have h2:c / 2<4294967296:=U;unfold p9;rcases ada c with e|e
 ·rw[e]
  rw[show(-((0:Nat):Int))%4294967296=((0:Nat):Int) by decide,show(3988292384:Int)=((3988292384:Nat):Int) from rfl,
   u32_and_nat _ _ Z Z,u32_xor_nat _ _ h2 Z]
  simp
 ·rw[e]
  rw[show(-((1:Nat):Int))%4294967296=((4294967295:Nat):Int) by decide,show(3988292384:Int)=((3988292384:Nat):Int) from rfl,
   u32_and_nat _ _ Z Z,u32_xor_nat _ _ h2 Z]
  rw[Φ rfl];congr 1
theorem MK(v:Value)(ps:List Bytes)(w:World)(hv:Strs w v ps)(hn:ps.length≤9223372036854775807)(hs:∀p∈ps,p.length≤9223372036854775807):
  Calls prog 161 #[v] w fun e w'=>e=.returned (.int .u32 (fU ps.flatten:Nat))∧w=w':=by
 obtain⟨a,cap,rfl,aP⟩:=hv.value;have HC:=Hd aP;have HS:=Hd hs;clear aP hs hv;go_enter func161,ntmps161;go_wp2_with fail;go_loop [9,3,5,6] (fun i c _ _=>∃k:Nat,k≤ps.length∧i=.int .i64 k∧c=.int .u32 (mJ (ps.take k).flatten:Nat)) (fun i _ _ _=>ps.length-(intOf i).toNat)
 case atStart=>exact⟨0,U,rfl,rfl⟩
 case round =>
  obtain⟨k,hk,rfl,rfl⟩:=hrel;by_cases ay:k<ps.length
  ·obtain⟨b,off,rfl,hc⟩:=HC.out U
   have gL:=hc k ay;have bW:=HS.out _ (LO ay);have G9:=vp ps k ay;generalize ps[k]=p at *;generalize (ps.take k).flatten=pre at *;have HF:=Hd G9;have Cv:=Hd hc;clear G9 hc;go_wp2_with fail;go_loop [15,3,6] (fun i c _=>∃j:Nat,j≤p.length∧i=.int .i64 j∧c=.int .u32 (mJ (pre++p.take j):Nat)) (fun i _ _=>p.length-(intOf i).toNat)
   case atStart=>exact⟨0,U,rfl,κ⟩
   case round =>
    obtain⟨j,hj,rfl,rfl⟩:=hrel;have nR:=yV (pre++p.take j);by_cases zD:j<p.length
    ·have aC:=P5 pre p j zD
     have hx:(p[j]).toNat<256:=US _;generalize hy:mJ (pre++p.take j)=c at *;have HY:=Hd hy;have aX:=Hd aC;clear hy aC;go_wp2_with fail;have Ac:c ^^^ (p[j]).toNat<4294967296:=abj (n:=32) nR U;go_loop [24,3] (fun i d=>∃m:Nat,m≤8∧i=.int .i64 m∧d=.int .u32 (lM m (c ^^^ (p[j]).toNat):Nat)) (fun i _=>8-(intOf i).toNat)
     case atStart=>exact⟨0,U,rfl,int_eq (by
      rw[show((({ data:=List.toArray p }:ByteArray)[j]).toNat:Int)%4294967296=((p[j]).toNat:Int) from Int.emod_eq_of_lt U (by show((p[j]).toNat:Int)<_;omega)]
      exact u32_xor_nat c (p[j]).toNat nR U)⟩
     case round =>
      obtain⟨m,hm,rfl,rfl⟩:=hrel;have nS:=Da m _ Ac;by_cases iU:m<8
      ·have z8:lM (m+1) (c ^^^ (p[j]).toNat)=p9 (lM m (c ^^^ (p[j]).toNat)):=rfl
       generalize lM m (c ^^^ (p[j]).toNat)=d at *;have hwt:=UL d nS;have VB:=Hd z8;have HWT:=Hd hwt;clear z8 hwt;go_wp2_with fail;go_round;case rel=>exact⟨m+1,U,by go_num,int_eq (by rw[VB.out,←HWT.out])⟩
       case measure=>simp[intOf];omega
      ·have Ze:m=8:=U
       subst Ze;go_wp2_with fail;go_round;case rel=>exact⟨j+1,U,by go_num,by rw[aX.out]⟩
       case measure=>simp[intOf];omega
    ·have hjj:j=p.length:=U
     subst hjj;go_wp2_with fail;go_round;case rel=>exact⟨k+1,U,by go_num,by rw[HF.out,M1]⟩
     case measure=>simp[intOf];omega
  ·have iN:k=ps.length:=U
   have hx:=yV ps.flatten;subst iN;rw[M1];generalize hc:mJ ps.flatten=c at *;have xZ:=Hd hc;clear hc;go_wp2_with fail;go_ret;refine⟨o0 ?_,rfl⟩;show bits BinOp.xor IntKind.u32 IntKind.u32.max (c:Int)=_;rw[show IntKind.u32.max=((4294967295:Nat):Int) by decide,u32_xor_nat _ _ Z hx,Nat.xor_comm]
   unfold fU;rw[xZ.out]
theorem Nu(w:World)(a b c d:Nat)(ha:a<256)(hb:b<256)(hc:c<256)(hd:d<256)(r:Bytes)(hr:r=[UInt8.ofNat a,UInt8.ofNat b,UInt8.ofNat c,UInt8.ofNat d]):
  (convert 92 9 (.slice (some ⟨w.heap.size,0,none⟩) 4 4)).run prog (w.alloc (.cells #[.int .u8 a,.int .u8 b,.int .u8 c,.int .u8 d] 5)) =
   .ok (.string ⟨r.toArray⟩) (w.alloc (.cells #[.int .u8 a,.int .u8 b,.int .u8 c,.int .u8 d] 5)):=by
 subst hr;refine run_convert_bytes_back (P:=prog) _ 92 9 5 ⟨w.heap.size,0,none⟩ 4 [UInt8.ofNat a,UInt8.ofNat b,UInt8.ofNat c,UInt8.ofNat d] underlying92 underlying5 underlying9 ?_;intro j hj;rw[Ep];simp only[World.cell?,heap_alloc_new];match j,hj with
 | 0,_=>simp[OS ha]
 | 1,_=>simp[OS hb]
 | 2,_=>simp[OS hc]
 | 3,_=>simp[OS hd]
set_option maxRecDepth 20000 in
theorem vY(v:Nat)(w:World)(hv:v<4294967296):
  Calls prog 160 #[.int .u32 v] w fun e w'=>e=.returned (.string ⟨(aB v).toArray⟩)∧Q w w':=by
 have k4:=Nu w (v%256) (v / 256%256) (v / 65536%256) (v / 16777216) U U U U (aB v) (by unfold aB;rw[show v / 16777216%256=v / 16777216 by omega])
 simp only[ZS,Int.natCast_ediv,ac6] at k4
 generalize aB v=r at *
 go_enter func160,ntmps160
 go_wp2_with fail
 go_ret
 exact⟨rfl,Q.alloc _ _⟩
end
end Go.Proofs.YtbkahhebmpehnaaGreatDoor
