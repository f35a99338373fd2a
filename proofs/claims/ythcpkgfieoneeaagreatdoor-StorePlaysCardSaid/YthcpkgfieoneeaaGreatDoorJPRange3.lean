/- Joined texts of one proof: what is needed of Range3, WCacD, AppIn, WRef2b, WToF, WRef2d. -/
import Derived.Test.YthcpkgfieoneeaaGreatDoorJPKit
import Derived.Test.YthcpkgfieoneeaaGreatDoorJPCac
import Derived.Test.YthcpkgfieoneeaaGreatDoorJPWRDevB
import Derived.Test.YthcpkgfieoneeaaGreatDoorProg
import Derived.Test.YthcpkgfieoneeaaGreatDoorJPJrn
import Derived.Deep.QuietTactic
set_option linter.unusedSimpArgs false
set_option linter.unusedVariables false
set_option linter.unnecessarySimpa false
set_option maxRecDepth 100000
set_option maxHeartbeats 16000000
namespace Go.Proofs.YthcpkgfieoneeaaGreatDoor
section
open Go.RowKit
def SeqG{σ:Type}(P:Program)(g:Nat)(lb:Array Value)(step:σ→World→Array Value→σ→Prop)(fin:σ→Prop)(own keep:Nat→Prop)(n₀:Nat)(s0:σ)(W:World):Prop :=
 ∀(n l:Nat) (J Jx:σ→World→Prop),
  (∀s A B,J s A→Itk own W.heap.size A B→J s B)→(∀s A B,Jx s A→Itk own W.heap.size A B→Jx s B) →
  (∀s s2 W1 args,J s W1→step s W1 args s2→(∀b,keep b→b<W1.heap.size)→YieldW P l args W1 fun e W' =>
   (e=.returned (.bool true)∧J s2 W'∧Bk keep n₀ W1 W')∨(e=.returned (.bool false)∧Jx s2 W')) →
  J s0 W →
  CallsIn Fence.wide n P g (#[.func (.yield l) #[] #[]]++lb) W fun e W'=>(∃v,e=.returned v)∧((∃s,fin s∧J s W')∨∃s,Jx s W')
structure BkS (own:Nat→Prop) (A B:World):Prop where
 size:A.heap.size≤B.heap.size
 own:∀k,own k→k<A.heap.size→B.heap[k]?=A.heap[k]?
theorem BkS.mono{own own':Nat→Prop}{A B:World}(h:BkS own A B)(k:∀i,own' i→own i):BkS own' A B:=⟨h.size,fun i h1 h2=>h.own i (k i h1) h2⟩
theorem BkS.of_bk{own:Nat→Prop}{n₀:Nat}{A B:World}(h:Bk own n₀ A B):BkS own A B:=⟨h.below.size,h.own⟩
def roundG{σ:Type}(Bw Bs:World→World→Prop)(I:σ→World→Prop)(Ix:Code→σ→World→Prop)(s:σ)(W:World):Exit→Act→World→Prop
 | .normal,_,W'=>Bw W W'∧I s W'
 | .ret,_,W'=>Bs W W'∧Ix .ret s W'
 | .exit id,_,W'=>Bs W W'∧Ix (.exit id) s W'
 | .goto t,_,W'=>Bs W W'∧Ix (.goto t) s W'
 | .panic _,_,_=>False
 | .outgrown,_,_=>False
theorem wp_rangeG{σ:Type}{P:Program}{n:Nat}{g:Operand}{ps:Array Tmp}{assign body:Code}{Qx:Exit→Act→World→Prop}{a:Act}{w:World}
  {gf:Nat} {lb:Array Value} (hg:a.eval g=.func (.func gf) #[] lb) (eg:∀args w,(callFunc gf args).run P w=.ok (.enter gf args) w)
  {step:σ→World→Array Value→σ→Prop} {fin':σ→Prop} {s0:σ} {own keep:Nat→Prop} {n₀:Nat}
  (hseq:∀W1,Q w W1→W1.heap.size=w.heap.size+2→SeqG P gf lb step fin' own keep n₀ s0 W1)
  (hown:∀k,own k→k≠w.heap.size∧k≠w.heap.size+1) (hkeep:∀k,keep k→k≠w.heap.size∧k≠w.heap.size+1) (hn₀:n₀≤w.heap.size) (hps:∀x W args y,step x W args y→args.size=ps.size)
  (I:σ→World→Prop) (Ix:Code→σ→World→Prop) (Ax:σ→σ→Act→World→Prop)
  (hI:∀s A B,I s A→Itk own w.heap.size A B→I s B) (hIx:∀c s A B,Ix c s A→Itk own w.heap.size A B→Ix c s B) (hAx:∀k k2 a' A B,Ax k k2 a' A→Itk own w.heap.size A B→Ax k k2 a' B)
  (h0:I s0 w)
  (hassign:∀(l:Nat) (k k2:σ) (W:World) (args:Array Value) (K:Act→World→Prop),I k W→step k W args k2→w.heap.size+2≤W.heap.size→(∀a' W',Q W W'→I k W'→Ax k k2 a' W'→K a' W') →
   assign.wpIn (Fence.wide.inRound l) (n-1-1) P (Exit.then K (fun _ _ _=>False)) { tmps:=(ps.zip args).foldl (fun t (p,v)=>t.setIfInBounds p v) a.tmps,defers:=[] } W)
  (hbody:∀(l:Nat) (k k2:σ) (a':Act) (W:World),((∃r,W.heap[l]?=some (.loop r))∧W.heap[w.heap.size]?=some (.deferred (some [])))→l=w.heap.size+1→I k W→Ax k k2 a' W→(∀b,keep b→b<W.heap.size)→w.heap.size+2≤W.heap.size →
   body.wpIn (Fence.wide.inRound l) (n-1-1) P (roundG (Bk (fun b=>keep b∨b=w.heap.size∨b=w.heap.size+1) n₀) (BkS (fun b=>b=w.heap.size∨b=w.heap.size+1)) I Ix k2 W) a' W)
  (hdone:∀(D:Nat) (s:σ) (W:World),D=w.heap.size→w.heap.size+2≤W.heap.size→fin' s→I s W→W.heap[D]?=some (.deferred (some []))→Qx .normal { a with defers:={ target:=.collected D,args:=#[] }::a.defers } W)
  (hstop:∀(D:Nat) (c:Code) (k:σ) (W:World),D=w.heap.size→Ix c k W→W.heap[D]?=some (.deferred (some []))→c.wpIn Fence.wide n P Qx { a with defers:={ target:=.collected D,args:=#[] }::a.defers } W) :
  (Code.rangeFunc g ps assign body).wpIn Fence.wide n P Qx a w:=by
 refine wpIn_rangeFunc ?_
 intro fn hfn
 obtain⟨rec,hrec⟩:∃rec:LoopState→Option Code→Loop,rec=fun st pe=>{ state:=st,pending:=pe,fn,tmps:=a.tmps,params:=ps,assign,body,defers:=w.heap.size }:=⟨_,rfl⟩
 obtain⟨W1,hW1⟩:∃W1,(w.alloc (.deferred (some []))).alloc (.loop (rec .ready none))=W1:=⟨_,rfl⟩
 have hq1:Q w W1:=by rw[←hW1];exact(Q.alloc w _).trans (Q.alloc _ _)
 have hs1:W1.heap.size=w.heap.size+2:=by rw[←hW1];simp
 have hL1:W1.heap[w.heap.size+1]?=some (.loop (rec .ready none)):=by
  rw[←hW1];have:=World.alloc_heap_new (w.alloc (.deferred (some []))) (.loop (rec .ready none));rwa [World.size_alloc] at this
 have hK1:W1.heap[w.heap.size]?=some (.deferred (some [])):=by
  rw[←hW1];exact(Below.heap_alloc _ _ _ (by simp)).trans (World.alloc_heap_new w _)
 have hI1:I s0 W1:=hI _ _ _ h0 (Itk.of_q hq1)
 have ho1:¬own (w.heap.size+1):=fun h=>(hown _ h).2 rfl
 have hk1':¬keep (w.heap.size+1):=fun h=>(hkeep _ h).2 rfl
 have ho0:¬own w.heap.size:=fun h=>(hown _ h).1 rfl
 refine⟨w.heap.size+1,[{ target:=.collected w.heap.size,args:=#[] }],W1,{ target:=.fn (.func gf) lb,args:=#[.func (.yield (w.heap.size+1)) #[] #[]] },W1,gf,
  #[.func (.yield (w.heap.size+1)) #[] #[]]++lb,W1,?_,?_,fun _ _=>trivial,?_,fun h=>(by cases h),?_⟩
 ·rw[←hW1,hrec];exact run_enterLoop_outer _ _ _ _ _
 ·simp only[resolve,hg]
  simp[go_sem]
 ·simp[invoke,go_sem,eg]
 ·refine(hseq W1 hq1 hs1 (n-1) (w.heap.size+1)
   (fun k W=>I k W∧W.heap[w.heap.size+1]?=some (.loop (rec .ready none))∧W.heap[w.heap.size]?=some (.deferred (some [])))
   (fun k W=>∃c,Ix c k W∧W.heap[w.heap.size+1]?=some (.loop (rec .done (some c)))∧W.heap[w.heap.size]?=some (.deferred (some [])))
   (fun s A B hs hi=>⟨hI s A B hs.1 (hi.mono (fun _ h=>h) (by omega)),(hi.low _ (by omega) (lt_of_get hs.2.1) ho1).trans hs.2.1,(hi.low _ (by omega) (lt_of_get hs.2.2) ho0).trans hs.2.2⟩)
   (fun s A B hs hi=>by
    obtain⟨c,hc,hl,hk⟩:=hs
    exact⟨c,hIx c s A B hc (hi.mono (fun _ h=>h) (by omega)),(hi.low _ (by omega) (lt_of_get hl) ho1).trans hl,(hi.low _ (by omega) (lt_of_get hk) ho0).trans hk⟩)
   ?_ ⟨hI1,hL1,hK1⟩).mono ?_
  ·
   rintro k k2 W args ⟨hi,hl,hkk⟩ henc hob
   have hy:=run_yield (P:=P) (args:=args) hl (by rw[hrec];exact hps _ _ _ _ henc)
   rw[hrec] at hy
   refine⟨fn,_,assign,body,hy,fun m=>round_any (n:=n-1-1) (roundIn_of_wpIn trivial (hassign _ k k2 W args _ hi henc (lt_of_get hl) ?_))⟩
   clear hy
   intro a' Wa hqa hia hax
   have hla:=(hqa.block _ (lt_of_get hl)).trans hl
   have hka:=(hqa.block _ (lt_of_get hkk)).trans hkk
   refine⟨_,run_beginRound hla (by rw[hrec]),?_⟩
   have hl2:(Wa.putObj (w.heap.size+1) (.loop { rec .ready none with state:=.busy })).heap[w.heap.size+1]?=some (.loop { rec .ready none with state:=.busy }):=World.putObj_heap_same (lt_of_get hla)
   have hk2:(Wa.putObj (w.heap.size+1) (.loop { rec .ready none with state:=.busy })).heap[w.heap.size]?=some (.deferred (some [])):=(World.putObj_heap_other (by omega)).trans hka
   have hi2:Itk own w.heap.size Wa (Wa.putObj (w.heap.size+1) (.loop { rec .ready none with state:=.busy })):=Itk.put _ hla rfl (by omega)
   have hb2:Bk keep n₀ W (Wa.putObj (w.heap.size+1) (.loop { rec .ready none with state:=.busy })):=(Bk.of_q hqa (by have:=lt_of_get hl;omega)).trans (Bk.put _ hla rfl (by omega) hk1')
   refine wpIn_mono (hbody _ k k2 a' _ ⟨⟨_,hl2⟩,hk2⟩ rfl (hI _ _ _ hia hi2) (hAx _ _ _ _ _ hax hi2) (fun b hb=>by have:=hob b hb;have:=hqa.size;simp;omega) (by have:=lt_of_get hla;simp;omega)) ?_
   have fin:∀(jump:Option Code) (W3:World),BkS (fun b=>b=w.heap.size∨b=w.heap.size+1) (Wa.putObj (w.heap.size+1) (.loop { rec .ready none with state:=.busy })) W3 →
     (Instr.endRound (w.heap.size+1) jump).run P W3=.ok (.bool jump.isNone) (W3.putObj (w.heap.size+1) (.loop (rec (if jump.isNone then .ready else .done) jump))) ∧
     W3.heap[w.heap.size+1]?=some (.loop { rec .ready none with state:=.busy }) ∧
     (W3.putObj (w.heap.size+1) (.loop (rec (if jump.isNone then .ready else .done) jump))).heap[w.heap.size+1]?=some (.loop (rec (if jump.isNone then .ready else .done) jump)) ∧
     (W3.putObj (w.heap.size+1) (.loop (rec (if jump.isNone then .ready else .done) jump))).heap[w.heap.size]?=some (.deferred (some [])) ∧
     Itk own w.heap.size W3 (W3.putObj (w.heap.size+1) (.loop (rec (if jump.isNone then .ready else .done) jump))):=fun jump W3 hk3=>by
    have hl3:=(hk3.own _ (.inr rfl) (lt_of_get hl2)).trans hl2
    have hd3:=(hk3.own _ (.inl rfl) (lt_of_get hk2)).trans hk2
    have:=run_endRound (P:=P) jump hl3
    rw[hrec] at this ⊢
    rw[hrec] at hl3
    exact⟨this,hl3,World.putObj_heap_same (lt_of_get hl3),(World.putObj_heap_other (by omega)).trans hd3,Itk.put _ hl3 rfl (by omega)⟩
   rintro e a3 W3 hp
   cases e with
   | normal =>
    obtain⟨hk3,hi3⟩:=hp
    obtain⟨hr,hl3,hl4,hk4,hi4⟩:=fin none W3 ((BkS.of_bk hk3).mono (fun _ h=>.inr h))
    exact⟨_,_,hr,.inl ⟨rfl,⟨hI _ _ _ hi3 hi4,hl4,hk4⟩,(hb2.trans (hk3.mono (fun _ h=>.inl h) (Nat.le_refl _))).trans (Bk.put _ hl3 rfl (by omega) hk1')⟩⟩
   | ret =>
    obtain⟨hk3,hi3⟩:=hp
    obtain⟨hr,hl3,hl4,hk4,hi4⟩:=fin (some .ret) W3 hk3
    exact⟨_,_,hr,.inr ⟨rfl,⟨.ret,hIx _ _ _ _ hi3 hi4,hl4,hk4⟩⟩⟩
   | exit id =>
    obtain⟨hk3,hi3⟩:=hp
    obtain⟨hr,hl3,hl4,hk4,hi4⟩:=fin (some (.exit id)) W3 hk3
    exact⟨_,_,hr,.inr ⟨rfl,⟨.exit id,hIx _ _ _ _ hi3 hi4,hl4,hk4⟩⟩⟩
   | goto t =>
    obtain⟨hk3,hi3⟩:=hp
    obtain⟨hr,hl3,hl4,hk4,hi4⟩:=fin (some (.goto t)) W3 hk3
    exact⟨_,_,hr,.inr ⟨rfl,⟨.goto t,hIx _ _ _ _ hi3 hi4,hl4,hk4⟩⟩⟩
   | panic ch=>exact hp.elim
   | outgrown=>exact hp.elim
  ·
   rintro e W2 ⟨⟨v,rfl⟩,(⟨k,hkl,hi,hl,hk⟩|⟨k,c,hi,hl,hk⟩)⟩
   ·exact⟨none,_,by have:=run_endLoop (P:=P) hl (by rw[hrec];simp);rw[hrec] at this;exact this,hdone _ k _ rfl (by have:=lt_of_get hl;simp;omega) hkl (hI _ _ _ hi (Itk.put _ hl rfl (by omega))) ((World.putObj_heap_other (by omega)).trans hk)⟩
   ·exact⟨some c,_,by have:=run_endLoop (P:=P) hl (by rw[hrec];simp);rw[hrec] at this;exact this,hstop _ c k _ rfl (hIx c _ _ _ hi (Itk.put _ hl rfl (by omega))) ((World.putObj_heap_other (by omega)).trans hk)⟩
end
section
open Go.RowKit
attribute [local go_sem] Oper.semAt_some
theorem Keys_any(mb:Nat)(w:World):
  Calls Tryz.prog 103 #[.map (some mb)] w fun e w'=>e=.returned (.func (.func 144) #[] #[.pointer (some ⟨w.heap.size,0,none⟩)])∧w.alloc (.cells #[.map (some mb)] 140)=w':=by
 go_enter Tryz.func103,Tryz.ntmps103
 go_wp2_with fail
 go_ret
 exact⟨rfl,rfl⟩
def keyStep(K:List Nat)(ks:List Nat)(W:World)(args:Array Value)(ks2:List Nat):Prop:=∃k∈K,k∉ks∧args=#[keyI k]∧ks2=ks++[k]
theorem Keys_seq(B mb n₀:Nat)(m:List (Nat×Value))(W:World)(hb:Boxed W B 140 (.map (some mb)))(hm:MapI W mb m)(hn:n₀≤W.heap.size):
  SeqG Tryz.prog 144 #[.pointer (some ⟨B,0,none⟩)] (keyStep (m.map (·.1))) (fun ks=>ks.Perm (m.map (·.1))) (fun _=>False) (fun k=>k=B∨k=mb) n₀ [] W:=by
 intro n l J Jx hJ hJx hY h0
 refine callsIn_of_wp Tryz.func144 rfl trivial ?_ rfl
 simp only[Tryz.ntmps144,List.size_toArray,List.length_cons,List.length_nil,Nat.reduceAdd,Nat.reduceSub,Array.replicate_succ,Array.replicate_zero,List.push_toArray,List.append_toArray,List.nil_append,List.cons_append]
 have hc:=hb.cell
 obtain⟨o,hrg,hri⟩:=RangeI.made (P:=Tryz.prog) hm 140 3 141 Tryz.underlying140
 have hq0:Q W (W.alloc o):=Q.alloc _ _
 have H0:=Lib.hid h0;have HQ0:=Lib.hid hq0;have HBX:=Lib.hid hb;have HYH:=Lib.hid hY;have HRI:=Lib.hid hri;have HMM:=Lib.hid hm.lt
 have hBlt:=hb.lt
 clear h0 hq0 hb hY hri hm
 gi_wp2
 clear hrg
 gi_loopw [3] (fun _ wr=>∃(ks left:List Nat),Hid (RangeI wr mb W.heap.size m left)∧Hid ((ks++left).Perm (m.map (·.1)))∧Hid (Below n₀ W wr)∧Hid (Boxed wr B 140 (.map (some mb)))∧Hid (J ks wr)) (fun _ wr=>wr.rangeLeft mb W.heap.size)
 case atStart =>
  exact⟨[],_,HRI,Lib.hid (List.Perm.refl _),Lib.hid (Below.mono HQ0.out hn),Lib.hid (HBX.out.alloc _),Lib.hid (hJ _ _ _ H0.out (Itk.of_q HQ0.out))⟩
 case round =>
  obtain⟨ks,left,HR,HP,HB,HBB,HJ⟩:=hrel
  have hnd:=HR.out.map.nodup
  rcases RangeI.next (P:=Tryz.prog) HR.out with ⟨hl0,hnx⟩|⟨k,v,left',w',hkv,hpm,hnx,hri',hg,hz,hen⟩
  ·have hfin:ks.Perm (m.map (·.1)):=by have:=HP.out;rw[hl0,List.append_nil] at this;exact this
   have HF:=Lib.hid hfin
   clear hl0 hfin hnd
   gi_wp2
   go_end0
   exact⟨⟨_,rfl⟩,.inl ⟨ks,HF.out,HJ.out⟩⟩
  ·obtain⟨since,seen,c0,hit⟩:=HR.out.iter
   have hj':J ks w':=hJ _ _ _ HJ.out (Itk.turned hg hit rfl (Nat.le_refl _))
   have hb':Boxed w' B 140 (.map (some mb)):=(hg.block B (lt_of_get HBB.out) (fun e=>by injection e with e;omega)).trans HBB.out
   have hperm:(ks++k::left').Perm (m.map (·.1)):=((hpm.symm).append_left ks).trans HP.out
   have hndk:(ks++k::left').Nodup:=hperm.nodup_iff.2 hnd
   have hnk:k∉ks:=fun hc=>(List.nodup_append.1 hndk).2.2 k hc k (List.mem_cons_self ..) rfl
   have hkm:k∈m.map (·.1):=hperm.mem_iff.1 (List.mem_append_right _ (List.mem_cons_self ..))
   have hbw:Below n₀ W w':=HB.out.trans ⟨hg.os,hg.tape,hg.output,hg.size,fun i hi=>hg.block i (by have:=HB.out.size;omega) (fun e=>by injection e with e;omega)⟩
   obtain⟨fn,tmps,assign,body,hy,hRR⟩:=HYH.out ks (ks++[k]) w' #[keyI k] hj' ⟨k,hkm,hnk,rfl,rfl⟩ (fun b hb=>by
    rcases hb with rfl|rfl
    ·exact lt_of_get hb'
    ·exact hri'.map.lt)
   have hlen:w'.rangeLeft mb W.heap.size<wr.rangeLeft mb W.heap.size:=by rw[hri'.len,HR.out.len,hpm.length_eq];simp
   have hp2:((ks++[k])++left').Perm (m.map (·.1)):=by rw[List.append_assoc];exact hperm
   have HYY:=Lib.hid hRR;have HRI':=Lib.hid hri';have HBW:=Lib.hid hbw;have HB':=Lib.hid hb';have HP2:=Lib.hid hp2;have HLN:=Lib.hid hlen
   clear hj' hb' hperm hndk hnk hkm hbw hRR hri' hlen hp2 hpm hkv hg hz hit hnd
   gi_wp2
   refine⟨fun h=>(by cases h),(HYY.out _).mono ?_⟩
   rintro e W3 (⟨rfl,hJ3,hk3⟩|⟨rfl,hJx3⟩)
   ·obtain⟨since,seen,c0,hit⟩:=HRI'.out.iter
    have hi3:RangeI W3 mb W.heap.size m left':=HRI'.out.same (hk3.own mb (.inr rfl) HRI'.out.map.lt) ((hk3.walks _ _ hit rfl).trans hit.symm)
    have hb3:Boxed W3 B 140 (.map (some mb)):=(hk3.own B (.inl rfl) (lt_of_get HB'.out)).trans HB'.out
    have hln3:W3.rangeLeft mb W.heap.size<wr.rangeLeft mb W.heap.size:=by rw[hi3.len];have:=HLN.out;rw[HRI'.out.len] at this;exact this
    have HI3:=Lib.hid hi3;have HB3:=Lib.hid hb3;have HJ3:=Lib.hid hJ3;have HBW3:=Lib.hid (HBW.out.trans hk3.below);have HL3:=Lib.hid hln3
    clear hi3 hb3 hJ3 hk3 hit hln3
    gi_wp2
    go_roundw
    case rel=>exact⟨ks++[k],left',HI3,HP2,HBW3,HB3,HJ3⟩
    case measure=>exact HL3.out
   ·have HJX:=Lib.hid hJx3;clear hJx3
    gi_wp2
    refine bodyPost_ret (results_none rfl _ _ _) rfl ?_
    exact⟨⟨_,rfl⟩,.inr ⟨_,HJX.out⟩⟩
end
section
open Go.RowKit
theorem run_appN{P:Program}(W:World)(t ty:TypeId)(base:Nat)(e e':TypeId)(i:TypeInfo)(z:Value)(size bytes:Nat)(ht:P.underlying t=some (.slice e))(hi:P.info? e=some i)(hz:i.zero=some z)
  (hsize:i.size=size) (hby:i.bytes=bytes) (hzs:z.cells.size=size) (hsz:0<size) (hbz:0<bytes)
  (v:Value) (n:Nat) (xs:List Value) (hown:W.ownsRow base e size v n xs)
  (m:Nat) (hm:0<m) (news:Array Value) (hl:news.size=m*size) (h1:∀u∈news.toList,u.oneCell'=true) (hb:(n+m)*bytes≤140737488355328) (hbase:base≤W.heap.size) :
  ∃g cap w',(Builtin.append_ #[t,t] ty #[v,.slice (some ⟨W.heap.size,0,none⟩) m m]).run P (W.alloc (.cells news e'))=.ok (.slice (some ⟨g,0,none⟩) (n+m) cap) w' ∧
   w'.ownsRow base e size (.slice (some ⟨g,0,none⟩) (n+m) cap) (n+m) (xs++news.toList)∧W.grownBy w' v.ownBlock∧(v.ownBlock=some g∨W.heap.size<g)∧g<w'.heap.size∧W.heap.size<w'.heap.size:=by
 have h63:n+m≤maxLen:=by
  have:=Nat.le_mul_of_pos_right (n+m) hbz
  simp only[maxLen];omega
 obtain⟨g,cap,w',hr,h2,h3,h4,h5⟩:=run_append_lies (P:=P) (W.alloc (.cells news e')) t ty base e i z size bytes ht hi hz hsize hby hzs hsz v n xs (hown.alloc _) ⟨W.heap.size,0,none⟩ m m news.toList (by simpa using hl)
  (fun j u hj=>by
   rw[add_head]
   simp only[World.cell?,heap_alloc_new]
   simpa using hj) h1 hm h63 hb (by simp;omega) (W.heap.size+1) (by simp)
 refine⟨g,cap,w',hr,h2,⟨h3.os.trans rfl,h3.tape.trans rfl,h3.output.trans rfl,by have:=h3.size;simp at this;omega,fun k hk hne=>?_⟩,h4.imp id (fun h=>by omega),h5,by have:=h3.size;simp at this;omega⟩
 rw[h3.block k (by simp;omega) hne,Below.heap_alloc _ _ _ hk]
theorem wpListIn_appN{F:Fence}{n':Nat}{P:Program}(W:World){ops:Array Oper}{rest:List Oper}{o:Oper}{a:Act}{Q:Exit→Act→World→Prop}(hgd:o.guard=none)(s x:Operand)(t:TypeId)
  (ho:o.op=.call { callee:=.builtin .append,args:=#[s,x],argTypes:=#[t,t] })
  (base:Nat) (e e':TypeId) (i:TypeInfo) (z:Value) (size bytes:Nat) (ht:P.underlying t=some (.slice e)) (hi:P.info? e=some i) (hz:i.zero=some z)
  (hsize:i.size=size) (hby:i.bytes=bytes) (hzs:z.cells.size=size) (hsz:0<size) (hbz:0<bytes)
  (v:Value) (n:Nat) (xs:List Value) (hs:a.eval s=v) (hown:W.ownsRow base e size v n xs)
  (m:Nat) (hm:0<m) (news:Array Value) (hx:a.eval x=.slice (some ⟨W.heap.size,0,none⟩) m m) (hl:news.size=m*size) (h1:∀u∈news.toList,u.oneCell'=true)
  (hb:(n+m)*bytes≤140737488355328) (hbase:base≤W.heap.size)
  (h:∀g cap w',w'.ownsRow base e size (.slice (some ⟨g,0,none⟩) (n+m) cap) (n+m) (xs++news.toList)→W.grownBy w' v.ownBlock→(v.ownBlock=some g∨W.heap.size<g)→g<w'.heap.size→W.heap.size<w'.heap.size →
   wpListIn F n' P ops Q rest (a.put o.dst (.slice (some ⟨g,0,none⟩) (n+m) cap)) w'):wpListIn F n' P ops Q (o::rest) a (W.alloc (.cells news e')):=by
 obtain⟨g,cap,w',hr,h2,h3,h4,h5,h6⟩:=run_appN (P:=P) W t o.type base e e' i z size bytes ht hi hz hsize hby hzs hsz hbz v n xs hown m hm news hl h1 hb hbase
 refine wpListIn_plain hgd fun _ hK=>?_
 unfold Oper.wpIn
 refine⟨?_,?_⟩
 ·simp[Oper.about,ho,resolve,Target.leads,Sem.run_pure]
 ·rw[Oper.semAt_plain F _ _ (by rw[ho];intro c hc';cases hc')]
  unfold execOp
  simp only[ho,resolve,invoke,builtin,Sem.run_bind,Sem.run_pure,Result.andThen_ok,List.map_toArray,List.map_cons,List.map_nil,hs,hx,hr]
  exact hK _ _ (h g cap w' h2 h3 h4 h5 h6)
end
section
open Go.RowKit
set_option maxRecDepth 20000 in
theorem RFixed_any(v:Nat)(w:World)(hv:v<4294967296):
  Calls Tryz.prog 123 #[.int .u32 v] w fun e w'=>e=.returned (strV (fixedL v))∧Q w w':=by
 have k4:=four_back w (v%256) (v / 256%256) (v / 65536%256) (v / 16777216) (by omega) (by omega) (by omega) (by omega) (fixedL v) (by unfold fixedL;rw[show v / 16777216%256=v / 16777216 by omega])
 simp only[Int.natCast_emod,Int.natCast_ediv,Int.cast_ofNat_Int] at k4
 generalize fixedL v=r at *
 go_enter Tryz.func123,Tryz.ntmps123
 go_wp2_with fail
 go_ret
 exact⟨rfl,Q.alloc _ _⟩
theorem crc_take1(s:Bytes)(j:Nat)(h:j<s.length):crcRaw (s.take (j+1))=crcTurns 8 (crcRaw (s.take j) ^^^ s[j].toNat):=crc_take [] s j h
set_option maxRecDepth 20000 in
theorem RCrc_any(s:Bytes)(w:World)(hs:s.length≤9223372036854775807):
  Calls Tryz.prog 158 #[strV s] w fun e w'=>e=.returned (.int .u32 (crcL s:Nat))∧w=w':=by
 go_enter Tryz.func158,Tryz.ntmps158
 go_wp2_with fail
 go_loop [3,4,5] (fun c i _=>∃k:Nat,k≤s.length∧i=.int .i64 k∧c=.int .u32 (crcRaw (s.take k):Nat)) (fun _ i _=>s.length-(intOf i).toNat)
 case atStart=>exact⟨0,by omega,rfl,rfl⟩
 case round =>
  obtain⟨k,hk,rfl,rfl⟩:=hrel
  have hlt1:=crcRaw_lt (s.take k)
  by_cases hlt:k<s.length
  ·have hst:=crc_take1 s k hlt
   have hx:(s[k]).toNat<256:=UInt8.toNat_lt _
   generalize hy:crcRaw (s.take k)=c at *
   have HY:=Lib.hid hy;have HST:=Lib.hid hst;clear hy hst
   go_wp2_with fail
   have hxl:c ^^^ (s[k]).toNat<4294967296:=Nat.xor_lt_two_pow (n:=32) hlt1 (by omega)
   go_loop [5,3] (fun i d=>∃m:Nat,m≤8∧i=.int .i64 m∧d=.int .u32 (crcTurns m (c ^^^ (s[k]).toNat):Nat)) (fun i _=>8-(intOf i).toNat)
   case atStart=>exact⟨0,by omega,rfl,int_eq (by
    rw[show((({ data:=List.toArray s }:ByteArray)[k]).toNat:Int)%4294967296=((s[k]).toNat:Int) from Int.emod_eq_of_lt (by omega) (by show((s[k]).toNat:Int)<_;omega)]
    exact u32_xor_nat c (s[k]).toNat hlt1 (by omega))⟩
   case round =>
    obtain⟨m,hm,rfl,rfl⟩:=hrel
    have htl:=crcTurns_lt m _ hxl
    by_cases hml:m<8
    ·have hsc:crcTurns (m+1) (c ^^^ (s[k]).toNat)=crcTurn (crcTurns m (c ^^^ (s[k]).toNat)):=rfl
     generalize crcTurns m (c ^^^ (s[k]).toNat)=d at *
     have HSC:=Lib.hid hsc;clear hsc
     by_cases hodd:d%2=1
     ·have ht:crcTurn d=(d / 2) ^^^ 3988292384:=by unfold crcTurn;rw[if_pos hodd]
      have hx2:bits .xor .u32 (((d / 2:Nat):Int)) ((3988292384:Nat):Int)=((d / 2 ^^^ 3988292384:Nat):Int):=u32_xor_nat (d / 2) 3988292384 (by omega) (by decide)
      have hoi:((d:Int)%2==1)=true:=by simp;omega
      have HT:=Lib.hid ht;have HX2:=Lib.hid hx2
      clear ht hx2 hodd
      go_wp2_with fail
      go_round
      case rel=>exact⟨m+1,by omega,by go_num,int_eq (by rw[HSC.out,HT.out];exact HX2.out)⟩
      case measure=>simp[intOf];omega
     ·have ht:crcTurn d=d / 2:=by unfold crcTurn;rw[if_neg hodd]
      have hoi:((d:Int)%2==1)=false:=by simp;omega
      have HT:=Lib.hid ht
      clear ht hodd
      go_wp2_with fail
      go_round
      case rel=>exact⟨m+1,by omega,by go_num,int_eq (by rw[HSC.out,HT.out];rfl)⟩
      case measure=>simp[intOf];omega
    ·have hm8:m=8:=by omega
     subst hm8
     go_wp2_with fail
     go_round
     case rel=>exact⟨k+1,by omega,by go_num,by rw[HST.out]⟩
     case measure=>simp[intOf];omega
  ·have hkk:k=s.length:=by omega
   have hx:=crcRaw_lt s
   subst hkk
   rw[List.take_length]
   generalize hc:crcRaw s=c at *
   have HCR:=Lib.hid hc;clear hc
   go_wp2_with fail
   go_ret
   refine⟨ret_int ?_,rfl⟩
   show bits BinOp.xor IntKind.u32 (c:Int) ((4294967295:Nat):Int)=_
   rw[u32_xor_nat _ _ hx (by decide)]
   unfold crcL
   rw[HCR.out]
end
section
open Go.RowKit
theorem byteF(s:Bytes)(k:Nat)(h:k<s.length):((({ data:=s.toArray }:ByteArray)[k]'h).toNat:Int)=(byteN s k:Nat):=by
 unfold byteN
 rw[List.getD_eq_getElem?_getD,List.getElem?_eq_getElem h]
 rfl
theorem or_step(k x z:Nat)(hx:x<2 ^ k)(hz:z<256)(hk:k≤24):bits .or .u32 (x:Int) ((z:Int)%4294967296*((2 ^ k:Nat):Int)%4294967296)=((x+z*2 ^ k:Nat):Int):=by
 have hp:(2:Nat) ^ k≤2 ^ 24:=Nat.pow_le_pow_right (by omega) hk
 have h24:(2:Nat) ^ 24=16777216:=by decide
 have hb:z*2 ^ k≤255*16777216:=Nat.mul_le_mul (by omega) (by omega)
 have e:((z:Int)%4294967296*((2 ^ k:Nat):Int)%4294967296)=((z*2 ^ k:Nat):Int):=by
  rw[show((z:Int)%4294967296)=(z:Int) by omega,←Int.natCast_mul]
  omega
 rw[e,u32_or_nat _ _ (by omega) (by omega),Nat.or_comm,nat_join k (z*2 ^ k) x (by rw[Nat.mul_mod_left]) hx]
 congr 1
 omega
theorem unfix_or(a b c d:Nat)(ha:a<256)(hb:b<256)(hc:c<256)(hd:d<256):
  bits .or .u32 (bits .or .u32 (bits .or .u32 ((a:Int)%4294967296) ((b:Int)%4294967296*256%4294967296)) ((c:Int)%4294967296*65536%4294967296)) ((d:Int)%4294967296*16777216%4294967296)=((a+256*b+65536*c+16777216*d:Nat):Int):=by
 have h1:=or_step 8 a b (by omega) hb (by omega)
 have h2:=or_step 16 (a+b*2 ^ 8) c (by omega) hc (by omega)
 have h3:=or_step 24 (a+b*2 ^ 8+c*2 ^ 16) d (by omega) hd (by omega)
 rw[show((2 ^ 8:Nat):Int)=256 from rfl] at h1
 rw[show((2 ^ 16:Nat):Int)=65536 from rfl] at h2
 rw[show((2 ^ 24:Nat):Int)=16777216 from rfl] at h3
 rw[show((a:Int)%4294967296)=(a:Int) by omega,h1,h2,h3]
 congr 1
 omega
theorem ToFixed_any(s:Bytes)(w:World)(hs:4≤s.length)(hs2:s.length≤9223372036854775807):
  Calls Tryz.prog 159 #[strV s] w fun e w'=>e=.returned (.tuple #[.int .u32 (unfix s:Nat),strV (s.drop 4),.bool true])∧Q w w':=by
 have e0:¬(s.length:Int)<4:=by omega
 have h0:(0:Nat)<s.length:=by omega
 have h1:(1:Nat)<s.length:=by omega
 have h2:(2:Nat)<s.length:=by omega
 have h3:(3:Nat)<s.length:=by omega
 have i1:(1:Int)<(s.length:Int):=by omega
 have i2:(2:Int)<(s.length:Int):=by omega
 have i3:(3:Int)<(s.length:Int):=by omega
 have i4:(4:Int)≤(s.length:Int):=by omega
 go_enter Tryz.func159,Tryz.ntmps159
 go_wp2_with fail
 go_quiet (fail)
 simp only[byteF s 0 h0,byteF s 1 h1,byteF s 2 h2,byteF s 3 h3]
 rw[unfix_or _ _ _ _ (byteN_lt s 0) (byteN_lt s 1) (byteN_lt s 2) (byteN_lt s 3)]
 go_wp2_with fail
 go_ret3
 exact⟨by rw[bytes_drop];rfl,Q.drewN _ _⟩
theorem RToFixed_any(s:Bytes)(w:World)(hs:4≤s.length)(hs2:s.length≤9223372036854775807):
  Calls Tryz.prog 153 #[strV s] w fun e w'=>e=.returned (.tuple #[.int .u32 (unfix s:Nat),strV (s.drop 4),.bool true])∧Q w w':=by
 have e0:¬(s.length:Int)<4:=by omega
 have h0:(0:Nat)<s.length:=by omega
 have h1:(1:Nat)<s.length:=by omega
 have h2:(2:Nat)<s.length:=by omega
 have h3:(3:Nat)<s.length:=by omega
 have i1:(1:Int)<(s.length:Int):=by omega
 have i2:(2:Int)<(s.length:Int):=by omega
 have i3:(3:Int)<(s.length:Int):=by omega
 have i4:(4:Int)≤(s.length:Int):=by omega
 go_enter Tryz.func153,Tryz.ntmps153
 go_wp2_with fail
 go_quiet (fail)
 simp only[byteF s 0 h0,byteF s 1 h1,byteF s 2 h2,byteF s 3 h3]
 have b0:=byteN_lt s 0;have b1:=byteN_lt s 1;have b2:=byteN_lt s 2;have b3:=byteN_lt s 3
 have hv:((((byteN s 0:Nat):Int)+256*(((byteN s 1:Nat):Int)%4294967296)+65536*(((byteN s 2:Nat):Int)%4294967296))%4294967296+16777216*(((byteN s 3:Nat):Int)%4294967296)%4294967296)%4294967296=((unfix s:Nat):Int):=by unfold unfix;omega
 rw[hv]
 go_wp2_with fail
 go_ret3
 exact⟨by rw[bytes_drop];rfl,Q.drewN _ _⟩
def longL(s:Bytes):Nat:=unfix (s.drop 4)*4294967296+unfix s
theorem RLong_any(s:Bytes)(w:World)(hs:8≤s.length)(hs2:s.length≤1000000):
  Calls Tryz.prog 154 #[strV s] w fun e w'=>e=.returned (.int .u64 (longL s:Nat))∧Q w w':=by
 have c1:=fun (W:World)=>RToFixed_any s W (by omega) (by omega)
 have c2:=fun (W:World)=>RToFixed_any (s.drop 4) W (by rw[List.length_drop];omega) (by rw[List.length_drop];omega)
 have i4:(4:Int)≤(s.length:Int):=by omega
 have hd:({ data:=s.toArray }:ByteArray).extract 4 s.length=⟨(s.drop 4).toArray⟩:=bytes_drop s 4
 have u1:=unfix_lt s;have u2:=unfix_lt (s.drop 4)
 have hv:((longL s:Nat):Int)=(unfix (s.drop 4):Int)*4294967296+(unfix s:Int):=by unfold longL;omega
 rw[hv]
 generalize unfix s=a at *
 generalize unfix (s.drop 4)=b at *
 have C1:=Lib.hid c1;have C2:=Lib.hid c2
 clear c1 c2 hv
 go_enter Tryz.func154,Tryz.ntmps154
 go_wp2_with fail
 refine(C1.out _).mono ?_
 rintro e w1 ⟨rfl,q1⟩
 go_wp2_with fail
 refine(C2.out _).mono ?_
 rintro e w2 ⟨rfl,q2⟩
 have Q2:=Lib.hid (q1.trans q2)
 clear q1 q2
 go_wp2_with fail
 go_ret
 exact⟨rfl,Q2.out⟩
end
end Go.Proofs.YthcpkgfieoneeaaGreatDoor
