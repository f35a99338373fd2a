/- Joined: WFsE to WFsI -/
import Derived.Test.YtbkahhebmpehnaaGreatDoorCXWFsB
set_option linter.all false
set_option maxRecDepth 100000
set_option maxHeartbeats 8000000
namespace Go.Proofs.YtbkahhebmpehnaaGreatDoor
open Go.Proofs.Tryz
section
open Go.RowKit
def mB(w:World)(v v':Value):Prop:=v'.ownBlock=v.ownBlock∨v'.ownBlock=some w.heap.size
theorem zQ{w w':World}{r:Option Nat}(g:w.grownBy w' r):ae (fun k=>r=some k) w w':=⟨g.os,g.tape,g.output,g.size,fun k hk hn=>g.block k hk (fun e=>hn e.symm)⟩
theorem LE{w:World}{vb:Nat}{t:TypeId}{cs:Array Value}(hb:Blk w vb t cs):Sl w (.slice (some ⟨vb,0,none⟩) 1 1) 1 cs.size cs.toList :=
 ⟨κ,_,_,rfl,fun _=>⟨vb,0,rfl,fun j u hj=>by rw[On];exact hb.cell j u (by simpa using hj)⟩⟩
theorem U4(w:World)(base:Nat)(v:Value)(n:Nat)(xs:List Value)(vb:Nat)(y0 y1 y2 y3:Value)(h:w.ownsRow base 48 4 v n xs)(hb:Blk w vb 48 #[y0,y1,y2,y3])
  (h2:∀u∈[y0,y1,y2,y3],u.oneCell'=true) (hn:n≤1000) (fP:base≤w.heap.size) :
  Calls prog 72 #[v,.int .i64 (n:Nat),.slice (some ⟨vb,0,none⟩) 1 1] w fun e w'=>∃v',e=.returned v'∧w'.ownsRow base 48 4 v' (n+1) (xs++[y0,y1,y2,y3])∧ae (fun k=>v.ownBlock=some k) w w'∧mB w v v':=by
 obtain⟨i0,hi,bY,bB,aW⟩:=info_parts tK;have hv:∃a cap,v=.slice a n cap∧n≤cap∧cap≤maxLen:=by
  rcases h.2 with ⟨rfl,rfl⟩|⟨g,cap,cur,rfl,_,_,Ho,dJ,_⟩
  ·exact⟨none,0,rfl,Ω _,L0 _⟩
  ·exact⟨_,cap,rfl,Ho,dJ⟩
 have hs:=LE hb;have h3:n+1≤maxLen:=by unfold maxLen;omega
 have h4:(n+1)*56≤140737488355328:=U;obtain⟨a,cap,rfl,Ho,dJ⟩:=hv;have hni:(0:Int)≤(n:Int):=U;have HS:=Hd hs;have HO:=Hd h;have H2:=Hd h2;have H3:=Hd h3;have H4:=Hd h4;have H5:=Hd fP;clear hs h h2 h3 h4 fP hb;go_enter func72,ntmps72;go_wp2_with (at_builtin;refine fM w ρ _ _ 44 ρ base 48 i0 (.agg #[ah [],.bool false,.int .i64 0,.slice none 0 0]) 4 56 underlying44 hi bY bB aW rfl Z _ _ _ ρ HO.out _ _ _ ρ HS.out H2.out H3.out H4.out H5.out ?_)
 all_goals
  intro v' w' o' g' OD;have O:=Hd o';have FB:=Hd OD;have T:=Hd (zQ g');clear o' g' OD;go_wp2_with fail;go_ret;refine⟨_,rfl,O.out,by have t:=T.out;clear T O H2 H3 H4 H5 HS HO FB;revert t;cases a<;>exact fun t=>t,?_⟩
  have t:=FB.out;clear T O H2 H3 H4 H5 HS HO FB;revert t;cases a<;>exact fun t=>t
theorem Do(w:World):(Go.sizeOf 48).run prog w=.ok 4 w:=by
 obtain⟨i0,hi,bY,bB,aW⟩:=info_parts tK;simp[sizeOf,typeInfo,hi,bB]
theorem II:(prog.info? 48).map (·.size)=some 4:=by kernel_rfl
theorem ub(w:World)(vb g o lb cb:Nat)(cs cur:Array Value)(hb:Blk w vb 48 cs)(hg:Blk w g 48 cur)(aU:vb≠g)(h0:cur.size≠0)(la ca:Nat):
  (callFunc 138 #[.slice (some ⟨vb,0,none⟩) la ca,.slice (some ⟨g,o,none⟩) lb cb]).run prog w=.ok (.value (.bool false)) w:=by
 rw[run_callFunc_extern func138 (by kernel_rfl) (by kernel_rfl) (by kernel_rfl) (e:=Extern.SlicesOverlaps.overlaps #[44,44] #[4]) (by kernel_rfl),
  Lib.run_overlaps_apart w 44 4 48 underlying44 4 Do ⟨vb,0,none⟩ ⟨g,o,none⟩ la ca lb cb aU 48 48 cs.size cur.size (by simp[World.shape?,show w.heap[vb]?=_ from hb]) (by simp[World.shape?,show w.heap[g]?=_ from hg]) h0 (hb.frozen _) (hb.frozen _)]
 rfl
theorem PS(w:World)(base g cap n i vb:Nat)(cur:Array Value)(xs:List Value)(y0 y1 y2 y3:Value)(lF:base≤g)(hg:Blk w g 48 cur)(hi:i<n)(hroom:n+1≤cap)(dJ:cap≤maxLen)(mQ:cur.size=cap*4)(xL:cur.toList.take (n*4)=xs)(hb:Blk w vb 48 #[y0,y1,y2,y3])(aU:vb≠g)
  (h1:∀u∈xs,u.oneCell'=true) (h2:∀u∈[y0,y1,y2,y3],u.oneCell'=true) :
  Calls prog 72 #[.slice (some ⟨g,0,none⟩) n cap,.int .i64 (i:Nat),.slice (some ⟨vb,0,none⟩) 1 1] w fun e w'=>∃v',e=.returned v'∧w'.ownsRow base 48 4 v' (n+1) (xs.take (i*4)++[y0,y1,y2,y3]++xs.drop (i*4))∧ae (fun k=>k=g) w w'∧v'.ownBlock=some g:=by
 have aiH:cap≤9223372036854775807:=dJ;have vv:xs.length=n*4:=by rw[←xL,L4,QP,mQ];omega
 have gV:(xs.drop (i*4)).length=(n-i)*4:=by rw[L5,vv];omega
 have Pk:=fun (lb cb:Nat)=>ub w vb g ((i+1)*4) lb cb _ cur hb hg aU U 1 1
 have eO:IntKind.i64.wrap ((i:Int)+1)=(i:Int)+1:=IntWalk.i64_in _ U;have gD:IntKind.i64.wrap ((n:Int)+1)=(n:Int)+1:=IntWalk.i64_in _ U;have tX:((i:Int)+1).toNat=i+1:=U;have htm:((n:Int)+1).toNat=n+1:=U;have hb1:(0:Int)≤(i:Int)+1:=U;have eH:(0:Int)≤(i:Int):=U;have bN:¬(cap=i+1):=U;have gI:(i:Int)≤(n:Int)+1:=U;have sN:¬(cap=i):=U;have gY:¬((i:Int)=(n:Int)):=U;have tQ:¬((cap:Int)<(n:Int)+1):=U;have Tn:(n:Int)+1≤(cap:Int):=U;have hb8:(0:Int)≤(n:Int)+1:=U;have oZ:(i:Int)≤(n:Int):=U;have amI:(i:Int)+1≤(n:Int)+1:=U;have pQ:Blk w.drew g 48 cur:=hg;have aaT:=fun (ty:TypeId) (dc sc:Nat)=>vH (P:=prog) (ty:=ty) w.drew 44 44 48 4 g ((i+1)*4) (n-i) dc ⟨g,i*4,none⟩ (n+1-i) sc cur 48 (xs.drop (i*4)) underlying44 II pQ (by rw[gV,show Nat.min (n+1-i) (n-i)=n-i by simp only[adT];split<;>omega]) (fun j u hj=>by
  rw[oD];refine pQ.cell _ _ ?_;rw[Up,←xL,UB] at hj;split at hj
  ·simpa using hj
  ·cases hj) (by rw[gV,mQ];omega) (fun u hu=>h1 u (XS hu))
 go_enter func72,ntmps72;obtain⟨L1,GV⟩:∃L,L=splice cur.toList ((i+1)*4) (xs.drop (i*4)):=⟨_,rfl⟩;have mG:L1.length=cap*4:=by rw[GV,length_splice _ _ _ (by rw[gV,QP,mQ];omega),QP,mQ]
 rw[←GV] at aaT;obtain⟨W1,oU⟩:∃W,W=w.drew.setRow g L1.toArray:=⟨_,rfl⟩;rw[←oU] at aaT;have eT:Blk W1 g 48 L1.toArray:=by rw[oU];exact setRow_heap w.drew g cur _ _ _ hg
 have yI:Blk W1 vb 48 #[y0,y1,y2,y3]:=by rw[oU];exact(setRow_other w.drew g vb _ aU).trans hb
 have aed:=fun (ty:TypeId) (dc:Nat)=>vH (P:=prog) (ty:=ty) W1 44 44 48 4 g (i*4) (n+1-i) dc ⟨vb,0,none⟩ 1 1 L1.toArray 48 [y0,y1,y2,y3] underlying44 II eT (by rw[show Nat.min 1 (n+1-i)=1 by simp only[adT];split<;>omega];rfl) (fun j u hj=>by rw[oD,On];exact yI.cell _ _ (by simpa using hj)) (by simp[mG];omega) h2
 obtain⟨W2,mE⟩:∃W,W=W1.setRow g (splice L1 (i*4) [y0,y1,y2,y3]).toArray:=⟨_,rfl⟩;simp only[←mE] at aed;have jM:Blk W2 g 48 (splice L1 (i*4) [y0,y1,y2,y3]).toArray:=by rw[mE];exact setRow_heap W1 g _ _ _ _ eT
 have dP:W2.ownsRow base 48 4 (.slice (some ⟨g,0,none⟩) (n+1) cap) (n+1) (xs.take (i*4)++[y0,y1,y2,y3]++xs.drop (i*4)):=by
  refine⟨by simp only[Δ,L4,gV,vv,Θ,Nm];omega,.inr ⟨g,cap,_,rfl,lF,jM,hroom,dJ,by rw[Tr,length_splice _ _ _ (by simp[mG];omega),mG],?_⟩⟩
  have:=Xt cur.toList xs [y0,y1,y2,y3] (i*4) (n*4) 4 xL vv U rfl (by rw[QP,mQ];omega)
  rw[show i*4+4=(i+1)*4 by omega,←GV] at this
  rw[show(n+1)*4=n*4+4 by omega]
  exact this
 have yg:ae (fun k=>k=g) w W2:=by
  refine⟨by rw[mE,oU];rfl,by rw[mE,oU];rfl,by rw[mE,oU];rfl,by rw[mE,oU];simp,fun k hk hn=>?_⟩
  rw[mE,setRow_other _ _ _ _ hn,oU,setRow_other _ _ _ _ hn];rfl
 have HR:=Hd dP;have HT:=Hd yg;clear dP yg jM mE yI eT pQ hg hb h1 h2 oU GV xL mQ mG gV vv;go_wp2_with (simp only[Pk]);go_region_law (refine step_copy_runI rfl _ _ 44 44 rfl _ _ (by simp[Act.eval,Act.put]) (by simp[Act.eval,Act.put]) (aaT _ _ _) ?_)
 go_wp2_with (at_builtin;refine wpList_copy_runI _ rfl _ _ 44 44 rfl _ _ rfl rfl (aed _ _) ?_)
 go_ret;exact⟨_,rfl,HR.out,HT.out,rfl⟩
theorem Q9(w:World)(base g cap n i vb:Nat)(cur:Array Value)(xs:List Value)(y0 y1 y2 y3:Value)(fP:base≤w.heap.size)(hg:Blk w g 48 cur)(hi:i<n)(Ho:n≤cap)(hroom:cap<n+1)(hn:n≤1000)(mQ:cur.size=cap*4)(xL:cur.toList.take (n*4)=xs)(hb:Blk w vb 48 #[y0,y1,y2,y3])
  (h1:∀u∈xs,u.oneCell'=true) (h2:∀u∈[y0,y1,y2,y3],u.oneCell'=true) :
  Calls prog 72 #[.slice (some ⟨g,0,none⟩) n cap,.int .i64 (i:Nat),.slice (some ⟨vb,0,none⟩) 1 1] w fun e w'=>∃v',e=.returned v'∧w'.ownsRow base 48 4 v' (n+1) (xs.take (i*4)++[y0,y1,y2,y3]++xs.drop (i*4))∧Q w w'∧v'.ownBlock=some w.heap.size:=by
 obtain⟨i0,qL,bY,bB,aW⟩:=info_parts tK;obtain rfl:cap=n:=U;have vv:xs.length=cap*4:=by rw[←xL,L4,QP,mQ];omega
 have gV:(xs.drop (i*4)).length=(cap-i)*4:=by rw[L5,vv];omega
 have Vx:=hg.lt;have hvw:=hb.lt;have gD:IntKind.i64.wrap ((cap:Int)+1)=(cap:Int)+1:=IntWalk.i64_in _ U;have zu:IntKind.i64.wrap ((cap:Int)+1-(i:Int))=((cap+1-i:Nat):Int):=by rw[IntWalk.i64_in _ U];omega
 have eO:IntKind.i64.wrap ((i:Int)+1)=(i:Int)+1:=IntWalk.i64_in _ U;have tX:((i:Int)+1).toNat=i+1:=U;have hb1:(0:Int)≤(i:Int)+1:=U;have eH:(0:Int)≤(i:Int):=U;have sN:¬(cap=i):=U;have gY:¬((i:Int)=(cap:Int)):=U;have tQ:(cap:Int)<(cap:Int)+1:=U;have oZ:(i:Int)≤(cap:Int):=U;have hold:(Builtin.firstCells i0.size i (.slice (some ⟨g,0,none⟩) i cap)).run prog w.drew=.ok (xs.take (i*4)).toArray w.drew:=by
  rw[bB];exact run_firstCells_some w.drew 4 i ⟨g,0,none⟩ i cap (xs.take (i*4)) (by rw[L4,vv];omega) (fun j u hj=>by
   rw[oD,On];refine Blk.cell (w:=w.drew) hg _ _ ?_;rw[←xL,UB,UB] at hj;split at hj
   ·split at hj
    ·simpa using hj
    ·cases hj
   ·cases hj)
 have hk:i+(cap+1-i)=cap+1:=U;have OX:=fun (ty:TypeId)=>Lib.run_append_grow_zeros (P:=prog) w 44 3 ty 48 i0 _ .i64 .i64 underlying44 underlying3 qL bY (some ⟨g,0,none⟩) i cap (xs.take (i*4)) hold (cap+1-i) U U U U (by rw[aW];omega) (by rw[aW,hk];exact growslice_fits U U)
 rw[hk] at OX;obtain⟨G,hG⟩:∃G,G=grownCap w (cap+1) cap 48:=⟨_,rfl⟩;have hGn:cap+1≤G:=by rw[hG];exact grownCap_ge w _ _ _
 have hGm:G≤maxLen:=by rw[hG];exact grownCap_le_maxLen w (cap+1) cap _ (by unfold maxLen;omega)
 have amJ:G≤9223372036854775807:=hGm;rw[←hG] at OX;obtain⟨TJ,YN⟩:∃R:Array Value,R=(xs.take (i*4)).toArray++Builtin.zeroCells (Value.agg #[ah [],.bool false,.int .i64 0,.slice none 0 0]).cells (cap+1-i)++Builtin.zeroCells (Value.agg #[ah [],.bool false,.int .i64 0,.slice none 0 0]).cells (G-(cap+1)):=⟨_,rfl⟩;rw[←YN] at OX;have ZR:TJ.size=G*4:=by
  have e1:=size_zeroCells (Value.agg #[ah [],.bool false,.int .i64 0,.slice none 0 0]).cells (cap+1-i);have e2:=size_zeroCells (Value.agg #[ah [],.bool false,.int .i64 0,.slice none 0 0]).cells (G-(cap+1));rw[show(Value.agg #[ah [],.bool false,.int .i64 0,.slice none 0 0]).cells.size=4 from rfl] at e1 e2
  rw[YN,Array.size_append,Array.size_append,e1,e2,Tr,L4,vv];omega
 have hRt:TJ.toList.take (i*4)=xs.take (i*4):=by
  rw[YN,aek,aek,Mm];exact SU (by rw[L4,vv];omega)
 obtain⟨W1,oU⟩:∃W,W=w.drew.alloc (.cells TJ 48):=⟨_,rfl⟩;rw[←oU] at OX;have q1:Q w W1:=by rw[oU];exact(Q.drew w).trans (Q.alloc w.drew _)
 have eT:Blk W1 w.heap.size 48 TJ:=by rw[oU];exact Blk.new w.drew _ _
 have bN:=hb.stays q1;have jM:=hg.stays q1;have aaU:=fun (ty:TypeId) (dc:Nat)=>vH (P:=prog) (ty:=ty) W1 44 44 48 4 w.heap.size (i*4) (cap+1-i) dc ⟨vb,0,none⟩ 1 1 TJ 48 [y0,y1,y2,y3] underlying44 II eT (by rw[show Nat.min 1 (cap+1-i)=1 by simp only[adT];split<;>omega];rfl) (fun j u hj=>by rw[oD,On];exact bN.cell _ _ (by simpa using hj)) (by simp[ZR];omega) h2
 obtain⟨L2,ZT⟩:∃L,L=splice TJ.toList (i*4) [y0,y1,y2,y3]:=⟨_,rfl⟩;have fF:L2.length=G*4:=by rw[ZT,length_splice _ _ _ (by simp[ZR];omega),QP,ZR]
 rw[←ZT] at aaU;obtain⟨W2,mE⟩:∃W,W=W1.setRow w.heap.size L2.toArray:=⟨_,rfl⟩;simp only[←mE] at aaU;have t2:ae (fun k=>k=w.heap.size) W1 W2:=⟨by rw[mE];rfl,by rw[mE];rfl,by rw[mE];rfl,by rw[mE];simp,fun k hk hn=>by rw[mE];exact setRow_other _ _ _ _ hn⟩
 have nu:Blk W2.drew w.heap.size 48 L2.toArray:=by rw[mE];exact setRow_heap W1 _ _ _ _ _ eT
 have lV:Blk W2.drew g 48 cur:=(t2.block g jM.lt U).trans jM;have aee:=fun (ty:TypeId) (dc sc:Nat)=>vH (P:=prog) (ty:=ty) W2.drew 44 44 48 4 w.heap.size ((i+1)*4) (cap-i) dc ⟨g,i*4,none⟩ (cap-i) sc L2.toArray 48 (xs.drop (i*4)) underlying44 II nu (by rw[gV,show Nat.min (cap-i) (cap-i)=cap-i by simp only[adT];split<;>omega]) (fun j u hj=>by
  rw[oD];refine lV.cell _ _ ?_;rw[Up,←xL,UB] at hj;split at hj
  ·simpa using hj
  ·cases hj) (by simp only[gV,Tr,fF];omega) (fun u hu=>h1 u (XS hu))
 obtain⟨W3,Pm⟩:∃W,W=W2.drew.setRow w.heap.size (splice L2 ((i+1)*4) (xs.drop (i*4))).toArray:=⟨_,rfl⟩;simp only[←Pm] at aee;have LK:Blk W3 w.heap.size 48 (splice L2 ((i+1)*4) (xs.drop (i*4))).toArray:=by rw[Pm];exact setRow_heap W2.drew _ _ _ _ _ nu
 have dP:W3.ownsRow base 48 4 (.slice (some ⟨w.heap.size,0,none⟩) (cap+1) G) (cap+1) (xs.take (i*4)++[y0,y1,y2,y3]++xs.drop (i*4)):=by
  refine⟨by simp only[Δ,L4,gV,vv,Θ,Nm];omega,.inr ⟨w.heap.size,G,_,rfl,fP,LK,hGn,hGm,by rw[Tr,length_splice _ _ _ (by rw[gV,fF];omega),fF],?_⟩⟩
  have:=Xu TJ.toList xs [y0,y1,y2,y3] (i*4) (cap*4) 4 hRt vv U rfl (by rw[QP,ZR];omega)
  rw[show i*4+4=(i+1)*4 by omega,←ZT] at this
  rw[show(cap+1)*4=cap*4+4 by omega]
  exact this
 have hq:Q w W3:=by
  have t3:ae (fun k=>k=w.heap.size) W2 W3:=⟨by rw[Pm];rfl,by rw[Pm];rfl,by rw[Pm];rfl,by rw[Pm];simp,fun k hk hn=>by rw[Pm];exact setRow_other _ _ _ _ hn⟩
  exact(t2.trans t3).below q1 q1.size (fun k hk=>U)
 have HR:=Hd dP;have HQ:=Hd hq;have TK:¬(G=i):=U;have Ig:¬(G=i+1):=U;have hG3:(i:Int)≤((cap+1:Nat):Int):=U;have hG4:(i:Int)+1≤((cap+1:Nat):Int):=U;clear dP hq LK Pm lV nu t2 mE fF ZT jM bN eT q1 oU hRt ZR YN hG hk hold qL bY bB aW h1 h2 hb hg mQ xL vv gV fP;go_enter func72,ntmps72;go_wp2_with (first
  | (at_builtin;refine Lib.wpList_append_run _ rfl _ _ _ _ rfl _ _ rfl rfl _ _ (OX _) ?_)
  | (at_builtin;refine wpList_copy_runI _ rfl _ _ 44 44 rfl _ _ rfl rfl (aaU _ _) ?_))
 go_region_law (refine step_copy_runI rfl _ _ 44 44 rfl _ _ (by simp[Act.eval,Act.put]) (by simp[Act.eval,Act.put]) (aee _ _ _) ?_)
 all_goals
  go_wp2_with fail;go_ret;exact⟨_,rfl,HR.out,HQ.out,rfl⟩
theorem U5(w:World)(base:Nat)(v:Value)(n i:Nat)(xs:List Value)(vb:Nat)(y0 y1 y2 y3:Value)(h:w.ownsRow base 48 4 v n xs)(hi:i≤n)(hb:Blk w vb 48 #[y0,y1,y2,y3])(aU:v.ownBlock≠some vb)
  (h1:∀u∈xs,u.oneCell'=true) (h2:∀u∈[y0,y1,y2,y3],u.oneCell'=true) (hn:n≤1000) (fP:base≤w.heap.size) :
  Calls prog 72 #[v,.int .i64 (i:Nat),.slice (some ⟨vb,0,none⟩) 1 1] w fun e w'=>∃v',e=.returned v'∧w'.ownsRow base 48 4 v' (n+1) (xs.take (i*4)++[y0,y1,y2,y3]++xs.drop (i*4))∧ae (fun k=>v.ownBlock=some k) w w'∧mB w v v':=by
 by_cases he:i=n
 ·subst he
  have hl:xs.length=i*4:=h.1;rw[←hl,M1,VV,NF];exact U4 w base v i xs vb y0 y1 y2 y3 h hb h2 hn fP
 ·rcases h.2 with ⟨rfl,rfl⟩|⟨g,cap,cur,rfl,lF,hg,Ho,dJ,mQ,Mr⟩
  ·omega
  ·by_cases hr:n+1≤cap
   ·exact(PS w base g cap n i vb cur xs y0 y1 y2 y3 lF hg U hr dJ mQ Mr hb (fun e=>aU (by rw[e];rfl)) h1 h2).mono fun e w' hx=>by
     obtain⟨v',e1,e2,e3,e4⟩:=hx;exact⟨v',e1,e2,e3.mono fun k hk=>by rw[hk];rfl,.inl e4⟩
   ·exact(Q9 w base g cap n i vb cur xs y0 y1 y2 y3 fP hg U Ho U hn mQ Mr hb h1 h2).mono fun e w' hx=>by
     obtain⟨v',e1,e2,e3,e4⟩:=hx;exact⟨v',e1,e2,ae.br e3,.inr e4⟩
theorem Bb{P:Program}{ops:Array Oper}{o:Oper}{a:Act}{w:World}{K:Act→World→Prop}{Q:Exit→Act→World→Prop}{E:Prop}
  (hg:o.guard=none) (d x:Operand) (dT sT:TypeId) (fB:o.op=Op.call { callee:=Callee.builtin Builtin.append,args:=#[d,x],argTypes:=#[dT,sT] })
  (v u:Value) (hd:a.eval d=v) (hx:a.eval x=u) {v':Value} {w':World} (hr:(Builtin.append_ #[dT,sT] o.type #[v,u]).run P w=.ok v' w') (hK:K (a.put o.dst v') w') :
  if Region.wanted o (yielded ops a.tmps)=true then Oper.wp P o a w K Q else E:=by
 have hw:Region.wanted o (yielded ops a.tmps)=true:=by simp[Region.wanted,hg]
 rw[Φ hw];unfold Oper.wp;simp[execOp,fB,resolve,invoke,builtin,hd,hx,hr,Result.andThen];exact hK
theorem EQ(w:World):(zeroValue 48).run prog w=.ok (.agg #[ah [],.bool false,.int .i64 0,.slice none 0 0]) w:=by
 obtain⟨i0,hi,bY,bB,aW⟩:=info_parts tK;simp[zeroValue,typeInfo,hi,bY]
theorem U6(w:World)(base:Nat)(v:Value)(n i:Nat)(xs:List Value)(h:w.ownsRow base 48 4 v n xs)(hi:i<n)(h1:∀u∈xs,u.oneCell'=true)(hn:n≤1000):
  Calls prog 92 #[v,.int .i64 (i:Nat),.int .i64 ((i:Int)+1)] w fun e w'=>∃v',e=.returned v'∧v'.ownBlock=v.ownBlock∧w'.ownsRow base 48 4 v' (n-1) (xs.take (i*4)++xs.drop ((i+1)*4))∧ae (fun k=>v.ownBlock=some k) w w':=by
 rcases h.2 with ⟨rfl,rfl⟩|⟨g,cap,cur,rfl,lF,hg,Ho,dJ,mQ,xL⟩
 ·omega
 obtain⟨i0,qL,bY,bB,aW⟩:=info_parts tK;have vv:xs.length=n*4:=h.1;have aiH:cap≤9223372036854775807:=dJ;have gV:(xs.drop ((i+1)*4)).length=(n-(i+1))*4:=by rw[L5,vv];omega
 have pQ:Blk w.drew g 48 cur:=hg;have TL:=fun (ty:TypeId) (a:Addr) (c:Nat) (ha:n-(i+1)=0∨a=⟨g,(i+1)*4,none⟩)=>run_append_room (P:=prog) w.drew 44 ty 48 i0 underlying44 qL g i cap cur pQ a (n-(i+1)) c (xs.drop ((i+1)*4)) (by rw[gV,bB]) (fun j u hj=>by
  rcases ha with ha|rfl
  ·have:=(NX.1 hj).1
   rw[gV,ha] at this;omega
  ·rw[oD]
   refine pQ.cell _ _ ?_;rw[Up,←xL,UB] at hj;split at hj
   ·simpa using hj
   ·cases hj) (fun u hu=>h1 u (XS hu)) U (by rw[gV,bB,mQ];omega)
 simp only[bB,show i+(n-(i+1))=n-1 by omega] at TL
 obtain⟨L1,GV⟩:∃L,L=cur.toList.take (i*4)++xs.drop ((i+1)*4)++cur.toList.drop (i*4+(xs.drop ((i+1)*4)).length):=⟨_,rfl⟩;have mG:L1.length=cap*4:=by rw[GV];simp only[Δ,L4,L5,QP,mQ,vv];omega
 rw[←GV] at TL;obtain⟨W1,oU⟩:∃W,W=w.drew.setRow g L1.toArray:=⟨_,rfl⟩;rw[←oU] at TL;have eT:Blk W1 g 48 L1.toArray:=by rw[oU];exact setRow_heap w.drew g cur _ _ _ hg
 have bL:=fun (ty:TypeId) (c:Nat)=>MV (P:=prog) W1 44 48 ty _ underlying44 EQ g ((n-1)*4) 1 c Z L1.toArray 48 eT (by rw[show(Value.agg #[ah [],.bool false,.int .i64 0,.slice none 0 0]).cells.size=4 from rfl,Tr,mG];omega) Z
 obtain⟨zs,jl⟩:∃zs,zs=(Builtin.zeroCells (Value.agg #[ah [],.bool false,.int .i64 0,.slice none 0 0]).cells 1).toList:=⟨_,rfl⟩;have xX:zs.length=4:=by rw[jl,QP,size_zeroCells];rfl
 rw[←jl] at bL;obtain⟨W2,mE⟩:∃W,W=W1.setRow g (splice L1 ((n-1)*4) zs).toArray:=⟨_,rfl⟩;simp only[←mE] at bL;have jM:Blk W2 g 48 (splice L1 ((n-1)*4) zs).toArray:=by rw[mE];exact setRow_heap W1 g _ _ _ _ eT
 have dP:W2.ownsRow base 48 4 (.slice (some ⟨g,0,none⟩) (n-1) cap) (n-1) (xs.take (i*4)++xs.drop ((i+1)*4)):=by
  refine⟨by simp only[Δ,L4,gV,vv];omega,.inr ⟨g,cap,_,rfl,lF,jM,U,dJ,by rw[Tr,length_splice _ _ _ (by rw[xX,mG];omega),mG],?_⟩⟩
  have:=Xv cur.toList xs zs (i*4) 4 (n*4) xL vv U xX (by rw[QP,mQ];omega)
  rw[show i*4+4=(i+1)*4 by omega,←GV,show n*4-4=(n-1)*4 by omega] at this
  exact this
 have yg:ae (fun k=>(Value.slice (some ⟨g,0,none⟩) n cap).ownBlock=some k) w W2:=by
  refine⟨by rw[mE,oU];rfl,by rw[mE,oU];rfl,by rw[mE,oU];rfl,by rw[mE,oU];simp,fun k hk hn=>?_⟩
  have hn:k≠g:=fun e=>hn (by rw[e];rfl)
  rw[mE,setRow_other _ _ _ _ hn,oU,setRow_other _ _ _ _ hn];rfl
 have HR:=Hd dP;have HT:=Hd yg;have eO:IntKind.i64.wrap ((i:Int)+1)=(i:Int)+1:=IntWalk.i64_in _ U;have tX:((i:Int)+1).toNat=i+1:=U;have hb1:(0:Int)≤(i:Int)+1:=U;have eH:(0:Int)≤(i:Int):=U;have bN:(i:Int)≤(i:Int)+1:=U;have gI:(i:Int)+1≤(n:Int):=U;have sN:¬((i:Int)=(i:Int)+1):=U;have gY:(i:Int)≤(cap:Int):=U;have tQ:(n:Int)≤(cap:Int):=U;have Tn:n-(n-1)=1:=U;have hb8:¬(cap=n-1):=U;have hb9:n-1≤n:=U;have amK:(0:Int)≤((n-1:Nat):Int):=U;have amL:((n-1:Nat):Int)≤(n:Int):=U;have amM:¬(cap=i):=U;clear dP yg jM mE xX jl eT oU mG GV pQ gV vv xL mQ hg h h1 qL bY bB aW;go_enter func92,ntmps92;go_wp2_with fail;by_cases hcj:cap=i+1
 ·have YO:=fun (ty:TypeId) (c:Nat)=>TL ty ⟨g,0,none⟩ c (.inl U)
  go_region_law (refine Bb rfl (.tmp 22) (.tmp 25) 44 44 rfl (.slice (some ⟨g,0,none⟩) i cap) (.slice (some ⟨g,0,none⟩) (n-(i+1)) (cap-(i+1))) (by simp[Act.eval,Act.put,hcj]) (by simp[Act.eval,Act.put,hcj]) (YO _ _) ?_)
  all_goals
   go_wp2_with fail;go_ret;exact⟨.slice (some ⟨g,0,none⟩) (n-1) cap,by rw[hcj];rfl,rfl,HR.out,HT.out⟩
 ·have YO:=fun (ty:TypeId) (c:Nat)=>TL ty ⟨g,(i+1)*4,none⟩ c (.inr rfl)
  go_region_law (refine Bb rfl (.tmp 22) (.tmp 25) 44 44 rfl (.slice (some ⟨g,0,none⟩) i cap) (.slice (some ⟨g,(i+1)*4,none⟩) (n-(i+1)) (cap-(i+1))) (by simp[Act.eval,Act.put]) (by simp[Act.eval,Act.put]) (YO _ _) ?_)
  all_goals
   go_wp2_with fail;go_ret;exact⟨_,rfl,rfl,HR.out,HT.out⟩
end
section
open Go.RowKit
theorem Jc(vs:List Value):∀(l:List ax) (i:Nat),(dH vs l).take (i*4)=dH (vs.take i) (l.take i):=by
 induction vs with
 | nil=>intro l i;simp[dH]
 | cons a vs ih=>intro l i;cases l with
  | nil=>simp[dH]
  | cons f l=>cases i with
   | zero=>simp[dH]
   | succ i=>rw[show(i+1)*4=i*4+1+1+1+1 by omega];simp[dH,ih]
theorem Jd(vs:List Value):∀(l:List ax) (i:Nat),vs.length=l.length→(dH vs l).drop (i*4)=dH (vs.drop i) (l.drop i):=by
 induction vs with
 | nil=>intro l i h;cases l with
  | nil=>simp[dH]
  | cons f l=>simp at h
 | cons a vs ih=>intro l i h;cases l with
  | nil=>simp at h
  | cons f l=>cases i with
   | zero=>simp[dH]
   | succ i=>rw[show(i+1)*4=i*4+1+1+1+1 by omega];simp[dH,ih l i (by simpa using h)]
theorem Dl(vs:List Value):∀(l:List ax),(∀(i:Nat) (a:Value) (f:ax),vs[i]?=some a→l[i]?=some f→∃p n c,a=Value.slice p n c)→∀u∈dH vs l,u.oneCell'=true:=by
 induction vs with
 | nil=>intro l _ u hu;simp[dH] at hu
 | cons a vs ih=>intro l h u hu;cases l with
  | nil=>simp[dH] at hu
  | cons f l =>
   obtain⟨p,n,c,e⟩:=h 0 a f rfl rfl;subst e;simp only[dH,MA] at hu;rcases hu with rfl|rfl|rfl|rfl|hu
   ·rfl
   ·rfl
   ·rfl
   ·rfl
   ·exact ih l (fun i x y h1 h2=>h (i+1) x y (by simpa using h1) (by simpa using h2)) u hu
theorem SlP.value{P:Nat→Prop}{w:World}{v:Value}{n size:Nat}{xs:List Value}(h:SlP P w v n size xs):∃p m c,v=Value.slice p m c:=by
 obtain⟨⟨_,a,cap,rfl,_⟩,_⟩:=h;exact⟨_,_,_,rfl⟩
def cE(P:Nat→Prop)(w:World)(base:Nat)(v:Value)(l:List ax):Prop:=∃vs:List Value,vs.length=l.length∧w.ownsRow base 48 4 v l.length (dH vs l)∧∀(i:Nat) a f,vs[i]?=some a→l[i]?=some f→SlP P w a f.ext.length 2 (ext f.ext)
section
variable {P R:Nat→Prop} {w w':World} {base:Nat} {v:Value} {l:List ax}
theorem cE.p(h:cE P w base v l)(h1:∀k,P k→R k)(h2:∀k,base≤k→R k):ci R w v l:=by
 obtain⟨vs,e1,e2,e3⟩:=h;exact⟨vs,e1,(SlP.cx e2).mono (fun k hk _=>h2 k hk.1) Z,fun i a f ha hf=>(e3 i a f ha hf).mono (fun k hk _=>h1 k hk) Z⟩
theorem cE.q(h:cE P w base v l)(q:Q w w'):cE P w' base v l:=by
 obtain⟨vs,e1,e2,e3⟩:=h;exact⟨vs,e1,e2.kept (row:=none) ⟨q.os,q.tape,q.output,q.size,fun k hk _=>q.block k hk⟩ (by cases v.ownBlock<;>simp),fun i a f ha hf=>(e3 i a f ha hf).bh (ae.br (own:=fun _=>False) q) (fun _ _ x=>x)⟩
theorem cE.low{base':Nat}(h:cE P w base v l)(hb:base'≤base):cE P w base' v l:=by
 obtain⟨vs,e1,e2,e3⟩:=h;exact⟨vs,e1,gT e2 hb,e3⟩
theorem cE.lt(h:cE P w base v l)(g:Nat)(hg:v.ownBlock=some g):base≤g∧g<w.heap.size:=by
 obtain⟨vs,e1,e2,e3⟩:=h;exact e2.lt g hg
theorem Xz(h:ci P w v l)(hl:l.length≤1000):
  Calls prog 37 #[v] w fun e w'=>∃v',e=.returned v'∧cE P w' w.heap.size v' l∧Q w w':=by
 obtain⟨vs,e1,e2,e3⟩:=h;exact(Xx v l.length (dH vs l) w e2.1 (Dl vs l fun i a f ha hf=>(e3 i a f ha hf).value) U).mono fun e w' hx=>by
  obtain⟨v',r1,r2,r3⟩:=hx;exact⟨v',r1,⟨vs,e1,r2,fun i a f ha hf=>(e3 i a f ha hf).bh (ae.br (own:=fun _=>False) r3) (fun _ _ x=>x)⟩,r3⟩
theorem Je(h:cE P w base v l)(hP:∀k,P k→k<base)(hl:l.length≤1000)(hb:base≤w.heap.size)(i:Nat)(hi:i≤l.length)(f:ax)(a:Value)(ha:SlP P w a f.ext.length 2 (ext f.ext))(vb:Nat)(Bz:Blk w vb 48 #[ah f.name,.bool f.sl,.int .i64 (f.size:Nat),a])(aU:v.ownBlock≠some vb):
  Calls prog 72 #[v,.int .i64 (i:Nat),.slice (some ⟨vb,0,none⟩) 1 1] w fun e w'=>∃v',e=.returned v'∧cE P w' base v' (l.take i++f::l.drop i)∧ae (fun k=>base≤k∧v.ownBlock=some k) w w'∧mB w v v':=by
 obtain⟨vs,e1,e2,e3⟩:=h;obtain⟨p,n,c,rfl⟩:=ha.value;have ay:=e2.lt;refine(U5 w base v l.length i (dH vs l) vb _ _ _ _ e2 hi Bz aU (Dl vs l fun i a f ha hf=>(e3 i a f ha hf).value) (fun u hu=>by simp at hu;rcases hu with rfl|rfl|rfl|rfl<;>rfl) hl hb).mono fun e w' hx=>?_
 obtain⟨v',r1,r2,r3,r4⟩:=hx;have t:ae (fun k=>base≤k∧v.ownBlock=some k) w w':=r3.mono fun k hk=>⟨(ay k hk).1,hk⟩
 refine⟨v',r1,⟨vs.take i++Value.slice p n c::vs.drop i,?_,?_,fun j u g hu hg=>?_⟩,t,r4⟩
 ·simp only[Δ,L4,Θ,L5,e1]
 ·rw[Jc,Jd _ _ _ e1] at r2
  rw[zO _ _ _ _ (by simp[e1])]
  rw[show(l.take i++f::l.drop i).length=l.length+1 by simp only[Δ,L4,Θ,L5];omega]
  rw[Mm] at r2;exact r2
 ·have lI:(vs.take i).length=i:=by rw[L4,e1];omega
  have oP:(l.take i).length=i:=by rw[L4];omega
  have sM:∀{u:Value} {g:ax},SlP P w u g.ext.length 2 (ext g.ext)→SlP P w' u g.ext.length 2 (ext g.ext):=fun hs=>hs.bh t (fun k hk hc=>by have:=hP k hk;have:=hc.1;omega)
  rcases abr j i with hj|hj|hj
  ·rw[Tb U,UB,Φ hj] at hu hg
   exact sM (e3 j u g hu hg)
  ·subst hj
   rw[OF U,lI,abz] at hu;rw[OF U,oP,abz] at hg;simp only[We,M3] at hu hg;subst hu;subst hg;exact sM ha
  ·obtain⟨m,rfl⟩:∃m,j=i+1+m:=⟨j-(i+1),U⟩
   rw[OF U,lI,show i+1+m-i=m+1 by omega,Wg,Up] at hu
   rw[OF U,oP,show i+1+m-i=m+1 by omega,Wg,Up] at hg
   exact sM (e3 _ u g hu hg)
theorem Dm(h:cE P w base v l)(hP:∀k,P k→k<base)(hl:l.length≤1000)(i:Nat)(hi:i<l.length):
  Calls prog 92 #[v,.int .i64 (i:Nat),.int .i64 ((i:Int)+1)] w fun e w'=>∃v',e=.returned v'∧v'.ownBlock=v.ownBlock∧cE P w' base v' (l.eraseIdx i)∧ae (fun k=>v.ownBlock=some k) w w':=by
 obtain⟨vs,e1,e2,e3⟩:=h;have ay:=e2.lt;refine(U6 w base v l.length i (dH vs l) e2 hi (Dl vs l fun i a f ha hf=>(e3 i a f ha hf).value) hl).mono fun e w' hx=>?_
 obtain⟨v',r1,r0,r2,r3⟩:=hx;refine⟨v',r1,r0,⟨vs.eraseIdx i,?_,?_,fun j u g hu hg=>?_⟩,r3⟩
 ·rw[VM U,VM hi,e1]
 ·rw[Jc,Jd _ _ _ e1] at r2
  rw[V1,V1,zO _ _ _ _ (by simp[e1]),←V1,VM hi]
  exact r2
 ·have sM:∀{u:Value} {g:ax},SlP P w u g.ext.length 2 (ext g.ext)→SlP P w' u g.ext.length 2 (ext g.ext):=fun hs=>hs.bh r3 (fun k hk hc=>by have:=hP k hk;have:=(ay k hc).1;omega)
  rw[List.getElem?_eraseIdx] at hu hg;split at hu
  ·rename_i hj
   rw[Φ hj] at hg;exact sM (e3 _ u g hu hg)
  ·rename_i hj
   rw[η hj] at hg;exact sM (e3 _ u g hu hg)
end
end
section
open Go.RowKit
abbrev Pw(G:Nat→Prop)(fb:Nat)(w:World):Nat→Prop:=fun k=>¬own G fb k∧k<w.heap.size
section
variable {w W X:World} {F G:Nat→Prop} {fb sb b:Nat} {φ:FsL} {K:Nat} {v:Value}
theorem FsG.fi(h:FsG w F fb sb b φ K v):∀k,own F fb k→k<w.heap.size:=fun k hk=>hk.elim (h.st.lt k) (fun e=>by rw[e];exact h.box.lt)
theorem FsG.rows(h:FsG w F fb sb b φ K v):ci (Pw F fb w) w v φ.l:=h.files.mono fun k a b=>⟨a,b⟩
theorem FsG.jp(h:FsG W G fb sb b φ K v)(hl:φ.l.length≤1000)(q:Q W X):
  Calls prog 37 #[v] X fun e w'=>∃v',e=.returned v'∧cE (Pw G fb W) w' X.heap.size v' φ.l∧Q X w' :=
 Xz (h.rows.q q) hl
theorem FsG.mS{KI first:Nat}{fr:List (List WrL)}{C:Nat→Bytes}{lv:Value}{l':List ax}(h:FsG W G fb sb b φ K v)(h2:∀k,G k→grow F w W k)(h3:ae (own F fb) w W)(q:Q W X)(lI:ci (fun k=>¬own G fb k) X lv l')(hd:cN first φ.st.n l')(hs:eE KI φ.st fr C)(gM:KI<18446744073709551616)(hp:φ.packed=[]∨φ.packed.length=3072)(hK:K+20≤1000000000000000000):
  Calls prog 71 #[au fb,lv] X fun e w'=>e=.returned (.int .i64 (φ.st.dir φ.packed l').2)∧FsR w w' F fb sb b (φ.wr l') (K+12)∧ae (own G fb) X w' :=
 (Aw X G fb sb b φ K _ lv l' (h.keep q) lI hd hs gM hp hK).mono fun e w' hx=>⟨hx.1,FsR.seq (fun k hk=>(h2 k hk).imp id fun hk=>⟨hk.1,Ψ hk.2 q.size⟩) (h3.trans (ae.br q)) hx.2,by obtain⟨H,_,_,t⟩:=hx.2;exact t⟩
theorem cE.own{base:Nat}{u:Value}{l:List ax}(h:FsG W G fb sb b φ K v)(hw:cE (Pw G fb W) X base u l)(hb:W.heap.size≤base):ci (fun k=>¬own G fb k) X u l :=
 hw.p (fun k hk=>hk.1) (fun k hk hc=>by have:=h.fi k hc;omega)
end
theorem Ra(w W:World)(F:Nat→Prop)(fb sb b:Nat)(φ:FsL)(K:Nat)(v:Value)(s:Bytes){KI first:Nat}{fr:List (List WrL)}{C:Nat→Bytes}(h:FsK w W F fb sb b φ K v)(hl:φ.l.length≤1000)(hr:φ.l.Pairwise fun a b=>a.name<b.name)
  (hd:cN first φ.st.n (jE φ.l ⟨s,false,0,[]⟩)) (hs:eE KI φ.st fr C) (gM:KI<18446744073709551616) (hp:φ.packed=[]∨φ.packed.length=3072) (hK:K+20≤1000000000000000000) :
  Calls prog 31 #[.agg #[au fb,ah s]] W fun e w'=>e=.returned (.int .i64 (φ.st.dir φ.packed (jE φ.l ⟨s,false,0,[]⟩)).2)∧FsR w w' F fb sb b (φ.wr (jE φ.l ⟨s,false,0,[]⟩)) (K+12):=by
 obtain⟨l',Jw⟩:∃l',l'=jE φ.l ⟨s,false,0,[]⟩:=⟨_,rfl⟩;rw[←Jw] at hd ⊢;obtain⟨G,hG,h2,h3⟩:=h;have bW:=Gm φ.l s;have eP:∀X,Q W X→Calls prog 66 #[v,ah s] X fun e w'=>e=.returned (.tuple #[.int .i64 (aA φ.l s:Nat),.bool (isF φ.l s)])∧Q X w':=fun X q=>J8 _ φ.l s X (hG.keep q).files.s U hr
 have oZ:∀(Y X:World) (v0:Value) (vb:Nat),Q W Y→Q Y X→cE (Pw G fb W) X Y.heap.size v0 φ.l→Blk X vb 48 #[ah s,.bool false,.int .i64 0,.slice none 0 0]→v0.ownBlock≠some vb →
   Calls prog 72 #[v0,.int .i64 (aA φ.l s:Nat),.slice (some ⟨vb,0,none⟩) 1 1] X fun e w'=>∃v',e=.returned v'∧ci (fun k=>¬own G fb k) w' v' l'∧Q Y w':=fun Y X v0 vb q0 q h6 h7 h8=>by
  refine(Je h6 (fun k hk=>Ψ hk.2 q0.size) hl q.size (aA φ.l s) bW ⟨s,false,0,[]⟩ (.slice none 0 0) ⟨⟨rfl,none,0,rfl,fun hn=>by simp at hn⟩,fun hn=>by simp at hn⟩ vb h7 h8).mono fun e w' hx=>?_
  obtain⟨v',r1,r2,r3,_⟩:=hx;exact⟨v',r1,by rw[Jw];exact r2.own hG q0.size,r3.below q q.size (fun k hk=>hk.1)⟩
 obtain⟨cs,mQ⟩:∃cs:Obj,cs=.cells #[ah s,.bool false,.int .i64 0,.slice none 0 0] 48:=⟨_,rfl⟩;have cO:∀Y,Q W Y→Calls prog 37 #[v] Y.drew fun e w4=>∃v',e=.returned v'∧Q Y w4 ∧
   Hid (Calls prog 72 #[v',.int .i64 (aA φ.l s:Nat),.slice (some ⟨w4.heap.size,0,none⟩) 1 1] (w4.alloc cs) fun e w'=>∃v',e=.returned v'∧ci (fun k=>¬own G fb k) w' v' l'∧Q Y w'):=fun Y q=>(hG.jp hl (q.trans (Q.drew Y))).mono fun e w4 hx=>by
  obtain⟨v',r1,r2,r3⟩:=hx;have q4:Q Y w4:=(Q.drew Y).trans r3;exact⟨v',r1,q4,Hd (oZ Y _ v' _ q (q4.trans (Q.alloc w4 cs)) ((r2.low (Ω Y.heap.size)).q (Q.alloc w4 cs)) (by rw[mQ];exact Blk.new w4 _ _) (fun e=>absurd (r2.lt _ e).2 (TE _)))⟩
 have dI:∀Y,Q W Y→Calls prog 37 #[v] (Y.alloc cs).drew fun e w4=>∃v',e=.returned v'∧Q Y w4 ∧
   Hid (Calls prog 72 #[v',.int .i64 (aA φ.l s:Nat),.slice (some ⟨Y.heap.size,0,none⟩) 1 1] w4 fun e w'=>∃v',e=.returned v'∧ci (fun k=>¬own G fb k) w' v' l'∧Q Y w'):=fun Y q=>(hG.jp hl (q.trans ((Q.alloc Y cs).trans (Q.drew _)))).mono fun e w4 hx=>by
  obtain⟨v',r1,r2,r3⟩:=hx;have qy:Q Y (Y.alloc cs).drew:=(Q.alloc Y cs).trans (Q.drew _);have q4:Q Y w4:=qy.trans r3;have bP:Y.heap.size<(Y.alloc cs).drew.heap.size:=by show Y.heap.size<(Y.alloc cs).heap.size;rw[World.size_alloc];exact acw _
  have hb:Blk (Y.alloc cs).drew Y.heap.size 48 #[ah s,.bool false,.int .i64 0,.slice none 0 0]:=by rw[mQ];exact Blk.new Y _ _
  exact⟨v',r1,q4,Hd (oZ Y w4 v' Y.heap.size q q4 (r2.low (aeJ bP)) (hb.stays r3) (fun e=>by have:=(r2.lt _ e).1;omega))⟩
 subst mQ;have jB:∀(X:World) (lv:Value),Q W X→ci (fun k=>¬own G fb k) X lv l'→Calls prog 71 #[au fb,lv] X fun e w'=>e=.returned (.int .i64 (φ.st.dir φ.packed l').2)∧FsR w w' F fb sb b (φ.wr l') (K+12)∧ae (own G fb) X w':=fun X lv q lI=>hG.mS h2 h3 q lI hd hs gM hp hK
 have pX:¬own G fb W.heap.size:=fun hc=>by have:=hG.fi _ hc;omega
 obtain⟨c0,c1,c2,c3,_⟩:=hG.box.c4;obtain⟨la,lc,rfl⟩:∃a c,v=.slice a φ.l.length c:=by
  obtain⟨a,c,e,_⟩:=hG.files.s.value;exact⟨a,c,e⟩
 have iW:=Hd eP;have vg:=Hd cO;have xI:=Hd dI;have vC:=Hd jB;have FI:=Hd pX;clear eP cO dI oZ jB pX hG h2 h3 hd hs hl hr Jw bW;generalize aA φ.l s=pl at *;generalize isF φ.l s=isf at *;generalize (φ.st.dir φ.packed l').2=res at *;generalize φ.wr l'=ψ at *;obtain⟨wa,dO⟩:∃wa,wa=W.alloc (.cells #[au fb,ah s] 76):=⟨_,rfl⟩;have qa:Q W wa:=by rw[dO];exact Q.alloc _ _
 have bZ:Blk wa W.heap.size 76 #[au fb,ah s]:=by rw[dO];exact Blk.new W _ _
 obtain⟨d0,d1,_⟩:=bZ.c2;replace c2:=aj qa c2;go_enter func31,ntmps31;go_wp2_with fail;rw[←dO];clear dO c0 c1 c3 bZ;have KK:=Hd qa
 (go_region_held3 (fun w'=>w'.cell? ⟨W.heap.size,0,none⟩=some (au fb)∧w'.cell? ⟨W.heap.size,1,none⟩=some (ah s)∧w'.cell? ⟨fb,2,none⟩=some (.slice la φ.l.length lc))
  (first|exact g0|exact⟨d0,d1,c2⟩)
  (first
   | (go_at_call 66;with_reducible refine(iW.out _ (by repeat (first|with_reducible exact KK.out|with_reducible apply Qs.dr))).mono ?_;rintro e w3 ⟨rfl,q3⟩;have s':Q wa w3:=Q.trans (by repeat (first|with_reducible exact Q.refl _|with_reducible apply Qs.dr)) q3;have g0:=three s' d0 d1 c2;clear KK;have KK:=Hd (qa.trans s');clear s' q3)))
 clear c2 d0 d1 qa iW;obtain⟨d0,d1,c2⟩:=g0;have Q3:=Hd KK.out;go_wp2_with fail;clear KK;have KK:=Hd (Q.refl w3);have c2d:w3.drew.cell? ⟨fb,2,none⟩=some (.slice la φ.l.length lc):=c2;have c2a:∀o,(w3.alloc o).drew.cell? ⟨fb,2,none⟩=some (.slice la φ.l.length lc):=fun o=>aj ((Q.alloc _ _).trans (Q.drew _)) c2
 have c2b:∀o,(w3.alloc o).cell? ⟨fb,2,none⟩=some (.slice la φ.l.length lc):=fun o=>aj (Q.alloc _ _) c2
 have rU:=fun X (q:Q w3 X)=>aj q d0
 have Bu:=fun X (q:Q w3 X)=>aj q d1
 have HD0:=Hd rU;have HD1:=Hd Bu;clear rU Bu;have d0a:∀o,(w3.alloc o).drew.cell? ⟨W.heap.size,0,none⟩=some (au fb):=fun o=>aj ((Q.alloc _ _).trans (Q.drew _)) d0
 have d0b:∀o,(w3.alloc o).cell? ⟨W.heap.size,0,none⟩=some (au fb):=fun o=>aj (Q.alloc _ _) d0
 (go_region_law (first
   | (go_simp;go_at_call 37;(first|with_reducible refine(vg.out _ Q3.out).mono ?_|with_reducible refine(xI.out _ Q3.out).mono ?_);rintro e w4 ⟨v1,rfl,s',i4⟩;have y0:=HD0.out _ s';have y1:=HD1.out _ s';have y0b:∀o,(w4.alloc o).cell? ⟨W.heap.size,0,none⟩=some (au fb):=fun o=>aj (Q.alloc _ _) y0)
   | (go_simp;go_at_call 72;with_reducible refine i4.out.mono ?_;rintro e w5 ⟨v2,rfl,f2,s5⟩;have z0:=HD0.out _ s5;have F2:=Hd f2;have S5:=Hd s5)
   | (go_simp;go_at_call 71;with_reducible refine(vC.out _ _ (Q3.out.trans S5.out) F2.out).mono ?_;rintro e w6 ⟨rfl,f3,t3⟩;have F3:=Hd f3;clear f3 t3)))
 all_goals
  go_wp2_with fail;go_ret;exact⟨rfl,F3.out⟩
end
section
open Go.RowKit
def FOk(φ:FsL):Prop:=φ.st.dead=true∨φ.st.dead=false∧∃KI fr C,bz KI φ fr C∧KI+4<18446744073709551616
theorem Jf(w:World)(F:Nat→Prop)(fb sb b:Nat)(φ:FsL)(K:Nat)(v:Value)(r:StL→TxR)(g:FuncId)(x:Value)(l':List ax){KI:Nat}{fr:List (List WrL)}{C:Nat→Bytes}(h:FsG w F fb sb b φ K v)(hI:bz KI φ fr C)(gM:KI+4<18446744073709551616)
  (eg:∀(args:Array Value) (w:World),(callFunc g args).run prog w=.ok (.enter g args) w) (hr:r φ.st.begin.1=qm φ φ.st.begin.1 l')
  (hw:∀W,FsK w W F fb sb b { φ with st:=φ.st.begin.1 } K v→eE KI φ.st.begin.1 fr C→φ.st.begin.1.n=φ.st.n→Calls prog g #[x] W fun e w'=>e=.returned (.int .i64 (φ.st.begin.1.dir φ.packed l').2)∧FsR w w' F fb sb b (FsL.wr { φ with st:=φ.st.begin.1 } l') (K+12)) :
  Calls prog 30 #[au fb,.func (.func g) #[x] #[]] w fun e w'=>e=.returned (.int .i64 (φ.cq r).2)∧FsR w w' F fb sb b (φ.cq r).1 (K+12):=by
 have hs:=hI.Fo;have hn:=fq hI.start.1.j;have ha:=hs.after φ.packed l';refine Gt w F fb sb b φ (FsL.wr { φ with st:=φ.st.begin.1 } l') K (K+12) v r g x h U eg ?_ (fun _=>⟨cg.num (K:=KI) ha U,Ap (K:=KI) ha gM⟩) (fun _ W hW=>?_)
 ·rw[hr]
  refine⟨rfl,fun he=>?_⟩
  have hc:=hs.code φ.packed l';have he:(φ.st.begin.1.dir φ.packed l').2=0:=he;rw[hc] at he;cases hf:iA l' with
  | false=>rw[hf] at he;exact absurd he Z
  | true=>unfold FsL.wr;rw[hf];exact⟨rfl,rfl⟩
 ·rw[hr];exact hw W hW hs hn
theorem FOk.find{φ:FsL}(h:FOk φ):φ.st.dead=false→φ.l.length≤1000000∧φ.l.Pairwise fun a b=>a.name<b.name:=fun e=>by
 rcases h with hd|⟨_,KI,fr,C,hI,_⟩
 ·rw[e] at hd;cases hd
 ·exact⟨LS hI.len Z,hI.rise⟩
theorem Jg(w:World)(F:Nat→Prop)(fb sb b:Nat)(φ:FsL)(K:Nat)(v:Value)(s:Bytes)(h:FsG w F fb sb b φ K v)(hI:FOk φ)(hK:K+20≤1000000000000000000)(hs:s.length≤1000000):
  Calls prog 9 #[au fb,ah s] w fun e w'=>e=.returned (.int .i64 (φ.create s).2)∧FsR w w' F fb sb b (φ.create s).1 (K+12):=by
 have qO:=fun W=>EH s W U
 have eP:=wB s h hI.find;have hk:∀W,Q w W→FsR w W F fb sb b φ (K+12):=fun W q=>(((FsK.of h).q q).mono U).r
 have hc:φ.create s=if φ.st.dead then(φ,4) else if iM s=false then(φ,12) else if isF φ.l s then(φ,11) else if φ.l.length=64 then(φ,6) else φ.cq (wu φ s):=rfl
 have hb:∀W,Q w W→W.cell? ⟨fb,2,none⟩=some v:=fun W q=>((h.keep q).box.c4).2.2.1
 have hv:∃a c,v=.slice a φ.l.length c:=by obtain⟨a,c,e,_⟩:=h.files.s.value;exact⟨a,c,e⟩
 have jV:φ.st.dead=false→iM s=true→isF φ.l s=false→φ.l.length≠64→∀W,Q w W→Calls prog 30 #[au fb,.func (.func 31) #[.agg #[au fb,ah s]] #[]] W fun e w'=>e=.returned (.int .i64 (φ.cq (wu φ s)).2)∧FsR w w' F fb sb b (φ.cq (wu φ s)).1 (K+12):=fun h1 h2 h3 h4 W q=>by
  rcases hI with hd|⟨_,KI,fr,C,hI,gM⟩
  ·rw[h1] at hd;cases hd
  ·have hlen:=hI.len
   refine(Jf W F fb sb b φ K v (wu φ s) _ _ (jE φ.l ⟨s,false,0,[]⟩) (h.keep q) hI gM (enters_of func31 (by kernel_rfl) rfl) rfl (fun X hX hs hn=>?_)).mono fun e w' hx=>⟨hx.1,FsR.seq (fun k hk=>.inl hk) (ae.br q) hx.2⟩
   exact Ra W X F fb sb b { φ with st:=φ.st.begin.1 } K v s hX (LS hlen Z) hI.rise (first:=ak φ.st.n+12) (by show cN _ φ.st.begin.1.n _;rw[hn];exact Xr hI s h2 h3 U) hs U (.inr hI.eJ) hK
 obtain⟨la,lc,rfl⟩:=hv;rw[hc];have JI:=Hd qO;have iW:=Hd eP;have HK:=Hd hk;have HB:=Hd hb;have xP:=Hd jV;clear qO eP hk hc hb jV h hI;generalize φ.st.dead=dd at *;generalize iM s=ok at *;generalize isF φ.l s=isf at *;generalize hD:φ.cq (wu φ s)=D at *;clear hD;go_enter func9,ntmps9;go_wp2_with fail;refine iW.out.mono ?_;rintro e w1 ⟨rfl,q1⟩;have Q1:=Hd q1;clear q1;cases dd with
 | true =>
  simp only[PM];go_wp2_with fail;go_ret;exact⟨rfl,HK.out _ Q1.out⟩
 | false =>
  cases isf;all_goals
   simp only[M2,ON,PM];go_wp2_with fail;refine(JI.out _).mono ?_;rintro e w2 ⟨rfl,q2⟩;have Q2:=Hd (Q1.out.trans q2);clear q2;cases ok
  ·simp only[M2,ON,PM]
   go_wp2_with fail;go_ret;exact⟨rfl,HK.out _ Q2.out⟩
  ·simp only[WG,M2,ON,PM]
   have hb:=HB.out _ Q2.out;by_cases TF:φ.l.length=64
   ·rw[TF] at hb
    go_wp2_with fail;go_ret;simp only[WG,M2,ON,TF,PM];exact⟨rfl,HK.out _ Q2.out⟩
   ·have amN:((φ.l.length:Int)==64)=false:=by rw[Γ];omega
    have jV:=xP.out trivial rfl (by first|trivial|rfl) TF _ Q2.out
    have HD:=Hd jV;clear jV;go_wp2_with fail;refine HD.out.mono ?_;rintro e w3 ⟨rfl,h3⟩;have H3:=Hd h3;clear h3;go_wp2_with fail;go_ret;simp only[WG,M2,ON,TF];exact⟨rfl,H3.out⟩
  ·simp only[M2,ON,PM]
   go_wp2_with fail;go_ret;exact⟨rfl,HK.out _ Q2.out⟩
  ·simp only[WG,M2,ON,PM]
   go_wp2_with fail;go_ret;exact⟨rfl,HK.out _ Q2.out⟩
end
section
open Go.RowKit
theorem U7(vs:List Value):∀(l:List ax) (i:Nat) (hi:i<l.length),vs.length=l.length→(dH vs l).set (i*4+1) (.bool true)=dH vs (l.set i l[i].sealed):=by
 induction vs with
 | nil=>intro l i hi h;rw[←h] at hi;simp at hi
 | cons a vs ih=>intro l i hi h;cases l with
  | nil=>simp at hi
  | cons f l=>cases i with
   | zero=>rfl
   | succ i =>
    have:=ih l i (by simpa using hi) (by simpa using h)
    rw[show(i+1)*4+1=(i*4+1)+1+1+1+1 by omega]
    simp only[dH,abZ,abp,this]
section
variable {P:Nat→Prop} {w:World} {base:Nat} {v:Value} {l:List ax}
theorem cE.seal(h:cE P w base v l)(hP:∀k,P k→k<base)(i:Nat)(hi:i<l.length):∃g cap,v=.slice (some ⟨g,0,none⟩) l.length cap∧(∃u,w.cell? ⟨g,i*4+1,none⟩=some u)∧w.frozen? ⟨g,i*4+1,none⟩=false∧base≤g∧cE P (w.setCell ⟨g,i*4+1,none⟩ (.bool true)) base v (l.set i l[i].sealed):=by
 obtain⟨vs,e1,e2,e3⟩:=h;obtain⟨a,cap,rfl,hg⟩:=aY e2;obtain⟨g,rfl⟩:=hg U;have ay:=e2.lt g rfl;have aC:=(e2.stored (i*4+1) (.bool true)).1;obtain⟨_,x1,_,_⟩:=wm vs l i hi e1;refine⟨g,cap,rfl,⟨_,(e2.cellAt (i*4+1) U).trans x1⟩,e2.frozenAt _,ay.1,vs,by rw[Rx,e1],?_,fun j u f hu hf=>?_⟩
 ·rw[U7 vs l i hi e1] at aC
  rw[Rx];exact aC
 ·rw[abu] at hf
  have hx:∃f0,l[j]?=some f0∧f0.ext=f.ext:=by
   split at hf
   ·rename_i GQ
    subst GQ;simp only[hi,PM,M3] at hf;exact⟨l[i],LN hi,by rw[←hf];rfl⟩
   ·exact⟨f,hf,rfl⟩
  obtain⟨f0,Rz,he⟩:=hx;have:=e3 j u f0 hu Rz;rw[he] at this;exact this.bh (ae.setCell (a:=⟨g,i*4+1,none⟩) (ae.refl (fun k=>k=g) w) (.inl rfl) _) (fun k hk hc=>by have:=hP k hk;omega)
end
theorem XA(w W:World)(F:Nat→Prop)(fb sb b:Nat)(φ:FsL)(K:Nat)(v:Value)(i:Nat)(hi:i<φ.l.length){KI first:Nat}{fr:List (List WrL)}{C:Nat→Bytes}(h:FsK w W F fb sb b φ K v)(hl:φ.l.length≤1000)
  (hd:cN first φ.st.n (φ.l.set i φ.l[i].sealed)) (hs:eE KI φ.st fr C) (gM:KI<18446744073709551616) (hp:φ.packed=[]∨φ.packed.length=3072) (hK:K+20≤1000000000000000000) :
  Calls prog 49 #[.agg #[au fb,.int .i64 (i:Nat)]] W fun e w'=>e=.returned (.int .i64 (φ.st.dir φ.packed (φ.l.set i φ.l[i].sealed)).2)∧FsR w w' F fb sb b (φ.wr (φ.l.set i φ.l[i].sealed)) (K+12):=by
 obtain⟨l',Jw⟩:∃l',l'=φ.l.set i φ.l[i].sealed:=⟨_,rfl⟩;rw[←Jw] at hd ⊢;obtain⟨G,hG,h2,h3⟩:=h;obtain⟨wa,dO⟩:∃wa,wa=W.alloc (.cells #[au fb,.int .i64 (i:Nat)] 99):=⟨_,rfl⟩;have qa:Q W wa:=by rw[dO];exact Q.alloc _ _
 have bZ:Blk wa W.heap.size 99 #[au fb,.int .i64 (i:Nat)]:=by rw[dO];exact Blk.new W _ _
 have bL:Calls prog 37 #[v] wa fun e w1=>∃v',e=.returned v'∧Q wa w1∧Hid (∃g cap,v'=.slice (some ⟨g,0,none⟩) φ.l.length cap∧(∃u,w1.cell? ⟨g,i*4+1,none⟩=some u)∧w1.frozen? ⟨g,i*4+1,none⟩=false∧Q wa (w1.setCell ⟨g,i*4+1,none⟩ (.bool true))∧ci (fun k=>¬own G fb k) (w1.setCell ⟨g,i*4+1,none⟩ (.bool true)) v' l') :=
  (hG.jp hl qa).mono fun e w1 hx=>by
   obtain⟨v',r1,r2,r3⟩:=hx;obtain⟨g,cap,e1,e2,e3,e4,e5⟩:=(r2.low qa.size).seal (fun k hk=>hk.2) i hi
   obtain⟨g',cap',e1',_,_,e4',_⟩:=r2.seal (fun k hk=>Ψ hk.2 qa.size) i hi
   rw[e1] at e1';simp only[Value.slice.injEq,M3,Addr.mk.injEq,and_true,aeN] at e1';rw[←e1'.1] at e4';exact⟨v',r1,r3,Hd ⟨g,cap,e1,e2,e3,Q.setCell r3 e4' _,by rw[Jw];exact e5.own hG (Ω _)⟩⟩
 have jB:∀(X:World) (lv:Value),Q W X→ci (fun k=>¬own G fb k) X lv l'→Calls prog 71 #[au fb,lv] X fun e w'=>e=.returned (.int .i64 (φ.st.dir φ.packed l').2)∧FsR w w' F fb sb b (φ.wr l') (K+12)∧ae (own G fb) X w':=fun X lv q lI=>hG.mS h2 h3 q lI hd hs gM hp hK
 obtain⟨_,_,c2,_⟩:=hG.box.c4;obtain⟨la,lc,rfl⟩:∃a c,v=.slice a φ.l.length c:=by
  obtain⟨a,c,e,_⟩:=hG.files.s.value;exact⟨a,c,e⟩
 obtain⟨d0,d1,_⟩:=bZ.c2;replace c2:=aj qa c2;have CX:(i:Int)<(φ.l.length:Int):=U;have qL:(0:Int)≤(i:Int):=U;have p8:=Hd bL;have vC:=Hd jB;have QA:=Hd qa;clear bL jB hG h2 h3 hd hs hl Jw bZ qa;generalize (φ.st.dir φ.packed l').2=res at *;generalize φ.wr l'=ψ at *;go_enter func49,ntmps49;go_upto_region 1 with fail;rw[←dO];clear dO;go_wp2_with fail;refine p8.out.mono ?_;rintro e w1 ⟨v1,rfl,q1,H1⟩;obtain⟨g,cap,rfl,⟨u,e2⟩,e3,q2,e5⟩:=H1.out;have d2:=aj q2 d0;replace d0:=aj q1 d0;replace d1:=aj q1 d1;have hq:Q W _:=QA.out.trans q2;have Q2:=Hd hq;have E5:=Hd e5;clear hq e5 q2 p8 H1;go_upto_region 3 with fail;generalize w1.setCell ⟨g,i*4+1,none⟩ (.bool true)=w2 at *;clear d0 d1 e2 e3;go_wp2_with fail;refine(vC.out _ _ Q2.out E5.out).mono ?_;rintro e w3 ⟨rfl,h3,_⟩;have H3:=Hd h3;clear h3;go_wp2_with fail;go_ret;exact⟨rfl,H3.out⟩
theorem N8(w:World)(F:Nat→Prop)(fb sb b:Nat)(φ:FsL)(K:Nat)(v:Value)(s:Bytes)(h:FsG w F fb sb b φ K v)(hI:FOk φ)(hK:K+20≤1000000000000000000):
  Calls prog 23 #[au fb,ah s] w fun e w'=>e=.returned (.int .i64 (φ.gd s).2)∧FsR w w' F fb sb b (φ.gd s).1 (K+12):=by
 have eP:=wB s h hI.find;have hk:∀W,Q w W→FsR w W F fb sb b φ (K+12):=fun W q=>(((FsK.of h).q q).mono U).r
 have hc:φ.gd s=if φ.dj s≠0 then(φ,φ.dj s) else φ.cq (Ca φ (aA φ.l s) (φ.at9 s)):=rfl
 have pF:φ.dj s=if φ.st.dead then 4 else if isF φ.l s then 0 else 10:=rfl
 have jV:φ.st.dead=false→isF φ.l s=true→∀W,Q w W→Calls prog 30 #[au fb,.func (.func 49) #[.agg #[au fb,.int .i64 (aA φ.l s:Nat)]] #[]] W fun e w'=>e=.returned (.int .i64 (φ.cq (Ca φ (aA φ.l s) (φ.at9 s))).2)∧FsR w w' F fb sb b (φ.cq (Ca φ (aA φ.l s) (φ.at9 s))).1 (K+12):=fun h1 h2 W q=>by
  rcases hI with hd|⟨_,KI,fr,C,hI,gM⟩
  ·rw[h1] at hd;cases hd
  ·have hlen:=hI.len
   obtain⟨hp,_⟩:=zo h2;rw[DV φ s hp];refine(Jf W F fb sb b φ K v (Ca φ (aA φ.l s) φ.l[aA φ.l s]) _ _ (φ.l.set (aA φ.l s) φ.l[aA φ.l s].sealed) (h.keep q) hI gM (enters_of func49 (by kernel_rfl) rfl) rfl (fun X hX hs hn=>?_)).mono fun e w' hx=>⟨hx.1,FsR.seq (fun k hk=>.inl hk) (ae.br q) hx.2⟩
   exact XA W X F fb sb b { φ with st:=φ.st.begin.1 } K v (aA φ.l s) hp hX (LS hlen Z) (first:=ak φ.st.n+12) (by show cN _ φ.st.begin.1.n _;rw[hn];exact DO hI _ hp) hs U (.inr hI.eJ) hK
 rw[hc,pF];have iW:=Hd eP;have HK:=Hd hk;have xP:=Hd jV;clear eP hk hc jV h hI pF;generalize hD:φ.cq (Ca φ (aA φ.l s) (φ.at9 s))=D at *;clear hD;generalize φ.st.dead=dd at *;generalize isF φ.l s=isf at *;generalize aA φ.l s=pl at *;go_enter func23,ntmps23;go_wp2_with fail;refine iW.out.mono ?_;rintro e w1 ⟨rfl,q1⟩;have Q1:=Hd q1;clear q1;cases dd
 ·cases isf
  ·simp only[M2,ON,PM]
   go_wp2_with fail;go_ret;exact⟨rfl,HK.out _ Q1.out⟩
  ·simp only[M2,ON,PM]
   have jV:=xP.out (by first|trivial|rfl) (by first|trivial|rfl) _ Q1.out
   have HD:=Hd jV;clear jV;go_wp2_with fail;refine HD.out.mono ?_;rintro e w3 ⟨rfl,h3⟩;have H3:=Hd h3;clear h3;go_wp2_with fail;go_ret;exact⟨rfl,H3.out⟩
 ·simp only[PM]
  go_wp2_with fail;go_ret;exact⟨rfl,HK.out _ Q1.out⟩
end
end Go.Proofs.YtbkahhebmpehnaaGreatDoor
