/- Joined texts of one proof. -/
import Derived.Test.YthijhicdmnoifaaGreatDoorRWRef12c
set_option linter.unusedSimpArgs false
set_option linter.unusedVariables false
set_option linter.unnecessarySimpa false
set_option maxRecDepth 100000
set_option maxHeartbeats 8000000
namespace Go.Proofs.YthijhicdmnoifaaGreatDoor
section
open Go.RowKit
theorem withR_cut(d:au)(l:List au)(k:Nat)(hk:k≤l.length)(h1:∀x∈l.take k,bU x.1 d.1=true)(h2:∀x,l[k]?=some x→bU x.1 d.1=false):
  fP d l=l.take k++d::(if (∃x,l[k]?=some x∧x.1=d.1) then l.drop (k+1) else l.drop k):=by
 induction l generalizing k with
 | nil=>simp[fP]
 | cons x l ih =>
  rw[fP];cases k with
  | zero =>
   have h3:=h2 x rfl;rw[if_neg (by rw[h3];simp)]
   by_cases he:x.1=d.1
   ·rw[if_pos he,if_pos ⟨x,rfl,he⟩];simp
   ·rw[if_neg he,if_neg (by rintro⟨y,hy,TW⟩;simp at hy;subst hy;exact he TW)];simp
  | succ k =>
   have h3:bU x.1 d.1=true:=h1 x (by simp)
   rw[if_pos h3,ih k (by simpa using hk) (fun y hy=>h1 y (by simp[hy])) (fun y hy=>h2 y (by simpa using hy))]
   simp
theorem gy(W:World)(base:Nat)(hb:base≤W.heap.size):(W.alloc (.cells #[] 47)).ownsRow base 47 2 (.slice (some ⟨W.heap.size,0,none⟩) 0 0) 0 (bK []):=⟨rfl,.inr ⟨W.heap.size,0,#[],rfl,hb,heap_alloc_new _ _,Nat.le_refl _,by decide,rfl,rfl⟩⟩
theorem pq(W:World)(A:Obj)(base:Nat)(hb:base≤W.heap.size):((W.alloc A).alloc (.cells #[] 47)).ownsRow base 47 2 (.slice (some ⟨W.heap.size+1,0,none⟩) 0 0) 0 (bK []):=by
 have:=gy (W.alloc A) base (by simp;omega)
 simpa using this
theorem mW{w:World}{g:Nat}{d:au}{T:TypeId}{fr:Nat×Nat}(h:w.heap[g]?=some (.cells #[ak d.1,ak d.2] T fr)):Sl w (.slice (some ⟨g,0,none⟩) 1 1) 1 2 (bK [d]):=by
 refine⟨rfl,_,_,rfl,fun _=>⟨g,0,rfl,fun j u hj=>?_⟩⟩
 simp only[World.cell?,h];simpa[bK] using hj
theorem fA(W0:World){w:World}{ops:Array Oper}{o:Oper}{a:Act}{K:Act→World→Prop}{Qx:Exit→Act→World→Prop}{E:Prop}(uf:o.guard=none)(s x:Operand)
  (ho:o.op=.call { callee:=.builtin .append,args:=#[s,x],argTypes:=#[39,39] })
  (v:Value) (n:Nat) (xs:List au) (hs:a.eval s=v) (aQ:w.ownsRow W0.heap.size 47 2 v n (bK xs)) (hq:Q W0 w)
  (vx:Value) (m:Nat) (ys:List au) (hx:a.eval x=vx) (hl:Sl w vx m 2 (bK ys)) (hnm:n+m≤1000000000)
  (h:∀v' w',w'.ownsRow W0.heap.size 47 2 v' (n+m) (bK (xs++ys))→Q W0 w'→(∀g o,w.heap[g]?=some o→v.ownBlock≠some g→w'.heap[g]?=some o)→K (a.put o.dst v') w') :
  if Region.wanted o (yielded ops a.tmps)=true then Oper.wp Tryz.prog o a w K Qx else E:=by
 obtain⟨i0,hi,fJ,eU,fD⟩:=info_parts fT;have hw:Region.wanted o (yielded ops a.tmps)=true:=by simp[Region.wanted,uf]
 rw[if_pos hw];refine zG w s x 39 ho W0.heap.size 47 i0 (.agg #[ak [],ak []]) 2 32 Tryz.underlying39 hi fJ eU fD rfl (by decide) v n (bK xs) hs aQ vx m (bK ys) hx hl (Zc ys) (by unfold maxLen;omega) (by omega) hq.size ?_
 ·intro v' w' h2 h3 _
  refine h v' w' (by rw[show bK (xs++ys)=bK xs++bK ys by simp[bK]];exact h2) (aL hq aQ h3 (Nat.le_refl _) hq.size) (fun g o hg aF=>(h3.block g (Array.getElem?_eq_some_iff.1 hg).1 (Ne.symm aF)).trans hg)
theorem Dj{wo V:World}{P:World→Prop}(hq:Q wo V)(h:∀W,Q wo W→P W):P V:=h V hq
theorem FB{w:World}{a:Option Addr}{n c sz:Nat}{xs:List Value}(h:Sl w (.slice a n c) n sz xs)(k:Nat)(hk:k≤n):Sl w (.slice a k c) k sz (xs.take (k*sz)):=by
 obtain⟨hl,a',c',hv,hc⟩:=h;cases hv;refine⟨by rw[List.length_take,hl,Nat.min_eq_left (Nat.mul_le_mul_right _ hk)],_,_,rfl,fun hp=>?_⟩
 obtain⟨b,off,rfl,bC⟩:=hc (by omega)
 refine⟨b,off,rfl,fun j u hj=>bC j u ?_⟩
 rw[List.getElem?_take] at hj;split at hj
 ·exact hj
 ·cases hj
theorem MW{w:World}{g o n c sz:Nat}{xs:List Value}(h:Sl w (.slice (some ⟨g,o,none⟩) n c) n sz xs)(k:Nat)(hk:k≤n)(o' c':Nat)(ho:o'=o+k*sz):Sl w (.slice (some ⟨g,o',none⟩) (n-k) c') (n-k) sz (xs.drop (k*sz)):=by
 obtain⟨hl,a',c2,hv,hc⟩:=h;cases hv;subst ho;refine⟨by rw[List.length_drop,hl,Nat.sub_mul],_,_,rfl,fun hp=>?_⟩
 obtain⟨b,off,hb,bC⟩:=hc (by omega)
 cases hb;refine⟨g,o+k*sz,rfl,fun j u hj=>?_⟩
 rw[List.getElem?_drop] at hj;have:=bC _ u hj;rw[←Nat.add_assoc] at this;exact this
theorem Jc(w:World)(A:Option Addr)(c sz:Nat):Sl w (.slice A 0 c) 0 sz []:=⟨by simp,_,_,rfl,fun h=>by omega⟩
theorem BF(l:List au)(k:Nat):(bK l).take (k*2)=bK (l.take k):=TP l k
theorem TS(l:List au)(k:Nat):(bK l).drop (k*2)=bK (l.drop k):=TQ l k
theorem RWith_any(v:Value)(l:List au)(d:au)(w:World)(base:Nat)(hv:w.ownsRow base 47 2 v l.length (bK l))(hn:l.length≤1000000):
  Calls Tryz.prog 31 #[v,.agg #[ak d.1,ak d.2]] w fun e w'=>∃v',e=.returned v'∧w'.ownsRow w.heap.size 47 2 v' (fP d l).length (bK (fP d l))∧Q w w':=by
 have bY:Docs w v l:=Sl.of_owns hv;obtain⟨a,cap,rfl,aJ⟩:=bY.value;obtain⟨aaX,amm⟩:=o8 hv;have XK:(a=none∧cap=0∧l.length=0)∨∃g,a=some ⟨g,0,none⟩:=by
  rcases hv.2 with ⟨hv,hn⟩|⟨g,cap,cur,hv,_⟩
  ·injection hv with e1 e2 e3;exact .inl ⟨e1,e3,e2⟩
  ·injection hv with e1 e2 e3;exact .inr ⟨g,e1⟩
 have pz:Tryz.prog.follows .mixedOrders=true:=by kernel_rfl
 obtain⟨id,tx⟩:=d;have hx:=heap_alloc_new w (.cells #[ak id,ak tx] 47);obtain⟨x0,x1⟩:=bN hx;have iR:=Q.alloc w (.cells #[ak id,ak tx] 47);have FT:=withR_cut (id,tx) l;have axE:w.heap.size≤(w.alloc (.cells #[ak id,ak tx] 47)).heap.size:=by simp
 have HC:=Hd aJ;have yG:=Hd bY;have EB:=Hd x0;have EC:=Hd x1;have jk:=Hd iR;have auh:=Hd FT;clear aJ bY hv x0 x1 hx iR FT;rcases XK with ⟨h1,h2,h3⟩|⟨g,h1⟩
 ·have Xm:l=[]:=List.eq_nil_of_length_eq_zero h3
  subst Xm;subst h1;subst h2;have eZ:fP (id,tx) []=[(id,tx)]:=rfl;rw[eZ];go_enter Tryz.func31,Tryz.ntmps31;go_wp2_with fail;generalize w.alloc (.cells #[ak id,ak tx] 47)=wb at *;generalize hBd:w.heap.size=B at *;go_loopw [5] (fun i wr=>i=.int .i64 0∧Hid (Q wb wr)) (fun i _=>0)
  case atStart=>exact⟨rfl,Q.refl _⟩
  case round =>
   obtain⟨rfl,HQ⟩:=hrel;obtain⟨wo,rfl⟩:∃wo:World,wo=wr:=⟨_,rfl⟩;have e0:=ah HQ.out EB.out;have e1:=ah HQ.out EC.out;go_wp2_with fail;go_quiet (fail);go_wp2_with fail;go_quiet (fail);go_wp2_with fail;refine Dj (wo:=wo) (by first|exact Q.drewN _ _|exact Q.trans (Q.drewN _ _) (Q.drewN _ _)) (fun W kF=>?_)
   have y0:=ah kF e0;have y1:=ah kF e1;have sl1:∀V,Sl V (.slice none 0 0) 0 2 (bK []):=fun V=>Jc V _ _ _
   have vC:=Hd sl1;have xO:=Hd ((jk.out.trans HQ.out).trans kF);have ayh:w.heap.size≤W.heap.size:=xO.out.size;clear sl1 kF e0 e1;have xe0:=ah (Q.alloc W (.cells #[] 47)) y0;have xe1:=ah (Q.alloc W (.cells #[] 47)) y1;go_region_law
    (first
     | (refine fA W (by rfl) _ _ (by rfl) (.slice (some ⟨W.heap.size,0,none⟩) 0 0) 0 [] (by rfl) (by first|exact gy W _ (Nat.le_refl _)|exact aX (gy W _ (Nat.le_refl _))|exact bF _ (gy W _ (Nat.le_refl _))|exact aX (bF _ (gy W _ (Nat.le_refl _)))) (by repeat (first|with_reducible exact Q.refl _|with_reducible refine Q.trans ?_ (Q.drew _)|with_reducible refine Q.trans ?_ (Q.alloc _ _))) _ 0 [] (by rfl) (vC.out _) (by omega) ?_;intro va wa ha qa ka;have xa0:=ah qa y0;have xa1:=ah qa y1;have HA:=Hd ha;have QA:=Hd qa;have KA:=Hd ka;clear ha qa ka)
     | (refine fA W (by rfl) _ _ (by rfl) (.slice (some ⟨W.heap.size+1,0,none⟩) 0 0) 0 [] (by rfl) (by first|exact pq W _ _ (Nat.le_refl _)|exact aX (pq W _ _ (Nat.le_refl _))) (by repeat (first|with_reducible exact Q.refl _|with_reducible refine Q.trans ?_ (Q.drew _)|with_reducible refine Q.trans ?_ (Q.alloc _ _))) _ 0 [] (by rfl) (vC.out _) (by omega) ?_;intro va wa ha qa ka;have xa0:=ah qa y0;have xa1:=ah qa y1;have HA:=Hd ha;have QA:=Hd qa;have KA:=Hd ka;clear ha qa ka)
     | (refine fA W (by rfl) _ _ (by rfl) va (0+0) (([]:List au)++[]) (by rfl) (by first|exact HA.out|exact aX HA.out|exact bF _ HA.out|exact aX (bF _ HA.out)) (by first|exact QA.out|exact QA.out.trans (Q.drew _)|exact QA.out.trans (Q.alloc _ _)|exact(QA.out.trans (Q.alloc _ _)).trans (Q.drew _)) (.slice (some ⟨wa.heap.size,0,none⟩) 1 1) 1 [(id,tx)] (by rfl) (by exact mW (World.alloc_heap_new _ _)) (by omega) ?_;intro vb wb2 aO qb kb;have eG:=Hd aO;have QB:=Hd qb;clear aO qb kb)
     | (refine fA W (by rfl) _ _ (by rfl) va (0+0) (([]:List au)++[]) (by rfl) (by first|exact HA.out|exact aX HA.out|exact bF _ HA.out|exact aX (bF _ HA.out)) (by first|exact QA.out|exact QA.out.trans (Q.drew _)|exact QA.out.trans (Q.alloc _ _)|exact(QA.out.trans (Q.alloc _ _)).trans (Q.drew _)) (.slice (some ⟨W.heap.size+1,0,none⟩) 1 1) 1 [(id,tx)] (by rfl) (by exact mW (KA.out _ _ (yS W (.cells #[] 47) (.cells #[ak (id,tx).1,ak (id,tx).2] 47)) (by simp[Value.ownBlock]))) (by omega) ?_;intro vb wb2 aO qb kb;have eG:=Hd aO;have QB:=Hd qb;clear aO qb kb)
     | (refine fA W (by rfl) _ _ (by rfl) va (0+0) (([]:List au)++[]) (by rfl) (by first|exact HA.out|exact aX HA.out|exact bF _ HA.out|exact aX (bF _ HA.out)) (by first|exact QA.out|exact QA.out.trans (Q.drew _)|exact QA.out.trans (Q.alloc _ _)|exact(QA.out.trans (Q.alloc _ _)).trans (Q.drew _)) (.slice (some ⟨W.heap.size,0,none⟩) 1 1) 1 [(id,tx)] (by rfl) (by exact mW (KA.out _ _ (yT W (.cells #[] 47) (.cells #[ak (id,tx).1,ak (id,tx).2] 47)) (by simp[Value.ownBlock]))) (by omega) ?_;intro vb wb2 aO qb kb;have eG:=Hd aO;have QB:=Hd qb;clear aO qb kb)
     | (refine fA W (by rfl) _ _ (by rfl) vb (0+0+1) (([]:List au)++[]++[(id,tx)]) (by rfl) (by first|exact eG.out|exact aX eG.out) (by first|exact QB.out|exact QB.out.trans (Q.drew _)) _ 0 [] (by rfl) (vC.out _) (by omega) ?_;intro vc wc dM qc kc;have rM:=Hd dM;have QC:=Hd qc;clear dM qc kc))
   all_goals
    go_wp2_with fail;go_ret;exact⟨_,rfl,dO rM.out (by omega),xO.out.trans QC.out⟩
 ·subst h1
  go_enter Tryz.func31,Tryz.ntmps31;go_wp2_with fail;generalize w.alloc (.cells #[ak id,ak tx] 47)=wb at *;generalize hBd:w.heap.size=B at *;go_loopw [5] (fun i wr=>∃k:Nat,k≤l.length∧i=.int .i64 (k:Nat)∧Hid (∀x∈l.take k,bU x.1 id=true)∧Hid (Q wb wr)) (fun i _=>l.length-(intOf i).toNat)
  case atStart=>exact⟨0,by omega,rfl,fun x hx=>by simp at hx,Q.refl _⟩
  case round =>
   obtain⟨k,hk,rfl,Lh,HQ⟩:=hrel;obtain⟨wo,rfl⟩:∃wo:World,wo=wr:=⟨_,rfl⟩;have e0:=ah HQ.out EB.out;have e1:=ah HQ.out EC.out;have gY:(0:Int)≤(k:Int):=by omega
   by_cases hgo:∃x,l[k]?=some x∧bU x.1 id=true
   ·obtain⟨x,hx,Gl⟩:=hgo
    obtain⟨hlt,KO⟩:=List.getElem?_eq_some_iff.1 hx;obtain⟨bb,oo,mU,bC⟩:=HC.out (by omega)
    cases mU;have c0:=ah (jk.out.trans HQ.out) (bC k hlt).1;rw[KO] at c0;simp only[Nat.zero_add] at c0;have ql:(k:Int)<(l.length:Int):=by omega
    have JE:decide (k<l.length)=true:=decide_eq_true hlt;have hb:Op.bytesLess x.1 id=true:=by rw[ou];exact Gl
    have EH:∀y∈l.take (k+1),bU y.1 id=true:=fun y hy=>by
     rw[List.take_succ_eq_append_getElem hlt,KO] at hy;rcases List.mem_append.1 hy with hy|hy
     ·exact Lh.out y hy
     ·rw[List.mem_singleton] at hy;subst hy;exact Gl
    have alG:=Hd EH;clear Gl EH hx KO bC;obtain⟨xid,xtx⟩:=x;simp only at c0 hb;go_wp2_with fail;go_quiet (fail);go_wp2_with fail;go_roundw;case rel=>exact⟨k+1,by omega,by go_num,alG,HQ.out.trans (Q.drewN _ _)⟩
    case measure=>simp[intOf];omega
   ·have IU:=auh.out k hk Lh.out (fun x hx=>by
     cases hl:bU x.1 id with
     | false=>rfl
     | true=>exact absurd ⟨x,hx,hl⟩ hgo)
    have ayi:(k:Int)≤(l.length:Int):=by omega
    have ayj:(k:Int)≤(cap:Int):=by omega
    have Dw:(l.length:Int)≤(cap:Int):=by omega
    by_cases hlt:k<l.length
    ·obtain⟨bb,oo,mU,bC⟩:=HC.out (by omega)
     cases mU;have c0:=ah (jk.out.trans HQ.out) (bC k hlt).1;simp only[Nat.zero_add] at c0;have Rf:l[k]?=some l[k]:=List.getElem?_eq_getElem hlt;have Gl:bU l[k].1 id=false:=by
      cases hl:bU l[k].1 id with
      | false=>rfl
      | true=>exact absurd ⟨l[k],Rf,hl⟩ hgo
     have ql:(k:Int)<(l.length:Int):=by omega
     have JE:decide (k<l.length)=true:=decide_eq_true hlt;have hb:Op.bytesLess l[k].1 id=false:=by rw[ou];exact Gl
     have U9:(0:Int)<((l.length-k:Nat):Int):=by omega
     have Qz:(∃x,l[k]?=some x∧x.1=id)↔l[k].1=id:=by
      rw[Rf];exact⟨fun ⟨x,hx,he⟩=>by cases hx;exact he,fun he=>⟨_,rfl,he⟩⟩
     have zo:¬cap=k:=by omega
     clear bC hgo Gl;generalize l[k]=x at *;obtain⟨xid,xtx⟩:=x;simp only at c0 hb Qz;by_cases he:xid=id
     ·rw[if_pos (Qz.2 he)] at IU
      have JQ:=Hd IU;subst he;clear IU Qz Rf;have xw:0<l.length-k:=by omega
      have Un:(1:Int)≤((l.length-k:Nat):Int):=by omega
      have hp3:((l.length-k:Nat):Int)≤((cap-k:Nat):Int):=by omega
      have hp4:1≤l.length-k:=by omega
      have hp5:1≤cap-k:=by omega
      by_cases gX:cap-k=1
      ·skip
       go_wp2_with fail;go_quiet (fail);go_wp2_with fail;go_quiet (fail);go_wp2_with fail;refine Dj (wo:=wo) (by first|exact Q.drewN _ _|exact Q.trans (Q.drewN _ _) (Q.drewN _ _)) (fun W kF=>?_)
       have y0:=ah kF e0;have y1:=ah kF e1;have Bc:∀V,Q W V→Docs V (.slice (some ⟨g,0,none⟩) l.length cap) l:=fun V q=>Sl.stays yG.out (((jk.out.trans HQ.out).trans kF).trans q)
       have sl1:∀V,Q W V→Sl V (.slice (some ⟨g,0,none⟩) k cap) k 2 (bK (l.take k)):=fun V q=>by
        have:=FB (Bc V q) k hk;rw[BF] at this;exact this
       have sl2:∀V (c:Nat),Q W V→Sl V (.slice (some ⟨g,k*2,none⟩) (l.length-k-1) c) (l.length-k-1) 2 (bK (l.drop (k+1))):=fun V c q=>by
        have e1:l.length-k-1=0:=by omega
        have e2:l.drop (k+1)=[]:=List.drop_eq_nil_of_le (by omega)
        rw[e1,e2];exact Jc V _ _ _
       have dR:∀(v:Value) (V:World),V.ownsRow W.heap.size 47 2 v (0+k+1+(l.length-k-1)) (bK ([]++l.take k++[(xid,tx)]++l.drop (k+1)))→V.ownsRow w.heap.size 47 2 v (fP (xid,tx) l).length (bK (fP (xid,tx) l)):=fun v V h=>by
        have e:[]++l.take k++[(xid,tx)]++l.drop (k+1)=fP (xid,tx) l:=by rw[JQ.out];simp
        rw[e] at h;have e2:0+k+1+(l.length-k-1)=(fP (xid,tx) l).length:=by rw[JQ.out];simp;omega
        rw[e2] at h;exact dO h (((jk.out.trans HQ.out).trans kF).size)
       have vC:=Hd sl1;have Iu:=Hd sl2;have oV:=Hd dR;have xO:=Hd ((jk.out.trans HQ.out).trans kF);clear sl1 sl2 dR kF Bc e0 e1;try clear c0
       try clear hb
       try clear zI zJ zK
       have xe0:=ah (Q.alloc W (.cells #[] 47)) y0;have xe1:=ah (Q.alloc W (.cells #[] 47)) y1;go_region_law
        (first
         | (refine fA W (by rfl) _ _ (by rfl) (.slice (some ⟨W.heap.size,0,none⟩) 0 0) 0 [] (by rfl) (by first|exact gy W _ (Nat.le_refl _)|exact aX (gy W _ (Nat.le_refl _))|exact bF _ (gy W _ (Nat.le_refl _))|exact aX (bF _ (gy W _ (Nat.le_refl _)))) (by repeat (first|with_reducible exact Q.refl _|with_reducible refine Q.trans ?_ (Q.drew _)|with_reducible refine Q.trans ?_ (Q.alloc _ _))) _ k (l.take k) (by rfl) (vC.out _ (by repeat (first|with_reducible exact Q.refl _|with_reducible refine Q.trans ?_ (Q.drew _)|with_reducible refine Q.trans ?_ (Q.alloc _ _)))) (by omega) ?_;intro va wa ha qa ka;have xa0:=ah qa y0;have xa1:=ah qa y1;have HA:=Hd ha;have QA:=Hd qa;have KA:=Hd ka;clear ha qa ka)
         | (refine fA W (by rfl) _ _ (by rfl) (.slice (some ⟨W.heap.size+1,0,none⟩) 0 0) 0 [] (by rfl) (by first|exact pq W _ _ (Nat.le_refl _)|exact aX (pq W _ _ (Nat.le_refl _))) (by repeat (first|with_reducible exact Q.refl _|with_reducible refine Q.trans ?_ (Q.drew _)|with_reducible refine Q.trans ?_ (Q.alloc _ _))) _ k (l.take k) (by rfl) (vC.out _ (by repeat (first|with_reducible exact Q.refl _|with_reducible refine Q.trans ?_ (Q.drew _)|with_reducible refine Q.trans ?_ (Q.alloc _ _)))) (by omega) ?_;intro va wa ha qa ka;have xa0:=ah qa y0;have xa1:=ah qa y1;have HA:=Hd ha;have QA:=Hd qa;have KA:=Hd ka;clear ha qa ka)
         | (refine fA W (by rfl) _ _ (by rfl) va (0+k) ([]++l.take k) (by rfl) (by first|exact HA.out|exact aX HA.out|exact bF _ HA.out|exact aX (bF _ HA.out)) (by first|exact QA.out|exact QA.out.trans (Q.drew _)|exact QA.out.trans (Q.alloc _ _)|exact(QA.out.trans (Q.alloc _ _)).trans (Q.drew _)) (.slice (some ⟨wa.heap.size,0,none⟩) 1 1) 1 [(xid,tx)] (by rfl) (by exact mW (World.alloc_heap_new _ _)) (by omega) ?_;intro vb wb2 aO qb kb;have eG:=Hd aO;have QB:=Hd qb;clear aO qb kb)
         | (refine fA W (by rfl) _ _ (by rfl) va (0+k) ([]++l.take k) (by rfl) (by first|exact HA.out|exact aX HA.out|exact bF _ HA.out|exact aX (bF _ HA.out)) (by first|exact QA.out|exact QA.out.trans (Q.drew _)|exact QA.out.trans (Q.alloc _ _)|exact(QA.out.trans (Q.alloc _ _)).trans (Q.drew _)) (.slice (some ⟨W.heap.size+1,0,none⟩) 1 1) 1 [(xid,tx)] (by rfl) (by exact mW (KA.out _ _ (yS W (.cells #[] 47) (.cells #[ak (xid,tx).1,ak (xid,tx).2] 47)) (by simp[Value.ownBlock]))) (by omega) ?_;intro vb wb2 aO qb kb;have eG:=Hd aO;have QB:=Hd qb;clear aO qb kb)
         | (refine fA W (by rfl) _ _ (by rfl) va (0+k) ([]++l.take k) (by rfl) (by first|exact HA.out|exact aX HA.out|exact bF _ HA.out|exact aX (bF _ HA.out)) (by first|exact QA.out|exact QA.out.trans (Q.drew _)|exact QA.out.trans (Q.alloc _ _)|exact(QA.out.trans (Q.alloc _ _)).trans (Q.drew _)) (.slice (some ⟨W.heap.size,0,none⟩) 1 1) 1 [(xid,tx)] (by rfl) (by exact mW (KA.out _ _ (yT W (.cells #[] 47) (.cells #[ak (xid,tx).1,ak (xid,tx).2] 47)) (by simp[Value.ownBlock]))) (by omega) ?_;intro vb wb2 aO qb kb;have eG:=Hd aO;have QB:=Hd qb;clear aO qb kb)
         | (refine fA W (by rfl) _ _ (by rfl) vb (0+k+1) ([]++l.take k++[(xid,tx)]) (by rfl) (by first|exact eG.out|exact aX eG.out) (by first|exact QB.out|exact QB.out.trans (Q.drew _)) _ (l.length-k-1) (l.drop (k+1)) (by rfl) (Iu.out _ _ (by first|exact QB.out|exact QB.out.trans (Q.drew _))) (by omega) ?_;intro vc wc dM qc kc;have rM:=Hd dM;have QC:=Hd qc;clear dM qc kc))
       all_goals
        go_wp2_with fail;go_ret;exact⟨_,rfl,oV.out _ _ rM.out,xO.out.trans QC.out⟩
      ·skip
       go_wp2_with fail;go_quiet (fail);go_wp2_with fail;go_quiet (fail);go_wp2_with fail;refine Dj (wo:=wo) (by first|exact Q.drewN _ _|exact Q.trans (Q.drewN _ _) (Q.drewN _ _)) (fun W kF=>?_)
       have y0:=ah kF e0;have y1:=ah kF e1;have Bc:∀V,Q W V→Docs V (.slice (some ⟨g,0,none⟩) l.length cap) l:=fun V q=>Sl.stays yG.out (((jk.out.trans HQ.out).trans kF).trans q)
       have sl1:∀V,Q W V→Sl V (.slice (some ⟨g,0,none⟩) k cap) k 2 (bK (l.take k)):=fun V q=>by
        have:=FB (Bc V q) k hk;rw[BF] at this;exact this
       have sl2:∀V (c:Nat),Q W V→Sl V (.slice (some ⟨g,k*2+2,none⟩) (l.length-k-1) c) (l.length-k-1) 2 (bK (l.drop (k+1))):=fun V c q=>by
        have:=MW (Bc V q) (k+1) (by omega) (k*2+2) c (by omega)
        rw[TS,show l.length-(k+1)=l.length-k-1 by omega] at this;exact this
       have dR:∀(v:Value) (V:World),V.ownsRow W.heap.size 47 2 v (0+k+1+(l.length-k-1)) (bK ([]++l.take k++[(xid,tx)]++l.drop (k+1)))→V.ownsRow w.heap.size 47 2 v (fP (xid,tx) l).length (bK (fP (xid,tx) l)):=fun v V h=>by
        have e:[]++l.take k++[(xid,tx)]++l.drop (k+1)=fP (xid,tx) l:=by rw[JQ.out];simp
        rw[e] at h;have e2:0+k+1+(l.length-k-1)=(fP (xid,tx) l).length:=by rw[JQ.out];simp;omega
        rw[e2] at h;exact dO h (((jk.out.trans HQ.out).trans kF).size)
       have vC:=Hd sl1;have Iu:=Hd sl2;have oV:=Hd dR;have xO:=Hd ((jk.out.trans HQ.out).trans kF);clear sl1 sl2 dR kF Bc e0 e1;try clear c0
       try clear hb
       try clear zI zJ zK
       have xe0:=ah (Q.alloc W (.cells #[] 47)) y0;have xe1:=ah (Q.alloc W (.cells #[] 47)) y1;go_region_law
        (first
         | (refine fA W (by rfl) _ _ (by rfl) (.slice (some ⟨W.heap.size,0,none⟩) 0 0) 0 [] (by rfl) (by first|exact gy W _ (Nat.le_refl _)|exact aX (gy W _ (Nat.le_refl _))|exact bF _ (gy W _ (Nat.le_refl _))|exact aX (bF _ (gy W _ (Nat.le_refl _)))) (by repeat (first|with_reducible exact Q.refl _|with_reducible refine Q.trans ?_ (Q.drew _)|with_reducible refine Q.trans ?_ (Q.alloc _ _))) _ k (l.take k) (by rfl) (vC.out _ (by repeat (first|with_reducible exact Q.refl _|with_reducible refine Q.trans ?_ (Q.drew _)|with_reducible refine Q.trans ?_ (Q.alloc _ _)))) (by omega) ?_;intro va wa ha qa ka;have xa0:=ah qa y0;have xa1:=ah qa y1;have HA:=Hd ha;have QA:=Hd qa;have KA:=Hd ka;clear ha qa ka)
         | (refine fA W (by rfl) _ _ (by rfl) (.slice (some ⟨W.heap.size+1,0,none⟩) 0 0) 0 [] (by rfl) (by first|exact pq W _ _ (Nat.le_refl _)|exact aX (pq W _ _ (Nat.le_refl _))) (by repeat (first|with_reducible exact Q.refl _|with_reducible refine Q.trans ?_ (Q.drew _)|with_reducible refine Q.trans ?_ (Q.alloc _ _))) _ k (l.take k) (by rfl) (vC.out _ (by repeat (first|with_reducible exact Q.refl _|with_reducible refine Q.trans ?_ (Q.drew _)|with_reducible refine Q.trans ?_ (Q.alloc _ _)))) (by omega) ?_;intro va wa ha qa ka;have xa0:=ah qa y0;have xa1:=ah qa y1;have HA:=Hd ha;have QA:=Hd qa;have KA:=Hd ka;clear ha qa ka)
         | (refine fA W (by rfl) _ _ (by rfl) va (0+k) ([]++l.take k) (by rfl) (by first|exact HA.out|exact aX HA.out|exact bF _ HA.out|exact aX (bF _ HA.out)) (by first|exact QA.out|exact QA.out.trans (Q.drew _)|exact QA.out.trans (Q.alloc _ _)|exact(QA.out.trans (Q.alloc _ _)).trans (Q.drew _)) (.slice (some ⟨wa.heap.size,0,none⟩) 1 1) 1 [(xid,tx)] (by rfl) (by exact mW (World.alloc_heap_new _ _)) (by omega) ?_;intro vb wb2 aO qb kb;have eG:=Hd aO;have QB:=Hd qb;clear aO qb kb)
         | (refine fA W (by rfl) _ _ (by rfl) va (0+k) ([]++l.take k) (by rfl) (by first|exact HA.out|exact aX HA.out|exact bF _ HA.out|exact aX (bF _ HA.out)) (by first|exact QA.out|exact QA.out.trans (Q.drew _)|exact QA.out.trans (Q.alloc _ _)|exact(QA.out.trans (Q.alloc _ _)).trans (Q.drew _)) (.slice (some ⟨W.heap.size+1,0,none⟩) 1 1) 1 [(xid,tx)] (by rfl) (by exact mW (KA.out _ _ (yS W (.cells #[] 47) (.cells #[ak (xid,tx).1,ak (xid,tx).2] 47)) (by simp[Value.ownBlock]))) (by omega) ?_;intro vb wb2 aO qb kb;have eG:=Hd aO;have QB:=Hd qb;clear aO qb kb)
         | (refine fA W (by rfl) _ _ (by rfl) va (0+k) ([]++l.take k) (by rfl) (by first|exact HA.out|exact aX HA.out|exact bF _ HA.out|exact aX (bF _ HA.out)) (by first|exact QA.out|exact QA.out.trans (Q.drew _)|exact QA.out.trans (Q.alloc _ _)|exact(QA.out.trans (Q.alloc _ _)).trans (Q.drew _)) (.slice (some ⟨W.heap.size,0,none⟩) 1 1) 1 [(xid,tx)] (by rfl) (by exact mW (KA.out _ _ (yT W (.cells #[] 47) (.cells #[ak (xid,tx).1,ak (xid,tx).2] 47)) (by simp[Value.ownBlock]))) (by omega) ?_;intro vb wb2 aO qb kb;have eG:=Hd aO;have QB:=Hd qb;clear aO qb kb)
         | (refine fA W (by rfl) _ _ (by rfl) vb (0+k+1) ([]++l.take k++[(xid,tx)]) (by rfl) (by first|exact eG.out|exact aX eG.out) (by first|exact QB.out|exact QB.out.trans (Q.drew _)) _ (l.length-k-1) (l.drop (k+1)) (by rfl) (Iu.out _ _ (by first|exact QB.out|exact QB.out.trans (Q.drew _))) (by omega) ?_;intro vc wc dM qc kc;have rM:=Hd dM;have QC:=Hd qc;clear dM qc kc))
       all_goals
        go_wp2_with fail;go_ret;exact⟨_,rfl,oV.out _ _ rM.out,xO.out.trans QC.out⟩
     ·rw[if_neg (fun h=>he (Qz.1 h))] at IU
      have zI:(xid==id)=false:=by simpa using he
      have zJ:@BEq.beq (List UInt8) instBEqOfDecidableEq xid id=false:=by simpa using he
      have zK:@BEq.beq (List UInt8) List.instBEq xid id=false:=by simpa using he
      have JQ:=Hd IU;have xw:0<l.length-k:=by omega
      clear IU Qz Rf he;go_wp2_with fail;go_quiet (fail);go_wp2_with fail;go_quiet (fail);go_wp2_with fail;refine Dj (wo:=wo) (by first|exact Q.drewN _ _|exact Q.trans (Q.drewN _ _) (Q.drewN _ _)) (fun W kF=>?_)
      have y0:=ah kF e0;have y1:=ah kF e1;have Bc:∀V,Q W V→Docs V (.slice (some ⟨g,0,none⟩) l.length cap) l:=fun V q=>Sl.stays yG.out (((jk.out.trans HQ.out).trans kF).trans q)
      have sl1:∀V,Q W V→Sl V (.slice (some ⟨g,0,none⟩) k cap) k 2 (bK (l.take k)):=fun V q=>by
       have:=FB (Bc V q) k hk;rw[BF] at this;exact this
      have sl2:∀V (c:Nat),Q W V→Sl V (.slice (some ⟨g,k*2,none⟩) (l.length-k) c) (l.length-k) 2 (bK (l.drop k)):=fun V c q=>by
       have:=MW (Bc V q) k hk (k*2) c (by omega)
       rw[TS] at this;exact this
      have dR:∀(v:Value) (V:World),V.ownsRow W.heap.size 47 2 v (0+k+1+(l.length-k)) (bK ([]++l.take k++[(id,tx)]++l.drop k))→V.ownsRow w.heap.size 47 2 v (fP (id,tx) l).length (bK (fP (id,tx) l)):=fun v V h=>by
       have e:[]++l.take k++[(id,tx)]++l.drop k=fP (id,tx) l:=by rw[JQ.out];simp
       rw[e] at h;have e2:0+k+1+(l.length-k)=(fP (id,tx) l).length:=by rw[JQ.out];simp;omega
       rw[e2] at h;exact dO h (((jk.out.trans HQ.out).trans kF).size)
      have vC:=Hd sl1;have Iu:=Hd sl2;have oV:=Hd dR;have xO:=Hd ((jk.out.trans HQ.out).trans kF);clear sl1 sl2 dR kF Bc e0 e1;try clear c0
      try clear hb
      try clear zI zJ zK
      have xe0:=ah (Q.alloc W (.cells #[] 47)) y0;have xe1:=ah (Q.alloc W (.cells #[] 47)) y1;go_region_law
       (first
        | (refine fA W (by rfl) _ _ (by rfl) (.slice (some ⟨W.heap.size,0,none⟩) 0 0) 0 [] (by rfl) (by first|exact gy W _ (Nat.le_refl _)|exact aX (gy W _ (Nat.le_refl _))|exact bF _ (gy W _ (Nat.le_refl _))|exact aX (bF _ (gy W _ (Nat.le_refl _)))) (by repeat (first|with_reducible exact Q.refl _|with_reducible refine Q.trans ?_ (Q.drew _)|with_reducible refine Q.trans ?_ (Q.alloc _ _))) _ k (l.take k) (by rfl) (vC.out _ (by repeat (first|with_reducible exact Q.refl _|with_reducible refine Q.trans ?_ (Q.drew _)|with_reducible refine Q.trans ?_ (Q.alloc _ _)))) (by omega) ?_;intro va wa ha qa ka;have xa0:=ah qa y0;have xa1:=ah qa y1;have HA:=Hd ha;have QA:=Hd qa;have KA:=Hd ka;clear ha qa ka)
        | (refine fA W (by rfl) _ _ (by rfl) (.slice (some ⟨W.heap.size+1,0,none⟩) 0 0) 0 [] (by rfl) (by first|exact pq W _ _ (Nat.le_refl _)|exact aX (pq W _ _ (Nat.le_refl _))) (by repeat (first|with_reducible exact Q.refl _|with_reducible refine Q.trans ?_ (Q.drew _)|with_reducible refine Q.trans ?_ (Q.alloc _ _))) _ k (l.take k) (by rfl) (vC.out _ (by repeat (first|with_reducible exact Q.refl _|with_reducible refine Q.trans ?_ (Q.drew _)|with_reducible refine Q.trans ?_ (Q.alloc _ _)))) (by omega) ?_;intro va wa ha qa ka;have xa0:=ah qa y0;have xa1:=ah qa y1;have HA:=Hd ha;have QA:=Hd qa;have KA:=Hd ka;clear ha qa ka)
        | (refine fA W (by rfl) _ _ (by rfl) va (0+k) ([]++l.take k) (by rfl) (by first|exact HA.out|exact aX HA.out|exact bF _ HA.out|exact aX (bF _ HA.out)) (by first|exact QA.out|exact QA.out.trans (Q.drew _)|exact QA.out.trans (Q.alloc _ _)|exact(QA.out.trans (Q.alloc _ _)).trans (Q.drew _)) (.slice (some ⟨wa.heap.size,0,none⟩) 1 1) 1 [(id,tx)] (by rfl) (by exact mW (World.alloc_heap_new _ _)) (by omega) ?_;intro vb wb2 aO qb kb;have eG:=Hd aO;have QB:=Hd qb;clear aO qb kb)
        | (refine fA W (by rfl) _ _ (by rfl) va (0+k) ([]++l.take k) (by rfl) (by first|exact HA.out|exact aX HA.out|exact bF _ HA.out|exact aX (bF _ HA.out)) (by first|exact QA.out|exact QA.out.trans (Q.drew _)|exact QA.out.trans (Q.alloc _ _)|exact(QA.out.trans (Q.alloc _ _)).trans (Q.drew _)) (.slice (some ⟨W.heap.size+1,0,none⟩) 1 1) 1 [(id,tx)] (by rfl) (by exact mW (KA.out _ _ (yS W (.cells #[] 47) (.cells #[ak (id,tx).1,ak (id,tx).2] 47)) (by simp[Value.ownBlock]))) (by omega) ?_;intro vb wb2 aO qb kb;have eG:=Hd aO;have QB:=Hd qb;clear aO qb kb)
        | (refine fA W (by rfl) _ _ (by rfl) va (0+k) ([]++l.take k) (by rfl) (by first|exact HA.out|exact aX HA.out|exact bF _ HA.out|exact aX (bF _ HA.out)) (by first|exact QA.out|exact QA.out.trans (Q.drew _)|exact QA.out.trans (Q.alloc _ _)|exact(QA.out.trans (Q.alloc _ _)).trans (Q.drew _)) (.slice (some ⟨W.heap.size,0,none⟩) 1 1) 1 [(id,tx)] (by rfl) (by exact mW (KA.out _ _ (yT W (.cells #[] 47) (.cells #[ak (id,tx).1,ak (id,tx).2] 47)) (by simp[Value.ownBlock]))) (by omega) ?_;intro vb wb2 aO qb kb;have eG:=Hd aO;have QB:=Hd qb;clear aO qb kb)
        | (refine fA W (by rfl) _ _ (by rfl) vb (0+k+1) ([]++l.take k++[(id,tx)]) (by rfl) (by first|exact eG.out|exact aX eG.out) (by first|exact QB.out|exact QB.out.trans (Q.drew _)) _ (l.length-k) (l.drop k) (by rfl) (Iu.out _ _ (by first|exact QB.out|exact QB.out.trans (Q.drew _))) (by omega) ?_;intro vc wc dM qc kc;have rM:=Hd dM;have QC:=Hd qc;clear dM qc kc))
      all_goals
       go_wp2_with fail;go_ret;exact⟨_,rfl,oV.out _ _ rM.out,xO.out.trans QC.out⟩
    ·have rP:k=l.length:=by omega
     have yw:l[k]?=none:=List.getElem?_eq_none (by omega)
     rw[if_neg (by rw[yw];rintro⟨x,hx,_⟩;cases hx)] at IU
     have JQ:=Hd IU;have Du:=Hd rP;have JE:decide (k<l.length)=false:=decide_eq_false hlt;have ql:¬(k:Int)<(l.length:Int):=by omega
     clear IU hgo yw rP;by_cases KT:cap=k
     ·have aui:=KT.symm
      subst aui;go_wp2_with fail;go_quiet (fail);go_wp2_with fail;go_quiet (fail);go_wp2_with fail;refine Dj (wo:=wo) (by first|exact Q.drewN _ _|exact Q.trans (Q.drewN _ _) (Q.drewN _ _)) (fun W kF=>?_)
      have y0:=ah kF e0;have y1:=ah kF e1;have Bc:∀V,Q W V→Docs V (.slice (some ⟨g,0,none⟩) l.length k) l:=fun V q=>Sl.stays yG.out (((jk.out.trans HQ.out).trans kF).trans q)
      have sl1:∀V,Q W V→Sl V (.slice (some ⟨g,0,none⟩) k k) k 2 (bK (l.take k)):=fun V q=>by
       have:=FB (Bc V q) k hk;rw[BF] at this;exact this
      have sl2:∀V (A:Option Addr) (c:Nat),Q W V→Sl V (.slice A 0 c) 0 2 (bK (l.drop k)):=fun V A c q=>by
       rw[List.drop_eq_nil_of_le (by have:=Du.out;omega)];exact Jc V _ _ _
      have dR:∀(v:Value) (V:World),V.ownsRow W.heap.size 47 2 v (0+k+1+0) (bK ([]++l.take k++[(id,tx)]++l.drop k))→V.ownsRow w.heap.size 47 2 v (fP (id,tx) l).length (bK (fP (id,tx) l)):=fun v V h=>by
       have e:[]++l.take k++[(id,tx)]++l.drop k=fP (id,tx) l:=by rw[JQ.out];simp
       rw[e] at h;have e2:0+k+1+0=(fP (id,tx) l).length:=by rw[JQ.out];have:=Du.out;simp;omega
       rw[e2] at h;exact dO h (((jk.out.trans HQ.out).trans kF).size)
      have vC:=Hd sl1;have Iu:=Hd sl2;have oV:=Hd dR;have xO:=Hd ((jk.out.trans HQ.out).trans kF);clear sl1 sl2 dR kF Bc e0 e1;try clear c0
      try clear hb
      try clear zI zJ zK
      have xe0:=ah (Q.alloc W (.cells #[] 47)) y0;have xe1:=ah (Q.alloc W (.cells #[] 47)) y1;go_region_law
       (first
        | (refine fA W (by rfl) _ _ (by rfl) (.slice (some ⟨W.heap.size,0,none⟩) 0 0) 0 [] (by rfl) (by first|exact gy W _ (Nat.le_refl _)|exact aX (gy W _ (Nat.le_refl _))|exact bF _ (gy W _ (Nat.le_refl _))|exact aX (bF _ (gy W _ (Nat.le_refl _)))) (by repeat (first|with_reducible exact Q.refl _|with_reducible refine Q.trans ?_ (Q.drew _)|with_reducible refine Q.trans ?_ (Q.alloc _ _))) _ k (l.take k) (by rfl) (vC.out _ (by repeat (first|with_reducible exact Q.refl _|with_reducible refine Q.trans ?_ (Q.drew _)|with_reducible refine Q.trans ?_ (Q.alloc _ _)))) (by omega) ?_;intro va wa ha qa ka;have xa0:=ah qa y0;have xa1:=ah qa y1;have HA:=Hd ha;have QA:=Hd qa;have KA:=Hd ka;clear ha qa ka)
        | (refine fA W (by rfl) _ _ (by rfl) (.slice (some ⟨W.heap.size+1,0,none⟩) 0 0) 0 [] (by rfl) (by first|exact pq W _ _ (Nat.le_refl _)|exact aX (pq W _ _ (Nat.le_refl _))) (by repeat (first|with_reducible exact Q.refl _|with_reducible refine Q.trans ?_ (Q.drew _)|with_reducible refine Q.trans ?_ (Q.alloc _ _))) _ k (l.take k) (by rfl) (vC.out _ (by repeat (first|with_reducible exact Q.refl _|with_reducible refine Q.trans ?_ (Q.drew _)|with_reducible refine Q.trans ?_ (Q.alloc _ _)))) (by omega) ?_;intro va wa ha qa ka;have xa0:=ah qa y0;have xa1:=ah qa y1;have HA:=Hd ha;have QA:=Hd qa;have KA:=Hd ka;clear ha qa ka)
        | (refine fA W (by rfl) _ _ (by rfl) va (0+k) ([]++l.take k) (by rfl) (by first|exact HA.out|exact aX HA.out|exact bF _ HA.out|exact aX (bF _ HA.out)) (by first|exact QA.out|exact QA.out.trans (Q.drew _)|exact QA.out.trans (Q.alloc _ _)|exact(QA.out.trans (Q.alloc _ _)).trans (Q.drew _)) (.slice (some ⟨wa.heap.size,0,none⟩) 1 1) 1 [(id,tx)] (by rfl) (by exact mW (World.alloc_heap_new _ _)) (by omega) ?_;intro vb wb2 aO qb kb;have eG:=Hd aO;have QB:=Hd qb;clear aO qb kb)
        | (refine fA W (by rfl) _ _ (by rfl) va (0+k) ([]++l.take k) (by rfl) (by first|exact HA.out|exact aX HA.out|exact bF _ HA.out|exact aX (bF _ HA.out)) (by first|exact QA.out|exact QA.out.trans (Q.drew _)|exact QA.out.trans (Q.alloc _ _)|exact(QA.out.trans (Q.alloc _ _)).trans (Q.drew _)) (.slice (some ⟨W.heap.size+1,0,none⟩) 1 1) 1 [(id,tx)] (by rfl) (by exact mW (KA.out _ _ (yS W (.cells #[] 47) (.cells #[ak (id,tx).1,ak (id,tx).2] 47)) (by simp[Value.ownBlock]))) (by omega) ?_;intro vb wb2 aO qb kb;have eG:=Hd aO;have QB:=Hd qb;clear aO qb kb)
        | (refine fA W (by rfl) _ _ (by rfl) va (0+k) ([]++l.take k) (by rfl) (by first|exact HA.out|exact aX HA.out|exact bF _ HA.out|exact aX (bF _ HA.out)) (by first|exact QA.out|exact QA.out.trans (Q.drew _)|exact QA.out.trans (Q.alloc _ _)|exact(QA.out.trans (Q.alloc _ _)).trans (Q.drew _)) (.slice (some ⟨W.heap.size,0,none⟩) 1 1) 1 [(id,tx)] (by rfl) (by exact mW (KA.out _ _ (yT W (.cells #[] 47) (.cells #[ak (id,tx).1,ak (id,tx).2] 47)) (by simp[Value.ownBlock]))) (by omega) ?_;intro vb wb2 aO qb kb;have eG:=Hd aO;have QB:=Hd qb;clear aO qb kb)
        | (refine fA W (by rfl) _ _ (by rfl) vb (0+k+1) ([]++l.take k++[(id,tx)]) (by rfl) (by first|exact eG.out|exact aX eG.out) (by first|exact QB.out|exact QB.out.trans (Q.drew _)) _ 0 (l.drop k) (by rfl) (Iu.out _ _ _ (by first|exact QB.out|exact QB.out.trans (Q.drew _))) (by omega) ?_;intro vc wc dM qc kc;have rM:=Hd dM;have QC:=Hd qc;clear dM qc kc))
      all_goals
       go_wp2_with fail;go_ret;exact⟨_,rfl,oV.out _ _ rM.out,xO.out.trans QC.out⟩
     ·have zo:¬cap=k:=KT
      have hz:l.length-k=0:=by omega
      go_wp2_with fail;go_quiet (fail);go_wp2_with fail;go_quiet (fail);go_wp2_with fail;refine Dj (wo:=wo) (by first|exact Q.drewN _ _|exact Q.trans (Q.drewN _ _) (Q.drewN _ _)) (fun W kF=>?_)
      have y0:=ah kF e0;have y1:=ah kF e1;have Bc:∀V,Q W V→Docs V (.slice (some ⟨g,0,none⟩) l.length cap) l:=fun V q=>Sl.stays yG.out (((jk.out.trans HQ.out).trans kF).trans q)
      have sl1:∀V,Q W V→Sl V (.slice (some ⟨g,0,none⟩) k cap) k 2 (bK (l.take k)):=fun V q=>by
       have:=FB (Bc V q) k hk;rw[BF] at this;exact this
      have sl2:∀V (A:Option Addr) (c:Nat),Q W V→Sl V (.slice A 0 c) 0 2 (bK (l.drop k)):=fun V A c q=>by
       rw[List.drop_eq_nil_of_le (by have:=Du.out;omega)];exact Jc V _ _ _
      have dR:∀(v:Value) (V:World),V.ownsRow W.heap.size 47 2 v (0+k+1+0) (bK ([]++l.take k++[(id,tx)]++l.drop k))→V.ownsRow w.heap.size 47 2 v (fP (id,tx) l).length (bK (fP (id,tx) l)):=fun v V h=>by
       have e:[]++l.take k++[(id,tx)]++l.drop k=fP (id,tx) l:=by rw[JQ.out];simp
       rw[e] at h;have e2:0+k+1+0=(fP (id,tx) l).length:=by rw[JQ.out];have:=Du.out;simp;omega
       rw[e2] at h;exact dO h (((jk.out.trans HQ.out).trans kF).size)
      have vC:=Hd sl1;have Iu:=Hd sl2;have oV:=Hd dR;have xO:=Hd ((jk.out.trans HQ.out).trans kF);clear sl1 sl2 dR kF Bc e0 e1;try clear c0
      try clear hb
      try clear zI zJ zK
      have xe0:=ah (Q.alloc W (.cells #[] 47)) y0;have xe1:=ah (Q.alloc W (.cells #[] 47)) y1;go_region_law
       (first
        | (refine fA W (by rfl) _ _ (by rfl) (.slice (some ⟨W.heap.size,0,none⟩) 0 0) 0 [] (by rfl) (by first|exact gy W _ (Nat.le_refl _)|exact aX (gy W _ (Nat.le_refl _))|exact bF _ (gy W _ (Nat.le_refl _))|exact aX (bF _ (gy W _ (Nat.le_refl _)))) (by repeat (first|with_reducible exact Q.refl _|with_reducible refine Q.trans ?_ (Q.drew _)|with_reducible refine Q.trans ?_ (Q.alloc _ _))) _ k (l.take k) (by rfl) (vC.out _ (by repeat (first|with_reducible exact Q.refl _|with_reducible refine Q.trans ?_ (Q.drew _)|with_reducible refine Q.trans ?_ (Q.alloc _ _)))) (by omega) ?_;intro va wa ha qa ka;have xa0:=ah qa y0;have xa1:=ah qa y1;have HA:=Hd ha;have QA:=Hd qa;have KA:=Hd ka;clear ha qa ka)
        | (refine fA W (by rfl) _ _ (by rfl) (.slice (some ⟨W.heap.size+1,0,none⟩) 0 0) 0 [] (by rfl) (by first|exact pq W _ _ (Nat.le_refl _)|exact aX (pq W _ _ (Nat.le_refl _))) (by repeat (first|with_reducible exact Q.refl _|with_reducible refine Q.trans ?_ (Q.drew _)|with_reducible refine Q.trans ?_ (Q.alloc _ _))) _ k (l.take k) (by rfl) (vC.out _ (by repeat (first|with_reducible exact Q.refl _|with_reducible refine Q.trans ?_ (Q.drew _)|with_reducible refine Q.trans ?_ (Q.alloc _ _)))) (by omega) ?_;intro va wa ha qa ka;have xa0:=ah qa y0;have xa1:=ah qa y1;have HA:=Hd ha;have QA:=Hd qa;have KA:=Hd ka;clear ha qa ka)
        | (refine fA W (by rfl) _ _ (by rfl) va (0+k) ([]++l.take k) (by rfl) (by first|exact HA.out|exact aX HA.out|exact bF _ HA.out|exact aX (bF _ HA.out)) (by first|exact QA.out|exact QA.out.trans (Q.drew _)|exact QA.out.trans (Q.alloc _ _)|exact(QA.out.trans (Q.alloc _ _)).trans (Q.drew _)) (.slice (some ⟨wa.heap.size,0,none⟩) 1 1) 1 [(id,tx)] (by rfl) (by exact mW (World.alloc_heap_new _ _)) (by omega) ?_;intro vb wb2 aO qb kb;have eG:=Hd aO;have QB:=Hd qb;clear aO qb kb)
        | (refine fA W (by rfl) _ _ (by rfl) va (0+k) ([]++l.take k) (by rfl) (by first|exact HA.out|exact aX HA.out|exact bF _ HA.out|exact aX (bF _ HA.out)) (by first|exact QA.out|exact QA.out.trans (Q.drew _)|exact QA.out.trans (Q.alloc _ _)|exact(QA.out.trans (Q.alloc _ _)).trans (Q.drew _)) (.slice (some ⟨W.heap.size+1,0,none⟩) 1 1) 1 [(id,tx)] (by rfl) (by exact mW (KA.out _ _ (yS W (.cells #[] 47) (.cells #[ak (id,tx).1,ak (id,tx).2] 47)) (by simp[Value.ownBlock]))) (by omega) ?_;intro vb wb2 aO qb kb;have eG:=Hd aO;have QB:=Hd qb;clear aO qb kb)
        | (refine fA W (by rfl) _ _ (by rfl) va (0+k) ([]++l.take k) (by rfl) (by first|exact HA.out|exact aX HA.out|exact bF _ HA.out|exact aX (bF _ HA.out)) (by first|exact QA.out|exact QA.out.trans (Q.drew _)|exact QA.out.trans (Q.alloc _ _)|exact(QA.out.trans (Q.alloc _ _)).trans (Q.drew _)) (.slice (some ⟨W.heap.size,0,none⟩) 1 1) 1 [(id,tx)] (by rfl) (by exact mW (KA.out _ _ (yT W (.cells #[] 47) (.cells #[ak (id,tx).1,ak (id,tx).2] 47)) (by simp[Value.ownBlock]))) (by omega) ?_;intro vb wb2 aO qb kb;have eG:=Hd aO;have QB:=Hd qb;clear aO qb kb)
        | (refine fA W (by rfl) _ _ (by rfl) vb (0+k+1) ([]++l.take k++[(id,tx)]) (by rfl) (by first|exact eG.out|exact aX eG.out) (by first|exact QB.out|exact QB.out.trans (Q.drew _)) _ 0 (l.drop k) (by rfl) (Iu.out _ _ _ (by first|exact QB.out|exact QB.out.trans (Q.drew _))) (by omega) ?_;intro vc wc dM qc kc;have rM:=Hd dM;have QC:=Hd qc;clear dM qc kc))
      all_goals
       go_wp2_with fail;go_ret;exact⟨_,rfl,oV.out _ _ rM.out,xO.out.trans QC.out⟩
abbrev uP(l:List Bool):List Value:=l.map fun b=>.bool b
def Bools(w:World)(v:Value)(l:List Bool):Prop:=Sl w v l.length 1 (uP l)
theorem Bools.stays{w w':World}{v:Value}{l:List Bool}(h:Bools w v l)(q:Q w w'):Bools w' v l:=Sl.stays h q
theorem Bools.value{w:World}{v:Value}{l:List Bool}(h:Bools w v l):∃a cap,v=.slice a l.length cap∧(0<l.length→∃b off,a=some ⟨b,off,none⟩∧∀j (hj:j<l.length),w.cell? ⟨b,off+j,none⟩=some (.bool l[j])):=by
 obtain⟨_,a,cap,h2,h3⟩:=h;refine⟨a,cap,h2,fun hn=>?_⟩
 obtain⟨b,off,h4,h5⟩:=h3 hn;exact⟨b,off,h4,fun j hj=>h5 j _ (by simp[hj])⟩
abbrev jY:=Value×Value×jo
abbrev rOf(p:jY):jo:=p.2.2
abbrev bn(l:List jY):List Value:=l.flatMap fun p=>[p.1,p.2.1]
def PartsM(w:World)(v:Value)(l:List jY):Prop:=Sl w v l.length 2 (bn l)∧(∀p∈l,Docs w p.1 p.2.2.1∧Bools w p.2.1 p.2.2.2)∧∀a n cap,v=.slice a n cap→n≤cap
theorem PartsM.stays{w w':World}{v:Value}{l:List jY}(h:PartsM w v l)(q:Q w w'):PartsM w' v l:=⟨Sl.stays h.1 q,fun p hp=>⟨Sl.stays (h.2.1 p hp).1 q,(h.2.1 p hp).2.stays q⟩,h.2.2⟩
theorem WT(l:List jY)(k:Nat)(h:k<l.length):(bn l)[k*2]?=some l[k].1∧(bn l)[k*2+1]?=some l[k].2.1:=by
 induction l generalizing k with
 | nil=>simp at h
 | cons d l ih =>
  have e:bn (d::l)=d.1::d.2.1::bn l:=by simp[bn]
  cases k with
  | zero=>rw[e];exact⟨rfl,rfl⟩
  | succ k =>
   have:=ih k (by simpa using h)
   rw[e,show(k+1)*2=k*2+1+1 by omega]
   exact this
theorem PartsM.value{w:World}{v:Value}{l:List jY}(h:PartsM w v l):∃a cap,v=.slice a l.length cap∧(0<l.length→∃b off,a=some ⟨b,off,none⟩∧∀j (hj:j<l.length),w.cell? ⟨b,off+j*2,none⟩=some l[j].1∧w.cell? ⟨b,off+j*2+1,none⟩=some l[j].2.1):=by
 obtain⟨⟨_,a,cap,h2,h3⟩,_⟩:=h;refine⟨a,cap,h2,fun hn=>?_⟩
 obtain⟨b,off,h4,h5⟩:=h3 hn;exact⟨b,off,h4,fun j hj=>⟨h5 _ _ (WT l j hj).1,by rw[Nat.add_assoc];exact h5 _ _ (WT l j hj).2⟩⟩
theorem withR_len(d:au)(l:List au):(fP d l).length≤l.length+1:=by
 induction l with
 | nil=>simp[fP]
 | cons x l ih =>
  rw[fP];split
  ·simp only[List.length_cons];omega
  ·split<;>simp
def Dk(r:jo)(j:Nat):List au:=(((r.1.zip r.2).take j).filter fun x => !x.2).map (·.1)
theorem acA(r:jo)(j:Nat)(h1:j<r.1.length)(h2:j<r.2.length):Dk r (j+1)=Dk r j++if r.2[j]=true then [] else [r.1[j]]:=by
 unfold Dk;have hz:j<(r.1.zip r.2).length:=by simp;omega
 rw[List.take_succ_eq_append_getElem hz,List.filter_append,List.map_append,List.getElem_zip];cases r.2[j]<;>simp
theorem afE(r:jo)(h:r.2.length=r.1.length):Dk r r.1.length=Ce r:=by
 unfold Dk Ce;rw[List.take_of_length_le (by simp;omega)]
def SA(l:List jY)(k:Nat):List au:=(((l.take k).map rOf).flatMap Ce).foldl (fun a d=>fP d a) []
theorem aiq(l:List jY)(k:Nat)(h:k<l.length):SA l (k+1)=(Ce (rOf l[k])).foldl (fun a d=>fP d a) (SA l k):=by
 unfold SA;rw[List.take_succ_eq_append_getElem h,List.map_append,List.flatMap_append,List.foldl_append];simp
theorem afF(v:Value)(l:List jY)(w:World)(hv:PartsM w v l)(hn:l.length≤1000)(hl:∀p∈l,p.2.2.2.length=p.2.2.1.length∧p.2.2.1.length≤500):
  Calls Tryz.prog 11 #[v] w fun e w'=>∃v',e=.returned v'∧w'.ownsRow w.heap.size 47 2 v' (pU (l.map rOf)).length (bK (pU (l.map rOf)))∧Q w w':=by
 obtain⟨a,cap,rfl,aJ⟩:=hv.value;have qF:=hv.2.1;have tV:pU (l.map rOf)=SA l l.length:=by unfold SA pU;rw[List.take_length]
 rw[tV];have HC:=Hd aJ;have JB:=Hd qF;have HL:=Hd hl;clear aJ hv qF hl tV;go_enter Tryz.func11,Tryz.ntmps11;go_wp2_with fail;go_loopw [3,4,5] (fun ov i _ wr=>∃(k:Nat) (o:List au),k≤l.length∧i=.int .i64 (k:Nat)∧o.length≤500*k∧Hid (o=SA l k)∧Hid (wr.ownsRow w.heap.size 47 2 ov o.length (bK o))∧Hid (Q w wr)) (fun _ i _ _=>l.length-(intOf i).toNat)
 case atStart=>exact⟨0,[],by omega,rfl,by simp,rfl,World.ownsRow_nil _ _ _ _,Q.refl _⟩
 case round =>
  obtain⟨k,o,hk,rfl,sD,xg,HO,HQ⟩:=hrel;obtain⟨wo,rfl⟩:∃wo:World,wo=wr:=⟨_,rfl⟩;by_cases hlt:k<l.length
  ·obtain⟨pb,po,rfl,bC⟩:=HC.out (by omega)
   have z0:=(bC k hlt).1;have z1:=(bC k hlt).2;obtain⟨hd,hg⟩:=JB.out _ (List.getElem_mem hlt);obtain⟨bR,h5⟩:=HL.out _ (List.getElem_mem hlt);have aI:=aiq l k hlt;rw[←xg.out] at aI;have ql:(k:Int)<(l.length:Int):=by omega
   have gY:(0:Int)≤(k:Int):=by omega
   clear bC;generalize l[k]=p at *;obtain⟨dv,gv,r⟩:=p;simp only[rOf] at z0 z1 hd hg bR h5 aI;obtain⟨da,dc,rfl,Q8⟩:=hd.value;obtain⟨ga,gc,rfl,XJ⟩:=hg.value;have Z0:=Hd z0;have Z1:=Hd z1;have HD:=Hd Q8;have HG:=Hd XJ;have bJ:=Hd aI;clear z0 z1 hd hg Q8 XJ aI;go_wp2_with fail;go_loopw [3,5] (fun ov j wr=>∃(m:Nat) (o2:List au),m≤r.1.length∧j=.int .i64 (m:Nat)∧o2.length≤500*k+m∧Hid (o2=(Dk r m).foldl (fun a d=>fP d a) o)∧Hid (wr.ownsRow w.heap.size 47 2 ov o2.length (bK o2))∧Hid (Q w wr)) (fun _ j _=>r.1.length-(intOf j).toNat)
   case atStart=>exact⟨0,o,by omega,rfl,by omega,by show _=_;simp[Dk],HO,HQ⟩
   case round =>
    obtain⟨m,o2,hm,rfl,ayk,YB,rF,aS⟩:=hrel;obtain⟨wm,rfl⟩:∃wm:World,wm=wr:=⟨_,rfl⟩;have y0:=ah aS.out Z0.out;have y1:=ah aS.out Z1.out;by_cases AU:m<r.1.length
    ·obtain⟨db,dof,rfl,YC⟩:=HD.out (by omega)
     obtain⟨gb,gof,rfl,adY⟩:=HG.out (by omega)
     have c0:=ah aS.out (YC m AU).1;have c1:=ah aS.out (YC m AU).2;have c2:=ah aS.out (adY m (by omega))
     have JL:(m:Int)<(r.1.length:Int):=by omega
     have ajh:(m:Int)<(r.2.length:Int):=by omega
     have adW:(0:Int)≤(m:Int):=by omega
     have uw:=acA r m AU (by omega)
     have cw:=fun W (q:Q wm W) vv (ho:W.ownsRow w.heap.size 47 2 vv o2.length (bK o2))=>RWith_any vv o2 r.1[m] W w.heap.size ho (by omega)
     have Gz:=withR_len r.1[m] o2;clear YC adY;generalize r.1[m]=d at *;generalize r.2[m]'(by omega)=g at *
     obtain⟨id,tx⟩:=d;simp only at c0 c1 cw Gz uw;cases g with
     | true =>
      rw[if_pos rfl,List.append_nil] at uw;have GX:=Hd uw;clear uw;go_wp2_with fail;go_roundw;case rel=>exact⟨m+1,o2,by omega,by go_num,by omega,by show _=_;rw[YB.out,GX.out],rF,aS⟩
      case measure=>simp[intOf];omega
     | false =>
      rw[if_neg (by simp)] at uw
      have kR:fP (id,tx) o2=(Dk r (m+1)).foldl (fun a d=>fP d a) o:=by rw[uw,List.foldl_append,←YB.out];rfl
      have xu:=Hd kR;have CW:=Hd (cw wm (Q.refl _) _ rF.out);clear uw kR cw;go_wp2_with fail;refine CW.out.mono ?_;rintro e w5 ⟨v5,rfl,Mi,q5⟩;have EM:=Hd (dO Mi aS.out.size);have mZ:=Hd (aS.out.trans q5);clear Mi q5 CW y0 y1 c0 c1 c2;go_wp2_with fail;go_roundw;case rel=>exact⟨m+1,fP (id,tx) o2,by omega,by go_num,by omega,xu,EM,mZ⟩
      case measure=>simp[intOf];omega
    ·have rP:m=r.1.length:=by omega
     subst rP;have dI:=afE r bR;have yZ:=Hd dI;clear dI;go_wp2_with fail;go_roundw;case rel=>exact⟨k+1,o2,by omega,by go_num,by omega,by show _=_;rw[YB.out,yZ.out,bJ.out],rF,aS⟩
     case measure=>simp[intOf];omega
  ·have cO:k=l.length:=by omega
   subst cO;go_wp2_with fail;go_ret;exact⟨_,rfl,by rw[←xg.out];exact HO.out,HQ.out⟩
theorem p9:(Tryz.prog.info? 94).map (fun i=>(i.zero,i.size,i.bytes))=some (some (.agg #[.slice none 0 0,.slice none 0 0]),2,48):=by kernel_rfl
theorem tinfoB4:(Tryz.prog.info? 4).map (fun i=>(i.zero,i.size,i.bytes))=some (some (.bool false),1,1):=by kernel_rfl
theorem aaT(l:List Bool)(b:Bool):uP (l++[b])=uP l++[.bool b]:=by simp[uP]
theorem FC(l:List jY)(p:jY):bn (l++[p])=bn l++[p.1,p.2.1]:=by simp[bn]
theorem cont_snoc(l:List Bytes)(x u:Bytes):(l++[x]).contains u=(l.contains u||(u==x)):=by rw[Bool.eq_iff_iff];simp
def Ec(ids:List Bytes)(r:jo)(m:Nat):List Bool:=((r.1.zip r.2).take m).map fun x=>x.2||ids.contains x.1.1
theorem air(ids:List Bytes)(r:jo)(m:Nat)(h:r.2.length=r.1.length)(hm:m≤r.1.length):(Ec ids r m).length=m:=by
 unfold Ec;rw[List.length_map,List.length_take,List.length_zip];omega
theorem afG(ids:List Bytes)(r:jo)(m:Nat)(h1:m<r.1.length)(h2:m<r.2.length):Ec ids r (m+1)=Ec ids r m++[r.2[m]||ids.contains r.1[m].1]:=by
 unfold Ec;rw[List.take_succ_eq_append_getElem (by rw[List.length_zip];omega),List.map_append,List.getElem_zip];rfl
theorem ais(ids:List Bytes)(r:jo)(h:r.2.length=r.1.length):(r.1,Ec ids r r.1.length)=qL ids r:=by
 unfold Ec qL;rw[List.take_of_length_le (by rw[List.length_zip];omega)]
theorem WU(n:Nat):(madeCells (Value.bool false).cells (n*1)).toList=uP (List.replicate n false):=by
 apply List.ext_getElem
 ·simp[madeCells,uP]
 ·intro i h1 h2
  simp[madeCells,uP,Value.cells,Nat.mod_one]
def SB(w:World)(R:List jo×Bytes×Int)(e:Ending)(w':World):Prop:=(∃(v':Value) (l':List jY),e=.returned (.tuple #[v',ak R.2.1,.int .i64 R.2.2])∧PartsM w' v' l'∧l'.map rOf=R.1)∧Q w w'
theorem Q.trans'{a b c:World}(h1:Q a b)(h2:Below (a.heap.size+1) b c)(hs:a.heap.size+1≤b.heap.size):Q a c:=Below.trans h1 (Below.mono h2 (by omega))
theorem afH(v:Value)(l:List jY)(ov:Value)(ops:List OpL)(w:World)(hv:PartsM w v l)(hn:l.length≤1000)(hl:∀p∈l,p.2.2.2.length=p.2.2.1.length∧p.2.2.1.length≤500)
  (ho:Ops w ov ops) (sD:∀o∈ops,o.2.1.length≤9223372036854775807∧o.2.2.length≤9223372036854775807) (h1:¬(ops.length<1∨50<ops.length)) (h2:ops.all dZ=true) :
  Calls Tryz.prog 19 #[v,ov] w fun e w'=>SB w (nM (l.map rOf) ops) e w':=by
 have hR:nM (l.map rOf) ops=((l.map rOf).map (qL (nI ops))++yD (bq ops),(if bq ops=[] then [] else jV (bq ops) (Ci (bq ops))),0):=by unfold nM;rw[if_neg h1,if_pos h2]
 have zo:zM ops=0:=by unfold zM;rw[if_neg h1,if_pos h2]
 have cc:=Om ov ops w ho (by omega) sD
 rw[zo] at cc;have cl:=fun W (q:Q w W)=>RLast_any ov ops W (ho.stays q) (by omega)
 have awT:(fK ops).length≤50:=by have:=(Gp ops).length_le;omega
 have Xg:bq ops=((fK ops).filter (fun o => !o.1)).map (·.2):=rfl
 have Rw:nI ops=(fK ops).map (fun o=>o.2.1):=rfl
 have adM:=RQ ops h2;obtain⟨oa,oc,rfl,_⟩:=ho.value;obtain⟨a,cap,rfl,aJ⟩:=hv.value;have qF:=hv.2.1;have CC:=Hd cc;have CL:=Hd cl;have HC:=Hd aJ;have JB:=Hd qF;have HL:=Hd hl;have Vm:=Hd adM;have Gd:=Hd Xg;have auj:=Hd Rw;clear cc cl aJ qF hl adM ho sD h1 h2 zo hv Xg Rw;obtain⟨ip,BN,vG,vH,vI⟩:=info_parts p9;obtain⟨ib,Pp,ajo,ajp,ajq⟩:=info_parts tinfoB4;obtain⟨idd,auk,ak1,ak2,ak3⟩:=info_parts fT;generalize nM (l.map rOf) ops=R at *;have HR:=Hd hR;clear hR;generalize rR:fK ops=ls at *;generalize bq ops=ml at *;generalize nI ops=ids at *;clear rR;go_enter Tryz.func19,Tryz.ntmps19;go_wp2_with fail;refine CC.out.mono ?_;rintro e w1 ⟨rfl,q1⟩;have aC:=Hd q1;clear q1;go_wp2_with fail;refine(CL.out _ aC.out).mono ?_;rintro e w2 ⟨lv,rfl,IZ,q2⟩;have alK:Ops w2 lv ls:=Sl.of_owns IZ;obtain⟨la,lc,rfl,Dw⟩:=alK.value;have Cx:=Hd Dw;have HLS:=Hd alK;have aS:=Hd (aC.out.trans q2);clear Dw alK IZ q2;have apW:Hid (∀(W:World),Q w2 W→∀p∈l,Docs W p.1 p.2.2.1∧Bools W p.2.1 p.2.2.2):=fun W q p hp=>⟨Sl.stays (JB.out p hp).1 (aS.out.trans q),Sl.stays (JB.out p hp).2 (aS.out.trans q)⟩
 go_wp2_with fail;go_loopw [9,10,11,12,13,14] (fun ov i _ _ _ _ wr=>∃(k:Nat) (o:List jY),k≤l.length∧i=.int .i64 (k:Nat)∧o.length=k∧Hid (o.map rOf=((l.take k).map rOf).map (qL ids))∧Hid (wr.ownsRow w2.heap.size 94 2 ov o.length (bn o))∧Hid (∀p∈o,Docs w2 p.1 p.2.2.1∧wr.ownsRow w2.heap.size 4 1 p.2.1 p.2.2.2.length (uP p.2.2.2))∧Hid (Q w2 wr)) (fun _ i _ _ _ _ _=>l.length-(intOf i).toNat)
 case atStart=>exact⟨0,[],by omega,rfl,rfl,rfl,World.ownsRow_nil _ _ _ _,(fun p hp=>by simp at hp),Q.refl _⟩
 case round =>
  obtain⟨k,o,hk,rfl,sD,xg,HO,ZM,HQ⟩:=hrel;have ajg:o.length≤1000:=by omega
  have Im:=Hd sD;clear sD;obtain⟨wo,rfl⟩:∃wo:World,wo=wr:=⟨_,rfl⟩;by_cases hlt:k<l.length
  ·obtain⟨pb,po,rfl,bC⟩:=HC.out (by omega)
   have z0:=ah (aS.out.trans HQ.out) (bC k hlt).1;have z1:=ah (aS.out.trans HQ.out) (bC k hlt).2;obtain⟨hd,hg⟩:=apW _ HQ.out _ (List.getElem_mem hlt);obtain⟨bR,h5⟩:=HL.out _ (List.getElem_mem hlt);have gU:l.take (k+1)=l.take k++[l[k]]:=List.take_succ_eq_append_getElem hlt;have Rl:l[k]∈l:=List.getElem_mem hlt;have ql:(k:Int)<(l.length:Int):=by omega
   have gY:(0:Int)≤(k:Int):=by omega
   clear bC;generalize l[k]=p at *;obtain⟨dv,gv,r⟩:=p;simp only at z0 z1 hd hg bR h5 gU;obtain⟨da,dc,rfl,Q8⟩:=hd.value;obtain⟨ga,gc,rfl,XJ⟩:=hg.value;have lU:=Blk.new wo 94 #[.slice da r.1.length dc,.slice none 0 0];have Ll:=Q.alloc wo (.cells #[.slice da r.1.length dc,.slice none 0 0] 94);have Z0:=Hd z0;have Z1:=Hd z1;have HD:=Hd Q8;have HG:=Hd XJ;have aul:=Hd Rl;have qV:=Hd gU;have HDD:=Hd hd;have pI:=Hd lU;have nA:=Hd Ll;clear z1 hd hg Q8 XJ gU lU Ll Rl;go_wp2_with fail;generalize Xu:wo.alloc (.cells #[.slice da r.1.length dc,.slice none 0 0] 94)=wa at *;have ayl:wa.heap.size=wo.heap.size+1:=by subst Xu;simp
   clear Xu z0;go_loopw [12,13,14] (fun mv _ _ wr=>∃(m:Nat) (gv:Value),m≤r.1.length∧mv=.int .i64 (m:Nat)∧Hid (Blk wr wo.heap.size 94 #[.slice da r.1.length dc,gv])∧Hid (wr.ownsRow (wo.heap.size+1) 4 1 gv m (uP (Ec ids r m)))∧Hid (Q wo wr)) (fun mv _ _ _=>r.1.length-(intOf mv).toNat)
   case atStart=>exact⟨0,.slice none 0 0,by omega,rfl,pI.out,World.ownsRow_nil _ _ _ _,nA.out⟩
   case round =>
    obtain⟨m,fv,hm,rfl,HB,HF,HQm⟩:=hrel;obtain⟨wm,rfl⟩:∃wm:World,wm=wr:=⟨_,rfl⟩;have y0:=ah HQm.out Z0.out;have y1:=ah HQm.out Z1.out;by_cases AU:m<r.1.length
    ·obtain⟨db,dof,rfl,YC⟩:=HD.out (by omega)
     obtain⟨gb,gof,rfl,adY⟩:=HG.out (by omega)
     have ow:=HQ.out.trans HQm.out;have c0:=ah HQm.out (YC m AU).1;have c2:=ah HQm.out (adY m (by omega))
     have JL:(m:Int)<(r.1.length:Int):=by omega
     have ajh:(m:Int)<(r.2.length:Int):=by omega
     have adW:(0:Int)≤(m:Int):=by omega
     have uw:=afG ids r m AU (by omega)
     have AA:=air ids r m bR hm;clear YC adY;generalize r.1[m].1=u at *;generalize r.2[m]'(by omega)=g at *
     have GX:=Hd uw;have C0:=Hd c0;have Y0:=Hd y0;have Lv:=Hd AA;clear uw c0 AA ow;go_wp2_with fail;clear c2 y0 y1;go_loopw [13,14] (fun bv jv wr=>∃(j:Nat) (bb:Bool),j≤ls.length∧jv=.int .i64 (j:Nat)∧bv=.bool bb∧Hid (bb=(g||((ls.take j).map (fun o=>o.2.1)).contains u))∧Hid (Q wm wr)) (fun _ jv _=>ls.length-(intOf jv).toNat)
     case atStart=>exact⟨0,g,by omega,rfl,rfl,by show _=_;simp,Q.refl _⟩
     case round =>
      obtain⟨j,bb,hj,rfl,rfl,Ej,HQj⟩:=hrel;obtain⟨wj,rfl⟩:∃wj:World,wj=wr:=⟨_,rfl⟩;by_cases hlj:j<ls.length
      ·obtain⟨lb,lof,rfl,adZ⟩:=Cx.out (by omega)
       have d0:=ah (HQ.out.trans (HQm.out.trans HQj.out)) (adZ j hlj).2.1;have d1:=ah HQj.out C0.out;have d2:=ah HQj.out Y0.out;have hji:(j:Int)<(ls.length:Int):=by omega
       have aoT:(0:Int)≤(j:Int):=by omega
       have tN:((ls.take (j+1)).map (fun o=>o.2.1)).contains u=(((ls.take j).map (fun o=>o.2.1)).contains u||(u==ls[j].2.1)):=by
        rw[List.take_succ_eq_append_getElem hlj,List.map_append];exact cont_snoc _ _ _
       clear adZ;generalize ls[j].2.1=x at *;have QD:=Hd tN;clear tN;cases bb with
       | true =>
        go_wp2_with fail;go_quiet (fail);go_wp2_with fail;go_roundw;case rel=>exact⟨j+1,true,by omega,by go_num,rfl,by show _=_;rw[QD.out,←Bool.or_assoc,←Ej.out];rfl,HQj.out.trans (Q.drewN _ _)⟩
        case measure=>simp[intOf];omega
       | false =>
        by_cases he:x=u
        ·subst he
         go_wp2_with fail;go_quiet (fail);go_wp2_with fail;go_roundw;case rel=>exact⟨j+1,true,by omega,by go_num,rfl,by show _=_;rw[QD.out,←Bool.or_assoc,←Ej.out];simp,HQj.out.trans (Q.drewN _ _)⟩
         case measure=>simp[intOf];omega
        ·have zI:(x==u)=false:=by simpa using he
         have zJ:@BEq.beq (List UInt8) instBEqOfDecidableEq x u=false:=by simpa using he
         have zK:@BEq.beq (List UInt8) List.instBEq x u=false:=by simpa using he
         have apX:(u==x)=false:=by simpa using fun e=>he e.symm
         have HE:=Hd apX;clear he apX;go_wp2_with fail;go_quiet (fail);go_wp2_with fail;go_roundw;case rel=>exact⟨j+1,false,by omega,by go_num,rfl,by show _=_;rw[QD.out,←Bool.or_assoc,←Ej.out,HE.out];rfl,HQj.out.trans (Q.drewN _ _)⟩
         case measure=>simp[intOf];omega
      ·have qh:j=ls.length:=by omega
       subst qh;have zk:bb=(g||ids.contains u):=by rw[Ej.out,List.take_length,←auj.out]
       have lU:=HB.out.stays HQj.out;obtain⟨k0,k1,f0,f1⟩:=Blk.c2 lU;have ho:=ownsRow_below HF.out HQj.out;have aY:wo.heap.size+1≤wj.heap.size:=by have:=lU.lt;omega
       have hqj:=HQm.out.trans HQj.out;have HBJ:=Hd lU;have Xi:=Hd hqj;have HBN:=Hd zk;clear lU hqj zk;go_wp2_with (at_builtin;go_must (refine cZ wj (by rfl) _ _ 92 (by rfl) (wo.heap.size+1) 4 _ ib (.bool false) 1 1 Tryz.underlying92 Pp ajo ajp ajq rfl (by decide) (by decide) _ _ _ (by rfl) ho #[.bool bb] (by simp[Act.eval]) rfl ?c1 ?c2 aY ?_))
       case c1=>simp[Value.oneCell']
       case c2=>omega
       intro g6 cap6 w6 aW dB iL uz tq;have qq:Below (wo.heap.size+1) wj w6:=aL (Below.refl _ _) ho dB (Nat.le_refl _) (by omega)
       have zl:=HBJ.out.stays' qq (by omega)
       obtain⟨k0,k1,f0,f1⟩:=Blk.c2 zl;have jP:∀x,(w6.setCell ⟨wo.heap.size,1,none⟩ x).cell? ⟨wo.heap.size,1,none⟩=some x:=fun x=>(zl.set 1 x).cell 1 x rfl
       have dR:w6.ownsRow (wo.heap.size+1) 4 1 (.slice (some ⟨g6,0,none⟩) (m+1) cap6) (m+1) (uP (Ec ids r (m+1))):=by
        rw[GX.out,aaT,←HBN.out];simpa using aW
       have XO:=ownsRow_setCell_below dR (a:=⟨wo.heap.size,1,none⟩) (by simp) (.slice (some ⟨g6,0,none⟩) (m+1) cap6)
       have zn:=zl.set 1 (.slice (some ⟨g6,0,none⟩) (m+1) cap6);have GV:Q wo (w6.setCell ⟨wo.heap.size,1,none⟩ (.slice (some ⟨g6,0,none⟩) (m+1) cap6)):=(Xi.out.trans' qq aY).setCell (by simp) _
       have XP:=Hd XO;have vY:=Hd zn;have ny:=Hd GV;clear XO zn GV dR jP qq aW dB iL zl ho;go_wp2_with fail;go_roundw;case rel=>exact⟨m+1,_,by omega,by go_num,vY.out,XP.out,ny.out⟩
       case measure=>simp[intOf];omega
    ·have rP:m=r.1.length:=by omega
     subst rP;obtain⟨k0,k1,f0,f1⟩:=Blk.c2 HB.out;have ho:=ownsRow_below HO.out HQm.out;have aY:w2.heap.size≤wm.heap.size:=(HQ.out.trans HQm.out).size;have Yy:Docs w2 (.slice da r.1.length dc) r.1:=(apW w2 (Q.refl _) (.slice da r.1.length dc,.slice ga r.2.length gc,r) aul.out).1;have aum:=Hd Yy;clear Yy;obtain⟨fa,fc,hfv,_⟩:=aT HF.out;subst hfv;go_wp2_with (at_builtin;go_must (refine cZ wm (by rfl) _ _ 32 (by rfl) w2.heap.size 94 _ ip (.agg #[.slice none 0 0,.slice none 0 0]) 2 48 Tryz.underlying32 BN vG vH vI rfl (by decide) (by decide) _ _ _ (by rfl) ho #[.slice da r.1.length dc,.slice fa r.1.length fc] (by simp[Act.eval]) rfl ?c1 ?c2 aY ?_))
     case c1=>simp[Value.oneCell']
     case c2=>omega
     intro g6 cap6 w6 aW dB iL uz tq;have q6:Q w2 w6:=aL (HQ.out.trans HQm.out) ho dB (Nat.le_refl _) (by omega)
     have apY:∀p∈o++[((Value.slice da r.1.length dc,Value.slice fa r.1.length fc,qL ids r):jY)],Docs w2 p.1 p.2.2.1∧w6.ownsRow w2.heap.size 4 1 p.2.1 p.2.2.2.length (uP p.2.2.2):=by
      intro p hp;rcases List.mem_append.1 hp with hp|hp
      ·exact⟨(ZM.out p hp).1,iW (ownsRow_below (ZM.out p hp).2 HQm.out) ho dB (by decide)⟩
      ·rw[List.mem_singleton] at hp
       subst hp;refine⟨aum.out,?_⟩;have e:=ais ids r bR;have e2:=P8 ids r bR;show w6.ownsRow _ _ _ (.slice fa r.1.length fc) (qL ids r).2.length (uP (qL ids r).2);rw[e2,←e];exact dO (iW HF.out ho dB (by decide)) (by have:=HQ.out.size;omega)
     have apZ:(o++[((Value.slice da r.1.length dc,Value.slice fa r.1.length fc,qL ids r):jY)]).map rOf=((l.take (k+1)).map rOf).map (qL ids):=by
      rw[qV.out,List.map_append,xg.out];simp[rOf]
     have aW:w6.ownsRow w2.heap.size 94 2 (.slice (some ⟨g6,0,none⟩) (o.length+1) cap6) (o++[((Value.slice da r.1.length dc,Value.slice fa r.1.length fc,qL ids r):jY)]).length (bn (o++[((Value.slice da r.1.length dc,Value.slice fa r.1.length fc,qL ids r):jY)])):=by
      rw[FC,List.length_append];simpa using aW
     have rH:=Hd aW;have fQ:=Hd q6;have aun:=Hd apY;have auo:=Hd apZ;clear aW q6 apY apZ dB iL ho k0 k1 f0 f1;go_wp2_with fail;go_roundw;case rel=>exact⟨k+1,o++[((Value.slice da r.1.length dc,Value.slice fa r.1.length fc,qL ids r):jY)],by omega,by go_num,by rw[List.length_append,Im.out];rfl,auo,rH,aun,fQ⟩
     case measure=>simp[intOf];omega
  ·have cO:k=l.length:=by omega
   have Db:o.map rOf=(l.map rOf).map (qL ids):=by rw[xg.out,cO,List.take_length]
   have YB:=Hd Db;clear Db xg;subst cO;go_wp2_with fail;go_loopw [15,16] (fun dv mv wr=>∃(m:Nat) (ds:List au),m≤ls.length∧mv=.int .i64 (m:Nat)∧ds.length≤m∧Hid (ds=((ls.take m).filter (fun o => !o.1)).map (·.2))∧Hid (wr.ownsRow wo.heap.size 47 2 dv ds.length (bK ds))∧Hid (Q wo wr)) (fun _ mv _=>ls.length-(intOf mv).toNat)
   case atStart=>exact⟨0,[],by omega,rfl,by simp,rfl,World.ownsRow_nil _ _ _ _,Q.refl _⟩
   case round =>
    obtain⟨m,ds,hm,rfl,ku,HDE,OU,HQm⟩:=hrel;obtain⟨wm,rfl⟩:∃wm:World,wm=wr:=⟨_,rfl⟩;by_cases AU:m<ls.length
    ·obtain⟨lb,lof,rfl,adZ⟩:=Cx.out (by omega)
     obtain⟨z0,z1,z2⟩:=adZ m AU;have c0:=ah (HQ.out.trans HQm.out) z0;have c1:=ah (HQ.out.trans HQm.out) z1;have c2:=ah (HQ.out.trans HQm.out) z2;have JL:(m:Int)<(ls.length:Int):=by omega
     have adW:(0:Int)≤(m:Int):=by omega
     have gU:ls.take (m+1)=ls.take m++[ls[m]]:=List.take_succ_eq_append_getElem AU;clear adZ z0 z1 z2;generalize ls[m]=x at *;obtain⟨del,id,tx⟩:=x;simp only at c0 c1 c2;cases del with
     | true =>
      have aI:ds=((ls.take (m+1)).filter (fun o => !o.1)).map (·.2):=by rw[gU,List.filter_append,List.map_append,←HDE.out];simp
      have bJ:=Hd aI;clear aI gU;go_wp2_with fail;go_roundw;case rel=>exact⟨m+1,ds,by omega,by go_num,by omega,bJ,OU,HQm⟩
      case measure=>simp[intOf];omega
     | false =>
      have aI:ds++[(id,tx)]=((ls.take (m+1)).filter (fun o => !o.1)).map (·.2):=by rw[gU,List.filter_append,List.map_append,←HDE.out];simp
      have bJ:=Hd aI;have ho:=OU.out;have aY:wo.heap.size≤wm.heap.size:=HQm.out.size;clear aI gU;go_wp2_with (at_builtin;go_must (refine cZ wm (by rfl) _ _ 39 (by rfl) wo.heap.size 47 _ idd (.agg #[ak [],ak []]) 2 32 Tryz.underlying39 auk ak1 ak2 ak3 rfl (by decide) (by decide) _ _ _ (by rfl) ho #[ak id,ak tx] (by simp[Act.eval]) rfl ?c1 ?c2 aY ?_))
      case c1=>simp[Value.oneCell']
      case c2=>omega
      intro g6 cap6 w6 aW dB iL uz tq;have q6:Q wo w6:=aL HQm.out ho dB (Nat.le_refl _) (by omega)
      have aW:w6.ownsRow wo.heap.size 47 2 (.slice (some ⟨g6,0,none⟩) (ds.length+1) cap6) (ds++[(id,tx)]).length (bK (ds++[(id,tx)])):=by
       rw[DY,List.length_append];simpa using aW
      have rH:=Hd aW;have fQ:=Hd q6;clear aW q6 dB iL ho c0 c1 c2;go_wp2_with fail;go_roundw;case rel=>exact⟨m+1,ds++[(id,tx)],by omega,by go_num,by simp;omega,bJ,rH,fQ⟩
      case measure=>simp[intOf];omega
    ·have rP:m=ls.length:=by omega
     have Ux:ds=ml:=by rw[HDE.out,Gd.out,rP,List.take_length]
     clear HDE Gd;subst Ux;subst rP;have NA:=aS.out.trans (HQ.out.trans HQm.out);have ang:∀p∈o,Docs wm p.1 p.2.2.1∧wm.ownsRow w2.heap.size 4 1 p.2.1 p.2.2.2.length (uP p.2.2.2):=fun p hp=>⟨Sl.stays (ZM.out p hp).1 (HQ.out.trans HQm.out),ownsRow_below (ZM.out p hp).2 HQm.out⟩
     have hom:=ownsRow_below HO.out HQm.out;have NN:=Hd NA;have aa3:=Hd ang;have HOM:=Hd hom;clear NA ang hom;obtain⟨a5,c5,hv5,_⟩:=aT OU.out;subst hv5;obtain⟨a6,c6,hv6,_⟩:=aT HOM.out;subst hv6;by_cases hz:ds.length=0
     ·have Bf:ds=[]:=List.eq_nil_of_length_eq_zero hz
      clear Vm;subst Bf;go_wp2_with fail;go_ret3;refine⟨⟨_,o,by rw[HR.out];rfl,⟨Sl.of_owns HOM.out,fun p hp=>⟨(aa3.out p hp).1,Sl.of_owns (aa3.out p hp).2⟩,fun _ _ _ e=>by cases e;exact(o8 HOM.out).1⟩,?_⟩,NN.out⟩
      rw[YB.out,HR.out];simp[yD]
     ·have aF:ds≠[]:=fun e=>hz (by rw[e];rfl)
      have Ux:=Sl.of_owns OU.out;have aym:ds.length≤500:=by omega
      have yX:∀d∈ds,d.1.length≤9223372036854775807∧d.2.length≤9223372036854775807:=fun d hd=>by
       have:=oI (Vm.out.1 d hd);omega
      have hb:(oH ds).1=jV ds (Ci ds):=by unfold oH;rw[if_neg (by omega),if_pos Vm.out,idx_eq]
      have cb:=WS _ ds wm Ux (by omega) yX
      rw[hb] at cb;have CB:=Hd cb;have uZ:=Hd aF;clear cb hb Ux yX aF Vm;generalize jV ds (Ci ds)=sg at *;go_wp2_with fail;refine CB.out.mono ?_;rintro e w5 ⟨rfl,q5⟩;obtain⟨w6,JG,dR,uo⟩:=run_make_full (P:=Tryz.prog) w5 w2.heap.size 92 4 ib (.bool false) 1 Tryz.underlying92 Pp ajo ajp .i64 .i64 ds.length (by rw[ajq];omega) (by unfold maxLen;omega) (by have:=(HQ.out.trans (HQm.out.trans q5)).size;omega)
      rw[WU] at dR;have q6:Q w5 w6:=by
       refine Below.grown (Below.refl _ _) uo (Nat.le_refl _) (fun k hk=>by simp at hk)
      have aqM:=Sl.stays (Sl.of_owns OU.out) (q5.trans q6);have Vr:=ownsRow_below HOM.out (q5.trans q6);have akR:∀p∈o,Docs w6 p.1 p.2.2.1∧w6.ownsRow w2.heap.size 4 1 p.2.1 p.2.2.2.length (uP p.2.2.2):=fun p hp=>⟨Sl.stays (aa3.out p hp).1 (q5.trans q6),ownsRow_below (aa3.out p hp).2 (q5.trans q6)⟩
      have ad1:=ownsRow_below OU.out (q5.trans q6);have oV:=Hd dR;have ap0:=Hd (HQ.out.trans (HQm.out.trans (q5.trans q6)));have fQ:=Hd (NN.out.trans (q5.trans q6));have ap1:=Hd akR;have alL:=Hd ad1;have aY:w2.heap.size≤w6.heap.size:=(HQ.out.trans (HQm.out.trans (q5.trans q6))).size;clear dR akR aqM ad1 q5 q6 uo;go_wp2_with (at_builtin;go_must (refine cZ w6 (by rfl) _ _ 32 (by rfl) w2.heap.size 94 _ ip (.agg #[.slice none 0 0,.slice none 0 0]) 2 48 Tryz.underlying32 BN vG vH vI rfl (by decide) (by decide) _ _ _ (by rfl) Vr #[.slice a5 ds.length c5,.slice (some ⟨w5.heap.size,0,none⟩) ds.length ds.length] (by simp[Act.eval]) rfl ?c1 ?c2 aY ?_))
      case c1=>simp[Value.oneCell']
      case c2=>omega
      intro g7 cap7 w7 XQ xB OA ap2 ada;have q7:Q w w7:=(aL fQ.out Vr xB (by have:=aS.out.size;omega) fQ.out.size:Below w.heap.size w w7)
      have dI:∀p∈o++[((Value.slice a5 ds.length c5,Value.slice (some ⟨w5.heap.size,0,none⟩) ds.length ds.length,ds,List.replicate ds.length false):jY)],Docs w7 p.1 p.2.2.1∧Bools w7 p.2.1 p.2.2.2:=by
       intro p hp;rcases List.mem_append.1 hp with hp|hp
       ·refine⟨?_,Sl.of_owns (iW (ap1.out p hp).2 Vr xB (by decide))⟩
        exact Sl.stays (ZM.out p hp).1 (aL ap0.out Vr xB (Nat.le_refl _) ap0.out.size:Below w2.heap.size w2 w7)
       ·rw[List.mem_singleton] at hp
        subst hp;refine⟨Sl.of_owns (iW alL.out Vr xB (by decide)),?_⟩
        have:=Sl.of_owns (iW oV.out Vr xB (by decide))
        show Sl w7 _ (List.replicate ds.length false).length 1 _;rw[List.length_replicate];exact this
      have XO:w7.ownsRow w2.heap.size 94 2 (.slice (some ⟨g7,0,none⟩) (o.length+1) cap7) (o++[((Value.slice a5 ds.length c5,Value.slice (some ⟨w5.heap.size,0,none⟩) ds.length ds.length,ds,List.replicate ds.length false):jY)]).length (bn (o++[((Value.slice a5 ds.length c5,Value.slice (some ⟨w5.heap.size,0,none⟩) ds.length ds.length,ds,List.replicate ds.length false):jY)])):=by
       rw[FC,List.length_append];simpa using XQ
      have yZ:=Hd dI;have XP:=Hd XO;have ny:=Hd q7;clear dI XO q7 XQ xB OA Vr;go_wp2_with fail;go_ret3;refine⟨⟨_,_,by rw[HR.out];simp only[if_neg uZ.out];rfl,⟨Sl.of_owns XP.out,yZ.out,fun _ _ _ e=>by cases e;exact(o8 (by rw[List.length_append] at XP;exact XP.out)).1⟩,?_⟩,ny.out⟩
      rw[List.map_append,YB.out,HR.out];simp[yD,uZ.out,rOf]
theorem acB(v:Value)(l:List jY)(ov:Value)(ops:List OpL)(w:World)(hv:PartsM w v l)(hn:l.length≤1000)(hl:∀p∈l,p.2.2.2.length=p.2.2.1.length∧p.2.2.1.length≤500)
  (ho:Ops w ov ops) (zX:ops.length≤9223372036854775807) (sD:∀o∈ops,o.2.1.length≤9223372036854775807∧o.2.2.length≤9223372036854775807) :
  Calls Tryz.prog 19 #[v,ov] w fun e w'=>SB w (nM (l.map rOf) ops) e w':=by
 by_cases h1:ops.length<1∨50<ops.length
 ·have hR:nM (l.map rOf) ops=(l.map rOf,[],6):=by unfold nM;rw[if_pos h1]
  have zo:zM ops=6:=by unfold zM;rw[if_pos h1]
  have cc:=Om ov ops w ho zX sD;rw[zo] at cc;rw[hR];obtain⟨oa,oc,rfl,_⟩:=ho.value;obtain⟨a,cap,rfl,_⟩:=hv.value;have CC:=Hd cc;have HV:=Hd hv;clear cc zo hR hv ho sD hl h1;go_enter Tryz.func19,Tryz.ntmps19;go_wp2_with fail;refine CC.out.mono ?_;rintro e w1 ⟨rfl,q1⟩;have uV:=HV.out.stays q1;have EA:=Hd uV;have aC:=Hd q1;clear q1 uV;go_wp2_with fail;go_ret3;exact⟨⟨_,l,rfl,EA.out,rfl⟩,aC.out⟩
 ·by_cases h2:ops.all dZ=true
  ·exact afH v l ov ops w hv hn hl ho sD h1 h2
  ·have hR:nM (l.map rOf) ops=(l.map rOf,[],1):=by unfold nM;rw[if_neg h1,if_neg h2]
   have zo:zM ops=1:=by unfold zM;rw[if_neg h1,if_neg h2]
   have cc:=Om ov ops w ho zX sD;rw[zo] at cc;rw[hR];obtain⟨oa,oc,rfl,_⟩:=ho.value;obtain⟨a,cap,rfl,_⟩:=hv.value;have CC:=Hd cc;have HV:=Hd hv;clear cc zo hR hv ho sD hl h1 h2;go_enter Tryz.func19,Tryz.ntmps19;go_wp2_with fail;refine CC.out.mono ?_;rintro e w1 ⟨rfl,q1⟩;have uV:=HV.out.stays q1;have EA:=Hd uV;have aC:=Hd q1;clear q1 uV;go_wp2_with fail;go_ret3;exact⟨⟨_,l,rfl,EA.out,rfl⟩,aC.out⟩
end
end Go.Proofs.YthijhicdmnoifaaGreatDoor
