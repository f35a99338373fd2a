/- Joined texts of one proof. -/
import Derived.Lib.SlicesSearch
import Derived.Test.YthijhicdmnoifaaGreatDoorRQry6
set_option linter.unusedSimpArgs false
set_option linter.unusedVariables false
set_option linter.unnecessarySimpa false
set_option maxRecDepth 100000
set_option maxHeartbeats 8000000
namespace Go.Proofs.YthijhicdmnoifaaGreatDoor
section
open Go.RowKit
theorem WE(x:Int)(w:World):Calls Tryz.prog 109 #[.int .i64 x] w fun e w'=>e=.returned (.bool false)∧w=w':=by
 go_enter Tryz.func109,Tryz.ntmps109;go_wp2;go_ret;exact⟨by simp,rfl⟩
theorem D8(x:Int)(w:World):Calls Tryz.prog 237 #[.int .i64 x] w fun e w'=>e=.returned (.bool false)∧w=w':=by
 go_enter Tryz.func237,Tryz.ntmps237;go_wp2;go_ret;exact⟨by simp,rfl⟩
theorem Gt(x y:Int)(w:World):Calls Tryz.prog 236 #[.int .i64 x,.int .i64 y] w fun e w'=>e=.returned (.bool (decide (x<y)))∧w=w':=by
 go_enter Tryz.func236,Tryz.ntmps236;go_wp2_with (go_at_call 109;refine(WE _ _).mono ?_;rintro e w' ⟨rfl,rfl⟩);go_ret;exact⟨by simp,rfl⟩
theorem Bin_any(b off c:Nat)(zs:List Int)(x:Int)(w:World)(yX:zs.length<1000000000)(hc:∀j (hj:j<zs.length),w.cell? ⟨b,off+j,none⟩=some (.int .i64 zs[j]))(hs:zs.Pairwise (·≤·)):
  Calls Tryz.prog 235 #[.slice (some ⟨b,off,none⟩) zs.length c,.int .i64 x] w fun e w'=>e=.returned (.tuple #[.int .i64 ((zs.countP (·<x):Nat):Int),.bool (zs.contains x)])∧w=w':=by
 obtain⟨n,hn⟩:∃n,n=zs.length:=⟨_,rfl⟩;have ze:(zs.take n).Pairwise (·≤·):=by rw[hn,List.take_length];exact hs
 have S:=Hd (Lib.sorted_at zs n (by omega) ze)
 have HC:Hid (∀j,j<zs.length→w.cell? ⟨b,off+j,none⟩=some (.int .i64 (zs.getD j 0))):=fun j hj=>by
  rw[hc j hj,List.getD_eq_getElem?_getD,List.getElem?_eq_getElem hj];rfl
 have hce:zs.contains x=(zs.take n).contains x:=by rw[hn,List.take_length]
 have XC:zs.countP (·<x)=(zs.take n).countP (·<x):=by rw[hn,List.take_length]
 rw[hce,XC,←hn];have hz:n≤zs.length:=by omega
 have ZO:n<1000000000:=by omega
 clear hs ze hc hce XC hn yX;go_enter Tryz.func235,Tryz.ntmps235;go_wp2;go_loopg [7,8] n (fun g s7 s8 wr=>∃lo hi:Nat,s7=.int .i64 lo∧s8=.int .i64 hi∧lo≤hi∧hi≤n∧hi-lo≤g∧wr=w∧(∀t,t<lo→zs.getD t 0<x)∧(∀t,hi≤t→t<n→x≤zs.getD t 0))
 case atStart=>exact⟨0,n,rfl,rfl,Nat.zero_le _,Nat.le_refl _,by omega,rfl,fun t ht=>absurd ht (Nat.not_lt_zero _),fun t h1 h2=>by omega⟩
 case round =>
  obtain⟨lo,hi,rfl,rfl,hlh,qF,hg,rfl,h1,h2⟩:=hrel;have I:=Hd (show(∀t,t<lo→zs.getD t 0<x)∧(∀t,hi≤t→t<n→x≤zs.getD t 0) from⟨h1,h2⟩)
  clear h1 h2;by_cases hlt:lo<hi
  ·have cm:=HC.out ((lo+hi) / 2) (by omega)
   generalize hy:zs.getD ((lo+hi) / 2) 0=y at cm;have Y:=Hd hy;clear hy;by_cases hyx:y<x
   ·go_wp2_with (first|(go_at_call 236;refine(Gt _ _ _).mono ?_;rintro e w' ⟨rfl,rfl⟩)|(go_at_call 237;refine(D8 _ _).mono ?_;rintro e w' ⟨rfl,rfl⟩))
    go_roundg (hi-((lo+hi) / 2+1));case measure=>omega
    case rel =>
     refine⟨(lo+hi) / 2+1,hi,by rw[show((lo:Int)+(hi:Int)) / 2+1=(((lo+hi) / 2+1:Nat):Int) by omega],rfl,by omega,qF,Nat.le_refl _,rfl,fun t ht=>?_,I.out.2⟩
     have:=S.out t ((lo+hi) / 2) (by omega) (by omega)
     rw[Y.out] at this;omega
   ·go_wp2_with (first|(go_at_call 236;refine(Gt _ _ _).mono ?_;rintro e w' ⟨rfl,rfl⟩)|(go_at_call 237;refine(D8 _ _).mono ?_;rintro e w' ⟨rfl,rfl⟩))
    go_roundg ((lo+hi) / 2-lo);case measure=>omega
    case rel =>
     refine⟨lo,(lo+hi) / 2,rfl,by rw[show((lo:Int)+(hi:Int)) / 2=(((lo+hi) / 2:Nat):Int) by omega],by omega,by omega,Nat.le_refl _,rfl,I.out.1,fun t ht htn=>?_⟩
     have:=S.out ((lo+hi) / 2) t ht htn;rw[Y.out] at this;omega
  ·have:hi=lo:=by omega
   subst this;obtain⟨e1,e2⟩:=Lib.search_end zs n hi x hz qF I.out.1 I.out.2 S.out;have E:=Hd e2;have E1:=Hd e1;clear e1 e2;by_cases hn:hi<n
   ·have cl:=HC.out hi (by omega)
    generalize hy:zs.getD hi 0=y at cl;have Y:=Hd hy;clear hy;by_cases hyx:y=x
    ·go_wp2_with (first|(go_at_call 236;refine(Gt _ _ _).mono ?_;rintro e w' ⟨rfl,rfl⟩)|(go_at_call 237;refine(D8 _ _).mono ?_;rintro e w' ⟨rfl,rfl⟩))
     go_ret2;refine⟨?_,rfl⟩;rw[E1.out,E.out,Y.out,decide_eq_true (show hi<n∧y=x from⟨hn,hyx⟩)]
     first|rfl|simp[*]
    ·go_wp2_with (first|(go_at_call 236;refine(Gt _ _ _).mono ?_;rintro e w' ⟨rfl,rfl⟩)|(go_at_call 237;refine(D8 _ _).mono ?_;rintro e w' ⟨rfl,rfl⟩))
     go_ret2;refine⟨?_,rfl⟩;rw[E1.out,E.out,Y.out,decide_eq_false (show ¬(hi<n∧y=x) from fun h=>hyx h.2)]
     first|rfl|simp[*]
   ·go_wp2_with (first|(go_at_call 236;refine(Gt _ _ _).mono ?_;rintro e w' ⟨rfl,rfl⟩)|(go_at_call 237;refine(D8 _ _).mono ?_;rintro e w' ⟨rfl,rfl⟩))
    go_ret2;refine⟨?_,rfl⟩;rw[E1.out,E.out,decide_eq_false (show ¬(hi<n∧_) from fun h=>hn h.1)]
    first|rfl|simp[*]
def Toks(w:World)(v:Value)(l:List (Bytes×Nat)):Prop:=Sl w v l.length 2 (dF l)
theorem Ap(l:List (Bytes×Nat))(k:Nat)(h:k<l.length):(dF l)[k*2]?=some (ak l[k].1)∧(dF l)[k*2+1]?=some (.int .i64 (l[k].2:Nat)):=by
 induction l generalizing k with
 | nil=>simp at h
 | cons d l ih =>
  have e:dF (d::l)=ak d.1::.int .i64 (d.2:Nat)::dF l:=by simp[dF]
  cases k with
  | zero=>rw[e];exact⟨rfl,rfl⟩
  | succ k =>
   have:=ih k (by simpa using h)
   rw[e,show(k+1)*2=k*2+1+1 by omega]
   exact this
theorem Toks.value{w:World}{v:Value}{l:List (Bytes×Nat)}(h:Toks w v l):∃a cap,v=.slice a l.length cap∧(0<l.length→∃b off,a=some ⟨b,off,none⟩∧∀j (hj:j<l.length),w.cell? ⟨b,off+j*2,none⟩=some (ak l[j].1)∧w.cell? ⟨b,off+j*2+1,none⟩=some (.int .i64 (l[j].2:Nat))):=by
 obtain⟨_,a,cap,h2,h3⟩:=h;refine⟨a,cap,h2,fun hn=>?_⟩
 obtain⟨b,off,h4,h5⟩:=h3 hn;exact⟨b,off,h4,fun j hj=>⟨h5 _ _ (Ap l j hj).1,by rw[Nat.add_assoc];exact h5 _ _ (Ap l j hj).2⟩⟩
theorem Toks.stays{w w':World}{v:Value}{l:List (Bytes×Nat)}(h:Toks w v l)(q:Q w w'):Toks w' v l:=Sl.stays h q
def PhPosts(w:World)(v:Value)(s:Bytes)(p:bP):Prop:=∃rs:List aR,rs.length=p.length∧Posts w v rs∧∀i (h:i<rs.length) (h':i<p.length),rs[i].2.2=placesIn s p[i].1
theorem PhPosts.stays{w w':World}{v:Value}{s:Bytes}{p:bP}(h:PhPosts w v s p)(q:Q w w'):PhPosts w' v s p:=by
 obtain⟨rs,h1,h2,h3⟩:=h;exact⟨rs,h1,h2.stays q,h3⟩
theorem PhPosts.value{w:World}{v:Value}{s:Bytes}{p:bP}(h:PhPosts w v s p):∃a cap,v=.slice a p.length cap∧(0<p.length→∃b off,a=some ⟨b,off,none⟩∧∀j (hj:j<p.length),∃pa pc,w.cell? ⟨b,off+j*2+1,none⟩=some (.slice pa (placesIn s p[j].1).length pc) ∧
  (placesIn s p[j].1≠[]→∃pb po,pa=some ⟨pb,po,none⟩∧∀i (hi:i<(placesIn s p[j].1).length),w.cell? ⟨pb,po+i,none⟩=some (.int .i64 (placesIn s p[j].1)[i]))):=by
 obtain⟨rs,hl,hp,hr⟩:=h;obtain⟨a,cap,h1,h2⟩:=hp.value;rw[hl] at h1;refine⟨a,cap,h1,fun hn=>?_⟩
 obtain⟨b,off,h3,h4⟩:=h2 (by omega)
 refine⟨b,off,h3,fun j hj=>?_⟩
 have Es:j<rs.length:=by omega
 obtain⟨pa,pc,h5,h6⟩:=(hp.2 rs[j] (List.getElem_mem Es)).value;have he:=hr j Es hj;have hc:=(h4 j Es).2;rw[h5] at hc;generalize rs[j].2.2=xs at *;subst he;exact⟨pa,pc,hc,fun aF=>h6 (List.length_pos_iff.2 aF)⟩
def wF(p:bP)(s:Bytes)(x:Int):Bool:=p.all fun t=>decide (x+(t.2:Int)∈placesIn s t.1)
theorem ae3(p:bP)(s:Bytes):countP p s=((placesIn s (p.headD ([],0)).1).filter (wF p s)).length:=rfl
theorem good_take(p:bP)(s:Bytes)(x:Int)(k:Nat)(h:k<p.length):wF (p.take (k+1)) s x=(wF (p.take k) s x&&(placesIn s p[k].1).contains (x+(p[k].2:Int))):=by
 unfold wF;rw[List.take_succ_eq_append_getElem h,List.all_append];simp only[List.all_cons,List.all_nil,Bool.and_true];congr 1;rw[Bool.eq_iff_iff,decide_eq_true_eq,List.contains_iff_mem]
theorem filt_take(l:List Int)(f:Int→Bool)(k:Nat)(h:k<l.length):((l.take (k+1)).filter f).length=((l.take k).filter f).length+(if f l[k] then 1 else 0):=by
 rw[List.take_succ_eq_append_getElem h,List.filter_append,List.length_append];cases hf:f l[k]<;>simp[hf]
theorem At_any(g:Value)(tv lv:Value)(wt:Int)(p:bP)(s:Bytes)(w:World)(ht:Toks w tv p)(hl:PhPosts w lv s p)(aF:0<p.length)(gQ:∀t∈p,placesIn s t.1≠[])(Ri:p.length≤1000000)(hs:s.length≤1000000)(oP:∀t∈p,t.2≤1000000):
  Calls Tryz.prog 234 #[.agg #[g,tv,.int .i64 wt],lv] w fun e w'=>e=.returned (.int .i64 (countP p s:Nat))∧Q w w':=by
 obtain⟨ta,tc,rfl,Z4⟩:=ht.value;obtain⟨la,lc,rfl,Dw⟩:=hl.value;obtain⟨tb,tf,rfl,JD⟩:=Z4 aF;obtain⟨lb,lo,rfl,jB⟩:=Dw aF;obtain⟨pa,pc,h0,h1⟩:=jB 0 aF;obtain⟨pb,po,rfl,sQ⟩:=h1 (gQ _ (List.getElem_mem aF));have OH:(p.headD ([],0)).1=p[0].1:=by cases p with|nil=>simp at aF|cons a b=>rfl
 have uX:=ae3 p s;rw[OH] at uX;obtain⟨P0,hP0⟩:∃P0,P0=placesIn s p[0].1:=⟨_,rfl⟩;obtain⟨vW,zu⟩:=H8 s p[0].1;rw[←hP0] at uX h0 sQ vW zu;simp only[Nat.zero_mul,Nat.add_zero] at h0;have aD:P0.length≤1000000:=by
  have:=(Bq (-1) P0 s.length (Pz (-1) P0 s.length vW zu) (by omega)).1
  omega
 have Wm:=Hd uX;have HT:=Hd JD;have HL:=Hd jB;have BQ:=Hd sQ;have Ul:=Hd zu;have XE:=Hd gQ;have qD:=Hd oP;have H0:=Hd h0;clear uX Z4 Dw JD jB sQ zu gQ oP vW ht hl h1 OH hP0 h0;generalize countP p s=res at *;obtain⟨np,rU⟩:∃np,np=p.length:=⟨_,rfl⟩;rw[←rU] at aF Ri ⊢;obtain⟨nP,Wo⟩:∃nP,nP=P0.length:=⟨_,rfl⟩;rw[←Wo] at aD;have H0':Hid (w.cell? ⟨lb,lo+1,none⟩=some (.slice (some ⟨pb,po,none⟩) nP pc)):=by rw[Wo];exact H0.out
 have Ir:=Hd rU;have aoR:=Hd Wo;clear rU Wo H0;have h0:=H0'.out;have iR:=Q.alloc w (.cells #[g,.slice (some ⟨tb,tf,none⟩) np tc,.int .i64 wt] 132);have gY:=Blk.new w 132 #[g,.slice (some ⟨tb,tf,none⟩) np tc,.int .i64 wt];have Gy:=ah iR h0;have Ij:(0:Int)<(np:Int):=by omega
 have jk:=Hd iR;have Rh:=Hd gY;clear iR gY h0;go_enter Tryz.func234,Tryz.ntmps234;go_wp2_with fail;go_loopw [5,18] (fun x i wr=>∃k:Nat,k≤nP∧i=.int .i64 (k:Nat)∧x=.int .i64 (((P0.take k).filter (wF p s)).length:Nat)∧Hid (Q w wr)∧Hid (Blk wr w.heap.size 132 #[g,.slice (some ⟨tb,tf,none⟩) np tc,.int .i64 wt])) (fun _ i _=>nP-(intOf i).toNat)
 case atStart=>exact⟨0,by omega,rfl,rfl,jk.out,Rh.out⟩
 case round =>
  obtain⟨k,hk,rfl,rfl,HQ,HK⟩:=hrel;clear Gy;obtain⟨wo,rfl⟩:∃wo:World,wo=wr:=⟨_,rfl⟩;by_cases hlt:k<nP
  ·have oN:k<P0.length:=by have:=aoR.out;omega
   have hx:=ah HQ.out (BQ.out k oN);have wN:=filt_take P0 (wF p s) k oN;have hxb:=Ul.out P0[k] (List.getElem_mem oN);generalize P0[k]=x at *;have rG:((P0.take k).filter (wF p s)).length≤1000000:=Nat.le_trans (List.length_filter_le _ _) (by rw[List.length_take];omega)
   generalize ((P0.take k).filter (wF p s)).length=cnt at *;obtain⟨x1,x2⟩:=hxb;have qE:x≤1000000:=by omega
   obtain⟨m0,m1,m2,_⟩:=HK.out.c3;have Wt:=Hd wN;clear wN oN;go_wp2_with fail;go_loopw [8,25] (fun al i wr=>∃j:Nat,j≤np∧i=.int .i64 (j:Nat)∧al=.bool (wF (p.take j) s x)∧Hid (Q w wr)∧Hid (Blk wr w.heap.size 132 #[g,.slice (some ⟨tb,tf,none⟩) np tc,.int .i64 wt])) (fun _ i _=>np-(intOf i).toNat)
   case atStart=>exact⟨0,by omega,rfl,rfl,HQ.out,HK.out⟩
   case round =>
    obtain⟨j,hj,rfl,rfl,aC,vP⟩:=hrel;clear m0 m1 m2 hx HQ HK;obtain⟨wo,rfl⟩:∃wo:World,wo=wr:=⟨_,rfl⟩;by_cases iI:j<np
    ·have zF:j<p.length:=by have:=Ir.out;omega
     obtain⟨t0,t1⟩:=HT.out j zF;have Ui:=good_take p s x j zF;obtain⟨qa,qc,l1,l2⟩:=HL.out j zF;obtain⟨qb,qo,rfl,l3⟩:=l2 (XE.out _ (List.getElem_mem zF));have htp:=qD.out _ (List.getElem_mem zF);obtain⟨vW,zu⟩:=H8 s p[j].1;generalize p[j]=tk at *;obtain⟨tt,tp⟩:=tk;simp only at t0 t1 Ui l1 l3 htp vW zu;generalize placesIn s tt=zs at *;have Ww:zs.length≤1000000:=by
      have:=(Bq (-1) zs s.length (Pz (-1) zs s.length vW zu) (by omega)).1
      omega
     have uU:zs.Pairwise (·≤·):=vW.imp (fun h=>Int.le_of_lt h)
     have u0:=ah aC.out t0;have u1:=ah aC.out t1;have u2:=ah aC.out l1;have gJ:Q w (wo.alloc (.cells #[ak tt,.int .i64 (tp:Nat)] 129)):=aC.out.trans (Q.alloc _ _);have hb:∀(n:Nat),Calls Tryz.prog 235 #[.slice (some ⟨qb,qo,none⟩) zs.length qc,.int .i64 (x+(tp:Int))] ((wo.alloc (.cells #[ak tt,.int .i64 (tp:Nat)] 129)).drewN n) fun e w''=>e=.returned (.tuple #[.int .i64 ((zs.countP (·<x+(tp:Int)):Nat):Int),.bool (zs.contains (x+(tp:Int)))])∧w''=(wo.alloc (.cells #[ak tt,.int .i64 (tp:Nat)] 129)).drewN n :=
      fun n=>(Bin_any qb qo qc zs (x+(tp:Int)) ((wo.alloc (.cells #[ak tt,.int .i64 (tp:Nat)] 129)).drewN n) (by omega) (fun i hi=>ah (gJ.trans (Q.drewN _ n)) (l3 i hi)) uU).mono fun e w' h=>⟨h.1,h.2.symm⟩
     have mP:=vP.out.alloc (.cells #[ak tt,.int .i64 (tp:Nat)] 129);obtain⟨y0,y1,_⟩:=(Blk.new wo 129 #[ak tt,.int .i64 (tp:Nat)]).c2;have u3:=ah (Q.alloc wo (.cells #[ak tt,.int .i64 (tp:Nat)] 129)) u2;have HB:=Hd hb;have aS:=Hd gJ;have AO:=Hd mP;have HGT:=Hd Ui;clear hb gJ mP Ui t0 t1 l1 l2 l3 vW zu uU zF u2 aC vP;have aoT:(0:Int)≤(j:Int):=by omega
     have atw:(j:Int)<(np:Int):=by omega
     have mY:IntKind.i64.wrap (x+(tp:Int))=x+(tp:Int):=IntWalk.i64_in _ (by omega)
     generalize wF (p.take j) s x=al at *;generalize zs.countP (·<x+(tp:Int))=ci at *
     generalize zs.contains (x+(tp:Int))=co at *;go_wp2_with fail;go_quiet ((go_at_call 235;exact Calls.quiet_of_same (HB.out _)));cases al with
     | true =>
      cases co with
      | true =>
       go_wp2_with fail;go_roundw;case rel=>exact⟨j+1,by omega,by go_num,by rw[HGT.out];rfl,aS.out.trans (Q.drewN _ _),AO.out.stays (Q.drewN _ _)⟩
       case measure=>simp[intOf];omega
      | false =>
       go_wp2_with fail;go_roundw;case rel=>exact⟨j+1,by omega,by go_num,by rw[HGT.out];rfl,aS.out.trans (Q.drewN _ _),AO.out.stays (Q.drewN _ _)⟩
       case measure=>simp[intOf];omega
     | false =>
      go_wp2_with fail;go_roundw;case rel=>exact⟨j+1,by omega,by go_num,by rw[HGT.out];rfl,aS.out.trans (Q.drewN _ _),AO.out.stays (Q.drewN _ _)⟩
      case measure=>simp[intOf];omega
    ·have qh:j=np:=by omega
     subst qh;have hg:wF (p.take j) s x=wF p s x:=by rw[Ir.out,List.take_length]
     rw[hg];have ai7:=Wt;have aS:=aC;have AO:=vP;clear hg Wt aC vP;cases Wz:wF p s x with
     | true =>
      have HF3:Hid (((P0.take (k+1)).filter (wF p s)).length=cnt+1):=by have:=ai7.out;rw[Wz] at this;exact this
      clear ai7 Wz;go_wp2_with fail;go_roundw;case rel=>exact⟨k+1,by omega,by go_num,by rw[HF3.out];go_num,aS,AO⟩
      case measure=>simp[intOf];omega
     | false =>
      have HF3:Hid (((P0.take (k+1)).filter (wF p s)).length=cnt):=by have:=ai7.out;rw[Wz] at this;exact this
      clear ai7 Wz;go_wp2_with fail;go_roundw;case rel=>exact⟨k+1,by omega,by go_num,by rw[HF3.out],aS,AO⟩
      case measure=>simp[intOf];omega
  ·have cO:k=nP:=by omega
   subst cO;have kU:((P0.take k).filter (wF p s)).length=res:=by rw[aoR.out,List.take_length];exact Wm.out.symm
   rw[kU];have aS:=HQ;clear kU HQ HK;go_wp2_with fail;go_ret;exact⟨rfl,aS.out⟩
end
section
structure PhSt (l:List au) (p:bP) (w:Nat) (doc i next:Nat) (rs:List aZ):Prop where
 len:rs.length=i
 lo:doc≤next
 no:∀j,doc≤j→j<next→kM l p w j=none
 each:∀k (h:k<rs.length) (h':k<p.length),∃(d:Nat) (e:au),l[d]?=some e∧rs[k]=((d:Int),placesIn e.2 p[k].1)∧placesIn e.2 p[k].1≠[]∧(rs.headD ((next:Int),[])).1≤(d:Int)∧d≤next
 hd:(doc:Int)≤(rs.headD ((next:Int),[])).1
theorem PhSt.start(l:List au)(p:bP)(w doc:Nat):PhSt l p w doc 0 doc [] :=
 ⟨rfl,Nat.le_refl _,fun j h1 h2=>by omega,fun k h=>absurd h (Nat.not_lt_zero _),Int.le_refl _⟩
theorem PhSt.none{l:List au}{p:bP}{w doc i next:Nat}{rs:List aZ}(h:PhSt l p w doc i next rs)(hi:i<p.length)(hf:tC p[i].1 l next=none):jd (kM l p w) doc none:=by
 intro j hj;by_cases JI:j<next
 ·exact h.no j hj JI
 ·exact Tt (List.getElem_mem hi) (fun e he=>Tq hf j e he (by omega))
theorem PhSt.step{l:List au}{p:bP}{w doc i next:Nat}{rs:List aZ}(h:PhSt l p w doc i next rs)(hi:i<p.length){x:aZ}(hf:tC p[i].1 l next=some x):
  ∃(d:Nat) (e:au),l[d]?=some e∧x=((d:Int),placesIn e.2 p[i].1)∧PhSt l p w doc (i+1) d (rs++[x]):=by
 obtain⟨d,e,h1,rfl,h3,h4,h5⟩:=LD hf;refine⟨d,e,h1,rfl,by simp[h.len],by have:=h.lo;omega,fun j j1 j2=>?_,fun k hk Co=>?_,?_⟩
 ·by_cases JI:j<next
  ·exact h.no j j1 JI
  ·exact Tt (List.getElem_mem hi) (fun y hy=>h5 j y hy (by omega) j2)
 ·by_cases tT:k<rs.length
  ·obtain⟨d',e',g1,g2,g3,g4,g5⟩:=h.each k tT Co
   refine⟨d',e',g1,by rw[List.getElem_append_left tT];exact g2,g3,?_,by omega⟩
   cases rs with
   | nil=>simp at tT
   | cons a b=>exact g4
  ·have cO:k=rs.length:=by simp at hk;omega
   subst cO;have uj:rs.length=i:=h.len;subst uj;refine⟨d,e,h1,by simp,h3,?_,Nat.le_refl _⟩
   cases rs with
   | nil=>simp
   | cons a b =>
    obtain⟨d',e',g1,g2,g3,g4,g5⟩:=h.each 0 (by simp) (by omega)
    simp only[List.getElem_cons_zero] at g2;simp only[List.cons_append,List.headD_cons];rw[g2];simp only;omega
 ·cases rs with
  | nil =>
   have:=h.lo;simp only[List.nil_append,List.headD_cons];omega
  | cons a b=>exact h.hd
theorem PhSt.one{l:List au}{p:bP}{w doc next:Nat}{rs:List aZ}(h:PhSt l p w doc p.length next rs)(hp:0<p.length)(x:aZ)(hx:rs[0]?=some x)(he:x.1=(next:Int)):
  ∃e,l[next]?=some e∧∀k (h:k<rs.length) (h':k<p.length),rs[k].2=placesIn e.2 p[k].1∧placesIn e.2 p[k].1≠[]:=by
 have hl:=h.len;cases rs with
 | nil=>simp at hl;omega
 | cons a b =>
  simp at hx;subst hx;obtain⟨d,e,g1,g2,g3,g4,g5⟩:=h.each 0 (by simp) hp
  simp only[List.headD_cons] at g4;have hd:d=next:=by omega
  subst hd;refine⟨e,g1,fun k hk Co=>?_⟩
  obtain⟨d',e',f1,f2,f3,f4,f5⟩:=h.each k hk Co;simp only[List.headD_cons] at f4;have:d'=d:=by omega
  subst this;rw[g1] at f1;cases f1;exact⟨by rw[f2],f3⟩
theorem PhSt.head_le{l:List au}{p:bP}{w doc next:Nat}{rs:List aZ}(h:PhSt l p w doc p.length next rs)(hp:0<p.length)(x:aZ)(hx:rs[0]?=some x):∃d:Nat,x.1=(d:Int)∧doc≤d∧d≤next∧d<l.length:=by
 have hl:=h.len;cases rs with
 | nil=>simp at hl;omega
 | cons a b =>
  simp at hx;subst hx;obtain⟨d,e,g1,g2,g3,g4,g5⟩:=h.each 0 (by simp) hp
  simp only[List.getElem_cons_zero] at g2;have hh:=h.hd;simp only[List.headD_cons] at hh;rw[g2] at hh ⊢;exact⟨d,rfl,by simpa using hh,g5,(List.getElem?_eq_some_iff.1 g1).1⟩
theorem ahx{l:List au}{p:bP}{w next:Nat}{e:au}(h1:l[next]?=some e):kM l p w next=if 0<countP p e.2 then some (countP p e.2*w) else none:=by
 unfold kM;rw[h1]
theorem countP_le(p:bP)(s:Bytes):countP p s≤(placesIn s (p.headD ([],0)).1).length:=List.length_filter_le _ _
end
section
open Go.RowKit
theorem ph_text{l:List au}(bD:fV l){i:Nat}{e:au}(h:l[i]?=some e):e.2.length≤2000:=(oI (bD.1 e (List.mem_of_getElem? h))).2
theorem ph_posts{w:World}{v:Value}{rs:List aR}{base base':Nat}{p:bP}{s:Bytes}(ho:w.ownsRow base 201 2 v rs.length (fH rs))(hr:∀r∈rs,w.ownsRow base' 3 1 r.2.1 r.2.2.length (kH r.2.2))(hl:rs.length=p.length)
  (he:∀k (h:k<(aK rs).length) (h':k<p.length),(aK rs)[k].2=placesIn s p[k].1∧placesIn s p[k].1≠[]):PhPosts w v s p :=
 ⟨rs,hl,⟨Sl.of_owns ho,fun r hr'=>Sl.of_owns (hr r hr')⟩,fun i h h'=>by
  have:=(he i (by simp[aK];exact h) h').1
  simpa[aK,postOf] using this⟩
theorem ahy(g:Nat)(tv:Value)(wt:Nat)(p:bP)(l:List au)(doc:Nat)(W:World)(hg:SegAt W g l (eF l))(ht:Toks W tv p)(hn:l.length≤500)(bD:fV l)(aF:0<p.length)(Ri:p.length≤1000000)(oP:∀t∈p,t.2≤1000000)(hw:wt≤1000000000)(hd:doc≤1000000):
  Calls Tryz.prog 232 #[.agg #[.pointer (some ⟨g,0,none⟩),tv,.int .i64 (wt:Nat)],.int .i64 (doc:Nat)] W fun e w'=>SeekEnd (kM l p wt) doc e∧Q W w':=by
 obtain⟨i0,hi,fJ,eU,fD⟩:=info_parts tinfoPo;have cf:=fun t doc W' hq=>Ze g l t doc W' (hg.stays hq) hn bD
 have cat:=fun (w':World) (hq:Q W w') lv s hl gQ hs=>At_any (.pointer (some ⟨g,0,none⟩)) tv lv (wt:Nat) p s w' (ht.stays hq) hl aF gQ Ri hs oP
 have xA:=fun i e=>ph_text bD (i:=i) (e:=e)
 obtain⟨ta,tc,rfl,Z4⟩:=ht.value;obtain⟨tb,tf,rfl,JD⟩:=Z4 aF;obtain⟨np,rU⟩:∃np,np=p.length:=⟨_,rfl⟩;rw[←rU] at aF Ri cat ⊢;have CF:=Hd cf;have CAT:=Hd cat;have HTX:=Hd xA;have HT:=Hd JD;have Ir:=Hd rU;clear cf cat xA Z4 JD hg ht bD oP rU;have iR:=Q.alloc W (.cells #[.pointer (some ⟨g,0,none⟩),.slice (some ⟨tb,tf,none⟩) np tc,.int .i64 (wt:Nat)] 132);have gY:=Blk.new W 132 #[.pointer (some ⟨g,0,none⟩),.slice (some ⟨tb,tf,none⟩) np tc,.int .i64 (wt:Nat)];have jk:=Hd iR;have Rh:=Hd gY;clear iR gY;go_enter Tryz.func232,Tryz.ntmps232;go_wp2_with fail;go_loopw [1] (fun i wr=>∃k:Nat,doc≤k∧k≤1000000∧i=.int .i64 (k:Nat)∧Hid (∀j,doc≤j→j<k→kM l p wt j=none)∧Hid (Q W wr)∧Hid (Blk wr W.heap.size 132 #[.pointer (some ⟨g,0,none⟩),.slice (some ⟨tb,tf,none⟩) np tc,.int .i64 (wt:Nat)])) (fun i _=>1000001-(intOf i).toNat)
 case atStart=>exact⟨doc,Nat.le_refl _,hd,rfl,fun j h1 h2=>by omega,jk.out,Rh.out⟩
 case round =>
  obtain⟨k,gY,hk,rfl,HN,HQ,HK⟩:=hrel;obtain⟨wo,rfl⟩:∃wo:World,wo=wr:=⟨_,rfl⟩;obtain⟨m0,m1,m2,_⟩:=HK.out.c3;go_wp2_with fail;go_loopw [7,8,18] (fun lv nx i wr=>∃(j nxt:Nat) (rs:List aR),j≤np∧nxt≤1000000∧i=.int .i64 (j:Nat)∧nx=.int .i64 (nxt:Nat)∧Hid (rs.length=j)∧Hid (PhSt l p wt k j nxt (aK rs))∧Hid (wr.ownsRow W.heap.size 201 2 lv j (fH rs))∧Hid (∀r∈rs,wr.ownsRow W.heap.size 3 1 r.2.1 r.2.2.length (kH r.2.2))∧Hid (Q W wr)∧Hid (Blk wr W.heap.size 132 #[.pointer (some ⟨g,0,none⟩),.slice (some ⟨tb,tf,none⟩) np tc,.int .i64 (wt:Nat)])) (fun _ _ i _=>np-(intOf i).toNat)
  case atStart=>exact⟨0,k,[],by omega,hk,rfl,rfl,rfl,PhSt.start l p wt k,World.ownsRow_nil _ _ _ _,fun r hr=>by simp at hr,HQ.out,HK.out⟩
  case round =>
   obtain⟨j,nxt,rs,hj,kR,rfl,rfl,Dr,XF,HO,HR,aC,vP⟩:=hrel;clear m0 m1 m2 HQ HK;obtain⟨wo,rfl⟩:∃wo:World,wo=wr:=⟨_,rfl⟩;by_cases iI:j<np
   ·have zF:j<p.length:=by have:=Ir.out;omega
    obtain⟨t0,t1⟩:=HT.out j zF;have u0:=ah aC.out t0;have u1:=ah aC.out t1;obtain⟨n0,n1,n2,_⟩:=vP.out.c3;have bV:=fun x (hf:tC p[j].1 l nxt=some x)=>XF.out.step zF hf
    have yw:=fun (hf:tC p[j].1 l nxt=none)=>XF.out.none zF hf
    generalize p[j]=tk at *;obtain⟨tt,tp⟩:=tk;simp only at t0 t1 u0 u1 bV yw;have gJ:Q W (wo.alloc (.cells #[ak tt,.int .i64 (tp:Nat)] 129)):=aC.out.trans (Q.alloc _ _);have cf:=CF.out tt nxt _ gJ;obtain⟨y0,y1,_⟩:=(Blk.new wo 129 #[ak tt,.int .i64 (tp:Nat)]).c2;have v0:=ah (Q.alloc wo (.cells #[ak tt,.int .i64 (tp:Nat)] 129)) n0;have aoT:(0:Int)≤(j:Int):=by omega
    have atw:(j:Int)<(np:Int):=by omega
    have dS:W.heap.size≤(wo.alloc (.cells #[ak tt,.int .i64 (tp:Nat)] 129)).heap.size:=gJ.size;have C:=Hd cf;have Oy:=Hd bV;have ai8:=Hd yw;have aS:=Hd gJ;clear cf bV yw t0 t1 zF gJ XF n0 n1 n2;generalize tC tt l nxt=r at *;go_wp2_with fail;refine C.out.mono ?_;rintro e w1 ⟨hf,q1⟩;have bZ:=Hd (aS.out.trans q1);cases r with
    | none =>
     simp only[UQ] at hf;subst hf;have HX:=Hd (next_skip gY HN.out (ai8.out rfl));clear q1 C Oy ai8 y0 y1 v0 u0 u1 HO HR vP aC aS HN;go_wp2_with fail;go_ret3;exact⟨SeekEnd.no (d:=0) (s:=0) rfl HX.out,bZ.out.trans (Q.alloc _ _)⟩
    | some x =>
     obtain⟨pv,rfl,ho⟩:=hf;obtain⟨d,e,wT,rfl,xM⟩:=Oy.out _ rfl;have hd5:d<l.length:=(List.getElem?_eq_some_iff.1 wT).1;simp only at ho;generalize placesIn e.2 tt=ps at *;obtain⟨pa,jc,rfl,_⟩:=aT ho;have q2:Q wo w1:=(Q.alloc _ _).trans q1;have xw:=dO ho dS;have qa:=Q.alloc w1 (.cells #[.int .i64 (d:Int),.slice pa ps.length jc] 201);have jI:=ownsRow_below (ownsRow_below HO.out q2) qa;have jG:∀r∈rs,(w1.alloc (.cells #[.int .i64 (d:Int),.slice pa ps.length jc] 201)).ownsRow W.heap.size 3 1 r.2.1 r.2.2.length (kH r.2.2):=fun r hr=>ownsRow_below (ownsRow_below (HR.out r hr) q2) qa
     have Un:=ownsRow_below xw qa;have mP:=(vP.out.stays q2).stays qa;have KR:=bZ.out.trans qa;obtain⟨z0,z1,_⟩:=(Blk.new w1 201 #[.int .i64 (d:Int),.slice pa ps.length jc]).c2;have aY:W.heap.size≤(w1.alloc (.cells #[.int .i64 (d:Int),.slice pa ps.length jc] 201)).heap.size:=KR.size;have zu:j≤1000000:=by omega
     have aoV:=Hd xM;have BK:=Hd jG;have Sb:=Hd Un;have AO:=Hd mP;have pF:=Hd KR;clear q1 C Oy ai8 y0 y1 v0 u0 u1 HO HR vP aC aS ho xM xw qa jG Un mP KR q2 wT bZ;go_wp2_with (at_builtin;go_must (refine cZ (w1.alloc (.cells #[.int .i64 (d:Int),.slice pa ps.length jc] 201)) (by rfl) _ _ 157 (by rfl) W.heap.size 201 _ i0 (.agg #[.int .i64 0,.slice none 0 0]) 2 32 Tryz.underlying157 hi fJ eU fD rfl (by decide) (by decide) _ _ _ (by rfl) jI #[.int .i64 (d:Int),.slice pa ps.length jc] (by simp[Act.eval]) rfl ?c1 ?c2 aY ?_))
     case c1=>simp[Value.oneCell']
     case c2=>omega
     intro g6 cap6 w6 aW dB iL uz tq;have q6:Q W w6:=aL pF.out jI dB (Nat.le_refl _) (by omega)
     have k6:=lW AO.out jI dB (by decide)
     have r6:∀r∈rs++[((d:Int),Value.slice pa ps.length jc,ps)],w6.ownsRow W.heap.size 3 1 r.2.1 r.2.2.length (kH r.2.2):=fun r hr=>by
      rcases List.mem_append.1 hr with hr|hr
      ·exact iW (BK.out r hr) jI dB (by decide)
      ·rw[List.mem_singleton] at hr
       subst hr;exact iW Sb.out jI dB (by decide)
     have aW:w6.ownsRow W.heap.size 201 2 (.slice (some ⟨g6,0,none⟩) (j+1) cap6) (j+1) (fH (rs++[((d:Int),Value.slice pa ps.length jc,ps)])):=by
      have e:fH (rs++[((d:Int),Value.slice pa ps.length jc,ps)])=fH rs++[.int .i64 (d:Int),.slice pa ps.length jc]:=by simp[fH]
      rw[e];simpa using aW
     have aoW:PhSt l p wt k (j+1) d (aK (rs++[((d:Int),Value.slice pa ps.length jc,ps)])):=by
      have e:aK (rs++[((d:Int),Value.slice pa ps.length jc,ps)])=aK rs++[((d:Int),ps)]:=by simp[aK,postOf]
      rw[e];exact aoV.out
     have rH:=Hd aW;have fQ:=Hd q6;have QX:=Hd r6;have HK6:=Hd k6;have atx:=Hd aoW;clear aW q6 dB iL jI r6 k6 aoW aoV pF AO z0 z1 BK Sb;go_wp2_with fail;go_roundw;case rel=>exact⟨j+1,d,rs++[((d:Int),Value.slice pa ps.length jc,ps)],by omega,by omega,by go_num,rfl,by show _=_;rw[List.length_append,Dr.out];rfl,atx,rH,QX,fQ,HK6⟩
     case measure=>simp[intOf];omega
   ·have qh:j=np:=by omega
    subst qh;have BI:=Dr.out;have hP:Posts wo _ rs:=⟨by have:=Sl.of_owns HO.out;rw[←BI] at this;exact this,fun r hr=>Sl.of_owns (HR.out r hr)⟩
    have gQ:p.length=rs.length:=by have:=Ir.out;omega
    have alx:=fun (e:au) dI=>ph_posts (p:=p) (s:=e.2) (by have:=HO.out;rw[←BI] at this;exact this) HR.out gQ.symm dI
    obtain⟨a,cap,hv,EI⟩:=hP.value;rw[BI] at hv;obtain⟨b,off,Az,hvc⟩:=EI (by omega)
    subst Az;subst hv;have Xa:0<rs.length:=by omega
    obtain⟨Gy,_⟩:=hvc 0 Xa;simp only[Nat.zero_mul,Nat.add_zero] at Gy;have xM:PhSt l p wt k p.length nxt (aK rs):=by rw[gQ,BI];exact XF.out
    have Ql:(aK rs)[0]?=some (rs[0].1,rs[0].2.2):=by simp[aK,postOf,List.getElem?_eq_getElem Xa]
    obtain⟨d0,Uo,Sg,R8,ku⟩:=xM.head_le (by omega) _ Ql
    simp only at Uo;rw[Uo] at Gy;obtain⟨m0,m1,m2,_⟩:=vP.out.c3;have Qq:(0:Int)<(j:Int):=by omega
    by_cases he:d0=nxt
    ·subst he
     obtain⟨e,WK,dI⟩:=xM.one (by omega) _ Ql Uo
     have aoY:∀t∈p,placesIn e.2 t.1≠[]:=fun t ht=>by
      obtain⟨i,hi,rfl⟩:=List.getElem_of_mem ht;exact(dI i (by simp[aK];omega) hi).2
     have uY:=alx e dI;have cat:=CAT.out wo aC.out _ e.2 uY aoY (Nat.le_trans (HTX.out _ _ WK) (by decide))
     have Vl:=ahx (p:=p) (w:=wt) WK;have lD:countP p e.2≤1000000:=by
      have h1:=countP_le p e.2;have h2:(placesIn e.2 (p.headD ([],0)).1).length≤(aA e.2).length:=List.length_filterMap_le _ _;have h3:=(lM e.2 (HTX.out _ _ WK)).1;omega
     have ax8:d0≤900000:=by omega
     have C:=Hd cat;have HY:=Hd Vl;have nN:=Hd xM.no;have Qm:=HN;clear cat Vl uY alx aoY dI WK xM Ql hvc EI hP XF HO HR Uo HN BI gQ Dr;generalize countP p e.2=cnt at *;go_wp2_with fail;refine C.out.mono ?_;rintro e2 w2 ⟨rfl,q2⟩;have aS:=Hd (aC.out.trans q2);have AO:=Hd (vP.out.stays q2);clear q2 C m0 m1 m2 Gy aC vP;obtain⟨m0,m1,m2,_⟩:=AO.out.c3;by_cases XC:0<cnt
     ·have hy:kM l p wt d0=some (cnt*wt):=by rw[HY.out,if_pos XC]
      have Sc:decide ((0:Int)<(cnt:Int))=true:=decide_eq_true (by omega)
      have ET:cnt*wt≤1000000000000000:=Nat.mul_le_mul lD hw;have La:IntKind.i64.wrap ((cnt:Int)*(wt:Int))=((cnt*wt:Nat):Int):=by rw[←Int.natCast_mul];exact IntWalk.i64_in _ (by omega)
      have hX:jd (kM l p wt) doc (some (d0,cnt*wt)):=⟨by omega,hy,fun j h1 h2=>by
       by_cases hj:j<k
       ·exact Qm.out j h1 hj
       ·exact nN.out j (by omega) h2⟩
      have HX:=Hd hX;clear hX hy HY nN Qm;go_wp2_with fail;go_quiet (fail);go_wp2_with fail;go_ret3;exact⟨SeekEnd.yes (d:=d0) (s:=cnt*wt) (by first|rfl|simp[La]) HX.out,by first|exact aS.out|exact aS.out.trans (Q.drewN _ _)⟩
     ·have aty:cnt=0:=by omega
      subst aty;have hy:kM l p wt d0=none:=by rw[HY.out,if_neg XC]
      have fE:∀j,doc≤j→j<d0+1→kM l p wt j=none:=fun j h1 h2=>by
       by_cases hj:j<k
       ·exact Qm.out j h1 hj
       ·by_cases ER:j<d0
        ·exact nN.out j (by omega) ER
        ·rw[show j=d0 by omega];exact hy
      have kQ:=Hd fE;clear fE hy HY nN Qm XC;go_wp2_with fail;go_roundw;case rel=>exact⟨d0+1,by omega,by omega,by go_num,kQ,aS,AO⟩
      case measure=>simp[intOf];omega
    ·have hb:((d0:Int)==(nxt:Int))=false:=beq_eq_false_iff_ne.2 (by omega)
     have fE:∀j,doc≤j→j<nxt→kM l p wt j=none:=fun j h1 h2=>by
      by_cases hj:j<k
      ·exact HN.out j h1 hj
      ·exact xM.no j (by omega) h2
     have kQ:=Hd fE;clear fE xM Ql hvc EI hP XF HO HR Uo HN alx BI gQ Dr;go_wp2_with fail;go_roundw;case rel=>exact⟨nxt,by omega,kR,rfl,kQ,aC,vP⟩
     case measure=>simp[intOf];omega
def nK(l:bP)(k:Nat):bP:=(l.take k).map (fun t=>(t.1,t.2-(l.headD ([],0)).2))++l.drop k
theorem abX(l:bP):nK l 0=l:=by simp[nK]
theorem ae4(l:bP):nK l l.length=kY l:=by simp[nK,kY]
theorem ae5(l:bP)(k:Nat):(nK l k).length=l.length:=by simp[nK];omega
theorem ahz(l:bP)(k:Nat)(h:k<l.length):(nK l k)[k]?=some l[k]:=by
 unfold nK;rw[List.getElem?_append_right (by simp;omega),List.getElem?_drop]
 simp only[List.length_map,List.length_take,Nat.min_eq_left (Nat.le_of_lt h),Nat.sub_self,Nat.add_zero];exact List.getElem?_eq_getElem h
theorem abY(l:bP)(k:Nat)(h:k<l.length):(nK l k).set k (l[k].1,l[k].2-(l.headD ([],0)).2)=nK l (k+1):=by
 unfold nK;rw[List.set_append,if_neg (by simp;omega)]
 simp only[List.length_map,List.length_take,Nat.min_eq_left (Nat.le_of_lt h),Nat.sub_self];rw[List.drop_eq_getElem_cons h,List.set_cons_zero,List.take_succ_eq_append_getElem h,List.map_append,List.append_assoc];rfl
theorem tokVs_set(l:bP)(i:Nat)(hi:i<l.length)(x:Nat):(dF l).set (i*2+1) (.int .i64 (x:Nat))=dF (l.set i (l[i].1,x)):=by
 induction l generalizing i with
 | nil=>simp at hi
 | cons t l ih =>
  have e:∀(t:Bytes×Nat) (l:bP),dF (t::l)=ak t.1::.int .i64 (t.2:Nat)::dF l:=by intros;simp[dF]
  rw[e];cases i with
  | zero=>rw[List.set_cons_zero,e];rfl
  | succ i =>
   rw[show(i+1)*2+1=(i*2+1)+1+1 by omega]
   simp only[List.set_cons_succ,List.getElem_cons_succ];rw[ih i (by simpa using hi),e]
theorem owns_thaw{w:World}{base:Nat}{e:TypeId}{size:Nat}{g n cap:Nat}{xs:List Value}(h:w.ownsRow base e size (.slice (some ⟨g,0,none⟩) n cap) n xs)(i:Nat):w.frozen? ⟨g,i,none⟩=false:=by
 obtain⟨cs,hc⟩:=jE h g rfl;simp[World.frozen?,hc]
theorem KC{w:World}{base:Nat}{e:TypeId}{size:Nat}{g n cap:Nat}{xs:List Value}(h:w.ownsRow base e size (.slice (some ⟨g,0,none⟩) n cap) n xs)(hn:0<n)(i:Nat)(u:Value)(hu:xs[i]?=some u):w.cell? ⟨g,i,none⟩=some u:=by
 obtain⟨_,a,c,hv,hc⟩:=Sl.of_owns h;obtain⟨b,off,hb,bC⟩:=hc hn;have Jy:some ⟨g,0,none⟩=a:=by cases hv;rfl
 rw[hb] at Jy;cases Jy;have:=bC i u hu;rwa [Nat.zero_add] at this
theorem abZ(s:Bytes)(k:Nat)(h:k<(aA s).length):((aA s).headD ([],0)).2≤(aA s)[k].2:=by
 have hr:=(qQ s).1;generalize aA s=l at *;cases l with
 | nil=>simp at h
 | cons x l =>
  cases k with
  | zero=>exact Nat.le_refl _
  | succ k =>
   rw[List.map_cons,List.pairwise_cons] at hr;have hk:k<l.length:=by simpa using h
   have:=hr.1 l[k].2 (List.mem_map.2 ⟨l[k],List.getElem_mem _,rfl⟩);simp only[List.headD_cons,List.getElem_cons_succ];omega
theorem ae6(s:Bytes)(w:World)(hs:s.length≤1000000)(hT:Tabs w)(gG:Spans w):
  Calls Tryz.prog 51 #[ak s] w fun e w'=>∃v,e=.returned (.tuple #[v,.bool (!(ay s).isEmpty)])∧w'.ownsRow w.heap.size 129 2 v (ay s).length (dF (ay s))∧Q w w':=by
 have c:=V6 s w (by omega) hT gG
 have hlt:∀x∈aA s,x.2≤1000000:=fun x hx=>by have:=((qQ s).2 x hx).2.2;omega
 have vk:(aA s).length≤1000001:=by
  have h2:=sK (bT s) 0;have h3:=(uJ s).1;unfold aA;omega
 have bR:=abZ s;have xM:ay s=kY (aA s):=rfl;rw[xM];generalize aA s=l at *;have C:=Hd c;have Lc:=Hd hlt;have Lh:=Hd bR;clear c hlt bR xM hT gG;go_enter Tryz.func51,Tryz.ntmps51;go_wp2_with fail;refine C.out.mono ?_;rintro e w1 ⟨v,rfl,ho,q1⟩;obtain⟨a,cap,rfl,lT⟩:=aT ho;by_cases h0:l.length=0
 ·have hl:l=[]:=List.eq_nil_of_length_eq_zero h0
  subst hl;have HQ:=Hd q1;clear C ho lT q1 Lc Lh;go_wp2_with fail;go_ret2;exact⟨_,rfl,World.ownsRow_nil _ _ _ _,HQ.out⟩
 ·obtain⟨g,rfl⟩:=lT (by omega)
  have aF:(kY l).isEmpty=false:=by cases l with|nil=>simp at h0|cons a b=>rfl
  have Gy:w1.cell? ⟨g,1,none⟩=some (.int .i64 (l[0].2:Nat)):=KC ho (by omega) 1 _ (by have:=(Ap l 0 (by omega)).2;simpa using this)
  have hf:(l.headD ([],0)).2=l[0].2:=by cases l with|nil=>simp at h0|cons a b=>rfl
  have C8:=Lc.out l[0] (List.getElem_mem (by omega))
  obtain⟨n,hn⟩:∃n,n=l.length:=⟨_,rfl⟩;have uZ:=Hd aF;have HO:=Hd ho;have HQ:=Hd q1;have HF:=Hd hf;have HN:=Hd hn;rw[←hn] at h0 vk ⊢;have Qq:(0:Int)<(n:Int):=by omega
  have hz:((n:Int)==0)=false:=beq_eq_false_iff_ne.2 (by omega)
  clear ho q1 C hf aF hn;generalize Rj:l[0].2=f at *;clear Rj lT;go_wp2_with fail;go_loopw [18] (fun i wr=>∃k:Nat,k≤n∧i=.int .i64 (k:Nat)∧Hid (wr.ownsRow w.heap.size 129 2 (.slice (some ⟨g,0,none⟩) n cap) n (dF (nK l k)))∧Hid (Q w wr)) (fun i _=>n-(intOf i).toNat)
  case atStart=>exact⟨0,by omega,rfl,by rw[abX,HN.out];exact HO.out,HQ.out⟩
  case round =>
   obtain⟨k,hk,rfl,jH,aC⟩:=hrel;obtain⟨wo,rfl⟩:∃wo:World,wo=wr:=⟨_,rfl⟩;clear Gy;by_cases hlt:k<n
   ·have oN:k<l.length:=by have:=HN.out;omega
    have ha:=ahz l k oN;have bY:k<(nK l k).length:=by rw[ae5];exact oN
    have Gb:(nK l k)[k]=l[k]:=by rw[List.getElem?_eq_getElem bY] at ha;exact Option.some.inj ha
    have gX:=KC jH.out (by omega) (k*2+1) _ (by rw[(Ap (nK l k) k bY).2,Gb])
    have Ch:=owns_thaw jH.out (k*2+1);have dS:=Lc.out l[k] (List.getElem_mem oN);have aO:=Lh.out k oN;rw[HF.out] at aO;have aI:=abY l k oN;rw[HF.out] at aI;have vg:(dF (nK l k)).length=n*2:=jH.out.1;have jI:=NY jH.out (k*2+1) (by omega) (.int .i64 ((l[k].2-f:Nat):Int))
    rw[tokVs_set (nK l k) k bY (l[k].2-f),Gb,aI] at jI;have hgw:w.heap.size≤g:=(jH.out.lt g rfl).1;have gJ:Q w (wo.setCell ⟨g,k*2+1,none⟩ (.int .i64 ((l[k].2-f:Nat):Int))):=aC.out.setCell hgw _;have CQ:((l[k].2-f:Nat):Int)=(l[k].2:Int)-(f:Int):=by omega
    have La:IntKind.i64.wrap ((l[k].2:Int)-(f:Int))=(l[k].2:Int)-(f:Int):=IntWalk.i64_in _ (by omega)
    rw[CQ] at jI gJ;have hi1:(k:Int)<(n:Int):=by omega
    have mD:(0:Int)≤(k:Int):=by omega
    have rF:=Hd jI;have aS:=Hd gJ;clear jI gJ aI ha Gb bY jH aC CQ;generalize l[k].2=pk at *;go_wp2_with fail;go_roundw;case rel=>exact⟨k+1,by omega,by go_num,rF,aS⟩
    case measure=>simp[intOf];omega
   ·have cO:k=n:=by omega
    subst cO;have ho:=jH.out;rw[HN.out,ae4,←HN.out] at ho;have sO:k=(kY l).length:=by rw[HN.out];simp[kY]
    have rF:=Hd ho;have HL:=Hd sO;clear ho jH sO;go_wp2_with fail;go_ret2;exact⟨_,by rw[uZ.out];rfl,by rw[←HL.out];exact rF.out,aC.out⟩
theorem IsWk.wide{z z':Zone}{n B:Nat}{w:World}{v:Value}{F:DF}(h:IsWk z n B w v F)(h1:z.n≤z'.n)(h2:z'.lo≤z.lo)(h3:z.hi≤z'.hi):IsWk z' n B w v F:=by
 obtain⟨t,x,g,e1,e2,e3,e4⟩:=h.is;exact⟨h.fits,t,x,g,e1,e2,e3,fun W doc hq hd=>e4 W doc (hq.wide h1 h2 h3) hd⟩
theorem IsWk.refit{z:Zone}{n B n' B':Nat}{w:World}{v:Value}{F G:DF}(h:IsWk z n B w v F)(hg:F=G)(hf:∀i s,G i=some s→i<n'∧s≤B'):IsWk z n' B' w v G:=by
 subst hg;exact⟨hf,h.is⟩
theorem WksAt.wide{z z':Zone}{n B:Nat}{w:World}{v:Value}{Fs:List DF}(h:WksAt z n B w v Fs)(h1:z.n≤z'.n)(h2:z'.lo≤z.lo)(h3:z.hi≤z'.hi):WksAt z' n B w v Fs:=by
 obtain⟨vs,e1,e2⟩:=h;exact⟨vs,e1.wide h2 h3,fun i hi u hu=>(e2 i hi u hu).wide h1 h2 h3⟩
theorem WksAt.nil(z:Zone)(n B:Nat)(w:World):WksAt z n B w (.slice none 0 0) []:=⟨[],SlW.nil z w 1,fun i h=>absurd h (Nat.not_lt_zero _)⟩
theorem Ws.later{z:Zone}{w₀ w W:World}(h:Ws z w W)(hq:Q w₀ w)(hz:z.n=w₀.heap.size):Q w₀ W:=by
 have hb:=h.below (by rw[hz];exact hq.size)
 rw[hz] at hb;exact Below.trans hq hb
theorem Cs.grown{n₀:Nat}{A B C:World}(h:Cs n₀ A B){base:Nat}{e:TypeId}{size:Nat}{v:Value}{k:Nat}{xs:List Value}(ho:B.ownsRow base e size v k xs)(hg:B.grownBy C v.ownBlock)(hb:A.heap.size≤base)(hn:n₀≤base):Cs n₀ A C :=
 ⟨hg.os.trans h.os,hg.tape.trans h.tape,hg.output.trans h.output,Nat.le_trans h.size hg.size,
  fun i h1 h2 h3=>(hg.block i (Nat.lt_of_lt_of_le h2 h.size) (fun e'=>by have:=(ho.lt i e'.symm).1;omega)).trans (Itk.low h i h1 h2 h3),
  fun i o h1 h2 h3=>(hg.block i (Nat.lt_of_lt_of_le (aU h1) h.size) (fun e'=>by have:=(ho.lt i e'.symm).1;have:=aU h1;omega)).trans (Itk.cells h i o h1 h2 h3)⟩
structure SrH (w₀:World) (pv:Value) (ps:List aG) (wt:Bytes→Nat):Prop where
 parts:PartsAt w₀ pv ps
 ok:∀p∈ps,PartOk p
 len:ps.length≤1000
 wt:∀t,wt t=wtL (aH ps) t
 tabs:Tabs w₀
 spans:Spans w₀
theorem SrH.wt_le{w₀:World}{pv:Value}{ps:List aG}{wt:Bytes→Nat}(h:SrH w₀ pv ps wt)(t:Bytes):wt t≤63:=by
 have hl:=Fj ps (fun p hp=>(h.ok p hp).2.2.1)
 have:=h.len;rw[h.wt];exact wtL_le _ (by omega) t
theorem ahA(l:List au)(t:Bytes)(hl:∀d∈l,d.2.length≤2000)(i s:Nat)(h:oC l t i=some s):i<l.length∧s≤2001:=by
 unfold oC at h;cases hd:l[i]? with
 | none=>rw[hd] at h;cases h
 | some d =>
  rw[hd] at h;simp only at h;split at h
  ·cases h
  ·cases h
   have h1:(placesIn d.2 t).length≤(aA d.2).length:=List.length_filterMap_le _ _;have h2:=(lM d.2 (hl d (List.mem_of_getElem? hd))).1;exact⟨(List.getElem?_eq_some_iff.1 hd).1,by omega⟩
theorem II{l:List au}(bD:fV l):∀d∈l,d.2.length≤2000:=fun d hd=>(oI (bD.1 d hd)).2
theorem IsWk.term{z:Zone}{w₀ w:World}{g:Nat}{l:List au}(t:Bytes)(hg:SegAt w₀ g l (eF l))(hq:Q w₀ w)(hz:z.n=w₀.heap.size)(hn:l.length≤500)(bD:fV l):
  IsWk z l.length 2001 w (.iface 174 (.agg #[.pointer (some ⟨g,0,none⟩),ak t])) (oC l t) :=
 ⟨ahA l t (II bD),_,_,238,rfl,fun W=>by kernel_rfl,enters_of Tryz.func238 (by kernel_rfl) rfl,
  fun W doc hW hd=>Term_any g l t doc W (hg.stays (hW.later hq hz)) hn bD⟩
theorem IsWk.phrase{z:Zone}{w₀ w:World}{g:Nat}{l:List au}{tv:Value}{p:bP}{wt n B:Nat}(hg:SegAt w₀ g l (eF l))(hq:Q w₀ w)(hz:z.n=w₀.heap.size)(hn:l.length≤500)(bD:fV l)(ht:SlW z w tv p.length 2 (dF p))
  (aF:0<p.length) (Ri:p.length≤1000000) (oP:∀t∈p,t.2≤1000000) (hw:wt≤1000000000) (hf:∀i s,kM l p wt i=some s→i<n∧s≤B) :
  IsWk z n B w (.iface 132 (.agg #[.pointer (some ⟨g,0,none⟩),tv,.int .i64 (wt:Nat)])) (kM l p wt) :=
 ⟨hf,_,_,232,rfl,fun W=>by kernel_rfl,enters_of Tryz.func232 (by kernel_rfl) rfl,
  fun W doc hW hd=>ahy g tv wt p l doc W (hg.stays (hW.later hq hz)) (hW.sl ht).1 hn bD aF Ri oP hw hd⟩
theorem tinfoWk:(Tryz.prog.info? 77).map (fun i=>(i.zero,i.size,i.bytes))=some (some .nilIface,1,16):=by kernel_rfl
structure WkRow (n₀ lo n B:Nat) (w:World) (v:Value) (Fs:List DF):Prop where
 row:∃vs:List Value,w.ownsRow lo 77 1 v Fs.length vs∧∀i (h:i<Fs.length) u,vs[i]?=some u→∃a b,lo≤a∧b≤w.heap.size∧(∀g,v.ownBlock=some g→g<a∨b≤g)∧IsWk ⟨n₀,a,b⟩ n B w u Fs[i]
theorem WkRow.nil(n₀ lo n B:Nat)(w:World):WkRow n₀ lo n B w (.slice none 0 0) []:=⟨[],World.ownsRow_nil _ _ _ _,fun i h=>absurd h (Nat.not_lt_zero _)⟩
theorem WkRow.done{n₀ lo n B:Nat}{w:World}{v:Value}{Fs:List DF}(h:WkRow n₀ lo n B w v Fs):WksAt ⟨n₀,lo,w.heap.size⟩ n B w v Fs:=by
 obtain⟨vs,h1,h2⟩:=h.row;refine⟨vs,SlW.of_owns h1 (Nat.le_refl _) (Nat.le_refl _),fun i hi u hu=>?_⟩
 obtain⟨a,b,k1,k2,_,k4⟩:=h2 i hi u hu;exact k4.wide (Nat.le_refl _) k1 k2
theorem WkRow.stays{n₀ lo n B:Nat}{w w':World}{v:Value}{Fs:List DF}(h:WkRow n₀ lo n B w v Fs)(c:Cs n₀ w w'):WkRow n₀ lo n B w' v Fs:=by
 obtain⟨vs,h1,h2⟩:=h.row;refine⟨vs,c.owns h1,fun i hi u hu=>?_⟩
 obtain⟨a,b,k1,k2,k3,k4⟩:=h2 i hi u hu;exact⟨a,b,k1,Nat.le_trans k2 c.size,k3,k4.stays (Ws.of_cs c (Nat.le_refl _))⟩
theorem WkRow.grown{n₀ lo n B:Nat}{w w':World}{v u:Value}{Fs:List DF}{F:DF}{vs:List Value}{g cap:Nat}(BO:n₀≤lo)(h1:w.ownsRow lo 77 1 v Fs.length vs)
  (h2:∀i (h:i<Fs.length) u,vs[i]?=some u→∃a b,lo≤a∧b≤w.heap.size∧(∀g,v.ownBlock=some g→g<a∨b≤g)∧IsWk ⟨n₀,a,b⟩ n B w u Fs[i])
  (a b:Nat) (ha:lo≤a) (hb:b≤w.heap.size) (Ur:∀g,v.ownBlock=some g→g<a∨b≤g) (hu:IsWk ⟨n₀,a,b⟩ n B w u F)
  (ho:w'.ownsRow lo 77 1 (.slice (some ⟨g,0,none⟩) (Fs.length+1) cap) (Fs.length+1) (vs++[u])) (hg:w.grownBy w' v.ownBlock) (lN:v.ownBlock=some g∨w.heap.size<g) :
  WkRow n₀ lo n B w' (.slice (some ⟨g,0,none⟩) (Fs.length+1) cap) (Fs++[F]):=by
 have Dp:vs.length=Fs.length:=by have:=h1.1;omega
 have key:∀a b,lo≤a→b≤w.heap.size→(∀g,v.ownBlock=some g→g<a∨b≤g)→Ws ⟨n₀,a,b⟩ w w'∧∀g',Value.ownBlock (.slice (some ⟨g,0,none⟩) (Fs.length+1) cap)=some g'→g'<a∨b≤g':=fun a b ha hb Ur=>by
  refine⟨Ws.grown hg (fun k hk=>⟨?_,Ur k hk⟩),fun g' uL=>?_⟩
  ·have:=(h1.lt k hk).1
   show n₀≤k;omega
  ·have e:g'=g:=by simpa[Value.ownBlock] using uL.symm
   subst e;rcases lN with h|h
   ·exact Ur _ h
   ·exact .inr (by omega)
 refine⟨vs++[u],by rw[List.length_append];exact ho,fun i hi x hx=>?_⟩
 by_cases uj:i<Fs.length
 ·rw[List.getElem?_append_left (by omega)] at hx
  obtain⟨a',b',k1,k2,k3,k4⟩:=h2 i uj x hx;obtain⟨q1,q2⟩:=key a' b' k1 k2 k3;exact⟨a',b',k1,Nat.le_trans k2 hg.size,q2,by rw[List.getElem_append_left uj];exact k4.stays q1⟩
 ·have Dv:i=Fs.length:=by simp at hi;omega
  subst Dv;rw[←Dp,List.getElem?_append_right (Nat.le_refl _),Nat.sub_self] at hx;cases hx;obtain⟨q1,q2⟩:=key a b ha hb Ur;exact⟨a,b,ha,Nat.le_trans hb hg.size,q2,by rw[List.getElem_append_right (Nat.le_refl _)];simpa using hu.stays q1⟩
theorem ahB(w₀:World)(sp:Value)(g:Nat)(l:List au)(f:Bytes)(W:World)(hq:Q w₀ W)(hg:SegAt w₀ g l (eF l))(hn:l.length≤500)(bD:fV l)(hf:f.length≤1000000000):
  Calls Tryz.prog 52 #[sp,.pointer (some ⟨g,0,none⟩),ak f] W fun e W'=>∃v,e=.returned v∧IsWk ⟨w₀.heap.size,W.heap.size,W'.heap.size⟩ l.length (1000000*2001) W' v (Ag (dK l) l f)∧Q W W':=by
 by_cases h0:f=[]
 ·subst h0
  have e:Ag (dK l) l []=DW:=by unfold Ag;rw[if_pos rfl]
  rw[e];clear e;go_enter Tryz.func52,Tryz.ntmps52;go_wp2_with fail;go_ret;exact⟨_,rfl,IsWk.nothing _ _ _ _,Q.refl _⟩
 ·obtain⟨i0,hi,fJ,eU,fD⟩:=info_parts tinfoWk
  have hb:(f==[])=false:=beq_eq_false_iff_ne.2 h0;have e:Ag (dK l) l f=lY (((dK l).filter fun t=>f.isPrefixOf t).map (oC l)):=by unfold Ag;rw[if_neg h0]
  have c:=abN g l f W (hg.stays hq) hn bD hf;have vg:((dK l).filter fun t=>f.isPrefixOf t).length≤1000000:=Nat.le_trans (List.length_filter_le _ _) (IC l hn (II bD))
  rw[e];generalize (dK l).filter (fun t=>f.isPrefixOf t)=ts at *
  have ht:=fun (z:Zone) (w:World) (t:Bytes) (hq:Q w₀ w) (hz:z.n=w₀.heap.size)=>IsWk.term (z:=z) (w:=w) t hg hq hz hn bD
  have C:=Hd c;have HT:=Hd ht;have HQ:=Hd hq;have aY:w₀.heap.size≤W.heap.size:=hq.size;clear c ht e hg bD hq h0;go_enter Tryz.func52,Tryz.ntmps52;go_wp2_with fail;refine C.out.mono ?_;rintro e w1 ⟨v,rfl,ho,q1⟩;obtain⟨a,cap,rfl,lT⟩:=aT ho;have HO:=Hd ho;have aC:=Hd q1;obtain⟨n,qG⟩:∃n,n=ts.length:=⟨_,rfl⟩;rw[←qG] at vg ⊢;have HN:=Hd qG;have Xx:=Hd lT;clear ho q1 C lT qG hb;go_wp2_with fail;go_loopw [7,18] (fun lv i wr=>∃(k:Nat),k≤n∧i=.int .i64 (k:Nat)∧Hid (WkRow w₀.heap.size w1.heap.size l.length 2001 wr lv ((ts.take k).map (oC l)))∧Hid (Q w1 wr)) (fun _ i _=>n-(intOf i).toNat)
  case atStart=>exact⟨0,by omega,rfl,WkRow.nil _ _ _ _ _,Q.refl _⟩
  case round =>
   obtain⟨k,hk,rfl,HR,aS⟩:=hrel;obtain⟨wo,rfl⟩:∃wo:World,wo=wr:=⟨_,rfl⟩;by_cases hlt:k<n
   ·have oN:k<ts.length:=by have:=HN.out;omega
    obtain⟨gt,rfl⟩:=Xx.out (by omega)
    have hc:=KC (ownsRow_below HO.out aS.out) (by have:=HN.out;omega) k (ak ts[k]) (by rw[List.getElem?_map,List.getElem?_eq_getElem oN];rfl)
    obtain⟨vs,Dq,JA⟩:=HR.out.row;have OO:((ts.take k).map (oC l)).length=k:=by rw[List.length_map,List.length_take];omega
    have aI:(ts.take (k+1)).map (oC l)=(ts.take k).map (oC l)++[oC l ts[k]]:=by rw[List.take_succ_eq_append_getElem oN,List.map_append];rfl
    have hu:=fun z w hq hz=>HT.out z w ts[k] hq hz
    have tX:Q w₀ wo:=(HQ.out.trans aC.out).trans aS.out;have hi1:(k:Int)<(n:Int):=by omega
    have mD:(0:Int)≤(k:Int):=by omega
    generalize ts[k]=t at *;generalize hFk:(ts.take k).map (oC l)=Fk at *;have GL:=Hd JA;have HU:=Hd hu;have bJ:=Hd aI;have bZ:=Hd tX;have MU:=Hd OO;obtain⟨va,vcap,rfl,_⟩:=aT Dq;have Ou:w1.heap.size≤wo.heap.size:=aS.out.size;have l9:W.heap.size≤w1.heap.size:=aC.out.size;have jL:Fk.length≤1000000:=by omega
    clear JA hu aI tX HR OO hFk;go_wp2_with (at_builtin;go_must (refine cZ wo (by rfl) _ _ 172 (by rfl) w1.heap.size 77 _ i0 .nilIface 1 16 Tryz.underlying172 hi fJ eU fD rfl (by decide) (by decide) _ _ _ (by rfl) Dq #[.iface 174 (.agg #[.pointer (some ⟨g,0,none⟩),ak t])] (by simp[Act.eval]) rfl ?c1 ?c2 Ou ?_))
    case c1=>simp[Value.oneCell']
    case c2=>omega
    intro g6 cap6 w6 aW dB iL uz tq;have q6:Q w1 w6:=aL aS.out Dq dB (Nat.le_refl _) Ou;have zm:=WkRow.grown (by omega) Dq GL.out wo.heap.size wo.heap.size Ou (Nat.le_refl _) (fun g h=>.inl (Dq.lt g h).2) (HU.out ⟨w₀.heap.size,wo.heap.size,wo.heap.size⟩ wo bZ.out rfl) (by simpa using aW) dB iL
    rw[←bJ.out] at zm;have QX:=Hd zm;have fQ:=Hd q6;clear aW dB iL zm q6 Dq GL HU bJ HO hc;go_wp2_with fail;go_roundw;case rel=>exact⟨k+1,by omega,by go_num,QX,fQ⟩
    case measure=>simp[intOf];omega
   ·have cO:k=n:=by omega
    subst cO;have hr:=HR.out;rw[HN.out,List.take_length] at hr;have sO:(ts.map (oC l)).length≤1000000:=by rw[List.length_map];have:=HN.out;omega
    have nY:=hr.done;obtain⟨va,vcap,hv,_⟩:=nY.value;rw[List.length_map] at hv;subst hv;have SH:=IsWk.someOf nY sO (by omega)
    have HS:=Hd SH;have El:=Hd sO;have l9:W.heap.size≤w1.heap.size:=aC.out.size;clear hr nY SH HR sO;go_wp2_with fail;go_ret;refine⟨_,rfl,(HS.out.wide (z':=⟨w₀.heap.size,W.heap.size,wo.heap.size⟩) (Nat.le_refl _) l9 (Nat.le_refl _)).more (Nat.le_refl _) (Nat.mul_le_mul_right _ El.out),aC.out.trans aS.out⟩
theorem WG(l:List au)(wt:Bytes→Nat)(qs:List QL):fZ l wt qs=qs.map (fO l wt):=by
 induction qs with
 | nil=>rfl
 | cons q qs ih=>rw[fZ,ih];rfl
theorem QryAt.form{w:World}{q:QL}{c0 c1 c2 c3 c4:Value}(h:QryAt w q (.agg #[c0,c1,c2,c3,c4])):∃k s a1 n1 p1 a2 n2 p2 a3 n3 p3,c0=.int .i64 k∧c1=ak s∧c2=.slice a1 n1 p1∧c3=.slice a2 n2 p2∧c4=.slice a3 n3 p3:=by
 cases q with
 | mk k s m sh n =>
  obtain⟨vm,vs,vn,he,⟨a1,p1,e1,_⟩,⟨a2,p2,e2,_⟩,⟨a3,p3,e3,_⟩⟩:=h.open;injection he with he;injection he with he;injection he with h0 he;injection he with h1 he;injection he with h2 he;injection he with h3 he;injection he with h4 he;exact⟨k,s,a1,_,p1,a2,_,p2,a3,_,p3,h0,h1,h2.trans e1,h3.trans e2,h4.trans e3⟩
def WkC(w₀:World)(pv:Value)(n:Nat)(wt:Bytes→Nat)(sb mb g:Nat)(l:List au)(q:QL):Prop :=
 ∀(W:World) (v:Value),SrS w₀ pv n wt sb mb W→QryAt w₀ q v→Calls Tryz.prog 24 #[.pointer (some ⟨sb,0,none⟩),.pointer (some ⟨g,0,none⟩),v] W fun e W' =>
  ∃u,e=.returned u∧IsWk ⟨w₀.heap.size,W.heap.size,W'.heap.size⟩ l.length pJ W' u (fO l wt q)∧Cs w₀.heap.size W W'∧SrS w₀ pv n wt sb mb W'
theorem Blk.cellAt{w:World}{k:Nat}{t:TypeId}{cs:Array Value}(h:Blk w k t cs):∀i (hi:i<cs.size),w.cell? ⟨k,i,none⟩=some cs[i]:=fun i hi=>h.cell i _ (Array.getElem?_eq_getElem hi)
theorem Blk.c5{w:World}{k:Nat}{t:TypeId}{a b c d e:Value}(h:Blk w k t #[a,b,c,d,e]):w.cell? ⟨k,0,none⟩=some a∧w.cell? ⟨k,1,none⟩=some b∧w.cell? ⟨k,2,none⟩=some c∧w.cell? ⟨k,3,none⟩=some d∧w.cell? ⟨k,4,none⟩=some e :=
 ⟨h.cell 0 _ rfl,h.cell 1 _ rfl,h.cell 2 _ rfl,h.cell 3 _ rfl,h.cell 4 _ rfl⟩
theorem LY(w₀:World)(pv:Value)(n:Nat)(wt:Bytes→Nat)(sb mb g:Nat)(l:List au)(qs:List QL)(lv:Value)(W:World)(nY:∀q∈qs,WkC w₀ pv n wt sb mb g l q)(hs:SrS w₀ pv n wt sb mb W)(hq:QrysAt w₀ lv qs)(hn:qs.length≤1000):
  Calls Tryz.prog 99 #[.pointer (some ⟨sb,0,none⟩),.pointer (some ⟨g,0,none⟩),lv] W fun e W'=>∃u,e=.returned u∧WksAt ⟨w₀.heap.size,W.heap.size,W'.heap.size⟩ l.length pJ W' u (fZ l wt qs)∧Cs w₀.heap.size W W'∧SrS w₀ pv n wt sb mb W':=by
 obtain⟨i0,hi,fJ,eU,fD⟩:=info_parts tinfoWk;rw[WG];obtain⟨a,cap,rfl,aJ⟩:=hq;have HW:=Hd nY;have HS:=Hd hs;have HC:=Hd aJ;have aY:w₀.heap.size≤W.heap.size:=hs.q.size;obtain⟨m,hm⟩:∃m,m=qs.length:=⟨_,rfl⟩;rw[←hm] at hn ⊢;have HM:=Hd hm;clear nY hs aJ hm;go_enter Tryz.func99,Tryz.ntmps99;go_wp2_with fail;go_loopw [7,12] (fun lv i wr=>∃(k:Nat),k≤m∧i=.int .i64 (k:Nat)∧Hid (WkRow w₀.heap.size W.heap.size l.length pJ wr lv ((qs.take k).map (fO l wt)))∧Hid (Cs w₀.heap.size W wr)∧Hid (SrS w₀ pv n wt sb mb wr)) (fun _ i _=>m-(intOf i).toNat)
 case atStart=>exact⟨0,by omega,rfl,WkRow.nil _ _ _ _ _,Cs.refl _ _,HS.out⟩
 case round =>
  obtain⟨k,hk,rfl,HR,QD,AL⟩:=hrel;obtain⟨wo,rfl⟩:∃wo:World,wo=wr:=⟨_,rfl⟩;by_cases hlt:k<m
  ·have oN:k<qs.length:=by have:=HM.out;omega
   obtain⟨b,off,rfl,bC⟩:=HC.out (by omega)
   obtain⟨c0,c1,c2,c3,c4,⟨g0,g1,g2,g3,g4⟩,mF⟩:=bC.at k oN;obtain⟨fk,fs,a1,n1,p1,a2,n2,p2,a3,n3,p3,rfl,rfl,rfl,rfl,rfl⟩:=mF.form;have u0:=ah AL.out.q g0;have u1:=ah AL.out.q g1;have u2:=ah AL.out.q g2;have u3:=ah AL.out.q g3;have u4:=ah AL.out.q g4;have aI:(qs.take (k+1)).map (fO l wt)=(qs.take k).map (fO l wt)++[fO l wt qs[k]]:=by rw[List.take_succ_eq_append_getElem oN,List.map_append];rfl
   have OO:((qs.take k).map (fO l wt)).length=k:=by rw[List.length_map,List.length_take];omega
   have c:=HW.out qs[k] (List.getElem_mem oN) (wo.alloc (.cells #[.int .i64 fk,ak fs,.slice a1 n1 p1,.slice a2 n2 p2,.slice a3 n3 p3] 25)) _ (AL.out.stays (Q.alloc _ _)) mF;generalize qs[k]=q at *;generalize hFk:(qs.take k).map (fO l wt)=Fk at *;obtain⟨vs,Dq,JA⟩:=HR.out.row;obtain⟨va,vcap,rfl,_⟩:=aT Dq;have hi1:(k:Int)<(m:Int):=by omega
   have mD:(0:Int)≤(k:Int):=by omega
   obtain⟨y0,y1,y2,y3,y4⟩:=(Blk.new wo 25 #[.int .i64 fk,ak fs,.slice a1 n1 p1,.slice a2 n2 p2,.slice a3 n3 p3]).c5;have C:=Hd c;have bJ:=Hd aI;have MU:=Hd OO;have XG:=Hd Dq;clear c aI g0 g1 g2 g3 g4 mF bC OO Dq JA hFk;go_wp2_with fail;refine C.out.mono ?_;rintro e w1 ⟨u,rfl,nY,tN,Jz⟩;have ai9:Cs w₀.heap.size wo w1:=(Cs.of_q (Q.alloc _ _)).trans tN;have dR:=HR.out.stays ai9;have aly:=QD.out.trans ai9;have lK:W.heap.size≤wo.heap.size:=QD.out.size;have dS:W.heap.size≤w1.heap.size:=aly.size;have Ur:∀g,Value.ownBlock (.slice va Fk.length vcap)=some g→g<(wo.alloc (.cells #[.int .i64 fk,ak fs,.slice a1 n1 p1,.slice a2 n2 p2,.slice a3 n3 p3] 25)).heap.size∨w1.heap.size≤g:=fun g hg=>.inl (by have:=(XG.out.lt g hg).2;simp;omega)
   have atz:W.heap.size≤(wo.alloc (.cells #[.int .i64 fk,ak fs,.slice a1 n1 p1,.slice a2 n2 p2,.slice a3 n3 p3] 25)).heap.size:=by simp;omega
   have Dq:=ai9.owns XG.out;obtain⟨vs2,adE,ao0⟩:=dR.row;clear Dq;obtain⟨ut,ux,ug,hue,_⟩:=nY.is;subst hue;have jL:Fk.length≤1000000:=by have:=MU.out;omega
   have BU:=Hd nY;have atA:=Hd aly;have atB:=Hd Jz;have ao3:=Hd ao0;have M0:=Hd Ur;clear nY tN Jz ai9 dR aly ao0 Ur C u0 u1 u2 u3 u4 y0 y1 y2 y3 y4 HR QD AL XG;go_wp2_with (at_builtin;go_must (refine cZ w1 (by rfl) _ _ 172 (by rfl) W.heap.size 77 _ i0 .nilIface 1 16 Tryz.underlying172 hi fJ eU fD rfl (by decide) (by decide) _ _ _ (by rfl) adE #[.iface ut ux] (by simp[Act.eval]) rfl ?c1 ?c2 dS ?_))
   case c1=>simp[Value.oneCell']
   case c2=>omega
   intro g6 cap6 w6 aW dB iL uz tq;have zm:=WkRow.grown aY adE ao3.out _ _ atz (Nat.le_refl _) M0.out BU.out (by simpa using aW) dB iL
   rw[←bJ.out] at zm;have Mv:=atA.out.grown adE dB (Nat.le_refl _) aY;have jP:=atB.out.grown adE dB aY (by decide)
   have QX:=Hd zm;have XA:=Hd Mv;have zQ:=Hd jP;clear aW dB iL zm Mv jP adE ao3 bJ BU M0;go_wp2_with fail;go_roundw;case rel=>exact⟨k+1,by omega,by go_num,QX,XA,zQ⟩
   case measure=>simp[intOf];omega
  ·have cO:k=m:=by omega
   subst cO;have hr:=HR.out;rw[HM.out,List.take_length] at hr;have BK:=Hd hr.done;clear hr HR;go_wp2_with fail;go_ret;exact⟨_,rfl,BK.out,QD.out,AL.out⟩
theorem WksAt.more{z:Zone}{n n' B B':Nat}{w:World}{v:Value}{Fs:List DF}(h:WksAt z n B w v Fs)(hn:n≤n')(hB:B≤B'):WksAt z n' B' w v Fs:=by
 obtain⟨vs,h1,h2⟩:=h;exact⟨vs,h1,fun i hi u hu=>(h2 i hi u hu).more hn hB⟩
theorem Ws.set{z:Zone}(A:World)(b i:Nat)(v:Value)(hn:z.n≤b)(h:b<z.lo∨z.hi≤b):Ws z A (A.setCell ⟨b,i,none⟩ v) :=
 Ws.grown (kN A b i v) (fun k hk=>by injection hk with hk;subst hk;exact⟨hn,h⟩)
theorem SlW.one(z:Zone)(w:World)(u:Value)(hl:z.lo≤w.heap.size)(hh:w.heap.size<z.hi):SlW z (w.alloc (.cells #[u] 77)) (.slice (some ⟨w.heap.size,0,none⟩) 1 1) 1 1 [u]:=SlW.lit z w #[u] 77 1 1 rfl hl hh
theorem WksAt.one{z:Zone}{n B:Nat}{w:World}{v u:Value}{F:DF}(h:SlW z w v 1 1 [u])(hu:IsWk z n B w u F):WksAt z n B w v [F] :=
 ⟨[u],h,fun i hi x hx=>by
  have:i=0:=by simp at hi;omega
  subst this
  cases hx;exact hu⟩
def bigB:Nat:=100000000000000
theorem Zp(n:Nat){M S:List DF}(h:M≠[]):Af n M S=M:=by unfold Af;rw[if_neg h]
theorem must_all(n:Nat){M S:List DF}(h:M=[])(hs:S=[]):Af n M S=[xY (tu n)]:=by unfold Af;rw[if_pos h,if_pos hs]
theorem must_may(n:Nat){M S:List DF}(h:M=[])(hs:S≠[]):Af n M S=[xY (lY S)]:=by unfold Af;rw[if_pos h,if_neg hs]
theorem Cs.dr{n:Nat}{A B:World}(h:Cs n A B):Cs n A B.drew:=h.trans (Cs.of_q (Q.drew _))
theorem Cs.al{n:Nat}{A B:World}(h:Cs n A B)(o:Obj):Cs n A (B.alloc o):=h.trans (Cs.of_q (Q.alloc _ _))
theorem Cs.st{n:Nat}{A B:World}(h:Cs n A B){b:Nat}(hA:A.heap.size≤b)(hn:n≤b)(i:Nat)(v:Value):Cs n A (B.setCell ⟨b,i,none⟩ v) :=
 ⟨h.os,h.tape,h.output,Nat.le_trans h.size (kN B b i v).size,fun k h1 h2 h3=>(Below.heap_setCell _ _ _ k (by simp only;omega)).trans (Itk.low h k h1 h2 h3),
  fun k o h1 h2 h3=>(Below.heap_setCell _ _ _ k (by have:=aU h1;simp only;omega)).trans (Itk.cells h k o h1 h2 h3)⟩
theorem SrS.dr{w₀:World}{pv:Value}{n:Nat}{wt:Bytes→Nat}{sb mb:Nat}{W:World}(h:SrS w₀ pv n wt sb mb W):SrS w₀ pv n wt sb mb W.drew:=h.stays (Q.drew _)
theorem SrS.al{w₀:World}{pv:Value}{n:Nat}{wt:Bytes→Nat}{sb mb:Nat}{W:World}(h:SrS w₀ pv n wt sb mb W)(o:Obj):SrS w₀ pv n wt sb mb (W.alloc o):=h.stays (Q.alloc _ _)
theorem SrS.set{w₀:World}{pv:Value}{n:Nat}{wt:Bytes→Nat}{sb mb:Nat}{W:World}(h:SrS w₀ pv n wt sb mb W){b:Nat}{t:TypeId}{cs:Array Value}(hb:Blk W b t cs)(ht:t≠67)(hw:w₀.heap.size≤b)(i:Nat)(v:Value):SrS w₀ pv n wt sb mb (W.setCell ⟨b,i,none⟩ v):=by
 obtain⟨m,h1,h2⟩:=h.map;have e1:sb≠b:=fun e=>by
  have h5:W.heap[b]?=some (.cells #[pv,.int .i64 (n:Nat),.map (some mb)] 67 (0,0)):=by rw[←e];exact h.blk
  rw[show W.heap[b]?=_ from hb] at h5
  injection h5 with h5;injection h5 with _ h5;exact ht h5
 have e2:mb≠b:=fun e=>by
  obtain⟨es,clock,h3,_⟩:=h1;rw[e,show W.heap[b]?=_ from hb] at h3
  cases h3
 exact⟨h.q.setCell hw _,h.blk.other ⟨b,i,none⟩ v e1,⟨m,h1.same (Below.heap_setCell _ _ _ _ e2),h2⟩,h.sb_ge,h.mb_ge⟩
def WkAp(n₀ lo n:Nat)(w:World)(bb:Nat)(v:Value)(Fs:List DF):Prop:=∃a b,lo≤a∧b≤w.heap.size∧(bb<a∨b≤bb)∧WksAt ⟨n₀,a,b⟩ n pJ w v Fs
theorem WkAp.set{n₀ lo n:Nat}{w:World}{bb:Nat}{v:Value}{Fs:List DF}(h:WkAp n₀ lo n w bb v Fs)(hn:n₀≤bb)(i:Nat)(u:Value):WkAp n₀ lo n (w.setCell ⟨bb,i,none⟩ u) bb v Fs:=by
 obtain⟨a,b,h1,h2,h3,h4⟩:=h;exact⟨a,b,h1,Nat.le_trans h2 (kN w bb i u).size,h3,h4.stays (Ws.set w bb i u hn h3)⟩
theorem WkAp.later{n₀ lo n:Nat}{w w':World}{bb:Nat}{v:Value}{Fs:List DF}(h:WkAp n₀ lo n w bb v Fs)(c:Cs n₀ w w'):WkAp n₀ lo n w' bb v Fs:=by
 obtain⟨a,b,h1,h2,h3,h4⟩:=h;exact⟨a,b,h1,Nat.le_trans h2 c.size,h3,h4.stays (Ws.of_cs c (Nat.le_refl _))⟩
structure BothSt (w₀:World) (pv:Value) (nd:Nat) (wt:Bytes→Nat) (sb mb:Nat) (wb:World) (n lo:Nat) (M S N:List DF) (Wf:World) (bb:Nat) (v1 v2 v3:Value):Prop where
 cs:Cs w₀.heap.size wb Wf
 srs:SrS w₀ pv nd wt sb mb Wf
 blk:Blk Wf bb 193 #[v1,v2,v3]
 new:wb.heap.size≤bb
 m:WkAp w₀.heap.size lo n Wf bb v1 M
 s:WkAp w₀.heap.size lo n Wf bb v2 S
 n':WkAp w₀.heap.size lo n Wf bb v3 N
theorem BothSt.fresh{w₀:World}{pv:Value}{nd:Nat}{wt:Bytes→Nat}{sb mb:Nat}{wb:World}{n lo:Nat}{M S N:List DF}{w:World}{v1 v2 v3:Value}(c:Cs w₀.heap.size wb w)(hs:SrS w₀ pv nd wt sb mb w)
  (m:WkAp w₀.heap.size lo n w w.heap.size v1 M) (s:WkAp w₀.heap.size lo n w w.heap.size v2 S) (n':WkAp w₀.heap.size lo n w w.heap.size v3 N):BothSt w₀ pv nd wt sb mb wb n lo M S N (w.alloc (.cells #[v1,v2,v3] 193)) w.heap.size v1 v2 v3 :=
 ⟨c.al _,hs.al _,Blk.new _ _ _,c.size,m.later (Cs.of_q (Q.alloc _ _)),s.later (Cs.of_q (Q.alloc _ _)),n'.later (Cs.of_q (Q.alloc _ _))⟩
theorem BothSt.filled{w₀:World}{pv:Value}{nd:Nat}{wt:Bytes→Nat}{sb mb:Nat}{wb:World}{n lo:Nat}{M S N:List DF}{w:World}{bb:Nat}{u1 u2 u3 v1 v2 v3:Value}(hw:w₀.heap.size≤wb.heap.size)(c:Cs w₀.heap.size wb w)(hs:SrS w₀ pv nd wt sb mb w)(hb:Blk w bb 193 #[u1,u2,u3])(hn:wb.heap.size≤bb)
  (m:WkAp w₀.heap.size lo n w bb v1 M) (s:WkAp w₀.heap.size lo n w bb v2 S) (n':WkAp w₀.heap.size lo n w bb v3 N):BothSt w₀ pv nd wt sb mb wb n lo M S N (((w.setCell ⟨bb,0,none⟩ v1).setCell ⟨bb,1,none⟩ v2).setCell ⟨bb,2,none⟩ v3) bb v1 v2 v3:=by
 have h0:w₀.heap.size≤bb:=Nat.le_trans hw hn;refine⟨((c.st hn h0 0 v1).st hn h0 1 v2).st hn h0 2 v3,((hs.set hb (by decide) h0 0 v1).set (hb.set 0 v1) (by decide) h0 1 v2).set ((hb.set 0 v1).set 1 v2) (by decide) h0 2 v3,(hb.r3 v1 v2 v3).2.2.2,hn,((m.set h0 0 v1).set h0 1 v2).set h0 2 v3,((s.set h0 0 v1).set h0 1 v2).set h0 2 v3,((n'.set h0 0 v1).set h0 1 v2).set h0 2 v3⟩
noncomputable def bothRow:Code:=((Tryz.f54.body.bind (iw 1)).getD .skip)
theorem cells3{n:Nat}{A B:World}(h:Cs n A B){b:Nat}{x y z:Value}(k2:A.cell? ⟨b,2,none⟩=some x)(k3:A.cell? ⟨b,3,none⟩=some y)(k4:A.cell? ⟨b,4,none⟩=some z):B.cell? ⟨b,2,none⟩=some x∧B.cell? ⟨b,3,none⟩=some y∧B.cell? ⟨b,4,none⟩=some z:=⟨h.cell k2,h.cell k3,h.cell k4⟩
theorem both_row(w₀:World)(pv:Value)(nd:Nat)(wt:Bytes→Nat)(sb mb n lo B:Nat)(sp gp xa:Value)(wb:World)(M S N:List DF)(vm vs vn:Value)(Lj:SrS w₀ pv nd wt sb mb wb)
  (cm:∀W,SrS w₀ pv nd wt sb mb W→Calls Tryz.prog 99 #[sp,gp,vm] W fun e W'=>∃u,e=.returned u∧WksAt ⟨w₀.heap.size,W.heap.size,W'.heap.size⟩ n pJ W' u M∧Cs w₀.heap.size W W'∧SrS w₀ pv nd wt sb mb W')
  (cs:∀W,SrS w₀ pv nd wt sb mb W→Calls Tryz.prog 99 #[sp,gp,vs] W fun e W'=>∃u,e=.returned u∧WksAt ⟨w₀.heap.size,W.heap.size,W'.heap.size⟩ n pJ W' u S∧Cs w₀.heap.size W W'∧SrS w₀ pv nd wt sb mb W')
  (cn:∀W,SrS w₀ pv nd wt sb mb W→Calls Tryz.prog 99 #[sp,gp,vn] W fun e W'=>∃u,e=.returned u∧WksAt ⟨w₀.heap.size,W.heap.size,W'.heap.size⟩ n pJ W' u N∧Cs w₀.heap.size W W'∧SrS w₀ pv nd wt sb mb W')
  (k2:wb.cell? ⟨B,2,none⟩=some vm) (k3:wb.cell? ⟨B,3,none⟩=some vs) (k4:wb.cell? ⟨B,4,none⟩=some vn) (BO:lo≤wb.heap.size) (hw:w₀.heap.size≤wb.heap.size)
  (Qx:Exit→Act→World→Prop) (x2 x4 x5 x7 x8 x9 x10 x11 x12 x13 x14 x15 x16 x17 x18 x19 x20 x21 x22 x23 x24 x25 x26 x27 x28 x29 x30 x31 x32 x33 x34 x35 x36 x37 x38 x39 x40 x41 x42 x43 x44 x45 x46 x47 x48:Value)
  (hQ:∀(Wf:World) (bb:Nat) (a1 a2 a3:Option Addr) (p1 p2 p3:Nat) (z10 z11 z12 z13 z14 z15 z16 z17 z18 z19 z20 z21 z22 z23 z24 z25:Value),BothSt w₀ pv nd wt sb mb wb n lo M S N Wf bb (.slice a1 M.length p1) (.slice a2 S.length p2) (.slice a3 N.length p3)→Qx .normal ⟨#[sp,gp,x2,xa,x4,x5,.pointer (some ⟨B,0,none⟩),x7,x8,.pointer (some ⟨bb,0,none⟩),z10,z11,z12,z13,z14,z15,z16,z17,z18,z19,z20,z21,z22,z23,z24,z25,x26,x27,x28,x29,x30,x31,x32,x33,x34,x35,x36,x37,x38,x39,x40,x41,x42,x43,x44,x45,x46,x47,x48],[]⟩ Wf) :
  bothRow.wp Tryz.prog Qx ⟨#[sp,gp,x2,xa,x4,x5,.pointer (some ⟨B,0,none⟩),x7,x8,x9,x10,x11,x12,x13,x14,x15,x16,x17,x18,x19,x20,x21,x22,x23,x24,x25,x26,x27,x28,x29,x30,x31,x32,x33,x34,x35,x36,x37,x38,x39,x40,x41,x42,x43,x44,x45,x46,x47,x48],[]⟩ wb:=by
 conv=>arg 2;whnf
 have pz:Tryz.prog.follows .mixedOrders=true:=by kernel_rfl
 have CM:=Hd cm;have CS:=Hd cs;have CN:=Hd cn;have zq:=Hd hQ;have KK:=Hd (And.intro (Cs.refl w₀.heap.size wb) Lj);clear cm cs cn hQ Lj;go_region_held3 (fun w'=>w'.cell? ⟨B,2,none⟩=some vm∧w'.cell? ⟨B,3,none⟩=some vs∧w'.cell? ⟨B,4,none⟩=some vn)
  (first|exact⟨k2,k3,k4⟩|exact cells3 (by repeat (first|with_reducible exact KK.out.1|with_reducible apply Cs.al|with_reducible apply Cs.dr)) k2 k3 k4|exact cells3 (((KK.out.1.st (by omega) (by omega) _ _).st (by omega) (by omega) _ _).st (by omega) (by omega) _ _) k2 k3 k4|exact cells3 (((KK.out.1.dr.st (by omega) (by omega) _ _).st (by omega) (by omega) _ _).st (by omega) (by omega) _ _) k2 k3 k4)
  (first
   | (go_at_call 99;((with_reducible refine(CM.out _ (by repeat (first|with_reducible exact KK.out.2|with_reducible apply SrS.al|with_reducible apply SrS.dr))).mono ?_);rintro e w1 ⟨u1,rfl,lJ,gX,dN⟩);obtain⟨a1,p1,uV,_⟩:=lJ.value;subst uV;have s':Cs w₀.heap.size wb w1∧SrS w₀ pv nd wt sb mb w1:=⟨Cs.trans (by repeat (first|with_reducible exact KK.out.1|with_reducible apply Cs.al|with_reducible apply Cs.dr)) gX,dN⟩;(try (have zb:=gX.blk (Blk.new _ 193 #[.slice none 0 0,.slice none 0 0,.slice none 0 0]);have ZB:=Hd zb;obtain⟨zb0,zb1,zb2,zf0,zf1,zf2⟩:=zb.c3));(try (have zb:=gX.blk ((Blk.new _ 193 #[.slice none 0 0,.slice none 0 0,.slice none 0 0]).stays (Q.drew _));have ZB:=Hd zb;obtain⟨zb0,zb1,zb2,zf0,zf1,zf2⟩:=zb.c3));(try (have zb:=gX.blk ZB.out;have ZB:=Hd zb;obtain⟨zb0,zb1,zb2,zf0,zf1,zf2⟩:=zb.c3));(try (have zb:=gX.blk (ZB.out.stays (Q.drew _));have ZB:=Hd zb;obtain⟨zb0,zb1,zb2,zf0,zf1,zf2⟩:=zb.c3));have z1:=s'.1.size;have y1:=gX.size;have HW1:=Hd lJ;have HC1:=Hd gX;clear KK;have KK:=Hd s';clear s' lJ gX dN)
   | (go_at_call 99;((with_reducible refine(CS.out _ (by repeat (first|with_reducible exact KK.out.2|with_reducible apply SrS.al|with_reducible apply SrS.dr))).mono ?_);rintro e w2 ⟨u2,rfl,nV,dM,kE⟩);obtain⟨a2,p2,wX,_⟩:=nV.value;subst wX;have s':Cs w₀.heap.size wb w2∧SrS w₀ pv nd wt sb mb w2:=⟨Cs.trans (by repeat (first|with_reducible exact KK.out.1|with_reducible apply Cs.al|with_reducible apply Cs.dr)) dM,kE⟩;(try (have zb:=dM.blk (Blk.new _ 193 #[.slice none 0 0,.slice none 0 0,.slice none 0 0]);have ZB:=Hd zb;obtain⟨zb0,zb1,zb2,zf0,zf1,zf2⟩:=zb.c3));(try (have zb:=dM.blk ((Blk.new _ 193 #[.slice none 0 0,.slice none 0 0,.slice none 0 0]).stays (Q.drew _));have ZB:=Hd zb;obtain⟨zb0,zb1,zb2,zf0,zf1,zf2⟩:=zb.c3));(try (have zb:=dM.blk ZB.out;have ZB:=Hd zb;obtain⟨zb0,zb1,zb2,zf0,zf1,zf2⟩:=zb.c3));(try (have zb:=dM.blk (ZB.out.stays (Q.drew _));have ZB:=Hd zb;obtain⟨zb0,zb1,zb2,zf0,zf1,zf2⟩:=zb.c3));have z2:=s'.1.size;have y2:=dM.size;have OL:=Hd nV;have c12:Cs w₀.heap.size w1 w2:=Cs.trans (by repeat (first|with_reducible exact Cs.refl _ _|with_reducible apply Cs.al|with_reducible apply Cs.dr)) dM;have v2:=c12.size;have Cr:=Hd c12;clear c12;clear KK;have KK:=Hd s';clear s' nV dM kE)
   | (go_at_call 99;((with_reducible refine(CN.out _ (by repeat (first|with_reducible exact KK.out.2|with_reducible apply SrS.al|with_reducible apply SrS.dr))).mono ?_);rintro e w3 ⟨u3,rfl,Io,zO,kP⟩);obtain⟨a3,p3,Nw,_⟩:=Io.value;subst Nw;have s':Cs w₀.heap.size wb w3∧SrS w₀ pv nd wt sb mb w3:=⟨Cs.trans (by repeat (first|with_reducible exact KK.out.1|with_reducible apply Cs.al|with_reducible apply Cs.dr)) zO,kP⟩;(try (have zb:=zO.blk (Blk.new _ 193 #[.slice none 0 0,.slice none 0 0,.slice none 0 0]);have ZB:=Hd zb;obtain⟨zb0,zb1,zb2,zf0,zf1,zf2⟩:=zb.c3));(try (have zb:=zO.blk ((Blk.new _ 193 #[.slice none 0 0,.slice none 0 0,.slice none 0 0]).stays (Q.drew _));have ZB:=Hd zb;obtain⟨zb0,zb1,zb2,zf0,zf1,zf2⟩:=zb.c3));(try (have zb:=zO.blk ZB.out;have ZB:=Hd zb;obtain⟨zb0,zb1,zb2,zf0,zf1,zf2⟩:=zb.c3));(try (have zb:=zO.blk (ZB.out.stays (Q.drew _));have ZB:=Hd zb;obtain⟨zb0,zb1,zb2,zf0,zf1,zf2⟩:=zb.c3));have z3:=s'.1.size;have y3:=zO.size;have Vn:=Hd Io;have c23:Cs w₀.heap.size w2 w3:=Cs.trans (by repeat (first|with_reducible exact Cs.refl _ _|with_reducible apply Cs.al|with_reducible apply Cs.dr)) zO;have v3:=c23.size;have M8:=Hd c23;clear c23;clear KK;have KK:=Hd s';clear s' Io zO kP))
 all_goals refine zq.out _ _ a1 a2 a3 p1 p2 p3 _ _ _ _ _ _ _ _ _ _ _ _ _ _ _ _ ?_
 all_goals (first
  | refine BothSt.fresh (by repeat (first|with_reducible exact KK.out.1|with_reducible apply Cs.al|with_reducible apply Cs.dr)) (by repeat (first|with_reducible exact KK.out.2|with_reducible apply SrS.al|with_reducible apply SrS.dr)) ?_ ?_ ?_
  | refine BothSt.filled hw (by repeat (first|with_reducible exact KK.out.1|with_reducible apply Cs.al|with_reducible apply Cs.dr)) (by repeat (first|with_reducible exact KK.out.2|with_reducible apply SrS.al|with_reducible apply SrS.dr)) (by first|exact ZB.out|exact ZB.out.stays (Q.drew _)) (by first|omega|(simp only[World.size_alloc];omega)) ?_ ?_ ?_)
 all_goals (first
  | refine⟨_,_,?_,?_,?_,HW1.out.stays (Ws.of_cs (Cs.trans (Cr.out.trans M8.out) (by repeat (first|with_reducible exact Cs.refl _ _|with_reducible apply Cs.al|with_reducible apply Cs.dr))) (Nat.le_refl _))⟩
  | refine⟨_,_,?_,?_,?_,OL.out.stays (Ws.of_cs (Cs.trans M8.out (by repeat (first|with_reducible exact Cs.refl _ _|with_reducible apply Cs.al|with_reducible apply Cs.dr))) (Nat.le_refl _))⟩
  | refine⟨_,_,?_,?_,?_,Vn.out.stays (Ws.of_cs (by repeat (first|with_reducible exact Cs.refl _ _|with_reducible apply Cs.al|with_reducible apply Cs.dr)) (Nat.le_refl _))⟩)
 all_goals (have dz:∀w:World,w.drew.heap.size=w.heap.size:=fun _=>rfl)
 all_goals (simp only[World.size_alloc,dz] at *)
 all_goals omega
theorem WkAp.full{n₀ lo n:Nat}{w:World}{bb:Nat}{v:Value}{Fs:List DF}(h:WkAp n₀ lo n w bb v Fs):WksAt ⟨n₀,lo,w.heap.size⟩ n pJ w v Fs:=by
 obtain⟨a,b,h1,h2,h3,h4⟩:=h;exact h4.wide (Nat.le_refl _) h1 h2
theorem PS{z:Zone}{n B:Nat}{W:World}{vm vs vn:Value}{M S N:List DF}(hm:WksAt z n bigB W vm M)(hs:WksAt z n pJ W vs S)(hn:WksAt z n pJ W vn N)
  (hl:M.length≤100∧S.length≤100∧N.length≤100) (aF:0<M.length) (qG:n≤500) (hf:∀i s,lZ M S N i=some s→i<n∧s≤B) :
  IsWk z n B W (.iface 193 (.agg #[vm,vs,vn])) (lZ M S N) :=
 (IsWk.bothOf hm (hs.more (B':=bigB) (Nat.le_refl _) (by decide)) (hn.more (B':=bigB) (Nat.le_refl _) (by decide)) ⟨by omega,by omega,by omega⟩ (by decide) aF (by omega)).refit rfl hf
structure OneSt (w₀:World) (pv:Value) (nd:Nat) (wt:Bytes→Nat) (sb mb:Nat) (wb:World) (n lo:Nat) (S N:List DF) (Wf:World) (bb:Nat) (v1 v2 v3 u:Value):Prop where
 cs:Cs w₀.heap.size wb Wf
 srs:SrS w₀ pv nd wt sb mb Wf
 blk:Blk Wf bb 193 #[v1,v2,v3]
 new:wb.heap.size≤bb
 row:SlW ⟨w₀.heap.size,lo,Wf.heap.size⟩ Wf v1 1 1 [u]
 s:WkAp w₀.heap.size lo n Wf bb v2 S
 n':WkAp w₀.heap.size lo n Wf bb v3 N
theorem OneSt.lay{w₀:World}{pv:Value}{nd:Nat}{wt:Bytes→Nat}{sb mb:Nat}{wb:World}{n lo:Nat}{S N:List DF}{W:World}{bb:Nat}{v1 v2 v3:Value}(u:Value)(hw:w₀.heap.size≤wb.heap.size)(BO:lo≤wb.heap.size)(c:Cs w₀.heap.size wb W)(hs:SrS w₀ pv nd wt sb mb W)(hb:Blk W bb 193 #[v1,v2,v3])(hn:wb.heap.size≤bb)
  (s:WkAp w₀.heap.size lo n W bb v2 S) (n':WkAp w₀.heap.size lo n W bb v3 N) :
  OneSt w₀ pv nd wt sb mb wb n lo S N ((W.alloc (.cells #[u] 77)).setCell ⟨bb,0,none⟩ (.slice (some ⟨W.heap.size,0,none⟩) 1 1)) bb (.slice (some ⟨W.heap.size,0,none⟩) 1 1) v2 v3 u:=by
 have h0:w₀.heap.size≤bb:=Nat.le_trans hw hn;have oQ:bb<W.heap.size:=hb.lt;have aY:=(kN (W.alloc (.cells #[u] 77)) bb 0 (.slice (some ⟨W.heap.size,0,none⟩) 1 1)).size;rw[World.size_alloc] at aY;have tN:=c.size;refine⟨(c.al _).st hn h0 0 _,(hs.al _).set (hb.alloc _) (by decide) h0 0 _,(hb.alloc _).set 0 _,hn,?_,(s.later (Cs.of_q (Q.alloc _ _))).set h0 0 _,(n'.later (Cs.of_q (Q.alloc _ _))).set h0 0 _⟩
 have r:=SlW.one ⟨w₀.heap.size,W.heap.size,W.heap.size+1⟩ W u (Nat.le_refl _) (Nat.lt_succ_self _);have r2:=(Ws.set (z:=⟨w₀.heap.size,W.heap.size,W.heap.size+1⟩) (W.alloc (.cells #[u] 77)) bb 0 (.slice (some ⟨W.heap.size,0,none⟩) 1 1) h0 (.inl oQ)).sl r;exact r2.wide (z':=⟨w₀.heap.size,lo,_⟩) (by show lo≤W.heap.size;omega) aY
theorem SBoth_any(w₀:World)(pv:Value)(nd:Nat)(wt:Bytes→Nat)(sb mb g:Nat)(l:List au)(k:Int)(s:Bytes)(m sh no:List QL)(vm vs vn:Value)(W:World)
  (hm:∀q∈m,WkC w₀ pv nd wt sb mb g l q) (Xj:∀q∈sh,WkC w₀ pv nd wt sb mb g l q) (fE:∀q∈no,WkC w₀ pv nd wt sb mb g l q) (hs:SrS w₀ pv nd wt sb mb W)
  (qm:QrysAt w₀ vm m) (qs:QrysAt w₀ vs sh) (qn:QrysAt w₀ vn no) (hl:m.length≤100∧sh.length≤100∧no.length≤100) (qG:l.length≤500)
  (hf:∀i s,lZ (Af l.length (fZ l wt m) (fZ l wt sh)) (fZ l wt sh) (fZ l wt no) i=some s→i<l.length∧s≤pJ) :
  Calls Tryz.prog 54 #[.pointer (some ⟨sb,0,none⟩),.pointer (some ⟨g,0,none⟩),.agg #[.int .i64 k,ak s,vm,vs,vn],.iface 120 (.agg #[.int .i64 (l.length:Nat)])] W fun e W'=>∃u,e=.returned u ∧
   IsWk ⟨w₀.heap.size,W.heap.size,W'.heap.size⟩ l.length pJ W' u (lZ (Af l.length (fZ l wt m) (fZ l wt sh)) (fZ l wt sh) (fZ l wt no))∧Cs w₀.heap.size W W'∧SrS w₀ pv nd wt sb mb W':=by
 have cm:=fun W hs=>LY w₀ pv nd wt sb mb g l m vm W hm hs qm (by omega)
 have cs:=fun W hs=>LY w₀ pv nd wt sb mb g l sh vs W Xj hs qs (by omega)
 have cn:=fun W hs=>LY w₀ pv nd wt sb mb g l no vn W fE hs qn (by omega)
 have aD:∀qs,(fZ l wt qs).length=qs.length:=fun qs=>by rw[WG,List.length_map]
 have l1:(fZ l wt m).length≤100:=by rw[aD];exact hl.1
 have l2:(fZ l wt sh).length≤100:=by rw[aD];exact hl.2.1
 have l3:(fZ l wt no).length≤100:=by rw[aD];exact hl.2.2
 obtain⟨n,hn⟩:∃n,n=l.length:=⟨_,rfl⟩;rw[←hn] at cm cs cn qG hf ⊢;generalize fZ l wt m=M at *;generalize fZ l wt sh=S at *;generalize fZ l wt no=N at *;have aY:w₀.heap.size≤W.heap.size:=hs.q.size;obtain⟨wb,rO⟩:∃wb,wb=W.alloc (.cells #[.int .i64 k,ak s,vm,vs,vn] 25):=⟨_,rfl⟩;have gK:Blk wb W.heap.size 25 #[.int .i64 k,ak s,vm,vs,vn]:=by rw[rO];exact Blk.new _ _ _
 have Ll:Q W wb:=by rw[rO];exact Q.alloc _ _
 have Lj:=hs.stays Ll;obtain⟨_,_,k2,k3,k4⟩:=gK.c5;have CM:=Hd cm;have CS:=Hd cs;have CN:=Hd cn;have HF:=Hd hf;have nA:=Hd Ll;have XH:=Hd Lj;clear cm cs cn hf hm Xj fE hs qm qs qn aD gK Lj hn;go_enter Tryz.func54,Tryz.ntmps54;go_wp2_with fail;rw[←rO];have lD:W.heap.size≤wb.heap.size:=nA.out.size;refine both_row w₀ pv nd wt sb mb n W.heap.size W.heap.size _ _ _ wb M S N vm vs vn XH.out CM.out CS.out CN.out k2 k3 k4 lD (Nat.le_trans aY lD) _ _ _ _ _ _ _ _ _ _ _ _ _ _ _ _ _ _ _ _ _ _ _ _ _ _ _ _ _ _ _ _ _ _ _ _ _ _ _ _ _ _ _ _ _ _ ?_;clear k2 k3 k4 XH CM CS CN rO;rintro Wf bb a1 a2 a3 p1 p2 p3 z10 z11 z12 z13 z14 z15 z16 z17 z18 z19 z20 z21 z22 z23 z24 z25 aI;obtain⟨b0,b1,b2,f0,f1,f2⟩:=aI.blk.c3;have bJ:=Hd aI;clear aI;by_cases Il:M.length=0
 ·have hM:M=[]:=List.eq_nil_of_length_eq_zero Il
  subst hM;have jM:=fun u=>OneSt.lay u (Nat.le_trans aY lD) lD bJ.out.cs bJ.out.srs bJ.out.blk bJ.out.new bJ.out.s bJ.out.n'
  have amW:=bJ.out.blk.alloc (.cells #[.iface 195 (.agg #[.iface 120 (.agg #[.int .i64 (n:Nat)])])] 77);obtain⟨e0,e1,e2,ef0,ef1,ef2⟩:=amW.c3;have h1:=jM (.iface 195 (.agg #[.iface 120 (.agg #[.int .i64 (n:Nat)])]));obtain⟨g0,g1,g2,gf0,gf1,gf2⟩:=h1.blk.c3;have FP:=Hd h1;clear jM amW h1 bJ;by_cases AQ:S.length=0
  ·have hS:S=[]:=List.eq_nil_of_length_eq_zero AQ
   subst hS;have Us:=must_all n (M:=[]) (S:=[]) rfl rfl;have hf:=HF.out;rw[Us] at hf;have h1:=FP.out;have nY:=PS (B:=pJ) (WksAt.one h1.row (IsWk.free (IsWk.every ⟨w₀.heap.size,W.heap.size,_⟩ n bigB _ (by omega) (by decide)))) h1.s.full h1.n'.full ⟨by simp,by simp,l3⟩ (by simp) qG hf
   rw[←Us] at nY;have BU:=Hd nY;have HC:=Hd ((Cs.of_q nA.out).trans h1.cs);have AL:=Hd h1.srs;clear Us hf h1 nY FP HF;go_wp2_with fail;go_ret;exact⟨_,rfl,BU.out,HC.out,AL.out⟩
  ·have Z6:(0:Int)<(S.length:Int):=by omega
   have ao4:S≠[]:=fun h=>AQ (by rw[h];rfl)
   have h1:=FP.out;have atC:=h1.blk;have h2:=OneSt.lay (.iface 195 (.agg #[.iface 176 (.agg #[.slice a2 S.length p2])])) (Nat.le_trans aY lD) lD h1.cs h1.srs h1.blk h1.new h1.s h1.n';have Nc:((Wf.alloc (.cells #[.iface 195 (.agg #[.iface 120 (.agg #[.int .i64 (n:Nat)])])] 77)).setCell ⟨bb,0,none⟩ (.slice (some ⟨Wf.heap.size,0,none⟩) 1 1)).heap.size=Wf.heap.size+1:=by simp
   rw[Nc] at h2;have amY:=h1.blk.alloc (.cells #[.iface 195 (.agg #[.iface 176 (.agg #[.slice a2 S.length p2])])] 77);obtain⟨q0,q1,q2,qf0,qf1,qf2⟩:=amY.c3;obtain⟨r0,r1,r2,rf0,rf1,rf2⟩:=h2.blk.c3;have Us:=must_may n (M:=[]) (S:=S) rfl ao4;have hf:=HF.out;rw[Us] at hf;have lT:=(IsWk.someOf h2.s.full (by omega) (by decide)).more (B':=bigB) (Nat.le_refl _) (by
    have:S.length*pJ≤100*pJ:=Nat.mul_le_mul_right _ l2;exact Nat.le_trans this (by decide))
   have nY:=PS (B:=pJ) (WksAt.one h2.row (IsWk.free lT)) h2.s.full h2.n'.full ⟨by simp,l2,l3⟩ (by simp) qG hf
   rw[←Us] at nY;have BU:=Hd nY;have HC:=Hd ((Cs.of_q nA.out).trans h2.cs);have AL:=Hd h2.srs;clear Us hf h1 h2 nY FP HF lT amY atC ao4;go_wp2_with fail;go_ret;exact⟨_,rfl,BU.out,HC.out,AL.out⟩
 ·have hz:((M.length:Int)==0)=false:=beq_eq_false_iff_ne.2 (by omega)
  have alz:M≠[]:=fun h=>Il (by rw[h];rfl)
  have aI:=bJ.out;have hf:=HF.out;rw[Zp n alz] at hf;have nY:=PS (B:=pJ) (aI.m.full.more (B':=bigB) (Nat.le_refl _) (by decide)) aI.s.full aI.n'.full ⟨l1,l2,l3⟩ (by omega) qG hf
  have Us:=Zp n (M:=M) (S:=S) alz;rw[show lZ M S N=lZ (Af n M S) S N by rw[Us]] at nY
  have BU:=Hd nY;have HC:=Hd ((Cs.of_q nA.out).trans aI.cs);have AL:=Hd aI.srs;clear Us hf aI nY bJ HF alz;go_wp2_with fail;go_ret;exact⟨_,rfl,BU.out,HC.out,AL.out⟩
end
section
theorem WH(wt:Bytes→Nat){q:QL}{d:au}(hm:bg q (aA d.2)=true):kZ wt q d=some (d.1,jK wt q (aA d.2)):=by
 unfold kZ lH;rw[hm];rfl
theorem ahC(wt:Bytes→Nat){q:QL}{d:au}(hm:bg q (aA d.2)=false):kZ wt q d=none:=by
 unfold kZ lH;rw[hm];rfl
theorem nD(ds:List au)(q:QL):(bA ds q).length=(ds.filter fun d=>bg q (aA d.2)).length:=by
 rw[(sN ds q).length_eq];unfold D6;generalize wtL ds=wt;induction ds with
 | nil=>rfl
 | cons d ds ih =>
  cases hm:bg q (aA d.2) with
  | true=>rw[List.filterMap_cons_some (WH wt hm),List.filter_cons_of_pos (p:=fun d:au=>bg q (aA d.2)) hm,List.length_cons,List.length_cons,ih]
  | false=>rw[List.filterMap_cons_none (ahC wt hm),List.filter_cons_of_neg (p:=fun d:au=>bg q (aA d.2)) (by simp[hm]),ih]
def pR(a b:dY):Bool:=decide (b.2<a.2)||(a.2==b.2&&decide (a.1<b.1))
def PU(h:dY):List dY→Nat
 | []=>0
 | x::l=>if pR x h then PU h l+1 else 0
def insH(h:dY)(l:List dY):List dY:=l.take (PU h l)++h::l.drop (PU h l)
theorem placeH_le(h:dY)(l:List dY):PU h l≤l.length:=by
 induction l with
 | nil=>exact Nat.le_refl _
 | cons x l ih=>rw[PU];split<;>simp<;>omega
theorem Zq(h x:dY)(l:List dY):insH h (x::l)=if pR x h then x::insH h l else h::x::l:=by
 unfold insH;rw[PU];cases pR x h<;>simp
theorem Zr(h:dY)(l:List dY):(insH h l).Perm (h::l):=by
 induction l with
 | nil=>exact List.Perm.refl _
 | cons x l ih =>
  rw[Zq];cases pR x h with
  | true=>exact(List.Perm.cons x ih).trans (List.Perm.swap h x l)
  | false=>exact List.Perm.refl _
theorem hitLt_le{a b:dY}(h:pR a b=true):lG a b=true:=by
 unfold pR at h;unfold lG;simp only[Bool.or_eq_true,decide_eq_true_eq,Bool.and_eq_true,beq_iff_eq] at h ⊢;rcases h with h|⟨h,g⟩
 ·left;exact h
 ·right;exact⟨h,List.le_of_lt g⟩
theorem PV{a b:dY}(h:pR a b=false):lG b a=true:=by
 unfold pR at h;unfold lG;simp only[Bool.or_eq_false_iff,decide_eq_false_iff_not,Bool.and_eq_false_iff,beq_eq_false_iff_ne] at h;simp only[Bool.or_eq_true,decide_eq_true_eq,Bool.and_eq_true,beq_iff_eq];obtain⟨h1,h2⟩:=h;by_cases e:b.2=a.2
 ·right
  refine⟨e,?_⟩;rcases h2 with h2|h2
  ·exact absurd e.symm h2
  ·exact List.not_lt.1 h2
 ·left;omega
theorem ae9(h:dY)(l:List dY)(hl:l.Pairwise (fun x y=>lG x y=true)):(insH h l).Pairwise (fun x y=>lG x y=true):=by
 induction l with
 | nil=>simp[insH,PU]
 | cons x l ih =>
  rw[Zq];obtain⟨h1,h2⟩:=List.pairwise_cons.1 hl;cases hx:pR x h with
  | true =>
   simp only[if_true];refine List.pairwise_cons.2 ⟨fun y hy=>?_,ih h2⟩
   rcases List.mem_cons.1 ((Zr h l).mem_iff.1 hy) with rfl|hy
   ·exact hitLt_le hx
   ·exact h1 y hy
  | false =>
   have hhx:=PV hx;rw[if_neg (by simp)]
   refine List.pairwise_cons.2 ⟨fun y hy=>?_,hl⟩
   rcases List.mem_cons.1 hy with rfl|hy
   ·exact hhx
   ·exact F7 _ _ _ hhx (h1 y hy)
def d9(wt:Bytes→Nat)(q:QL)(ds:List au):List dY:=ds.foldl (fun out d=>match kZ wt q d with|some h=>insH h out|none=>out) []
theorem putH_snoc(wt:Bytes→Nat)(q:QL)(ds:List au)(d:au):d9 wt q (ds++[d])=match kZ wt q d with|some h=>insH h (d9 wt q ds)|none=>d9 wt q ds:=by
 unfold d9;rw[List.foldl_append];rfl
theorem mI(wt:Bytes→Nat)(q:QL)(ds:List au):(d9 wt q ds).Perm (ds.filterMap (kZ wt q))∧(d9 wt q ds).Pairwise (fun x y=>lG x y=true):=by
 have key:∀(ds:List au) (out:List dY),out.Pairwise (fun x y=>lG x y=true) →
   (ds.foldl (fun out d=>match kZ wt q d with|some h=>insH h out|none=>out) out).Perm (out++ds.filterMap (kZ wt q))∧(ds.foldl (fun out d=>match kZ wt q d with|some h=>insH h out|none=>out) out).Pairwise (fun x y=>lG x y=true):=by
  intro ds;induction ds with
  | nil=>intro out ho;exact⟨by simp,ho⟩
  | cons d ds ih =>
   intro out ho;cases h:kZ wt q d with
   | none=>rw[List.filterMap_cons_none h,List.foldl_cons,h];exact ih out ho
   | some x =>
    rw[List.filterMap_cons_some h,List.foldl_cons,h];obtain⟨h1,h2⟩:=ih (insH x out) (ae9 x out ho);refine⟨h1.trans ?_,h2⟩;exact((Zr x out).append_right _).trans (List.perm_middle.symm)
 have:=key ds [] List.Pairwise.nil;simpa[d9] using this
theorem BA(q:QL)(ds:List au):d9 (wtL ds) q ds=bA ds q :=
 LU _ _ ((mI (wtL ds) q ds).1.trans (sN ds q).symm) (mI (wtL ds) q ds).2 (yB ds q)
theorem putH_len(wt:Bytes→Nat)(q:QL)(ds:List au):(d9 wt q ds).length≤ds.length:=by
 rw[(mI wt q ds).1.length_eq];exact List.length_filterMap_le _ _
end
end Go.Proofs.YthijhicdmnoifaaGreatDoor
