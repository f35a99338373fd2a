/- Joined texts of one proof. -/
import Derived.Test.YthijhicdmnoifaaGreatDoorRWRef15e
set_option linter.unusedSimpArgs false
set_option linter.unusedVariables false
set_option linter.unnecessarySimpa false
set_option maxRecDepth 100000
set_option maxHeartbeats 8000000
namespace Go.Proofs.YthijhicdmnoifaaGreatDoor
section
open Go.RowKit
theorem tinfoQry:(Tryz.prog.info? 25).map (fun i=>(i.zero,i.size,i.bytes))=some (some (.agg #[.int .i64 0,ak [],.slice none 0 0,.slice none 0 0,.slice none 0 0]),5,96):=by kernel_rfl
theorem cellsCs{n:Nat}{A B:World}(h:Cs n A B){b:Nat}{x y z:Value}(k2:A.cell? ⟨b,2,none⟩=some x)(k3:A.cell? ⟨b,3,none⟩=some y)(k4:A.cell? ⟨b,4,none⟩=some z):B.cell? ⟨b,2,none⟩=some x∧B.cell? ⟨b,3,none⟩=some y∧B.cell? ⟨b,4,none⟩=some z:=⟨h.cell k2,h.cell k3,h.cell k4⟩
theorem Cs.al0{n:Nat}{A B:World}(h:Cs n A B)(o:Obj):Cs n A (B.alloc o):=h.trans (Cs.of_q (Q.alloc _ _))
theorem Cs.dr0{n:Nat}{A B:World}(h:Cs n A B):Cs n A B.drew:=h.trans (Cs.of_q (Q.drew _))
theorem Qt.dr0{A B:World}(h:Q A B):Q A B.drew:=h.trans (Q.drew _)
theorem Qt.al0{A B:World}(h:Q A B)(o:Obj):Q A (B.alloc o):=h.trans (Q.alloc _ _)
theorem slQ{w w':World}{v:Value}{n size:Nat}{xs:List Value}(h:Sl w v n size xs)(q:Q w w'):Sl w' v n size xs:=Sl.stays h q
theorem Qj(W:World)(base:Nat)(e:TypeId)(size:Nat)(hb:base≤W.heap.size):(W.alloc (.cells #[] e)).ownsRow base e size (.slice (some ⟨W.heap.size,0,none⟩) 0 0) 0 [] :=
 ⟨by simp,.inr ⟨W.heap.size,0,#[],rfl,hb,heap_alloc_new W _,Nat.le_refl _,by unfold maxLen;omega,by simp,by simp⟩⟩
theorem FD(W0:World){w:World}{ops:Array Oper}{o:Oper}{a:Act}{K:Act→World→Prop}{Qx:Exit→Act→World→Prop}{E:Prop}(uf:o.guard=none)(s x:Operand)
  (ho:o.op=.call { callee:=.builtin .append,args:=#[s,x],argTypes:=#[23,23] })
  (v:Value) (n:Nat) (xs:List Value) (hs:a.eval s=v) (aQ:w.ownsRow W0.heap.size 25 5 v n xs) (hq:Q W0 w)
  (vx:Value) (m:Nat) (ys:List Value) (hx:a.eval x=vx) (hl:Sl w vx m 5 ys) (h1:∀u∈ys,u.oneCell'=true) (hnm:n+m≤1000000000)
  (h:∀a2 p2 w',w'.ownsRow W0.heap.size 25 5 (.slice a2 (n+m) p2) (n+m) (xs++ys)→Q W0 w'→K (a.put o.dst (.slice a2 (n+m) p2)) w') :
  if Region.wanted o (yielded ops a.tmps)=true then Oper.wp Tryz.prog o a w K Qx else E:=by
 obtain⟨i0,hi,fJ,eU,fD⟩:=info_parts tinfoQry;have hw:Region.wanted o (yielded ops a.tmps)=true:=by simp[Region.wanted,uf]
 rw[if_pos hw];refine zG w s x 23 ho W0.heap.size 25 i0 (.agg #[.int .i64 0,ak [],.slice none 0 0,.slice none 0 0,.slice none 0 0]) 5 96 Tryz.underlying23 hi fJ eU fD rfl (by decide) v n xs hs aQ vx m ys hx hl h1 (by unfold maxLen;omega) (by omega) hq.size ?_
 intro v' w' h2 h3 _;obtain⟨a2,p2,rfl,_⟩:=aT h2;exact h a2 p2 w' h2 (aL hq aQ h3 (Nat.le_refl _) hq.size)
theorem acE(k:Int)(s:Bytes)(m sh n:List QL)(v:Value)(w:World)(h:QryAt w (.mk k s m sh n) v)(hl:m.length≤100000000∧sh.length≤100000000∧n.length≤100000000):
  Calls Tryz.prog 76 #[v] w fun e w'=>∃u,e=.returned u∧QrysAt w' u (m++sh++n)∧Q w w':=by
 obtain⟨vm,vs,vn,rfl,q1,q2,q3⟩:=h.open;obtain⟨xm,r1,s1⟩:=q1.rows;obtain⟨xs,r2,s2⟩:=q2.rows;obtain⟨xn,r3,s3⟩:=q3.rows;obtain⟨a1,p1,rfl,_⟩:=q1;obtain⟨a2,p2,rfl,_⟩:=q2;obtain⟨a3,p3,rfl,_⟩:=q3;obtain⟨wb,rO⟩:∃wb,wb=w.alloc (.cells #[.int .i64 k,ak s,.slice a1 m.length p1,.slice a2 sh.length p2,.slice a3 n.length p3] 25):=⟨_,rfl⟩;have Ll:Q w wb:=by rw[rO];exact Q.alloc _ _
 have gK:Blk wb w.heap.size 25 #[.int .i64 k,ak s,.slice a1 m.length p1,.slice a2 sh.length p2,.slice a3 n.length p3]:=by rw[rO];exact Blk.new _ _ _
 obtain⟨_,_,k2,k3,k4⟩:=gK.c5;have o1:=r1.one;have o2:=r2.one;have o3:=r3.one;have S1:=Hd (Sl.stays s1 Ll);have S2:=Hd (Sl.stays s2 Ll);have S3:=Hd (Sl.stays s3 Ll);have R:=Hd (QRows.append (r3.stays Ll) (QRows.append (r2.stays Ll) (r1.stays Ll)));have O1:=Hd o1;have O2:=Hd o2;have O3:=Hd o3;have nA:=Hd Ll;have KK:=Hd (Q.refl wb);clear r1 r2 r3 s1 s2 s3 o1 o2 o3 Ll gK h;have pz:Tryz.prog.follows .mixedOrders=true:=by kernel_rfl
 go_enter Tryz.func76,Tryz.ntmps76;go_wp2_with fail;rw[←rO];generalize hB:w.heap.size=B at *;clear rO hB;go_region_held3 (fun w'=>w'.cell? ⟨B,2,none⟩=some (.slice a1 m.length p1)∧w'.cell? ⟨B,3,none⟩=some (.slice a2 sh.length p2)∧w'.cell? ⟨B,4,none⟩=some (.slice a3 n.length p3))
  (first|exact⟨k2,k3,k4⟩|exact cellsCs (n:=0) (by repeat (first|with_reducible exact Cs.of_q KK.out|with_reducible apply Cs.al0|with_reducible apply Cs.dr0)) k2 k3 k4)
  (first
   | (refine FD wb (by rfl) _ _ (by rfl) _ 0 [] (by rfl) (Qj wb wb.heap.size 25 5 (Nat.le_refl _)) (by repeat (first|with_reducible exact KK.out|with_reducible apply Qt.al0|with_reducible apply Qt.dr0)) _ m.length xm (by rfl) (slQ S1.out (by repeat (first|with_reducible exact KK.out|with_reducible apply Qt.al0|with_reducible apply Qt.dr0))) O1.out (by omega) ?_;intro b1 c1 w1 jf q1;have H1:=Hd jf;clear KK;have KK:=Hd q1;clear jf q1)
   | (refine FD wb (by rfl) _ _ (by rfl) _ 0 [] (by rfl) (ownsRow_below (Qj wb wb.heap.size 25 5 (Nat.le_refl _)) (Q.drew _)) (by repeat (first|with_reducible exact KK.out|with_reducible apply Qt.al0|with_reducible apply Qt.dr0)) _ m.length xm (by rfl) (slQ S1.out (by repeat (first|with_reducible exact KK.out|with_reducible apply Qt.al0|with_reducible apply Qt.dr0))) O1.out (by omega) ?_;intro b1 c1 w1 jf q1;have H1:=Hd jf;clear KK;have KK:=Hd q1;clear jf q1)
   | (refine FD wb (by rfl) _ _ (by rfl) _ 0 [] (by rfl) (Qj wb.drew wb.heap.size 25 5 (Nat.le_refl _)) (by repeat (first|with_reducible exact KK.out|with_reducible apply Qt.al0|with_reducible apply Qt.dr0)) _ m.length xm (by rfl) (slQ S1.out (by repeat (first|with_reducible exact KK.out|with_reducible apply Qt.al0|with_reducible apply Qt.dr0))) O1.out (by omega) ?_;intro b1 c1 w1 jf q1;have H1:=Hd jf;clear KK;have KK:=Hd q1;clear jf q1)
   | (refine FD wb (by rfl) _ _ (by rfl) _ (0+m.length) ([]++xm) (by rfl) H1.out (by repeat (first|with_reducible exact KK.out|with_reducible apply Qt.al0|with_reducible apply Qt.dr0)) _ sh.length xs (by rfl) (slQ S2.out (by repeat (first|with_reducible exact KK.out|with_reducible apply Qt.al0|with_reducible apply Qt.dr0))) O2.out (by omega) ?_;intro b2 c2 w2 jI q2;have H2:=Hd jI;clear KK;have KK:=Hd q2;clear jI q2)
   | (refine FD wb (by rfl) _ _ (by rfl) _ (0+m.length) ([]++xm) (by rfl) (ownsRow_below H1.out (Q.drew _)) (by repeat (first|with_reducible exact KK.out|with_reducible apply Qt.al0|with_reducible apply Qt.dr0)) _ sh.length xs (by rfl) (slQ S2.out (by repeat (first|with_reducible exact KK.out|with_reducible apply Qt.al0|with_reducible apply Qt.dr0))) O2.out (by omega) ?_;intro b2 c2 w2 jI q2;have H2:=Hd jI;clear KK;have KK:=Hd q2;clear jI q2)
   | (refine FD wb (by rfl) _ _ (by rfl) _ (0+m.length+sh.length) ([]++xm++xs) (by rfl) H2.out (by repeat (first|with_reducible exact KK.out|with_reducible apply Qt.al0|with_reducible apply Qt.dr0)) _ n.length xn (by rfl) (slQ S3.out (by repeat (first|with_reducible exact KK.out|with_reducible apply Qt.al0|with_reducible apply Qt.dr0))) O3.out (by omega) ?_;intro b3 c3 w3 zY q3;have H3:=Hd zY;clear KK;have KK:=Hd q3;clear zY q3)
   | (refine FD wb (by rfl) _ _ (by rfl) _ (0+m.length+sh.length) ([]++xm++xs) (by rfl) (ownsRow_below H2.out (Q.drew _)) (by repeat (first|with_reducible exact KK.out|with_reducible apply Qt.al0|with_reducible apply Qt.dr0)) _ n.length xn (by rfl) (slQ S3.out (by repeat (first|with_reducible exact KK.out|with_reducible apply Qt.al0|with_reducible apply Qt.dr0))) O3.out (by omega) ?_;intro b3 c3 w3 zY q3;have H3:=Hd zY;clear KK;have KK:=Hd q3;clear zY q3))
 all_goals (go_wp2_with fail)
 all_goals go_ret
 all_goals refine⟨_,rfl,QRows.qrys (vs:=xm++xs++xn) (R.out.stays (by repeat (first|with_reducible exact KK.out|with_reducible apply Qt.al0|with_reducible apply Qt.dr0))) ?_,nA.out.trans (by repeat (first|with_reducible exact KK.out|with_reducible apply Qt.al0|with_reducible apply Qt.dr0))⟩
 all_goals (have h3:=slQ (Sl.of_owns H3.out) (by repeat (first|with_reducible exact Q.refl _|with_reducible apply Qt.al0|with_reducible apply Qt.dr0)))
 all_goals (simp only[List.nil_append,Nat.zero_add] at h3)
 all_goals (have el:(m++sh++n).length=m.length+sh.length+n.length:=by rw[List.length_append,List.length_append])
 all_goals (rw[el];exact h3)
theorem afM(qs:List QL)(k:Nat)(h:k<qs.length):dG (qs.take (k+1))=dG (qs.take k)+dh qs[k]:=by
 rw[List.take_succ_eq_append_getElem h,uG,dG,dG];omega
theorem Yt(qs:List QL)(k:Nat):dG (qs.take k)≤dG qs:=by
 have:=uG (qs.take k) (qs.drop k);rw[List.take_append_drop] at this;omega
def MX(m sh n:List QL)(k:Nat):List QL:=match k with
 | 0=>m
 | 1=>sh
 | _=>n
def IV(m sh n:List QL)(k:Nat):Nat:=match k with
 | 0=>1
 | 1=>1+dG m
 | 2=>1+dG m+dG sh
 | _=>1+dG m+dG sh+dG n
theorem aiv(m sh n:List QL)(k:Nat)(h:k<3):IV m sh n (k+1)=IV m sh n k+dG (MX m sh n k):=by
 match k,h with
 | 0,_=>rfl
 | 1,_=>rfl
 | 2,_=>rfl
theorem afN(q:QL):∀(most:Nat) (v:Value) (w:World),most≤1000→QryAt w q v →
  Calls Tryz.prog 41 #[v,.int .i64 most] w fun e w'=>e=.returned (.int .i64 ((min (dh q) (most+1):Nat):Int))∧Q w w':=by
 induction q using QL.ind with
 | h k s m sh n h1 h2 h3 =>
  intro most v w hm h;have dI:∀i,i<3→∀q∈MX m sh n i,∀(most:Nat) (v:Value) (w:World),most≤1000→QryAt w q v →
    Calls Tryz.prog 41 #[v,.int .i64 most] w fun e w'=>e=.returned (.int .i64 ((min (dh q) (most+1):Nat):Int))∧Q w w':=by
   intro i hi;match i,hi with
   | 0,_=>exact h1
   | 1,_=>exact h2
   | 2,_=>exact h3
  obtain⟨vm,vs,vn,rfl,⟨a1,p1,rfl,x1⟩,⟨a2,p2,rfl,x2⟩,⟨a3,p3,rfl,x3⟩⟩:=h.open;obtain⟨_,_,k2,k3,k4⟩:=(Blk.new w 25 #[.int .i64 k,ak s,.slice a1 m.length p1,.slice a2 sh.length p2,.slice a3 n.length p3]).c5;have hb:Q w ((w.alloc (.cells #[.int .i64 k,ak s,.slice a1 m.length p1,.slice a2 sh.length p2,.slice a3 n.length p3] 25)).alloc (.cells #[.slice a1 m.length p1,.slice a2 sh.length p2,.slice a3 n.length p3] 23)):=(Q.alloc _ _).trans (Q.alloc _ _);have dR:∀i,i<3→∃a p,((w.alloc (.cells #[.int .i64 k,ak s,.slice a1 m.length p1,.slice a2 sh.length p2,.slice a3 n.length p3] 25)).alloc (.cells #[.slice a1 m.length p1,.slice a2 sh.length p2,.slice a3 n.length p3] 23)).cell? ⟨w.heap.size+1,i,none⟩=some (.slice a (MX m sh n i).length p) ∧
    (0<(MX m sh n i).length→∃b off,a=some ⟨b,off,none⟩∧QcellsAt w (MX m sh n i) b off):=by
   have gK:=Blk.new (w.alloc (.cells #[.int .i64 k,ak s,.slice a1 m.length p1,.slice a2 sh.length p2,.slice a3 n.length p3] 25)) 23 #[.slice a1 m.length p1,.slice a2 sh.length p2,.slice a3 n.length p3];rw[show(w.alloc (.cells #[.int .i64 k,ak s,.slice a1 m.length p1,.slice a2 sh.length p2,.slice a3 n.length p3] 25)).heap.size=w.heap.size+1 by simp] at gK
   intro i hi;match i,hi with
   | 0,_=>exact⟨a1,p1,gK.cell 0 _ rfl,x1⟩
   | 1,_=>exact⟨a2,p2,gK.cell 1 _ rfl,x2⟩
   | 2,_=>exact⟨a3,p3,gK.cell 2 _ rfl,x3⟩
  have HA:=Hd dI;have HB:=Hd hb;have HR:=Hd dR;clear dI hb dR h h1 h2 h3 x1 x2 x3;rw[show dh (.mk k s m sh n)=IV m sh n 3 by rw[dh];rfl]
  go_enter Tryz.func41,Tryz.ntmps41;go_wp2_with fail;generalize hW:(w.alloc (.cells #[.int .i64 k,ak s,.slice a1 m.length p1,.slice a2 sh.length p2,.slice a3 n.length p3] 25)).alloc (.cells #[.slice a1 m.length p1,.slice a2 sh.length p2,.slice a3 n.length p3] 23)=wb at *;clear hW k2 k3 k4;go_loopw [5,7] (fun x i wr=>∃j:Nat,j≤3∧i=.int .i64 (j:Nat)∧x=.int .i64 ((min (IV m sh n j) (most+1):Nat):Int)∧Hid (Q wb wr)) (fun _ i _=>3-(intOf i).toNat)
  case atStart=>exact⟨0,by omega,rfl,by simp[IV],Q.refl _⟩
  case round =>
   obtain⟨j,hj,rfl,rfl,HQ⟩:=hrel;obtain⟨wo,rfl⟩:∃wo:World,wo=wr:=⟨_,rfl⟩;by_cases hlt:j<3
   ·obtain⟨a,p,c0,bC⟩:=HR.out j hlt
    have aI:=aiv m sh n j hlt;have ha:=HA.out j hlt;generalize MX m sh n j=qs at *;generalize hN0:IV m sh n j=N0 at *;have c1:=ah HQ.out c0;have ql:(j:Int)<3:=by omega
    have gY:(0:Int)≤(j:Int):=by omega
    have rM:=Hd bC;have bJ:=Hd aI;have Tk:=Hd ha;have C0:=Hd c0;clear bC aI ha c0 hN0;go_wp2_with fail;go_loopw [5,8] (fun x i wr=>∃l:Nat,l≤qs.length∧i=.int .i64 (l:Nat)∧x=.int .i64 ((min (N0+dG (qs.take l)) (most+1):Nat):Int)∧Hid (Q wb wr)) (fun _ i _=>qs.length-(intOf i).toNat)
    case atStart=>exact⟨0,by omega,rfl,by rw[List.take_zero,dG];simp,HQ⟩
    case round =>
     obtain⟨l,hl,rfl,rfl,aS⟩:=hrel;obtain⟨wi,rfl⟩:∃wi:World,wi=wr:=⟨_,rfl⟩;have c2:=ah aS.out C0.out;have bR:=Yt qs l;by_cases sO:l<qs.length
     ·have OP:(l:Int)<(qs.length:Int):=by omega
      have Xm:(0:Int)≤(l:Int):=by omega
      by_cases FQ:N0+dG (qs.take l)≤most
      ·obtain⟨b,off,rfl,He⟩:=rM.out (by omega)
       obtain⟨e0,e1,e2,e3,e4,⟨g0,g1,g2,g3,g4⟩,mF⟩:=He.at l sO;obtain⟨fk,fs,b1,n1,r1,b2,n2,r2,b3,n3,r3,rfl,rfl,rfl,rfl,rfl⟩:=mF.form;have qq:=HB.out.trans aS.out;have u0:=ah qq g0;have u1:=ah qq g1;have u2:=ah qq g2;have u3:=ah qq g3;have u4:=ah qq g4;have aI:=afM qs l sO;have U9:=PN qs[l];have aw0:l≤1000:=by have:=jW (qs.take l);rw[List.length_take] at this;omega
       obtain⟨z,hz⟩:∃z,z=N0+dG (qs.take l):=⟨_,rfl⟩;have Vf:min (N0+dG (qs.take l)) (most+1)=z:=by omega
       rw[Vf];have c:=Tk.out qs[l] (List.getElem_mem sO) (most-z) _ wi (by omega) (mF.stays qq)
       rw[show((most-z:Nat):Int)=(most:Int)-(z:Int) by omega] at c
       have eU:(z:Int)≤(most:Int):=by omega
       have fD:IntKind.i64.wrap ((most:Int)-(z:Int))=(most:Int)-(z:Int):=IntWalk.i64_in _ (by omega)
       have kU:z+min (dh qs[l]) (most-z+1)=min (N0+dG (qs.take (l+1))) (most+1):=by rw[aI];omega
       have axF:z+min (dh qs[l]) (most-z+1)≤1001:=by omega
       generalize min (dh qs[l]) (most-z+1)=y at *;have hz3:IntKind.i64.wrap ((z:Int)+(y:Int))=((z+y:Nat):Int):=by rw[IntWalk.i64_in _ (by omega)];omega
       have C:=Hd c;have yx:=Hd kU;clear c aI U9 hz Vf He mF g0 g1 g2 g3 g4 qq kU bR;go_wp2_with fail;refine C.out.mono ?_;rintro e w1 ⟨rfl,q1⟩;have bZ:=Hd (aS.out.trans q1);clear q1 C u0 u1 u2 u3 u4 c2 c1;go_wp2_with fail;go_roundw;case rel=>exact⟨l+1,by omega,by go_num,by rw[←yx.out];first|rfl|simp[hz3],bZ⟩
       case measure=>simp[intOf];omega
      ·have Vf:min (N0+dG (qs.take l)) (most+1)=most+1:=by omega
       rw[Vf];have eU:¬((most+1:Nat):Int)≤(most:Int):=by omega
       have kU:most+1=min (N0+dG qs) (most+1):=by omega
       have yx:=Hd kU;clear Vf kU bR FQ;go_wp2_with fail;go_roundw;case rel=>exact⟨j+1,by omega,by go_num,by rw[bJ.out,←yx.out],aS⟩
       case measure=>simp[intOf];omega
     ·have EH:l=qs.length:=by omega
      subst EH;rw[List.take_length];have eU:((min (N0+dG qs) (most+1):Nat):Int)≤1001:=by omega
      go_wp2_with fail;go_roundw;case rel=>exact⟨j+1,by omega,by go_num,by rw[bJ.out],aS⟩
      case measure=>simp[intOf];omega
   ·have cO:j=3:=by omega
    subst cO;have hz:IntKind.i64.wrap ((most:Int)+1)=(most:Int)+1:=IntWalk.i64_in _ (by omega)
    have hmn:min ((min (IV m sh n 3) (most+1):Nat):Int) ((most:Int)+1)=((min (IV m sh n 3) (most+1):Nat):Int):=by omega
    generalize hR:((min (IV m sh n 3) (most+1):Nat):Int)=R at *;have qj:=Hd hR;clear hR;go_wp2_with fail;go_ret;exact⟨gV qj.out.symm,HB.out.trans HQ.out⟩
theorem afO(qs:List QL)(k:Nat)(h:k<qs.length):lg (qs.take (k+1))=max (lg (qs.take k)) (uK qs[k]):=by
 rw[List.take_succ_eq_append_getElem h,Ib,lg,lg];omega
mutual
theorem IW:∀q:QL,uK q≤dh q
 | .mk k s m sh n=>by
  rw[uK,dh]
  have:=BH m;have:=BH sh;have:=BH n
  omega
theorem BH:∀qs:List QL,lg qs≤dG qs
 | []=>by rw[lg,dG];omega
 | q::qs=>by
  rw[lg,dG]
  have:=IW q;have:=BH qs
  omega
end
theorem aiw(q:QL):∀(v:Value) (w:World),dh q≤1000→QryAt w q v →
  Calls Tryz.prog 42 #[v] w fun e w'=>e=.returned (.int .i64 (uK q:Nat))∧Q w w':=by
 induction q using QL.ind with
 | h k s m sh n h1 h2 h3 =>
  intro v w hs h;rw[dh] at hs;have dI:∀q∈m++sh++n,∀(v:Value) (w:World),dh q≤1000→QryAt w q v→Calls Tryz.prog 42 #[v] w fun e w'=>e=.returned (.int .i64 (uK q:Nat))∧Q w w':=by
   intro q hq;simp only[List.mem_append] at hq;rcases hq with (hq|hq)|hq
   ·exact h1 q hq
   ·exact h2 q hq
   ·exact h3 q hq
  have jZ:=jW m;have jB:=jW sh;have lC:=jW n;have aY:dG (m++sh++n)≤1000:=by rw[uG,uG];omega
  have hd:uK (.mk k s m sh n)=lg (m++sh++n)+1:=by rw[uK,Ib,Ib]
  have ku:lg (m++sh++n)≤1000:=Nat.le_trans (BH _) aY;rw[hd];obtain⟨vm,vs,vn,rfl,⟨a1,p1,rfl,x1⟩,⟨a2,p2,rfl,x2⟩,⟨a3,p3,rfl,x3⟩⟩:=h.open;obtain⟨k0,k1,k2,k3,k4⟩:=(Blk.new w 25 #[.int .i64 k,ak s,.slice a1 m.length p1,.slice a2 sh.length p2,.slice a3 n.length p3]).c5;have hb:=Q.alloc w (.cells #[.int .i64 k,ak s,.slice a1 m.length p1,.slice a2 sh.length p2,.slice a3 n.length p3] 25);have ck:=acE k s m sh n _ _ (h.stays hb) ⟨by omega,by omega,by omega⟩
  generalize m++sh++n=qs at *;have HA:=Hd dI;have HB:=Hd hb;have CK:=Hd ck;have AB:=Hd aY;have zW:=Hd ku;have Nn:qs.length≤1000:=Nat.le_trans (jW qs) aY;clear dI hb h h1 h2 h3 x1 x2 x3 ck hd aY ku hs;go_enter Tryz.func42,Tryz.ntmps42;go_wp2_with fail;refine CK.out.mono ?_;rintro e w1 ⟨u,rfl,hu,q1⟩;obtain⟨a,p,rfl,bC⟩:=hu;have rM:=Hd bC;have aC:=Hd (HB.out.trans q1);clear bC q1 CK HB k0 k1 k2 k3 k4;go_wp2_with fail;go_loopw [3,5] (fun x i wr=>∃j:Nat,j≤qs.length∧i=.int .i64 (j:Nat)∧x=.int .i64 (lg (qs.take j):Nat)∧Hid (Q w1 wr)) (fun _ i _=>qs.length-(intOf i).toNat)
  case atStart=>exact⟨0,by omega,rfl,by rw[List.take_zero,lg];rfl,Q.refl _⟩
  case round =>
   obtain⟨j,hj,rfl,rfl,HQ⟩:=hrel;obtain⟨wo,rfl⟩:∃wo:World,wo=wr:=⟨_,rfl⟩;by_cases hlt:j<qs.length
   ·obtain⟨b,off,rfl,He⟩:=rM.out (by omega)
    obtain⟨e0,e1,e2,e3,e4,⟨g0,g1,g2,g3,g4⟩,mF⟩:=He.at j hlt;obtain⟨fk,fs,b1,n1,r1,b2,n2,r2,b3,n3,r3,rfl,rfl,rfl,rfl,rfl⟩:=mF.form;have u0:=ah HQ.out g0;have u1:=ah HQ.out g1;have u2:=ah HQ.out g2;have u3:=ah HQ.out g3;have u4:=ah HQ.out g4;have aI:=afO qs j hlt;have ql:(j:Int)<(qs.length:Int):=by omega
    have gY:(0:Int)≤(j:Int):=by omega
    have ko:dh qs[j]≤1000:=Nat.le_trans (uN (List.getElem_mem hlt)) AB.out;have c:=HA.out qs[j] (List.getElem_mem hlt) _ wo ko (mF.stays HQ.out);have pz:max ((lg (qs.take j):Nat):Int) ((uK qs[j]:Nat):Int)=((lg (qs.take (j+1)):Nat):Int):=by rw[aI];omega
    generalize uK qs[j]=y at *;generalize lg (qs.take j)=z at *;have C:=Hd c;have HMX:=Hd pz;clear c aI He mF g0 g1 g2 g3 g4 pz ko;go_wp2_with fail;refine C.out.mono ?_;rintro e w2 ⟨rfl,q2⟩;have bZ:=Hd (HQ.out.trans q2);clear q2 C u0 u1 u2 u3 u4;go_wp2_with fail;go_roundw;case rel=>exact⟨j+1,by omega,by go_num,by rw[←HMX.out],bZ⟩
    case measure=>simp[intOf];omega
   ·have cO:j=qs.length:=by omega
    subst cO;rw[List.take_length];have ku:=zW.out;go_wp2_with fail;go_ret;exact⟨by go_num,aC.out.trans HQ.out⟩
def yg(q:QL):Nat×Nat:=if 1000<dh q then(1001,0) else(dh q,uK q)
theorem WZ(q:QL)(v:Value)(w:World)(h:QryAt w q v):
  Calls Tryz.prog 17 #[v] w fun e w'=>e=.returned (.tuple #[.int .i64 ((yg q).1:Nat),.int .i64 ((yg q).2:Nat)])∧Q w w':=by
 cases q with
 | mk k s m sh n =>
  obtain⟨vm,vs,vn,rfl,⟨a1,p1,rfl,x1⟩,⟨a2,p2,rfl,x2⟩,⟨a3,p3,rfl,x3⟩⟩:=h.open;have hb:=Q.alloc w (.cells #[.int .i64 k,ak s,.slice a1 m.length p1,.slice a2 sh.length p2,.slice a3 n.length p3] 25);obtain⟨k0,k1,k2,k3,k4⟩:=(Blk.new w 25 #[.int .i64 k,ak s,.slice a1 m.length p1,.slice a2 sh.length p2,.slice a3 n.length p3]).c5;have cc:=afN (.mk k s m sh n) 1000 _ _ (by omega) (h.stays hb)
  have hd:=IW (.mk k s m sh n);by_cases aY:1000<dh (.mk k s m sh n)
  ·have e:yg (.mk k s m sh n)=(1001,0):=by unfold yg;rw[if_pos aY]
   rw[show min (dh (.mk k s m sh n)) (1000+1)=1001 by omega] at cc
   rw[e];have C:=Hd cc;have HB:=Hd hb;clear cc h x1 x2 x3 hb e;go_enter Tryz.func17,Tryz.ntmps17;go_wp2_with fail;refine C.out.mono ?_;rintro e w1 ⟨rfl,q1⟩;have aC:=Hd (HB.out.trans q1);clear q1 C;go_wp2_with fail;go_ret2;exact⟨rfl,aC.out⟩
  ·have e:yg (.mk k s m sh n)=(dh (.mk k s m sh n),uK (.mk k s m sh n)):=by unfold yg;rw[if_neg aY]
   rw[show min (dh (.mk k s m sh n)) (1000+1)=dh (.mk k s m sh n) by omega] at cc
   have cd:=fun (W:World) (hq:Q w W)=>aiw (.mk k s m sh n) _ W (by omega) (h.stays hq)
   rw[e];generalize hN:dh (.mk k s m sh n)=N at *;generalize uK (.mk k s m sh n)=D at *;have qC:¬(1000:Int)<(N:Int):=by omega
   have C:=Hd cc;have HB:=Hd hb;have CD:=Hd cd;clear cc h x1 x2 x3 hb e cd hN;go_enter Tryz.func17,Tryz.ntmps17;go_wp2_with fail;refine C.out.mono ?_;rintro e w1 ⟨rfl,q1⟩;have aC:=Hd (HB.out.trans q1);have u0:=ah q1 k0;have u1:=ah q1 k1;have u2:=ah q1 k2;have u3:=ah q1 k3;have u4:=ah q1 k4;clear q1 C k0 k1 k2 k3 k4;go_wp2_with fail;refine(CD.out _ aC.out).mono ?_;rintro e w2 ⟨rfl,q2⟩;have aS:=Hd (aC.out.trans q2);clear q2 CD u0 u1 u2 u3 u4;go_wp2_with fail;go_ret2;exact⟨rfl,aS.out⟩
mutual
def txtQ:QL→Prop
 | .mk k s m sh n=>s.length≤9223372036854775807∧pV m∧pV sh∧pV n
def pV:List QL→Prop
 | []=>True
 | q::qs=>txtQ q∧pV qs
end
theorem Qk{qs:List QL}(h:pV qs):∀q∈qs,txtQ q:=by
 induction qs with
 | nil=>intro q hq;simp at hq
 | cons x qs ih =>
  rw[pV] at h;intro q hq;rcases List.mem_cons.1 hq with rfl|hq
  ·exact h.1
  ·exact ih h.2 q hq
theorem aix(k:Int)(s:Bytes)(m sh n:List QL)(v:Value)(w:World)(h:QryAt w (.mk k s m sh n) v)(hs:s.length≤9223372036854775807)(hl:m.length+sh.length+n.length≤1000):
  Calls Tryz.prog 77 #[v] w fun e w'=>e=.returned (.bool (uM k s (m.length+sh.length+n.length)))∧Q w w':=by
 obtain⟨vm,vs,vn,rfl,⟨a1,p1,rfl,x1⟩,⟨a2,p2,rfl,x2⟩,⟨a3,p3,rfl,x3⟩⟩:=h.open;have hb:=Q.alloc w (.cells #[.int .i64 k,ak s,.slice a1 m.length p1,.slice a2 sh.length p2,.slice a3 n.length p3] 25);obtain⟨k0,k1,k2,k3,k4⟩:=(Blk.new w 25 #[.int .i64 k,ak s,.slice a1 m.length p1,.slice a2 sh.length p2,.slice a3 n.length p3]).c5;have HB:=Hd hb;have hm:m.length≤1000:=by omega
 have Xj:sh.length≤1000:=by omega
 have hn:n.length≤1000:=by omega
 clear hb h x1 x2 x3;obtain⟨M1,hM1⟩:∃M1:Nat,M1=m.length+sh.length:=⟨_,rfl⟩;obtain⟨N,hN0⟩:∃N:Nat,N=m.length+sh.length+n.length:=⟨_,rfl⟩;have w1:IntKind.i64.wrap ((m.length:Int)+(sh.length:Int))=(M1:Int):=by rw[IntWalk.i64_in _ (by omega)];omega
 have w2:IntKind.i64.wrap ((M1:Int)+(n.length:Int))=(N:Int):=by rw[IntWalk.i64_in _ (by omega)];omega
 rw[←hN0];clear hN0 hM1 hl;generalize m.length=ml at *;generalize sh.length=sl at *;generalize n.length=nl at *;by_cases e1:k=1
 ·subst e1
  have hr:uM 1 s N=(s.isEmpty&&decide (N=0)):=by unfold uM;rw[if_pos rfl]
  rw[hr];clear hr;go_enter Tryz.func77,Tryz.ntmps77;cases s with
  | nil =>
   by_cases hN:N=0
   ·subst hN
    go_wp2_with fail;go_ret;exact⟨rfl,HB.out⟩
   ·have hN1:¬(N:Int)=0:=by omega
    have hN2:((N:Int)==0)=false:=by simpa using hN1
    go_wp2_with fail;go_ret;exact⟨eX (by simp[hN]),HB.out⟩
  | cons c s =>
   go_wp2_with fail;go_ret;exact⟨eX (by simp),HB.out⟩
 ·by_cases e2:k=2∨k=3∨k=4
  ·have hr:uM k s N=(Lib.validD s&&decide (s.length≤200)&&decide (N=0)):=by unfold uM;rw[if_neg e1,if_pos e2]
   rw[hr,←Js _ s (Nat.le_refl _)];have cv:=fun W=>IQ s W hs
   generalize pW s=b1 at *;have CV:=Hd cv;clear hr cv;rcases e2 with rfl|rfl|rfl;all_goals
    go_enter Tryz.func77,Tryz.ntmps77;go_wp2_with fail;refine(CV.out _).mono ?_;rintro e w3 ⟨rfl,q3⟩;have u1:=ah q3 k1;have bZ:=Hd (HB.out.trans q3);clear q3 k0 k1 k2 k3 k4;cases b1
    ·go_wp2_with fail
     go_ret;exact⟨eX (by simp),bZ.out⟩
    ·by_cases aqc:s.length≤200
     ·have aqN:(s.length:Int)≤200:=by omega
      by_cases hN:N=0
      ·subst hN
       go_wp2_with fail;go_ret;exact⟨eX (by simp[aqc]),bZ.out⟩
      ·have hN1:¬(N:Int)=0:=by omega
       have hN2:((N:Int)==0)=false:=by simpa using hN1
       go_wp2_with fail;go_ret;exact⟨eX (by simp[hN]),bZ.out⟩
     ·have aqN:¬(s.length:Int)≤200:=by omega
      go_wp2_with fail;go_ret;exact⟨eX (by simp[aqc]),bZ.out⟩
  ·by_cases e5:k=5
   ·subst e5
    have hr:uM 5 s N=s.isEmpty:=by unfold uM;rw[if_neg (by decide),if_neg (by decide),if_pos rfl]
    rw[hr];clear hr;go_enter Tryz.func77,Tryz.ntmps77;cases s with
    | nil =>
     go_wp2_with fail;go_ret;exact⟨rfl,HB.out⟩
    | cons c s =>
     go_wp2_with fail;go_ret;exact⟨eX (by simp),HB.out⟩
   ·have hr:uM k s N=false:=by unfold uM;rw[if_neg e1,if_neg e2,if_neg e5]
    have e2a:¬k=2:=fun h=>e2 (.inl h)
    have e3a:¬k=3:=fun h=>e2 (.inr (.inl h))
    have e4a:¬k=4:=fun h=>e2 (.inr (.inr h))
    have f1:(k==1)=false:=by simpa using e1
    have f2:(k==2)=false:=by simpa using e2a
    have f3:(k==3)=false:=by simpa using e3a
    have f4:(k==4)=false:=by simpa using e4a
    have f5:(k==5)=false:=by simpa using e5
    rw[hr];clear hr e2;go_enter Tryz.func77,Tryz.ntmps77;go_wp2_with fail;go_ret;exact⟨rfl,HB.out⟩
theorem acF(qs:List QL)(k:Nat)(h:k<qs.length):dX (qs.take (k+1))=(dX (qs.take k)&&iD qs[k]):=by
 rw[List.take_succ_eq_append_getElem h,Ak,dX,dX,Bool.and_true]
theorem aaV{qs:List QL}{k:Nat}(h:dX (qs.take k)=false):dX qs=false:=by
 rw[←List.take_append_drop k qs,Ak,h,Bool.false_and]
theorem afP(q:QL):∀(v:Value) (w:World),dh q≤1000→txtQ q→QryAt w q v →
  Calls Tryz.prog 43 #[v] w fun e w'=>e=.returned (.bool (iD q))∧Q w w':=by
 induction q using QL.ind with
 | h k s m sh n h1 h2 h3 =>
  intro v w hs ht h;rw[dh] at hs;rw[txtQ] at ht;obtain⟨EO,JD,ht3,ht4⟩:=ht;have dI:∀q∈m++sh++n,∀(v:Value) (w:World),dh q≤1000→QryAt w q v→Calls Tryz.prog 43 #[v] w fun e w'=>e=.returned (.bool (iD q))∧Q w w':=by
   intro q hq v w hz;simp only[List.mem_append] at hq;rcases hq with (hq|hq)|hq
   ·exact h1 q hq v w hz (Qk JD q hq)
   ·exact h2 q hq v w hz (Qk ht3 q hq)
   ·exact h3 q hq v w hz (Qk ht4 q hq)
  have jZ:=jW m;have jB:=jW sh;have lC:=jW n;have aY:dG (m++sh++n)≤1000:=by rw[uG,uG];omega
  have hd:iD (.mk k s m sh n)=(uM k s (m.length+sh.length+n.length)&&dX (m++sh++n)):=by rw[iD,Ak,Ak]
  rw[hd];have hb:=Q.alloc w (.cells #[.int .i64 k,ak s] 25);clear hb;have h':=h;obtain⟨vm,vs,vn,rfl,⟨a1,p1,rfl,x1⟩,⟨a2,p2,rfl,x2⟩,⟨a3,p3,rfl,x3⟩⟩:=h.open;obtain⟨k0,k1,k2,k3,k4⟩:=(Blk.new w 25 #[.int .i64 k,ak s,.slice a1 m.length p1,.slice a2 sh.length p2,.slice a3 n.length p3]).c5;have hb:=Q.alloc w (.cells #[.int .i64 k,ak s,.slice a1 m.length p1,.slice a2 sh.length p2,.slice a3 n.length p3] 25);have ck:=fun (W:World) (hq:Q w W)=>acE k s m sh n _ W (h'.stays hq) ⟨by omega,by omega,by omega⟩
  have cn:=aix k s m sh n _ _ (h'.stays hb) EO (by omega)
  generalize m++sh++n=qs at *;generalize uM k s (m.length+sh.length+n.length)=b0 at *;have HA:=Hd dI;have HB:=Hd hb;have CK:=Hd ck;have AB:=Hd aY;have CN:=Hd cn;have Nn:qs.length≤1000:=Nat.le_trans (jW qs) aY;clear dI hb h h' h1 h2 h3 x1 x2 x3 ck hd aY hs cn EO JD ht3 ht4;go_enter Tryz.func43,Tryz.ntmps43;go_wp2_with fail;refine CN.out.mono ?_;rintro e w1 ⟨rfl,q1⟩;have aC:=Hd (HB.out.trans q1);have u0:=ah q1 k0;have u1:=ah q1 k1;have u2:=ah q1 k2;have u3:=ah q1 k3;have u4:=ah q1 k4;clear q1 HB CN k0 k1 k2 k3 k4;go_wp2_with fail;refine(CK.out _ aC.out).mono ?_;rintro e w2 ⟨u,rfl,hu,q2⟩;obtain⟨a,p,rfl,bC⟩:=hu;have rM:=Hd bC;have aS:=Hd (aC.out.trans q2);clear bC q2 CK aC u0 u1 u2 u3 u4;go_wp2_with fail;go_loopw [3,5] (fun x i wr=>∃j:Nat,j≤qs.length∧i=.int .i64 (j:Nat)∧x=.bool (b0&&dX (qs.take j))∧Hid (Q w2 wr)) (fun _ i _=>qs.length-(intOf i).toNat)
  case atStart=>exact⟨0,by omega,rfl,by rw[List.take_zero,dX,Bool.and_true],Q.refl _⟩
  case round =>
   obtain⟨j,hj,rfl,rfl,HQ⟩:=hrel;obtain⟨wo,rfl⟩:∃wo:World,wo=wr:=⟨_,rfl⟩;by_cases hlt:j<qs.length
   ·have ql:(j:Int)<(qs.length:Int):=by omega
    have gY:(0:Int)≤(j:Int):=by omega
    by_cases bD:(b0&&dX (qs.take j))=true
    ·rw[bD]
     obtain⟨b,off,rfl,He⟩:=rM.out (by omega)
     obtain⟨e0,e1,e2,e3,e4,⟨g0,g1,g2,g3,g4⟩,mF⟩:=He.at j hlt;obtain⟨fk,fs,b1,n1,r1,b2,n2,r2,b3,n3,r3,rfl,rfl,rfl,rfl,rfl⟩:=mF.form;have u0:=ah HQ.out g0;have u1:=ah HQ.out g1;have u2:=ah HQ.out g2;have u3:=ah HQ.out g3;have u4:=ah HQ.out g4;have aI:iD qs[j]=(b0&&dX (qs.take (j+1))):=by rw[acF qs j hlt,←Bool.and_assoc,bD,Bool.true_and]
     have ko:dh qs[j]≤1000:=Nat.le_trans (uN (List.getElem_mem hlt)) AB.out;have c:=HA.out qs[j] (List.getElem_mem hlt) _ wo ko (mF.stays HQ.out);rw[aI] at c;generalize hy:(b0&&dX (qs.take (j+1)))=y at *;have C:=Hd c;have HY:=Hd hy;clear c aI He mF g0 g1 g2 g3 g4 ko bD hy;go_wp2_with fail;refine C.out.mono ?_;rintro e w3 ⟨rfl,q3⟩;have bZ:=Hd (HQ.out.trans q3);clear q3 C u0 u1 u2 u3 u4;go_wp2_with fail;go_roundw;case rel=>exact⟨j+1,by omega,by go_num,by rw[HY.out],bZ⟩
     case measure=>simp[intOf];omega
    ·have Vq:(b0&&dX (qs.take j))=false:=by simpa using bD
     rw[Vq];have tV:(b0&&dX qs)=false:=by
      cases b0 with
      | false=>rfl
      | true=>rw[Bool.true_and] at Vq ⊢;exact aaV Vq
     have HF:=Hd tV;clear bD Vq tV;go_wp2_with fail;go_ret;exact⟨eX (by rw[HF.out]),aS.out.trans HQ.out⟩
   ·have cO:j=qs.length:=by omega
    subst cO;go_wp2_with fail;go_ret;exact⟨eX (by rw[List.take_length]),aS.out.trans HQ.out⟩
theorem Gj(q:QL)(v:Value)(w:World)(ht:txtQ q)(h:QryAt w q v):
  Calls Tryz.prog 18 #[v] w fun e w'=>e=.returned (.bool (wQ q))∧Q w w':=by
 obtain⟨k,s,m,sh,n,rfl⟩:∃k s m sh n,q=.mk k s m sh n:=by cases q;exact⟨_,_,_,_,_,rfl⟩
 have h':=h;obtain⟨vm,vs,vn,rfl,⟨a1,p1,rfl,x1⟩,⟨a2,p2,rfl,x2⟩,⟨a3,p3,rfl,x3⟩⟩:=h.open;have hb:=Q.alloc w (.cells #[.int .i64 k,ak s,.slice a1 m.length p1,.slice a2 sh.length p2,.slice a3 n.length p3] 25);obtain⟨k0,k1,k2,k3,k4⟩:=(Blk.new w 25 #[.int .i64 k,ak s,.slice a1 m.length p1,.slice a2 sh.length p2,.slice a3 n.length p3]).c5;have cs:=WZ (.mk k s m sh n) _ _ (h'.stays hb);have cn:=fun (W:World) (hq:Q w W) (hz:dh (.mk k s m sh n)≤1000)=>afP (.mk k s m sh n) _ W hz ht (h'.stays hq)
 have Ay:yg (.mk k s m sh n)=if 1000<dh (.mk k s m sh n) then(1001,0) else(dh (.mk k s m sh n),uK (.mk k s m sh n)):=rfl
 have hr:wQ (.mk k s m sh n)=(decide (dh (.mk k s m sh n)≤100)&&decide (uK (.mk k s m sh n)≤20)&&iD (.mk k s m sh n)):=rfl;have ku:=IW (.mk k s m sh n);rw[hr];generalize hZ:dh (.mk k s m sh n)=Z at *;generalize hD:uK (.mk k s m sh n)=D at *;generalize hN:iD (.mk k s m sh n)=b at *;generalize hS:yg (.mk k s m sh n)=S at *;have HB:=Hd hb;have CS:=Hd cs;have CN:=Hd cn;clear hb cs cn h h' x1 x2 x3 hZ hD hN hS hr;by_cases h1:1000<Z
 ·rw[if_pos h1] at Ay
  subst Ay;have e:(decide (Z≤100)&&decide (D≤20)&&b)=false:=by rw[decide_eq_false (by omega)];rfl
  rw[e];clear e;go_enter Tryz.func18,Tryz.ntmps18;go_wp2_with fail;refine CS.out.mono ?_;rintro e w1 ⟨rfl,q1⟩;have aC:=Hd (HB.out.trans q1);clear q1;go_wp2_with fail;go_ret;exact⟨rfl,aC.out⟩
 ·rw[if_neg h1] at Ay
  subst Ay;have eU:Z≤1000:=by omega
  have JE:D≤1000:=by omega
  by_cases h2:Z≤100
  ·by_cases h3:D≤20
   ·have e:(decide (Z≤100)&&decide (D≤20)&&b)=b:=by rw[decide_eq_true h2,decide_eq_true h3];rfl
    rw[e];clear e;have h2i:¬(100:Int)<(Z:Int):=by omega
    have h3i:¬(20:Int)<(D:Int):=by omega
    go_enter Tryz.func18,Tryz.ntmps18;go_wp2_with fail;refine CS.out.mono ?_;rintro e w1 ⟨rfl,q1⟩;have aC:=Hd (HB.out.trans q1);have u0:=ah q1 k0;have u1:=ah q1 k1;have u2:=ah q1 k2;have u3:=ah q1 k3;have u4:=ah q1 k4;clear q1 k0 k1 k2 k3 k4;go_wp2_with fail;refine(CN.out _ aC.out eU).mono ?_;rintro e w2 ⟨rfl,q2⟩;have aS:=Hd (aC.out.trans q2);clear q2 u0 u1 u2 u3 u4;go_wp2_with fail;go_ret;exact⟨rfl,aS.out⟩
   ·have e:(decide (Z≤100)&&decide (D≤20)&&b)=false:=by rw[decide_eq_false h3,Bool.and_false];rfl
    rw[e];clear e;have h2i:¬(100:Int)<(Z:Int):=by omega
    have h3i:(20:Int)<(D:Int):=by omega
    go_enter Tryz.func18,Tryz.ntmps18;go_wp2_with fail;refine CS.out.mono ?_;rintro e w1 ⟨rfl,q1⟩;have aC:=Hd (HB.out.trans q1);clear q1;go_wp2_with fail;go_ret;exact⟨rfl,aC.out⟩
  ·have e:(decide (Z≤100)&&decide (D≤20)&&b)=false:=by rw[decide_eq_false h2];rfl
   rw[e];clear e;have h2i:(100:Int)<(Z:Int):=by omega
   go_enter Tryz.func18,Tryz.ntmps18;go_wp2_with fail;refine CS.out.mono ?_;rintro e w1 ⟨rfl,q1⟩;have aC:=Hd (HB.out.trans q1);clear q1;go_wp2_with fail;go_ret;exact⟨rfl,aC.out⟩
def uT(q:QL):Bool:=wQ q&&decide (dh q≤40)
theorem Gv(q:QL)(v:Value)(w:World)(ht:txtQ q)(h:QryAt w q v):
  Calls Tryz.prog 6 #[v] w fun e w'=>e=.returned (.bool (uT q))∧Q w w':=by
 obtain⟨k,s,m,sh,n,rfl⟩:∃k s m sh n,q=.mk k s m sh n:=by cases q;exact⟨_,_,_,_,_,rfl⟩
 have h':=h;obtain⟨vm,vs,vn,rfl,⟨a1,p1,rfl,x1⟩,⟨a2,p2,rfl,x2⟩,⟨a3,p3,rfl,x3⟩⟩:=h.open;have hb:=Q.alloc w (.cells #[.int .i64 k,ak s,.slice a1 m.length p1,.slice a2 sh.length p2,.slice a3 n.length p3] 25);obtain⟨k0,k1,k2,k3,k4⟩:=(Blk.new w 25 #[.int .i64 k,ak s,.slice a1 m.length p1,.slice a2 sh.length p2,.slice a3 n.length p3]).c5;have cs:=WZ (.mk k s m sh n) _ _ (h'.stays hb);have cn:=fun (W:World) (hq:Q w W)=>Gj (.mk k s m sh n) _ W ht (h'.stays hq)
 have Ay:(wQ (.mk k s m sh n)=true→(yg (.mk k s m sh n)).1=dh (.mk k s m sh n))∧(yg (.mk k s m sh n)).1≤1001∧(yg (.mk k s m sh n)).2≤1001:=by
  have:=IW (.mk k s m sh n);refine⟨fun hh=>?_,?_,?_⟩
  ·unfold wQ at hh
   rw[Bool.and_eq_true,Bool.and_eq_true,decide_eq_true_eq] at hh;unfold yg;rw[if_neg (by omega)]
  ·unfold yg;split
   ·exact Nat.le_refl _
   ·simp only;omega
  ·unfold yg;split
   ·exact Nat.zero_le _
   ·simp only;omega
 have hr:uT (.mk k s m sh n)=(wQ (.mk k s m sh n)&&decide (dh (.mk k s m sh n)≤40)):=rfl;rw[hr];generalize hZ:dh (.mk k s m sh n)=Z at *;generalize hN:wQ (.mk k s m sh n)=b at *;generalize hS:yg (.mk k s m sh n)=S at *;obtain⟨S1,S2⟩:=S;simp only at Ay cs;obtain⟨dN,kE,kP⟩:=Ay;have HB:=Hd hb;have CS:=Hd cs;have CN:=Hd cn;clear hb cs cn h h' x1 x2 x3 hZ hN hS hr;cases b with
 | false =>
  clear dN;go_enter Tryz.func6,Tryz.ntmps6;go_wp2_with fail;refine CS.out.mono ?_;rintro e w1 ⟨rfl,q1⟩;have aC:=Hd (HB.out.trans q1);have u0:=ah q1 k0;have u1:=ah q1 k1;have u2:=ah q1 k2;have u3:=ah q1 k3;have u4:=ah q1 k4;clear q1 k0 k1 k2 k3 k4;go_wp2_with fail;refine(CN.out _ aC.out).mono ?_;rintro e w2 ⟨rfl,q2⟩;have aS:=Hd (aC.out.trans q2);clear q2 u0 u1 u2 u3 u4;go_wp2_with fail;go_ret;exact⟨rfl,aS.out⟩
 | true =>
  have vN:=dN rfl;subst vN;clear dN;have bR:decide ((S1:Int)≤40)=decide (S1≤40):=by by_cases h:S1≤40<;>simp[h]<;>omega
  have Lh:=Hd bR;clear bR;go_enter Tryz.func6,Tryz.ntmps6;go_wp2_with fail;refine CS.out.mono ?_;rintro e w1 ⟨rfl,q1⟩;have aC:=Hd (HB.out.trans q1);have u0:=ah q1 k0;have u1:=ah q1 k1;have u2:=ah q1 k2;have u3:=ah q1 k3;have u4:=ah q1 k4;clear q1 k0 k1 k2 k3 k4;go_wp2_with fail;refine(CN.out _ aC.out).mono ?_;rintro e w2 ⟨rfl,q2⟩;have aS:=Hd (aC.out.trans q2);clear q2 u0 u1 u2 u3 u4;go_wp2_with fail;go_ret;exact⟨eX Lh.out,aS.out⟩
theorem afV{id text:Bytes}(h:iT id text=true):id.length≤40∧text.length≤2000:=by
 unfold iT at h;simp only[Bool.and_eq_true,decide_eq_true_eq] at h;exact⟨h.1.1.1.2,h.1.1.2⟩
theorem six18{w w':World}(q:Q w w'){a0 a1 a2 a3 a4 a5:Addr}{v0 v1 v2 v3 v4 v5:Value}(h0:w.cell? a0=some v0)(h1:w.cell? a1=some v1)(h2:w.cell? a2=some v2)(h3:w.cell? a3=some v3)(h4:w.cell? a4=some v4)(h5:w.cell? a5=some v5):
  w'.cell? a0=some v0∧w'.cell? a1=some v1∧w'.cell? a2=some v2∧w'.cell? a3=some v3∧w'.cell? a4=some v4∧w'.cell? a5=some v5 :=
 ⟨ah q h0,ah q h1,ah q h2,ah q h3,ah q h4,ah q h5⟩
theorem Ee{q:QL}(h:wQ q=true):iD q=true∧dh q≤100:=by
 unfold wQ at h;rw[Bool.and_eq_true,Bool.and_eq_true,decide_eq_true_eq] at h;exact⟨h.2,h.1.1⟩
theorem zN{q:QL}(h:uT q=true):iD q=true∧dh q≤40:=by
 unfold uT at h;rw[Bool.and_eq_true,decide_eq_true_eq] at h;exact⟨(Ee h.1).1,h.2⟩
theorem Au(ds:List au)(q:QL):(bA ds q).length≤ds.length:=by
 rw[nD];exact List.length_filter_le _ _
theorem wV(mg:Bool)(l:List wG)(h:qB l=true):eu (je mg l l.length)∧(je mg l l.length).length≤12∧(aH (je mg l l.length)).length≤6000:=by
 obtain⟨h1,h2⟩:=C9 mg l l.length (Nat.le_refl _);have h3:=(sW h).1;have h4:=Fj _ (fun p hp=>(h1.1 p hp).2.2.1)
 exact⟨h1,by omega,by omega⟩
end
section
open Go.ChangeShapes Go.WideShapes Go.ChangeAt Go.RowKit Go.Deep
section
variable {H:Type} {enc:TypeId×Value→H} {w:World} {base:Nat} {spare:Nat→Bool} {held:Bool}
theorem trod_i64{n:Nat}{cs:List Value}{x:DataW H×List MemPlace}(h:DataW.trod enc Tryz.prog w base spare held n 3 cs=some x):∃i:Int,cs=[.int .i64 i]:=by
 obtain⟨i,hi,_⟩:=DataW.trod_int Tryz.underlying3 h;exact⟨i,hi⟩
end
end
section
open Go.ChangeShapes Go.WideShapes Go.ChangeAt Go.RowKit Go.Deep
instance inhQL:Inhabited QL:=⟨.mk 0 [] [] [] []⟩
section
variable {H:Type} {enc:TypeId×Value→H} {P:Program} {w:World} {base:Nat} {spare:Nat→Bool} {held:Bool}
theorem open_slF{α:Type}[Inhabited α]{t e:TypeId}(ht:P.underlying t=some (.slice e))(sz:Nat)(hC:P.cellsOf e=sz)(aY:0<sz)(R:List Value→α→Prop){fuel:Nat}
  (hR:∀n cs x,n<fuel→DataW.trod enc P w base spare held n e cs=some x→∃a,R cs a) {v:Value} {x:DataW H×List MemPlace} (h:DataW.trod enc P w base spare held fuel t [v]=some x) :
  ∃(xs:List α) (css:List (List Value)),xs.length=css.length∧Sl w v xs.length sz css.flatten∧(∀(i:Nat) a c,css[i]?=some c→xs[i]?=some a→R c a)∧xs.length≤maxLen:=by
 rcases DataW.trod_slice ht h with ⟨h0,_⟩|⟨a,len,cap,elems,rest,n,hfu,tN,_,_,hl,hm,aD,ES,_,_⟩
 ·obtain rfl:v=.slice none 0 0:=by simpa using h0
  exact⟨[],[],rfl,Sl.nil _ _,fun i a c hc=>by simp at hc,by simp⟩
 ·obtain rfl:v=.slice (some a) len cap:=by simpa using tN
  have hex:∀i:Nat,∃p:List Value×α,i<len→(w.cells? base (a.add (i*sz)) sz=some p.1∧R p.1 p.2):=by
   intro i;by_cases hi:i<len
   ·have key:=ES i hi
    rw[List.getElem?_eq_getElem (by omega)] at key
    obtain⟨cs',h1,h2⟩:=Option.bind_eq_some_iff.1 key;rw[hC] at h1;obtain⟨b,hb⟩:=hR _ _ _ (by omega) h2
    exact⟨(cs',b),fun _=>⟨h1,hb⟩⟩
   ·exact⟨([],default),fun h=>absurd h hi⟩
  obtain⟨f,hf⟩:=Classical.axiomOfChoice hex;have aD:∀c∈(List.range len).map (fun i=>(f i).1),c.length=sz:=by
   intro c hc;obtain⟨i,hi,rfl⟩:=List.mem_map.1 hc;exact(World.cells?_some (hf i (List.mem_range.1 hi)).1).2.1
  refine⟨(List.range len).map (fun i=>(f i).2),(List.range len).map (fun i=>(f i).1),by simp,⟨?_,some a,cap,by simp,fun hn=>?_⟩,fun i b c hc hb=>?_,by simp;omega⟩
  ·rw[iN _ sz aD];simp
  ·simp only[List.length_map,List.length_range] at hn
   have h0:=(World.cells?_some (hf 0 hn).1).2.2 0 aY;obtain⟨b,off,spot⟩:=a;have Xm:=(World.cells?_some (hf 0 hn).1).2.1;rw[List.getElem?_eq_getElem (by omega)] at h0
   have aje:spot=none:=by simpa[Addr.add] using World.cell?_spot h0
   subst aje;refine⟨b,off,rfl,fun j u hj=>?_⟩
   obtain⟨i,r,c,h1,h2,h3,h4⟩:=ace _ sz aD j u hj;rw[List.getElem?_map] at h1;cases hr:(List.range len)[i]? with
   | none=>rw[hr] at h1;cases h1
   | some i' =>
    rw[hr] at h1;cases h1;obtain⟨uj,KN⟩:=List.getElem?_eq_some_iff.1 hr;rw[List.getElem_range] at KN;subst KN;have:=(World.cells?_some (hf i (by simpa using uj)).1).2.2 r h4
    rw[h2,yM,yM] at this;rw[h3,←Nat.add_assoc];exact this
  ·rw[List.getElem?_map] at hc hb
   cases hr:(List.range len)[i]? with
   | none=>rw[hr] at hc;cases hc
   | some i' =>
    rw[hr] at hc hb;cases hc;cases hb;obtain⟨uj,KN⟩:=List.getElem?_eq_some_iff.1 hr;rw[List.getElem_range] at KN;subst KN;exact(hf i (by simpa using uj)).2
end
theorem rows_of(w:World)(xs:List QL)(css:List (List Value))(hl:xs.length=css.length)(h:∀(i:Nat) a c,css[i]?=some c→xs[i]?=some a→QIs w a c∧txtQ a):QRows w xs css.flatten∧pV xs:=by
 induction xs generalizing css with
 | nil=>have:css=[]:=List.eq_nil_of_length_eq_zero hl.symm;subst this;exact⟨rfl,by rw[pV];trivial⟩
 | cons q xs ih =>
  cases css with
  | nil=>simp at hl
  | cons c css =>
   obtain⟨h1,h2⟩:=h 0 q c rfl rfl;obtain⟨h3,h4⟩:=ih css (by simpa using hl) (fun i a c hc ha=>h (i+1) a c (by simpa using hc) (by simpa using ha))
   exact⟨⟨c,css.flatten,rfl,h1,h3⟩,by rw[pV];exact⟨h2,h4⟩⟩
section
variable {H:Type} {enc:TypeId×Value→H} {w:World} {base:Nat} {spare:Nat→Bool} {held:Bool}
theorem aiz(n:Nat):∀{cs:List Value} {x:DataW H×List MemPlace},DataW.trod enc Tryz.prog w base spare held n 25 cs=some x→∃q:QL,QIs w q cs∧txtQ q:=by
 induction n using Nat.strongRecOn with
 | ind n ih =>
  intro cs x h;have c9:Tryz.prog.cellsOf 9=1:=by kernel_rfl
  have c3:Tryz.prog.cellsOf 3=1:=by kernel_rfl
  have cq:Tryz.prog.cellsOf 23=1:=by kernel_rfl
  have c40:Tryz.prog.cellsOf 25=5:=by kernel_rfl
  obtain⟨xs,n',hn,_,lD,rE,hf⟩:=DataW.trod_struct Tryz.underlying25 h;subst hn;rw[c40] at lD;match cs,lD with
  | [a,b,c,d,e],_ =>
   have g0:DataW.trod enc Tryz.prog w base spare held n' 3 (([a,b,c,d,e].drop 0).take (Tryz.prog.cellsOf 3))=xs[0]?:=hf 0 _ rfl;rw[c3] at g0;have h0:DataW.trod enc Tryz.prog w base spare held n' 3 [a]=xs[0]?:=g0;have g1:DataW.trod enc Tryz.prog w base spare held n' 9 (([a,b,c,d,e].drop 1).take (Tryz.prog.cellsOf 9))=xs[1]?:=hf 1 _ rfl;rw[c9] at g1;have h1:DataW.trod enc Tryz.prog w base spare held n' 9 [b]=xs[1]?:=g1;have g2:DataW.trod enc Tryz.prog w base spare held n' 23 (([a,b,c,d,e].drop 2).take (Tryz.prog.cellsOf 23))=xs[2]?:=hf 2 _ rfl;rw[cq] at g2;have h2:DataW.trod enc Tryz.prog w base spare held n' 23 [c]=xs[2]?:=g2;have g3:DataW.trod enc Tryz.prog w base spare held n' 23 (([a,b,c,d,e].drop 3).take (Tryz.prog.cellsOf 23))=xs[3]?:=hf 3 _ rfl;rw[cq] at g3;have h3:DataW.trod enc Tryz.prog w base spare held n' 23 [d]=xs[3]?:=g3;have g4:DataW.trod enc Tryz.prog w base spare held n' 23 (([a,b,c,d,e].drop 4).take (Tryz.prog.cellsOf 23))=xs[4]?:=hf 4 _ rfl;rw[cq] at g4;have h4:DataW.trod enc Tryz.prog w base spare held n' 23 [e]=xs[4]?:=g4;have qE:xs.length=5:=rE;rw[List.getElem?_eq_getElem (by omega)] at h0 h1 h2 h3 h4
   obtain⟨k,e0⟩:=trod_i64 h0;obtain⟨s,e1,l1⟩:=U6 h1;have key:∀{v:Value} {y:DataW H×List MemPlace},DataW.trod enc Tryz.prog w base spare held n' 23 [v]=some y→∃qs:List QL,QrysAt w v qs∧pV qs:=by
    intro v y hv;obtain⟨qs,css,hl,hs,hr,_⟩:=open_slF (α:=QL) Tryz.underlying23 5 c40 (by decide) (fun c q=>QIs w q c∧txtQ q) (fun m cs x hm h=>ih m (by omega) h) hv
    obtain⟨h1,h2⟩:=rows_of w qs css hl hr;exact⟨qs,QRows.qrys h1 hs,h2⟩
   obtain⟨m,q2,t2⟩:=key h2;obtain⟨sh,q3,t3⟩:=key h3;obtain⟨nt,q4,t4⟩:=key h4;cases e0;cases e1;have hq:QryAt w (.mk k s m sh nt) (.agg #[.int .i64 k,ak s,c,d,e]):=QryAt.mk' q2 q3 q4;obtain⟨cs,hv,hi⟩:=hq.isV;have:cs=[.int .i64 k,ak s,c,d,e]:=by
    injection hv with hv;have:=congrArg Array.toList hv;simpa using this.symm
   subst this;exact⟨.mk k s m sh nt,hi,by rw[txtQ];exact⟨l1,t2,t3,t4⟩⟩
theorem QIs.at{w:World}{q:QL}{cs:List Value}(h:QIs w q cs):QryAt w q (.agg cs.toArray):=by
 obtain⟨k,s,a1,n1,p1,a2,n2,p2,a3,n3,p3,rfl,h⟩:=h;exact h
theorem open_query{x:DataW H×List MemPlace}{fuel:Nat}{cs:Array Value}(h:DataW.trod enc Tryz.prog w base spare held fuel 25 (Value.cells (.agg cs)).toList=some x):∃q:QL,QryAt w q (.agg cs)∧txtQ q:=by
 obtain⟨q,h1,h2⟩:=aiz fuel h;refine⟨q,?_,h2⟩;have:=h1.at;simpa[Value.cells] using this
def OpR(cs:List Value)(o:OpL):Prop:=cs=[.bool o.1,ak o.2.1,ak o.2.2]∧o.2.1.length≤9223372036854775807∧o.2.2.length≤9223372036854775807
theorem trod_op{n:Nat}{cs:List Value}{x:DataW H×List MemPlace}(h:DataW.trod enc Tryz.prog w base spare held n 49 cs=some x):∃o:OpL,OpR cs o:=by
 have c4:Tryz.prog.cellsOf 4=1:=by kernel_rfl
 have c40:Tryz.prog.cellsOf 47=2:=by kernel_rfl
 have c42:Tryz.prog.cellsOf 49=3:=by kernel_rfl
 obtain⟨xs,n',_,_,lD,rE,hf⟩:=DataW.trod_struct Tryz.underlying49 h;rw[c42] at lD;match cs,lD with
 | [a,b,c],_ =>
  have g0:DataW.trod enc Tryz.prog w base spare held n' 4 (([a,b,c].drop 0).take (Tryz.prog.cellsOf 4))=xs[0]?:=hf 0 _ rfl;rw[c4] at g0;have h0:DataW.trod enc Tryz.prog w base spare held n' 4 [a]=xs[0]?:=g0;have g1:DataW.trod enc Tryz.prog w base spare held n' 47 (([a,b,c].drop 1).take (Tryz.prog.cellsOf 47))=xs[1]?:=hf 1 _ rfl;rw[c40] at g1;have h1:DataW.trod enc Tryz.prog w base spare held n' 47 [b,c]=xs[1]?:=g1;have qE:xs.length=2:=rE;rw[List.getElem?_eq_getElem (by omega)] at h0 h1
  obtain⟨b0,e0,_⟩:=DataW.trod_bool Tryz.underlying4 h0;obtain⟨d,e1,l0,l1⟩:=trod_doc h1;cases e0;cases e1;exact⟨(b0,d),rfl,l0,l1⟩
theorem flat_ops(ops:List OpL)(css:List (List Value))(hl:ops.length=css.length)(h:∀(i:Nat) a c,css[i]?=some c→ops[i]?=some a→OpR c a):css.flatten=wR ops:=by
 induction ops generalizing css with
 | nil=>have:css=[]:=List.eq_nil_of_length_eq_zero hl.symm;subst this;rfl
 | cons o ops ih =>
  cases css with
  | nil=>simp at hl
  | cons c css =>
   have h0:=(h 0 o c rfl rfl).1;rw[List.flatten_cons,ih css (by simpa using hl) (fun i a c hc ha=>h (i+1) a c (by simpa using hc) (by simpa using ha)),h0]
   simp[wR]
theorem open_ops{fuel:Nat}{v:Value}{x:DataW H×List MemPlace}(h:DataW.trod enc Tryz.prog w base spare held fuel 51 [v]=some x):∃ops:List OpL,Ops w v ops∧OpsWf ops:=by
 obtain⟨ops,css,hl,hs,hr,hm⟩:=open_sl (α:=OpL) Tryz.underlying51 3 (by kernel_rfl) (by decide) OpR (fun n cs x h=>trod_op h) h
 refine⟨ops,?_,by unfold maxLen at hm;exact hm,fun o ho=>?_⟩
 ·unfold Ops;rw[←flat_ops ops css hl hr];exact hs
 ·obtain⟨i,hi⟩:=List.getElem?_of_mem ho
  have uj:=(List.getElem?_eq_some_iff.1 hi).1;exact(hr i o _ (List.getElem?_eq_getElem (by omega)) hi).2
def ActR(w:World)(cs:List Value)(a:Value×uD):Prop:=cs=[a.1,.bool a.2.2.1,.int .i64 a.2.2.2.1,.int .i64 a.2.2.2.2]∧Ops w a.1 a.2.1∧OpsWf a.2.1
theorem trod_act{n:Nat}{cs:List Value}{x:DataW H×List MemPlace}(h:DataW.trod enc Tryz.prog w base spare held n 56 cs=some x):∃a:Value×uD,ActR w cs a:=by
 have c4:Tryz.prog.cellsOf 4=1:=by kernel_rfl
 have c3:Tryz.prog.cellsOf 3=1:=by kernel_rfl
 have c23:Tryz.prog.cellsOf 51=1:=by kernel_rfl
 have c27:Tryz.prog.cellsOf 56=4:=by kernel_rfl
 obtain⟨xs,n',_,_,lD,rE,hf⟩:=DataW.trod_struct Tryz.underlying56 h;rw[c27] at lD;match cs,lD with
 | [a,b,c,d],_ =>
  have g0:DataW.trod enc Tryz.prog w base spare held n' 51 (([a,b,c,d].drop 0).take (Tryz.prog.cellsOf 51))=xs[0]?:=hf 0 _ rfl;rw[c23] at g0;have h0:DataW.trod enc Tryz.prog w base spare held n' 51 [a]=xs[0]?:=g0;have g1:DataW.trod enc Tryz.prog w base spare held n' 4 (([a,b,c,d].drop 1).take (Tryz.prog.cellsOf 4))=xs[1]?:=hf 1 _ rfl;rw[c4] at g1;have h1:DataW.trod enc Tryz.prog w base spare held n' 4 [b]=xs[1]?:=g1;have g2:DataW.trod enc Tryz.prog w base spare held n' 3 (([a,b,c,d].drop 2).take (Tryz.prog.cellsOf 3))=xs[2]?:=hf 2 _ rfl;rw[c3] at g2;have h2:DataW.trod enc Tryz.prog w base spare held n' 3 [c]=xs[2]?:=g2;have g3:DataW.trod enc Tryz.prog w base spare held n' 3 (([a,b,c,d].drop 3).take (Tryz.prog.cellsOf 3))=xs[3]?:=hf 3 _ rfl;rw[c3] at g3;have h3:DataW.trod enc Tryz.prog w base spare held n' 3 [d]=xs[3]?:=g3;have qE:xs.length=4:=rE;rw[List.getElem?_eq_getElem (by omega)] at h0 h1 h2 h3
  obtain⟨ops,ho,hw⟩:=open_ops h0;obtain⟨b0,e1,_⟩:=DataW.trod_bool Tryz.underlying4 h1;obtain⟨i2,e2,_⟩:=DataW.trod_int Tryz.underlying3 h2;obtain⟨i3,e3,_⟩:=DataW.trod_int Tryz.underlying3 h3;cases e1;cases e2;cases e3;exact⟨(a,(ops,b0,i2,i3)),rfl,ho,hw⟩
theorem flat_acts(al:List (Value×uD))(css:List (List Value))(w:World)(hl:al.length=css.length)(h:∀(i:Nat) a c,css[i]?=some c→al[i]?=some a→ActR w c a):css.flatten=Gi (al.map (·.1)) (al.map (·.2)):=by
 induction al generalizing css with
 | nil=>have:css=[]:=List.eq_nil_of_length_eq_zero hl.symm;subst this;rfl
 | cons o al ih =>
  cases css with
  | nil=>simp at hl
  | cons c css =>
   have h0:=(h 0 o c rfl rfl).1;rw[List.flatten_cons,ih css (by simpa using hl) (fun i a c hc ha=>h (i+1) a c (by simpa using hc) (by simpa using ha)),h0]
   simp[Gi]
theorem open_acts{fuel:Nat}{v:Value}{x:DataW H×List MemPlace}(h:DataW.trod enc Tryz.prog w base spare held fuel 22 [v]=some x):∃l:List uD,Acts w v l∧ActsWf l:=by
 obtain⟨al,css,hl,hs,hr,hm⟩:=open_sl (α:=Value×uD) Tryz.underlying22 4 (by kernel_rfl) (by decide) (ActR w) (fun n cs x h=>trod_act h) h
 refine⟨al.map (·.2),⟨al.map (·.1),by simp,?_,fun i a b ha hb=>?_⟩,by unfold maxLen at hm;simpa using hm,fun a ha=>?_⟩
 ·rw[List.length_map,←flat_acts al css w hl hr];exact hs
 ·rw[List.getElem?_map] at ha hb
  cases hi:al[i]? with
  | none=>rw[hi] at ha;cases ha
  | some y =>
   rw[hi] at ha hb;cases ha;cases hb;have uj:=(List.getElem?_eq_some_iff.1 hi).1;exact(hr i y _ (List.getElem?_eq_getElem (by omega)) hi).2.1
 ·obtain⟨y,hy,rfl⟩:=List.mem_map.1 ha
  obtain⟨i,hi⟩:=List.getElem?_of_mem hy;have uj:=(List.getElem?_eq_some_iff.1 hi).1;exact(hr i y _ (List.getElem?_eq_getElem (by omega)) hi).2.2
end
end
section
open Go.RowKit
theorem iX(n k:Int)(w:World)(hn:n<9223372036854775808)(Ij : -9223372036854775808≤n)(hk:k<9223372036854775808)(gY : -9223372036854775808≤k):
  Calls Tryz.prog 13 #[.int .i64 n,.int .i64 k] w fun e w'=>e=.returned (.int .i64 (qY n k:Nat))∧w=w':=by
 by_cases h1:n<1
 ·have hb:decide (n<1)=true:=decide_eq_true h1
  have hz:qY n k=0:=by unfold qY;rw[if_pos (.inl h1)]
  rw[hz];clear hz h1;go_enter Tryz.func13,Tryz.ntmps13;go_wp2_with fail;go_ret;exact⟨rfl,rfl⟩
 ·have hb:decide (n<1)=false:=decide_eq_false h1
  by_cases h2:k<1
  ·have aO:decide (k<1)=true:=decide_eq_true h2
   have hz:qY n k=0:=by unfold qY;rw[if_pos (.inr h2)]
   rw[hz];clear hz h1 h2;go_enter Tryz.func13,Tryz.ntmps13;go_wp2_with fail;go_ret;exact⟨rfl,rfl⟩
  ·have aO:decide (k<1)=false:=decide_eq_false h2
   have hz:qY n k=Lib.bitLen (n / k).toNat:=by unfold qY;rw[if_neg (by omega)]
   obtain⟨a,rfl⟩:∃a:Nat,n=a:=⟨n.toNat,by omega⟩
   obtain⟨b,rfl⟩:∃b:Nat,k=b:=⟨k.toNat,by omega⟩
   rw[←Int.natCast_ediv,Int.toNat_natCast] at hz;rw[hz];have ku:a / b<9223372036854775808:=Nat.lt_of_le_of_lt (Nat.div_le_self _ _) (by omega)
   have hq:(a:Int).tdiv (b:Int)=((a / b:Nat):Int):=by rw[Int.natCast_ediv];exact Int.tdiv_eq_ediv_of_nonneg (by omega)
   clear hz;generalize a / b=d at *;have lJ:IntKind.i64.wrap (d:Int)=(d:Int):=IntWalk.i64_in _ (by omega)
   have lK:((b:Int)==0)=false:=beq_eq_false_iff_ne.2 (by omega)
   have dS:¬(b:Int)=0:=by omega
   go_enter Tryz.func13,Tryz.ntmps13;go_wp2_with fail;go_loop [5,6] (fun x v=>∃c m:Nat,x=.int .i64 (c:Nat)∧v=.int .i64 (m:Nat)∧m<9223372036854775808∧Hid (c+Lib.bitLen m=Lib.bitLen d)) (fun _ v=>(intOf v).toNat)
   case atStart=>exact⟨0,d,rfl,rfl,ku,by show _=_;omega⟩
   case round =>
    obtain⟨c,m,rfl,rfl,hm,HS⟩:=hrel;have Uc:=bitLen_le (x:=d) 64 (by omega)
    have arw:c≤64:=by have:=HS.out;omega
    by_cases h0:0<m
    ·have JL:(0:Int)<(m:Int):=by omega
     have hhf:=bitLen_half (x:=m) (by omega)
     rw[if_neg (by omega)] at hhf
     have yK:(m:Int).tdiv 2=((m / 2:Nat):Int):=by rw[Int.natCast_ediv];exact Int.tdiv_eq_ediv_of_nonneg (by omega)
     have Xy:m / 2<m:=by omega
     generalize m / 2=h at *;have nV:IntKind.i64.wrap (h:Int)=(h:Int):=IntWalk.i64_in _ (by omega)
     have HN:Hid (c+1+Lib.bitLen h=Lib.bitLen d):=by show _=_;have:=HS.out;omega
     clear hhf;go_wp2_with fail;go_round;case rel=>exact⟨c+1,h,by go_num,rfl,by omega,HN⟩
     case measure=>simp[intOf];omega
    ·have Il:m=0:=by omega
     subst Il;have hcd:c=Lib.bitLen d:=by have:=HS.out;rw[show Lib.bitLen 0=0 from rfl] at this;omega
     have HCD:=Hd hcd;clear hcd;go_wp2_with fail;go_ret;exact⟨by rw[←HCD.out];rfl,rfl⟩
theorem mK(w:World)(t:Bytes)(x:Int)(p:Nat)(hx:x=(p:Int)):Sl (w.alloc (.cells #[ak t,.int .i64 x] 129)) (.slice (some ⟨w.heap.size,0,none⟩) 1 1) 1 2 (dF [(t,p)]):=by
 subst hx;refine⟨rfl,_,_,rfl,fun _=>⟨_,0,rfl,fun j u hj=>?_⟩⟩
 have hb:=Blk.new w 129 #[ak t,.int .i64 (p:Int)];match j,hj with
 | 0,hj=>cases hj;exact hb.cell 0 _ rfl
 | 1,hj=>cases hj;exact hb.cell 1 _ rfl
 | j+2,hj=>simp[dF] at hj
theorem tokVs_one(l:bP):∀u∈dF l,u.oneCell'=true:=by
 intro u hu;obtain⟨d,_,hd⟩:=List.mem_flatMap.1 hu;simp at hd;rcases hd with rfl|rfl<;>simp[Value.oneCell']
theorem tok_app(W0:World){w:World}{ops:Array Oper}{o:Oper}{a:Act}{K:Act→World→Prop}{Qx:Exit→Act→World→Prop}{E:Prop}(uf:o.guard=none)(s x:Operand)
  (ho:o.op=.call { callee:=.builtin .append,args:=#[s,x],argTypes:=#[88,88] })
  (v:Value) (n:Nat) (xs:bP) (hs:a.eval s=v) (aQ:w.ownsRow W0.heap.size 129 2 v n (dF xs)) (hq:Q W0 w)
  (vx:Value) (y:Bytes×Nat) (hx:a.eval x=vx) (hl:Sl w vx 1 2 (dF [y])) (hnm:n+1≤1000000000)
  (h:∀a2 p2 w',w'.ownsRow W0.heap.size 129 2 (.slice a2 (n+1) p2) (n+1) (dF (xs++[y]))→Q W0 w'→K (a.put o.dst (.slice a2 (n+1) p2)) w') :
  if Region.wanted o (yielded ops a.tmps)=true then Oper.wp Tryz.prog o a w K Qx else E:=by
 obtain⟨i0,hi,fJ,eU,fD⟩:=info_parts kr;have hw:Region.wanted o (yielded ops a.tmps)=true:=by simp[Region.wanted,uf]
 rw[if_pos hw];refine zG w s x 88 ho W0.heap.size 129 i0 (.agg #[ak [],.int .i64 0]) 2 24 Tryz.underlying88 hi fJ eU fD rfl (by decide) v n (dF xs) hs aQ vx 1 (dF [y]) hx hl (tokVs_one [y]) (by unfold maxLen;omega) (by omega) hq.size ?_
 intro v' w' h2 h3 _;obtain⟨a2,p2,rfl,_⟩:=aT h2;exact h a2 p2 w' (by rw[show dF (xs++[y])=dF xs++dF [y] by simp[dF]];exact h2) (aL hq aQ h3 (Nat.le_refl _) hq.size)
theorem TU(s:Bytes)(w:World)(hs:s.length≤100000000):
  Calls Tryz.prog 63 #[ak s] w fun e w'=>∃v,e=.returned (.tuple #[v,.bool (!(ay s).isEmpty)])∧w'.ownsRow w.heap.size 129 2 v (ay s).length (dF (ay s))∧Q w w':=by
 have c:=Gh s w hs;have hlt:∀x∈aA s,x.2≤100000000:=fun x hx=>by have:=((qQ s).2 x hx).2.2;omega
 have vk:(aA s).length≤100000001:=by
  have h2:=sK (bT s) 0;have h3:=(uJ s).1;unfold aA;omega
 have bR:=abZ s;have xM:ay s=kY (aA s):=rfl;rw[xM];generalize aA s=l at *;have C:=Hd c;have Lc:=Hd hlt;have Lh:=Hd bR;clear c hlt bR xM;have pz:Tryz.prog.follows .mixedOrders=true:=by kernel_rfl
 go_enter Tryz.func63,Tryz.ntmps63;go_wp2_with fail;refine C.out.mono ?_;rintro e w1 ⟨v,rfl,ho,q1⟩;obtain⟨a,cap,rfl,_⟩:=aT ho;have HT:=Hd (show Toks w1 (.slice a l.length cap) l from Sl.of_owns ho)
 have aC:=Hd q1;have lJ:w.heap.size≤w1.heap.size:=q1.size;clear ho q1 C;go_wp2_with fail;go_loopw [4,6] (fun x i wr=>∃k:Nat,k≤l.length∧i=.int .i64 (k:Nat)∧Hid (wr.ownsRow w1.heap.size 129 2 x k (dF ((kY l).take k)))∧Hid (Q w1 wr)) (fun _ i _=>l.length-(intOf i).toNat)
 case atStart=>exact⟨0,by omega,rfl,World.ownsRow_nil _ _ _ _,Q.refl _⟩
 case round =>
  obtain⟨k,hk,rfl,HO,HQ⟩:=hrel;obtain⟨wo,rfl⟩:∃wo:World,wo=wr:=⟨_,rfl⟩;by_cases hlt:k<l.length
  ·obtain⟨aa,cc,Ao,bC⟩:=HT.out.value
   cases Ao;obtain⟨b,o,rfl,hc⟩:=bC (by omega)
   have t0:=ah HQ.out (hc k hlt).1;have t1:=ah HQ.out (hc k hlt).2;have z1:=ah HQ.out (hc 0 (by omega)).2
   rw[Nat.zero_mul,Nat.add_zero] at z1;have ql:(k:Int)<(l.length:Int):=by omega
   have gY:(0:Int)≤(k:Int):=by omega
   have h00:(0:Int)<(l.length:Int):=by omega
   have ayr:0<l.length:=by omega
   have OO:=Lc.out l[k] (List.getElem_mem hlt);have bR:=Lh.out k hlt;have hf:(l.headD ([],0)).2=l[0].2:=by cases l with|nil=>simp at hlt|cons a b=>rfl
   rw[hf] at bR;have bY:k<(kY l).length:=by unfold kY;rw[List.length_map];exact hlt
   have aI:(kY l).take (k+1)=(kY l).take k++[(l[k].1,l[k].2-l[0].2)]:=by
    rw[List.take_succ_eq_append_getElem bY];congr 2;simp only[kY,List.getElem_map,hf]
   generalize l[0].2=f at *;generalize l[k]=x at *;obtain⟨t,p⟩:=x;simp only at t0 t1 OO bR aI;have CQ:IntKind.i64.wrap ((p:Int)-(f:Int))=(p:Int)-(f:Int):=IntWalk.i64_in _ (by omega)
   have Dt:(p:Int)-(f:Int)=((p-f:Nat):Int):=by omega
   obtain⟨xa,xc,rfl,_⟩:=aT HO.out;have bJ:=Hd aI;have Sd:=Hd Dt;clear hc bC aI hf bY Dt;generalize (kY l).take k=xs at *;go_wp2_with fail;go_region_law
    (first
     | (refine tok_app w1 (by rfl) _ _ (by rfl) (.slice xa k xc) k xs (by rfl) (by repeat (first|with_reducible exact HO.out|with_reducible apply aX|with_reducible apply bF)) (by repeat (first|with_reducible exact HQ.out|with_reducible apply Qt.al0|with_reducible apply Qt.dr0)) _ (t,p-f) (by rfl) (by first|exact mK _ _ _ _ Sd.out|exact slQ (mK _ _ _ _ Sd.out) (Q.drew _)) (by omega) ?_;intro b1 c1 w2 jf q1;have H1:=Hd jf;have Q1:=Hd q1;clear jf q1))
   all_goals
    go_wp2_with fail;go_roundw;case rel=>exact⟨k+1,by omega,by go_num,by show World.ownsRow _ _ _ _ _ _ _;rw[bJ.out];exact H1.out,Q1⟩
    case measure=>simp[intOf];omega
  ·have cO:k=l.length:=by omega
   subst cO;have ho:=HO.out;have sO:(kY l).length=l.length:=by unfold kY;rw[List.length_map]
   rw[List.take_of_length_le (by omega)] at ho
   have aF:(!(kY l).isEmpty)=decide (0<l.length):=by
    cases l with
    | nil=>rfl
    | cons a b=>simp[kY]
   obtain⟨xa,xc,rfl,_⟩:=aT ho;have uZ:=Hd aF;have xS:=Hd ho;have El:=Hd sO;clear ho aF sO HO;go_wp2_with fail;go_ret2;exact⟨_,by rw[uZ.out];rfl,by rw[El.out];exact dO xS.out lJ,aC.out.trans HQ.out⟩
def FH(l:bP)(t:Bytes)(p:Int):Bool:=l.any fun x=>decide (x.1=t)&&decide ((x.2:Int)=p)
theorem afQ(l:bP)(t:Bytes)(k:Nat):FH l t (k:Int)=Fg l t k:=by
 unfold FH Fg;congr 1;funext x;rw[Bool.eq_iff_iff,Bool.and_eq_true,Bool.and_eq_true,decide_eq_true_eq,decide_eq_true_eq,beq_iff_eq,beq_iff_eq];constructor<;>rintro⟨h1,h2⟩<;>exact⟨h1,by omega⟩
theorem afR(v:Value)(l:bP)(t:Bytes)(p:Int)(w:World)(hv:Toks w v l)(hn:l.length≤1000000000):
  Calls Tryz.prog 115 #[v,ak t,.int .i64 p] w fun e w'=>e=.returned (.bool (FH l t p))∧w'=w:=by
 obtain⟨a,cap,rfl,hc⟩:=hv.value;have HC:=Hd hc;clear hv hc;go_enter Tryz.func115,Tryz.ntmps115;go_wp2_with fail;go_loop [7] (fun i=>∃k:Nat,k≤l.length∧i=.int .i64 (k:Nat)∧Hid (FH l t p=FH (l.drop k) t p)) (fun i=>l.length-(intOf i).toNat)
 case atStart=>exact⟨0,by omega,rfl,rfl⟩
 case round =>
  obtain⟨k,hk,rfl,bJ⟩:=hrel;by_cases hlt:k<l.length
  ·obtain⟨b,o,rfl,hc⟩:=HC.out (by omega)
   obtain⟨c0,c1⟩:=hc k hlt;have ql:(k:Int)<(l.length:Int):=by omega
   have gY:(0:Int)≤(k:Int):=by omega
   have xJ:=List.drop_eq_getElem_cons hlt;clear hc;generalize l[k]=x at *;obtain⟨u,q⟩:=x;simp only at c0 c1;have hs:FH l t p=((decide (u=t)&&decide ((q:Int)=p))||FH (l.drop (k+1)) t p):=by rw[bJ.out,xJ];rfl
   have HS:=Hd hs;clear xJ hs;by_cases hu:u=t
   ·by_cases hp:(q:Int)=p
    ·have hs:=HS.out
     rw[decide_eq_true hu,decide_eq_true hp] at hs;have Ep:=Hd hs;subst hu;subst hp;clear hs;go_wp2_with fail;go_ret;exact⟨eX (by rw[Ep.out];rfl),rfl⟩
    ·have hs:=HS.out
     rw[decide_eq_false hp,Bool.and_false,Bool.false_or] at hs;have Ep:=Hd hs;have sS:((q:Int)==p)=false:=by simpa using hp
     subst hu;clear hs;go_wp2_with fail;go_round;case rel=>exact⟨k+1,by omega,by go_num,Ep⟩
     case measure=>simp[intOf];omega
   ·have hs:=HS.out
    rw[decide_eq_false hu,Bool.false_and,Bool.false_or] at hs;have Ep:=Hd hs;have zI:(u==t)=false:=by simpa using hu
    have zJ:@BEq.beq (List UInt8) instBEqOfDecidableEq u t=false:=by simpa using hu
    have zK:@BEq.beq (List UInt8) List.instBEq u t=false:=by simpa using hu
    clear hs hu;go_wp2_with fail;go_round;case rel=>exact⟨k+1,by omega,by go_num,Ep⟩
    case measure=>simp[intOf];omega
  ·have cO:k=l.length:=by omega
   subst cO;go_wp2_with fail;go_ret;exact⟨eX (by rw[bJ.out,List.drop_length];rfl),rfl⟩
def wW(p l:bP)(y:Nat)(j:Nat):Bool:=((p.take j).drop 1).all fun t=>Fg l t.1 (y+t.2)
theorem aiE(p l:bP)(y:Nat):wW p l y 1=true:=by
 unfold wW;rw[List.drop_take];rfl
theorem afS(p l:bP)(y j:Nat)(h1:1≤j)(h:j<p.length):wW p l y (j+1)=(wW p l y j&&Fg l p[j].1 (y+p[j].2)):=by
 unfold wW;rw[List.take_succ_eq_append_getElem h,List.drop_append_of_le_length (by rw[List.length_take];omega),List.all_append]
 simp
theorem acG(p l:bP)(y j:Nat)(h:wW p l y j=false):wW p l y p.length=false:=by
 unfold wW at *;rw[List.take_length];rw[List.all_eq_false] at *;obtain⟨x,hx,hh⟩:=h;refine⟨x,?_,hh⟩;rw[List.drop_take] at hx;exact List.mem_of_mem_take hx
def IX(p l:bP)(k:Nat):Nat:=((l.take k).filter fun y=>decide (y.1=(p.headD ([],0)).1)&&wW p l y.2 p.length).length
theorem aiF(p l:bP)(k:Nat)(h:k<l.length):IX p l (k+1)=IX p l k+if (decide (l[k].1=(p.headD ([],0)).1)&&wW p l l[k].2 p.length)=true then 1 else 0:=by
 unfold IX;rw[List.take_succ_eq_append_getElem h,List.filter_append,List.length_append,List.filter_cons];split<;>simp
theorem cntTo_all(p l:bP)(hp:0<p.length):IX p l l.length=kC p l:=by
 unfold IX kC;rw[List.take_length];cases p with
 | nil=>simp at hp
 | cons x r =>
  refine congrArg List.length (List.filter_congr fun y _=>?_)
  unfold wW;rw[List.take_length];show(decide (y.1=x.1)&&_)=(y.1==x.1&&_);congr 1;rw[Bool.eq_iff_iff,decide_eq_true_eq,beq_iff_eq]
theorem cntTo_le(p l:bP)(k:Nat):IX p l k≤k:=by
 unfold IX;refine Nat.le_trans (List.length_filter_le _ _) ?_;rw[List.length_take];omega
theorem ZH(vp v:Value)(p l:bP)(w:World)(hv:Toks w v l)(hvp:Toks w vp p)(hn:l.length≤100000001)(rU:p.length≤100000001)(hl:∀x∈l,x.2≤100000000)(hp:∀x∈p,x.2≤100000000):
  Calls Tryz.prog 64 #[vp,v] w fun e w'=>e=.returned (.int .i64 (kC p l:Nat))∧Q w w':=by
 obtain⟨a,cap,rfl,hc⟩:=hv.value;obtain⟨ap,capp,rfl,uX⟩:=hvp.value;have HC:=Hd hc;have Wm:=Hd uX;have HV:=Hd hv;have iA:=Hd hl;have BR:=Hd hp;clear hv hvp hc uX hl hp;by_cases Em:p.length=0
 ·have:p=[]:=List.eq_nil_of_length_eq_zero Em
  subst this;go_enter Tryz.func64,Tryz.ntmps64;by_cases Xm:l.length=0
  ·have:l=[]:=List.eq_nil_of_length_eq_zero Xm
   subst this;go_wp2_with fail;go_loopw [5,6] (fun x i wr=>x=.int .i64 0∧i=.int .i64 0∧Hid (Q w wr)) (fun _ _ _=>0)
   case atStart=>exact⟨rfl,rfl,Q.refl _⟩
   case round =>
    obtain⟨rfl,rfl,HQ⟩:=hrel;go_wp2_with fail;go_ret;exact⟨rfl,HQ.out⟩
  ·have jZ:(0:Int)<(l.length:Int):=by omega
   go_wp2_with fail;go_loopw [5,6] (fun x i wr=>x=.int .i64 0∧i=.int .i64 0∧Hid (Q w wr)) (fun _ _ _=>0)
   case atStart=>exact⟨rfl,rfl,Q.refl _⟩
   case round =>
    obtain⟨rfl,rfl,HQ⟩:=hrel;go_wp2_with fail;go_ret;exact⟨rfl,HQ.out⟩
 ·have uY:0<p.length:=by omega
  have xw:(0:Int)<(p.length:Int):=by omega
  have tV:=cntTo_all p l uY;rw[←tV];obtain⟨bp,op,rfl,uX⟩:=Wm.out uY;have z0:=(uX 0 uY).1;rw[Nat.zero_mul,Nat.add_zero] at z0;have OH:(p.headD ([],0)).1=p[0].1:=by cases p with|nil=>simp at uY|cons a b=>rfl
  have HHD:=Hd OH;have aqB:=Hd uX;have Z0:=Hd z0;clear uX Wm tV OH z0;go_enter Tryz.func64,Tryz.ntmps64;go_wp2_with fail;go_loopw [5,6] (fun x i wr=>∃k:Nat,k≤l.length∧i=.int .i64 (k:Nat)∧x=.int .i64 (IX p l k:Nat)∧Hid (Q w wr)) (fun _ i _=>l.length-(intOf i).toNat)
  case atStart=>exact⟨0,by omega,rfl,rfl,Q.refl _⟩
  case round =>
   obtain⟨k,hk,rfl,rfl,HQ⟩:=hrel;obtain⟨wo,rfl⟩:∃wo:World,wo=wr:=⟨_,rfl⟩;have lD:=cntTo_le p l k;by_cases hlt:k<l.length
   ·obtain⟨b,o,rfl,hc⟩:=HC.out (by omega)
    have z0:=ah HQ.out Z0.out;have t0:=ah HQ.out (hc k hlt).1;have T1:=Hd (hc k hlt).2;have ql:(k:Int)<(l.length:Int):=by omega
    have gY:(0:Int)≤(k:Int):=by omega
    have aI:=aiF p l k hlt;rw[HHD.out] at aI;have hyb:=iA.out l[k] (List.getElem_mem hlt);generalize l[k]=y at *;generalize p[0].1=s0 at *;obtain⟨t,q⟩:=y;simp only at t0 aI hyb;generalize IX p l k=c at *;have bJ:=Hd aI;clear aI hc;by_cases hs:t=s0
    ·subst hs
     go_wp2_with fail;go_quiet (fail);go_wp2_with fail;go_loopw [7,8] (fun x j wr=>∃m:Nat,1≤m∧m≤p.length∧j=.int .i64 (m:Nat)∧x=.bool (wW p l q m)∧Hid (Q w wr)) (fun _ j _=>p.length-(intOf j).toNat)
     case atStart=>exact⟨1,by omega,by omega,rfl,by rw[aiE],HQ.out.trans (Q.drewN _ _)⟩
     case round =>
      obtain⟨m,yI,yK,rfl,rfl,aS⟩:=hrel;obtain⟨wi,rfl⟩:∃wi:World,wi=wr:=⟨_,rfl⟩;clear t0 z0;cases hr:wW p l q m with
      | true =>
       by_cases Fu:m<p.length
       ·have JL:(m:Int)<(p.length:Int):=by omega
        have Il:(0:Int)≤(m:Int):=by omega
        have c0:=ah aS.out (aqB.out m Fu).1;have c1:=ah aS.out (aqB.out m Fu).2;have d1:=ah aS.out T1.out;have wY:=afS p l q m yI Fu;have sS:=BR.out p[m] (List.getElem_mem Fu);rw[hr,Bool.true_and] at wY;generalize p[m]=z at *;obtain⟨zt,zp⟩:=z;simp only at c0 c1 wY sS;have cs:=fun (W:World) (hq:Q w W)=>afR _ l zt ((q+zp:Nat):Int) W (HV.out.stays hq) (by omega)
        rw[afQ,←wY,show((q+zp:Nat):Int)=(q:Int)+(zp:Int) by omega] at cs
        have yY:IntKind.i64.wrap ((q:Int)+(zp:Int))=(q:Int)+(zp:Int):=IntWalk.i64_in _ (by omega)
        have CS:=Hd cs;clear cs wY hr;go_wp2_with fail;go_quiet ((go_at_call 115;exact Calls.quiet_of_same (CS.out _ (aS.out.trans (Q.drewN _ _)))));go_wp2_with fail;go_roundw;case rel=>exact⟨m+1,by omega,by omega,by go_num,rfl,aS.out.trans (Q.drewN _ _)⟩
        case measure=>simp[intOf];omega
       ·have rP:m=p.length:=by omega
        subst rP;have aI:=bJ.out;simp only[hr,eq_self,decide_true,Bool.and_true,if_true] at aI;have Bj:=Hd aI;clear aI;go_wp2_with fail;go_roundw;case rel=>exact⟨k+1,by omega,by go_num,by rw[Bj.out];go_num,aS⟩
        case measure=>simp[intOf];omega
      | false =>
       have aI:=bJ.out;rw[acG p l q m hr,Bool.and_false,if_neg (by decide)] at aI
       have Bj:=Hd aI;clear aI hr;by_cases Fu:m<p.length
       ·have JL:(m:Int)<(p.length:Int):=by omega
        go_wp2_with fail;go_roundw;case rel=>exact⟨k+1,by omega,by go_num,by rw[Bj.out];rfl,aS⟩
        case measure=>simp[intOf];omega
       ·have rP:m=p.length:=by omega
        subst rP;go_wp2_with fail;go_roundw;case rel=>exact⟨k+1,by omega,by go_num,by rw[Bj.out];rfl,aS⟩
        case measure=>simp[intOf];omega
    ·have aI:=bJ.out
     rw[decide_eq_false hs,Bool.false_and,if_neg (by decide)] at aI
     have Bj:=Hd aI;have zI:(t==s0)=false:=by simpa using hs
     have zJ:@BEq.beq (List UInt8) instBEqOfDecidableEq t s0=false:=by simpa using hs
     have zK:@BEq.beq (List UInt8) List.instBEq t s0=false:=by simpa using hs
     clear aI hs;go_wp2_with fail;go_quiet (fail);go_wp2_with fail;go_loopw [7,8] (fun x j wr=>j=.int .i64 1∧x=.bool false∧Hid (Q w wr)) (fun _ j _=>0)
     case atStart=>exact⟨rfl,rfl,HQ.out.trans (Q.drewN _ _)⟩
     case round =>
      obtain⟨rfl,rfl,aS⟩:=hrel;clear t0 z0;by_cases h1p:1<p.length
      ·have h1i:(1:Int)<(p.length:Int):=by omega
       go_wp2_with fail;go_roundw;case rel=>exact⟨k+1,by omega,by go_num,by rw[Bj.out];rfl,aS⟩
       case measure=>simp[intOf];omega
      ·have h1i:¬(1:Int)<(p.length:Int):=by omega
       go_wp2_with fail;go_roundw;case rel=>exact⟨k+1,by omega,by go_num,by rw[Bj.out];rfl,aS⟩
       case measure=>simp[intOf];omega
   ·have cO:k=l.length:=by omega
    subst cO;go_wp2_with fail;go_ret;exact⟨rfl,HQ.out⟩
theorem acH(s:Bytes)(l:bP)(k:Nat)(h:k<l.length)(hs:s≠[]):jl s (l.take (k+1))=jl s (l.take k)+if s.isPrefixOf l[k].1 then 1 else 0:=by
 unfold jl;rw[if_neg hs,if_neg hs,List.take_succ_eq_append_getElem h,List.filter_append,List.length_append,List.filter_cons];split<;>simp
theorem afT(s t:Bytes)(h:¬s.length≤t.length):s.isPrefixOf t=false:=by
 rw[Bool.eq_false_iff];intro hh;exact h (List.isPrefixOf_iff_prefix.1 hh).length_le
theorem aiG(v:Value)(s:Bytes)(l:bP)(w:World)(hv:Toks w v l)(hn:l.length≤1000000000)(hs:s.length≤1000000000)(hb:∀x∈l,x.1.length≤1000000000):
  Calls Tryz.prog 65 #[ak s,v] w fun e w'=>e=.returned (.int .i64 (jl s l:Nat))∧Q w w':=by
 obtain⟨a,cap,rfl,hc⟩:=hv.value;have HC:=Hd hc;have HB:=Hd hb;clear hv hc hb;by_cases AQ:s=[]
 ·subst AQ
  have e:jl [] l=0:=by unfold jl;rw[if_pos rfl]
  rw[e];clear e;go_enter Tryz.func65,Tryz.ntmps65;go_wp2_with fail;go_loopw [5,6] (fun x i wr=>x=.int .i64 0∧i=.int .i64 0∧Hid (Q w wr)) (fun _ _ _=>0)
  case atStart=>exact⟨rfl,rfl,Q.refl _⟩
  case round =>
   obtain⟨rfl,rfl,HQ⟩:=hrel;by_cases Xm:(0:Int)<(l.length:Int)
   ·go_wp2_with fail
    go_ret;exact⟨rfl,HQ.out⟩
   ·go_wp2_with fail
    go_ret;exact⟨rfl,HQ.out⟩
 ·have aI:=fun k (h:k<l.length)=>acH s l k h AQ
  have ayx:(s==[])=false:=by simpa using AQ
  have bR:∀k,jl s (l.take k)≤k:=fun k=>Nat.le_trans (Oa s _) (by rw[List.length_take];omega)
  have dI:l.take l.length=l:=List.take_length;have bJ:=Hd aI;have Lh:=Hd bR;have yZ:=Hd dI;clear aI bR dI;obtain⟨c0,s0,rfl⟩:∃c0 s0,s=c0::s0:=by cases s with|nil=>exact absurd rfl AQ|cons a b=>exact⟨a,b,rfl⟩
  go_enter Tryz.func65,Tryz.ntmps65;go_wp2_with fail;go_loopw [5,6] (fun x i wr=>∃k:Nat,k≤l.length∧i=.int .i64 (k:Nat)∧x=.int .i64 (jl (c0::s0) (l.take k):Nat)∧Hid (Q w wr)) (fun _ i _=>l.length-(intOf i).toNat)
  case atStart=>exact⟨0,by omega,rfl,by rw[List.take_zero];rfl,Q.refl _⟩
  case round =>
   obtain⟨k,hk,rfl,rfl,HQ⟩:=hrel;obtain⟨wo,rfl⟩:∃wo:World,wo=wr:=⟨_,rfl⟩;have lD:=Lh.out k;by_cases hlt:k<l.length
   ·obtain⟨b,o,rfl,hc⟩:=HC.out (by omega)
    have t0:=ah HQ.out (hc k hlt).1;have ql:(k:Int)<(l.length:Int):=by omega
    have gY:(0:Int)≤(k:Int):=by omega
    have aI:=bJ.out k hlt;have Ct:=HB.out l[k] (List.getElem_mem hlt);generalize l[k]=y at *;obtain⟨t,q⟩:=y;simp only at t0 aI Ct;generalize jl (c0::s0) (l.take k)=c at *;have HN:=Hd aI;clear aI hc;by_cases aD:(c0::s0).length≤t.length
    ·have O5:=SQ t (c0::s0) aD
     have OP:((c0::s0).length:Int)≤(t.length:Int):=by omega
     have h0l:(0:Int)≤((c0::s0).length:Int):=by omega
     have ayy:¬(c0::s0)=[]:=by simp
     generalize xD:c0::s0=sd at *;have hx:({ data:=t.toArray }:ByteArray).extract 0 sd.length=⟨(t.take sd.length).toArray⟩:=og t _;cases hb:(t.take sd.length==sd) with
     | true =>
      rw[hb] at O5;have hn:=HN.out;rw[←O5,if_pos rfl] at hn;have kQ:=Hd hn;have dS:t.take sd.length=sd:=beq_iff_eq.1 hb;have aO:@BEq.beq (List UInt8) instBEqOfDecidableEq (t.take sd.length) sd=true:=by simpa using dS
      clear hn O5 HN xD dS;go_wp2_with fail;go_roundw;case rel=>exact⟨k+1,by omega,by go_num,by rw[kQ.out];go_num,HQ⟩
      case measure=>simp[intOf];omega
     | false =>
      rw[hb] at O5;have hn:=HN.out;rw[←O5,if_neg (by simp)] at hn
      have kQ:=Hd hn;have dS:¬t.take sd.length=sd:=beq_eq_false_iff_ne.1 hb;have aO:@BEq.beq (List UInt8) instBEqOfDecidableEq (t.take sd.length) sd=false:=by simpa using dS
      clear hn O5 HN xD dS;go_wp2_with fail;go_roundw;case rel=>exact⟨k+1,by omega,by go_num,by rw[kQ.out];rfl,HQ⟩
      case measure=>simp[intOf];omega
    ·have O5:=afT (c0::s0) t aD
     have hn:=HN.out;rw[O5,if_neg (by simp)] at hn
     have kQ:=Hd hn;have OP:¬((c0::s0).length:Int)≤(t.length:Int):=by omega
     generalize xD:c0::s0=sd at *;clear hn O5 HN xD;go_wp2_with fail;go_roundw;case rel=>exact⟨k+1,by omega,by go_num,by rw[kQ.out];rfl,HQ⟩
     case measure=>simp[intOf];omega
   ·have cO:k=l.length:=by omega
    subst cO;go_wp2_with fail;go_ret;exact⟨by rw[yZ.out];rfl,HQ.out⟩
end
end Go.Proofs.YthijhicdmnoifaaGreatDoor
