/- Joined texts of one proof. -/
import Derived.Test.YthijhicdmnoifaaGreatDoorRWRef17a
set_option linter.unusedSimpArgs false
set_option linter.unusedVariables false
set_option linter.unnecessarySimpa false
set_option maxRecDepth 100000
set_option maxHeartbeats 8000000
namespace Go.Proofs.YthijhicdmnoifaaGreatDoor
section
open Go.RowKit
theorem aiH(l:bP)(k:Nat):(dF l).take (k*2)=dF (l.take k):=by
 induction l generalizing k with
 | nil=>simp[dF]
 | cons x l ih =>
  cases k with
  | zero=>simp[dF]
  | succ k =>
   have:=ih k;simp only[dF,List.flatMap_cons,List.take_succ_cons] at this ⊢;rw[show(k+1)*2=k*2+1+1 by omega]
   simp[this]
theorem Toks.take1{w:World}{a:Option Addr}{c:Nat}{l:bP}(h:Toks w (.slice a l.length c) l)(hl:1≤l.length):Toks w (.slice a 1 c) (l.take 1):=by
 have:=Sl.take h 1 hl;rw[aiH] at this;unfold Toks;rw[List.length_take,Nat.min_eq_left hl];exact this
theorem allT_drop(qs:List QL)(l:bP)(j:Nat)(h:j<qs.length):allT (qs.drop j) l=(bg qs[j] l&&allT (qs.drop (j+1)) l):=by
 rw[List.drop_eq_getElem_cons h,allT]
theorem ZI(qs:List QL)(l:bP)(j:Nat)(h:j<qs.length):qP (qs.drop j) l=(bg qs[j] l||qP (qs.drop (j+1)) l):=by
 rw[List.drop_eq_getElem_cons h,qP]
theorem aiI(k:Int)(s:Bytes)(m sh n:List QL)(qv v:Value)(l:bP)(w:World)(h:QryAt w (.mk k s m sh n) qv)(hv:Toks w v l)(aD:m.length≤1000∧sh.length≤1000∧n.length≤1000)
  (HA:Hid (∀q∈m++sh++n,∀(qv:Value) (W:World),Q w W→QryAt W q qv→Calls Tryz.prog 29 #[qv,v] W fun e w'=>e=.returned (.bool (bg q l))∧Q W w')) :
  Calls Tryz.prog 66 #[qv,v] w fun e w'=>e=.returned (.bool (allT m l && !qP n l&&(!m.isEmpty||sh.isEmpty||qP sh l)))∧Q w w':=by
 obtain⟨vm,vs,vn,rfl,⟨a1,p1,rfl,x1⟩,⟨a2,p2,rfl,x2⟩,⟨a3,p3,rfl,x3⟩⟩:=h.open;obtain⟨_,_,k2,k3,k4⟩:=(Blk.new w 25 #[.int .i64 k,ak s,.slice a1 m.length p1,.slice a2 sh.length p2,.slice a3 n.length p3]).c5;have hb:=Q.alloc w (.cells #[.int .i64 k,ak s,.slice a1 m.length p1,.slice a2 sh.length p2,.slice a3 n.length p3] 25);obtain⟨va,vc,rfl,_⟩:=hv.value;have HB:=Hd hb;have X1:=Hd x1;have X2:=Hd x2;have X3:=Hd x3;obtain⟨jZ,jB,lC⟩:=aD;clear hb x1 x2 x3 h hv;generalize ET:m.length=ml at *;generalize bY:sh.length=sl at *;generalize vU:n.length=nl at *;have XD:=Hd ET;have yG:=Hd bY;have uE:=Hd vU;clear ET bY vU;go_enter Tryz.func66,Tryz.ntmps66;go_wp2_with fail;generalize w.alloc (.cells #[.int .i64 k,ak s,.slice a1 ml p1,.slice a2 sl p2,.slice a3 nl p3] 25)=wb at *;generalize hBB:w.heap.size=B at *;clear hBB;go_loopw [5,6] (fun i _ wr=>∃j:Nat,j≤ml∧i=.int .i64 (j:Nat)∧Hid (allT m l=allT (m.drop j) l)∧Hid (Q wb wr)) (fun i _ _=>ml-(intOf i).toNat)
 case atStart=>exact⟨0,by omega,rfl,rfl,Q.refl _⟩
 case round =>
  obtain⟨j,hj,rfl,HM,HQ⟩:=hrel;obtain⟨wo,rfl⟩:∃wo:World,wo=wr:=⟨_,rfl⟩;have y2:=ah HQ.out k2;by_cases hlt:j<ml
  ·have ql:(j:Int)<(ml:Int):=by omega
   have gY:(0:Int)≤(j:Int):=by omega
   obtain⟨b,off,rfl,He⟩:=X1.out (by omega)
   obtain⟨e0,e1,e2,e3,e4,⟨g0,g1,g2,g3,g4⟩,mF⟩:=He.at j (by rw[XD.out];exact hlt)
   obtain⟨fk,fs,b1,n1,r1,b2,n2,r2,b3,n3,r3,rfl,rfl,rfl,rfl,rfl⟩:=mF.form;have uy:=HB.out.trans HQ.out;have u0:=ah uy g0;have u1:=ah uy g1;have u2:=ah uy g2;have u3:=ah uy g3;have u4:=ah uy g4;have c:=HA.out (m[j]'(by rw[XD.out];exact hlt)) (List.mem_append_left _ (List.mem_append_left _ (List.getElem_mem _))) _ wo uy (mF.stays uy)
   have aI:=allT_drop m l j (by rw[XD.out];exact hlt)
   rw[←HM.out] at aI;generalize bg (m[j]'(by rw[XD.out];exact hlt)) l=mb at *
   have C:=Hd c;have bJ:=Hd aI;clear c aI He mF g0 g1 g2 g3 g4 uy;go_wp2_with fail;refine C.out.mono ?_;rintro e w3 ⟨rfl,q3⟩;have bZ:=Hd (HQ.out.trans q3);clear q3 C u0 u1 u2 u3 u4 y2;cases mb with
   | true =>
    go_wp2_with fail;go_roundw;case rel=>exact⟨j+1,by omega,by go_num,by show _=_;rw[bJ.out,Bool.true_and],bZ⟩
    case measure=>simp[intOf];omega
   | false =>
    go_wp2_with fail;go_ret;exact⟨eX (by rw[bJ.out];rfl),HB.out.trans bZ.out⟩
  ·have cO:ml=j:=by omega
   subst cO;have dI:allT m l=true:=by rw[HM.out,←XD.out,List.drop_length,allT]
   have aek:=Hd dI;have HQm:=Hd HQ.out;clear dI HM HQ;go_wp2_with fail;clear y2;go_loopw [7,8] (fun i _ wr=>∃j:Nat,j≤nl∧i=.int .i64 (j:Nat)∧Hid (qP n l=qP (n.drop j) l)∧Hid (Q wb wr)) (fun i _ _=>nl-(intOf i).toNat)
   case atStart=>exact⟨0,by omega,rfl,rfl,HQm.out⟩
   case round =>
    obtain⟨j,hj,rfl,HM,HQ⟩:=hrel;obtain⟨wo,rfl⟩:∃wo:World,wo=wr:=⟨_,rfl⟩;have y4:=ah HQ.out k4;by_cases hlt:j<nl
    ·have ql:(j:Int)<(nl:Int):=by omega
     have gY:(0:Int)≤(j:Int):=by omega
     obtain⟨b,off,rfl,He⟩:=X3.out (by omega)
     obtain⟨e0,e1,e2,e3,e4,⟨g0,g1,g2,g3,g4⟩,mF⟩:=He.at j (by rw[uE.out];exact hlt)
     obtain⟨fk,fs,b1,n1,r1,b2,n2,r2,b3,n3,r3,rfl,rfl,rfl,rfl,rfl⟩:=mF.form;have uy:=HB.out.trans HQ.out;have u0:=ah uy g0;have u1:=ah uy g1;have u2:=ah uy g2;have u3:=ah uy g3;have u4:=ah uy g4;have c:=HA.out (n[j]'(by rw[uE.out];exact hlt)) (List.mem_append_right _ (List.getElem_mem _)) _ wo uy (mF.stays uy)
     have aI:=ZI n l j (by rw[uE.out];exact hlt)
     rw[←HM.out] at aI;generalize bg (n[j]'(by rw[uE.out];exact hlt)) l=mb at *
     have C:=Hd c;have bJ:=Hd aI;clear c aI He mF g0 g1 g2 g3 g4 uy;go_wp2_with fail;refine C.out.mono ?_;rintro e w3 ⟨rfl,q3⟩;have bZ:=Hd (HQ.out.trans q3);clear q3 C u0 u1 u2 u3 u4 y4;cases mb with
     | false =>
      go_wp2_with fail;go_roundw;case rel=>exact⟨j+1,by omega,by go_num,by show _=_;rw[bJ.out,Bool.false_or],bZ⟩
      case measure=>simp[intOf];omega
     | true =>
      go_wp2_with fail;go_ret;exact⟨eX (by rw[aek.out,bJ.out];rfl),HB.out.trans bZ.out⟩
    ·have cO:nl=j:=by omega
     subst cO;have dI:qP n l=false:=by rw[HM.out,←uE.out,List.drop_length,qP]
     have aju:=Hd dI;have HQm:=Hd HQ.out;have y2:=ah HQ.out k2;have y3:=ah HQ.out k3;clear dI HM HQ;by_cases Il:ml=0
     ·have rP:m.isEmpty=true:=by have:=XD.out;rw[Il] at this;rw[List.eq_nil_of_length_eq_zero this];rfl
      have Du:=Hd rP;clear rP;subst Il;simp only[show((0:Nat):Int)=0 from rfl]
      by_cases AQ:sl=0
      ·have GY:sh.isEmpty=true:=by have:=yG.out;rw[AQ] at this;rw[List.eq_nil_of_length_eq_zero this];rfl
       have HSE:=Hd GY;clear GY;subst AQ;go_wp2_with fail;go_ret;exact⟨eX (by rw[aek.out,aju.out,Du.out,HSE.out];rfl),HB.out.trans HQm.out⟩
      ·have GY:sh.isEmpty=false:=by have:=yG.out;cases sh with|nil=>exact absurd this.symm AQ|cons a b=>rfl
       have aY:((sl:Int)==0)=false:=by simpa using AQ
       have Z6:(0:Int)<(sl:Int):=by omega
       have HSE:=Hd GY;clear GY AQ;go_wp2_with fail;go_loopw [9,10] (fun i _ wr=>∃j:Nat,j≤sl∧i=.int .i64 (j:Nat)∧Hid (qP sh l=qP (sh.drop j) l)∧Hid (Q wb wr)) (fun i _ _=>sl-(intOf i).toNat)
       case atStart=>exact⟨0,by omega,rfl,rfl,HQm.out⟩
       case round =>
        obtain⟨j,hj,rfl,HM,HQ⟩:=hrel;obtain⟨wo,rfl⟩:∃wo:World,wo=wr:=⟨_,rfl⟩;clear y2 y3;have y3:=ah HQ.out k3;by_cases hlt:j<sl
        ·have ql:(j:Int)<(sl:Int):=by omega
         have gY:(0:Int)≤(j:Int):=by omega
         obtain⟨b,off,rfl,He⟩:=X2.out (by omega)
         obtain⟨e0,e1,e2,e3,e4,⟨g0,g1,g2,g3,g4⟩,mF⟩:=He.at j (by rw[yG.out];exact hlt)
         obtain⟨fk,fs,b1,n1,r1,b2,n2,r2,b3,n3,r3,rfl,rfl,rfl,rfl,rfl⟩:=mF.form;have uy:=HB.out.trans HQ.out;have u0:=ah uy g0;have u1:=ah uy g1;have u2:=ah uy g2;have u3:=ah uy g3;have u4:=ah uy g4;have c:=HA.out (sh[j]'(by rw[yG.out];exact hlt)) (List.mem_append_left _ (List.mem_append_right _ (List.getElem_mem _))) _ wo uy (mF.stays uy)
         have aI:=ZI sh l j (by rw[yG.out];exact hlt)
         rw[←HM.out] at aI;generalize bg (sh[j]'(by rw[yG.out];exact hlt)) l=mb at *
         have C:=Hd c;have bJ:=Hd aI;clear c aI He mF g0 g1 g2 g3 g4 uy;go_wp2_with fail;refine C.out.mono ?_;rintro e w3 ⟨rfl,q3⟩;have bZ:=Hd (HQ.out.trans q3);clear q3 C u0 u1 u2 u3 u4 y3;cases mb with
         | false =>
          go_wp2_with fail;go_roundw;case rel=>exact⟨j+1,by omega,by go_num,by show _=_;rw[bJ.out,Bool.false_or],bZ⟩
          case measure=>simp[intOf];omega
         | true =>
          go_wp2_with fail;go_ret;exact⟨eX (by rw[aek.out,aju.out,Du.out,HSE.out,bJ.out];rfl),HB.out.trans bZ.out⟩
        ·have cO:sl=j:=by omega
         subst cO;go_wp2_with fail;go_ret;exact⟨eX (by rw[aek.out,aju.out,Du.out,HSE.out,HM.out,←yG.out,List.drop_length,qP];rfl),HB.out.trans HQ.out⟩
     ·have rP:m.isEmpty=false:=by have:=XD.out;cases m with|nil=>exact absurd this.symm Il|cons a b=>rfl
      have Fu:(0:Int)<(ml:Int):=by omega
      have Du:=Hd rP;clear rP;go_wp2_with fail;go_ret;exact⟨eX (by rw[aek.out,aju.out,Du.out];simp),HB.out.trans HQm.out⟩
theorem acI(q:QL):∀(qv v:Value) (l:bP) (w:World),iD q=true→dh q≤1000→QryAt w q qv→Toks w v l→l.length≤100000001→(∀x∈l,x.2≤100000000∧x.1.length≤1000000000) →
  Calls Tryz.prog 29 #[qv,v] w fun e w'=>e=.returned (.bool (bg q l))∧Q w w':=by
 induction q using QL.ind with
 | h k s m sh n h1 h2 h3 =>
  intro qv v l w wB aY h hv vk fI;obtain⟨⟨vO,vZ,axH⟩,qC,rD,JJ⟩:=Ky wB;rw[dh] at aY;have dI:∀q∈m++sh++n,∀(qv:Value) (W:World),Q w W→QryAt W q qv→Calls Tryz.prog 29 #[qv,v] W fun e w'=>e=.returned (.bool (bg q l))∧Q W w':=by
   intro q hq qv W uy ng;simp only[List.mem_append] at hq;rcases hq with (hq|hq)|hq
   ·exact h1 q hq qv v l W (yP qC hq) (by have:=uN hq;omega) ng (Sl.stays hv uy) vk fI
   ·exact h2 q hq qv v l W (yP rD hq) (by have:=uN hq;omega) ng (Sl.stays hv uy) vk fI
   ·exact h3 q hq qv v l W (yP JJ hq) (by have:=uN hq;omega) ng (Sl.stays hv uy) vk fI
  have jZ:=jW m;have jB:=jW sh;have lC:=jW n;have cev:=fun (W:World) (hq:Q w W)=>aiI k s m sh n qv v l W (h.stays hq) (Sl.stays hv hq) ⟨by omega,by omega,by omega⟩ (Hd (fun q hm qv W' hq'=>dI q hm qv W' (hq.trans hq')))
  obtain⟨vm,vs,vn,rfl,⟨a1,p1,rfl,x1⟩,⟨a2,p2,rfl,x2⟩,⟨a3,p3,rfl,x3⟩⟩:=h.open;obtain⟨k0,k1,k2,k3,k4⟩:=(Blk.new w 25 #[.int .i64 k,ak s,.slice a1 m.length p1,.slice a2 sh.length p2,.slice a3 n.length p3]).c5;have hb:=Q.alloc w (.cells #[.int .i64 k,ak s,.slice a1 m.length p1,.slice a2 sh.length p2,.slice a3 n.length p3] 25);have gP:=hv;obtain⟨va,vc,rfl,_⟩:=hv.value;have cph:=fun (W:World)=>TU s W (by omega)
  have aqC:∀x∈ay s,x.2≤100000000:=fun x hx=>by
   unfold ay kY at hx;obtain⟨y,hy,rfl⟩:=List.mem_map.1 hx;have:=((qQ s).2 y hy).2.2;simp only;omega
  have aqD:=LW s (by omega)
  have HB:=Hd hb;have Ra:=Hd cev;have Ny:=Hd cph;have HV:=Hd gP;have iA:=Hd fI;have VA:=Hd aqC;have VB:=Hd aqD;clear dI hb cev cph gP hv h h1 h2 h3 x1 x2 x3 qC rD JJ wB fI aqC aqD aY;by_cases e1:k=1
  ·subst e1
   have hm:bg (.mk 1 s m sh n) l=true:=by rw[bg,if_pos rfl]
   rw[hm];clear hm;go_enter Tryz.func29,Tryz.ntmps29;go_wp2_with fail;go_ret;exact⟨rfl,HB.out⟩
  ·by_cases e2:k=2
   ·subst e2
    have hm:bg (.mk 2 s m sh n) l=decide (0<kC ((ay s).take 1) l):=by rw[bg,if_neg (by decide),if_pos rfl]
    rw[hm];clear hm;generalize ay s=P at *;go_enter Tryz.func29,Tryz.ntmps29;go_wp2_with fail;refine(Ny.out _).mono ?_;rintro e w1 ⟨pv,rfl,ho,q1⟩;have aC:=Hd (HB.out.trans q1);have OV:Toks w1 pv P:=Sl.of_owns ho;obtain⟨pa,pc,rfl,_⟩:=OV.value;have uX:=o8 ho;have xM:=VA.out;have KX:=VB.out;by_cases Em:P.length=0
    ·have xk:P=[]:=List.eq_nil_of_length_eq_zero Em
     subst xk;clear q1 ho OV k0 k1 k2 k3 k4 Ny Ra VA VB xM uX;go_wp2_with fail;go_ret;exact⟨eX (by simp[kC]),aC.out⟩
    ·have xk:(!P.isEmpty)=true:=by cases P with|nil=>exact absurd rfl Em|cons a b=>rfl
     have xw:1≤P.length:=by omega
     have EO:Toks w1 (.slice pa 1 pc) (P.take 1):=OV.take1 xw;have cc:=fun (W:World) (hq:Q w1 W)=>ZH _ _ (P.take 1) l W (Sl.stays HV.out (aC.out.trans hq)) (Sl.stays EO hq) vk (by rw[List.length_take];omega) (fun x hx=>(iA.out x hx).1) (fun x hx=>xM x (List.mem_of_mem_take hx))
     have lD:=Kz (P.take 1) l;rw[xk];have gX:(1:Int)≤(pc:Int):=by omega
     have ayz:1≤pc:=by omega
     have CC:=Hd cc;clear q1 ho OV k0 k1 k2 k3 k4 Ny Ra VA VB xM cc xk EO;go_wp2_with fail;refine(CC.out _ (Q.refl _)).mono ?_;rintro e w2 ⟨rfl,q2⟩;go_wp2_with fail;go_ret;exact⟨eX (by by_cases h:0<kC (P.take 1) l<;>simp[h]),aC.out.trans q2⟩
   ·by_cases e3:k=3
    ·subst e3
     have hm:bg (.mk 3 s m sh n) l=decide (0<kC (ay s) l):=by rw[bg,if_neg (by decide),if_neg (by decide),if_pos rfl]
     rw[hm];clear hm;generalize ay s=P at *;go_enter Tryz.func29,Tryz.ntmps29;go_wp2_with fail;refine(Ny.out _).mono ?_;rintro e w1 ⟨pv,rfl,ho,q1⟩;have aC:=Hd (HB.out.trans q1);have OV:Toks w1 pv P:=Sl.of_owns ho;obtain⟨pa,pc,rfl,_⟩:=OV.value;have xM:=VA.out;have KX:=VB.out;have cc:=fun (W:World) (hq:Q w1 W)=>ZH _ _ P l W (Sl.stays HV.out (aC.out.trans hq)) (Sl.stays OV hq) vk (by omega) (fun x hx=>(iA.out x hx).1) xM
     have lD:=Kz P l;have CC:=Hd cc;clear q1 ho OV k0 k1 k2 k3 k4 Ny Ra VA VB xM cc;go_wp2_with fail;refine(CC.out _ (by first|exact Q.refl _|exact Q.drew _)).mono ?_
     rintro e w2 ⟨rfl,q2⟩;go_wp2_with fail;go_ret;exact⟨eX (by by_cases h:0<kC P l<;>simp[h]),aC.out.trans q2⟩
    ·by_cases e4:k=4
     ·subst e4
      have hm:bg (.mk 4 s m sh n) l=decide (0<jl (bQ s) l):=by rw[bg,if_neg (by decide),if_neg (by decide),if_neg (by decide),if_pos rfl]
      rw[hm];clear hm;have cfo:=fun W=>TL s W (by omega)
      have rG:=F5 s;generalize bQ s=f at *;have cbe:=fun (W:World) (hq:Q w W)=>aiG _ f l W (Sl.stays HV.out hq) (by omega) (by omega) (fun x hx=>(iA.out x hx).2)
      have oQ:=Oa f l;generalize jl f l=c at *;have CFO:=Hd cfo;have CBE:=Hd cbe;clear cfo cbe Ny Ra VA VB;go_enter Tryz.func29,Tryz.ntmps29;go_wp2_with fail;refine(CFO.out _).mono ?_;rintro e w1 ⟨rfl,q1⟩;have aC:=Hd (HB.out.trans q1);clear q1 k0 k1 k2 k3 k4;go_wp2_with fail;refine(CBE.out _ aC.out).mono ?_;rintro e w2 ⟨rfl,q2⟩;go_wp2_with fail;go_ret;exact⟨eX (by by_cases h:0<c<;>simp[h]),aC.out.trans q2⟩
     ·have e5:k=5:=by omega
      subst e5;have hm:bg (.mk 5 s m sh n) l=(allT m l && !qP n l&&(!m.isEmpty||sh.isEmpty||qP sh l)):=by rw[bg,if_neg (by decide),if_neg (by decide),if_neg (by decide),if_neg (by decide),if_pos rfl]
      rw[hm];clear hm;generalize (allT m l && !qP n l&&(!m.isEmpty||sh.isEmpty||qP sh l))=bb at *;clear Ny VA VB;go_enter Tryz.func29,Tryz.ntmps29;go_wp2_with fail;refine(Ra.out _ HB.out).mono ?_;rintro e w1 ⟨rfl,q1⟩;go_wp2_with fail;go_ret;exact⟨rfl,HB.out.trans q1⟩
def TokRows(w:World)(tv:Value)(ds:List au):Prop:=∃a cap,tv=.slice a ds.length cap∧(0<ds.length→∃b off,a=some ⟨b,off,none⟩∧∀j (hj:j<ds.length),∃v,w.cell? ⟨b,off+j,none⟩=some v∧Toks w v (aA ds[j].2))
theorem TokRows.stays{w w':World}{tv:Value}{ds:List au}(h:TokRows w tv ds)(q:Q w w'):TokRows w' tv ds:=by
 obtain⟨a,cap,h1,h2⟩:=h;refine⟨a,cap,h1,fun hn=>?_⟩
 obtain⟨b,off,h3,h4⟩:=h2 hn;refine⟨b,off,h3,fun j hj=>?_⟩
 obtain⟨v,h5,h6⟩:=h4 j hj;exact⟨v,ah q h5,Sl.stays h6 q⟩
structure Wld (w:World) (p:Nat) (ds:List au):Prop where
 docs:∃a cap,w.cell? ⟨p,0,none⟩=some (.slice a ds.length cap)
 toks:∃tv,w.cell? ⟨p,1,none⟩=some tv∧TokRows w tv ds
theorem Wld.stays{w w':World}{p:Nat}{ds:List au}(h:Wld w p ds)(q:Q w w'):Wld w' p ds:=by
 obtain⟨⟨a,cap,h1⟩,tv,h2,h3⟩:=h;exact⟨⟨a,cap,ah q h1⟩,tv,ah q h2,h3.stays q⟩
theorem toks_lit(w:World)(t:Bytes):Toks (w.alloc (.cells #[ak t,.int .i64 0] 129)) (.slice (some ⟨w.heap.size,0,none⟩) 1 1) [(t,0)]:=mK w t 0 0 rfl
def eO(ds:List au)(t:Bytes)(k:Nat):Nat:=qZ (ds.take k) t
theorem AP(ds:List au)(t:Bytes)(k:Nat)(h:k<ds.length):eO ds t (k+1)=eO ds t k+if 0<kC [(t,0)] (aA ds[k].2) then 1 else 0:=by
 unfold eO;rw[List.take_succ_eq_append_getElem h,abR,Wy,←acg];cases placesIn ds[k].2 t<;>simp[qZ]
theorem haveTo_le(ds:List au)(t:Bytes)(k:Nat):eO ds t k≤k:=by
 unfold eO;refine Nat.le_trans (abS _ _) ?_;rw[List.length_take];omega
theorem afU(s:Bytes)(h:s.length≤2000):(aA s).length≤100000001∧∀x∈aA s,x.2≤100000000∧x.1.length≤1000000000:=by
 have h1:=(lM s h).1;refine⟨by omega,fun x hx=>⟨?_,?_⟩⟩
 ·have:=((qQ s).2 x hx).2.2;omega
 ·have:=((qQ s).2 x hx);omega
theorem AR(p:Nat)(ds:List au)(t:Bytes)(w:World)(h:Wld w p ds)(hn:ds.length≤1000000)(hd:∀d∈ds,d.2.length≤2000):
  Calls Tryz.prog 67 #[.pointer (some ⟨p,0,none⟩),ak t] w fun e w'=>e=.returned (.int .i64 (wtL ds t:Nat))∧Q w w':=by
 obtain⟨⟨da,dc,h0⟩,tv,h1,ta,tc,rfl,Z4⟩:=h;have cw:=fun k (W:World) (hk:k≤1000000)=>iX (ds.length:Int) ((k:Nat):Int) W (by omega) (by omega) (by omega) (by omega)
 have aI:=AP ds t;have bR:=haveTo_le ds t;have dI:qY (ds.length:Int) ((eO ds t ds.length:Nat):Int)=wtL ds t:=by
  rw[Ti];unfold eO wtL;rw[List.take_length]
 have Uc:=fun k (hk:k<ds.length)=>afU ds[k].2 (hd _ (List.getElem_mem hk))
 have H0:=Hd h0;have H1:=Hd h1;have HTC:=Hd Z4;have CW:=Hd cw;have bJ:=Hd aI;have Lh:=Hd bR;have yZ:=Hd dI;have Eu:=Hd Uc;clear h0 h1 Z4 cw aI bR dI Uc hd;go_enter Tryz.func67,Tryz.ntmps67;go_wp2_with fail;go_loopw [5,6] (fun x i wr=>∃k:Nat,k≤ds.length∧i=.int .i64 (k:Nat)∧x=.int .i64 (eO ds t k:Nat)∧Hid (Q w wr)) (fun _ i _=>ds.length-(intOf i).toNat)
 case atStart=>exact⟨0,by omega,rfl,rfl,Q.refl _⟩
 case round =>
  obtain⟨k,hk,rfl,rfl,HQ⟩:=hrel;obtain⟨wo,rfl⟩:∃wo:World,wo=wr:=⟨_,rfl⟩;have y0:=ah HQ.out H0.out;have y1:=ah HQ.out H1.out;have OO:=Lh.out k;by_cases hlt:k<ds.length
  ·obtain⟨b,off,rfl,bC⟩:=HTC.out (by omega)
   obtain⟨v,c0,gU⟩:=bC k hlt;have c1:=ah HQ.out c0;have ql:(k:Int)<(ds.length:Int):=by omega
   have gY:(0:Int)≤(k:Int):=by omega
   obtain⟨dS,aO⟩:=Eu.out k hlt;have hs:=bJ.out k hlt;have aY:=cK y1;have jS:=Q.alloc wo (.cells #[ak t,.int .i64 0] 129);have cc:=fun (W:World) (hq:Q (wo.alloc (.cells #[ak t,.int .i64 0] 129)) W)=>ZH _ v [(t,0)] (aA ds[k].2) W (Sl.stays (Sl.stays (Sl.stays gU HQ.out) jS) hq) (Sl.stays (toks_lit wo t) hq) dS (by simp) (fun x hx=>(aO x hx).1) (by simp)
   generalize kC [(t,0)] (aA ds[k].2)=n at *;obtain⟨va,vcap,Ao,hvx⟩:=gU.value;clear hvx;subst Ao;have CC:=Hd cc;have HS:=Hd hs;have aC:=Hd jS;have amy:=cK c1;simp only at amy aY;clear cc hs jS gU bC c0 aO dS;generalize (aA ds[k].2).length=vl at *;generalize eO ds t k=c at *;have z1:=ah aC.out y1;have z0:=ah aC.out c1;have y3:=ah aC.out y0;go_wp2_with fail;refine(CC.out _ (Q.refl _)).mono ?_;rintro e w3 ⟨rfl,q3⟩;have bZ:=Hd (HQ.out.trans (aC.out.trans q3));clear q3 CC y0 y1 c1 z0 z1 y3;by_cases Ij:0<n
   ·have Cw:(0:Int)<(n:Int):=by omega
    have hs:=HS.out;rw[if_pos Ij] at hs;have Ep:=Hd hs;clear hs Ij;go_wp2_with fail;go_roundw;case rel=>exact⟨k+1,by omega,by go_num,by rw[Ep.out];go_num,bZ⟩
    case measure=>simp[intOf];omega
   ·have Cw:¬(0:Int)<(n:Int):=by omega
    have hs:=HS.out;rw[if_neg Ij] at hs;have Ep:=Hd hs;clear hs Ij;go_wp2_with fail;go_roundw;case rel=>exact⟨k+1,by omega,by go_num,by rw[Ep.out];rfl,bZ⟩
    case measure=>simp[intOf];omega
  ·have cO:k=ds.length:=by omega
   subst cO;have c:=fun W=>CW.out (eO ds t ds.length) W (by omega)
   have C:=Hd c;clear c;go_wp2_with fail;refine(C.out _).mono ?_;rintro e w1 ⟨rfl,rfl⟩;go_wp2_with fail;go_ret;exact⟨by rw[yZ.out];rfl,HQ.out⟩
theorem cellQ0{w w':World}{a:Addr}{v:Value}(q:Q w w')(h:w.cell? a=some v):w'.cell? a=some v:=ah q h
theorem toksQ{w w':World}{v:Value}{l:bP}(h:Toks w v l)(q:Q w w'):Toks w' v l:=Sl.stays h q
theorem sumT_step(wt:Bytes→Nat)(qs:List QL)(t:bP)(j:Nat)(h:j<qs.length):bX wt (qs.take (j+1)) t=bX wt (qs.take j) t+jK wt qs[j] t:=by
 have key:∀(a:List QL) (q:QL),bX wt (a++[q]) t=bX wt a t+jK wt q t:=by
  intro a q;induction a with
  | nil=>simp[bX]
  | cons x a ih=>rw[List.cons_append,bX,bX,ih];omega
 rw[List.take_succ_eq_append_getElem h,key]
theorem mayT_step(wt:Bytes→Nat)(qs:List QL)(t:bP)(j:Nat)(h:j<qs.length):DV wt (qs.take (j+1)) t=DV wt (qs.take j) t+if bg qs[j] t then jK wt qs[j] t else 0:=by
 have key:∀(a:List QL) (q:QL),DV wt (a++[q]) t=DV wt a t+if bg q t then jK wt q t else 0:=by
  intro a q;induction a with
  | nil=>simp[DV]
  | cons x a ih=>rw[List.cons_append,DV,DV,ih];omega
 rw[List.take_succ_eq_append_getElem h,key]
theorem gT{qs:List QL}(h:dX qs=true)(j:Nat):dX (qs.take j)=true:=by
 cases hb:dX (qs.take j) with
 | true=>rfl
 | false=>rw[aaV hb] at h;cases h
theorem sumW_step(wt:Bytes→Nat)(p:bP)(j:Nat)(h:j<p.length):bB wt (p.take (j+1))=bB wt (p.take j)+wt p[j].1:=by
 unfold bB;rw[List.take_succ_eq_append_getElem h,List.map_append,List.sum_append];simp
theorem allT_mem{qs:List QL}{t:bP}(h:allT qs t=true){q:QL}(hq:q∈qs):bg q t=true:=by
 induction qs with
 | nil=>simp at hq
 | cons x qs ih =>
  rw[allT,Bool.and_eq_true] at h;rcases List.mem_cons.1 hq with rfl|hq
  ·exact h.1
  ·exact ih h.2 hq
theorem Fw(p:Nat)(ds:List au)(hn:ds.length≤1000000)(hd:∀d∈ds,d.2.length≤2000)(q:QL):∀(qv v:Value) (t:bP) (w:World),iD q=true→dh q≤1000→QryAt w q qv→Toks w v t→Wld w p ds→t.length≤2001 →
  (∀x∈t,x.2≤100000000∧x.1.length≤1000000000)→bg q t=true →
  Calls Tryz.prog 30 #[.pointer (some ⟨p,0,none⟩),qv,v] w fun e w'=>e=.returned (.int .i64 (jK (wtL ds) q t:Nat))∧Q w w':=by
 induction q using QL.ind with
 | h k s m sh n h1 h2 h3 =>
  intro qv v t w wB aY h hv eZ vk fI gF;obtain⟨⟨vO,vZ,axH⟩,qC,rD,JJ⟩:=Ky wB;rw[dh] at aY;have OQ:=wtL_le ds (by omega)
  have cww:=fun (W:World) (hq:Q w W) (u:Bytes)=>AR p ds u W (eZ.stays hq) hn hd
  have jZ:=jW m;have jB:=jW sh;have mF:=h;obtain⟨vm,vs,vn,rfl,⟨a1,p1,rfl,x1⟩,⟨a2,p2,rfl,x2⟩,⟨a3,p3,rfl,x3⟩⟩:=h.open;obtain⟨k0,k1,k2,k3,k4⟩:=(Blk.new w 25 #[.int .i64 k,ak s,.slice a1 m.length p1,.slice a2 sh.length p2,.slice a3 n.length p3]).c5;have hb:=Q.alloc w (.cells #[.int .i64 k,ak s,.slice a1 m.length p1,.slice a2 sh.length p2,.slice a3 n.length p3] 25);have gP:=hv;obtain⟨va,vc,EI,_⟩:=hv.value;subst EI;have cph:=fun (W:World)=>TU s W (by omega)
  have aqC:∀x∈ay s,x.2≤100000000:=fun x hx=>by
   unfold ay kY at hx;obtain⟨y,hy,rfl⟩:=List.mem_map.1 hx;have:=((qQ s).2 y hy).2.2;simp only;omega
  have aqD:=LW s (by omega)
  have HB:=Hd hb;have Ny:=Hd cph;have HV:=Hd gP;have iA:=Hd fI;have VA:=Hd aqC;have VB:=Hd aqD;have CWW:=Hd cww;have Z9:=Hd OQ;have HWD:=Hd eZ;by_cases e1:k=1
  ·subst e1
   have hm:jK (wtL ds) (.mk 1 s m sh n) t=1:=by rw[jK,if_pos rfl]
   rw[hm];clear hm hb cph gP fI aqC aqD cww OQ hv h h1 h2 h3 x1 x2 x3 qC rD JJ wB aY gF mF eZ;generalize ay s=P at *;go_enter Tryz.func30,Tryz.ntmps30;go_wp2_with fail;refine(Ny.out _).mono ?_;rintro e w1 ⟨pv,rfl,ho,q1⟩;have aC:=Hd (HB.out.trans q1);have u0:=ah q1 k0;obtain⟨pa,pc,rfl,_⟩:=aT ho;clear q1 ho k0 k1 k2 k3 k4;go_wp2_with fail;go_ret;exact⟨rfl,aC.out⟩
  ·by_cases e2:k=2
   ·subst e2
    have hm:jK (wtL ds) (.mk 2 s m sh n) t=bB (wtL ds) ((ay s).take 1)*kC ((ay s).take 1) t:=by rw[jK,if_neg (by decide),if_pos rfl]
    rw[hm];rw[bg,if_neg (by decide),if_pos rfl,decide_eq_true_eq] at gF
    clear hm hb cph gP fI aqC aqD cww OQ hv h h1 h2 h3 x1 x2 x3 qC rD JJ wB aY mF eZ;generalize ay s=P at *;have Em:1≤P.length:=by cases P with|nil=>simp[kC] at gF|cons a b=>simp
    have EW:bB (wtL ds) (P.take 1)=wtL ds (P[0]'(by omega)).1:=by cases P with|nil=>simp at Em|cons a b=>simp[bB]
    rw[EW];have lD:=Kz (P.take 1) t;have Gz:=Z9.out (P[0]'(by omega)).1
    have sU:wtL ds (P[0]'(by omega)).1*kC (P.take 1) t≤63*2001:=Nat.mul_le_mul Gz (by omega)
    have xM:=VA.out;have KX:=VB.out;have cc:=fun (W:World) (u:Value) (hq:Q w W) (hu:Toks W u (P.take 1))=>ZH u _ (P.take 1) t W (Sl.stays HV.out hq) hu (by omega) (by rw[List.length_take];omega) (fun x hx=>(iA.out x hx).1) (fun x hx=>xM x (List.mem_of_mem_take hx))
    have cw:=fun (W:World) (hq:Q w W)=>CWW.out W hq (P[0]'(by omega)).1
    have aJ:∀(W:World) (pv:Value) (OV:Toks W pv P),∃pb po pc,pv=.slice (some ⟨pb,po,none⟩) P.length pc∧W.cell? ⟨pb,po,none⟩=some (ak (P[0]'(by omega)).1):=by
     intro W pv OV;obtain⟨pa,pc,TY,Fx⟩:=OV.value;obtain⟨pb,po,rfl,agi⟩:=Fx (by omega)
     have z0:=(agi 0 (by omega)).1
     rw[Nat.zero_mul,Nat.add_zero] at z0;exact⟨pb,po,pc,TY,z0⟩
    generalize (P[0]'(by omega)).1=u0 at *
    generalize wtL ds u0=A at *;generalize kC (P.take 1) t=B at *;obtain⟨M,hM⟩:∃M,M=A*B:=⟨_,rfl⟩;have La:IntKind.i64.wrap ((A:Int)*(B:Int))=(M:Int):=by rw[←Int.natCast_mul,←hM];exact IntWalk.i64_in _ (by omega)
    rw[←hM];have CC:=Hd cc;have CW:=Hd cw;have agA:=Hd aJ;clear hM EW gF cc cw xM aJ sU lD Gz;go_enter Tryz.func30,Tryz.ntmps30;go_wp2_with fail;refine(Ny.out _).mono ?_;rintro e w1 ⟨pv,rfl,ho,q1⟩;have aC:=Hd (HB.out.trans q1);have u1:=ah q1 k0;have OV:Toks w1 pv P:=Sl.of_owns ho;obtain⟨pb,po,pc,TY,z0⟩:=agA.out w1 pv OV;subst TY;have uX:=o8 ho;have EO:Toks w1 (.slice (some ⟨pb,po,none⟩) 1 pc) (P.take 1):=OV.take1 Em;have gX:(1:Int)≤(pc:Int):=by omega
    have ayz:1≤pc:=by omega
    have ayt:(0:Int)<(P.length:Int):=by omega
    have ao6:0<P.length:=by omega
    have KK:=Hd (Q.refl w1);have mR:=Hd EO;clear q1 ho OV k0 k1 k2 k3 k4 Ny VA VB EO;go_wp2_with fail;go_region_held3 (fun w'=>w'.cell? ⟨pb,po,none⟩=some (ak u0)) (first|exact z0|exact cellQ0 (by repeat (first|with_reducible exact KK.out|with_reducible apply Qt.al0|with_reducible apply Qt.dr0)) z0)
     (first
      | (go_at_call 67;refine(CW.out _ (aC.out.trans (by repeat (first|with_reducible exact KK.out|with_reducible apply Qt.al0|with_reducible apply Qt.dr0)))).mono ?_;rintro e w2 ⟨rfl,q2⟩;have s':Q w1 w2:=Q.trans (by repeat (first|with_reducible exact KK.out|with_reducible apply Qt.al0|with_reducible apply Qt.dr0)) q2;clear KK;have KK:=Hd s';clear s' q2)
      | (go_at_call 64;refine(CC.out _ _ (aC.out.trans (by repeat (first|with_reducible exact KK.out|with_reducible apply Qt.al0|with_reducible apply Qt.dr0))) (toksQ mR.out (by repeat (first|with_reducible exact KK.out|with_reducible apply Qt.al0|with_reducible apply Qt.dr0)))).mono ?_;rintro e w2 ⟨rfl,q2⟩;have s':Q w1 w2:=Q.trans (by repeat (first|with_reducible exact KK.out|with_reducible apply Qt.al0|with_reducible apply Qt.dr0)) q2;clear KK;have KK:=Hd s';clear s' q2))
    all_goals
     clear z0 u1;go_wp2_with fail;go_ret;exact⟨rfl,aC.out.trans (by repeat (first|with_reducible exact KK.out|with_reducible apply Qt.al0|with_reducible apply Qt.dr0))⟩
   ·by_cases e3:k=3
    ·subst e3
     have hm:jK (wtL ds) (.mk 3 s m sh n) t=bB (wtL ds) (ay s)*kC (ay s) t:=by rw[jK,if_neg (by decide),if_neg (by decide),if_pos rfl]
     rw[hm];clear hm hb cph gP fI aqC aqD cww OQ hv h h1 h2 h3 x1 x2 x3 qC rD JJ wB aY mF eZ gF;generalize ay s=P at *;have lD:=Kz P t;have xM:=VA.out;have KX:=VB.out;have EW:=fun j=>I8 (wtL ds) Z9.out (P.take j)
     have Rp:∀j,bB (wtL ds) (P.take j)≤63*2001:=fun j=>Nat.le_trans (EW j) (Nat.mul_le_mul_left 63 (by rw[List.length_take];omega))
     have sU:bB (wtL ds) P*kC P t≤63*2001*2001:=Nat.mul_le_mul (by have:=Rp P.length;rwa [List.take_length] at this) (by omega)
     have cc:=fun (W:World) (u:Value) (hq:Q w W) (hu:Toks W u P)=>ZH u _ P t W (Sl.stays HV.out hq) hu (by omega) (by omega) (fun x hx=>(iA.out x hx).1) xM
     have aI:=sumW_step (wtL ds) P;have dI:bB (wtL ds) (P.take P.length)=bB (wtL ds) P:=by rw[List.take_length]
     obtain⟨M,hM⟩:∃M,M=bB (wtL ds) P*kC P t:=⟨_,rfl⟩;have La:IntKind.i64.wrap (((bB (wtL ds) P:Nat):Int)*((kC P t:Nat):Int))=(M:Int):=by rw[←Int.natCast_mul,←hM];exact IntWalk.i64_in _ (by omega)
     rw[←hM];have CC:=Hd cc;have bJ:=Hd aI;have Ng:=Hd Rp;have yZ:=Hd dI;clear hM cc xM sU EW aI Rp dI;generalize kC P t=B at *;generalize bB (wtL ds) P=A at *;go_enter Tryz.func30,Tryz.ntmps30;go_wp2_with fail;refine(Ny.out _).mono ?_;rintro e w1 ⟨pv,rfl,ho,q1⟩;have aC:=Hd (HB.out.trans q1);have u1:=ah q1 k0;have OV:Toks w1 pv P:=Sl.of_owns ho;have HPT:=Hd OV;obtain⟨pa,pc,TY,Fx⟩:=OV.value;subst TY;have BQ:=Hd Fx;clear q1 ho OV k0 k1 k2 k3 k4 Ny VA VB Fx;go_wp2_with fail;clear u1;go_loopw [9,10] (fun x i wr=>∃j:Nat,j≤P.length∧i=.int .i64 (j:Nat)∧x=.int .i64 (bB (wtL ds) (P.take j):Nat)∧Hid (Q w1 wr)) (fun _ i _=>P.length-(intOf i).toNat)
     case atStart=>exact⟨0,by omega,rfl,by rw[List.take_zero];rfl,Q.refl _⟩
     case round =>
      obtain⟨j,hj,rfl,rfl,HQ⟩:=hrel;obtain⟨wo,rfl⟩:∃wo:World,wo=wr:=⟨_,rfl⟩;have ko:=Ng.out j;by_cases hlt:j<P.length
      ·obtain⟨b,off,rfl,bC⟩:=BQ.out (by omega)
       have c0:=ah HQ.out (bC j hlt).1;have ql:(j:Int)<(P.length:Int):=by omega
       have gY:(0:Int)≤(j:Int):=by omega
       have aI:=bJ.out j hlt;have cw:=CWW.out wo (aC.out.trans HQ.out) P[j].1;have Gz:=Z9.out P[j].1;generalize P[j].1=u at *;generalize wtL ds u=a at *;generalize bB (wtL ds) (P.take j)=x at *;have CW:=Hd cw;have HS:=Hd aI;clear bC aI cw;go_wp2_with fail;refine CW.out.mono ?_;rintro e w2 ⟨rfl,q2⟩;have aS:=Hd (HQ.out.trans q2);clear q2 c0 CW;go_wp2_with fail;go_roundw;case rel=>exact⟨j+1,by omega,by go_num,by rw[HS.out];go_num,aS⟩
       case measure=>simp[intOf];omega
      ·have cO:P.length=j:=by omega
       have ha:=yZ.out;rw[cO] at ha;rw[ha] at ko ⊢;have c:=CC.out wo _ (aC.out.trans HQ.out) (toksQ HPT.out HQ.out);have C:=Hd c;have vU:¬(j:Int)<(P.length:Int):=by omega
       clear c ha cO;go_wp2_with fail;refine C.out.mono ?_;rintro e w2 ⟨rfl,q2⟩;go_wp2_with fail;go_ret;exact⟨rfl,aC.out.trans (HQ.out.trans q2)⟩
    ·by_cases e4:k=4
     ·subst e4
      have hm:jK (wtL ds) (.mk 4 s m sh n) t=jl (bQ s) t:=by rw[jK,if_neg (by decide),if_neg (by decide),if_neg (by decide),if_pos rfl]
      rw[hm];clear hm hb cph gP fI aqC aqD cww OQ hv h h1 h2 h3 x1 x2 x3 qC rD JJ wB aY mF eZ gF;have cfo:=fun W=>TL s W (by omega)
      have rG:=F5 s;generalize bQ s=f at *;have cbe:=fun (W:World) (hq:Q w W)=>aiG _ f t W (Sl.stays HV.out hq) (by omega) (by omega) (fun x hx=>(iA.out x hx).2)
      generalize jl f t=c at *;generalize ay s=P at *;have CFO:=Hd cfo;have CBE:=Hd cbe;clear cfo cbe VA VB;go_enter Tryz.func30,Tryz.ntmps30;go_wp2_with fail;refine(Ny.out _).mono ?_;rintro e w1 ⟨pv,rfl,ho,q1⟩;have aC:=Hd (HB.out.trans q1);have u0:=ah q1 k0;have u1:=ah q1 k1;obtain⟨pa,pc,rfl,_⟩:=aT ho;clear q1 ho k0 k1 k2 k3 k4;go_wp2_with fail;refine(CFO.out _).mono ?_;rintro e w2 ⟨rfl,q2⟩;have aS:=Hd (aC.out.trans q2);clear q2 u0 u1;go_wp2_with fail;refine(CBE.out _ aS.out).mono ?_;rintro e w3 ⟨rfl,q3⟩;go_wp2_with fail;go_ret;exact⟨rfl,aS.out.trans q3⟩
     ·have e5:k=5:=by omega
      subst e5;have hm:jK (wtL ds) (.mk 5 s m sh n) t=bX (wtL ds) m t+DV (wtL ds) sh t:=by rw[jK,if_neg (by decide),if_neg (by decide),if_neg (by decide),if_neg (by decide)]
      rw[hm];rw[bg,if_neg (by decide),if_neg (by decide),if_neg (by decide),if_neg (by decide),if_pos rfl,Bool.and_eq_true,Bool.and_eq_true] at gF
      have vT:=fun q hq=>allT_mem gF.1.1 (q:=q) hq
      have cm:∀j (hj:j<m.length) (W:World) (qv:Value),Q w W→QryAt W m[j] qv→Calls Tryz.prog 30 #[.pointer (some ⟨p,0,none⟩),qv,.slice va t.length vc] W fun e w'=>e=.returned (.int .i64 (jK (wtL ds) m[j] t:Nat))∧Q W w':=fun j hj W qv hq ha =>
       h1 m[j] (List.getElem_mem hj) qv _ t W (yP qC (List.getElem_mem hj)) (by have:=uN (List.getElem_mem hj);omega) ha (Sl.stays gP hq) (eZ.stays hq) vk fI (vT _ (List.getElem_mem hj))
      have cs:∀j (hj:j<sh.length) (W:World) (qv:Value),Q w W→QryAt W sh[j] qv→bg sh[j] t=true→Calls Tryz.prog 30 #[.pointer (some ⟨p,0,none⟩),qv,.slice va t.length vc] W fun e w'=>e=.returned (.int .i64 (jK (wtL ds) sh[j] t:Nat))∧Q W w':=fun j hj W qv hq ha hy =>
       h2 sh[j] (List.getElem_mem hj) qv _ t W (yP rD (List.getElem_mem hj)) (by have:=uN (List.getElem_mem hj);omega) ha (Sl.stays gP hq) (eZ.stays hq) vk fI hy
      have ct:∀j (hj:j<sh.length) (W:World) (qv:Value),Q w W→QryAt W sh[j] qv→Calls Tryz.prog 29 #[qv,.slice va t.length vc] W fun e w'=>e=.returned (.bool (bg sh[j] t))∧Q W w':=fun j hj W qv hq ha =>
       acI sh[j] qv _ t W (yP rD (List.getElem_mem hj)) (by have:=uN (List.getElem_mem hj);omega) ha (Sl.stays gP hq) (by omega) fI
      have dS:∀j,bX (wtL ds) (m.take j) t≤1000*xZ:=fun j=>Nat.le_trans (Zj (wtL ds) OQ t vk (m.take j) (gT qC j)) (Nat.mul_le_mul_right _ (by have:=Yt m j;omega))
      have aO:∀j,DV (wtL ds) (sh.take j) t≤1000*xZ:=fun j=>Nat.le_trans (Zk (wtL ds) OQ t vk (sh.take j) (gT rD j)) (Nat.mul_le_mul_right _ (by have:=Yt sh j;omega))
      have zV:∀q∈m++sh,jK (wtL ds) q t≤1000*xZ:=fun q hq=>by
       have hz:iD q=true∧dh q≤1000:=by
        rcases List.mem_append.1 hq with hq|hq
        ·exact⟨yP qC hq,by have:=uN hq;omega⟩
        ·exact⟨yP rD hq,by have:=uN hq;omega⟩
       exact Nat.le_trans (Jp (wtL ds) OQ t vk q hz.1) (Nat.mul_le_mul_right _ hz.2)
      have hlB:1000*xZ≤1000000000000:=by decide
      have ap7:=sumT_step (wtL ds) m t;have FN:=mayT_step (wtL ds) sh t;have agj:bX (wtL ds) (m.take m.length) t=bX (wtL ds) m t:=by rw[List.take_length]
      have agk:DV (wtL ds) (sh.take sh.length) t=DV (wtL ds) sh t:=by rw[List.take_length]
      generalize ay s=P at *;generalize bX (wtL ds) m t=A at *;generalize DV (wtL ds) sh t=B at *;have X1:=Hd x1;have X2:=Hd x2;have CM:=Hd cm;have CS:=Hd cs;have CT:=Hd ct;have jT:=Hd dS;have eG:=Hd aO;have GN:=Hd zV;have ajs:=Hd ap7;have Bj:=Hd FN;have amz:=Hd agj;have amA:=Hd agk;clear hm hb cph gP fI aqC aqD cww OQ hv h h1 h2 h3 x1 x2 x3 qC rD JJ wB mF eZ gF vT cm cs ct dS aO zV ap7 FN agj agk;go_enter Tryz.func30,Tryz.ntmps30;go_wp2_with fail;refine(Ny.out _).mono ?_;rintro e w1 ⟨pv,rfl,ho,q1⟩;have aC:=Hd (HB.out.trans q1);have u0:=ah q1 k0;have u2:=ah q1 k2;have u3:=ah q1 k3;obtain⟨pa,pc,TY,_⟩:=aT ho;subst TY;clear q1 ho k0 k1 k2 k3 k4 Ny VA VB;go_wp2_with fail;clear u0;go_loopw [11,12] (fun x i wr=>∃j:Nat,j≤m.length∧i=.int .i64 (j:Nat)∧x=.int .i64 (bX (wtL ds) (m.take j) t:Nat)∧Hid (Q w1 wr)) (fun _ i _=>m.length-(intOf i).toNat)
      case atStart=>exact⟨0,by omega,rfl,by rw[List.take_zero,bX];rfl,Q.refl _⟩
      case round =>
       obtain⟨j,hj,rfl,rfl,HQ⟩:=hrel;obtain⟨wo,rfl⟩:∃wo:World,wo=wr:=⟨_,rfl⟩;have y2:=ah HQ.out u2;have l6:=jT.out j;by_cases hlt:j<m.length
       ·have ql:(j:Int)<(m.length:Int):=by omega
        have gY:(0:Int)≤(j:Int):=by omega
        obtain⟨b,off,rfl,He⟩:=X1.out (by omega)
        obtain⟨e0,e1,e2,e3,e4,⟨g0,g1,g2,g3,g4⟩,mF⟩:=He.at j hlt;obtain⟨fk,fs,b1,n1,r1,b2,n2,r2,b3,n3,r3,rfl,rfl,rfl,rfl,rfl⟩:=mF.form;have uy:=aC.out.trans HQ.out;have v0:=ah uy g0;have v1:=ah uy g1;have v2:=ah uy g2;have v3:=ah uy g3;have v4:=ah uy g4;have c:=CM.out j hlt wo _ uy (mF.stays uy);have aI:=ajs.out j hlt;have Lj:=GN.out m[j] (List.mem_append_left _ (List.getElem_mem hlt));generalize jK (wtL ds) m[j] t=a at *;generalize bX (wtL ds) (m.take j) t=x at *;have C:=Hd c;have HS:=Hd aI;clear c aI He mF g0 g1 g2 g3 g4 uy;go_wp2_with fail;refine C.out.mono ?_;rintro e w3 ⟨rfl,q3⟩;have bZ:=Hd (HQ.out.trans q3);clear q3 C v0 v1 v2 v3 v4 y2;go_wp2_with fail;go_roundw;case rel=>exact⟨j+1,by omega,by go_num,by rw[HS.out];go_num,bZ⟩
        case measure=>simp[intOf];omega
       ·have cO:m.length=j:=by omega
        have ha:=amz.out;rw[cO] at ha;rw[ha] at l6 ⊢;have HQm:=Hd HQ.out;have vU:¬(j:Int)<(m.length:Int):=by omega
        clear HQ ha cO;have y3:=ah HQm.out u3;go_wp2_with fail;clear y2 y3;go_loopw [11,13,14] (fun x i _ wr=>∃j:Nat,j≤sh.length∧i=.int .i64 (j:Nat)∧x=.int .i64 ((A+DV (wtL ds) (sh.take j) t:Nat):Int)∧Hid (Q w1 wr)) (fun _ i _ _=>sh.length-(intOf i).toNat)
        case atStart=>exact⟨0,by omega,rfl,by rw[List.take_zero,DV];rfl,HQm.out⟩
        case round =>
         obtain⟨j,hj,rfl,rfl,HQ⟩:=hrel;obtain⟨wo,rfl⟩:∃wo:World,wo=wr:=⟨_,rfl⟩;have y3:=ah HQ.out u3;have l6:=eG.out j;by_cases hlt:j<sh.length
         ·have ql:(j:Int)<(sh.length:Int):=by omega
          have gY:(0:Int)≤(j:Int):=by omega
          obtain⟨b,off,rfl,He⟩:=X2.out (by omega)
          obtain⟨e0,e1,e2,e3,e4,⟨g0,g1,g2,g3,g4⟩,mF⟩:=He.at j hlt;obtain⟨fk,fs,b1,n1,r1,b2,n2,r2,b3,n3,r3,rfl,rfl,rfl,rfl,rfl⟩:=mF.form;have uy:=aC.out.trans HQ.out;have v0:=ah uy g0;have v1:=ah uy g1;have v2:=ah uy g2;have v3:=ah uy g3;have v4:=ah uy g4;have ct:=CT.out j hlt wo _ uy (mF.stays uy);have cs:=fun (W:World) (hq:Q wo W)=>CS.out j hlt W _ (uy.trans hq) (mF.stays (uy.trans hq))
          have aI:=Bj.out j hlt;have Lj:=GN.out sh[j] (List.mem_append_right _ (List.getElem_mem hlt));generalize jK (wtL ds) sh[j] t=a at *;generalize DV (wtL ds) (sh.take j) t=x at *;generalize bg sh[j] t=mb at *;have C:=Hd ct;have CSJ:=Hd cs;have HS:=Hd aI;clear ct cs aI He mF g0 g1 g2 g3 g4 uy;go_wp2_with fail;refine C.out.mono ?_;rintro e w3 ⟨rfl,q3⟩;have bZ:=Hd q3;have y3':=ah q3 y3;have v0':=ah q3 v0;have v1':=ah q3 v1;have v2':=ah q3 v2;have v3':=ah q3 v3;have v4':=ah q3 v4;clear q3 C v0 v1 v2 v3 v4 y3;cases mb with
          | true =>
           have hs:=HS.out;rw[if_pos rfl] at hs;have Ep:=Hd hs;clear hs;go_wp2_with fail;refine(CSJ.out w3 bZ.out (by trivial)).mono ?_
           rintro e w4 ⟨rfl,q4⟩;have pF:=Hd (HQ.out.trans (bZ.out.trans q4));clear q4 y3' v0' v1' v2' v3' v4';go_wp2_with fail;go_roundw;case rel=>exact⟨j+1,by omega,by go_num,by rw[Ep.out];go_num,pF⟩
           case measure=>simp[intOf];omega
          | false =>
           have hs:=HS.out;rw[if_neg (by simp)] at hs
           have Ep:=Hd hs;clear hs y3' v0' v1' v2' v3' v4';go_wp2_with fail;go_roundw;case rel=>exact⟨j+1,by omega,by go_num,by rw[Ep.out];go_num,HQ.out.trans bZ.out⟩
           case measure=>simp[intOf];omega
         ·have cO:sh.length=j:=by omega
          have ha:=amA.out;rw[cO] at ha;rw[ha] at l6 ⊢;have vU:¬(j:Int)<(sh.length:Int):=by omega
          clear cO ha;go_wp2_with fail;go_ret;exact⟨rfl,aC.out.trans HQ.out⟩
theorem hitVs_one(l:List dY):∀u∈tY l,u.oneCell'=true:=by
 intro u hu;obtain⟨d,_,hd⟩:=List.mem_flatMap.1 hu;simp[Fq] at hd;rcases hd with rfl|rfl<;>simp[Value.oneCell']
theorem A9(l:List dY)(k:Nat):(tY l).take (k*2)=tY (l.take k):=by
 induction l generalizing k with
 | nil=>simp[tY]
 | cons x l ih =>
  cases k with
  | zero=>simp[tY]
  | succ k=>rw[List.take_succ_cons,IJ,IJ,show(k+1)*2=k*2+1+1 by omega,List.take_succ_cons,List.take_succ_cons,ih]
theorem Bb(l:List dY)(k:Nat):(tY l).drop (k*2)=tY (l.drop k):=by
 induction l generalizing k with
 | nil=>simp[tY]
 | cons x l ih =>
  cases k with
  | zero=>simp
  | succ k=>rw[List.drop_succ_cons,IJ,show(k+1)*2=k*2+1+1 by omega,List.drop_succ_cons,List.drop_succ_cons,ih]
theorem bO(W:World)(base:Nat)(hb:base≤W.heap.size):(W.alloc (.cells #[] 54)).ownsRow base 54 2 (.slice (some ⟨W.heap.size,0,none⟩) 0 0) 0 (tY []):=⟨rfl,.inr ⟨W.heap.size,0,#[],rfl,hb,heap_alloc_new _ _,Nat.le_refl _,by decide,rfl,rfl⟩⟩
theorem eT(W:World)(A:Obj)(base:Nat)(hb:base≤W.heap.size):((W.alloc A).alloc (.cells #[] 54)).ownsRow base 54 2 (.slice (some ⟨W.heap.size+1,0,none⟩) 0 0) 0 (tY []):=by
 have:=bO (W.alloc A) base (by simp;omega)
 simpa using this
theorem eB{w:World}{g:Nat}{d:dY}{T:TypeId}{fr:Nat×Nat}(h:w.heap[g]?=some (.cells #[ak d.1,.int .i64 (d.2:Nat)] T fr)):Sl w (.slice (some ⟨g,0,none⟩) 1 1) 1 2 (tY [d]):=by
 refine⟨rfl,_,_,rfl,fun _=>⟨g,0,rfl,fun j u hj=>?_⟩⟩
 simp only[World.cell?,h];simpa[tY,Fq] using hj
theorem bL(W0:World){w:World}{ops:Array Oper}{o:Oper}{a:Act}{K:Act→World→Prop}{Qx:Exit→Act→World→Prop}{E:Prop}(uf:o.guard=none)(s x:Operand)
  (ho:o.op=.call { callee:=.builtin .append,args:=#[s,x],argTypes:=#[36,36] })
  (v:Value) (n:Nat) (xs:List dY) (hs:a.eval s=v) (aQ:w.ownsRow W0.heap.size 54 2 v n (tY xs)) (hq:Q W0 w)
  (vx:Value) (m:Nat) (ys:List dY) (hx:a.eval x=vx) (hl:Sl w vx m 2 (tY ys)) (hnm:n+m≤1000000000)
  (h:∀v' w',w'.ownsRow W0.heap.size 54 2 v' (n+m) (tY (xs++ys))→Q W0 w'→(∀g o,w.heap[g]?=some o→v.ownBlock≠some g→w'.heap[g]?=some o)→K (a.put o.dst v') w') :
  if Region.wanted o (yielded ops a.tmps)=true then Oper.wp Tryz.prog o a w K Qx else E:=by
 obtain⟨i0,hi,fJ,eU,fD⟩:=info_parts p8;have hw:Region.wanted o (yielded ops a.tmps)=true:=by simp[Region.wanted,uf]
 rw[if_pos hw];refine zG w s x 36 ho W0.heap.size 54 i0 (.agg #[ak [],.int .i64 0]) 2 24 Tryz.underlying36 hi fJ eU fD rfl (by decide) v n (tY xs) hs aQ vx m (tY ys) hx hl (hitVs_one ys) (by unfold maxLen;omega) (by omega) hq.size ?_
 ·intro v' w' h2 h3 _
  refine h v' w' (by rw[ab4];exact h2) (aL hq aQ h3 (Nat.le_refl _) hq.size) (fun g o hg aF=>(h3.block g (Array.getElem?_eq_some_iff.1 hg).1 (Ne.symm aF)).trans hg)
theorem jN(h:dY):∀(l:List dY) (k:Nat) (hk:k<l.length),k≤PU h l→(pR l[k] h=true↔k+1≤PU h l)
 | [],k,hk,_=>by simp at hk
 | x::l,0,_,_=>by
  rw[PU]
  cases hx:pR x h<;>simp[hx]
 | x::l,k+1,hk,hp=>by
  rw[PU] at hp ⊢
  cases hx:pR x h with
  | false=>rw[hx] at hp;simp at hp
  | true =>
   rw[hx] at hp
   simp only[if_true] at hp ⊢
   have:=jN h l k (by simpa using hk) (by omega)
   rw[List.getElem_cons_succ]
   rw[this]
   omega
theorem tinfoTks:(Tryz.prog.info? 88).map (fun i=>(i.zero,i.size,i.bytes))=some (some (.slice none 0 0),1,24):=by kernel_rfl
def OwnToks(base:Nat)(w:World):List Value→List au→Prop
 | [],_=>True
 | _::_,[]=>False
 | v::vs,d::ds=>w.ownsRow base 129 2 v (aA d.2).length (dF (aA d.2))∧OwnToks base w vs ds
theorem OwnToks.mono{base:Nat}{w w':World}(hm:∀v n xs,w.ownsRow base 129 2 v n xs→w'.ownsRow base 129 2 v n xs):∀{vs:List Value} {ds:List au},OwnToks base w vs ds→OwnToks base w' vs ds
 | [],_,_=>trivial
 | _::_,[],h=>h
 | _::_,_::_,⟨h1,h2⟩=>⟨hm _ _ _ h1,OwnToks.mono hm h2⟩
theorem OwnToks.snoc{base:Nat}{w:World}{v:Value}{d:au}(h1:w.ownsRow base 129 2 v (aA d.2).length (dF (aA d.2))):∀{vs:List Value} {ds:List au},vs.length=ds.length→OwnToks base w vs ds→OwnToks base w (vs++[v]) (ds++[d])
 | [],[],_,_=>⟨h1,trivial⟩
 | [],_::_,hl,_=>by simp at hl
 | _::_,[],hl,_=>by simp at hl
 | _::_,_::_,hl,⟨a,b⟩=>⟨a,OwnToks.snoc h1 (by simpa using hl) b⟩
theorem OwnToks.at{base:Nat}{w:World}:∀{vs:List Value} {ds:List au},OwnToks base w vs ds→∀(j:Nat) (h1:j<vs.length) (h2:j<ds.length),Toks w vs[j] (aA ds[j].2)
 | [],_,_,j,h1,_=>by simp at h1
 | _::_,[],h,_,_,_=>h.elim
 | _::_,_::_,⟨a,b⟩,0,_,_=>Sl.of_owns a
 | _::vs,_::ds,⟨a,b⟩,j+1,h1,h2=>OwnToks.at b j (by simpa using h1) (by simpa using h2)
theorem qset2{A B:World}(h:Q A B){g:Nat}(hg:A.heap.size≤g){x y:Value}:Q A ((B.setCell ⟨g,0,none⟩ x).setCell ⟨g,1,none⟩ y):=(h.setCell (a:=⟨g,0,none⟩) hg x).setCell (a:=⟨g,1,none⟩) hg y
theorem bset2{B:World}{g:Nat}{t:TypeId}{a b x y:Value}(h:Blk B g t #[a,b]):((B.setCell ⟨g,0,none⟩ x).setCell ⟨g,1,none⟩ y).heap[g]?=some (.cells #[x,y] t (0,0)):=(h.set 0 x).set 1 y
theorem eight18{w w':World}(q:Q w w'){a0 a1 a2 a3 a4 a5 a6 a7:Addr}{v0 v1 v2 v3 v4 v5 v6 v7:Value}(h0:w.cell? a0=some v0)(h1:w.cell? a1=some v1)(h2:w.cell? a2=some v2)(h3:w.cell? a3=some v3)(h4:w.cell? a4=some v4)(h5:w.cell? a5=some v5)(h6:w.cell? a6=some v6)(h7:w.cell? a7=some v7):
  w'.cell? a0=some v0∧w'.cell? a1=some v1∧w'.cell? a2=some v2∧w'.cell? a3=some v3∧w'.cell? a4=some v4∧w'.cell? a5=some v5∧w'.cell? a6=some v6∧w'.cell? a7=some v7 :=
 ⟨ah q h0,ah q h1,ah q h2,ah q h3,ah q h4,ah q h5,ah q h6,ah q h7⟩
theorem Bp(dv qv:Value)(ds:List au)(q:QL)(w:World)(JF:Docs w dv ds)(hn:ds.length≤6000)(hd:∀d∈ds,d.2.length≤2000)(hq:QryAt w q qv)(wB:iD q=true)(aY:dh q≤100):
  Calls Tryz.prog 10 #[dv,qv] w fun e w'=>∃v,e=.returned v∧Hits w' v (bA ds q)∧Q w w':=by
 have mF:=hq;obtain⟨k,s,m,sh,n,hqe⟩:∃k s m sh n,q=.mk k s m sh n:=by cases q;exact⟨_,_,_,_,_,rfl⟩
 rw[hqe] at hq;obtain⟨vm,vs,vn,hqv,⟨a1,p1,e1,x1⟩,⟨a2,p2,e2,x2⟩,⟨a3,p3,e3,x3⟩⟩:=hq.open;subst e1;subst e2;subst e3;subst hqv;obtain⟨da,dc,amB,QY⟩:=JF.value;subst amB;have dS:=Q.alloc w (.cells #[.int .i64 k,ak s,.slice a1 m.length p1,.slice a2 sh.length p2,.slice a3 n.length p3] 25);have g1:=Blk.new w 25 #[.int .i64 k,ak s,.slice a1 m.length p1,.slice a2 sh.length p2,.slice a3 n.length p3];generalize m.length=ml at *;generalize sh.length=sl at *;generalize n.length=nl at *;have aO:=Q.alloc (w.alloc (.cells #[.int .i64 k,ak s,.slice a1 ml p1,.slice a2 sl p2,.slice a3 nl p3] 25)) (.cells #[.slice da ds.length dc,.slice none 0 0] 87);have g2:Blk ((w.alloc (.cells #[.int .i64 k,ak s,.slice a1 ml p1,.slice a2 sl p2,.slice a3 nl p3] 25)).alloc (.cells #[.slice da ds.length dc,.slice none 0 0] 87)) (w.heap.size+1) 87 #[.slice da ds.length dc,.slice none 0 0]:=by
  have:=Blk.new (w.alloc (.cells #[.int .i64 k,ak s,.slice a1 ml p1,.slice a2 sl p2,.slice a3 nl p3] 25)) 87 #[.slice da ds.length dc,.slice none 0 0];rwa [World.size_alloc] at this
 have Ou:((w.alloc (.cells #[.int .i64 k,ak s,.slice a1 ml p1,.slice a2 sl p2,.slice a3 nl p3] 25)).alloc (.cells #[.slice da ds.length dc,.slice none 0 0] 87)).heap.size=w.heap.size+2:=by simp
 have G1:=Hd (g1.stays aO);have G2:=Hd g2;have HB:=Hd (dS.trans aO);have HQ:=Hd mF;have Mj:=Hd QY;have amC:=Hd JF;have HD:=Hd hd;have RF:=Hd wB;have AB:=Hd aY;obtain⟨i0,hi,fJ,eU,fD⟩:=info_parts tinfoTks;clear mF hq JF QY hd wB aY hqe x1 x2 x3 dS aO g1 g2;have pz:Tryz.prog.follows .mixedOrders=true:=by kernel_rfl
 go_enter Tryz.func10,Tryz.ntmps10;go_wp2_with fail;generalize (w.alloc (.cells #[.int .i64 k,ak s,.slice a1 ml p1,.slice a2 sl p2,.slice a3 nl p3] 25)).alloc (.cells #[.slice da ds.length dc,.slice none 0 0] 87)=wb at *;generalize hX:w.heap.size=X at *;go_loopw [6,7] (fun i _ wr=>∃(j:Nat) (vs:List Value) (tv:Value),j≤ds.length∧i=.int .i64 (j:Nat)∧vs.length=j∧X+2≤wr.heap.size∧Hid (Blk wr (X+1) 87 #[.slice da ds.length dc,tv])∧Hid (wr.ownsRow (X+2) 88 1 tv j vs)∧Hid (OwnToks (X+2) wr vs (ds.take j))∧Hid (Q w wr)∧Hid (Blk wr X 25 #[.int .i64 k,ak s,.slice a1 ml p1,.slice a2 sl p2,.slice a3 nl p3])) (fun i _ _=>ds.length-(intOf i).toNat)
 case atStart=>exact⟨0,[],.slice none 0 0,by omega,rfl,rfl,by omega,G2.out,World.ownsRow_nil _ _ _ _,trivial,HB.out,G1.out⟩
 case round =>
  obtain⟨j,vs,tv,hj,rfl,Dp,Ld,eG,HR,HT,HQj,HG⟩:=hrel;obtain⟨wo,rfl⟩:∃wo:World,wo=wr:=⟨_,rfl⟩;have pE:=Hd Dp;clear Dp;obtain⟨k0,k1,_,f1⟩:=eG.out.c2;by_cases hlt:j<ds.length
  ·obtain⟨b,off,rfl,bC⟩:=Mj.out (by omega)
   have d1:=ah HQj.out (bC j hlt).2;have ql:(j:Int)<(ds.length:Int):=by omega
   have gY:(0:Int)≤(j:Int):=by omega
   have ku:=HD.out ds[j] (List.getElem_mem hlt);have SG:ds.take (j+1)=ds.take j++[ds[j]]:=List.take_succ_eq_append_getElem hlt;have ctk:=Gh ds[j].2 wo (by omega)
   have atI:(ds.take j).length=j:=by rw[List.length_take];omega
   generalize ds[j]=d at *;obtain⟨did,dtx⟩:=d;simp only at d1 ctk ku;have CTK:=Hd ctk;have agB:=Hd SG;have amD:=Hd atI;clear ctk bC SG atI;go_wp2_with fail;refine CTK.out.mono ?_;rintro e w2 ⟨kv,rfl,hko,q2⟩;obtain⟨ka,kc,hkv,_⟩:=aT hko;subst hkv;have aO:=eG.out.stays q2;have jG:=ownsRow_below HR.out q2;have JD:=OwnToks.mono (fun v n xs h=>ownsRow_below h q2) HT.out
   have agn:=dO hko Ld;obtain⟨ta,tc,Rb,_⟩:=aT jG;subst Rb;have vV:=HG.out.stays q2;obtain⟨c0,c1,_,f1⟩:=aO.c2;have amE:X+2≤w2.heap.size:=Nat.le_trans Ld q2.size;have iZ:=Hd aO;have I6:=Hd JD;have HKO:=Hd agn;have Mr:=Hd vV;have bZ:=Hd (HQj.out.trans q2);generalize lq:(aA dtx).length=kn at *;have HKN:=Hd lq;clear hko agn aO JD vV q2 eG HR HT HQj HG CTK lq d1;go_wp2_with (at_builtin;go_must (refine cZ w2 (by rfl) _ _ 85 (by rfl) (X+2) 88 _ i0 (.slice none 0 0) 1 24 Tryz.underlying85 hi fJ eU fD rfl (by decide) (by decide) _ _ _ (by rfl) jG #[.slice ka kn kc] (by simp[Act.eval]) rfl ?c1 ?c2 amE ?_))
   case c1=>simp[Value.oneCell']
   case c2=>omega
   intro g6 cap6 w6 aQ hg lN uz tq;have zl:=lW iZ.out jG hg (by decide)
   have dB:=lW Mr.out jG hg (by decide)
   have hq6:Q w w6:=aL bZ.out jG hg (by omega) (by omega)
   have ht6:=OwnToks.mono (fun v n xs h=>iW h jG hg (by decide)) I6.out
   have hk6:=iW HKO.out jG hg (by decide)
   obtain⟨c0,c1,f0,f1⟩:=zl.c2;have zV:∀(V:World) v n xs,V=w6.setCell ⟨X+1,1,none⟩ (.slice (some ⟨g6,0,none⟩) (j+1) cap6)→w6.ownsRow (X+2) 129 2 v n xs→V.ownsRow (X+2) 129 2 v n xs:=fun V v n xs e h=>by subst e;exact ownsRow_setCell_below h (by simp) _
   have HV:=Hd (OwnToks.snoc (v:=.slice ka kn kc) (d:=(did,dtx)) (by show World.ownsRow _ _ _ _ _ (aA dtx).length _;rw[HKN.out];exact hk6) (by rw[pE.out,amD.out]) ht6)
   have zQ:=Hd zV;have tO:=Hd (ownsRow_setCell_below aQ (a:=⟨X+1,1,none⟩) (by simp) (.slice (some ⟨g6,0,none⟩) (j+1) cap6))
   have vY:=Hd (zl.set 1 (.slice (some ⟨g6,0,none⟩) (j+1) cap6));have HG7:=Hd (Blk.other dB ⟨X+1,1,none⟩ (.slice (some ⟨g6,0,none⟩) (j+1) cap6) (by simp))
   have ny:=Hd (hq6.setCell (a:=⟨X+1,1,none⟩) (by simp;omega) (.slice (some ⟨g6,0,none⟩) (j+1) cap6))
   clear zl dB hq6 ht6 hk6 zV aQ hg jG iZ Mr bZ I6 HKO k0 k1;go_wp2_with fail;go_roundw;case rel=>exact⟨j+1,vs++[Value.slice ka kn kc],.slice (some ⟨g6,0,none⟩) (j+1) cap6,by omega,by go_num,by simp[pE.out],by simp;omega,vY.out,tO.out,by rw[agB.out];exact OwnToks.mono (fun v n xs h=>zQ.out _ v n xs rfl h) HV.out,ny.out,HG7.out⟩
   case measure=>simp[intOf];omega
  ·have qh:j=ds.length:=by omega
   subst qh;have gU:TokRows wo tv ds:=by
    obtain⟨ta,tc,Rb,QK⟩:=aT HR.out;subst Rb;refine⟨ta,tc,rfl,fun hp=>?_⟩
    obtain⟨g,rfl⟩:=QK hp;refine⟨g,0,rfl,fun m hm=>?_⟩
    have Nz:m<vs.length:=by rw[pE.out];exact hm
    refine⟨vs[m],?_,?_⟩
    ·have h:=(Sl.of_owns HR.out).2
     obtain⟨a',c',hv,hc⟩:=h;obtain⟨b,off,hb,bC⟩:=hc (by omega)
     cases hv;cases hb;exact bC m _ (List.getElem?_eq_getElem Nz)
    ·have h:=OwnToks.at HT.out m Nz (by rw[List.length_take];omega)
     simpa using h
   have eZ:Wld wo (X+1) ds:=⟨⟨da,dc,k0⟩,tv,k1,gU⟩;obtain⟨q0,q1,q2,q3,q4⟩:=HG.out.c5;have Ux:Docs wo (.slice da ds.length dc) ds:=amC.out.stays HQj.out;have HWD:=Hd eZ;have qV:=Hd gU;have Er:=Hd Ux;have aC:=Hd HQj.out;have HQY:=Hd (HQ.out.stays HQj.out);have Q0:=Hd q0;have Q1:=Hd q1;have Q2:=Hd q2;have Q3:=Hd q3;have Q4:=Hd q4;have K1:=Hd k1;have K0:=Hd k0;clear eZ gU Ux HR HT pE HQj HG q0 q1 q2 q3 q4 k0 k1 f1 eG G1 G2 HB HQ;go_wp2_with fail;obtain⟨W1,Qp⟩:∃W1:World,W1=wo:=⟨_,rfl⟩;rw[←Qp] at HWD qV Er aC HQY Q0 Q1 Q2 Q3 Q4 K1 K0;go_loopw [8,9] (fun ov iv wr=>∃(m:Nat),m≤ds.length∧iv=.int .i64 (m:Nat)∧Hid (wr.ownsRow W1.heap.size 54 2 ov (d9 (wtL ds) q (ds.take m)).length (tY (d9 (wtL ds) q (ds.take m))))∧Hid (Q W1 wr)) (fun _ iv _=>ds.length-(intOf iv).toNat)
   case atStart=>exact⟨0,by omega,rfl,World.ownsRow_nil _ _ _ _,by subst Qp;exact Q.refl _⟩
   case round =>
    obtain⟨m,hm,rfl,HR,HQm⟩:=hrel;obtain⟨wi,rfl⟩:∃wi:World,wi=wr:=⟨_,rfl⟩;by_cases CJ:m<ds.length
    ·obtain⟨b,off,amF,Q8⟩:=Mj.out (by omega)
     subst amF;obtain⟨ta,tc,Rb,Z4⟩:=qV.out;subst Rb;obtain⟨tb,toff,vQ,QK⟩:=Z4 (by omega)
     subst vQ;obtain⟨kv,c0,ktk⟩:=QK m CJ;have SG:ds.take (m+1)=ds.take m++[ds[m]]:=List.take_succ_eq_append_getElem CJ;have d0:=ah (aC.out.trans HQm.out) (Q8 m CJ).1;have ku:=HD.out ds[m] (List.getElem_mem CJ);have Fy:=putH_snoc (wtL ds) q (ds.take m) ds[m];rw[←SG] at Fy;have aD:=putH_len (wtL ds) q (ds.take m);rw[List.length_take] at aD;have ql:(m:Int)<(ds.length:Int):=by omega
     have gY:(0:Int)≤(m:Int):=by omega
     have nE:=afU ds[m].2 ku;have hho:=@WH (wtL ds) q ds[m];have hhn:=@ahC (wtL ds) q ds[m];have cms:=fun (W':World) (hq:Q W1 W')=>acI q _ kv (aA ds[m].2) W' RF.out (by have:=AB.out;omega) (HQY.out.stays hq) (Sl.stays ktk hq) nE.1 nE.2
     have csc:=fun (W':World) (hq:Q W1 W')=>Fw (X+1) ds (by omega) HD.out q _ kv (aA ds[m].2) W' RF.out (by have:=AB.out;omega) (HQY.out.stays hq) (Sl.stays ktk hq) (HWD.out.stays hq) (by have:=(lM ds[m].2 ku).1;omega) nE.2
     obtain⟨ka,kc,hkv,hkx⟩:=ktk.value;clear hkx;subst hkv;generalize ds[m]=d at *;obtain⟨did,dtx⟩:=d;simp only at d0 cms csc hho hhn;have jS:=HQm.out;have U0:=Hd (ah jS Q0.out);have U1:=Hd (ah jS Q1.out);have U2:=Hd (ah jS Q2.out);have U3:=Hd (ah jS Q3.out);have U4:=Hd (ah jS Q4.out);have U5:=Hd (ah jS K1.out);have U6:=Hd (ah jS c0);have U7:=Hd d0;have u0:=U0.out;have u1:=U1.out;have u2:=U2.out;have u3:=U3.out;have u4:=U4.out;have u5:=U5.out;have u6:=U6.out;have u7:=U7.out;have KK:=Hd (Q.refl wi);have CMS:=Hd cms;have CSC:=Hd csc;have HHO:=Hd hho;have HHN:=Hd hhn;have HSN:=Hd Fy;have Ii:=Hd aD;clear cms csc hho hhn Fy aD jS c0 d0 Q8 QK Z4 ktk nE ku SG;generalize (aA dtx).length=kn at *;go_wp2_with fail;go_region_held3 (fun w'=>w'.cell? ⟨X,0,none⟩=some (.int .i64 k)∧w'.cell? ⟨X,1,none⟩=some (ak s)∧w'.cell? ⟨X,2,none⟩=some (.slice a1 ml p1)∧w'.cell? ⟨X,3,none⟩=some (.slice a2 sl p2)∧w'.cell? ⟨X,4,none⟩=some (.slice a3 nl p3)∧w'.cell? ⟨X+1,1,none⟩=some (.slice (some ⟨tb,toff,none⟩) ds.length tc)∧w'.cell? ⟨tb,toff+m,none⟩=some (.slice ka kn kc)∧w'.cell? ⟨b,off+m*2,none⟩=some (ak did))
      (first|exact⟨u0,u1,u2,u3,u4,u5,u6,u7⟩|exact eight18 (by repeat (first|with_reducible exact KK.out|with_reducible apply Qt.al0|with_reducible apply Qt.dr0)) U0.out U1.out U2.out U3.out U4.out U5.out U6.out U7.out)
      (first|(go_at_call 29;refine(CMS.out _ (HQm.out.trans (by repeat (first|with_reducible exact KK.out|with_reducible apply Qt.al0|with_reducible apply Qt.dr0)))).mono ?_;rintro e w12 ⟨rfl,q12⟩;have s':Q wi w12:=Q.trans (by repeat (first|with_reducible exact KK.out|with_reducible apply Qt.al0|with_reducible apply Qt.dr0)) q12;clear KK;have KK:=Hd s';clear s' q12))
     have ow:Q wi _:=(by repeat (first|with_reducible exact KK.out|with_reducible apply Qt.al0|with_reducible apply Qt.dr0))
     have HQn:=Hd ow;have Rs:=Hd (ownsRow_below HR.out ow);clear ow KK HR CMS;cases gF:bg q (aA dtx) with
     | false =>
      have gN:=HSN.out;rw[HHN.out gF] at gN;have Rv:=Hd gN;clear gN gF HSN HHN HHO CSC u0 u1 u2 u3 u4 u5 u6 u7;go_wp2_with fail;go_roundw;case rel=>exact⟨m+1,by omega,by go_num,by show World.ownsRow _ _ _ _ _ _ _;rw[Rv.out];exact Rs.out,HQm.out.trans HQn.out⟩
      case measure=>simp[intOf];omega
     | true =>
      have gN:=HSN.out;rw[HHO.out gF] at gN;simp only at gN;have csc:=fun (W':World) (hq:Q W1 W')=>CSC.out W' hq gF
      have Rv:=Hd gN;have amG:=Hd csc;have u0:=ah HQn.out U0.out;have u1:=ah HQn.out U1.out;have u2:=ah HQn.out U2.out;have u3:=ah HQn.out U3.out;have u4:=ah HQn.out U4.out;have u5:=ah HQn.out U5.out;have u6:=ah HQn.out U6.out;have u7:=ah HQn.out U7.out;clear U0 U1 U2 U3 U4 U5 U6 U7;have U0:=Hd u0;have U1:=Hd u1;have U2:=Hd u2;have U3:=Hd u3;have U4:=Hd u4;have U5:=Hd u5;have U6:=Hd u6;have U7:=Hd u7;clear gN csc gF HSN HHN HHO CSC;generalize jK (wtL ds) q (aA dtx)=sc at *;generalize d9 (wtL ds) q (ds.take m)=xs at *;have KK:=Hd (Q.refl w12);have HQw:=Hd (HQm.out.trans HQn.out);go_upto_region 13 with fail;go_cut [11] from 38 to 118 (fun hv wx=>∃H:Nat,hv=.pointer (some ⟨H,0,none⟩)∧w12.heap.size≤H∧Hid (Q w12 wx)∧Hid (wx.heap[H]?=some (.cells #[ak did,.int .i64 sc] 54 (0,0))))
      case first =>
       go_region_held3 (fun w'=>w'.cell? ⟨X,0,none⟩=some (.int .i64 k)∧w'.cell? ⟨X,1,none⟩=some (ak s)∧w'.cell? ⟨X,2,none⟩=some (.slice a1 ml p1)∧w'.cell? ⟨X,3,none⟩=some (.slice a2 sl p2)∧w'.cell? ⟨X,4,none⟩=some (.slice a3 nl p3)∧w'.cell? ⟨X+1,1,none⟩=some (.slice (some ⟨tb,toff,none⟩) ds.length tc)∧w'.cell? ⟨tb,toff+m,none⟩=some (.slice ka kn kc)∧w'.cell? ⟨b,off+m*2,none⟩=some (ak did))
        (first|exact⟨u0,u1,u2,u3,u4,u5,u6,u7⟩|exact eight18 (by repeat (first|with_reducible exact KK.out|with_reducible refine qset2 ?_ (Nat.le_refl _)|with_reducible apply Qt.al0|with_reducible apply Qt.dr0)) U0.out U1.out U2.out U3.out U4.out U5.out U6.out U7.out)
        (first|(go_at_call 30;refine(amG.out _ (HQw.out.trans (by repeat (first|with_reducible exact KK.out|with_reducible apply Qt.al0|with_reducible apply Qt.dr0)))).mono ?_;rintro e w13 ⟨rfl,q13⟩;have s':Q w12 w13:=Q.trans (by repeat (first|with_reducible exact KK.out|with_reducible apply Qt.al0|with_reducible apply Qt.dr0)) q13;(try (have zb:=(Blk.new _ 54 #[.string ⟨#[]⟩,.int .i64 0]).stays q13;have ZB:=Hd zb;obtain⟨zb0,zb1,zf0,zf1⟩:=zb.c2));(try (have zb:=(Blk.new _ 54 #[.string ⟨#[]⟩,.int .i64 0]).stays ((Q.drew _).trans q13);have ZB:=Hd zb;obtain⟨zb0,zb1,zf0,zf1⟩:=zb.c2));clear KK;have KK:=Hd s';clear s' q13))
       ·have Rc:=KK.out.size
        go_wp2_with fail;go_meet;case rel=>exact⟨_,rfl,Rc,Qt.al0 KK.out _,World.alloc_heap_new _ _⟩
       ·have Rc:=qset2 (x:=ak did) (y:=.int .i64 sc) KK.out (Nat.le_refl _)
        have Ef:=bset2 (x:=ak did) (y:=.int .i64 sc) ZB.out;go_wp2_with fail;go_meet;case rel=>exact⟨_,rfl,Nat.le_refl _,Rc,Ef⟩
      case rest =>
       obtain⟨H,rfl,hH,ad3,HHB⟩:=hcut;have aQ:=ownsRow_below Rs.out ad3.out;have bY:Hits wc u8 xs:=Sl.of_owns aQ;obtain⟨oa,oc,hov,Rm⟩:=bY.value;subst hov;obtain⟨aaX,amm⟩:=o8 aQ;have XK:(oa=none∧oc=0∧xs.length=0)∨∃g,oa=some ⟨g,0,none⟩:=by
        rcases aQ.2 with ⟨hv,hn⟩|⟨g,cap,cur,hv,_⟩
        ·injection hv with e1 e2 e3;exact .inl ⟨e1,e3,e2⟩
        ·injection hv with e1 e2 e3;exact .inr ⟨g,e1⟩
       obtain⟨y0,y1⟩:=bN HHB.out;have arx:=placeH_le (did,sc) xs;have gH:=jN (did,sc) xs;have Y0:=Hd y0;have Y1:=Hd y1;have yG:=Hd bY;have l8:=Hd Rm;have amH:=Hd gH;have HQC:=Hd (HQw.out.trans ad3.out);have rE:xs.length≤6000:=by have:=Ii.out;omega
       clear aQ bY Rm y0 y1 gH Rs KK Ii;go_wp2_with fail;go_loopw [12] (fun i wr=>∃j3:Nat,j3≤PU (did,sc) xs∧i=.int .i64 (j3:Nat)∧Hid (Q wc wr)) (fun i _=>xs.length-(intOf i).toNat)
       case atStart=>exact⟨0,by omega,rfl,Q.refl _⟩
       case round =>
        obtain⟨j3,hj3,rfl,bZ⟩:=hrel;obtain⟨w3,rfl⟩:∃w3:World,w3=wr:=⟨_,rfl⟩;have jO:(0:Int)≤(j3:Int):=by omega
        go_upto_region 15 with fail;go_cut [104] from 71 to 106 (fun cv wx=>∃tb:Bool,cv=.bool tb∧Hid (tb=true↔j3+1≤PU (did,sc) xs)∧Hid (Q wc wx))
        case first =>
         have z0:=ah bZ.out Y0.out;have z1:=ah bZ.out Y1.out;by_cases AJ:j3<xs.length
         ·obtain⟨bb,oo,mU,bC⟩:=l8.out (by omega)
          subst mU;have c0:=ah bZ.out (bC j3 AJ).1;have c1:=ah bZ.out (bC j3 AJ).2;have gH:=amH.out j3 AJ hj3;have ayi:(j3:Int)<(xs.length:Int):=by omega
          have JE:decide (j3<xs.length)=true:=decide_eq_true AJ;generalize xs[j3]=x at *;obtain⟨xid,xsc⟩:=x;simp only at c0 c1;clear bC;by_cases dS:sc<xsc
          ·have k1:(sc:Int)<(xsc:Int):=by omega
           have hgo:pR (xid,xsc) (did,sc)=true:=by unfold pR;simp[dS]
           have XE:=Hd (gH.1 hgo);have k6:decide (sc<xsc)=true:=decide_eq_true dS;have k7:decide ((sc:Int)<(xsc:Int))=true:=decide_eq_true k1;clear gH hgo;go_wp2_with fail;go_quiet (fail);go_wp2_with fail;go_meet;case rel=>exact⟨true,rfl,⟨fun _=>XE.out,fun _=>rfl⟩,bZ.out.trans (Q.drewN _ _)⟩
          ·have k1:¬(sc:Int)<(xsc:Int):=by omega
           have k6:decide (sc<xsc)=false:=decide_eq_false dS;have k7:decide ((sc:Int)<(xsc:Int))=false:=decide_eq_false k1;by_cases aO:xsc=sc
           ·subst aO
            by_cases jJ:xid<did
            ·have hgo:pR (xid,xsc) (did,xsc)=true:=by unfold pR;simp[jJ]
             have XE:=Hd (gH.1 hgo);have hb:Op.bytesLess xid did=true:=ab3 jJ;clear gH hgo jJ;go_wp2_with fail;go_quiet (fail);go_wp2_with fail;go_meet;case rel=>exact⟨true,rfl,⟨fun _=>XE.out,fun _=>rfl⟩,bZ.out.trans (Q.drewN _ _)⟩
            ·have hgo:¬pR (xid,xsc) (did,xsc)=true:=by unfold pR;simp[jJ]
             have XE:=Hd (fun h=>hgo (gH.2 h))
             have hb:Op.bytesLess xid did=false:=less_no jJ;clear gH hgo jJ;go_wp2_with fail;go_quiet (fail);go_wp2_with fail;go_meet;case rel=>exact⟨false,rfl,⟨(fun h=>by cases h),fun h=>(XE.out h).elim⟩,bZ.out.trans (Q.drewN _ _)⟩
           ·have hgo:¬pR (xid,xsc) (did,sc)=true:=by unfold pR;simp[dS,aO]
            have XE:=Hd (fun h=>hgo (gH.2 h))
            have k2:((xsc:Int)==(sc:Int))=false:=by simp;omega
            have k3:¬(xsc:Int)=(sc:Int):=by omega
            clear gH hgo;go_wp2_with fail;go_quiet (fail);go_wp2_with fail;go_meet;case rel=>exact⟨false,rfl,⟨(fun h=>by cases h),fun h=>(XE.out h).elim⟩,bZ.out.trans (Q.drewN _ _)⟩
         ·have ayi:¬(j3:Int)<(xs.length:Int):=by omega
          have JE:decide (j3<xs.length)=false:=decide_eq_false AJ;have XE:=Hd (show ¬j3+1≤PU (did,sc) xs by omega)
          go_wp2_with fail;go_quiet (fail);go_wp2_with fail;go_meet;case rel=>exact⟨false,rfl,⟨(fun h=>by cases h),fun h=>(XE.out h).elim⟩,bZ.out.trans (Q.drewN _ _)⟩
        case rest =>
         obtain⟨tb,rfl,gM,pF⟩:=hcut;cases tb with
         | true =>
          have kR:=gM.out.1 rfl;clear gM;go_wp2_with fail;go_roundw;case rel=>exact⟨j3+1,kR,by go_num,pF.out⟩
          case measure=>simp[intOf];omega
         | false =>
          have qh:j3=PU (did,sc) xs:=by
           have:=gM.out.2;by_cases h:j3+1≤PU (did,sc) xs
           ·exact absurd (this h) (by simp)
           ·omega
          clear gM bZ;have agv:xs.take j3++(did,sc)::xs.drop j3=d9 (wtL ds) q (ds.take (m+1)):=by rw[Rv.out,qh];rfl
          have agw:=Hd agv;have ayi:(j3:Int)≤(xs.length:Int):=by omega
          have ayj:(j3:Int)≤(oc:Int):=by omega
          have Dw:(xs.length:Int)≤(oc:Int):=by omega
          clear agv;go_wp2_with fail;refine Dj (wo:=wc) (Q.refl _) (fun W kF=>?_)
          have y0:=ah (pF.out.trans kF) Y0.out;have y1:=ah (pF.out.trans kF) Y1.out;have Bc:∀V,Q W V→Hits V (.slice oa xs.length oc) xs:=fun V q=>Sl.stays yG.out ((pF.out.trans kF).trans q)
          have dR:∀(v:Value) (V:World),V.ownsRow W.heap.size 54 2 v (0+j3+1+(xs.length-j3)) (tY ([]++xs.take j3++[(did,sc)]++xs.drop j3))→V.ownsRow W1.heap.size 54 2 v (d9 (wtL ds) q (ds.take (m+1))).length (tY (d9 (wtL ds) q (ds.take (m+1)))):=fun v V h=>by
           have e:[]++xs.take j3++[(did,sc)]++xs.drop j3=d9 (wtL ds) q (ds.take (m+1)):=by rw[←agw.out];simp
           rw[e] at h;have e2:0+j3+1+(xs.length-j3)=(d9 (wtL ds) q (ds.take (m+1))).length:=by rw[←agw.out];simp;omega
           rw[e2] at h;exact dO h ((HQC.out.trans (pF.out.trans kF)).size)
          have oV:=Hd dR;have xO:=Hd (HQC.out.trans (pF.out.trans kF));have xe0:=ah (Q.alloc W (.cells #[] 54)) y0;have xe1:=ah (Q.alloc W (.cells #[] 54)) y1;clear dR kF qh u0 u1 u2 u3 u4 u5 u6 u7;rcases XK with ⟨h1,h2,h3⟩|⟨g,h1⟩
          ·subst h1
           subst h2;have Ql:xs=[]:=List.eq_nil_of_length_eq_zero h3;subst Ql;obtain rfl:j3=0:=by simp at ayi;omega
           have sl1:∀V,Q W V→Sl V (.slice none 0 0) 0 2 (tY (([]:List dY).take 0)):=fun V q=>Jc V _ _ _
           have sl2:∀V (c:Nat),Q W V→Sl V (.slice none 0 0) 0 2 (tY (([]:List dY).drop 0)):=fun V c q=>Jc V _ _ _
           have vC:=Hd sl1;have Iu:=Hd sl2;clear sl1 sl2 Bc;go_region_law
            (first
             | (refine bL W (by rfl) _ _ (by rfl) (.slice (some ⟨W.heap.size,0,none⟩) 0 0) 0 [] (by rfl) (by first|exact bO W _ (Nat.le_refl _)|exact aX (bO W _ (Nat.le_refl _))|exact bF _ (bO W _ (Nat.le_refl _))|exact aX (bF _ (bO W _ (Nat.le_refl _)))) (by repeat (first|with_reducible exact Q.refl _|with_reducible refine Q.trans ?_ (Q.drew _)|with_reducible refine Q.trans ?_ (Q.alloc _ _))) _ 0 (([]:List dY).take 0) (by rfl) (vC.out _ (by repeat (first|with_reducible exact Q.refl _|with_reducible refine Q.trans ?_ (Q.drew _)|with_reducible refine Q.trans ?_ (Q.alloc _ _)))) (by omega) ?_;intro va wa ha qa ka;have xa0:=ah qa y0;have xa1:=ah qa y1;have HA:=Hd ha;have QA:=Hd qa;have KA:=Hd ka;clear ha qa ka)
             | (refine bL W (by rfl) _ _ (by rfl) (.slice (some ⟨W.heap.size+1,0,none⟩) 0 0) 0 [] (by rfl) (by first|exact eT W _ _ (Nat.le_refl _)|exact aX (eT W _ _ (Nat.le_refl _))) (by repeat (first|with_reducible exact Q.refl _|with_reducible refine Q.trans ?_ (Q.drew _)|with_reducible refine Q.trans ?_ (Q.alloc _ _))) _ 0 (([]:List dY).take 0) (by rfl) (vC.out _ (by repeat (first|with_reducible exact Q.refl _|with_reducible refine Q.trans ?_ (Q.drew _)|with_reducible refine Q.trans ?_ (Q.alloc _ _)))) (by omega) ?_;intro va wa ha qa ka;have xa0:=ah qa y0;have xa1:=ah qa y1;have HA:=Hd ha;have QA:=Hd qa;have KA:=Hd ka;clear ha qa ka)
             | (refine bL W (by rfl) _ _ (by rfl) va (0+0) ([]++([]:List dY).take 0) (by rfl) (by first|exact HA.out|exact aX HA.out|exact bF _ HA.out|exact aX (bF _ HA.out)) (by first|exact QA.out|exact QA.out.trans (Q.drew _)|exact QA.out.trans (Q.alloc _ _)|exact(QA.out.trans (Q.alloc _ _)).trans (Q.drew _)) (.slice (some ⟨wa.heap.size,0,none⟩) 1 1) 1 [(did,sc)] (by rfl) (by exact eB (World.alloc_heap_new _ _)) (by omega) ?_;intro vb wb2 aO qb kb;have eG:=Hd aO;have QB:=Hd qb;clear aO qb kb)
             | (refine bL W (by rfl) _ _ (by rfl) va (0+0) ([]++([]:List dY).take 0) (by rfl) (by first|exact HA.out|exact aX HA.out|exact bF _ HA.out|exact aX (bF _ HA.out)) (by first|exact QA.out|exact QA.out.trans (Q.drew _)|exact QA.out.trans (Q.alloc _ _)|exact(QA.out.trans (Q.alloc _ _)).trans (Q.drew _)) (.slice (some ⟨W.heap.size+1,0,none⟩) 1 1) 1 [(did,sc)] (by rfl) (by exact eB (KA.out _ _ (yS W (.cells #[] 54) (.cells #[ak (did,sc).1,.int .i64 ((did,sc).2:Nat)] 54)) (by simp[Value.ownBlock]))) (by omega) ?_;intro vb wb2 aO qb kb;have eG:=Hd aO;have QB:=Hd qb;clear aO qb kb)
             | (refine bL W (by rfl) _ _ (by rfl) va (0+0) ([]++([]:List dY).take 0) (by rfl) (by first|exact HA.out|exact aX HA.out|exact bF _ HA.out|exact aX (bF _ HA.out)) (by first|exact QA.out|exact QA.out.trans (Q.drew _)|exact QA.out.trans (Q.alloc _ _)|exact(QA.out.trans (Q.alloc _ _)).trans (Q.drew _)) (.slice (some ⟨W.heap.size,0,none⟩) 1 1) 1 [(did,sc)] (by rfl) (by exact eB (KA.out _ _ (yT W (.cells #[] 54) (.cells #[ak (did,sc).1,.int .i64 ((did,sc).2:Nat)] 54)) (by simp[Value.ownBlock]))) (by omega) ?_;intro vb wb2 aO qb kb;have eG:=Hd aO;have QB:=Hd qb;clear aO qb kb)
             | (refine bL W (by rfl) _ _ (by rfl) vb (0+0+1) ([]++([]:List dY).take 0++[(did,sc)]) (by rfl) (by first|exact eG.out|exact aX eG.out) (by first|exact QB.out|exact QB.out.trans (Q.drew _)) _ 0 (([]:List dY).drop 0) (by rfl) (Iu.out _ 0 (by first|exact QB.out|exact QB.out.trans (Q.drew _))) (by omega) ?_;intro vc wc2 dM qc kc;have rM:=Hd dM;have QC:=Hd qc;clear dM qc kc))
           all_goals
            go_wp2_with fail;go_roundw;case rel=>exact⟨m+1,by omega,by go_num,oV.out _ _ rM.out,xO.out.trans QC.out⟩
            case measure=>simp[intOf];omega
          ·subst h1
           have sl1:∀V,Q W V→Sl V (.slice (some ⟨g,0,none⟩) j3 oc) j3 2 (tY (xs.take j3)):=fun V q=>by
            have:=FB (Bc V q) j3 (by omega)
            rw[A9] at this;exact this
           have vC:=Hd sl1;clear sl1;by_cases zo:oc=j3
           ·have tL:xs.length=j3:=by omega
            obtain rfl:j3=xs.length:=tL.symm;obtain rfl:oc=xs.length:=zo;have sl2:∀V (A:Option Addr) (c:Nat),Q W V→Sl V (.slice A 0 c) 0 2 (tY (xs.drop xs.length)):=fun V A c q=>by
             rw[List.drop_eq_nil_of_le (Nat.le_refl _)];exact Jc V _ _ _
            have Iu:=Hd sl2;have agC:=Hd (fun v V h=>oV.out v V (by rw[Nat.sub_self];exact h))
            clear sl2 Bc tL;go_region_law
             (first
              | (refine bL W (by rfl) _ _ (by rfl) (.slice (some ⟨W.heap.size,0,none⟩) 0 0) 0 [] (by rfl) (by first|exact bO W _ (Nat.le_refl _)|exact aX (bO W _ (Nat.le_refl _))|exact bF _ (bO W _ (Nat.le_refl _))|exact aX (bF _ (bO W _ (Nat.le_refl _)))) (by repeat (first|with_reducible exact Q.refl _|with_reducible refine Q.trans ?_ (Q.drew _)|with_reducible refine Q.trans ?_ (Q.alloc _ _))) _ xs.length (xs.take xs.length) (by rfl) (vC.out _ (by repeat (first|with_reducible exact Q.refl _|with_reducible refine Q.trans ?_ (Q.drew _)|with_reducible refine Q.trans ?_ (Q.alloc _ _)))) (by omega) ?_;intro va wa ha qa ka;have xa0:=ah qa y0;have xa1:=ah qa y1;have HA:=Hd ha;have QA:=Hd qa;have KA:=Hd ka;clear ha qa ka)
              | (refine bL W (by rfl) _ _ (by rfl) (.slice (some ⟨W.heap.size+1,0,none⟩) 0 0) 0 [] (by rfl) (by first|exact eT W _ _ (Nat.le_refl _)|exact aX (eT W _ _ (Nat.le_refl _))) (by repeat (first|with_reducible exact Q.refl _|with_reducible refine Q.trans ?_ (Q.drew _)|with_reducible refine Q.trans ?_ (Q.alloc _ _))) _ xs.length (xs.take xs.length) (by rfl) (vC.out _ (by repeat (first|with_reducible exact Q.refl _|with_reducible refine Q.trans ?_ (Q.drew _)|with_reducible refine Q.trans ?_ (Q.alloc _ _)))) (by omega) ?_;intro va wa ha qa ka;have xa0:=ah qa y0;have xa1:=ah qa y1;have HA:=Hd ha;have QA:=Hd qa;have KA:=Hd ka;clear ha qa ka)
              | (refine bL W (by rfl) _ _ (by rfl) va (0+xs.length) ([]++xs.take xs.length) (by rfl) (by first|exact HA.out|exact aX HA.out|exact bF _ HA.out|exact aX (bF _ HA.out)) (by first|exact QA.out|exact QA.out.trans (Q.drew _)|exact QA.out.trans (Q.alloc _ _)|exact(QA.out.trans (Q.alloc _ _)).trans (Q.drew _)) (.slice (some ⟨wa.heap.size,0,none⟩) 1 1) 1 [(did,sc)] (by rfl) (by exact eB (World.alloc_heap_new _ _)) (by omega) ?_;intro vb wb2 aO qb kb;have eG:=Hd aO;have QB:=Hd qb;clear aO qb kb)
              | (refine bL W (by rfl) _ _ (by rfl) va (0+xs.length) ([]++xs.take xs.length) (by rfl) (by first|exact HA.out|exact aX HA.out|exact bF _ HA.out|exact aX (bF _ HA.out)) (by first|exact QA.out|exact QA.out.trans (Q.drew _)|exact QA.out.trans (Q.alloc _ _)|exact(QA.out.trans (Q.alloc _ _)).trans (Q.drew _)) (.slice (some ⟨W.heap.size+1,0,none⟩) 1 1) 1 [(did,sc)] (by rfl) (by exact eB (KA.out _ _ (yS W (.cells #[] 54) (.cells #[ak (did,sc).1,.int .i64 ((did,sc).2:Nat)] 54)) (by simp[Value.ownBlock]))) (by omega) ?_;intro vb wb2 aO qb kb;have eG:=Hd aO;have QB:=Hd qb;clear aO qb kb)
              | (refine bL W (by rfl) _ _ (by rfl) va (0+xs.length) ([]++xs.take xs.length) (by rfl) (by first|exact HA.out|exact aX HA.out|exact bF _ HA.out|exact aX (bF _ HA.out)) (by first|exact QA.out|exact QA.out.trans (Q.drew _)|exact QA.out.trans (Q.alloc _ _)|exact(QA.out.trans (Q.alloc _ _)).trans (Q.drew _)) (.slice (some ⟨W.heap.size,0,none⟩) 1 1) 1 [(did,sc)] (by rfl) (by exact eB (KA.out _ _ (yT W (.cells #[] 54) (.cells #[ak (did,sc).1,.int .i64 ((did,sc).2:Nat)] 54)) (by simp[Value.ownBlock]))) (by omega) ?_;intro vb wb2 aO qb kb;have eG:=Hd aO;have QB:=Hd qb;clear aO qb kb)
              | (refine bL W (by rfl) _ _ (by rfl) vb (0+xs.length+1) ([]++xs.take xs.length++[(did,sc)]) (by rfl) (by first|exact eG.out|exact aX eG.out) (by first|exact QB.out|exact QB.out.trans (Q.drew _)) _ 0 (xs.drop xs.length) (by rfl) (Iu.out _ _ _ (by first|exact QB.out|exact QB.out.trans (Q.drew _))) (by omega) ?_;intro vc wc2 dM qc kc;have rM:=Hd dM;have QC:=Hd qc;clear dM qc kc))
            all_goals
             go_wp2_with fail;go_roundw;case rel=>exact⟨m+1,by omega,by go_num,agC.out _ _ rM.out,xO.out.trans QC.out⟩
             case measure=>simp[intOf];omega
           ·have sl2:∀V (c:Nat),Q W V→Sl V (.slice (some ⟨g,j3*2,none⟩) (xs.length-j3) c) (xs.length-j3) 2 (tY (xs.drop j3)):=fun V c q=>by
             have:=MW (Bc V q) j3 (by omega) (j3*2) c (by omega)
             rw[Bb] at this;exact this
            have Iu:=Hd sl2;clear sl2 Bc;go_region_law
             (first
              | (refine bL W (by rfl) _ _ (by rfl) (.slice (some ⟨W.heap.size,0,none⟩) 0 0) 0 [] (by rfl) (by first|exact bO W _ (Nat.le_refl _)|exact aX (bO W _ (Nat.le_refl _))|exact bF _ (bO W _ (Nat.le_refl _))|exact aX (bF _ (bO W _ (Nat.le_refl _)))) (by repeat (first|with_reducible exact Q.refl _|with_reducible refine Q.trans ?_ (Q.drew _)|with_reducible refine Q.trans ?_ (Q.alloc _ _))) _ j3 (xs.take j3) (by rfl) (vC.out _ (by repeat (first|with_reducible exact Q.refl _|with_reducible refine Q.trans ?_ (Q.drew _)|with_reducible refine Q.trans ?_ (Q.alloc _ _)))) (by omega) ?_;intro va wa ha qa ka;have xa0:=ah qa y0;have xa1:=ah qa y1;have HA:=Hd ha;have QA:=Hd qa;have KA:=Hd ka;clear ha qa ka)
              | (refine bL W (by rfl) _ _ (by rfl) (.slice (some ⟨W.heap.size+1,0,none⟩) 0 0) 0 [] (by rfl) (by first|exact eT W _ _ (Nat.le_refl _)|exact aX (eT W _ _ (Nat.le_refl _))) (by repeat (first|with_reducible exact Q.refl _|with_reducible refine Q.trans ?_ (Q.drew _)|with_reducible refine Q.trans ?_ (Q.alloc _ _))) _ j3 (xs.take j3) (by rfl) (vC.out _ (by repeat (first|with_reducible exact Q.refl _|with_reducible refine Q.trans ?_ (Q.drew _)|with_reducible refine Q.trans ?_ (Q.alloc _ _)))) (by omega) ?_;intro va wa ha qa ka;have xa0:=ah qa y0;have xa1:=ah qa y1;have HA:=Hd ha;have QA:=Hd qa;have KA:=Hd ka;clear ha qa ka)
              | (refine bL W (by rfl) _ _ (by rfl) va (0+j3) ([]++xs.take j3) (by rfl) (by first|exact HA.out|exact aX HA.out|exact bF _ HA.out|exact aX (bF _ HA.out)) (by first|exact QA.out|exact QA.out.trans (Q.drew _)|exact QA.out.trans (Q.alloc _ _)|exact(QA.out.trans (Q.alloc _ _)).trans (Q.drew _)) (.slice (some ⟨wa.heap.size,0,none⟩) 1 1) 1 [(did,sc)] (by rfl) (by exact eB (World.alloc_heap_new _ _)) (by omega) ?_;intro vb wb2 aO qb kb;have eG:=Hd aO;have QB:=Hd qb;clear aO qb kb)
              | (refine bL W (by rfl) _ _ (by rfl) va (0+j3) ([]++xs.take j3) (by rfl) (by first|exact HA.out|exact aX HA.out|exact bF _ HA.out|exact aX (bF _ HA.out)) (by first|exact QA.out|exact QA.out.trans (Q.drew _)|exact QA.out.trans (Q.alloc _ _)|exact(QA.out.trans (Q.alloc _ _)).trans (Q.drew _)) (.slice (some ⟨W.heap.size+1,0,none⟩) 1 1) 1 [(did,sc)] (by rfl) (by exact eB (KA.out _ _ (yS W (.cells #[] 54) (.cells #[ak (did,sc).1,.int .i64 ((did,sc).2:Nat)] 54)) (by simp[Value.ownBlock]))) (by omega) ?_;intro vb wb2 aO qb kb;have eG:=Hd aO;have QB:=Hd qb;clear aO qb kb)
              | (refine bL W (by rfl) _ _ (by rfl) va (0+j3) ([]++xs.take j3) (by rfl) (by first|exact HA.out|exact aX HA.out|exact bF _ HA.out|exact aX (bF _ HA.out)) (by first|exact QA.out|exact QA.out.trans (Q.drew _)|exact QA.out.trans (Q.alloc _ _)|exact(QA.out.trans (Q.alloc _ _)).trans (Q.drew _)) (.slice (some ⟨W.heap.size,0,none⟩) 1 1) 1 [(did,sc)] (by rfl) (by exact eB (KA.out _ _ (yT W (.cells #[] 54) (.cells #[ak (did,sc).1,.int .i64 ((did,sc).2:Nat)] 54)) (by simp[Value.ownBlock]))) (by omega) ?_;intro vb wb2 aO qb kb;have eG:=Hd aO;have QB:=Hd qb;clear aO qb kb)
              | (refine bL W (by rfl) _ _ (by rfl) vb (0+j3+1) ([]++xs.take j3++[(did,sc)]) (by rfl) (by first|exact eG.out|exact aX eG.out) (by first|exact QB.out|exact QB.out.trans (Q.drew _)) _ (xs.length-j3) (xs.drop j3) (by rfl) (Iu.out _ _ (by first|exact QB.out|exact QB.out.trans (Q.drew _))) (by omega) ?_;intro vc wc2 dM qc kc;have rM:=Hd dM;have QC:=Hd qc;clear dM qc kc))
            all_goals
             go_wp2_with fail;go_roundw;case rel=>exact⟨m+1,by omega,by go_num,oV.out _ _ rM.out,xO.out.trans QC.out⟩
             case measure=>simp[intOf];omega
    ·have rP:m=ds.length:=by omega
     subst rP;have kU:d9 (wtL ds) q (ds.take ds.length)=bA ds q:=by rw[List.take_length,BA]
     have yx:=Hd kU;clear kU;go_wp2_with fail;go_ret;exact⟨_,rfl,by have h:=HR.out;rw[yx.out] at h;exact Sl.of_owns h,aC.out.trans HQm.out⟩
end
end Go.Proofs.YthijhicdmnoifaaGreatDoor
