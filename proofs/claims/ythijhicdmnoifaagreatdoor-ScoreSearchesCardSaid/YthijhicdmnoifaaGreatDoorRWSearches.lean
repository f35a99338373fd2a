/- Joined texts of one proof. -/
import Derived.Test.YthijhicdmnoifaaGreatDoorRWRef17h
set_option linter.unusedSimpArgs false
set_option linter.unusedVariables false
set_option linter.unnecessarySimpa false
set_option maxRecDepth 100000
set_option maxHeartbeats 8000000
namespace Go.Proofs.YthijhicdmnoifaaGreatDoor
section
open Go.RowKit
theorem SSearches_walk(v:Value)(l:List uD)(qv:Value)(q:QL)(n2 k2:Int)(W:World)(hv:Acts W v l)(hq:QryAt W q qv)(AY:ActsWf l)(xA:txtQ q)(Ij : -9223372036854775808≤n2)(qC:n2≤9223372036854775807)(gY : -9223372036854775808≤k2)(vO:k2≤9223372036854775807)(hT:Tabs W)(gG:Spans W):
  Calls Tryz.prog 3 #[v,qv,.int .i64 n2,.int .i64 k2] W fun e w'=>e=.returned (.bool true)∧Below W.heap.size W w':=by
 have csh:=fun W' (h:Q W W')=>MP W' (hT.stays h) (gG.stays h)
 have csm:=fun W' (h:Q W W')=>BG v l W' (hv.stays h) AY.1 AY.2
 have cli:=fun W' (h:Q W W')=>Gv q qv W' xA (hq.stays h)
 have mF:=hq;obtain⟨k,s,m,sh,n,rfl⟩:∃k s m sh n,q=.mk k s m sh n:=by cases q;exact⟨_,_,_,_,_,rfl⟩
 obtain⟨vm,vs,vn,rfl,⟨a1,p1,rfl,x1⟩,⟨a2,p2,rfl,x2⟩,⟨a3,p3,rfl,x3⟩⟩:=hq.open;have hb:=Q.alloc W (.cells #[.int .i64 k,ak s,.slice a1 m.length p1,.slice a2 sh.length p2,.slice a3 n.length p3] 25);obtain⟨k0,k1,k2,k3,k4⟩:=(Blk.new W 25 #[.int .i64 k,ak s,.slice a1 m.length p1,.slice a2 sh.length p2,.slice a3 n.length p3]).c5;have Aa:=fun (hl:uT (.mk k s m sh n)=true)=>zN hl
 generalize hqe:QL.mk k s m sh n=q at *;generalize m.length=ml at *;generalize sh.length=sl at *;generalize n.length=nl at *;obtain⟨va,vc,EI,_⟩:=hv.value;subst EI;have HV:=Hd hv;have HQ:=Hd mF;have HT:=Hd hT;have nX:=Hd gG;have HB:=Hd hb;have XV:=Hd csh;have XW:=Hd csm;have Uy:=Hd cli;have HTX:=Hd xA;have HLW:=Hd AY;have HRT:=Hd Aa;have HN:=Hd (And.intro Ij (And.intro qC (And.intro gY vO)));clear Ij qC gY vO hv mF hq hT gG hb csh csm cli xA AY hqe x1 x2 x3 Aa;go_enter Tryz.func3,Tryz.ntmps3;go_wp2_with fail;refine(XV.out _ HB.out).mono ?_;rintro e w1 ⟨rfl,q1⟩;have aC:=Hd (HB.out.trans q1);have g0:=ah q1 k0;have g1:=ah q1 k1;have g2:=ah q1 k2;have g3:=ah q1 k3;have g4:=ah q1 k4;clear q1 k0 k1 k2 k3 k4;go_wp2_with fail;refine(XW.out _ aC.out).mono ?_;rintro e w2 ⟨rfl,rfl⟩;cases dN:qB l with
 | false =>
  go_wp2_with fail;refine(Uy.out _ aC.out).mono ?_;rintro e w3 ⟨rfl,q3⟩;clear g0 g1 g2 g3 g4;go_wp2_with fail;go_ret;exact⟨rfl,aC.out.trans q3⟩
 | true =>
  have su:=Hd dN;clear dN;go_wp2_with fail;refine(Uy.out _ aC.out).mono ?_;rintro e w3 ⟨rfl,q3⟩;have bZ:=Hd (aC.out.trans q3);have y0:=ah q3 g0;have y1:=ah q3 g1;have y2:=ah q3 g2;have y3:=ah q3 g3;have y4:=ah q3 g4;clear q3 g0 g1 g2 g3 g4;cases jZ:uT q with
  | false =>
   clear y0 y1 y2 y3 y4;go_wp2_with fail;go_ret;exact⟨rfl,bZ.out⟩
  | true =>
   obtain⟨wB,aY⟩:=HRT.out jZ;have xP:=sW su.out;have cmd:=Ar _ l true w3 (HV.out.stays bZ.out) (by omega) (fun a ha=>⟨by have:=(xP.2 a ha).1;omega,fun o ho=>by have:=(xP.2 a ha).2 o ho;omega⟩) (HT.out.stays bZ.out) (nX.out.stays bZ.out)
   obtain⟨sV,gQ,sO⟩:=wV true l su.out;obtain⟨hro,hrp,hre⟩:=WY true l l.length (Nat.le_refl _);have xJ:pU (bH true l l.length)=bW (je true l l.length):=by rw[hre];exact U8 _ hro (by rw[←hre];exact sV.2)
   have BI:=afL true l l.length (Nat.le_refl _);have OO:l.length≤20:=by omega
   have EZ:=BD (je true l l.length) sV q;have ku:(bW (je true l l.length)).length≤6000:=by have:=(Gq _ sV.2).length_eq;omega
   have Xv:=(Fe (je true l l.length) sV).1;have bY:=Au (aH (je true l l.length)) q;generalize je true l l.length=ps at *;generalize bH true l l.length=rs at *;have Lp:=Hd cmd;have uq:=Hd sV;have RF:=Hd wB;have AB:=Hd aY;have HRO:=Hd hro;have Uv:=Hd xJ;have mh:=Hd EZ;have Cz:=Hd Xv;clear cmd sV wB aY jZ xP hro hrp hre xJ EZ Xv;go_wp2_with fail;refine Lp.out.mono ?_;rintro e w5 ⟨⟨lv,mv,pl,rfl,hp,wZ,sU⟩,q5⟩;obtain⟨la,lc,Qn,XZ⟩:=hp.value;subst Qn;have agz:=wZ;obtain⟨ma,mc,Nz,pz⟩:=wZ.value;subst Nz;have Cm:=Q.alloc w5 (.cells #[.slice la ps.length lc] 31);have oM:=q5.trans Cm;have x0:=ah oM y0;have x1:=ah oM y1;have x2:=ah oM y2;have x3:=ah oM y3;have x4:=ah oM y4;have bx:=(Boxed.new w5 31 (.slice la ps.length lc)).cell;have HP:=Hd (hp.stays Cm);have Rz:=Hd (agz.stays Cm);have xO:=Hd (bZ.out.trans oM);have amI:pl.length=rs.length:=by rw[←sU,List.length_map]
   have alV:∀p∈pl,p.2.2.2.length=p.2.2.1.length∧p.2.2.1.length≤500:=fun p hp=>by
    have:=HRO.out (rOf p) (by rw[←sU];exact List.mem_map_of_mem hp)
    exact⟨this.1,this.len.1⟩
   have cdo:=fun (W':World) (hq:Q (w5.alloc (.cells #[.slice la ps.length lc] 31)) W')=>afF _ pl W' (Rz.out.stays hq) (by omega) alV
   rw[sU,Uv.out] at cdo;have csr:=fun (W':World) (hq:Q (w5.alloc (.cells #[.slice la ps.length lc] 31)) W')=>kD W' _ ps q _ (HP.out.stays hq) uq.out (by omega) (HQ.out.stays (xO.out.trans hq)) RF.out (by have:=AB.out;omega) (HT.out.stays (xO.out.trans hq)) (nX.out.stays (xO.out.trans hq))
   have crs:=fun (W':World) (hq:Q (w5.alloc (.cells #[.slice la ps.length lc] 31)) W') (dv:Value) (JF:Docs W' dv (bW ps))=>Bp dv _ (bW ps) q W' JF ku (fun d hd=>(afV (Cz.out d hd)).2) (HQ.out.stays (xO.out.trans hq)) RF.out (by have:=AB.out;omega)
   rw[←mh.out] at crs;have cw1:=fun (W':World)=>Ah n2 k2 W' (by have:=HN.out;omega) HN.out.1 (by have:=HN.out;omega) HN.out.2.2.1
   have cw2:=fun (W':World)=>iX n2 k2 W' (by have:=HN.out;omega) HN.out.1 (by have:=HN.out;omega) HN.out.2.2.1
   have rE:(bA (aH ps) q).length≤6000:=by omega
   generalize bA (aH ps) q=xs at *;generalize bW ps=ds at *;have CDO:=Hd cdo;have E5:=Hd csr;have CRS:=Hd crs;have CW1:=Hd cw1;have CW2:=Hd cw2;have U0:=Hd x0;have U1:=Hd x1;have U2:=Hd x2;have U3:=Hd x3;have U4:=Hd x4;have U5:=Hd bx;clear hp wZ agz sU amI alV q5 y0 y1 y2 y3 y4 Lp XZ pz Cm oM cdo csr crs cw1 cw2 ku bY sO;go_wp2_with fail;generalize hXe:w5.heap.size=X at *;generalize w5.alloc (.cells #[.slice la ps.length lc] 31)=wb at *;have KK:=Hd (Q.refl wb);go_region_held3 (fun w'=>w'.cell? ⟨W.heap.size,0,none⟩=some (.int .i64 k)∧w'.cell? ⟨W.heap.size,1,none⟩=some (ak s)∧w'.cell? ⟨W.heap.size,2,none⟩=some (.slice a1 ml p1)∧w'.cell? ⟨W.heap.size,3,none⟩=some (.slice a2 sl p2)∧w'.cell? ⟨W.heap.size,4,none⟩=some (.slice a3 nl p3)∧w'.cell? ⟨X,0,none⟩=some (.slice la ps.length lc))
    (first|exact⟨x0,x1,x2,x3,x4,bx⟩|exact six18 (by repeat (first|with_reducible exact KK.out|with_reducible apply Qt.al0|with_reducible apply Qt.dr0)) U0.out U1.out U2.out U3.out U4.out U5.out)
    (first
     | (go_at_call 9;refine(E5.out _ (by repeat (first|with_reducible exact KK.out|with_reducible apply Qt.al0|with_reducible apply Qt.dr0))).mono ?_;rintro e w7 ⟨av,rfl,OZ,q7⟩;obtain⟨aa,ac,hav,EN⟩:=OZ.value;clear EN;subst hav;have s':Q wb w7:=Q.trans (by repeat (first|with_reducible exact KK.out|with_reducible apply Qt.al0|with_reducible apply Qt.dr0)) q7;(try (have hz:=Sl.stays HA.out q7;clear HA;have HA:=Hd hz;clear hz));(try (have hz:=Sl.stays HD.out q7;clear HD;have HD:=Hd hz;clear hz));(try (have hz:=Sl.stays eG.out q7;clear eG;have eG:=Hd hz;clear hz));clear KK;have KK:=Hd s';clear s' q7;have HA:=Hd OZ;clear OZ)
     | (go_at_call 11;refine(CDO.out _ (by repeat (first|with_reducible exact KK.out|with_reducible apply Qt.al0|with_reducible apply Qt.dr0))).mono ?_;rintro e w8 ⟨dv,rfl,EU,q8⟩;have CZ:=Sl.of_owns EU;obtain⟨da,dc,JF,QY⟩:=CZ.value;clear QY;subst JF;have s':Q wb w8:=Q.trans (by repeat (first|with_reducible exact KK.out|with_reducible apply Qt.al0|with_reducible apply Qt.dr0)) q8;(try (have hz:=Sl.stays HA.out q8;clear HA;have HA:=Hd hz;clear hz));(try (have hz:=Sl.stays HD.out q8;clear HD;have HD:=Hd hz;clear hz));(try (have hz:=Sl.stays eG.out q8;clear eG;have eG:=Hd hz;clear hz));clear KK;have KK:=Hd s';clear s' q8;have HD:=Hd CZ;clear CZ EU)
     | (go_at_call 10;refine(CRS.out _ (by repeat (first|with_reducible exact KK.out|with_reducible apply Qt.al0|with_reducible apply Qt.dr0)) _ (by first|exact HD.out|exact Sl.stays HD.out (Q.drew _))).mono ?_;rintro e w9 ⟨bv,rfl,Dg,q9⟩;obtain⟨ba,bc,hbv,lU⟩:=Dg.value;clear lU;subst hbv;have s':Q wb w9:=Q.trans (by repeat (first|with_reducible exact KK.out|with_reducible apply Qt.al0|with_reducible apply Qt.dr0)) q9;(try (have hz:=Sl.stays HA.out q9;clear HA;have HA:=Hd hz;clear hz));(try (have hz:=Sl.stays HD.out q9;clear HD;have HD:=Hd hz;clear hz));(try (have hz:=Sl.stays eG.out q9;clear eG;have eG:=Hd hz;clear hz));clear KK;have KK:=Hd s';clear s' q9;have eG:=Hd Dg;clear Dg)
     | (go_at_call 8;refine(xE _ _ xs _ (by first|exact HA.out|exact Sl.stays HA.out (Q.drew _)) (by first|exact eG.out|exact Sl.stays eG.out (Q.drew _)) (by omega)).mono ?_;rintro e w10 ⟨rfl,q10⟩;have s':Q wb w10:=Q.trans (by repeat (first|with_reducible exact KK.out|with_reducible apply Qt.al0|with_reducible apply Qt.dr0)) q10;(try (have hz:=Sl.stays HA.out q10;clear HA;have HA:=Hd hz;clear hz));(try (have hz:=Sl.stays HD.out q10;clear HD;have HD:=Hd hz;clear hz));(try (have hz:=Sl.stays eG.out q10;clear eG;have eG:=Hd hz;clear hz));clear KK;have KK:=Hd s';clear s' q10)
     | (go_at_call 12;refine(CW1.out _).mono ?_;rintro e w11 ⟨rfl,rfl⟩)
     | (go_at_call 13;refine(CW2.out _).mono ?_;rintro e w12 ⟨rfl,rfl⟩))
   all_goals
    have Rc:Q wb _:=(by repeat (first|with_reducible exact KK.out|with_reducible apply Qt.al0|with_reducible apply Qt.dr0))
    go_wp2_with fail;go_ret;exact⟨rfl,xO.out.trans Rc⟩
end
end Go.Proofs.YthijhicdmnoifaaGreatDoor
