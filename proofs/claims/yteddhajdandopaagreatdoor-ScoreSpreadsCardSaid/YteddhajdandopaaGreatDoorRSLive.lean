/- Joined texts of one proof: what is needed of Live, Live2, Qry3, WLiveM, Qry7, WRef17d, W18h, WSpreads. -/
import Derived.Test.YteddhajdandopaaGreatDoorRMaps
import Derived.Test.YteddhajdandopaaGreatDoorRWPostI
import Derived.Test.YteddhajdandopaaGreatDoorRQryS
import Derived.Test.YteddhajdandopaaGreatDoorROpen0
import Derived.Test.YteddhajdandopaaGreatDoorRWRef17a
import Derived.Test.YteddhajdandopaaGreatDoorRPostRd
import Derived.Test.YteddhajdandopaaGreatDoorRKit
import Derived.Sort.KeysCollected
import Derived.Lib.ValidLaws
import Derived.Test.YteddhajdandopaaGreatDoorRMaps2
import Derived.Test.YteddhajdandopaaGreatDoorRQry6
import Derived.Test.YteddhajdandopaaGreatDoorRWBin
import Derived.Test.YteddhajdandopaaGreatDoorRWSh18
import Derived.Test.YteddhajdandopaaGreatDoorRWRef15e
import Derived.Deep.RegionHeld3
import Derived.Deep.QuietTactic
set_option linter.unusedSimpArgs false
set_option linter.unusedVariables false
set_option linter.unnecessarySimpa false
set_option maxRecDepth 100000
set_option maxHeartbeats 8000000
namespace Go.Proofs.YteddhajdandopaaGreatDoor
section
open Go.Sort
theorem YK(ps qs:List aG)(h1:((aH ps).map (·.1)).Nodup)(h2:((aH qs).map (·.1)).Nodup)(h:∀d,d∈aH ps↔d∈aH qs):bW ps=bW qs:=by
 refine VN _ _ ?_ ?_ (yN ps h1) (yN qs h2) (fun d=>by rw[zy ps h1,zy qs h2,h])
 ·rw[J6];exact List.pairwise_mergeSort JZ J4 _
 ·rw[J6];exact List.pairwise_mergeSort JZ J4 _
theorem mem_apply(ps:List aG)(ops:List OpL)(h:∀p∈ps,PartOk p)(d:au):
  d∈aH (iq (nI ops) ps++(bG (moreL ops)).1)↔(d∈aH ps∧d.1∉nI ops)∨d∈moreL ops:=by
 rw[qO,List.mem_append,Td _ _ h,Iz]
theorem perm_docs(ps qs:List aG)(h:eu ps)(k:eu qs)(hp:(aH qs).Perm (aH ps)):bW qs=bW ps:=YK qs ps k.2 h.2 (fun d=>hp.mem_iff)
theorem agX(ps:List aG)(a b:Int)(h:eu ps):bW (kX ps a b).1=bW ps:=by
 unfold kX;split
 ·rfl
 ·rename_i hc
  simp only;split
  ·rfl
  ·rename_i hl
   exact perm_docs ps _ h (YQ ps a.toNat (b.toNat+1) (by omega) h (by omega)) (Tf ps a.toNat (b.toNat+1) (by omega) h)
theorem YR(ps qs:List aG)(ops:List OpL):(fB ps ops).2=(fB qs ops).2:=by
 unfold fB;split
 ·rfl
 ·split<;>rfl
theorem VQ(ps:List aG)(ops:List OpL)(h:∀p∈ps,PartOk p)(he:(fB ps ops).2.2=0)(d:au):
  d∈aH (fB ps ops).1↔(d∈aH ps∧d.1∉ops.map (fun o=>o.2.1))∨d∈moreL ops:=by
 unfold fB at he ⊢;split at he
 ·cases he
 ·rename_i hl
  rw[if_neg hl];split at he
  ·rename_i hr
   rw[if_pos hr,mem_apply _ _ h,YN]
  ·cases he
theorem aeA(ps:List aG)(ops:List OpL):(fB ps ops).2.2=0↔¬(ops.length<1∨50<ops.length)∧ops.all dZ=true:=by
 unfold fB;split
 ·simp_all
 ·split
  ·simp_all
  ·simp_all
end
section
theorem wtL_perm{a b:List au}(h:a.Perm b):wtL a=wtL b:=by
 funext t;unfold wtL qZ;rw[h.length_eq,(h.filter _).length_eq]
theorem Wv{a b:List au}(q:QL)(h:a.Perm b):searchL a q=searchL b q:=by
 refine LU _ _ ((sN a q).trans (List.Perm.trans ?_ (sN b q).symm)) (yB a q) (yB b q);unfold D6;rw[wtL_perm h];exact h.filterMap _
end
section
open Go.RowKit
theorem PX(v:Value)(ps:List aG)(w:World)(hv:PartsAt w v ps)(hn:ps.length≤1000000)(bD:∀p∈ps,PartOk p):
  Calls Tryz.prog 24 #[iP v] w fun e w'=>∃v',e=.returned v'∧w'.ownsRow w.heap.size 60 2 v' (bW ps).length (bK (bW ps))∧Q w w':=by
 have c:=PW v ps (w.alloc (.cells #[v] 31)) (hv.stays (Q.alloc _ _)) hn bD;obtain⟨a,cap,rfl,_⟩:=hv.value;have C:=Hd c;clear c hv bD;go_enter Tryz.func24,Tryz.ntmps24;go_wp2_with fail;refine C.out.mono ?_;rintro e w1 ⟨v',rfl,ho,q⟩;have jI:=dO ho (show w.heap.size≤(w.alloc (.cells #[.slice a ps.length cap] 31)).heap.size by simp)
 have q2:=(Q.alloc w (.cells #[.slice a ps.length cap] 31)).trans q;have HO:=Hd jI;have HQ:=Hd q2;clear ho jI q q2;go_wp2_with fail;go_ret;exact⟨_,rfl,HO.out,HQ.out⟩
end
section
theorem ahU(ps qs:List aG)(ops:List OpL)(h:eu ps)(k:eu qs)(e:bW ps=bW qs):bW (fB ps ops).1=bW (fB qs ops).1:=by
 by_cases he:(fB ps ops).2.2=0
 ·have OI:(fB qs ops).2.2=0:=by rw[←YR ps qs];exact he
  refine YK _ _ (Ji ps ops h).2 (Ji qs ops k).2 (fun d=>?_)
  rw[VQ ps ops h.1 he,VQ qs ops k.1 OI,←zy ps h.2,←zy qs k.2,e]
 ·have key:∀rs:List aG,(fB rs ops).2.2≠0→(fB rs ops).1=rs:=by
   intro rs hr;unfold fB at hr ⊢;split
   ·rfl
   ·rename_i h1
    rw[if_neg h1] at hr;split
    ·rename_i h2;rw[if_pos h2] at hr;exact absurd rfl hr
    ·rfl
  have OI:(fB qs ops).2.2≠0:=by rw[←YR ps qs];exact he
  rw[key ps he,key qs OI,e]
theorem afi(l:List wG)(k:Nat)(hk:k≤l.length):bW (je true l k)=bW (je false l k):=by
 induction k with
 | zero=>rfl
 | succ k ih =>
  have h1:=(C9 true l k (by omega)).1
  have h2:=(C9 false l k (by omega)).1
  rw[F9 true l k hk,F9 false l k hk];unfold Ea;split
  ·rw[if_pos rfl,if_neg (by simp),agX _ _ _ h1];exact ih (by omega)
  ·exact ahU _ _ _ h1 h2 (ih (by omega))
theorem BD(ps:List aG)(h:eu ps)(q:QL):searchL (aH ps) q=searchL (bW ps) q:=(Wv q (Gq ps h.2)).symm
theorem afj(ps qs:List aG)(h:eu ps)(k:eu qs)(e:bW ps=bW qs)(q:QL):searchL (aH ps) q=searchL (aH qs) q:=by rw[BD ps h,BD qs k,e]
theorem aaN(l:List wG)(k:Nat)(hk:k≤l.length)(q:QL):searchL (aH (je true l k)) q=searchL (aH (je false l k)) q :=
 afj _ _ (C9 true l k hk).1 (C9 false l k hk).1 (afi l k hk) q
theorem ahV(q:QL):searchL [] q=[]:=by
 have:=nD [] q;exact List.eq_nil_of_length_eq_zero this
def kJ(ds:List au):List OpL:=ds.map fun d=>(false,d)
theorem ahW(ds:List au)(h:(ds.map (·.1)).Nodup):fK (kJ ds)=kJ ds:=by
 induction ds with
 | nil=>rfl
 | cons d ds ih =>
  rw[List.map_cons,List.nodup_cons] at h;show fK ((false,d)::kJ ds)=_;rw[fK,if_neg (by intro hh;exact h.1 (by simpa[kJ] using hh)),ih h.2]
  rfl
theorem more_bulk(ds:List au)(h:(ds.map (·.1)).Nodup):moreL (kJ ds)=ds:=by
 unfold moreL;rw[ahW ds h];unfold kJ;induction ds with
 | nil=>rfl
 | cons d ds ih =>
  rw[List.map_cons,List.nodup_cons] at h;rw[List.map_cons,List.filter_cons_of_pos (by simp),List.map_cons,ih h.2]
theorem ahX(ds:List au)(h:∀d∈ds,iT d.1 d.2=true):(kJ ds).all dZ=true:=by
 rw[List.all_eq_true];intro o ho;obtain⟨d,hd,rfl⟩:=List.mem_map.1 ho;exact h d hd
theorem ahY(ds:List au)(h:fV ds)(h1:1≤ds.length)(h2:ds.length≤50):(fB [] (kJ ds)).2.2=0∧eu (fB [] (kJ ds)).1∧aH (fB [] (kJ ds)).1=ds:=by
 have hl:(kJ ds).length=ds.length:=by unfold kJ;simp
 have h0:eu ([]:List aG):=⟨fun p hp=>by simp at hp,by simp[aH]⟩
 have hr:=ahX ds h.1;refine⟨(aeA [] (kJ ds)).2 ⟨by omega,hr⟩,Ji [] _ h0,?_⟩
 unfold fB;rw[if_neg (by omega),if_pos hr]
 have hg:∀ids:List Bytes,iq ids ([]:List aG)=[]:=fun ids=>List.eq_nil_of_length_eq_zero (Ae ids [])
 show aH (iq _ []++_)=ds;rw[hg,List.nil_append,Iz,more_bulk ds h.2]
theorem afk(ps:List aG)(h:eu ps)(h1:1≤(bW ps).length)(h2:(bW ps).length≤50)(q:QL):
  (fB [] (kJ (bW ps).reverse)).2.2=0∧eu (fB [] (kJ (bW ps).reverse)).1∧searchL (aH (fB [] (kJ (bW ps).reverse)).1) q=searchL (aH ps) q:=by
 have hd:=Fe ps h;have hr:fV (bW ps).reverse:=⟨fun d hd'=>hd.1 d (List.mem_reverse.1 hd'),((List.reverse_perm (bW ps)).map (·.1)).nodup_iff.2 hd.2⟩
 obtain⟨g1,g2,g3⟩:=ahY _ hr (by rw[List.length_reverse];exact h1) (by rw[List.length_reverse];exact h2)
 refine⟨g1,g2,?_⟩;rw[g3,BD ps h];exact Wv q (List.reverse_perm _)
end
section
open Go.RowKit
def uT(q:QL):Bool:=wQ q&&decide (dh q≤40)
theorem Gv(q:QL)(v:Value)(w:World)(ht:txtQ q)(h:QryAt w q v):
  Calls Tryz.prog 11 #[v] w fun e w'=>e=.returned (.bool (uT q))∧Q w w':=by
 obtain⟨k,s,m,sh,n,rfl⟩:∃k s m sh n,q=.mk k s m sh n:=by cases q;exact⟨_,_,_,_,_,rfl⟩
 have h':=h;obtain⟨vm,vs,vn,rfl,⟨a1,p1,rfl,x1⟩,⟨a2,p2,rfl,x2⟩,⟨a3,p3,rfl,x3⟩⟩:=h.open;have hb:=Q.alloc w (.cells #[.int .i64 k,ak s,.slice a1 m.length p1,.slice a2 sh.length p2,.slice a3 n.length p3] 25);obtain⟨k0,k1,k2,k3,k4⟩:=(Blk.new w 25 #[.int .i64 k,ak s,.slice a1 m.length p1,.slice a2 sh.length p2,.slice a3 n.length p3]).c5;have cs:=WZ (.mk k s m sh n) _ _ (h'.stays hb);have cn:=fun (W:World) (hq:Q w W)=>Gj (.mk k s m sh n) _ W ht (h'.stays hq)
 have hsr:(wQ (.mk k s m sh n)=true→(yg (.mk k s m sh n)).1=dh (.mk k s m sh n))∧(yg (.mk k s m sh n)).1≤1001∧(yg (.mk k s m sh n)).2≤1001:=by
  have:=IW (.mk k s m sh n);refine⟨fun hh=>?_,?_,?_⟩
  ·unfold wQ at hh
   rw[Bool.and_eq_true,Bool.and_eq_true,decide_eq_true_eq] at hh;unfold yg;rw[if_neg (by omega)]
  ·unfold yg;split
   ·exact Nat.le_refl _
   ·simp only;omega
  ·unfold yg;split
   ·exact Nat.zero_le _
   ·simp only;omega
 have hr:uT (.mk k s m sh n)=(wQ (.mk k s m sh n)&&decide (dh (.mk k s m sh n)≤40)):=rfl;rw[hr];generalize hZ:dh (.mk k s m sh n)=Z at *;generalize hN:wQ (.mk k s m sh n)=b at *;generalize hS:yg (.mk k s m sh n)=S at *;obtain⟨S1,S2⟩:=S;simp only at hsr cs;obtain⟨dN,kE,kP⟩:=hsr;have HB:=Hd hb;have CS:=Hd cs;have CN:=Hd cn;clear hb cs cn h h' x1 x2 x3 hZ hN hS hr;cases b with
 | false =>
  clear dN;go_enter Tryz.func11,Tryz.ntmps11;go_wp2_with fail;refine CS.out.mono ?_;rintro e w1 ⟨rfl,q1⟩;have aC:=Hd (HB.out.trans q1);have u0:=ah q1 k0;have u1:=ah q1 k1;have u2:=ah q1 k2;have u3:=ah q1 k3;have u4:=ah q1 k4;clear q1 k0 k1 k2 k3 k4;go_wp2_with fail;refine(CN.out _ aC.out).mono ?_;rintro e w2 ⟨rfl,q2⟩;have aS:=Hd (aC.out.trans q2);clear q2 u0 u1 u2 u3 u4;go_wp2_with fail;go_ret;exact⟨rfl,aS.out⟩
 | true =>
  have vN:=dN rfl;subst vN;clear dN;have hle:decide ((S1:Int)≤40)=decide (S1≤40):=by by_cases h:S1≤40<;>simp[h]<;>omega
  have Lh:=Hd hle;clear hle;go_enter Tryz.func11,Tryz.ntmps11;go_wp2_with fail;refine CS.out.mono ?_;rintro e w1 ⟨rfl,q1⟩;have aC:=Hd (HB.out.trans q1);have u0:=ah q1 k0;have u1:=ah q1 k1;have u2:=ah q1 k2;have u3:=ah q1 k3;have u4:=ah q1 k4;clear q1 k0 k1 k2 k3 k4;go_wp2_with fail;refine(CN.out _ aC.out).mono ?_;rintro e w2 ⟨rfl,q2⟩;have aS:=Hd (aC.out.trans q2);clear q2 u0 u1 u2 u3 u4;go_wp2_with fail;go_ret;exact⟨eX Lh.out,aS.out⟩
theorem zN{q:QL}(h:uT q=true):iD q=true∧dh q≤40:=by
 unfold uT at h;rw[Bool.and_eq_true,decide_eq_true_eq] at h;exact⟨(Ee h.1).1,h.2⟩
theorem bulk_drop(ds:List au)(j:Nat)(h:j<ds.length):kJ (ds.drop j).reverse=kJ (ds.drop (j+1)).reverse++[(false,ds[j])]:=by
 rw[List.drop_eq_getElem_cons h,List.reverse_cons];unfold kJ;rw[List.map_append];rfl
theorem right_len{id text:Bytes}(h:iT id text=true):id.length≤40∧text.length≤2000:=by
 unfold iT at h;simp only[Bool.and_eq_true,decide_eq_true_eq] at h;exact⟨h.1.1.1.2,h.1.1.2⟩
theorem SSpreads_walk(v:Value)(l:List uD)(qv:Value)(q:QL)(W:World)(hv:Acts W v l)(hq:QryAt W q qv)(AY:ActsWf l)(xA:txtQ q)(hT:Tabs W)(gG:Spans W):
  Calls Tryz.prog 7 #[v,qv] W fun e w'=>e=.returned (.bool true)∧Below W.heap.size W w':=by
 have csh:=fun W' (h:Q W W')=>MP W' (hT.stays h) (gG.stays h)
 have csm:=fun W' (h:Q W W')=>BG v l W' (hv.stays h) AY.1 AY.2
 have cli:=fun W' (h:Q W W')=>Gv q qv W' xA (hq.stays h)
 have mF:=hq;obtain⟨k,s,m,sh,n,rfl⟩:∃k s m sh n,q=.mk k s m sh n:=by cases q;exact⟨_,_,_,_,_,rfl⟩
 obtain⟨vm,vs,vn,rfl,⟨a1,p1,rfl,x1⟩,⟨a2,p2,rfl,x2⟩,⟨a3,p3,rfl,x3⟩⟩:=hq.open;have hb:=Q.alloc W (.cells #[.int .i64 k,ak s,.slice a1 m.length p1,.slice a2 sh.length p2,.slice a3 n.length p3] 25);obtain⟨k0,k1,k2,k3,k4⟩:=(Blk.new W 25 #[.int .i64 k,ak s,.slice a1 m.length p1,.slice a2 sh.length p2,.slice a3 n.length p3]).c5;have Aa:=fun (hl:uT (.mk k s m sh n)=true)=>zN hl
 generalize hqe:QL.mk k s m sh n=q at *;generalize m.length=ml at *;generalize sh.length=sl at *;generalize n.length=nl at *;obtain⟨va,vc,EI,_⟩:=hv.value;subst EI;have HV:=Hd hv;have HQ:=Hd mF;have HT:=Hd hT;have nX:=Hd gG;have HB:=Hd hb;have XV:=Hd csh;have XW:=Hd csm;have Uy:=Hd cli;have HTX:=Hd xA;have HLW:=Hd AY;have HRT:=Hd Aa;clear hv mF hq hT gG hb csh csm cli xA AY hqe x1 x2 x3 Aa;go_enter Tryz.func7,Tryz.ntmps7;go_wp2_with fail;refine(XV.out _ HB.out).mono ?_;rintro e w1 ⟨rfl,q1⟩;have aC:=Hd (HB.out.trans q1);have g0:=ah q1 k0;have g1:=ah q1 k1;have g2:=ah q1 k2;have g3:=ah q1 k3;have g4:=ah q1 k4;clear q1 k0 k1 k2 k3 k4;go_wp2_with fail;refine(XW.out _ aC.out).mono ?_;rintro e w2 ⟨rfl,rfl⟩;cases dN:qB l with
 | false =>
  go_wp2_with fail;refine(Uy.out _ aC.out).mono ?_;rintro e w3 ⟨rfl,q3⟩;clear g0 g1 g2 g3 g4;go_wp2_with fail;go_ret;exact⟨rfl,aC.out.trans q3⟩
 | true =>
  have su:=Hd dN;clear dN;go_wp2_with fail;refine(Uy.out _ aC.out).mono ?_;rintro e w3 ⟨rfl,q3⟩;have bZ:=Hd (aC.out.trans q3);have y0:=ah q3 g0;have y1:=ah q3 g1;have y2:=ah q3 g2;have y3:=ah q3 g3;have y4:=ah q3 g4;clear q3 g0 g1 g2 g3 g4;cases jZ:uT q with
  | false =>
   clear y0 y1 y2 y3 y4;go_wp2_with fail;go_ret;exact⟨rfl,bZ.out⟩
  | true =>
   obtain⟨wB,aY⟩:=HRT.out jZ;have xP:=sW su.out;have cmd:=Ar _ l true w3 (HV.out.stays bZ.out) (by omega) (fun a ha=>⟨by have:=(xP.2 a ha).1;omega,fun o ho=>by have:=(xP.2 a ha).2 o ho;omega⟩) (HT.out.stays bZ.out) (nX.out.stays bZ.out)
   have cmd2:=fun W' (hq:Q w3 W')=>Ar _ l false W' (HV.out.stays (bZ.out.trans hq)) (by omega) (fun a ha=>⟨by have:=(xP.2 a ha).1;omega,fun o ho=>by have:=(xP.2 a ha).2 o ho;omega⟩) (HT.out.stays (bZ.out.trans hq)) (nX.out.stays (bZ.out.trans hq))
   obtain⟨sV,gQ,sO⟩:=wV true l su.out;obtain⟨aqj,alV,ayo⟩:=wV false l su.out;have GY:=aaN l l.length (Nat.le_refl _) q;generalize je true l l.length=ps at *;generalize je false l l.length=ps2 at *;have Lp:=Hd cmd;have aqk:=Hd cmd2;have uq:=Hd sV;have auz:=Hd aqj;have RF:=Hd wB;have AB:=Hd aY;clear cmd cmd2 sV aqj wB aY jZ xP;go_wp2_with fail;refine Lp.out.mono ?_;rintro e w5 ⟨⟨lv,mv,pl,rfl,hp,wZ,sU⟩,q5⟩;obtain⟨la,lc,Qn,XZ⟩:=hp.value;subst Qn;obtain⟨ma,mc,Nz,pz⟩:=wZ.value;subst Nz;have Cm:=Q.alloc w5 (.cells #[.slice la ps.length lc] 31);have oM:=q5.trans Cm;have x0:=ah oM y0;have x1:=ah oM y1;have x2:=ah oM y2;have x3:=ah oM y3;have x4:=ah oM y4;have bx:=(Boxed.new w5 31 (.slice la ps.length lc)).cell;have HP:=Hd hp;have Ie:=Hd Cm;have Vz:=Hd oM;have hx5:w3.heap.size≤w5.heap.size:=q5.size;clear hp wZ sU q5 y0 y1 y2 y3 y4 Lp XZ pz Cm oM;go_wp2_with fail;refine(aqk.out _ Vz.out).mono ?_;rintro e w6 ⟨⟨lv2,mv2,pl2,rfl,Un,aql,auA⟩,q6⟩;obtain⟨la2,lc2,auB,XZ⟩:=Un.value;subst auB;obtain⟨ma2,mc2,auC,pz⟩:=aql.value;subst auC;have Vx:=Q.alloc w6 (.cells #[.slice la2 ps2.length lc2] 31);have OD:=q6.trans Vx;have v0:=ah OD x0;have v1:=ah OD x1;have v2:=ah OD x2;have v3:=ah OD x3;have v4:=ah OD x4;have b1:=ah OD bx;have b2:=(Boxed.new w6 31 (.slice la2 ps2.length lc2)).cell;have fQ:=Hd (Ie.out.trans OD);have HP2:=Hd Un;have Vy:=Hd Vx;have xO:=Hd (bZ.out.trans (Vz.out.trans OD));generalize w5.heap.size=X at *;clear Un aql auA q6 x0 x1 x2 x3 x4 bx aqk XZ pz Vx OD;obtain⟨wb,rO⟩:∃wb,wb=w6.alloc (.cells #[.slice la2 ps2.length lc2] 31):=⟨_,rfl⟩;rw[←rO] at v0 v1 v2 v3 v4 b1 b2;have HQ6b:Hid (Q w5 wb):=by rw[rO];exact fQ.out
   have HQA6b:Hid (Q w6 wb):=by rw[rO];exact Vy.out
   have HQWb:Hid (Q W wb):=by rw[rO];exact xO.out
   have HWB:=Hd rO;clear fQ Vy xO;have csr:=fun (W':World) (hq:Q wb W')=>kD W' _ ps q _ (HP.out.stays (HQ6b.out.trans hq)) uq.out (by omega) (HQ.out.stays (HQWb.out.trans hq)) RF.out (by have:=AB.out;omega) (HT.out.stays (HQWb.out.trans hq)) (nX.out.stays (HQWb.out.trans hq))
   have csr2:=fun (W':World) (hq:Q wb W')=>kD W' _ ps2 q _ (HP2.out.stays (HQA6b.out.trans hq)) auz.out (by omega) (HQ.out.stays (HQWb.out.trans hq)) RF.out (by have:=AB.out;omega) (HT.out.stays (HQWb.out.trans hq)) (nX.out.stays (HQWb.out.trans hq))
   rw[←GY] at csr2;have cdo:=fun (W':World) (hq:Q wb W')=>PX _ ps W' (HP.out.stays (HQ6b.out.trans hq)) (by omega) uq.out.1
   have hb:=afk ps uq.out;have ku:(bW ps).length≤6000:=by have:=(Gq ps uq.out.2).length_eq;omega
   have Bf:(bW ps).length=0→searchL (aH ps) q=[]:=fun h=>by
    rw[BD ps uq.out,List.eq_nil_of_length_eq_zero h,ahV]
   have bY:=Au (aH ps) q;have Aa:=(Fe ps uq.out).1;have hbq:=fun h1 h2=>(hb h1 h2 q)
   generalize searchL (aH ps) q=xs at *;generalize bW ps=ds at *;have E5:=Hd csr;have aqm:=Hd csr2;have CDO:=Hd cdo;have HBQ:=Hd hbq;have Vb:=Hd Bf;have alW:=Hd Aa;have rE:xs.length≤6000:=by omega
   clear rO csr csr2 cdo hb hbq Bf Aa GY bY;rw[HWB.out] at v0 v1 v2 v3 v4 b1 b2;go_wp2_with fail;rw[←HWB.out] at v0 v1 v2 v3 v4 b1 b2 ⊢;generalize w6.heap.size=X2 at *;refine(E5.out _ (Q.refl _)).mono ?_;rintro e w7 ⟨av,rfl,OZ,q7⟩;obtain⟨aa,ac,hav,EN⟩:=OZ.value;subst hav;have u0:=ah q7 v0;have u1:=ah q7 v1;have u2:=ah q7 v2;have u3:=ah q7 v3;have u4:=ah q7 v4;have c1:=ah q7 b1;have c2:=ah q7 b2;have ny:=Hd q7;have HA:=Hd OZ;clear q7 OZ EN v0 v1 v2 v3 v4 b1 b2;go_wp2_with fail;refine(aqm.out _ ny.out).mono ?_;rintro e w8 ⟨av2,rfl,alX,q8⟩;obtain⟨aa2,ac2,auD,EN⟩:=alX.value;subst auD;have v0:=ah q8 u0;have v1:=ah q8 u1;have v2:=ah q8 u2;have v3:=ah q8 u3;have v4:=ah q8 u4;have d1:=ah q8 c1;have wu:=Hd (ny.out.trans q8);have HA8:=Hd (HA.out.stays q8);have HA2:=Hd alX;clear q8 alX EN u0 u1 u2 u3 u4 c1 c2 aqm;go_wp2_with fail;refine(xE _ _ xs w8 HA8.out HA2.out (by omega)).mono ?_
   rintro e w9 ⟨rfl,q9⟩;have u0:=ah q9 v0;have u1:=ah q9 v1;have u2:=ah q9 v2;have u3:=ah q9 v3;have u4:=ah q9 v4;have c1:=ah q9 d1;have xK:=Hd (wu.out.trans q9);have XY:=Hd (HA8.out.stays q9);clear q9 v0 v1 v2 v3 v4 d1;go_wp2_with fail;refine(CDO.out _ xK.out).mono ?_;rintro e w10 ⟨dv,rfl,ho,q10⟩;have JF:Docs w10 dv ds:=Sl.of_owns ho;obtain⟨da,dc,alY,QY⟩:=JF.value;subst alY;have v0:=ah q10 u0;have v1:=ah q10 u1;have v2:=ah q10 u2;have v3:=ah q10 u3;have v4:=ah q10 u4;have EK:=Hd (xK.out.trans q10);have Ig:=Hd (XY.out.stays q10);have HD:=Hd JF;have HDX:=Hd QY;clear q10 ho JF QY u0 u1 u2 u3 u4 c1;by_cases h0:ds.length=0
   ·have Ql:=Vb.out h0
    subst Ql;have Uo:ds=[]:=List.eq_nil_of_length_eq_zero h0;subst Uo;clear h0;go_wp2_with fail;go_ret;exact⟨rfl,HQWb.out.trans EK.out⟩
   ·have h0i:¬(ds.length:Int)=0:=by omega
    have h0b:((ds.length:Int)==0)=false:=by simpa using h0i
    have h0p:(0:Int)<(ds.length:Int):=by omega
    by_cases h50:(50:Int)<(ds.length:Int)
    ·go_wp2_with fail
     go_ret;exact⟨rfl,HQWb.out.trans EK.out⟩
    ·obtain⟨dS,aO,jJ⟩:=HBQ.out (by omega) (by omega)
     have jT:=Hd dS;have eG:=Hd aO;have iZ:=Hd jJ;clear dS aO jJ h0;go_wp2_with fail;have oQ:∀j,(kJ (ds.drop j).reverse).length≤6000:=fun j=>by unfold kJ;rw[List.length_map,List.length_reverse,List.length_drop];omega
     have hbe:kJ (ds.drop ds.length).reverse=[]:=by rw[List.drop_length];rfl
     have Ef:kJ (ds.drop 0).reverse=kJ ds.reverse:=by rw[List.drop_zero]
     have Ei:=bulk_drop ds;have hbr:∀o∈kJ ds.reverse,o.2.1.length≤9223372036854775807∧o.2.2.length≤9223372036854775807:=fun o ho=>by
      obtain⟨d,hd,rfl⟩:=List.mem_map.1 ho;have:=right_len (alW.out d (List.mem_reverse.1 hd));simp only;omega
     generalize hR:(fun j=>kJ (ds.drop j).reverse)=R at *
     have hRj:∀j,kJ (ds.drop j).reverse=R j:=fun j=>by rw[←hR]
     simp only[hRj] at oQ hbe Ef Ei;have zh:=Hd oQ;have HBE:=Hd hbe;have HBZ:=Hd Ef;have Na:=Hd Ei;have HBR:=Hd hbr;clear hR hRj oQ hbe Ef Ei hbr;obtain⟨io,hio,apn,apo,apq⟩:=info_parts Si;have V0:=Hd v0;have V1:=Hd v1;have V2:=Hd v2;have V3:=Hd v3;have V4:=Hd v4;clear v0 v1 v2 v3 v4;go_loopw [14,15] (fun ov i wr=>∃kk:Nat,kk≤ds.length∧i=.int .i64 ((kk:Int)-1)∧Hid (wr.ownsRow w10.heap.size 62 3 ov (R kk).length (wR (R kk)))∧Hid (Q w10 wr)) (fun _ i _=>(intOf i+1).toNat)
     case atStart=>exact⟨ds.length,Nat.le_refl _,rfl,by show World.ownsRow _ _ _ _ _ _ _;rw[HBE.out];exact World.ownsRow_nil _ _ _ _,Q.refl _⟩
     case round =>
      obtain⟨kk,hk,hi,HR,HQk⟩:=hrel;obtain⟨wo,rfl⟩:∃wo:World,wo=wr:=⟨_,rfl⟩;cases kk with
      | succ j =>
       rw[show(((j+1:Nat):Int)-1)=(j:Int) by omega] at hi
       subst hi;have hlt:j<ds.length:=by omega
       obtain⟨b,off,rfl,bC⟩:=HDX.out (by omega)
       obtain⟨c0,c1⟩:=bC j hlt;have d0:=ah HQk.out c0;have d1:=ah HQk.out c1;have Ei:=Na.out j hlt;have oQ:=zh.out (j+1);have ql:(j:Int)<(ds.length:Int):=by omega
       have gY:(0:Int)≤(j:Int):=by omega
       have hro:=HR.out;generalize ds[j]=d at *;obtain⟨did,dtx⟩:=d;simp only at d0 d1;have auE:=Hd Ei;have fC:w10.heap.size≤wo.heap.size:=HQk.out.size;clear bC c0 c1 Ei HR;generalize R (j+1)=rs at *;go_wp2_with (at_builtin;go_must (refine cZ wo (by rfl) _ _ 58 (by rfl) w10.heap.size 62 _ io (.agg #[.bool false,ak [],ak []]) 3 40 Tryz.underlying58 hio apn apo apq rfl (by decide) (by decide) _ _ _ (by rfl) hro #[.bool false,ak did,ak dtx] (by simp[Act.eval]) rfl ?c1 ?c2 fC ?_))
       case c1=>simp[Value.oneCell']
       case c2=>omega
       intro g6 cap6 w11 aQ hg lN uz tq;have q11:Q w10 w11:=grown_below HQk.out hro hg (Nat.le_refl _) fC;have IZ:w11.ownsRow w10.heap.size 62 3 (.slice (some ⟨g6,0,none⟩) (rs.length+1) cap6) (R j).length (wR (R j)):=by
        rw[auE.out,LX,List.length_append];exact aQ
       have BK:=Hd IZ;have aeh:=Hd q11;clear aQ IZ hg lN q11 hro d0 d1;go_wp2_with fail;go_roundw;case rel=>exact⟨j,by omega,rfl,BK,aeh⟩
       case measure=>simp[intOf]<;>omega
      | zero =>
       rw[show(((0:Nat):Int)-1) = -1 from rfl] at hi
       subst hi;have hro:=HR.out;rw[HBZ.out] at hro;have Qv:Ops wo _ (kJ ds.reverse):=Sl.of_owns hro;have auF:=zh.out 0;rw[HBZ.out] at auF;obtain⟨oa,oc,hov,_⟩:=Qv.value;subst hov;have mF:=HQk.out;have HQK:=Hd (EK.out.trans mF);have cap:=P5 (.slice none 0 0) [] _ (kJ ds.reverse) wo (D9 wo) Qv (by omega) HBR.out (by simp) (fun p hp=>by simp at hp) (HT.out.stays (HQWb.out.trans HQK.out)) (nX.out.stays (HQWb.out.trans HQK.out))
       rw[jT.out] at cap;have CAP:=Hd cap;have u0:=ah HQk.out V0.out;have u1:=ah HQk.out V1.out;have u2:=ah HQk.out V2.out;have u3:=ah HQk.out V3.out;have u4:=ah HQk.out V4.out;have HAk:=Hd (Ig.out.stays HQk.out);clear cap hro Qv HR HQk mF;generalize kJ ds.reverse=bs at *;go_wp2_with fail;refine CAP.out.mono ?_;rintro e w12 ⟨⟨nv,rfl,KX⟩,q12⟩;obtain⟨na,nc,hnv,_⟩:=KX.value;subst hnv;generalize hAP:fB [] bs=AP at *;obtain⟨ps3,bb,ee⟩:=AP;simp only at KX;have ng:=Q.alloc w12 (.cells #[.slice na ps3.length nc] 31);have RG:=q12.trans ng;have v0:=ah RG u0;have v1:=ah RG u1;have v2:=ah RG u2;have v3:=ah RG u3;have v4:=ah RG u4;have b3:=(Boxed.new w12 31 (.slice na ps3.length nc)).cell;have X0:=HQWb.out.trans (HQK.out.trans RG);have ayp:ps3.length≤1:=by have:=Pn [] bs;rw[hAP] at this;simpa using this
       have cs3:=kD (w12.alloc (.cells #[.slice na ps3.length nc] 31)) _ ps3 q _ (KX.stays ng) eG.out (by omega) (HQ.out.stays X0) RF.out (by have:=AB.out;omega) (HT.out.stays X0) (nX.out.stays X0)
       rw[iZ.out] at cs3;have CS3:=Hd cs3;have auG:=Hd (HAk.out.stays RG);have aqO:=Hd X0;clear KX q12 ng RG X0 cs3 u0 u1 u2 u3 u4 hAP;go_wp2_with fail;refine CS3.out.mono ?_;rintro e w14 ⟨fv,rfl,hf,q14⟩;obtain⟨fa,fc,hfv,_⟩:=hf.value;subst hfv;have auH:=Hd (auG.out.stays q14);have HF:=Hd hf;have auI:=Hd (aqO.out.trans q14);clear hf q14 v0 v1 v2 v3 v4 b3;go_wp2_with fail;refine(xE _ _ xs w14 HF.out auH.out (by omega)).mono ?_
       rintro e w15 ⟨rfl,q15⟩;go_wp2_with fail;go_ret;exact⟨rfl,auI.out.trans q15⟩
end
end Go.Proofs.YteddhajdandopaaGreatDoor
