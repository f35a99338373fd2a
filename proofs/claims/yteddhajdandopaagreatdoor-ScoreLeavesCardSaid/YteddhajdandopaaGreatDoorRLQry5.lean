/- Joined texts of one proof: what is needed of Qry5, Qry7, WRef17d, W18f, W18h, WLeaves. -/
import Derived.Test.YteddhajdandopaaGreatDoorRWBin
import Derived.Test.YteddhajdandopaaGreatDoorROpen0
import Derived.Test.YteddhajdandopaaGreatDoorRWRef17a
import Derived.Test.YteddhajdandopaaGreatDoorRWPostI
import Derived.Test.YteddhajdandopaaGreatDoorRQry6
import Derived.Test.YteddhajdandopaaGreatDoorRMaps
import Derived.Test.YteddhajdandopaaGreatDoorRQryS
import Derived.Test.YteddhajdandopaaGreatDoorRWSh18
import Derived.Test.YteddhajdandopaaGreatDoorRWRef15e
import Derived.Deep.RegionHeld3
import Derived.Deep.QuietTactic
set_option linter.unusedSimpArgs false
set_option linter.unusedVariables false
set_option linter.unnecessarySimpa false
set_option maxRecDepth 100000
set_option maxHeartbeats 8000000
namespace Go.Proofs.YteddhajdandopaaGreatDoor
section
theorem UW(ds:List au)(q:QL)(h:dY):h∈searchL ds q↔∃d∈ds,kZ (wtL ds) q d=some h:=by
 rw[(sN ds q).mem_iff];unfold D6;rw[List.mem_filterMap]
theorem UY{wt:Bytes→Nat}{q:QL}{d:au}{h:dY}(e:kZ wt q d=some h):h.1=d.1∧bg q (aA d.2)=true∧h.2=jK wt q (aA d.2):=by
 unfold kZ lH at e;cases hm:bg q (aA d.2) with
 | false=>rw[hm] at e;cases e
 | true=>rw[hm] at e;cases e;exact⟨rfl,rfl,rfl⟩
theorem hits_ids(ds:List au)(q:QL):((D6 ds q).map (·.1)).Sublist (ds.map (·.1)):=by
 unfold D6;generalize wtL ds=wt;induction ds with
 | nil=>exact List.Sublist.slnil
 | cons d ds ih =>
  cases h:kZ wt q d with
  | none=>rw[List.filterMap_cons_none h];exact ih.cons _
  | some x =>
   rw[List.filterMap_cons_some h,List.map_cons,List.map_cons,(UY h).1];exact ih.cons_cons _
theorem Ob(ds:List au)(q:QL)(hn:(ds.map (·.1)).Nodup):((searchL ds q).map (·.1)).Nodup :=
 ((sN ds q).map (·.1)).nodup_iff.2 (hn.sublist (hits_ids ds q))
def l7(l:List dY)(id:Bytes):Option Nat:=(l.find? fun h=>h.1==id).map (·.2)
theorem findH_of{l:List dY}(hn:(l.map (·.1)).Nodup){h:dY}(hm:h∈l):l7 l h.1=some h.2:=by
 unfold l7;induction l with
 | nil=>simp at hm
 | cons x l ih =>
  rw[List.map_cons,List.nodup_cons] at hn;rw[List.find?_cons];rcases List.mem_cons.1 hm with rfl|hm
  ·simp
  ·have:(x.1==h.1)=false:=by
    rw[beq_eq_false_iff_ne];intro e;exact hn.1 (by rw[e];exact List.mem_map.2 ⟨h,hm,rfl⟩)
   rw[this];exact ih hn.2 hm
theorem WI{l:List dY}{id:Bytes}(h:id∉l.map (·.1)):l7 l id=none:=by
 unfold l7;rw[List.find?_eq_none.2 (fun x hx e=>h (by rw[←eq_of_beq e];exact List.mem_map.2 ⟨x,hx,rfl⟩))]
 rfl
theorem TF(ds:List au)(q:QL)(hn:(ds.map (·.1)).Nodup)(d:au)(hd:d∈ds):l7 (searchL ds q) d.1=lH (wtL ds) (aA d.2) q:=by
 cases hm:bg q (aA d.2) with
 | true =>
  have h1:=WH (wtL ds) hm;have h2:=findH_of (Ob ds q hn) ((UW ds q _).2 ⟨d,hd,h1⟩);unfold lH;rw[hm];exact h2
 | false =>
  unfold lH;rw[hm];refine WI ?_;intro h;obtain⟨x,hx,he⟩:=List.mem_map.1 h;obtain⟨e,h1,h2⟩:=(UW ds q x).1 hx;obtain⟨h3,h4,_⟩:=UY h2;have:e=d:=by
   obtain⟨i,hi⟩:=List.getElem?_of_mem h1;obtain⟨j,hj⟩:=List.getElem?_of_mem hd;have:=at_one hn hi hj (by rw[←h3,he])
   subst this;rw[hi] at hj;cases hj;rfl
  subst this;rw[hm] at h4;cases h4
abbrev Fz(q:QL):QL:=.mk 5 [] [] [] [q]
abbrev allQ:QL:=.mk 1 [] [] [] []
theorem KF(q:QL)(t:bP):bg (Fz q) t = !bg q t:=by simp[bg,allT,qP]
theorem match_all(t:bP):bg allQ t=true:=by simp[bg]
theorem score_not(wt:Bytes→Nat)(q:QL)(t:bP):jK wt (Fz q) t=0:=by simp[jK,sumT,DV]
theorem I9(ds:List au)(q:QL)(hn:(ds.map (·.1)).Nodup)(h:dY)(hm:h∈searchL ds q):∃d∈ds,h.1=d.1∧bg q (aA d.2)=true∧h.2=jK (wtL ds) q (aA d.2)∧∀p:QL,l7 (searchL ds p) h.1=lH (wtL ds) (aA d.2) p:=by
 obtain⟨d,hd,he⟩:=(UW ds q h).1 hm;obtain⟨h1,h2,h3⟩:=UY he;exact⟨d,hd,h1,h2,h3,fun p=>by rw[h1];exact TF ds p hn d hd⟩
theorem all_len(ds:List au):(searchL ds allQ).length=ds.length:=by
 rw[nD,List.filter_eq_self.2 (fun d _=>match_all _)]
theorem not_len(ds:List au)(q:QL):(searchL ds q).length+(searchL ds (Fz q)).length=ds.length:=by
 rw[nD,nD];have:(ds.filter fun d=>bg (Fz q) (aA d.2))=ds.filter fun d => !bg q (aA d.2):=List.filter_congr fun d _=>KF q _
 rw[this];induction ds with
 | nil=>rfl
 | cons d ds ih =>
  cases h:bg q (aA d.2) with
  | true =>
   rw[List.filter_cons_of_pos (p:=fun d:au=>bg q (aA d.2)) h,List.filter_cons_of_neg (p:=fun d:au => !bg q (aA d.2)) (by simp[h]),List.length_cons,List.length_cons]
   have:=ih (List.filter_congr fun d _=>KF q _)
   omega
  | false =>
   rw[List.filter_cons_of_neg (p:=fun d:au=>bg q (aA d.2)) (by simp[h]),List.filter_cons_of_pos (p:=fun d:au => !bg q (aA d.2)) (by simp[h]),List.length_cons,List.length_cons]
   have:=ih (List.filter_congr fun d _=>KF q _)
   omega
theorem not_hit(ds:List au)(q:QL)(hn:(ds.map (·.1)).Nodup)(h:dY)(hm:h∈searchL ds (Fz q)):l7 (searchL ds q) h.1=none∧h.2=0:=by
 obtain⟨d,hd,h1,h2,h3,h4⟩:=I9 ds _ hn h hm;rw[KF] at h2;rw[score_not] at h3;refine⟨?_,h3⟩;rw[h4];unfold lH;rw[if_neg (by simpa using h2)]
end
section
open Go.RowKit
def uT(q:QL):Bool:=wQ q&&decide (dh q≤40)
theorem Gv(q:QL)(v:Value)(w:World)(ht:txtQ q)(h:QryAt w q v):
  Calls Tryz.prog 11 #[v] w fun e w'=>e=.returned (.bool (uT q))∧Q w w':=by
 obtain⟨k,s,m,sh,n,rfl⟩:∃k s m sh n,q=.mk k s m sh n:=by cases q;exact⟨_,_,_,_,_,rfl⟩
 have h':=h;obtain⟨vm,vs,vn,rfl,⟨a1,p1,rfl,x1⟩,⟨a2,p2,rfl,x2⟩,⟨a3,p3,rfl,x3⟩⟩:=h.open;have hb:=Q.alloc w (.cells #[.int .i64 k,ak s,.slice a1 m.length p1,.slice a2 sh.length p2,.slice a3 n.length p3] 25);obtain⟨k0,k1,k2,k3,k4⟩:=(Blk.new w 25 #[.int .i64 k,ak s,.slice a1 m.length p1,.slice a2 sh.length p2,.slice a3 n.length p3]).c5;have cs:=WZ (.mk k s m sh n) _ _ (h'.stays hb);have cn:=fun (W:World) (hq:Q w W)=>Gj (.mk k s m sh n) _ W ht (h'.stays hq)
 have hsr:(wQ (.mk k s m sh n)=true→(yg (.mk k s m sh n)).1=dh (.mk k s m sh n))∧(yg (.mk k s m sh n)).1≤1001∧(yg (.mk k s m sh n)).2≤1001:=by
  have:=IW (.mk k s m sh n);refine⟨fun hh=>?_,?_,?_⟩
  ·unfold wQ at hh
   rw[Bool.and_eq_true,Bool.and_eq_true,decide_eq_true_eq] at hh;unfold yg;rw[if_neg (by omega)]
  ·unfold yg;split
   ·exact Nat.le_refl _
   ·simp only;omega
  ·unfold yg;split
   ·exact Nat.zero_le _
   ·simp only;omega
 have hr:uT (.mk k s m sh n)=(wQ (.mk k s m sh n)&&decide (dh (.mk k s m sh n)≤40)):=rfl;rw[hr];generalize hZ:dh (.mk k s m sh n)=Z at *;generalize hN:wQ (.mk k s m sh n)=b at *;generalize hS:yg (.mk k s m sh n)=S at *;obtain⟨S1,S2⟩:=S;simp only at hsr cs;obtain⟨dN,kE,kP⟩:=hsr;have HB:=Hd hb;have CS:=Hd cs;have CN:=Hd cn;clear hb cs cn h h' x1 x2 x3 hZ hN hS hr;cases b with
 | false =>
  clear dN;go_enter Tryz.func11,Tryz.ntmps11;go_wp2_with fail;refine CS.out.mono ?_;rintro e w1 ⟨rfl,q1⟩;have aC:=Hd (HB.out.trans q1);have u0:=ah q1 k0;have u1:=ah q1 k1;have u2:=ah q1 k2;have u3:=ah q1 k3;have u4:=ah q1 k4;clear q1 k0 k1 k2 k3 k4;go_wp2_with fail;refine(CN.out _ aC.out).mono ?_;rintro e w2 ⟨rfl,q2⟩;have aS:=Hd (aC.out.trans q2);clear q2 u0 u1 u2 u3 u4;go_wp2_with fail;go_ret;exact⟨rfl,aS.out⟩
 | true =>
  have vN:=dN rfl;subst vN;clear dN;have hle:decide ((S1:Int)≤40)=decide (S1≤40):=by by_cases h:S1≤40<;>simp[h]<;>omega
  have Lh:=Hd hle;clear hle;go_enter Tryz.func11,Tryz.ntmps11;go_wp2_with fail;refine CS.out.mono ?_;rintro e w1 ⟨rfl,q1⟩;have aC:=Hd (HB.out.trans q1);have u0:=ah q1 k0;have u1:=ah q1 k1;have u2:=ah q1 k2;have u3:=ah q1 k3;have u4:=ah q1 k4;clear q1 k0 k1 k2 k3 k4;go_wp2_with fail;refine(CN.out _ aC.out).mono ?_;rintro e w2 ⟨rfl,q2⟩;have aS:=Hd (aC.out.trans q2);clear q2 u0 u1 u2 u3 u4;go_wp2_with fail;go_ret;exact⟨eX Lh.out,aS.out⟩
theorem aiy(hs:List dY)(id:Bytes)(k:Nat)(h:k<hs.length):l7 (hs.drop k) id=if hs[k].1=id then some hs[k].2 else l7 (hs.drop (k+1)) id:=by
 rw[List.drop_eq_getElem_cons h];unfold l7;rw[List.find?_cons];by_cases e:hs[k].1=id
 ·rw[if_pos e,beq_iff_eq.2 e];rfl
 ·rw[if_neg e,beq_eq_false_iff_ne.2 e]
theorem yh(v:Value)(hs:List dY)(id:Bytes)(w:World)(hv:Hits w v hs)(hn:hs.length≤1000000000):
  Calls Tryz.prog 20 #[v,ak id] w fun e w'=>e=.returned (.tuple #[.int .i64 ((l7 hs id).getD 0:Nat),.bool (l7 hs id).isSome])∧w=w':=by
 obtain⟨a,cap,rfl,hc⟩:=hv.value;have HC:=Hd hc;clear hv hc;go_enter Tryz.func20,Tryz.ntmps20;go_wp2_with fail;go_loop [6] (fun i=>∃k:Nat,k≤hs.length∧i=.int .i64 (k:Nat)∧Hid (l7 hs id=l7 (hs.drop k) id)) (fun i=>hs.length-(intOf i).toNat)
 case atStart=>exact⟨0,by omega,rfl,rfl⟩
 case round =>
  obtain⟨k,hk,rfl,HF⟩:=hrel;by_cases hlt:k<hs.length
  ·obtain⟨b,off,rfl,bC⟩:=HC.out (by omega)
   obtain⟨c0,c1⟩:=bC k hlt;have ql:(k:Int)<(hs.length:Int):=by omega
   have gY:(0:Int)≤(k:Int):=by omega
   have aI:=aiy hs id k hlt;rw[←HF.out] at aI;clear bC;generalize hs[k]=h at *;obtain⟨t,s⟩:=h;simp only at c0 c1 aI;by_cases e:t=id
   ·subst e
    rw[if_pos rfl] at aI;have bJ:=Hd aI;clear aI;go_wp2_with fail;go_ret2;exact⟨by rw[bJ.out];rfl,rfl⟩
   ·rw[if_neg e] at aI
    have bJ:=Hd aI;have zI:(t==id)=false:=by simpa using e
    have zJ:@BEq.beq (List UInt8) instBEqOfDecidableEq t id=false:=by simpa using e
    have zK:@BEq.beq (List UInt8) List.instBEq t id=false:=by simpa using e
    clear aI e;go_wp2_with fail;go_round;case rel=>exact⟨k+1,by omega,by go_num,bJ⟩
    case measure=>simp[intOf];omega
  ·have cO:k=hs.length:=by omega
   subst cO;have hf:=HF.out;rw[List.drop_length] at hf;have HFF:=Hd hf;clear hf;go_wp2_with fail;go_ret2;exact⟨by rw[HFF.out];rfl,rfl⟩
theorem KJ(w:World)(q:QL)(c0 c1 c2 c3 c4:Value)(t:TypeId)(h:QryAt w q (.agg #[c0,c1,c2,c3,c4])):QrysAt (w.alloc (.cells #[c0,c1,c2,c3,c4] t)) (.slice (some ⟨w.heap.size,0,none⟩) 1 1) [q]:=by
 refine⟨_,_,rfl,fun _=>⟨_,_,rfl,?_⟩⟩
 have hb:=Blk.new w t #[c0,c1,c2,c3,c4];obtain⟨k0,k1,k2,k3,k4⟩:=hb.c5;unfold QcellsAt;refine⟨⟨c0,c1,c2,c3,c4,⟨k0,k1,k2,k3,k4⟩,h.stays (Q.alloc _ _)⟩,?_⟩;unfold QcellsAt;trivial
theorem not_at{w:World}{q:QL}{v:Value}(h:QrysAt w v [q]):QryAt w (Fz q) (.agg #[.int .i64 5,ak [],.slice none 0 0,.slice none 0 0,v]):=QryAt.mk' (QrysAt.nil w) (QrysAt.nil w) h
theorem zN{q:QL}(h:uT q=true):iD q=true∧dh q≤40:=by
 unfold uT at h;rw[Bool.and_eq_true,decide_eq_true_eq] at h;exact⟨(Ee h.1).1,h.2⟩
theorem SC{w w':World}{a:Addr}{v:Value}(q:Q w w')(h:w.cell? a=some v):w'.cell? a=some v:=ah q h
theorem SLeaves_walk(v:Value)(l:List uD)(qv:Value)(q:QL)(W:World)(hv:Acts W v l)(hq:QryAt W q qv)(AY:ActsWf l)(xA:txtQ q)(hT:Tabs W)(gG:Spans W):
  Calls Tryz.prog 5 #[v,qv] W fun e w'=>e=.returned (.bool true)∧Below W.heap.size W w':=by
 have csh:=fun W' (h:Q W W')=>MP W' (hT.stays h) (gG.stays h)
 have csm:=fun W' (h:Q W W')=>BG v l W' (hv.stays h) AY.1 AY.2
 have cli:=fun W' (h:Q W W')=>Gv q qv W' xA (hq.stays h)
 have mF:=hq;obtain⟨k,s,m,sh,n,rfl⟩:∃k s m sh n,q=.mk k s m sh n:=by cases q;exact⟨_,_,_,_,_,rfl⟩
 obtain⟨vm,vs,vn,rfl,⟨a1,p1,rfl,x1⟩,⟨a2,p2,rfl,x2⟩,⟨a3,p3,rfl,x3⟩⟩:=hq.open;have hb:=Q.alloc W (.cells #[.int .i64 k,ak s,.slice a1 m.length p1,.slice a2 sh.length p2,.slice a3 n.length p3] 25);obtain⟨k0,k1,k2,k3,k4⟩:=(Blk.new W 25 #[.int .i64 k,ak s,.slice a1 m.length p1,.slice a2 sh.length p2,.slice a3 n.length p3]).c5;have Aa:=fun (hl:uT (.mk k s m sh n)=true)=>zN hl
 generalize hqe:QL.mk k s m sh n=q at *;generalize m.length=ml at *;generalize sh.length=sl at *;generalize n.length=nl at *;obtain⟨va,vc,EI,_⟩:=hv.value;subst EI;have HV:=Hd hv;have HQ:=Hd mF;have HT:=Hd hT;have nX:=Hd gG;have HB:=Hd hb;have XV:=Hd csh;have XW:=Hd csm;have Uy:=Hd cli;have HTX:=Hd xA;have HLW:=Hd AY;have HRT:=Hd Aa;clear hv mF hq hT gG hb csh csm cli xA AY hqe x1 x2 x3 Aa;go_enter Tryz.func5,Tryz.ntmps5;go_wp2_with fail;refine(XV.out _ HB.out).mono ?_;rintro e w1 ⟨rfl,q1⟩;have aC:=Hd (HB.out.trans q1);have g0:=ah q1 k0;have g1:=ah q1 k1;have g2:=ah q1 k2;have g3:=ah q1 k3;have g4:=ah q1 k4;clear q1 k0 k1 k2 k3 k4;go_wp2_with fail;refine(XW.out _ aC.out).mono ?_;rintro e w2 ⟨rfl,rfl⟩;cases dN:qB l with
 | false =>
  go_wp2_with fail;refine(Uy.out _ aC.out).mono ?_;rintro e w3 ⟨rfl,q3⟩;clear g0 g1 g2 g3 g4;go_wp2_with fail;go_ret;exact⟨rfl,aC.out.trans q3⟩
 | true =>
  have su:=Hd dN;clear dN;go_wp2_with fail;refine(Uy.out _ aC.out).mono ?_;rintro e w3 ⟨rfl,q3⟩;have bZ:=Hd (aC.out.trans q3);have y0:=ah q3 g0;have y1:=ah q3 g1;have y2:=ah q3 g2;have y3:=ah q3 g3;have y4:=ah q3 g4;clear q3 g0 g1 g2 g3 g4;cases jZ:uT q with
  | false =>
   clear y0 y1 y2 y3 y4;go_wp2_with fail;go_ret;exact⟨rfl,bZ.out⟩
  | true =>
   obtain⟨wB,aY⟩:=HRT.out jZ;have xC:QryAt (w3.alloc (.cells #[.int .i64 k,ak s,.slice a1 ml p1,.slice a2 sl p2,.slice a3 nl p3] 25)) (Fz q) (.agg #[.int .i64 5,ak [],.slice none 0 0,.slice none 0 0,.slice (some ⟨w3.heap.size,0,none⟩) 1 1]):=not_at (KJ w3 q _ _ _ _ _ 25 (HQ.out.stays bZ.out));have crt:=Gj (Fz q) _ _ (by rw[txtQ];exact⟨by simp,by rw[pV];trivial,by rw[pV];trivial,by rw[pV,pV];exact⟨HTX.out,trivial⟩⟩) xC
   have CRT:=Hd crt;have ng:=Q.alloc w3 (.cells #[.int .i64 k,ak s,.slice a1 ml p1,.slice a2 sl p2,.slice a3 nl p3] 25);have RD:=Hd ng;have RF:=Hd wB;have AB:=Hd aY;have z0:=ah ng y0;have z1:=ah ng y1;have z2:=ah ng y2;have z3:=ah ng y3;have z4:=ah ng y4;clear xC crt ng wB aY jZ;go_wp2_with fail;clear y0 y1 y2 y3 y4;refine CRT.out.mono ?_;rintro e w4 ⟨rfl,q4⟩;have pF:=Hd ((bZ.out.trans RD.out).trans q4);have y0:=ah q4 z0;have y1:=ah q4 z1;have y2:=ah q4 z2;have y3:=ah q4 z3;have y4:=ah q4 z4;clear q4 z0 z1 z2 z3 z4 RD;cases hr:wQ (Fz q) with
   | false =>
    clear y0 y1 y2 y3 y4;go_wp2_with fail;go_ret;exact⟨rfl,pF.out⟩
   | true =>
    obtain⟨qG,Dx⟩:=Ee hr;have xP:=sW su.out;have cmd:=Ar _ l true w4 (HV.out.stays pF.out) (by omega) (fun a ha=>⟨by have:=(xP.2 a ha).1;omega,fun o ho=>by have:=(xP.2 a ha).2 o ho;omega⟩) (HT.out.stays pF.out) (nX.out.stays pF.out)
    obtain⟨sV,gQ,sO⟩:=wV true l su.out;generalize je true l l.length=ps at *;have Lp:=Hd cmd;have uq:=Hd sV;have Qm:=Hd qG;have OW:=Hd Dx;clear cmd sV qG Dx hr xP CRT;go_wp2_with fail;refine Lp.out.mono ?_;rintro e w5 ⟨⟨lv,mv,pl,rfl,hp,wZ,sU⟩,q5⟩;obtain⟨la,lc,Qn,_⟩:=hp.value;subst Qn;obtain⟨ma,mc,Nz,_⟩:=wZ.value;subst Nz;have HP:=Hd hp;have mZ:=Hd (pF.out.trans q5);have Cm:=Q.alloc w5 (.cells #[.slice la ps.length lc] 31);have oM:=q5.trans Cm;have x0:=ah oM y0;have x1:=ah oM y1;have x2:=ah oM y2;have x3:=ah oM y3;have x4:=ah oM y4;have bx:=(Boxed.new w5 31 (.slice la ps.length lc)).cell;have csr:=fun (W':World) (hq:Q w5 W') (q':QL) (qv':Value) (rQ:QryAt W' q' qv') (hn:iD q'=true) (hz:dh q'≤100)=>kD W' _ ps q' qv' (HP.out.stays hq) uq.out (by omega) rQ hn hz (HT.out.stays (mZ.out.trans hq)) (nX.out.stays (mZ.out.trans hq))
    have cmy:=fun (W':World) (hq:Q w5 W')=>UZ _ ps W' (HP.out.stays hq) (by omega) uq.out.1
    rw[show(uI ps).length=(aH ps).length by rw[Cj ps uq.out.2]] at cmy
    have bY:=fun q'=>Au (aH ps) q'
    have wB:=uq.out.2;have aF:=not_len (aH ps) q;have hae:=all_len (aH ps);have hnh:=not_hit (aH ps) q wB;have E5:=Hd csr;have CMY:=Hd cmy;have HNH:=Hd hnh;have Ie:=Hd Cm;have Jw:=Hd (HQ.out.stays (pF.out.trans oM));have h1:=bY q;have h2:=bY (Fz q);have h3:=bY allQ;generalize (aH ps).length=nl0 at *;generalize um:searchL (aH ps) q=xs at *;generalize hys:searchL (aH ps) (Fz q)=ys at *;generalize uU:searchL (aH ps) allQ=zs at *;subst hae;have Nr:=Hd um;have HYS:=Hd hys;have HZS:=Hd uU;have mY:IntKind.i64.wrap ((xs.length:Int)+(ys.length:Int))=(zs.length:Int):=by rw[IntWalk.i64_in _ (by omega)];omega
    clear aF hp wZ sU q5 y0 y1 y2 y3 y4 Lp csr cmy hnh Cm oM bY wB um hys uU;go_wp2_with fail;refine(E5.out _ Ie.out q _ Jw.out RF.out (by have:=AB.out;omega)).mono ?_
    rintro e w6 ⟨av,rfl,OZ,q6⟩;rw[Nr.out] at OZ;obtain⟨aa,ac,hav,_⟩:=OZ.value;subst hav;have u0:=ah q6 x0;have u1:=ah q6 x1;have u2:=ah q6 x2;have u3:=ah q6 x3;have u4:=ah q6 x4;have b6:=ah q6 bx;have fQ:=Hd (Ie.out.trans q6);have HA:=Hd OZ;have auy:=Hd (Jw.out.stays q6);generalize w5.heap.size=X at *;clear q6 OZ x0 x1 x2 x3 x4 bx Ie Jw;have Vx:=Q.alloc w6 (.cells #[.int .i64 k,ak s,.slice a1 ml p1,.slice a2 sl p2,.slice a3 nl p3] 25);have aqf:QryAt (w6.alloc (.cells #[.int .i64 k,ak s,.slice a1 ml p1,.slice a2 sl p2,.slice a3 nl p3] 25)) (Fz q) (.agg #[.int .i64 5,ak [],.slice none 0 0,.slice none 0 0,.slice (some ⟨w6.heap.size,0,none⟩) 1 1]):=not_at (KJ w6 q _ _ _ _ _ 25 auy.out);have b7:=ah Vx b6;have Vy:=Hd Vx;have aqg:=Hd aqf;clear Vx aqf;go_wp2_with fail;refine(E5.out _ (fQ.out.trans Vy.out) (Fz q) _ aqg.out Qm.out OW.out).mono ?_;rintro e w7 ⟨cv,rfl,hhb,q7⟩;rw[HYS.out] at hhb;obtain⟨ca,cc,hcv,_⟩:=hhb.value;subst hcv;have b8:=ah q7 b7;have ny:=Hd ((fQ.out.trans Vy.out).trans q7);have HA7:=Hd (HA.out.stays (Vy.out.trans q7));have vY:=Hd hhb;clear q7 hhb u0 u1 u2 u3 u4 b6 b7 Vy aqg;have pz:Tryz.prog.follows .mixedOrders=true:=by kernel_rfl
    have KK:=Hd (Q.refl w7);go_wp2_with fail;go_region_held3 (fun w'=>w'.cell? ⟨X,0,none⟩=some (.slice la ps.length lc)) (first|exact b8|exact SC (by repeat (first|with_reducible exact KK.out|with_reducible apply Qt.al0|with_reducible apply Qt.dr0)) b8)
     (first
      | (go_at_call 21;refine(oZ 1 [] _).mono ?_;rintro e w8 ⟨rfl,q8⟩;have s':Q w7 w8:=Q.trans (by repeat (first|with_reducible exact KK.out|with_reducible apply Qt.al0|with_reducible apply Qt.dr0)) q8;clear KK;have KK:=Hd s';clear s' q8)
      | (go_at_call 14;refine(E5.out _ (ny.out.trans (by repeat (first|with_reducible exact KK.out|with_reducible apply Qt.al0|with_reducible apply Qt.dr0))) allQ _ (yC _ _ _) (by decide) (by decide)).mono ?_;rintro e w9 ⟨dv,rfl,hhc,q9⟩;rw[HZS.out] at hhc;obtain⟨da,dc,JF,_⟩:=hhc.value;subst JF;have HC9:=Hd hhc;have s':Q w7 w9:=Q.trans (by repeat (first|with_reducible exact KK.out|with_reducible apply Qt.al0|with_reducible apply Qt.dr0)) q9;clear KK;have KK:=Hd s';clear s' q9 hhc))
    all_goals
     have vw:Q w7 _:=(by repeat (first|with_reducible exact KK.out|with_reducible apply Qt.al0|with_reducible apply Qt.dr0))
     have b9:=ah vw b8;have xK:=Hd (ny.out.trans vw);have XY:=Hd (HA7.out.stays vw);have KW:=Hd (vY.out.stays vw);clear vw b8 KK HA7 vY;go_wp2_with fail;refine(CMY.out _ xK.out).mono ?_;rintro e w10 ⟨rfl,q10⟩;have EK:=Hd (xK.out.trans q10);have Ig:=Hd (XY.out.stays q10);have FM:=Hd (KW.out.stays q10);clear q10 b9 xK XY KW;go_wp2_with fail;obtain⟨ba',bc',hvx,hbc⟩:=FM.out.value;cases hvx;have HBC:=Hd hbc;clear hbc;go_loopw [14,15,16] (fun i _ _ wr=>∃j:Nat,j≤ys.length∧i=.int .i64 (j:Nat)∧Hid (Q w10 wr)) (fun i _ _ _=>ys.length-(intOf i).toNat)
     case atStart=>exact⟨0,by omega,rfl,Q.refl _⟩
     case round =>
      obtain⟨j,hj,rfl,HQj⟩:=hrel;obtain⟨wo,rfl⟩:∃wo:World,wo=wr:=⟨_,rfl⟩;by_cases hlt:j<ys.length
      ·obtain⟨b,off,rfl,bC⟩:=HBC.out (by omega)
       obtain⟨c0,c1⟩:=bC j hlt;have d0:=ah HQj.out c0;have d1:=ah HQj.out c1;obtain⟨qC,rD⟩:=HNH.out ys[j] (List.getElem_mem hlt);have cf:=yh _ xs ys[j].1 wo (Ig.out.stays HQj.out) (by omega)
       rw[qC] at cf;rw[rD] at d1;have ql:(j:Int)<(ys.length:Int):=by omega
       have gY:(0:Int)≤(j:Int):=by omega
       have CF:=Hd cf;generalize ys[j].1=id at *;clear cf bC c0 c1 qC rD;go_wp2_with fail;refine CF.out.mono ?_;rintro e w11 ⟨rfl,rfl⟩;go_wp2_with fail;go_roundw;case rel=>exact⟨j+1,by omega,by go_num,HQj⟩
       case measure=>simp[intOf];omega
      ·have cO:ys.length=j:=by omega
       have vU:¬(j:Int)<(ys.length:Int):=by omega
       clear cO;go_wp2_with fail;go_ret;exact⟨rfl,(mZ.out.trans EK.out).trans HQj.out⟩
end
end Go.Proofs.YteddhajdandopaaGreatDoor
