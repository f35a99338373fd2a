/- Joined texts of one proof: what is needed of Qry5, Qry7, WRef17d, W18f, W18h, WAdds. -/
import Derived.Test.YteddhajdandopaaGreatDoorRWBin
import Derived.Test.YteddhajdandopaaGreatDoorROpen0
import Derived.Test.YteddhajdandopaaGreatDoorRWRef17a
import Derived.Test.YteddhajdandopaaGreatDoorRWPostI
import Derived.Test.YteddhajdandopaaGreatDoorRQry6
import Derived.Test.YteddhajdandopaaGreatDoorRMaps
import Derived.Test.YteddhajdandopaaGreatDoorRQryS
import Derived.Test.YteddhajdandopaaGreatDoorRWSh18
import Derived.Test.YteddhajdandopaaGreatDoorRWRef15e
import Derived.Deep.RegionHeld3
import Derived.Deep.QuietTactic
set_option linter.unusedSimpArgs false
set_option linter.unusedVariables false
set_option linter.unnecessarySimpa false
set_option maxRecDepth 100000
set_option maxHeartbeats 8000000
namespace Go.Proofs.YteddhajdandopaaGreatDoor
section
theorem UW(ds:List au)(q:QL)(h:dY):h∈searchL ds q↔∃d∈ds,kZ (wtL ds) q d=some h:=by
 rw[(sN ds q).mem_iff];unfold D6;rw[List.mem_filterMap]
theorem UY{wt:Bytes→Nat}{q:QL}{d:au}{h:dY}(e:kZ wt q d=some h):h.1=d.1∧bg q (aA d.2)=true∧h.2=jK wt q (aA d.2):=by
 unfold kZ lH at e;cases hm:bg q (aA d.2) with
 | false=>rw[hm] at e;cases e
 | true=>rw[hm] at e;cases e;exact⟨rfl,rfl,rfl⟩
theorem hits_ids(ds:List au)(q:QL):((D6 ds q).map (·.1)).Sublist (ds.map (·.1)):=by
 unfold D6;generalize wtL ds=wt;induction ds with
 | nil=>exact List.Sublist.slnil
 | cons d ds ih =>
  cases h:kZ wt q d with
  | none=>rw[List.filterMap_cons_none h];exact ih.cons _
  | some x =>
   rw[List.filterMap_cons_some h,List.map_cons,List.map_cons,(UY h).1];exact ih.cons_cons _
theorem Ob(ds:List au)(q:QL)(hn:(ds.map (·.1)).Nodup):((searchL ds q).map (·.1)).Nodup :=
 ((sN ds q).map (·.1)).nodup_iff.2 (hn.sublist (hits_ids ds q))
def l7(l:List dY)(id:Bytes):Option Nat:=(l.find? fun h=>h.1==id).map (·.2)
theorem findH_of{l:List dY}(hn:(l.map (·.1)).Nodup){h:dY}(hm:h∈l):l7 l h.1=some h.2:=by
 unfold l7;induction l with
 | nil=>simp at hm
 | cons x l ih =>
  rw[List.map_cons,List.nodup_cons] at hn;rw[List.find?_cons];rcases List.mem_cons.1 hm with rfl|hm
  ·simp
  ·have:(x.1==h.1)=false:=by
    rw[beq_eq_false_iff_ne];intro e;exact hn.1 (by rw[e];exact List.mem_map.2 ⟨h,hm,rfl⟩)
   rw[this];exact ih hn.2 hm
theorem WI{l:List dY}{id:Bytes}(h:id∉l.map (·.1)):l7 l id=none:=by
 unfold l7;rw[List.find?_eq_none.2 (fun x hx e=>h (by rw[←eq_of_beq e];exact List.mem_map.2 ⟨x,hx,rfl⟩))]
 rfl
theorem TF(ds:List au)(q:QL)(hn:(ds.map (·.1)).Nodup)(d:au)(hd:d∈ds):l7 (searchL ds q) d.1=lH (wtL ds) (aA d.2) q:=by
 cases hm:bg q (aA d.2) with
 | true =>
  have h1:=WH (wtL ds) hm;have h2:=findH_of (Ob ds q hn) ((UW ds q _).2 ⟨d,hd,h1⟩);unfold lH;rw[hm];exact h2
 | false =>
  unfold lH;rw[hm];refine WI ?_;intro h;obtain⟨x,hx,he⟩:=List.mem_map.1 h;obtain⟨e,h1,h2⟩:=(UW ds q x).1 hx;obtain⟨h3,h4,_⟩:=UY h2;have:e=d:=by
   obtain⟨i,hi⟩:=List.getElem?_of_mem h1;obtain⟨j,hj⟩:=List.getElem?_of_mem hd;have:=at_one hn hi hj (by rw[←h3,he])
   subst this;rw[hi] at hj;cases hj;rfl
  subst this;rw[hm] at h4;cases h4
abbrev Aq(qs:List QL):QL:=.mk 5 [] qs [] []
abbrev Gf(a b:QL):QL:=.mk 5 [] [a] [b] []
theorem WJ(a b:QL)(t:bP):bg (Aq [a,b]) t=(bg a t&&bg b t):=by simp[bg,allT,qP]
theorem WL(a b:QL)(t:bP):bg (Gf a b) t=bg a t:=by simp[bg,allT,qP]
theorem ahZ(wt:Bytes→Nat)(a b:QL)(t:bP):jK wt (Aq [a,b]) t=jK wt a t+jK wt b t:=by simp[jK,sumT,DV]
theorem ah0(wt:Bytes→Nat)(a b:QL)(t:bP):jK wt (Gf a b) t=jK wt a t+(if bg b t then jK wt b t else 0):=by simp[jK,sumT,DV]
theorem I9(ds:List au)(q:QL)(hn:(ds.map (·.1)).Nodup)(h:dY)(hm:h∈searchL ds q):∃d∈ds,h.1=d.1∧bg q (aA d.2)=true∧h.2=jK (wtL ds) q (aA d.2)∧∀p:QL,l7 (searchL ds p) h.1=lH (wtL ds) (aA d.2) p:=by
 obtain⟨d,hd,he⟩:=(UW ds q h).1 hm;obtain⟨h1,h2,h3⟩:=UY he;exact⟨d,hd,h1,h2,h3,fun p=>by rw[h1];exact TF ds p hn d hd⟩
theorem both_hit(ds:List au)(a b:QL)(hn:(ds.map (·.1)).Nodup)(h:dY)(hm:h∈searchL ds (Aq [a,b])):∃n m,l7 (searchL ds a) h.1=some n∧l7 (searchL ds b) h.1=some m∧h.2=n+m:=by
 obtain⟨d,hd,h1,h2,h3,h4⟩:=I9 ds _ hn h hm;rw[WJ,Bool.and_eq_true] at h2;rw[ahZ] at h3;refine⟨_,_,?_,?_,h3⟩
 ·rw[h4];unfold lH;rw[if_pos h2.1]
 ·rw[h4];unfold lH;rw[if_pos h2.2]
theorem with_hit(ds:List au)(a b:QL)(hn:(ds.map (·.1)).Nodup)(h:dY)(hm:h∈searchL ds (Gf a b)):∃n,l7 (searchL ds a) h.1=some n∧h.2=n+(l7 (searchL ds b) h.1).getD 0∧(l7 (searchL ds b) h.1).isSome=(l7 (searchL ds (Aq [a,b])) h.1).isSome:=by
 obtain⟨d,hd,h1,h2,h3,h4⟩:=I9 ds _ hn h hm;rw[WL] at h2;rw[ah0] at h3;refine⟨_,by rw[h4];unfold lH;rw[if_pos h2],?_,?_⟩
 ·rw[h4 b,h3];unfold lH;split<;>rfl
 ·rw[h4,h4];unfold lH;rw[WJ,h2,Bool.true_and]
  cases bg b (aA d.2)<;>rfl
theorem with_len(ds:List au)(a b:QL):(searchL ds (Gf a b)).length=(searchL ds a).length:=by
 rw[nD,nD];congr 1;exact List.filter_congr fun d _=>WL a b _
end
section
open Go.RowKit
def uT(q:QL):Bool:=wQ q&&decide (dh q≤40)
theorem Gv(q:QL)(v:Value)(w:World)(ht:txtQ q)(h:QryAt w q v):
  Calls Tryz.prog 11 #[v] w fun e w'=>e=.returned (.bool (uT q))∧Q w w':=by
 obtain⟨k,s,m,sh,n,rfl⟩:∃k s m sh n,q=.mk k s m sh n:=by cases q;exact⟨_,_,_,_,_,rfl⟩
 have h':=h;obtain⟨vm,vs,vn,rfl,⟨a1,p1,rfl,x1⟩,⟨a2,p2,rfl,x2⟩,⟨a3,p3,rfl,x3⟩⟩:=h.open;have hb:=Q.alloc w (.cells #[.int .i64 k,ak s,.slice a1 m.length p1,.slice a2 sh.length p2,.slice a3 n.length p3] 25);obtain⟨k0,k1,k2,k3,k4⟩:=(Blk.new w 25 #[.int .i64 k,ak s,.slice a1 m.length p1,.slice a2 sh.length p2,.slice a3 n.length p3]).c5;have cs:=WZ (.mk k s m sh n) _ _ (h'.stays hb);have cn:=fun (W:World) (hq:Q w W)=>Gj (.mk k s m sh n) _ W ht (h'.stays hq)
 have hsr:(wQ (.mk k s m sh n)=true→(yg (.mk k s m sh n)).1=dh (.mk k s m sh n))∧(yg (.mk k s m sh n)).1≤1001∧(yg (.mk k s m sh n)).2≤1001:=by
  have:=IW (.mk k s m sh n);refine⟨fun hh=>?_,?_,?_⟩
  ·unfold wQ at hh
   rw[Bool.and_eq_true,Bool.and_eq_true,decide_eq_true_eq] at hh;unfold yg;rw[if_neg (by omega)]
  ·unfold yg;split
   ·exact Nat.le_refl _
   ·simp only;omega
  ·unfold yg;split
   ·exact Nat.zero_le _
   ·simp only;omega
 have hr:uT (.mk k s m sh n)=(wQ (.mk k s m sh n)&&decide (dh (.mk k s m sh n)≤40)):=rfl;rw[hr];generalize hZ:dh (.mk k s m sh n)=Z at *;generalize hN:wQ (.mk k s m sh n)=b at *;generalize hS:yg (.mk k s m sh n)=S at *;obtain⟨S1,S2⟩:=S;simp only at hsr cs;obtain⟨dN,kE,kP⟩:=hsr;have HB:=Hd hb;have CS:=Hd cs;have CN:=Hd cn;clear hb cs cn h h' x1 x2 x3 hZ hN hS hr;cases b with
 | false =>
  clear dN;go_enter Tryz.func11,Tryz.ntmps11;go_wp2_with fail;refine CS.out.mono ?_;rintro e w1 ⟨rfl,q1⟩;have aC:=Hd (HB.out.trans q1);have u0:=ah q1 k0;have u1:=ah q1 k1;have u2:=ah q1 k2;have u3:=ah q1 k3;have u4:=ah q1 k4;clear q1 k0 k1 k2 k3 k4;go_wp2_with fail;refine(CN.out _ aC.out).mono ?_;rintro e w2 ⟨rfl,q2⟩;have aS:=Hd (aC.out.trans q2);clear q2 u0 u1 u2 u3 u4;go_wp2_with fail;go_ret;exact⟨rfl,aS.out⟩
 | true =>
  have vN:=dN rfl;subst vN;clear dN;have hle:decide ((S1:Int)≤40)=decide (S1≤40):=by by_cases h:S1≤40<;>simp[h]<;>omega
  have Lh:=Hd hle;clear hle;go_enter Tryz.func11,Tryz.ntmps11;go_wp2_with fail;refine CS.out.mono ?_;rintro e w1 ⟨rfl,q1⟩;have aC:=Hd (HB.out.trans q1);have u0:=ah q1 k0;have u1:=ah q1 k1;have u2:=ah q1 k2;have u3:=ah q1 k3;have u4:=ah q1 k4;clear q1 k0 k1 k2 k3 k4;go_wp2_with fail;refine(CN.out _ aC.out).mono ?_;rintro e w2 ⟨rfl,q2⟩;have aS:=Hd (aC.out.trans q2);clear q2 u0 u1 u2 u3 u4;go_wp2_with fail;go_ret;exact⟨eX Lh.out,aS.out⟩
theorem aiy(hs:List dY)(id:Bytes)(k:Nat)(h:k<hs.length):l7 (hs.drop k) id=if hs[k].1=id then some hs[k].2 else l7 (hs.drop (k+1)) id:=by
 rw[List.drop_eq_getElem_cons h];unfold l7;rw[List.find?_cons];by_cases e:hs[k].1=id
 ·rw[if_pos e,beq_iff_eq.2 e];rfl
 ·rw[if_neg e,beq_eq_false_iff_ne.2 e]
theorem yh(v:Value)(hs:List dY)(id:Bytes)(w:World)(hv:Hits w v hs)(hn:hs.length≤1000000000):
  Calls Tryz.prog 20 #[v,ak id] w fun e w'=>e=.returned (.tuple #[.int .i64 ((l7 hs id).getD 0:Nat),.bool (l7 hs id).isSome])∧w=w':=by
 obtain⟨a,cap,rfl,hc⟩:=hv.value;have HC:=Hd hc;clear hv hc;go_enter Tryz.func20,Tryz.ntmps20;go_wp2_with fail;go_loop [6] (fun i=>∃k:Nat,k≤hs.length∧i=.int .i64 (k:Nat)∧Hid (l7 hs id=l7 (hs.drop k) id)) (fun i=>hs.length-(intOf i).toNat)
 case atStart=>exact⟨0,by omega,rfl,rfl⟩
 case round =>
  obtain⟨k,hk,rfl,HF⟩:=hrel;by_cases hlt:k<hs.length
  ·obtain⟨b,off,rfl,bC⟩:=HC.out (by omega)
   obtain⟨c0,c1⟩:=bC k hlt;have ql:(k:Int)<(hs.length:Int):=by omega
   have gY:(0:Int)≤(k:Int):=by omega
   have aI:=aiy hs id k hlt;rw[←HF.out] at aI;clear bC;generalize hs[k]=h at *;obtain⟨t,s⟩:=h;simp only at c0 c1 aI;by_cases e:t=id
   ·subst e
    rw[if_pos rfl] at aI;have bJ:=Hd aI;clear aI;go_wp2_with fail;go_ret2;exact⟨by rw[bJ.out];rfl,rfl⟩
   ·rw[if_neg e] at aI
    have bJ:=Hd aI;have zI:(t==id)=false:=by simpa using e
    have zJ:@BEq.beq (List UInt8) instBEqOfDecidableEq t id=false:=by simpa using e
    have zK:@BEq.beq (List UInt8) List.instBEq t id=false:=by simpa using e
    clear aI e;go_wp2_with fail;go_round;case rel=>exact⟨k+1,by omega,by go_num,bJ⟩
    case measure=>simp[intOf];omega
  ·have cO:k=hs.length:=by omega
   subst cO;have hf:=HF.out;rw[List.drop_length] at hf;have HFF:=Hd hf;clear hf;go_wp2_with fail;go_ret2;exact⟨by rw[HFF.out];rfl,rfl⟩
theorem KJ(w:World)(q:QL)(c0 c1 c2 c3 c4:Value)(t:TypeId)(h:QryAt w q (.agg #[c0,c1,c2,c3,c4])):QrysAt (w.alloc (.cells #[c0,c1,c2,c3,c4] t)) (.slice (some ⟨w.heap.size,0,none⟩) 1 1) [q]:=by
 refine⟨_,_,rfl,fun _=>⟨_,_,rfl,?_⟩⟩
 have hb:=Blk.new w t #[c0,c1,c2,c3,c4];obtain⟨k0,k1,k2,k3,k4⟩:=hb.c5;unfold QcellsAt;refine⟨⟨c0,c1,c2,c3,c4,⟨k0,k1,k2,k3,k4⟩,h.stays (Q.alloc _ _)⟩,?_⟩;unfold QcellsAt;trivial
theorem ZG(w:World)(q r:QL)(c0 c1 c2 c3 c4 d0 d1 d2 d3 d4:Value)(t:TypeId)(h:QryAt w q (.agg #[c0,c1,c2,c3,c4]))(k:QryAt w r (.agg #[d0,d1,d2,d3,d4])):QrysAt (w.alloc (.cells #[c0,c1,c2,c3,c4,d0,d1,d2,d3,d4] t)) (.slice (some ⟨w.heap.size,0,none⟩) 2 2) [q,r]:=by
 refine⟨_,_,rfl,fun _=>⟨_,_,rfl,?_⟩⟩
 have hb:=Blk.new w t #[c0,c1,c2,c3,c4,d0,d1,d2,d3,d4];unfold QcellsAt;refine⟨⟨c0,c1,c2,c3,c4,⟨hb.cell 0 _ rfl,hb.cell 1 _ rfl,hb.cell 2 _ rfl,hb.cell 3 _ rfl,hb.cell 4 _ rfl⟩,h.stays (Q.alloc _ _)⟩,?_⟩;unfold QcellsAt;refine⟨⟨d0,d1,d2,d3,d4,⟨hb.cell 5 _ rfl,hb.cell 6 _ rfl,hb.cell 7 _ rfl,hb.cell 8 _ rfl,hb.cell 9 _ rfl⟩,k.stays (Q.alloc _ _)⟩,?_⟩;unfold QcellsAt;trivial
theorem must_at{w:World}{qs:List QL}{v:Value}(h:QrysAt w v qs):QryAt w (Aq qs) (.agg #[.int .i64 5,ak [],v,.slice none 0 0,.slice none 0 0]):=QryAt.mk' h (QrysAt.nil w) (QrysAt.nil w)
theorem with_at{w:World}{a b:QL}{v u:Value}(h:QrysAt w v [a])(k:QrysAt w u [b]):QryAt w (Gf a b) (.agg #[.int .i64 5,ak [],v,u,.slice none 0 0]):=QryAt.mk' h k (QrysAt.nil w)
theorem zN{q:QL}(h:uT q=true):iD q=true∧dh q≤40:=by
 unfold uT at h;rw[Bool.and_eq_true,decide_eq_true_eq] at h;exact⟨(Ee h.1).1,h.2⟩
def Five(w:World)(b:Nat)(v0 v1 v2 v3 v4:Value):Prop:=w.cell? ⟨b,0,none⟩=some v0∧w.cell? ⟨b,1,none⟩=some v1∧w.cell? ⟨b,2,none⟩=some v2∧w.cell? ⟨b,3,none⟩=some v3∧w.cell? ⟨b,4,none⟩=some v4
theorem Five.stays{w w':World}{b:Nat}{v0 v1 v2 v3 v4:Value}(h:Five w b v0 v1 v2 v3 v4)(q:Q w w'):Five w' b v0 v1 v2 v3 v4 :=
 ⟨ah q h.1,ah q h.2.1,ah q h.2.2.1,ah q h.2.2.2.1,ah q h.2.2.2.2⟩
theorem SAdds_walk(v:Value)(l:List uD)(qv:Value)(q:QL)(rv:Value)(r:QL)(W:World)(hv:Acts W v l)(hq:QryAt W q qv)(hr:QryAt W r rv)(AY:ActsWf l)(xA:txtQ q)(hty:txtQ r)(hT:Tabs W)(gG:Spans W):
  Calls Tryz.prog 4 #[v,qv,rv] W fun e w'=>e=.returned (.bool true)∧Below W.heap.size W w':=by
 have csh:=fun W' (h:Q W W')=>MP W' (hT.stays h) (gG.stays h)
 have csm:=fun W' (h:Q W W')=>BG v l W' (hv.stays h) AY.1 AY.2
 have cli:=fun W' (h:Q W W')=>Gv q qv W' xA (hq.stays h)
 have clj:=fun W' (h:Q W W')=>Gv r rv W' hty (hr.stays h)
 have mF:=hq;have hrk:=hr;have Aa:=fun (hl:uT q=true)=>zN hl
 have wY:=fun (hl:uT r=true)=>zN hl
 obtain⟨k,s,m,sh,n,hqe⟩:∃k s m sh n,q=.mk k s m sh n:=by cases q;exact⟨_,_,_,_,_,rfl⟩
 rw[hqe] at hq;obtain⟨vm,vs,vn,hqv,⟨a1,p1,e1,x1⟩,⟨a2,p2,e2,x2⟩,⟨a3,p3,e3,x3⟩⟩:=hq.open;subst e1;subst e2;subst e3;subst hqv;obtain⟨k',s',m',sh',n',hre⟩:∃k s m sh n,r=.mk k s m sh n:=by cases r;exact⟨_,_,_,_,_,rfl⟩
 rw[hre] at hr;obtain⟨vm,vs,vn,hrv,⟨b1,o1,f1,y1⟩,⟨b2,o2,f2,y2⟩,⟨b3,o3,f3,y3⟩⟩:=hr.open;subst f1;subst f2;subst f3;subst hrv;have dS:=Q.alloc W (.cells #[.int .i64 k,ak s,.slice a1 m.length p1,.slice a2 sh.length p2,.slice a3 n.length p3] 25);have aO:=Q.alloc (W.alloc (.cells #[.int .i64 k,ak s,.slice a1 m.length p1,.slice a2 sh.length p2,.slice a3 n.length p3] 25)) (.cells #[.int .i64 k',ak s',.slice b1 m'.length o1,.slice b2 sh'.length o2,.slice b3 n'.length o3] 25);have g1:Five (W.alloc (.cells #[.int .i64 k,ak s,.slice a1 m.length p1,.slice a2 sh.length p2,.slice a3 n.length p3] 25)) W.heap.size (.int .i64 k) (ak s) (.slice a1 m.length p1) (.slice a2 sh.length p2) (.slice a3 n.length p3):=(Blk.new W 25 #[.int .i64 k,ak s,.slice a1 m.length p1,.slice a2 sh.length p2,.slice a3 n.length p3]).c5;have g2:Five ((W.alloc (.cells #[.int .i64 k,ak s,.slice a1 m.length p1,.slice a2 sh.length p2,.slice a3 n.length p3] 25)).alloc (.cells #[.int .i64 k',ak s',.slice b1 m'.length o1,.slice b2 sh'.length o2,.slice b3 n'.length o3] 25)) (W.heap.size+1) (.int .i64 k') (ak s') (.slice b1 m'.length o1) (.slice b2 sh'.length o2) (.slice b3 n'.length o3):=by
  have:=(Blk.new (W.alloc (.cells #[.int .i64 k,ak s,.slice a1 m.length p1,.slice a2 sh.length p2,.slice a3 n.length p3] 25)) 25 #[.int .i64 k',ak s',.slice b1 m'.length o1,.slice b2 sh'.length o2,.slice b3 n'.length o3]).c5;rw[World.size_alloc] at this;exact this
 have g1':=g1.stays aO;generalize m.length=ml at *;generalize sh.length=sl at *;generalize n.length=nl at *;generalize m'.length=ml' at *;generalize sh'.length=sl' at *;generalize n'.length=nl' at *;obtain⟨va,vc,EI,hvx⟩:=hv.value;subst EI;have hb:=dS.trans aO;have HV:=Hd hv;have HQ:=Hd mF;have HR:=Hd hrk;have HT:=Hd hT;have nX:=Hd gG;have HB:=Hd hb;have XV:=Hd csh;have XW:=Hd csm;have Uy:=Hd cli;have CLJ:=Hd clj;have HTX:=Hd xA;have HTY:=Hd hty;have HRT:=Hd Aa;have Xb:=Hd wY;have F1:=Hd g1';have F2:=Hd g2;clear hv mF hrk hq hr hT gG hb csh csm cli clj xA hty AY hqe hre x1 x2 x3 y1 y2 y3 Aa wY g1 g1' g2 dS aO hvx;go_enter Tryz.func4,Tryz.ntmps4;go_wp2_with fail;refine(XV.out _ HB.out).mono ?_;rintro e w1 ⟨rfl,q1⟩;have aC:=Hd (HB.out.trans q1);have G1:=Hd (F1.out.stays q1);have G2:=Hd (F2.out.stays q1);generalize W.heap.size+1=Y at *;clear q1 HB F1 F2;go_wp2_with fail;refine(XW.out _ aC.out).mono ?_;rintro e w2 ⟨rfl,rfl⟩;have bD:=sW (l:=l);generalize dN:qB l=ok at *;have ni:=Hd bD;have su:=Hd dN;clear dN bD;obtain⟨k0,k1,k2,k3,k4⟩:=G1.out;obtain⟨j0,j1,j2,j3,j4⟩:=G2.out;go_wp2_with fail;refine(Uy.out _ aC.out).mono ?_;rintro e w3 ⟨rfl,q3⟩;have bZ:=Hd (aC.out.trans q3);have F1:=Hd (G1.out.stays q3);have F2:=Hd (G2.out.stays q3);clear q3 k0 k1 k2 k3 k4 j0 j1 j2 j3 j4 G1 G2;obtain⟨j0,j1,j2,j3,j4⟩:=F2.out;go_wp2_with fail;refine(CLJ.out _ bZ.out).mono ?_;rintro e w4 ⟨rfl,q4⟩;have pF:=Hd (bZ.out.trans q4);have G1:=Hd (F1.out.stays q4);have G2:=Hd (F2.out.stays q4);clear q4 j0 j1 j2 j3 j4 F1 F2;generalize hlq:uT q=lq at *;generalize hlr:uT r=lr at *;have HLQ:=Hd hlq;have HLR:=Hd hlr;clear hlq hlr;by_cases dI:ok=true∧lq=true∧lr=true
 ·obtain⟨rfl,rfl,rfl⟩:=dI
  obtain⟨wB,aY⟩:=HRT.out rfl;obtain⟨aF,GY⟩:=Xb.out rfl;have ng:Q w4 (w4.alloc (.cells #[.int .i64 k,ak s,.slice a1 ml p1,.slice a2 sl p2,.slice a3 nl p3,.int .i64 k',ak s',.slice b1 ml' o1,.slice b2 sl' o2,.slice b3 nl' o3] 25)):=Q.alloc _ _;have xC:QryAt (w4.alloc (.cells #[.int .i64 k,ak s,.slice a1 ml p1,.slice a2 sl p2,.slice a3 nl p3,.int .i64 k',ak s',.slice b1 ml' o1,.slice b2 sl' o2,.slice b3 nl' o3] 25)) (Aq [q,r]) (.agg #[.int .i64 5,ak [],.slice (some ⟨w4.heap.size,0,none⟩) 2 2,.slice none 0 0,.slice none 0 0]):=must_at (ZG w4 q r _ _ _ _ _ _ _ _ _ _ 25 (HQ.out.stays pF.out) (HR.out.stays pF.out));have crt:=Gj (Aq [q,r]) _ _ (by rw[txtQ];exact⟨by simp,by rw[pV,pV,pV];exact⟨HTX.out,HTY.out,trivial⟩,by rw[pV];trivial,by rw[pV];trivial⟩) xC
  have CRT:=Hd crt;have RD:=Hd ng;have RF:=Hd wB;have AB:=Hd aY;have uZ:=Hd aF;have HSE:=Hd GY;clear xC crt ng wB aY aF GY;obtain⟨k0,k1,k2,k3,k4⟩:=G1.out;obtain⟨j0,j1,j2,j3,j4⟩:=G2.out;go_wp2_with fail;clear k0 k1 k2 k3 k4 j0 j1 j2 j3 j4;refine CRT.out.mono ?_;rintro e w5 ⟨rfl,q5⟩;have AX:=RD.out.trans q5;have mZ:=Hd (pF.out.trans AX);have F1:=Hd (G1.out.stays AX);have F2:=Hd (G2.out.stays AX);clear q5 AX RD CRT G1 G2;cases hr:wQ (Aq [q,r]) with
  | false =>
   go_wp2_with fail;go_ret;exact⟨rfl,mZ.out⟩
  | true =>
   obtain⟨qG,Dx⟩:=Ee hr;have hnw:iD (Gf q r)=true:=by
    simp only[iD,dX] at qG ⊢;simpa[RF.out,uZ.out] using qG
   have EW:dh (Gf q r)≤100:=by
    simp only[dh,dG] at Dx ⊢;omega
   have xP:=ni.out (by trivial)
   have cmd:=Ar _ l true w5 (HV.out.stays mZ.out) (by omega) (fun a ha=>⟨by have:=(xP.2 a ha).1;omega,fun o ho=>by have:=(xP.2 a ha).2 o ho;omega⟩) (HT.out.stays mZ.out) (nX.out.stays mZ.out)
   obtain⟨sV,gQ,sO⟩:=wV true l su.out;generalize je true l l.length=ps at *;have Lp:=Hd cmd;have uq:=Hd sV;have Qm:=Hd qG;have OW:=Hd Dx;have HNW:=Hd hnw;have HSW:=Hd EW;clear cmd sV qG Dx hr xP hnw EW;go_wp2_with fail;refine Lp.out.mono ?_;rintro e w6 ⟨⟨lv,mv,pl,rfl,hp,wZ,sU⟩,q6⟩;obtain⟨la,lc,Qn,XZ⟩:=hp.value;subst Qn;obtain⟨ma,mc,Nz,pz⟩:=wZ.value;subst Nz;have Cm:=Q.alloc w6 (.cells #[.slice la ps.length lc] 31);have oM:=q6.trans Cm;have G1:=Hd (F1.out.stays oM);have G2:=Hd (F2.out.stays oM);have bx:=(Boxed.new w6 31 (.slice la ps.length lc)).cell;have HP:=Hd hp;have fQ:=Hd (mZ.out.trans q6);have Ie:=Hd Cm;have Jw:=Hd (HQ.out.stays (mZ.out.trans oM));have qj:=Hd (HR.out.stays (mZ.out.trans oM));have csr:=fun (W':World) (hq:Q w6 W') (q':QL) (qv':Value) (rQ:QryAt W' q' qv') (hn:iD q'=true) (hz:dh q'≤100)=>kD W' _ ps q' qv' (HP.out.stays hq) uq.out (by omega) rQ hn hz (HT.out.stays (fQ.out.trans hq)) (nX.out.stays (fQ.out.trans hq))
   have RH:=uq.out.2;have hbh:=both_hit (aH ps) q r RH;have hwh:=with_hit (aH ps) q r RH;have Gz:=with_len (aH ps) q r;have bY:=fun q'=>Au (aH ps) q'
   have t1:=bY q;have t2:=bY r;have t3:=bY (Aq [q,r]);have yX:∀p:QL,iD p=true→dh p≤100→∀h∈searchL (aH ps) p,h.2≤100*xZ:=fun p hn hz h hm=>by
    obtain⟨d,hd,g1,g2,g3,g4⟩:=I9 (aH ps) p RH h hm;rw[g3];have xJ:=(Hr ps uq.out.1 d hd);have ku:d.2.length≤2000:=by unfold iT at xJ;simp only[Bool.and_eq_true,decide_eq_true_eq] at xJ;exact xJ.1.1.2
    exact Nat.le_trans (Jp (wtL (aH ps)) (wtL_le (aH ps) (by omega)) _ (lM d.2 ku).1 p hn) (Nat.mul_le_mul_right _ hz)
   have dS:=yX (Aq [q,r]) Qm.out OW.out;have aO:=yX (Gf q r) HNW.out HSW.out;have E5:=Hd csr;generalize um:searchL (aH ps) q=xs at *;generalize hys:searchL (aH ps) r=ys at *;generalize uU:searchL (aH ps) (Aq [q,r])=zs at *;generalize hus:searchL (aH ps) (Gf q r)=us at *;have Nr:=Hd um;have HYS:=Hd hys;have HZS:=Hd uU;have HUS:=Hd hus;have HBH:=Hd hbh;have HWH:=Hd hwh;have HWL:=Hd Gz;have auJ:=Hd dS;have auK:=Hd aO;have hux:us.length≤6000:=by omega
   clear hp wZ sU q6 Cm oM csr hbh hwh Gz bY um hys uU hus RH Lp XZ pz F1 F2 yX dS aO;obtain⟨k0,k1,k2,k3,k4⟩:=G1.out;go_wp2_with fail;refine(E5.out _ Ie.out q _ Jw.out RF.out (by have:=AB.out;omega)).mono ?_
   rintro e w7 ⟨av,rfl,hh,q7⟩;rw[Nr.out] at hh;obtain⟨aa,ac,hav,EN⟩:=hh.value;subst hav;have ny:=Hd (Ie.out.trans q7);have F1:=Hd (G1.out.stays q7);have F2:=Hd (G2.out.stays q7);have HA:=Hd hh;have b7:=ah q7 bx;have aqr:=Hd (Jw.out.stays q7);have alZ:=Hd (qj.out.stays q7);generalize w6.heap.size=X at *;clear q7 hh EN k0 k1 k2 k3 k4 bx G1 G2 Jw qj Ie;obtain⟨j0,j1,j2,j3,j4⟩:=F2.out;go_wp2_with fail;refine(E5.out _ ny.out r _ alZ.out uZ.out (by have:=HSE.out;omega)).mono ?_
   rintro e w8 ⟨cv,rfl,hh,q8⟩;rw[HYS.out] at hh;obtain⟨ca,cc,hcv,EN⟩:=hh.value;subst hcv;have wu:=Hd (ny.out.trans q8);have G1:=Hd (F1.out.stays q8);have G2:=Hd (F2.out.stays q8);have HC:=Hd hh;have HA8:=Hd (HA.out.stays q8);have b8:=ah q8 b7;have al1:=Hd (aqr.out.stays q8);have al2:=Hd (alZ.out.stays q8);clear q8 hh EN j0 j1 j2 j3 j4 b7 F1 F2 aqr alZ HA ny;obtain⟨k0,k1,k2,k3,k4⟩:=G1.out;obtain⟨j0,j1,j2,j3,j4⟩:=G2.out;have ng:Q w8 (w8.alloc (.cells #[.int .i64 k,ak s,.slice a1 ml p1,.slice a2 sl p2,.slice a3 nl p3,.int .i64 k',ak s',.slice b1 ml' o1,.slice b2 sl' o2,.slice b3 nl' o3] 25)):=Q.alloc _ _;have xC:QryAt (w8.alloc (.cells #[.int .i64 k,ak s,.slice a1 ml p1,.slice a2 sl p2,.slice a3 nl p3,.int .i64 k',ak s',.slice b1 ml' o1,.slice b2 sl' o2,.slice b3 nl' o3] 25)) (Aq [q,r]) (.agg #[.int .i64 5,ak [],.slice (some ⟨w8.heap.size,0,none⟩) 2 2,.slice none 0 0,.slice none 0 0]):=must_at (ZG w8 q r _ _ _ _ _ _ _ _ _ _ 25 al1.out al2.out);have cz:=E5.out _ (wu.out.trans ng) (Aq [q,r]) _ xC Qm.out OW.out;have CZ:=Hd cz;have RD:=Hd ng;clear ng xC cz;go_wp2_with fail;clear k0 k1 k2 k3 k4 j0 j1 j2 j3 j4;refine CZ.out.mono ?_;rintro e w9 ⟨dv,rfl,hh,q9⟩;rw[HZS.out] at hh;obtain⟨da,dc,JF,EN⟩:=hh.value;subst JF;have vw:=RD.out.trans q9;have xK:=Hd (wu.out.trans vw);have F1:=Hd (G1.out.stays vw);have F2:=Hd (G2.out.stays vw);have HD:=Hd hh;have XY:=Hd (HA8.out.stays vw);have HC9:=Hd (HC.out.stays vw);have b9:=ah vw b8;have aqs:=Hd (al1.out.stays vw);have aqt:=Hd (al2.out.stays vw);clear q9 vw hh EN b8 G1 G2 al1 al2 HA8 HC wu RD CZ;have hqA:=Q.alloc w9 (.cells #[.int .i64 k,ak s,.slice a1 ml p1,.slice a2 sl p2,.slice a3 nl p3] 25);have hqB:=Q.alloc (w9.alloc (.cells #[.int .i64 k,ak s,.slice a1 ml p1,.slice a2 sl p2,.slice a3 nl p3] 25)) (.cells #[.int .i64 k',ak s',.slice b1 ml' o1,.slice b2 sl' o2,.slice b3 nl' o3] 25);have eU:=(KJ w9 q _ _ _ _ _ 25 aqs.out).stays hqB;have fD:=KJ (w9.alloc (.cells #[.int .i64 k,ak s,.slice a1 ml p1,.slice a2 sl p2,.slice a3 nl p3] 25)) r _ _ _ _ _ 25 (aqt.out.stays hqA);rw[World.size_alloc] at fD;have cu:=E5.out _ ((xK.out.trans hqA).trans hqB) (Gf q r) _ (with_at eU fD) HNW.out HSW.out;have CU:=Hd cu;have aqu:=Hd (hqA.trans hqB);obtain⟨k0,k1,k2,k3,k4⟩:=F1.out;obtain⟨j0,j1,j2,j3,j4⟩:=F2.out.stays hqA;have b9':=ah hqA b9;clear hqA hqB eU fD cu;go_wp2_with fail;clear k0 k1 k2 k3 k4 j0 j1 j2 j3 j4;refine CU.out.mono ?_;rintro e w10 ⟨fv,rfl,hh,q10⟩;rw[HUS.out] at hh;obtain⟨fa,fc,hfv,aqv⟩:=hh.value;subst hfv;have aei:=aqu.out.trans q10;have EK:=Hd (fQ.out.trans (xK.out.trans aei));have aqw:=Hd (HD.out.stays aei);have Ig:=Hd (XY.out.stays aei);have aej:=Hd (HC9.out.stays aei);have HUX:=Hd aqv;obtain⟨da',dc',hdd,QY⟩:=aqw.out.value;cases hdd;have HDX:=Hd QY;clear q10 aei hh aqv QY b9 F1 F2 aqs aqt XY HC9 HD xK aqu CU E5;go_wp2_with fail;go_loopw [18,19,20,21,22] (fun i _ _ _ _ wr=>∃j:Nat,j≤zs.length∧i=.int .i64 (j:Nat)∧Hid (Q w10 wr)) (fun i _ _ _ _ _=>zs.length-(intOf i).toNat)
   case atStart=>exact⟨0,by omega,rfl,Q.refl _⟩
   case round =>
    obtain⟨j,hj,rfl,HQj⟩:=hrel;obtain⟨wo,rfl⟩:∃wo:World,wo=wr:=⟨_,rfl⟩;by_cases hlt:j<zs.length
    ·obtain⟨b,off,rfl,bC⟩:=HDX.out (by omega)
     obtain⟨c0,c1⟩:=bC j hlt;have d0:=ah HQj.out c0;have d1:=ah HQj.out c1;obtain⟨n1,n2,e1,e2,e3⟩:=HBH.out zs[j] (List.getElem_mem hlt);have zS:=auJ.out zs[j] (List.getElem_mem hlt);have hlB:100*xZ≤1000000000000:=by decide
     have cf:=yh _ xs zs[j].1 wo (Ig.out.stays HQj.out) (by omega)
     have cg:=yh _ ys zs[j].1 wo (aej.out.stays HQj.out) (by omega)
     rw[e1] at cf;rw[e2] at cg;rw[e3] at d1 zS;have ql:(j:Int)<(zs.length:Int):=by omega
     have gY:(0:Int)≤(j:Int):=by omega
     have yY:IntKind.i64.wrap ((n1:Int)+(n2:Int))=((n1+n2:Nat):Int):=by rw[IntWalk.i64_in _ (by omega)];omega
     have CF:=Hd cf;have CG:=Hd cg;generalize zs[j].1=id at *;clear cf cg bC c0 c1 e1 e2 e3 hlB;go_wp2_with fail;refine CF.out.mono ?_;rintro e w11 ⟨rfl,rfl⟩;go_wp2_with fail;refine CG.out.mono ?_;rintro e w12 ⟨rfl,rfl⟩;go_wp2_with fail;go_roundw;case rel=>exact⟨j+1,by omega,by go_num,HQj⟩
     case measure=>simp[intOf];omega
    ·have cO:zs.length=j:=by omega
     have vU:¬(j:Int)<(zs.length:Int):=by omega
     have Gz:=HWL.out;have auL:((us.length:Int) != (xs.length:Int))=false:=by simp;omega
     have aqx:(us.length:Int)=(xs.length:Int):=by omega
     clear cO Gz;have ayq:=Hd aqx;clear aqx;go_wp2_with fail;go_loopw [23,24,25,26,27,28,29] (fun i _ _ _ _ _ _ wr=>∃j:Nat,j≤us.length∧i=.int .i64 (j:Nat)∧Hid (Q w10 wr)) (fun i _ _ _ _ _ _ _=>us.length-(intOf i).toNat)
     case atStart=>exact⟨0,by omega,rfl,HQj.out⟩
     case round =>
      obtain⟨j,hj,rfl,HQj⟩:=hrel;obtain⟨wo,rfl⟩:∃wo:World,wo=wr:=⟨_,rfl⟩;by_cases hlt:j<us.length
      ·obtain⟨b,off,rfl,bC⟩:=HUX.out (by omega)
       obtain⟨c0,c1⟩:=bC j hlt;have d0:=ah HQj.out c0;have d1:=ah HQj.out c1;obtain⟨n1,e1,e2,e3⟩:=HWH.out us[j] (List.getElem_mem hlt);have zS:=auK.out us[j] (List.getElem_mem hlt);have hlB:100*xZ≤1000000000000:=by decide
       have cf:=yh _ xs us[j].1 wo (Ig.out.stays HQj.out) (by omega)
       have cg:=yh _ ys us[j].1 wo (aej.out.stays HQj.out) (by omega)
       have ch:=yh _ zs us[j].1 wo (aqw.out.stays HQj.out) (by omega)
       rw[e1] at cf;rw[←e3] at ch;rw[e2] at d1 zS;have ql:(j:Int)<(us.length:Int):=by omega
       have gY:(0:Int)≤(j:Int):=by omega
       generalize us[j].1=id at *;generalize (l7 ys id).getD 0=n2 at *;generalize (l7 ys id).isSome=ys2 at *;generalize (l7 zs id).getD 0=n3 at *;have yY:IntKind.i64.wrap ((n1:Int)+(n2:Int))=((n1+n2:Nat):Int):=by rw[IntWalk.i64_in _ (by omega)];omega
       have CF:=Hd cf;have CG:=Hd cg;have CH:=Hd ch;clear cf cg ch bC c0 c1 e1 e2 e3 hlB;go_wp2_with fail;refine CF.out.mono ?_;rintro e w11 ⟨rfl,rfl⟩;go_wp2_with fail;refine CG.out.mono ?_;rintro e w12 ⟨rfl,rfl⟩;go_wp2_with fail;refine CH.out.mono ?_;rintro e w13 ⟨rfl,rfl⟩;cases ys2 with
       | true =>
        go_wp2_with fail;go_roundw;case rel=>exact⟨j+1,by omega,by go_num,HQj⟩
        case measure=>simp[intOf];omega
       | false =>
        go_wp2_with fail;go_roundw;case rel=>exact⟨j+1,by omega,by go_num,HQj⟩
        case measure=>simp[intOf];omega
      ·have vU:¬(j:Int)<(us.length:Int):=by omega
       go_wp2_with fail;go_ret;exact⟨rfl,EK.out.trans HQj.out⟩
 ·cases ok<;>cases lq<;>cases lr
  all_goals first
   | exact absurd ⟨rfl,rfl,rfl⟩ dI
   | (clear dI HLQ HLR HRT Xb ni;go_wp2_with fail;go_ret;exact⟨rfl,pF.out⟩)
end
end Go.Proofs.YteddhajdandopaaGreatDoor
