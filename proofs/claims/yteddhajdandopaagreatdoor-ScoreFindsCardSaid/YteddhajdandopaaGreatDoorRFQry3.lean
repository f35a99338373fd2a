/- Joined texts of one proof: what is needed of Qry3, Qry5, WLiveM, Qry7, WRef17d, W18h, WRef17e, WRef17f, WRef17g, WRef17h, WRef18b, WFinds. -/
import Derived.Test.YteddhajdandopaaGreatDoorRWPostI
import Derived.Test.YteddhajdandopaaGreatDoorRWBin
import Derived.Test.YteddhajdandopaaGreatDoorRQryS
import Derived.Test.YteddhajdandopaaGreatDoorROpen0
import Derived.Test.YteddhajdandopaaGreatDoorRWRef17a
import Derived.Test.YteddhajdandopaaGreatDoorRMaps
import Derived.Test.YteddhajdandopaaGreatDoorRMaps2
import Derived.Test.YteddhajdandopaaGreatDoorRQry6
import Derived.Test.YteddhajdandopaaGreatDoorRWSh18
import Derived.Test.YteddhajdandopaaGreatDoorRWRef15e
import Derived.Deep.RegionHeld3
import Derived.Deep.QuietTactic
import Derived.Test.YteddhajdandopaaGreatDoorRWRef11a
import Derived.BigQuiet
set_option linter.unusedSimpArgs false
set_option linter.unusedVariables false
set_option linter.unnecessarySimpa false
set_option maxRecDepth 100000
set_option maxHeartbeats 8000000
namespace Go.Proofs.YteddhajdandopaaGreatDoor
section
theorem wtL_perm{a b:List au}(h:a.Perm b):wtL a=wtL b:=by
 funext t;unfold wtL qZ;rw[h.length_eq,(h.filter _).length_eq]
theorem Wv{a b:List au}(q:QL)(h:a.Perm b):searchL a q=searchL b q:=by
 refine LU _ _ ((sN a q).trans (List.Perm.trans ?_ (sN b q).symm)) (yB a q) (yB b q);unfold D6;rw[wtL_perm h];exact h.filterMap _
theorem UW(ds:List au)(q:QL)(h:dY):h∈searchL ds q↔∃d∈ds,kZ (wtL ds) q d=some h:=by
 rw[(sN ds q).mem_iff];unfold D6;rw[List.mem_filterMap]
theorem UY{wt:Bytes→Nat}{q:QL}{d:au}{h:dY}(e:kZ wt q d=some h):h.1=d.1∧bg q (aA d.2)=true∧h.2=jK wt q (aA d.2):=by
 unfold kZ lH at e;cases hm:bg q (aA d.2) with
 | false=>rw[hm] at e;cases e
 | true=>rw[hm] at e;cases e;exact⟨rfl,rfl,rfl⟩
theorem hits_ids(ds:List au)(q:QL):((D6 ds q).map (·.1)).Sublist (ds.map (·.1)):=by
 unfold D6;generalize wtL ds=wt;induction ds with
 | nil=>exact List.Sublist.slnil
 | cons d ds ih =>
  cases h:kZ wt q d with
  | none=>rw[List.filterMap_cons_none h];exact ih.cons _
  | some x =>
   rw[List.filterMap_cons_some h,List.map_cons,List.map_cons,(UY h).1];exact ih.cons_cons _
theorem Ob(ds:List au)(q:QL)(hn:(ds.map (·.1)).Nodup):((searchL ds q).map (·.1)).Nodup :=
 ((sN ds q).map (·.1)).nodup_iff.2 (hn.sublist (hits_ids ds q))
def l7(l:List dY)(id:Bytes):Option Nat:=(l.find? fun h=>h.1==id).map (·.2)
theorem findH_of{l:List dY}(hn:(l.map (·.1)).Nodup){h:dY}(hm:h∈l):l7 l h.1=some h.2:=by
 unfold l7;induction l with
 | nil=>simp at hm
 | cons x l ih =>
  rw[List.map_cons,List.nodup_cons] at hn;rw[List.find?_cons];rcases List.mem_cons.1 hm with rfl|hm
  ·simp
  ·have:(x.1==h.1)=false:=by
    rw[beq_eq_false_iff_ne];intro e;exact hn.1 (by rw[e];exact List.mem_map.2 ⟨h,hm,rfl⟩)
   rw[this];exact ih hn.2 hm
theorem WI{l:List dY}{id:Bytes}(h:id∉l.map (·.1)):l7 l id=none:=by
 unfold l7;rw[List.find?_eq_none.2 (fun x hx e=>h (by rw[←eq_of_beq e];exact List.mem_map.2 ⟨x,hx,rfl⟩))]
 rfl
theorem TF(ds:List au)(q:QL)(hn:(ds.map (·.1)).Nodup)(d:au)(hd:d∈ds):l7 (searchL ds q) d.1=lH (wtL ds) (aA d.2) q:=by
 cases hm:bg q (aA d.2) with
 | true =>
  have h1:=WH (wtL ds) hm;have h2:=findH_of (Ob ds q hn) ((UW ds q _).2 ⟨d,hd,h1⟩);unfold lH;rw[hm];exact h2
 | false =>
  unfold lH;rw[hm];refine WI ?_;intro h;obtain⟨x,hx,he⟩:=List.mem_map.1 h;obtain⟨e,h1,h2⟩:=(UW ds q x).1 hx;obtain⟨h3,h4,_⟩:=UY h2;have:e=d:=by
   obtain⟨i,hi⟩:=List.getElem?_of_mem h1;obtain⟨j,hj⟩:=List.getElem?_of_mem hd;have:=at_one hn hi hj (by rw[←h3,he])
   subst this;rw[hi] at hj;cases hj;rfl
  subst this;rw[hm] at h4;cases h4
theorem count_id(l:List dY)(hn:(l.map (·.1)).Nodup)(id:Bytes):(l.filter fun h=>h.1==id).length=if (l7 l id).isSome then 1 else 0:=by
 induction l with
 | nil=>rfl
 | cons x l ih =>
  rw[List.map_cons,List.nodup_cons] at hn;by_cases e:x.1=id
  ·have e':(x.1==id)=true:=beq_iff_eq.2 e
   have h0:=ih hn.2;rw[WI (by rw[←e];exact hn.1)] at h0
   unfold l7;rw[List.filter_cons,List.find?_cons,e'];simp only[if_true,List.length_cons,h0];simp
  ·have e':(x.1==id)=false:=beq_eq_false_iff_ne.2 e
   unfold l7 at ih ⊢;rw[List.filter_cons,List.find?_cons,e'];simpa using ih hn.2
theorem ae7(ds:List au)(q:QL)(hn:(ds.map (·.1)).Nodup)(d:au)(hd:d∈ds):((searchL ds q).filter fun h=>h.1==d.1).length=if bg q (aA d.2) then 1 else 0:=by
 rw[count_id _ (Ob ds q hn),TF ds q hn d hd];unfold lH;cases bg q (aA d.2)<;>rfl
theorem ae8(ds:List au)(k:Nat)(h:k<ds.length)(p:au→Bool):((ds.take (k+1)).filter p).length=((ds.take k).filter p).length+if p ds[k] then 1 else 0:=by
 rw[List.take_succ_eq_append_getElem h,List.filter_append,List.length_append];cases hp:p ds[k]<;>simp[hp]
end
section
open Go.RowKit
theorem PX(v:Value)(ps:List aG)(w:World)(hv:PartsAt w v ps)(hn:ps.length≤1000000)(bD:∀p∈ps,PartOk p):
  Calls Tryz.prog 24 #[iP v] w fun e w'=>∃v',e=.returned v'∧w'.ownsRow w.heap.size 60 2 v' (bW ps).length (bK (bW ps))∧Q w w':=by
 have c:=PW v ps (w.alloc (.cells #[v] 31)) (hv.stays (Q.alloc _ _)) hn bD;obtain⟨a,cap,rfl,_⟩:=hv.value;have C:=Hd c;clear c hv bD;go_enter Tryz.func24,Tryz.ntmps24;go_wp2_with fail;refine C.out.mono ?_;rintro e w1 ⟨v',rfl,ho,q⟩;have jI:=dO ho (show w.heap.size≤(w.alloc (.cells #[.slice a ps.length cap] 31)).heap.size by simp)
 have q2:=(Q.alloc w (.cells #[.slice a ps.length cap] 31)).trans q;have HO:=Hd jI;have HQ:=Hd q2;clear ho jI q q2;go_wp2_with fail;go_ret;exact⟨_,rfl,HO.out,HQ.out⟩
end
section
theorem BD(ps:List aG)(h:eu ps)(q:QL):searchL (aH ps) q=searchL (bW ps) q:=(Wv q (Gq ps h.2)).symm
theorem ah1(ds:List au)(q:QL)(hn:(ds.map (·.1)).Nodup)(i:Nat)(h:i+1<(searchL ds q).length):pR ((searchL ds q)[i]'(by omega)) (searchL ds q)[i+1]=true:=by
 have hs:=List.pairwise_iff_getElem.1 (yB ds q) i (i+1) (by omega) h (by omega)
 have aF:((searchL ds q)[i]'(by omega)).1≠(searchL ds q)[i+1].1:=by
  have:=List.pairwise_iff_getElem.1 (Ob ds q hn) i (i+1) (by simpa using Nat.lt_of_succ_lt h) (by simpa using h) (by omega)
  simpa using this
 cases hb:pR ((searchL ds q)[i]'(by omega)) (searchL ds q)[i+1] with
 | true=>rfl
 | false =>
  have:=MH _ _ hs (PV hb);exact absurd (by rw[this]) aF
end
section
open Go.RowKit
def uT(q:QL):Bool:=wQ q&&decide (dh q≤40)
theorem Gv(q:QL)(v:Value)(w:World)(ht:txtQ q)(h:QryAt w q v):
  Calls Tryz.prog 11 #[v] w fun e w'=>e=.returned (.bool (uT q))∧Q w w':=by
 obtain⟨k,s,m,sh,n,rfl⟩:∃k s m sh n,q=.mk k s m sh n:=by cases q;exact⟨_,_,_,_,_,rfl⟩
 have h':=h;obtain⟨vm,vs,vn,rfl,⟨a1,p1,rfl,x1⟩,⟨a2,p2,rfl,x2⟩,⟨a3,p3,rfl,x3⟩⟩:=h.open;have hb:=Q.alloc w (.cells #[.int .i64 k,ak s,.slice a1 m.length p1,.slice a2 sh.length p2,.slice a3 n.length p3] 25);obtain⟨k0,k1,k2,k3,k4⟩:=(Blk.new w 25 #[.int .i64 k,ak s,.slice a1 m.length p1,.slice a2 sh.length p2,.slice a3 n.length p3]).c5;have cs:=WZ (.mk k s m sh n) _ _ (h'.stays hb);have cn:=fun (W:World) (hq:Q w W)=>Gj (.mk k s m sh n) _ W ht (h'.stays hq)
 have hsr:(wQ (.mk k s m sh n)=true→(yg (.mk k s m sh n)).1=dh (.mk k s m sh n))∧(yg (.mk k s m sh n)).1≤1001∧(yg (.mk k s m sh n)).2≤1001:=by
  have:=IW (.mk k s m sh n);refine⟨fun hh=>?_,?_,?_⟩
  ·unfold wQ at hh
   rw[Bool.and_eq_true,Bool.and_eq_true,decide_eq_true_eq] at hh;unfold yg;rw[if_neg (by omega)]
  ·unfold yg;split
   ·exact Nat.le_refl _
   ·simp only;omega
  ·unfold yg;split
   ·exact Nat.zero_le _
   ·simp only;omega
 have hr:uT (.mk k s m sh n)=(wQ (.mk k s m sh n)&&decide (dh (.mk k s m sh n)≤40)):=rfl;rw[hr];generalize hZ:dh (.mk k s m sh n)=Z at *;generalize hN:wQ (.mk k s m sh n)=b at *;generalize hS:yg (.mk k s m sh n)=S at *;obtain⟨S1,S2⟩:=S;simp only at hsr cs;obtain⟨dN,kE,kP⟩:=hsr;have HB:=Hd hb;have CS:=Hd cs;have CN:=Hd cn;clear hb cs cn h h' x1 x2 x3 hZ hN hS hr;cases b with
 | false =>
  clear dN;go_enter Tryz.func11,Tryz.ntmps11;go_wp2_with fail;refine CS.out.mono ?_;rintro e w1 ⟨rfl,q1⟩;have aC:=Hd (HB.out.trans q1);have u0:=ah q1 k0;have u1:=ah q1 k1;have u2:=ah q1 k2;have u3:=ah q1 k3;have u4:=ah q1 k4;clear q1 k0 k1 k2 k3 k4;go_wp2_with fail;refine(CN.out _ aC.out).mono ?_;rintro e w2 ⟨rfl,q2⟩;have aS:=Hd (aC.out.trans q2);clear q2 u0 u1 u2 u3 u4;go_wp2_with fail;go_ret;exact⟨rfl,aS.out⟩
 | true =>
  have vN:=dN rfl;subst vN;clear dN;have hle:decide ((S1:Int)≤40)=decide (S1≤40):=by by_cases h:S1≤40<;>simp[h]<;>omega
  have Lh:=Hd hle;clear hle;go_enter Tryz.func11,Tryz.ntmps11;go_wp2_with fail;refine CS.out.mono ?_;rintro e w1 ⟨rfl,q1⟩;have aC:=Hd (HB.out.trans q1);have u0:=ah q1 k0;have u1:=ah q1 k1;have u2:=ah q1 k2;have u3:=ah q1 k3;have u4:=ah q1 k4;clear q1 k0 k1 k2 k3 k4;go_wp2_with fail;refine(CN.out _ aC.out).mono ?_;rintro e w2 ⟨rfl,q2⟩;have aS:=Hd (aC.out.trans q2);clear q2 u0 u1 u2 u3 u4;go_wp2_with fail;go_ret;exact⟨eX Lh.out,aS.out⟩
theorem zN{q:QL}(h:uT q=true):iD q=true∧dh q≤40:=by
 unfold uT at h;rw[Bool.and_eq_true,decide_eq_true_eq] at h;exact⟨(Ee h.1).1,h.2⟩
theorem tok_lit(w:World)(t:Bytes)(x:Int)(p:Nat)(hx:x=(p:Int)):Sl (w.alloc (.cells #[ak t,.int .i64 x] 55)) (.slice (some ⟨w.heap.size,0,none⟩) 1 1) 1 2 (dF [(t,p)]):=by
 subst hx;refine⟨rfl,_,_,rfl,fun _=>⟨_,0,rfl,fun j u hj=>?_⟩⟩
 have hb:=Blk.new w 55 #[ak t,.int .i64 (p:Int)];match j,hj with
 | 0,hj=>cases hj;exact hb.cell 0 _ rfl
 | 1,hj=>cases hj;exact hb.cell 1 _ rfl
 | j+2,hj=>simp[dF] at hj
theorem tokVs_one(l:bP):∀u∈dF l,u.oneCell'=true:=by
 intro u hu;obtain⟨d,_,hd⟩:=List.mem_flatMap.1 hu;simp at hd;rcases hd with rfl|rfl<;>simp[Value.oneCell']
theorem tok_app(W0:World){w:World}{ops:Array Oper}{o:Oper}{a:Act}{K:Act→World→Prop}{Qx:Exit→Act→World→Prop}{E:Prop}(uf:o.guard=none)(s x:Operand)
  (ho:o.op=.call { callee:=.builtin .append,args:=#[s,x],argTypes:=#[51,51] })
  (v:Value) (n:Nat) (xs:bP) (hs:a.eval s=v) (aQ:w.ownsRow W0.heap.size 55 2 v n (dF xs)) (hq:Q W0 w)
  (vx:Value) (y:Bytes×Nat) (hx:a.eval x=vx) (hl:Sl w vx 1 2 (dF [y])) (hnm:n+1≤1000000000)
  (h:∀a2 p2 w',w'.ownsRow W0.heap.size 55 2 (.slice a2 (n+1) p2) (n+1) (dF (xs++[y]))→Q W0 w'→K (a.put o.dst (.slice a2 (n+1) p2)) w') :
  if Region.wanted o (yielded ops a.tmps)=true then Oper.wp Tryz.prog o a w K Qx else E:=by
 obtain⟨i0,hi,fJ,eU,fD⟩:=info_parts Yi;have hw:Region.wanted o (yielded ops a.tmps)=true:=by simp[Region.wanted,uf]
 rw[if_pos hw];refine zG w s x 51 ho W0.heap.size 55 i0 (.agg #[ak [],.int .i64 0]) 2 24 Tryz.underlying51 hi fJ eU fD rfl (by decide) v n (dF xs) hs aQ vx 1 (dF [y]) hx hl (tokVs_one [y]) (by unfold maxLen;omega) (by omega) hq.size ?_
 intro v' w' h2 h3 _;obtain⟨a2,p2,rfl,_⟩:=aT h2;exact h a2 p2 w' (by rw[show dF (xs++[y])=dF xs++dF [y] by simp[dF]];exact h2) (grown_below hq aQ h3 (Nat.le_refl _) hq.size)
theorem TU(s:Bytes)(w:World)(hs:s.length≤100000000):
  Calls Tryz.prog 23 #[ak s] w fun e w'=>∃v,e=.returned (.tuple #[v,.bool (!(ay s).isEmpty)])∧w'.ownsRow w.heap.size 55 2 v (ay s).length (dF (ay s))∧Q w w':=by
 have c:=Gh s w hs;have hlt:∀x∈aA s,x.2≤100000000:=fun x hx=>by have:=((qQ s).2 x hx).2.2;omega
 have vk:(aA s).length≤100000001:=by
  have h2:=sK (bT s) 0;have h3:=(uJ s).1;unfold aA;omega
 have hle:=abZ s;have xM:ay s=kY (aA s):=rfl;rw[xM];generalize aA s=l at *;have C:=Hd c;have Lc:=Hd hlt;have Lh:=Hd hle;clear c hlt hle xM;have pz:Tryz.prog.follows .mixedOrders=true:=by kernel_rfl
 go_enter Tryz.func23,Tryz.ntmps23;go_wp2_with fail;refine C.out.mono ?_;rintro e w1 ⟨v,rfl,ho,q1⟩;obtain⟨a,cap,rfl,_⟩:=aT ho;have HT:=Hd (show Toks w1 (.slice a l.length cap) l from Sl.of_owns ho)
 have aC:=Hd q1;have lJ:w.heap.size≤w1.heap.size:=q1.size;clear ho q1 C;go_wp2_with fail;go_loopw [4,6] (fun x i wr=>∃k:Nat,k≤l.length∧i=.int .i64 (k:Nat)∧Hid (wr.ownsRow w1.heap.size 55 2 x k (dF ((kY l).take k)))∧Hid (Q w1 wr)) (fun _ i _=>l.length-(intOf i).toNat)
 case atStart=>exact⟨0,by omega,rfl,World.ownsRow_nil _ _ _ _,Q.refl _⟩
 case round =>
  obtain⟨k,hk,rfl,HO,HQ⟩:=hrel;obtain⟨wo,rfl⟩:∃wo:World,wo=wr:=⟨_,rfl⟩;by_cases hlt:k<l.length
  ·obtain⟨aa,cc,hvv,bC⟩:=HT.out.value
   cases hvv;obtain⟨b,o,rfl,hc⟩:=bC (by omega)
   have t0:=ah HQ.out (hc k hlt).1;have t1:=ah HQ.out (hc k hlt).2;have z1:=ah HQ.out (hc 0 (by omega)).2
   rw[Nat.zero_mul,Nat.add_zero] at z1;have ql:(k:Int)<(l.length:Int):=by omega
   have gY:(0:Int)≤(k:Int):=by omega
   have h00:(0:Int)<(l.length:Int):=by omega
   have ayr:0<l.length:=by omega
   have OO:=Lc.out l[k] (List.getElem_mem hlt);have hle:=Lh.out k hlt;have hf:(l.headD ([],0)).2=l[0].2:=by cases l with|nil=>simp at hlt|cons a b=>rfl
   rw[hf] at hle;have bY:k<(kY l).length:=by unfold kY;rw[List.length_map];exact hlt
   have aI:(kY l).take (k+1)=(kY l).take k++[(l[k].1,l[k].2-l[0].2)]:=by
    rw[List.take_succ_eq_append_getElem bY];congr 2;simp only[kY,List.getElem_map,hf]
   generalize l[0].2=f at *;generalize l[k]=x at *;obtain⟨t,p⟩:=x;simp only at t0 t1 OO hle aI;have CQ:IntKind.i64.wrap ((p:Int)-(f:Int))=(p:Int)-(f:Int):=IntWalk.i64_in _ (by omega)
   have Dt:(p:Int)-(f:Int)=((p-f:Nat):Int):=by omega
   obtain⟨xa,xc,rfl,_⟩:=aT HO.out;have bJ:=Hd aI;have HDF:=Hd Dt;clear hc bC aI hf bY Dt;generalize (kY l).take k=xs at *;go_wp2_with fail;go_region_law
    (first
     | (refine tok_app w1 (by rfl) _ _ (by rfl) (.slice xa k xc) k xs (by rfl) (by repeat (first|with_reducible exact HO.out|with_reducible apply aX|with_reducible apply bF)) (by repeat (first|with_reducible exact HQ.out|with_reducible apply Qt.al0|with_reducible apply Qt.dr0)) _ (t,p-f) (by rfl) (by first|exact tok_lit _ _ _ _ HDF.out|exact slQ (tok_lit _ _ _ _ HDF.out) (Q.drew _)) (by omega) ?_;intro b1 c1 w2 jf q1;have H1:=Hd jf;have Q1:=Hd q1;clear jf q1))
   all_goals
    go_wp2_with fail;go_roundw;case rel=>exact⟨k+1,by omega,by go_num,by show World.ownsRow _ _ _ _ _ _ _;rw[bJ.out];exact H1.out,Q1⟩
    case measure=>simp[intOf];omega
  ·have cO:k=l.length:=by omega
   subst cO;have ho:=HO.out;have sO:(kY l).length=l.length:=by unfold kY;rw[List.length_map]
   rw[List.take_of_length_le (by omega)] at ho
   have aF:(!(kY l).isEmpty)=decide (0<l.length):=by
    cases l with
    | nil=>rfl
    | cons a b=>simp[kY]
   obtain⟨xa,xc,rfl,_⟩:=aT ho;have uZ:=Hd aF;have HOO:=Hd ho;have HLL:=Hd sO;clear ho aF sO HO;go_wp2_with fail;go_ret2;exact⟨_,by rw[uZ.out];rfl,by rw[HLL.out];exact dO HOO.out lJ,aC.out.trans HQ.out⟩
def FH(l:bP)(t:Bytes)(p:Int):Bool:=l.any fun x=>decide (x.1=t)&&decide ((x.2:Int)=p)
theorem afQ(l:bP)(t:Bytes)(k:Nat):FH l t (k:Int)=Fg l t k:=by
 unfold FH Fg;congr 1;funext x;rw[Bool.eq_iff_iff,Bool.and_eq_true,Bool.and_eq_true,decide_eq_true_eq,decide_eq_true_eq,beq_iff_eq,beq_iff_eq];constructor<;>rintro⟨h1,h2⟩<;>exact⟨h1,by omega⟩
theorem afR(v:Value)(l:bP)(t:Bytes)(p:Int)(w:World)(hv:Toks w v l)(hn:l.length≤1000000000):
  Calls Tryz.prog 87 #[v,ak t,.int .i64 p] w fun e w'=>e=.returned (.bool (FH l t p))∧w'=w:=by
 obtain⟨a,cap,rfl,hc⟩:=hv.value;have HC:=Hd hc;clear hv hc;go_enter Tryz.func87,Tryz.ntmps87;go_wp2_with fail;go_loop [7] (fun i=>∃k:Nat,k≤l.length∧i=.int .i64 (k:Nat)∧Hid (FH l t p=FH (l.drop k) t p)) (fun i=>l.length-(intOf i).toNat)
 case atStart=>exact⟨0,by omega,rfl,rfl⟩
 case round =>
  obtain⟨k,hk,rfl,bJ⟩:=hrel;by_cases hlt:k<l.length
  ·obtain⟨b,o,rfl,hc⟩:=HC.out (by omega)
   obtain⟨c0,c1⟩:=hc k hlt;have ql:(k:Int)<(l.length:Int):=by omega
   have gY:(0:Int)≤(k:Int):=by omega
   have xJ:=List.drop_eq_getElem_cons hlt;clear hc;generalize l[k]=x at *;obtain⟨u,q⟩:=x;simp only at c0 c1;have hs:FH l t p=((decide (u=t)&&decide ((q:Int)=p))||FH (l.drop (k+1)) t p):=by rw[bJ.out,xJ];rfl
   have HS:=Hd hs;clear xJ hs;by_cases hu:u=t
   ·by_cases hp:(q:Int)=p
    ·have hs:=HS.out
     rw[decide_eq_true hu,decide_eq_true hp] at hs;have Ep:=Hd hs;subst hu;subst hp;clear hs;go_wp2_with fail;go_ret;exact⟨eX (by rw[Ep.out];rfl),rfl⟩
    ·have hs:=HS.out
     rw[decide_eq_false hp,Bool.and_false,Bool.false_or] at hs;have Ep:=Hd hs;have sS:((q:Int)==p)=false:=by simpa using hp
     subst hu;clear hs;go_wp2_with fail;go_round;case rel=>exact⟨k+1,by omega,by go_num,Ep⟩
     case measure=>simp[intOf];omega
   ·have hs:=HS.out
    rw[decide_eq_false hu,Bool.false_and,Bool.false_or] at hs;have Ep:=Hd hs;have zI:(u==t)=false:=by simpa using hu
    have zJ:@BEq.beq (List UInt8) instBEqOfDecidableEq u t=false:=by simpa using hu
    have zK:@BEq.beq (List UInt8) List.instBEq u t=false:=by simpa using hu
    clear hs hu;go_wp2_with fail;go_round;case rel=>exact⟨k+1,by omega,by go_num,Ep⟩
    case measure=>simp[intOf];omega
  ·have cO:k=l.length:=by omega
   subst cO;go_wp2_with fail;go_ret;exact⟨eX (by rw[bJ.out,List.drop_length];rfl),rfl⟩
def wW(p l:bP)(y:Nat)(j:Nat):Bool:=((p.take j).drop 1).all fun t=>Fg l t.1 (y+t.2)
theorem aiE(p l:bP)(y:Nat):wW p l y 1=true:=by
 unfold wW;rw[List.drop_take];rfl
theorem afS(p l:bP)(y j:Nat)(h1:1≤j)(h:j<p.length):wW p l y (j+1)=(wW p l y j&&Fg l p[j].1 (y+p[j].2)):=by
 unfold wW;rw[List.take_succ_eq_append_getElem h,List.drop_append_of_le_length (by rw[List.length_take];omega),List.all_append]
 simp
theorem acG(p l:bP)(y j:Nat)(h:wW p l y j=false):wW p l y p.length=false:=by
 unfold wW at *;rw[List.take_length];rw[List.all_eq_false] at *;obtain⟨x,hx,hh⟩:=h;refine⟨x,?_,hh⟩;rw[List.drop_take] at hx;exact List.mem_of_mem_take hx
def IX(p l:bP)(k:Nat):Nat:=((l.take k).filter fun y=>decide (y.1=(p.headD ([],0)).1)&&wW p l y.2 p.length).length
theorem aiF(p l:bP)(k:Nat)(h:k<l.length):IX p l (k+1)=IX p l k+if (decide (l[k].1=(p.headD ([],0)).1)&&wW p l l[k].2 p.length)=true then 1 else 0:=by
 unfold IX;rw[List.take_succ_eq_append_getElem h,List.filter_append,List.length_append,List.filter_cons];split<;>simp
theorem cntTo_all(p l:bP)(hp:0<p.length):IX p l l.length=kC p l:=by
 unfold IX kC;rw[List.take_length];cases p with
 | nil=>simp at hp
 | cons x r =>
  refine congrArg List.length (List.filter_congr fun y _=>?_)
  unfold wW;rw[List.take_length];show(decide (y.1=x.1)&&_)=(y.1==x.1&&_);congr 1;rw[Bool.eq_iff_iff,decide_eq_true_eq,beq_iff_eq]
theorem cntTo_le(p l:bP)(k:Nat):IX p l k≤k:=by
 unfold IX;refine Nat.le_trans (List.length_filter_le _ _) ?_;rw[List.length_take];omega
theorem ZH(vp v:Value)(p l:bP)(w:World)(hv:Toks w v l)(hvp:Toks w vp p)(hn:l.length≤100000001)(rU:p.length≤100000001)(hl:∀x∈l,x.2≤100000000)(hp:∀x∈p,x.2≤100000000):
  Calls Tryz.prog 52 #[vp,v] w fun e w'=>e=.returned (.int .i64 (kC p l:Nat))∧Q w w':=by
 obtain⟨a,cap,rfl,hc⟩:=hv.value;obtain⟨ap,capp,rfl,uX⟩:=hvp.value;have HC:=Hd hc;have HCP:=Hd uX;have HV:=Hd hv;have HLB:=Hd hl;have BR:=Hd hp;clear hv hvp hc uX hl hp;by_cases Em:p.length=0
 ·have:p=[]:=List.eq_nil_of_length_eq_zero Em
  subst this;go_enter Tryz.func52,Tryz.ntmps52;by_cases Xm:l.length=0
  ·have:l=[]:=List.eq_nil_of_length_eq_zero Xm
   subst this;go_wp2_with fail;go_loopw [5,6] (fun x i wr=>x=.int .i64 0∧i=.int .i64 0∧Hid (Q w wr)) (fun _ _ _=>0)
   case atStart=>exact⟨rfl,rfl,Q.refl _⟩
   case round =>
    obtain⟨rfl,rfl,HQ⟩:=hrel;go_wp2_with fail;go_ret;exact⟨rfl,HQ.out⟩
  ·have jZ:(0:Int)<(l.length:Int):=by omega
   go_wp2_with fail;go_loopw [5,6] (fun x i wr=>x=.int .i64 0∧i=.int .i64 0∧Hid (Q w wr)) (fun _ _ _=>0)
   case atStart=>exact⟨rfl,rfl,Q.refl _⟩
   case round =>
    obtain⟨rfl,rfl,HQ⟩:=hrel;go_wp2_with fail;go_ret;exact⟨rfl,HQ.out⟩
 ·have uY:0<p.length:=by omega
  have xw:(0:Int)<(p.length:Int):=by omega
  have tV:=cntTo_all p l uY;rw[←tV];obtain⟨bp,op,rfl,uX⟩:=HCP.out uY;have z0:=(uX 0 uY).1;rw[Nat.zero_mul,Nat.add_zero] at z0;have OH:(p.headD ([],0)).1=p[0].1:=by cases p with|nil=>simp at uY|cons a b=>rfl
  have HHD:=Hd OH;have aqB:=Hd uX;have Z0:=Hd z0;clear uX HCP tV OH z0;go_enter Tryz.func52,Tryz.ntmps52;go_wp2_with fail;go_loopw [5,6] (fun x i wr=>∃k:Nat,k≤l.length∧i=.int .i64 (k:Nat)∧x=.int .i64 (IX p l k:Nat)∧Hid (Q w wr)) (fun _ i _=>l.length-(intOf i).toNat)
  case atStart=>exact⟨0,by omega,rfl,rfl,Q.refl _⟩
  case round =>
   obtain⟨k,hk,rfl,rfl,HQ⟩:=hrel;obtain⟨wo,rfl⟩:∃wo:World,wo=wr:=⟨_,rfl⟩;have lD:=cntTo_le p l k;by_cases hlt:k<l.length
   ·obtain⟨b,o,rfl,hc⟩:=HC.out (by omega)
    have z0:=ah HQ.out Z0.out;have t0:=ah HQ.out (hc k hlt).1;have T1:=Hd (hc k hlt).2;have ql:(k:Int)<(l.length:Int):=by omega
    have gY:(0:Int)≤(k:Int):=by omega
    have aI:=aiF p l k hlt;rw[HHD.out] at aI;have hyb:=HLB.out l[k] (List.getElem_mem hlt);generalize l[k]=y at *;generalize p[0].1=s0 at *;obtain⟨t,q⟩:=y;simp only at t0 aI hyb;generalize IX p l k=c at *;have bJ:=Hd aI;clear aI hc;by_cases hs:t=s0
    ·subst hs
     go_wp2_with fail;go_quiet (fail);go_wp2_with fail;go_loopw [7,8] (fun x j wr=>∃m:Nat,1≤m∧m≤p.length∧j=.int .i64 (m:Nat)∧x=.bool (wW p l q m)∧Hid (Q w wr)) (fun _ j _=>p.length-(intOf j).toNat)
     case atStart=>exact⟨1,by omega,by omega,rfl,by rw[aiE],HQ.out.trans (Q.drewN _ _)⟩
     case round =>
      obtain⟨m,yI,yK,rfl,rfl,aS⟩:=hrel;obtain⟨wi,rfl⟩:∃wi:World,wi=wr:=⟨_,rfl⟩;clear t0 z0;cases hr:wW p l q m with
      | true =>
       by_cases hmp:m<p.length
       ·have JL:(m:Int)<(p.length:Int):=by omega
        have Il:(0:Int)≤(m:Int):=by omega
        have c0:=ah aS.out (aqB.out m hmp).1;have c1:=ah aS.out (aqB.out m hmp).2;have d1:=ah aS.out T1.out;have wY:=afS p l q m yI hmp;have sS:=BR.out p[m] (List.getElem_mem hmp);rw[hr,Bool.true_and] at wY;generalize p[m]=z at *;obtain⟨zt,zp⟩:=z;simp only at c0 c1 wY sS;have cs:=fun (W:World) (hq:Q w W)=>afR _ l zt ((q+zp:Nat):Int) W (HV.out.stays hq) (by omega)
        rw[afQ,←wY,show((q+zp:Nat):Int)=(q:Int)+(zp:Int) by omega] at cs
        have yY:IntKind.i64.wrap ((q:Int)+(zp:Int))=(q:Int)+(zp:Int):=IntWalk.i64_in _ (by omega)
        have CS:=Hd cs;clear cs wY hr;go_wp2_with fail;go_quiet ((go_at_call 87;exact Calls.quiet_of_same (CS.out _ (aS.out.trans (Q.drewN _ _)))));go_wp2_with fail;go_roundw;case rel=>exact⟨m+1,by omega,by omega,by go_num,rfl,aS.out.trans (Q.drewN _ _)⟩
        case measure=>simp[intOf];omega
       ·have rP:m=p.length:=by omega
        subst rP;have aI:=bJ.out;simp only[hr,eq_self,decide_true,Bool.and_true,if_true] at aI;have Bj:=Hd aI;clear aI;go_wp2_with fail;go_roundw;case rel=>exact⟨k+1,by omega,by go_num,by rw[Bj.out];go_num,aS⟩
        case measure=>simp[intOf];omega
      | false =>
       have aI:=bJ.out;rw[acG p l q m hr,Bool.and_false,if_neg (by decide)] at aI
       have Bj:=Hd aI;clear aI hr;by_cases hmp:m<p.length
       ·have JL:(m:Int)<(p.length:Int):=by omega
        go_wp2_with fail;go_roundw;case rel=>exact⟨k+1,by omega,by go_num,by rw[Bj.out];rfl,aS⟩
        case measure=>simp[intOf];omega
       ·have rP:m=p.length:=by omega
        subst rP;go_wp2_with fail;go_roundw;case rel=>exact⟨k+1,by omega,by go_num,by rw[Bj.out];rfl,aS⟩
        case measure=>simp[intOf];omega
    ·have aI:=bJ.out
     rw[decide_eq_false hs,Bool.false_and,if_neg (by decide)] at aI
     have Bj:=Hd aI;have zI:(t==s0)=false:=by simpa using hs
     have zJ:@BEq.beq (List UInt8) instBEqOfDecidableEq t s0=false:=by simpa using hs
     have zK:@BEq.beq (List UInt8) List.instBEq t s0=false:=by simpa using hs
     clear aI hs;go_wp2_with fail;go_quiet (fail);go_wp2_with fail;go_loopw [7,8] (fun x j wr=>j=.int .i64 1∧x=.bool false∧Hid (Q w wr)) (fun _ j _=>0)
     case atStart=>exact⟨rfl,rfl,HQ.out.trans (Q.drewN _ _)⟩
     case round =>
      obtain⟨rfl,rfl,aS⟩:=hrel;clear t0 z0;by_cases h1p:1<p.length
      ·have h1i:(1:Int)<(p.length:Int):=by omega
       go_wp2_with fail;go_roundw;case rel=>exact⟨k+1,by omega,by go_num,by rw[Bj.out];rfl,aS⟩
       case measure=>simp[intOf];omega
      ·have h1i:¬(1:Int)<(p.length:Int):=by omega
       go_wp2_with fail;go_roundw;case rel=>exact⟨k+1,by omega,by go_num,by rw[Bj.out];rfl,aS⟩
       case measure=>simp[intOf];omega
   ·have cO:k=l.length:=by omega
    subst cO;go_wp2_with fail;go_ret;exact⟨rfl,HQ.out⟩
theorem acH(s:Bytes)(l:bP)(k:Nat)(h:k<l.length)(hs:s≠[]):jl s (l.take (k+1))=jl s (l.take k)+if s.isPrefixOf l[k].1 then 1 else 0:=by
 unfold jl;rw[if_neg hs,if_neg hs,List.take_succ_eq_append_getElem h,List.filter_append,List.length_append,List.filter_cons];split<;>simp
theorem afT(s t:Bytes)(h:¬s.length≤t.length):s.isPrefixOf t=false:=by
 rw[Bool.eq_false_iff];intro hh;exact h (List.isPrefixOf_iff_prefix.1 hh).length_le
theorem aiG(v:Value)(s:Bytes)(l:bP)(w:World)(hv:Toks w v l)(hn:l.length≤1000000000)(hs:s.length≤1000000000)(hb:∀x∈l,x.1.length≤1000000000):
  Calls Tryz.prog 53 #[ak s,v] w fun e w'=>e=.returned (.int .i64 (jl s l:Nat))∧Q w w':=by
 obtain⟨a,cap,rfl,hc⟩:=hv.value;have HC:=Hd hc;have HB:=Hd hb;clear hv hc hb;by_cases AQ:s=[]
 ·subst AQ
  have e:jl [] l=0:=by unfold jl;rw[if_pos rfl]
  rw[e];clear e;go_enter Tryz.func53,Tryz.ntmps53;go_wp2_with fail;go_loopw [5,6] (fun x i wr=>x=.int .i64 0∧i=.int .i64 0∧Hid (Q w wr)) (fun _ _ _=>0)
  case atStart=>exact⟨rfl,rfl,Q.refl _⟩
  case round =>
   obtain⟨rfl,rfl,HQ⟩:=hrel;by_cases Xm:(0:Int)<(l.length:Int)
   ·go_wp2_with fail
    go_ret;exact⟨rfl,HQ.out⟩
   ·go_wp2_with fail
    go_ret;exact⟨rfl,HQ.out⟩
 ·have aI:=fun k (h:k<l.length)=>acH s l k h AQ
  have ayx:(s==[])=false:=by simpa using AQ
  have hle:∀k,jl s (l.take k)≤k:=fun k=>Nat.le_trans (Oa s _) (by rw[List.length_take];omega)
  have dI:l.take l.length=l:=List.take_length;have bJ:=Hd aI;have Lh:=Hd hle;have yZ:=Hd dI;clear aI hle dI;obtain⟨c0,s0,rfl⟩:∃c0 s0,s=c0::s0:=by cases s with|nil=>exact absurd rfl AQ|cons a b=>exact⟨a,b,rfl⟩
  go_enter Tryz.func53,Tryz.ntmps53;go_wp2_with fail;go_loopw [5,6] (fun x i wr=>∃k:Nat,k≤l.length∧i=.int .i64 (k:Nat)∧x=.int .i64 (jl (c0::s0) (l.take k):Nat)∧Hid (Q w wr)) (fun _ i _=>l.length-(intOf i).toNat)
  case atStart=>exact⟨0,by omega,rfl,by rw[List.take_zero];rfl,Q.refl _⟩
  case round =>
   obtain⟨k,hk,rfl,rfl,HQ⟩:=hrel;obtain⟨wo,rfl⟩:∃wo:World,wo=wr:=⟨_,rfl⟩;have lD:=Lh.out k;by_cases hlt:k<l.length
   ·obtain⟨b,o,rfl,hc⟩:=HC.out (by omega)
    have t0:=ah HQ.out (hc k hlt).1;have ql:(k:Int)<(l.length:Int):=by omega
    have gY:(0:Int)≤(k:Int):=by omega
    have aI:=bJ.out k hlt;have hyl:=HB.out l[k] (List.getElem_mem hlt);generalize l[k]=y at *;obtain⟨t,q⟩:=y;simp only at t0 aI hyl;generalize jl (c0::s0) (l.take k)=c at *;have HN:=Hd aI;clear aI hc;by_cases hlen:(c0::s0).length≤t.length
    ·have O5:=SQ t (c0::s0) hlen
     have hli:((c0::s0).length:Int)≤(t.length:Int):=by omega
     have h0l:(0:Int)≤((c0::s0).length:Int):=by omega
     have ayy:¬(c0::s0)=[]:=by simp
     generalize hsd:c0::s0=sd at *;have hx:({ data:=t.toArray }:ByteArray).extract 0 sd.length=⟨(t.take sd.length).toArray⟩:=og t _;cases hb:(t.take sd.length==sd) with
     | true =>
      rw[hb] at O5;have hn:=HN.out;rw[←O5,if_pos rfl] at hn;have kQ:=Hd hn;have dS:t.take sd.length=sd:=beq_iff_eq.1 hb;have aO:@BEq.beq (List UInt8) instBEqOfDecidableEq (t.take sd.length) sd=true:=by simpa using dS
      clear hn O5 HN hsd dS;go_wp2_with fail;go_roundw;case rel=>exact⟨k+1,by omega,by go_num,by rw[kQ.out];go_num,HQ⟩
      case measure=>simp[intOf];omega
     | false =>
      rw[hb] at O5;have hn:=HN.out;rw[←O5,if_neg (by simp)] at hn
      have kQ:=Hd hn;have dS:¬t.take sd.length=sd:=beq_eq_false_iff_ne.1 hb;have aO:@BEq.beq (List UInt8) instBEqOfDecidableEq (t.take sd.length) sd=false:=by simpa using dS
      clear hn O5 HN hsd dS;go_wp2_with fail;go_roundw;case rel=>exact⟨k+1,by omega,by go_num,by rw[kQ.out];rfl,HQ⟩
      case measure=>simp[intOf];omega
    ·have O5:=afT (c0::s0) t hlen
     have hn:=HN.out;rw[O5,if_neg (by simp)] at hn
     have kQ:=Hd hn;have hli:¬((c0::s0).length:Int)≤(t.length:Int):=by omega
     generalize hsd:c0::s0=sd at *;clear hn O5 HN hsd;go_wp2_with fail;go_roundw;case rel=>exact⟨k+1,by omega,by go_num,by rw[kQ.out];rfl,HQ⟩
     case measure=>simp[intOf];omega
   ·have cO:k=l.length:=by omega
    subst cO;go_wp2_with fail;go_ret;exact⟨by rw[yZ.out];rfl,HQ.out⟩
theorem aiH(l:bP)(k:Nat):(dF l).take (k*2)=dF (l.take k):=by
 induction l generalizing k with
 | nil=>simp[dF]
 | cons x l ih =>
  cases k with
  | zero=>simp[dF]
  | succ k =>
   have:=ih k;simp only[dF,List.flatMap_cons,List.take_succ_cons] at this ⊢;rw[show(k+1)*2=k*2+1+1 by omega]
   simp[this]
theorem Toks.take1{w:World}{a:Option Addr}{c:Nat}{l:bP}(h:Toks w (.slice a l.length c) l)(hl:1≤l.length):Toks w (.slice a 1 c) (l.take 1):=by
 have:=Sl.take h 1 hl;rw[aiH] at this;unfold Toks;rw[List.length_take,Nat.min_eq_left hl];exact this
theorem allT_drop(qs:List QL)(l:bP)(j:Nat)(h:j<qs.length):allT (qs.drop j) l=(bg qs[j] l&&allT (qs.drop (j+1)) l):=by
 rw[List.drop_eq_getElem_cons h,allT]
theorem ZI(qs:List QL)(l:bP)(j:Nat)(h:j<qs.length):qP (qs.drop j) l=(bg qs[j] l||qP (qs.drop (j+1)) l):=by
 rw[List.drop_eq_getElem_cons h,qP]
theorem aiI(k:Int)(s:Bytes)(m sh n:List QL)(qv v:Value)(l:bP)(w:World)(h:QryAt w (.mk k s m sh n) qv)(hv:Toks w v l)(hlen:m.length≤1000∧sh.length≤1000∧n.length≤1000)
  (HA:Hid (∀q∈m++sh++n,∀(qv:Value) (W:World),Q w W→QryAt W q qv→Calls Tryz.prog 26 #[qv,v] W fun e w'=>e=.returned (.bool (bg q l))∧Q W w')) :
  Calls Tryz.prog 55 #[qv,v] w fun e w'=>e=.returned (.bool (allT m l && !qP n l&&(!m.isEmpty||sh.isEmpty||qP sh l)))∧Q w w':=by
 obtain⟨vm,vs,vn,rfl,⟨a1,p1,rfl,x1⟩,⟨a2,p2,rfl,x2⟩,⟨a3,p3,rfl,x3⟩⟩:=h.open;obtain⟨_,_,k2,k3,k4⟩:=(Blk.new w 25 #[.int .i64 k,ak s,.slice a1 m.length p1,.slice a2 sh.length p2,.slice a3 n.length p3]).c5;have hb:=Q.alloc w (.cells #[.int .i64 k,ak s,.slice a1 m.length p1,.slice a2 sh.length p2,.slice a3 n.length p3] 25);obtain⟨va,vc,rfl,_⟩:=hv.value;have HB:=Hd hb;have X1:=Hd x1;have X2:=Hd x2;have X3:=Hd x3;obtain⟨jZ,jB,lC⟩:=hlen;clear hb x1 x2 x3 h hv;generalize ET:m.length=ml at *;generalize bY:sh.length=sl at *;generalize vU:n.length=nl at *;have XD:=Hd ET;have yG:=Hd bY;have HNL:=Hd vU;clear ET bY vU;go_enter Tryz.func55,Tryz.ntmps55;go_wp2_with fail;generalize w.alloc (.cells #[.int .i64 k,ak s,.slice a1 ml p1,.slice a2 sl p2,.slice a3 nl p3] 25)=wb at *;generalize hBB:w.heap.size=B at *;clear hBB;go_loopw [5,6] (fun i _ wr=>∃j:Nat,j≤ml∧i=.int .i64 (j:Nat)∧Hid (allT m l=allT (m.drop j) l)∧Hid (Q wb wr)) (fun i _ _=>ml-(intOf i).toNat)
 case atStart=>exact⟨0,by omega,rfl,rfl,Q.refl _⟩
 case round =>
  obtain⟨j,hj,rfl,HM,HQ⟩:=hrel;obtain⟨wo,rfl⟩:∃wo:World,wo=wr:=⟨_,rfl⟩;have y2:=ah HQ.out k2;by_cases hlt:j<ml
  ·have ql:(j:Int)<(ml:Int):=by omega
   have gY:(0:Int)≤(j:Int):=by omega
   obtain⟨b,off,rfl,He⟩:=X1.out (by omega)
   obtain⟨e0,e1,e2,e3,e4,⟨g0,g1,g2,g3,g4⟩,mF⟩:=He.at j (by rw[XD.out];exact hlt)
   obtain⟨fk,fs,b1,n1,r1,b2,n2,r2,b3,n3,r3,rfl,rfl,rfl,rfl,rfl⟩:=mF.form;have uy:=HB.out.trans HQ.out;have u0:=ah uy g0;have u1:=ah uy g1;have u2:=ah uy g2;have u3:=ah uy g3;have u4:=ah uy g4;have c:=HA.out (m[j]'(by rw[XD.out];exact hlt)) (List.mem_append_left _ (List.mem_append_left _ (List.getElem_mem _))) _ wo uy (mF.stays uy)
   have aI:=allT_drop m l j (by rw[XD.out];exact hlt)
   rw[←HM.out] at aI;generalize bg (m[j]'(by rw[XD.out];exact hlt)) l=mb at *
   have C:=Hd c;have bJ:=Hd aI;clear c aI He mF g0 g1 g2 g3 g4 uy;go_wp2_with fail;refine C.out.mono ?_;rintro e w3 ⟨rfl,q3⟩;have bZ:=Hd (HQ.out.trans q3);clear q3 C u0 u1 u2 u3 u4 y2;cases mb with
   | true =>
    go_wp2_with fail;go_roundw;case rel=>exact⟨j+1,by omega,by go_num,by show _=_;rw[bJ.out,Bool.true_and],bZ⟩
    case measure=>simp[intOf];omega
   | false =>
    go_wp2_with fail;go_ret;exact⟨eX (by rw[bJ.out];rfl),HB.out.trans bZ.out⟩
  ·have cO:ml=j:=by omega
   subst cO;have dI:allT m l=true:=by rw[HM.out,←XD.out,List.drop_length,allT]
   have aek:=Hd dI;have HQm:=Hd HQ.out;clear dI HM HQ;go_wp2_with fail;clear y2;go_loopw [7,8] (fun i _ wr=>∃j:Nat,j≤nl∧i=.int .i64 (j:Nat)∧Hid (qP n l=qP (n.drop j) l)∧Hid (Q wb wr)) (fun i _ _=>nl-(intOf i).toNat)
   case atStart=>exact⟨0,by omega,rfl,rfl,HQm.out⟩
   case round =>
    obtain⟨j,hj,rfl,HM,HQ⟩:=hrel;obtain⟨wo,rfl⟩:∃wo:World,wo=wr:=⟨_,rfl⟩;have y4:=ah HQ.out k4;by_cases hlt:j<nl
    ·have ql:(j:Int)<(nl:Int):=by omega
     have gY:(0:Int)≤(j:Int):=by omega
     obtain⟨b,off,rfl,He⟩:=X3.out (by omega)
     obtain⟨e0,e1,e2,e3,e4,⟨g0,g1,g2,g3,g4⟩,mF⟩:=He.at j (by rw[HNL.out];exact hlt)
     obtain⟨fk,fs,b1,n1,r1,b2,n2,r2,b3,n3,r3,rfl,rfl,rfl,rfl,rfl⟩:=mF.form;have uy:=HB.out.trans HQ.out;have u0:=ah uy g0;have u1:=ah uy g1;have u2:=ah uy g2;have u3:=ah uy g3;have u4:=ah uy g4;have c:=HA.out (n[j]'(by rw[HNL.out];exact hlt)) (List.mem_append_right _ (List.getElem_mem _)) _ wo uy (mF.stays uy)
     have aI:=ZI n l j (by rw[HNL.out];exact hlt)
     rw[←HM.out] at aI;generalize bg (n[j]'(by rw[HNL.out];exact hlt)) l=mb at *
     have C:=Hd c;have bJ:=Hd aI;clear c aI He mF g0 g1 g2 g3 g4 uy;go_wp2_with fail;refine C.out.mono ?_;rintro e w3 ⟨rfl,q3⟩;have bZ:=Hd (HQ.out.trans q3);clear q3 C u0 u1 u2 u3 u4 y4;cases mb with
     | false =>
      go_wp2_with fail;go_roundw;case rel=>exact⟨j+1,by omega,by go_num,by show _=_;rw[bJ.out,Bool.false_or],bZ⟩
      case measure=>simp[intOf];omega
     | true =>
      go_wp2_with fail;go_ret;exact⟨eX (by rw[aek.out,bJ.out];rfl),HB.out.trans bZ.out⟩
    ·have cO:nl=j:=by omega
     subst cO;have dI:qP n l=false:=by rw[HM.out,←HNL.out,List.drop_length,qP]
     have aju:=Hd dI;have HQm:=Hd HQ.out;have y2:=ah HQ.out k2;have y3:=ah HQ.out k3;clear dI HM HQ;by_cases Il:ml=0
     ·have rP:m.isEmpty=true:=by have:=XD.out;rw[Il] at this;rw[List.eq_nil_of_length_eq_zero this];rfl
      have Du:=Hd rP;clear rP;subst Il;simp only[show((0:Nat):Int)=0 from rfl]
      by_cases AQ:sl=0
      ·have GY:sh.isEmpty=true:=by have:=yG.out;rw[AQ] at this;rw[List.eq_nil_of_length_eq_zero this];rfl
       have HSE:=Hd GY;clear GY;subst AQ;go_wp2_with fail;go_ret;exact⟨eX (by rw[aek.out,aju.out,Du.out,HSE.out];rfl),HB.out.trans HQm.out⟩
      ·have GY:sh.isEmpty=false:=by have:=yG.out;cases sh with|nil=>exact absurd this.symm AQ|cons a b=>rfl
       have aY:((sl:Int)==0)=false:=by simpa using AQ
       have hsp:(0:Int)<(sl:Int):=by omega
       have HSE:=Hd GY;clear GY AQ;go_wp2_with fail;go_loopw [9,10] (fun i _ wr=>∃j:Nat,j≤sl∧i=.int .i64 (j:Nat)∧Hid (qP sh l=qP (sh.drop j) l)∧Hid (Q wb wr)) (fun i _ _=>sl-(intOf i).toNat)
       case atStart=>exact⟨0,by omega,rfl,rfl,HQm.out⟩
       case round =>
        obtain⟨j,hj,rfl,HM,HQ⟩:=hrel;obtain⟨wo,rfl⟩:∃wo:World,wo=wr:=⟨_,rfl⟩;clear y2 y3;have y3:=ah HQ.out k3;by_cases hlt:j<sl
        ·have ql:(j:Int)<(sl:Int):=by omega
         have gY:(0:Int)≤(j:Int):=by omega
         obtain⟨b,off,rfl,He⟩:=X2.out (by omega)
         obtain⟨e0,e1,e2,e3,e4,⟨g0,g1,g2,g3,g4⟩,mF⟩:=He.at j (by rw[yG.out];exact hlt)
         obtain⟨fk,fs,b1,n1,r1,b2,n2,r2,b3,n3,r3,rfl,rfl,rfl,rfl,rfl⟩:=mF.form;have uy:=HB.out.trans HQ.out;have u0:=ah uy g0;have u1:=ah uy g1;have u2:=ah uy g2;have u3:=ah uy g3;have u4:=ah uy g4;have c:=HA.out (sh[j]'(by rw[yG.out];exact hlt)) (List.mem_append_left _ (List.mem_append_right _ (List.getElem_mem _))) _ wo uy (mF.stays uy)
         have aI:=ZI sh l j (by rw[yG.out];exact hlt)
         rw[←HM.out] at aI;generalize bg (sh[j]'(by rw[yG.out];exact hlt)) l=mb at *
         have C:=Hd c;have bJ:=Hd aI;clear c aI He mF g0 g1 g2 g3 g4 uy;go_wp2_with fail;refine C.out.mono ?_;rintro e w3 ⟨rfl,q3⟩;have bZ:=Hd (HQ.out.trans q3);clear q3 C u0 u1 u2 u3 u4 y3;cases mb with
         | false =>
          go_wp2_with fail;go_roundw;case rel=>exact⟨j+1,by omega,by go_num,by show _=_;rw[bJ.out,Bool.false_or],bZ⟩
          case measure=>simp[intOf];omega
         | true =>
          go_wp2_with fail;go_ret;exact⟨eX (by rw[aek.out,aju.out,Du.out,HSE.out,bJ.out];rfl),HB.out.trans bZ.out⟩
        ·have cO:sl=j:=by omega
         subst cO;go_wp2_with fail;go_ret;exact⟨eX (by rw[aek.out,aju.out,Du.out,HSE.out,HM.out,←yG.out,List.drop_length,qP];rfl),HB.out.trans HQ.out⟩
     ·have rP:m.isEmpty=false:=by have:=XD.out;cases m with|nil=>exact absurd this.symm Il|cons a b=>rfl
      have hmp:(0:Int)<(ml:Int):=by omega
      have Du:=Hd rP;clear rP;go_wp2_with fail;go_ret;exact⟨eX (by rw[aek.out,aju.out,Du.out];simp),HB.out.trans HQm.out⟩
theorem acI(q:QL):∀(qv v:Value) (l:bP) (w:World),iD q=true→dh q≤1000→QryAt w q qv→Toks w v l→l.length≤100000001→(∀x∈l,x.2≤100000000∧x.1.length≤1000000000) →
  Calls Tryz.prog 26 #[qv,v] w fun e w'=>e=.returned (.bool (bg q l))∧Q w w':=by
 induction q using QL.ind with
 | h k s m sh n h1 h2 h3 =>
  intro qv v l w wB aY h hv vk hlb;obtain⟨⟨vO,vZ,axH⟩,qC,rD,JJ⟩:=Ky wB;rw[dh] at aY;have dI:∀q∈m++sh++n,∀(qv:Value) (W:World),Q w W→QryAt W q qv→Calls Tryz.prog 26 #[qv,v] W fun e w'=>e=.returned (.bool (bg q l))∧Q W w':=by
   intro q hq qv W uy ng;simp only[List.mem_append] at hq;rcases hq with (hq|hq)|hq
   ·exact h1 q hq qv v l W (yP qC hq) (by have:=uN hq;omega) ng (Sl.stays hv uy) vk hlb
   ·exact h2 q hq qv v l W (yP rD hq) (by have:=uN hq;omega) ng (Sl.stays hv uy) vk hlb
   ·exact h3 q hq qv v l W (yP JJ hq) (by have:=uN hq;omega) ng (Sl.stays hv uy) vk hlb
  have jZ:=jW m;have jB:=jW sh;have lC:=jW n;have cev:=fun (W:World) (hq:Q w W)=>aiI k s m sh n qv v l W (h.stays hq) (Sl.stays hv hq) ⟨by omega,by omega,by omega⟩ (Hd (fun q hm qv W' hq'=>dI q hm qv W' (hq.trans hq')))
  obtain⟨vm,vs,vn,rfl,⟨a1,p1,rfl,x1⟩,⟨a2,p2,rfl,x2⟩,⟨a3,p3,rfl,x3⟩⟩:=h.open;obtain⟨k0,k1,k2,k3,k4⟩:=(Blk.new w 25 #[.int .i64 k,ak s,.slice a1 m.length p1,.slice a2 sh.length p2,.slice a3 n.length p3]).c5;have hb:=Q.alloc w (.cells #[.int .i64 k,ak s,.slice a1 m.length p1,.slice a2 sh.length p2,.slice a3 n.length p3] 25);have hvk:=hv;obtain⟨va,vc,rfl,_⟩:=hv.value;have cph:=fun (W:World)=>TU s W (by omega)
  have aqC:∀x∈ay s,x.2≤100000000:=fun x hx=>by
   unfold ay kY at hx;obtain⟨y,hy,rfl⟩:=List.mem_map.1 hx;have:=((qQ s).2 y hy).2.2;simp only;omega
  have aqD:=LW s (by omega)
  have HB:=Hd hb;have CEV:=Hd cev;have Ny:=Hd cph;have HV:=Hd hvk;have HLB:=Hd hlb;have VA:=Hd aqC;have VB:=Hd aqD;clear dI hb cev cph hvk hv h h1 h2 h3 x1 x2 x3 qC rD JJ wB hlb aqC aqD aY;by_cases e1:k=1
  ·subst e1
   have hm:bg (.mk 1 s m sh n) l=true:=by rw[bg,if_pos rfl]
   rw[hm];clear hm;go_enter Tryz.func26,Tryz.ntmps26;go_wp2_with fail;go_ret;exact⟨rfl,HB.out⟩
  ·by_cases e2:k=2
   ·subst e2
    have hm:bg (.mk 2 s m sh n) l=decide (0<kC ((ay s).take 1) l):=by rw[bg,if_neg (by decide),if_pos rfl]
    rw[hm];clear hm;generalize ay s=P at *;go_enter Tryz.func26,Tryz.ntmps26;go_wp2_with fail;refine(Ny.out _).mono ?_;rintro e w1 ⟨pv,rfl,ho,q1⟩;have aC:=Hd (HB.out.trans q1);have OV:Toks w1 pv P:=Sl.of_owns ho;obtain⟨pa,pc,rfl,_⟩:=OV.value;have uX:=o8 ho;have xM:=VA.out;have KX:=VB.out;by_cases Em:P.length=0
    ·have xk:P=[]:=List.eq_nil_of_length_eq_zero Em
     subst xk;clear q1 ho OV k0 k1 k2 k3 k4 Ny CEV VA VB xM uX;go_wp2_with fail;go_ret;exact⟨eX (by simp[kC]),aC.out⟩
    ·have xk:(!P.isEmpty)=true:=by cases P with|nil=>exact absurd rfl Em|cons a b=>rfl
     have xw:1≤P.length:=by omega
     have EO:Toks w1 (.slice pa 1 pc) (P.take 1):=OV.take1 xw;have cc:=fun (W:World) (hq:Q w1 W)=>ZH _ _ (P.take 1) l W (Sl.stays HV.out (aC.out.trans hq)) (Sl.stays EO hq) vk (by rw[List.length_take];omega) (fun x hx=>(HLB.out x hx).1) (fun x hx=>xM x (List.mem_of_mem_take hx))
     have lD:=Kz (P.take 1) l;rw[xk];have gX:(1:Int)≤(pc:Int):=by omega
     have ayz:1≤pc:=by omega
     have CC:=Hd cc;clear q1 ho OV k0 k1 k2 k3 k4 Ny CEV VA VB xM cc xk EO;go_wp2_with fail;refine(CC.out _ (Q.refl _)).mono ?_;rintro e w2 ⟨rfl,q2⟩;go_wp2_with fail;go_ret;exact⟨eX (by by_cases h:0<kC (P.take 1) l<;>simp[h]),aC.out.trans q2⟩
   ·by_cases e3:k=3
    ·subst e3
     have hm:bg (.mk 3 s m sh n) l=decide (0<kC (ay s) l):=by rw[bg,if_neg (by decide),if_neg (by decide),if_pos rfl]
     rw[hm];clear hm;generalize ay s=P at *;go_enter Tryz.func26,Tryz.ntmps26;go_wp2_with fail;refine(Ny.out _).mono ?_;rintro e w1 ⟨pv,rfl,ho,q1⟩;have aC:=Hd (HB.out.trans q1);have OV:Toks w1 pv P:=Sl.of_owns ho;obtain⟨pa,pc,rfl,_⟩:=OV.value;have xM:=VA.out;have KX:=VB.out;have cc:=fun (W:World) (hq:Q w1 W)=>ZH _ _ P l W (Sl.stays HV.out (aC.out.trans hq)) (Sl.stays OV hq) vk (by omega) (fun x hx=>(HLB.out x hx).1) xM
     have lD:=Kz P l;have CC:=Hd cc;clear q1 ho OV k0 k1 k2 k3 k4 Ny CEV VA VB xM cc;go_wp2_with fail;refine(CC.out _ (by first|exact Q.refl _|exact Q.drew _)).mono ?_
     rintro e w2 ⟨rfl,q2⟩;go_wp2_with fail;go_ret;exact⟨eX (by by_cases h:0<kC P l<;>simp[h]),aC.out.trans q2⟩
    ·by_cases e4:k=4
     ·subst e4
      have hm:bg (.mk 4 s m sh n) l=decide (0<jl (bQ s) l):=by rw[bg,if_neg (by decide),if_neg (by decide),if_neg (by decide),if_pos rfl]
      rw[hm];clear hm;have cfo:=fun W=>TL s W (by omega)
      have rG:=F5 s;generalize bQ s=f at *;have cbe:=fun (W:World) (hq:Q w W)=>aiG _ f l W (Sl.stays HV.out hq) (by omega) (by omega) (fun x hx=>(HLB.out x hx).2)
      have oQ:=Oa f l;generalize jl f l=c at *;have CFO:=Hd cfo;have CBE:=Hd cbe;clear cfo cbe Ny CEV VA VB;go_enter Tryz.func26,Tryz.ntmps26;go_wp2_with fail;refine(CFO.out _).mono ?_;rintro e w1 ⟨rfl,q1⟩;have aC:=Hd (HB.out.trans q1);clear q1 k0 k1 k2 k3 k4;go_wp2_with fail;refine(CBE.out _ aC.out).mono ?_;rintro e w2 ⟨rfl,q2⟩;go_wp2_with fail;go_ret;exact⟨eX (by by_cases h:0<c<;>simp[h]),aC.out.trans q2⟩
     ·have e5:k=5:=by omega
      subst e5;have hm:bg (.mk 5 s m sh n) l=(allT m l && !qP n l&&(!m.isEmpty||sh.isEmpty||qP sh l)):=by rw[bg,if_neg (by decide),if_neg (by decide),if_neg (by decide),if_neg (by decide),if_pos rfl]
      rw[hm];clear hm;generalize (allT m l && !qP n l&&(!m.isEmpty||sh.isEmpty||qP sh l))=bb at *;clear Ny VA VB;go_enter Tryz.func26,Tryz.ntmps26;go_wp2_with fail;refine(CEV.out _ HB.out).mono ?_;rintro e w1 ⟨rfl,q1⟩;go_wp2_with fail;go_ret;exact⟨rfl,HB.out.trans q1⟩
def TokRows(w:World)(tv:Value)(ds:List au):Prop:=∃a cap,tv=.slice a ds.length cap∧(0<ds.length→∃b off,a=some ⟨b,off,none⟩∧∀j (hj:j<ds.length),∃v,w.cell? ⟨b,off+j,none⟩=some v∧Toks w v (aA ds[j].2))
theorem TokRows.stays{w w':World}{tv:Value}{ds:List au}(h:TokRows w tv ds)(q:Q w w'):TokRows w' tv ds:=by
 obtain⟨a,cap,h1,h2⟩:=h;refine⟨a,cap,h1,fun hn=>?_⟩
 obtain⟨b,off,h3,h4⟩:=h2 hn;refine⟨b,off,h3,fun j hj=>?_⟩
 obtain⟨v,h5,h6⟩:=h4 j hj;exact⟨v,ah q h5,Sl.stays h6 q⟩
structure Wld (w:World) (p:Nat) (ds:List au):Prop where
 docs:∃a cap,w.cell? ⟨p,0,none⟩=some (.slice a ds.length cap)
 toks:∃tv,w.cell? ⟨p,1,none⟩=some tv∧TokRows w tv ds
theorem Wld.stays{w w':World}{p:Nat}{ds:List au}(h:Wld w p ds)(q:Q w w'):Wld w' p ds:=by
 obtain⟨⟨a,cap,h1⟩,tv,h2,h3⟩:=h;exact⟨⟨a,cap,ah q h1⟩,tv,ah q h2,h3.stays q⟩
theorem afU(s:Bytes)(h:s.length≤2000):(aA s).length≤100000001∧∀x∈aA s,x.2≤100000000∧x.1.length≤1000000000:=by
 have h1:=(lM s h).1;refine⟨by omega,fun x hx=>⟨?_,?_⟩⟩
 ·have:=((qQ s).2 x hx).2.2;omega
 ·have:=((qQ s).2 x hx);omega
theorem afV{id text:Bytes}(h:iT id text=true):id.length≤40∧text.length≤2000:=by
 unfold iT at h;simp only[Bool.and_eq_true,decide_eq_true_eq] at h;exact⟨h.1.1.1.2,h.1.1.2⟩
theorem six18{w w':World}(q:Q w w'){a0 a1 a2 a3 a4 a5:Addr}{v0 v1 v2 v3 v4 v5:Value}(h0:w.cell? a0=some v0)(h1:w.cell? a1=some v1)(h2:w.cell? a2=some v2)(h3:w.cell? a3=some v3)(h4:w.cell? a4=some v4)(h5:w.cell? a5=some v5):
  w'.cell? a0=some v0∧w'.cell? a1=some v1∧w'.cell? a2=some v2∧w'.cell? a3=some v3∧w'.cell? a4=some v4∧w'.cell? a5=some v5 :=
 ⟨ah q h0,ah q h1,ah q h2,ah q h3,ah q h4,ah q h5⟩
theorem SFinds_walk(v:Value)(l:List uD)(qv:Value)(q:QL)(W:World)(hv:Acts W v l)(hq:QryAt W q qv)(AY:ActsWf l)(xA:txtQ q)(hT:Tabs W)(gG:Spans W):
  Calls Tryz.prog 8 #[v,qv] W fun e w'=>e=.returned (.bool true)∧Below W.heap.size W w':=by
 have csh:=fun W' (h:Q W W')=>MP W' (hT.stays h) (gG.stays h)
 have csm:=fun W' (h:Q W W')=>BG v l W' (hv.stays h) AY.1 AY.2
 have cli:=fun W' (h:Q W W')=>Gv q qv W' xA (hq.stays h)
 have mF:=hq;obtain⟨k,s,m,sh,n,rfl⟩:∃k s m sh n,q=.mk k s m sh n:=by cases q;exact⟨_,_,_,_,_,rfl⟩
 obtain⟨vm,vs,vn,rfl,⟨a1,p1,rfl,x1⟩,⟨a2,p2,rfl,x2⟩,⟨a3,p3,rfl,x3⟩⟩:=hq.open;have hb:=Q.alloc W (.cells #[.int .i64 k,ak s,.slice a1 m.length p1,.slice a2 sh.length p2,.slice a3 n.length p3] 25);obtain⟨k0,k1,k2,k3,k4⟩:=(Blk.new W 25 #[.int .i64 k,ak s,.slice a1 m.length p1,.slice a2 sh.length p2,.slice a3 n.length p3]).c5;have Aa:=fun (hl:uT (.mk k s m sh n)=true)=>zN hl
 generalize hqe:QL.mk k s m sh n=q at *;generalize m.length=ml at *;generalize sh.length=sl at *;generalize n.length=nl at *;obtain⟨va,vc,EI,_⟩:=hv.value;subst EI;have HV:=Hd hv;have HQ:=Hd mF;have HT:=Hd hT;have nX:=Hd gG;have HB:=Hd hb;have XV:=Hd csh;have XW:=Hd csm;have Uy:=Hd cli;have HTX:=Hd xA;have HLW:=Hd AY;have HRT:=Hd Aa;clear hv mF hq hT gG hb csh csm cli xA AY hqe x1 x2 x3 Aa;go_enter Tryz.func8,Tryz.ntmps8;go_wp2_with fail;refine(XV.out _ HB.out).mono ?_;rintro e w1 ⟨rfl,q1⟩;have aC:=Hd (HB.out.trans q1);have g0:=ah q1 k0;have g1:=ah q1 k1;have g2:=ah q1 k2;have g3:=ah q1 k3;have g4:=ah q1 k4;clear q1 k0 k1 k2 k3 k4;go_wp2_with fail;refine(XW.out _ aC.out).mono ?_;rintro e w2 ⟨rfl,rfl⟩;cases dN:qB l with
 | false =>
  go_wp2_with fail;refine(Uy.out _ aC.out).mono ?_;rintro e w3 ⟨rfl,q3⟩;clear g0 g1 g2 g3 g4;go_wp2_with fail;go_ret;exact⟨rfl,aC.out.trans q3⟩
 | true =>
  have su:=Hd dN;clear dN;go_wp2_with fail;refine(Uy.out _ aC.out).mono ?_;rintro e w3 ⟨rfl,q3⟩;have bZ:=Hd (aC.out.trans q3);have y0:=ah q3 g0;have y1:=ah q3 g1;have y2:=ah q3 g2;have y3:=ah q3 g3;have y4:=ah q3 g4;clear q3 g0 g1 g2 g3 g4;cases jZ:uT q with
  | false =>
   clear y0 y1 y2 y3 y4;go_wp2_with fail;go_ret;exact⟨rfl,bZ.out⟩
  | true =>
   obtain⟨wB,aY⟩:=HRT.out jZ;have xP:=sW su.out;have cmd:=Ar _ l true w3 (HV.out.stays bZ.out) (by omega) (fun a ha=>⟨by have:=(xP.2 a ha).1;omega,fun o ho=>by have:=(xP.2 a ha).2 o ho;omega⟩) (HT.out.stays bZ.out) (nX.out.stays bZ.out)
   obtain⟨sV,gQ,sO⟩:=wV true l su.out;generalize je true l l.length=ps at *;have Lp:=Hd cmd;have uq:=Hd sV;have RF:=Hd wB;have AB:=Hd aY;clear cmd sV wB aY jZ xP;go_wp2_with fail;refine Lp.out.mono ?_;rintro e w5 ⟨⟨lv,mv,pl,rfl,hp,wZ,sU⟩,q5⟩;obtain⟨la,lc,Qn,XZ⟩:=hp.value;subst Qn;obtain⟨ma,mc,Nz,pz⟩:=wZ.value;subst Nz;have Cm:=Q.alloc w5 (.cells #[.slice la ps.length lc] 31);have oM:=q5.trans Cm;have x0:=ah oM y0;have x1:=ah oM y1;have x2:=ah oM y2;have x3:=ah oM y3;have x4:=ah oM y4;have bx:=(Boxed.new w5 31 (.slice la ps.length lc)).cell;have HP:=Hd hp;have Ie:=Hd Cm;have Vz:=Hd (bZ.out.trans oM);clear hp wZ sU q5 y0 y1 y2 y3 y4 Lp XZ pz Cm oM;have csr:=kD (w5.alloc (.cells #[.slice la ps.length lc] 31)) _ ps q _ (HP.out.stays Ie.out) uq.out (by omega) (HQ.out.stays Vz.out) RF.out (by have:=AB.out;omega) (HT.out.stays Vz.out) (nX.out.stays Vz.out)
   have cdo:=fun (W':World) (hq:Q w5 W')=>PX _ ps W' (HP.out.stays hq) (by omega) uq.out.1
   have RH:=yN ps uq.out.2;have Xc:=ae7 (bW ps) q RH;have RI:∀(i:Nat) (a b:dY),(searchL (bW ps) q)[i]?=some a→(searchL (bW ps) q)[i+1]?=some b→pR a b=true:=fun i a b ha hb=>by
    obtain⟨h1,rfl⟩:=List.getElem?_eq_some_iff.1 ha;obtain⟨h2,rfl⟩:=List.getElem?_eq_some_iff.1 hb;exact ah1 (bW ps) q RH i h2
   have aiO:=nD (bW ps) q;have bV:=ae8 (bW ps);have ku:(bW ps).length≤6000:=by have:=(Gq ps uq.out.2).length_eq;omega
   have bY:=Au (bW ps) q;have Aa:=(Fe ps uq.out).1;rw[BD ps uq.out] at csr;generalize searchL (bW ps) q=xs at *;generalize bW ps=ds at *;have rE:xs.length≤6000:=by omega
   have E5:=Hd csr;have CDO:=Hd cdo;have aqQ:=Hd Xc;have auR:=Hd RI;have auS:=Hd aiO;have Oy:=Hd bV;have alW:=Hd Aa;clear csr cdo RH Xc RI aiO bV Aa bY;go_wp2_with fail;refine E5.out.mono ?_;rintro e w7 ⟨av,rfl,OZ,q7⟩;obtain⟨aa,ac,hav,EN⟩:=OZ.value;subst hav;have u0:=ah q7 x0;have u1:=ah q7 x1;have u2:=ah q7 x2;have u3:=ah q7 x3;have u4:=ah q7 x4;have b7:=ah q7 bx;have ny:=Hd (Ie.out.trans q7);have auT:=Hd (Vz.out.trans q7);have HA:=Hd OZ;clear q7 OZ EN x0 x1 x2 x3 x4 bx E5;generalize w5.heap.size=X at *;go_wp2_with fail;refine(CDO.out _ ny.out).mono ?_;rintro e w10 ⟨dv,rfl,ho,q10⟩;have JF:Docs w10 dv ds:=Sl.of_owns ho;obtain⟨da,dc,alY,QY⟩:=JF.value;subst alY;have v0:=ah q10 u0;have v1:=ah q10 u1;have v2:=ah q10 u2;have v3:=ah q10 u3;have v4:=ah q10 u4;have EK:=Hd (auT.out.trans q10);have Ig:=Hd (HA.out.stays q10);have HDX:=Hd QY;obtain⟨aa',ac',hae,EN⟩:=Ig.out.value;cases hae;have HAX:=Hd EN;clear q10 ho JF QY EN u0 u1 u2 u3 u4 b7;have V0:=Hd v0;have V1:=Hd v1;have V2:=Hd v2;have V3:=Hd v3;have V4:=Hd v4;clear v0 v1 v2 v3 v4;have pz:Tryz.prog.follows .mixedOrders=true:=by kernel_rfl
   go_wp2_with fail;go_loopw [12,13,14,15,16] (fun n i _ _ _ wr=>∃j:Nat,j≤ds.length∧i=.int .i64 (j:Nat)∧n=.int .i64 (((ds.take j).filter fun d=>bg q (aA d.2)).length:Nat)∧Hid (Q w10 wr)) (fun _ i _ _ _ _=>ds.length-(intOf i).toNat)
   case atStart=>exact⟨0,by omega,rfl,rfl,Q.refl _⟩
   case round =>
    obtain⟨j,hj,rfl,rfl,HQj⟩:=hrel;obtain⟨wo,rfl⟩:∃wo:World,wo=wr:=⟨_,rfl⟩;have OY:((ds.take j).filter fun d=>bg q (aA d.2)).length≤6000:=Nat.le_trans (List.length_filter_le _ _) (by rw[List.length_take];omega)
    by_cases hlt:j<ds.length
    ·obtain⟨b,off,rfl,bC⟩:=HDX.out (by omega)
     have aI:=Oy.out j hlt (fun d=>bg q (aA d.2))
     have hmn:=aqQ.out ds[j] (List.getElem_mem hlt);have Aa:=afV (alW.out ds[j] (List.getElem_mem hlt));obtain⟨c0,c1⟩:=bC j hlt;have d0:=ah HQj.out c0;have d1:=ah HQj.out c1;have ql:(j:Int)<(ds.length:Int):=by omega
     have gY:(0:Int)≤(j:Int):=by omega
     generalize ((ds.take j).filter fun d=>bg q (aA d.2)).length=nc at *
     generalize ds[j]=d at *;obtain⟨did,dtx⟩:=d;simp only at d0 d1 aI hmn Aa;have htb:=afU dtx Aa.2;have cms:=fun (W':World) (hq:Q w10 W') (tv:Value) (gU:Toks W' tv (aA dtx))=>acI q _ tv (aA dtx) W' RF.out (by have:=AB.out;omega) (HQ.out.stays (EK.out.trans hq)) gU htb.1 htb.2
     have ctk:=fun (W':World)=>Gh dtx W' (by omega)
     generalize aA dtx=tks at *;generalize bg q tks=mb at *;have u0:=ah HQj.out V0.out;have u1:=ah HQj.out V1.out;have u2:=ah HQj.out V2.out;have u3:=ah HQj.out V3.out;have u4:=ah HQj.out V4.out;have KK:=Hd (Q.refl wo);have U0:=Hd u0;have U1:=Hd u1;have U2:=Hd u2;have U3:=Hd u3;have U4:=Hd u4;have D0:=Hd d0;have D1:=Hd d1;have C0:=Hd c0;have CMS:=Hd cms;have CTK:=Hd ctk;have bJ:=Hd aI;have HMN:=Hd hmn;clear bC c0 c1 aI hmn cms ctk htb;go_wp2_with fail;go_region_held3 (fun w'=>w'.cell? ⟨W.heap.size,0,none⟩=some (.int .i64 k)∧w'.cell? ⟨W.heap.size,1,none⟩=some (ak s)∧w'.cell? ⟨W.heap.size,2,none⟩=some (.slice a1 ml p1)∧w'.cell? ⟨W.heap.size,3,none⟩=some (.slice a2 sl p2)∧w'.cell? ⟨W.heap.size,4,none⟩=some (.slice a3 nl p3)∧w'.cell? ⟨b,off+j*2+1,none⟩=some (ak dtx))
      (first|exact⟨u0,u1,u2,u3,u4,d1⟩|exact six18 (by repeat (first|with_reducible exact KK.out|with_reducible apply Qt.al0|with_reducible apply Qt.dr0)) U0.out U1.out U2.out U3.out U4.out D1.out)
      (first
       | (go_at_call 27;refine(CTK.out _).mono ?_;rintro e w11 ⟨tv,rfl,ho,q11⟩;have gU:Toks w11 tv tks:=Sl.of_owns ho;obtain⟨ta,tc,htv,xA⟩:=gU.value;clear xA;subst htv;have qV:=Hd gU;have s':Q wo w11:=Q.trans (by repeat (first|with_reducible exact KK.out|with_reducible apply Qt.al0|with_reducible apply Qt.dr0)) q11;clear KK;have KK:=Hd s';clear s' q11 ho gU)
       | (go_at_call 26;refine(CMS.out _ (HQj.out.trans (by repeat (first|with_reducible exact KK.out|with_reducible apply Qt.al0|with_reducible apply Qt.dr0))) _ (by first|exact qV.out|exact Sl.stays qV.out (Q.drew _))).mono ?_;rintro e w12 ⟨rfl,q12⟩;have s':Q wo w12:=Q.trans (by repeat (first|with_reducible exact KK.out|with_reducible apply Qt.al0|with_reducible apply Qt.dr0)) q12;clear KK;have KK:=Hd s';clear s' q12))
     all_goals
      have hqm:Q wo _:=(by repeat (first|with_reducible exact KK.out|with_reducible apply Qt.al0|with_reducible apply Qt.dr0))
      have e0:=ah hqm D0.out;have HQm:=Hd (HQj.out.trans hqm);have E0:=Hd e0;clear hqm u0 u1 u2 u3 u4 d0 d1 KK;go_wp2_with fail;go_loopw [15,16] (fun x i wr=>∃m:Nat,m≤xs.length∧i=.int .i64 (m:Nat)∧x=.int .i64 (((xs.take m).filter fun h=>h.1==did).length:Nat)∧Hid (Q w10 wr)) (fun _ i _=>xs.length-(intOf i).toNat)
      case atStart=>exact⟨0,by omega,rfl,rfl,HQm.out⟩
      case round =>
       obtain⟨m,hm,rfl,rfl,HQi⟩:=hrel;obtain⟨wi,rfl⟩:∃wi:World,wi=wr:=⟨_,rfl⟩;have KT:((xs.take m).filter fun h=>h.1==did).length≤6000:=Nat.le_trans (List.length_filter_le _ _) (by rw[List.length_take];omega)
       have e0:=ah HQi.out C0.out;by_cases AU:m<xs.length
       ·obtain⟨b2,off2,rfl,RJ⟩:=HAX.out (by omega)
        have f0:=ah HQi.out (RJ m AU).1;have JL:(m:Int)<(xs.length:Int):=by omega
        have Il:(0:Int)≤(m:Int):=by omega
        have FN:((xs.take (m+1)).filter fun h=>h.1==did).length=((xs.take m).filter fun h=>h.1==did).length+if xs[m].1=did then 1 else 0:=by
         rw[List.take_succ_eq_append_getElem AU,List.filter_append,List.length_append];by_cases e:xs[m].1=did
         ·rw[if_pos e,List.filter_cons_of_pos (by simpa using e)];rfl
         ·rw[if_neg e,List.filter_cons_of_neg (by simpa using e)];rfl
        generalize ((xs.take m).filter fun h=>h.1==did).length=c at *
        generalize xs[m].1=hid at *;have Ep:=Hd FN;clear FN RJ;by_cases e:hid=did
        ·have hs:=Ep.out
         rw[if_pos e] at hs;have oU:=Hd hs;clear hs Ep;subst e;go_wp2_with fail;go_quiet (fail);go_wp2_with fail;go_roundw;case rel=>exact⟨m+1,by omega,by go_num,by rw[oU.out];go_num,HQi.out.trans (Q.drewN _ _)⟩
         case measure=>simp[intOf];omega
        ·have hs:=Ep.out
         rw[if_neg e] at hs;have oU:=Hd hs;have zI:(hid==did)=false:=by simpa using e
         have zJ:@BEq.beq (List UInt8) instBEqOfDecidableEq hid did=false:=by simpa using e
         have zK:@BEq.beq (List UInt8) List.instBEq hid did=false:=by simpa using e
         clear hs Ep e;go_wp2_with fail;go_quiet (fail);go_wp2_with fail;go_roundw;case rel=>exact⟨m+1,by omega,by go_num,by rw[oU.out];rfl,HQi.out.trans (Q.drewN _ _)⟩
         case measure=>simp[intOf];omega
       ·have cO:xs.length=m:=by omega
        have vU:¬(m:Int)<(xs.length:Int):=by omega
        have dI:((xs.take m).filter fun h=>h.1==did).length=if mb=true then 1 else 0:=by rw[←cO,List.take_length];exact HMN.out
        rw[dI];have HS:=Hd bJ.out;clear cO dI KT;cases mb with
        | true =>
         have hs:=HS.out;rw[if_pos rfl] at hs;have oU:=Hd hs;rw[if_pos rfl];clear hs HS;go_wp2_with fail;go_roundw;case rel=>exact⟨j+1,by omega,by go_num,by rw[oU.out];go_num,HQi⟩
         case measure=>simp[intOf];omega
        | false =>
         have hs:=HS.out;rw[if_neg (by simp)] at hs
         have oU:=Hd hs;rw[if_neg (by simp)]
         clear hs HS;go_wp2_with fail;go_roundw;case rel=>exact⟨j+1,by omega,by go_num,by rw[oU.out];go_num,HQi⟩
         case measure=>simp[intOf];omega
    ·have cO:ds.length=j:=by omega
     have vU:¬(j:Int)<(ds.length:Int):=by omega
     have dI:((ds.take j).filter fun d=>bg q (aA d.2)).length=xs.length:=by rw[←cO,List.take_length];exact auS.out.symm
     rw[dI];clear cO dI OY;have HQE:=Hd (EK.out.trans HQj.out);go_wp2_with fail;go_loopw [17] (fun i wr=>∃m n1:Nat,i=.int .i64 (n1:Nat)∧Hid (n1=m+1)∧m≤xs.length∧Hid (Q w10 wr)) (fun i _=>xs.length+1-(intOf i).toNat)
     case atStart=>exact⟨0,1,rfl,rfl,by omega,HQj.out⟩
     case round =>
      obtain⟨m,n1,rfl,HN,hm,HQi⟩:=hrel;obtain⟨wi,rfl⟩:∃wi:World,wi=wr:=⟨_,rfl⟩;by_cases AU:n1<xs.length
      ·obtain⟨b2,off2,rfl,RJ⟩:=HAX.out (by omega)
       have al3:m<xs.length:=by have:=HN.out;omega
       have RI:=auR.out m xs[m] xs[n1] (List.getElem?_eq_getElem al3) (by rw[←HN.out];exact List.getElem?_eq_getElem AU)
       have f0:=ah HQi.out (RJ m al3).1;have f1:=ah HQi.out (RJ m al3).2;have g0:=ah HQi.out (RJ n1 AU).1;have g1:=ah HQi.out (RJ n1 AU).2;have JL:(n1:Int)<(xs.length:Int):=by omega
       have yI:(0:Int)≤(n1:Int):=by omega
       have yK:(m:Int)<(xs.length:Int):=by omega
       have Il:(0:Int)≤(m:Int):=by omega
       have CQ:IntKind.i64.wrap ((n1:Int)-1)=(m:Int):=by have:=HN.out;rw[IntWalk.i64_in _ (by omega)];omega
       generalize hxm:xs[m]=ha at *;generalize hxn:xs[n1]=hb at *;clear hxm hxn;obtain⟨i1,s1⟩:=ha;obtain⟨i2,s2⟩:=hb;simp only at f0 f1 g0 g1;clear RJ;by_cases FI:s2<s1
       ·have k1:¬(s1:Int)<(s2:Int):=by omega
        have k2:((s1:Int)==(s2:Int))=false:=by simp;omega
        have k3:¬(s1:Int)=(s2:Int):=by omega
        have k4:¬s1<s2:=by omega
        have k5:¬s1=s2:=by omega
        have k6:decide (s1<s2)=false:=decide_eq_false k4;have k7:decide ((s1:Int)<(s2:Int))=false:=decide_eq_false k1;have k8:s2≤s1:=by omega
        clear RI;go_wp2_with fail;go_quiet (fail);go_wp2_with fail;go_roundw;case rel=>exact⟨m+1,n1+1,by go_num,by show _=_;rw[HN.out],by omega,HQi.out.trans (Q.drewN _ _)⟩
        case measure=>simp[intOf];omega
       ·unfold pR at RI
        simp only[Bool.or_eq_true,decide_eq_true_eq,Bool.and_eq_true,beq_iff_eq] at RI;have GY:s1=s2∧i1<i2:=by
         rcases RI with h|h
         ·exact absurd h FI
         ·exact h
        obtain⟨rfl,uj⟩:=GY;have oQ:=ab3 uj;have hni:¬i2≤i1:=fun h=>absurd uj (List.not_lt.2 h)
        clear RI FI uj;go_wp2_with fail;go_quiet (fail);go_wp2_with fail;go_roundw;case rel=>exact⟨m+1,n1+1,by go_num,by show _=_;rw[HN.out],by omega,HQi.out.trans (Q.drewN _ _)⟩
        case measure=>simp[intOf];omega
      ·have auL:¬(n1:Int)<(xs.length:Int):=by omega
       go_wp2_with fail;go_ret;exact⟨rfl,EK.out.trans HQi.out⟩
end
end Go.Proofs.YteddhajdandopaaGreatDoor
