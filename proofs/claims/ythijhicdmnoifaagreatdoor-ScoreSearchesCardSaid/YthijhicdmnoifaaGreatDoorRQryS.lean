/- Joined texts of one proof. -/
import Derived.Test.YthijhicdmnoifaaGreatDoorRWBin
import Derived.Shelf.SlSortCmp.WholeK
set_option linter.unusedSimpArgs false
set_option linter.unusedVariables false
set_option linter.unnecessarySimpa false
set_option maxRecDepth 100000
set_option maxHeartbeats 8000000
namespace Go.Proofs.YthijhicdmnoifaaGreatDoor
section
open Go.Sort
theorem Oc(a b:dY):pR a b = !lG b a:=by
 cases h:pR a b with
 | false=>rw[PV h];rfl
 | true =>
  symm;rw[Bool.not_eq_true'];unfold pR at h;unfold lG;simp only[Bool.or_eq_true,decide_eq_true_eq,Bool.and_eq_true,beq_iff_eq] at h;rw[Bool.or_eq_false_iff,decide_eq_false_iff_not,Bool.and_eq_false_iff,beq_eq_false_iff_ne];rcases h with h|⟨h,g⟩
  ·exact⟨by omega,.inl (by omega)⟩
  ·refine⟨by omega,.inr ?_⟩
   unfold leB;rw[decide_eq_false_iff_not];exact fun bR=>absurd g (List.not_lt.2 bR)
theorem ahD(a:dY):lG a a=true:=by have:=LQ a a;simpa using this
theorem hit_swo:SWO pR where
 irrefl x:=by rw[Oc,ahD];rfl
 trans x y z h1 h2:=by
  rw[Oc,Bool.not_eq_true'] at h1 h2 ⊢;rw[Bool.eq_false_iff] at h1 h2 ⊢;intro h;have KV:lG x y=true:=by have:=LQ x y;rw[Bool.or_eq_true] at this;exact this.elim id (fun h=>absurd h h1)
  exact h2 (F7 _ _ _ h KV)
 ntrans x y z h1 h2:=by
  rw[Oc,Bool.not_eq_false'] at h1 h2 ⊢;exact F7 _ _ _ h2 h1
def cmpB(a b:Bytes):Int:=if a<b then -1 else if b<a then 1 else 0
def ordH(x y:dY):Int:=if Lib.compareInt (y.2:Int) (x.2:Int)=0 then cmpB x.1 y.1 else Lib.compareInt (y.2:Int) (x.2:Int)
theorem ordH_lt(x y:dY):decide (ordH x y<0)=pR x y:=by
 unfold ordH pR Lib.compareInt cmpB;by_cases h1:y.2<x.2
 ·simp[h1]
 ·by_cases h2:x.2<y.2
  ·have h3:¬x.2=y.2:=by omega
   simp[h1,h2,h3]
  ·have h3:x.2=y.2:=by omega
   by_cases g1:x.1<y.1
   ·simp[h3,g1]
   ·by_cases g2:y.1<x.1<;>simp[h3,g1,g2]
theorem sorted_of{d d':Array dY}(hp:PermIn 0 d.size d d')(hs:SortedIn pR 0 d.size d'):d'.size=d.size∧d'.toList.Perm d.toList∧d'.toList.Pairwise (fun x y=>lG x y=true):=by
 obtain⟨h1,_,h2⟩:=hp;have e1:d.extract 0 d.size=d:=Array.extract_size;have e2:d'.extract 0 d.size=d':=by rw[←h1];exact Array.extract_size
 rw[e1,e2] at h2;refine⟨h1,h2,?_⟩;rw[List.pairwise_iff_getElem];intro i j hi hj tQ;have Es:j<d'.size:=by simpa using hj
 have hi':i<d'.size:=by simpa using hi
 have h:=hs i j (Nat.zero_le _) tQ (by omega)
 rw[Oc,Bool.not_eq_false'] at h;rw[getElem!_pos d' i hi',getElem!_pos d' j Es] at h;simpa using h
theorem aaI{ds:List au}{q:QL}{d d':Array dY}(hd:d.toList=D6 ds q)(hp:PermIn 0 d.size d d')(hs:SortedIn pR 0 d.size d'):d'.toList=bA ds q:=by
 obtain⟨_,h1,h2⟩:=sorted_of hp hs;rw[hd] at h1;exact LU _ _ (h1.trans (sN ds q).symm) h2 (yB ds q)
theorem QL.ind{P:QL→Prop}(h:∀k s m sh n,(∀q∈m,P q)→(∀q∈sh,P q)→(∀q∈n,P q)→P (.mk k s m sh n))(q:QL):P q :=
 QL.rec (motive_1:=P) (motive_2:=fun l=>∀q∈l,P q) (fun k s m sh n h1 h2 h3=>h k s m sh n h1 h2 h3) (fun _ hx=>absurd hx List.not_mem_nil) (fun q qs h1 h2 x hx=>by
  rcases List.mem_cons.1 hx with rfl|hx
  ·exact h1
  ·exact h2 x hx) q
end
section
open Go.RowKit
theorem ab1(s:Bytes)(hs:s.length≤2000):∀t∈ay s,t.2≤1000000:=fun t ht=>by
 unfold ay kY at ht
 obtain⟨x,hx,rfl⟩:=List.mem_map.1 ht
 have:=((lM s hs).2 x hx).2
 simp only;omega
theorem SlW.take1{z:Zone}{w:World}{g n cap:Nat}{p:bP}(h:SlW z w (.slice (some ⟨g,0,none⟩) n cap) n 2 (dF p))(hn:0<n)(hp:n=p.length):SlW z w (.slice (some ⟨g,0,none⟩) 1 cap) 1 2 (dF (p.take 1)):=by
 have e:dF (p.take 1)=(dF p).take 2:=by cases p with|nil=>simp at hp;omega|cons a b=>rfl
 rw[e];obtain⟨⟨h1,a,c,h2,h3⟩,h4⟩:=h;refine⟨⟨by rw[List.length_take,h1];omega,_,_,rfl,fun _=>?_⟩,fun _=>?_⟩
 ·obtain⟨b,off,h5,h6⟩:=h3 hn
  cases h2;cases h5;refine⟨_,_,rfl,fun j u hj=>h6 j u ?_⟩
  rw[List.getElem?_take] at hj;split at hj
  ·exact hj
  ·cases hj
 ·obtain⟨b,off,c',h5,h6⟩:=h4 hn
  cases h5;exact⟨_,_,_,rfl,h6⟩
theorem owns_capW{w:World}{base:Nat}{e:TypeId}{size n:Nat}{v:Value}{xs:List Value}(h:w.ownsRow base e size v n xs):∀a m cap,v=.slice a m cap→m≤cap:=by
 intro a m cap hv;rcases h.2 with ⟨rfl,h0⟩|⟨g,c,cur,rfl,_,_,Ud,_⟩
 ·cases hv;exact Nat.le_refl _
 ·cases hv;exact Ud
theorem ahE(w₀:World)(pv:Value)(ps:List aG)(wt:Bytes→Nat)(sb mb g:Nat)(l:List au)(H:SrH w₀ pv ps wt)(hg:SegAt w₀ g l (eF l))(hn:l.length≤500)(bD:fV l)(q:QL):
  iD q=true→dh q≤100→WkC w₀ pv (aH ps).length wt sb mb g l q:=by
 refine QL.ind (P:=fun q=>iD q=true→dh q≤100→WkC w₀ pv (aH ps).length wt sb mb g l q) ?_ q
 intro k s m sh no ihm ihs ihn wB aY W v hs hq;obtain⟨vm,vs,vn,rfl,qm,qs,qn⟩:=hq.open;obtain⟨⟨k1,k2,kE⟩,nm,ns,nn⟩:=Ky wB;have hf:∀i s',fO l wt (.mk k s m sh no) i=some s'→i<l.length∧s'≤pJ:=fun i s' h=>abQ l wt H.wt_le (II bD) _ wB (by omega) i s' h
 rw[dh] at aY;have hm:∀q∈m,WkC w₀ pv (aH ps).length wt sb mb g l q:=fun q hq=>ihm q hq (yP nm hq) (by have:=uN hq;omega)
 have Xj:∀q∈sh,WkC w₀ pv (aH ps).length wt sb mb g l q:=fun q hq=>ihs q hq (yP ns hq) (by have:=uN hq;omega)
 have fE:∀q∈no,WkC w₀ pv (aH ps).length wt sb mb g l q:=fun q hq=>ihn q hq (yP nn hq) (by have:=uN hq;omega)
 have AU:=jW m;have rR:=jW sh;have vk:=jW no;have cwt:=fun t W hs=>ae2 w₀ pv ps wt sb mb t W hs H.parts H.ok H.len (H.wt t)
 have OQ:=H.wt_le;have cd:=fun W' (hq:Q W W')=>F6 g l _ W' (hg.stays (hs.q.trans hq)) (by omega)
 have cp:=fun W' (hq:Q W W')=>ae6 s W' (by omega) (H.tabs.stays (hs.q.trans hq)) (H.spans.stays (hs.q.trans hq))
 have cf:=fun W' (hq:Q W W')=>VX s W' (by omega) (H.tabs.stays (hs.q.trans hq))
 have cx:=fun f W' (hf:f.length≤1000000000) (hq:Q W W')=>ahB w₀ (.pointer (some ⟨sb,0,none⟩)) g l f W' (hs.q.trans hq) hg hn bD hf
 have cb:=fun W' ze hf=>SBoth_any w₀ pv (aH ps).length wt sb mb g l 5 s m sh no vm vs vn W' hm Xj fE ze qm qs qn ⟨by omega,by omega,by omega⟩ hn hf
 have cph:=fun (p:bP) (wg:Nat) (w:World) (c:Cs w₀.heap.size W w) (tv:Value) (ht:SlW ⟨w₀.heap.size,W.heap.size,w.heap.size⟩ w tv p.length 2 (dF p)) aF Ri oP hw Rj=>IsWk.phrase (wt:=wg) (z:=⟨w₀.heap.size,W.heap.size,w.heap.size⟩) (w:=w) (n:=l.length) (B:=pJ) hg (Below.trans hs.q (Cs.low c hs.q.size)) rfl hn bD ht aF Ri oP hw Rj
 obtain⟨nd,adF⟩:∃nd,nd=(aH ps).length:=⟨_,rfl⟩;rw[←adF] at cwt cb hs ⊢;have rG:(bQ s).length≤1000000000:=by have:=F5 s;omega
 have CWT:=Hd cwt;have Z9:=Hd OQ;have CD:=Hd cd;have CP:=Hd cp;have CF:=Hd cf;have CX:=Hd cx;have CB:=Hd cb;have Ny:=Hd cph;have HF:=Hd hf;have HS:=Hd hs;have ao5:=ab1 s (by omega)
 have ao6:=LW s (by omega)
 have qD:=Hd ao5;clear cwt OQ cd cp cf cx cb cph hf hs hm Xj fE ihm ihs ihn H hg bD qm qs qn hq nm ns nn wB adF ao5;have gY:=Blk.new W 25 #[.int .i64 k,ak s,vm,vs,vn];have Rh:=Hd gY;clear gY;go_enter Tryz.func24,Tryz.ntmps24;go_wp2_with fail;refine(CD.out _ (Q.alloc _ _)).mono ?_;rintro e w2 ⟨dv,rfl,EU,q2⟩;obtain⟨da,dcap,rfl,_⟩:=aT EU;have gJ:Q W w2:=(Q.alloc _ _).trans q2;have ao7:Q W (w2.alloc (.cells #[.int .i64 (l.length:Nat)] 120)):=gJ.trans (Q.alloc _ _);have gK:=((Rh.out.stays q2).alloc (.cells #[.int .i64 (l.length:Nat)] 120));obtain⟨g0,g1,g2,g3,g4⟩:=gK.c5;have hev:=Blk.new w2 120 #[.int .i64 (l.length:Nat)];have KU:=Hd gK;have HEV:=Hd hev;have aS:=Hd ao7;clear EU q2 gJ ao7 gK hev CD Rh;go_wp2_with fail;refine(CP.out _ aS.out).mono ?_;rintro e w3 ⟨tv,rfl,ho,q3⟩;have tX:=aS.out.trans q3;have ao8:=KU.out.stays q3;have ao9:=HEV.out.stays q3;have oU:=Hd (HS.out.stays tX);have bZ:=Hd tX;have atD:=Hd ao8;have atE:=Hd ao9;have y9:SlW ⟨w₀.heap.size,W.heap.size,w3.heap.size⟩ w3 tv (ay s).length 2 (dF (ay s)):=SlW.of_owns ho (aS.out.size) (Nat.le_refl _);obtain⟨ta,tcap,rfl,zw⟩:=aT ho;have aa0:=owns_capW ho _ _ _ rfl;clear g0 g1 g2 g3 g4 KU HEV CP q3 tX ao8 ao9 ho HS aS;obtain⟨g0,g1,g2,g3,g4⟩:=atD.out.c5;have ge:w3.cell? ⟨w2.heap.size,0,none⟩=some (.int .i64 (l.length:Nat)):=atE.out.cell 0 _ rfl;have hk:k=1∨k=4∨k=5∨k=2∨k=3:=by omega
 rcases hk with rfl|rfl|rfl|rfl|rfl
 ·have qH:fO l wt (.mk 1 s m sh no)=tu l.length:=by rw[fO,if_pos rfl]
  have nY:=(IsWk.every ⟨w₀.heap.size,W.heap.size,w3.heap.size⟩ l.length pJ w3 (by omega) (by decide)).refit qH.symm HF.out
  have BU:=Hd nY;clear qH nY y9 zw;go_wp2_with fail;go_ret;exact⟨_,rfl,BU.out,Cs.of_q bZ.out,oU.out⟩
 ·have qH:fO l wt (.mk 4 s m sh no)=Ag (dK l) l (bQ s):=by rw[fO,if_neg (by decide),if_pos rfl]
  have Uk:=Hd qH;clear qH y9 zw;go_wp2_with fail;refine(CF.out _ bZ.out).mono ?_;rintro e w4 ⟨rfl,q4⟩;have pF:=Hd (bZ.out.trans q4);have BP:=Hd (oU.out.stays q4);clear q4 g0 g1 g2 g3 g4 ge;go_wp2_with fail;refine(CX.out _ _ rG pF.out).mono ?_;rintro e w5 ⟨u,rfl,hu,q5⟩;have nY:=(hu.wide (z':=⟨w₀.heap.size,W.heap.size,w5.heap.size⟩) (Nat.le_refl _) pF.out.size (Nat.le_refl _)).refit Uk.out.symm HF.out;have BU:=Hd nY;have mZ:=Hd (pF.out.trans q5);have Qs:=Hd (BP.out.stays q5);clear hu q5 nY;go_wp2_with fail;go_ret;exact⟨_,rfl,BU.out,Cs.of_q mZ.out,Qs.out⟩
 ·have qH:fO l wt (.mk 5 s m sh no)=lZ (Af l.length (fZ l wt m) (fZ l wt sh)) (fZ l wt sh) (fZ l wt no):=by rw[fO,if_neg (by decide),if_neg (by decide),if_pos rfl]
  have hf:=HF.out;rw[qH] at hf;have cb:=CB.out w3 oU.out hf;have C:=Hd cb;have Uk:=Hd qH;clear cb qH y9 zw hf;go_wp2_with fail;refine C.out.mono ?_;rintro e w5 ⟨u,rfl,hu,c5,s5⟩;have nY:=(hu.wide (z':=⟨w₀.heap.size,W.heap.size,w5.heap.size⟩) (Nat.le_refl _) bZ.out.size (Nat.le_refl _)).refit Uk.out.symm (fun i s h=>HF.out i s h)
  have BU:=Hd nY;have zP:=Hd ((Cs.of_q bZ.out).trans c5);have Qs:=Hd s5;clear hu c5 s5 nY C g0 g1 g2 g3 g4 ge;go_wp2_with fail;go_ret;exact⟨_,rfl,BU.out,zP.out,Qs.out⟩
 ·by_cases hp:ay s=[]
  ·have qH:fO l wt (.mk 2 s m sh no)=DW:=by rw[fO,if_neg (by decide),if_neg (by decide),if_neg (by decide),if_pos hp]
   have nY:=(IsWk.nothing ⟨w₀.heap.size,W.heap.size,w3.heap.size⟩ l.length pJ w3).refit qH.symm HF.out;have Dv:(!(ay s).isEmpty)=false:=by rw[hp];rfl
   rw[Dv];have BU:=Hd nY;clear qH nY y9 zw hp Dv;go_wp2_with fail;go_ret;exact⟨_,rfl,BU.out,Cs.of_q bZ.out,oU.out⟩
  ·have gQ:0<(ay s).length:=List.length_pos_iff.2 hp
   obtain⟨tg,rfl⟩:=zw gQ;have qH:fO l wt (.mk 2 s m sh no)=kM l ((ay s).take 1) (bB wt ((ay s).take 1)):=by rw[fO,if_neg (by decide),if_neg (by decide),if_neg (by decide),if_neg hp,if_pos rfl]
   have Dv:(!(ay s).isEmpty)=true:=by cases xk:ay s with|nil=>exact absurd xk hp|cons a b=>rfl
   rw[Dv];obtain⟨n3,JJ⟩:∃n3,n3=(ay s).length:=⟨_,rfl⟩;rw[←JJ] at y9 gQ ao6 aa0 ⊢;have aD:0<((ay s).take 1).length:=by rw[List.length_take];omega
   have aja:((ay s).take 1).length≤2001:=by rw[List.length_take];omega
   have dR:SlW ⟨w₀.heap.size,W.heap.size,w3.heap.size⟩ w3 (.slice (some ⟨tg,0,none⟩) ((ay s).take 1).length tcap) ((ay s).take 1).length 2 (dF ((ay s).take 1)):=by rw[show((ay s).take 1).length=1 by rw[List.length_take];omega];exact y9.take1 gQ JJ
   have Rk:∀t∈(ay s).take 1,t.2≤1000000:=fun t ht=>qD.out t (List.mem_of_mem_take ht)
   have XI:bB wt ((ay s).take 1)≤1000000000:=Nat.le_trans (I8 wt Z9.out _) (by omega)
   have Rj:=HF.out;rw[qH] at Rj;have I4:∀np,np=((ay s).take 1).length→∀w,Cs w₀.heap.size w3 w→IsWk ⟨w₀.heap.size,W.heap.size,w.heap.size⟩ l.length pJ w (.iface 132 (.agg #[.pointer (some ⟨g,0,none⟩),.slice (some ⟨tg,0,none⟩) np tcap,.int .i64 (bB wt ((ay s).take 1):Nat)])) (fO l wt (.mk 2 s m sh no)):=fun np rU w c=>by
    rw[qH,rU];exact Ny.out ((ay s).take 1) (bB wt ((ay s).take 1)) w ((Cs.of_q bZ.out).trans c) _ (((Ws.of_cs c (Nat.le_refl _)).sl dR).wide (Nat.le_refl _) c.size) aD (by omega) Rk XI Rj
   clear Dv qH Rj Rk XI hp CB CF CX y9 HF;have atF:(0:Int)<(n3:Int):=by omega
   have atG:(1:Int)≤(n3:Int):=by omega
   have zT:n3≤tcap:=aa0;have rU:1=((ay s).take 1).length:=by rw[List.length_take];omega
   have bY:SlW ⟨w₀.heap.size,W.heap.size,w3.heap.size⟩ w3 (.slice (some ⟨tg,0,none⟩) 1 tcap) 1 2 (dF ((ay s).take 1)):=by have e1:=dR;rw[←rU] at e1;exact e1
   have aF:0<1:=by decide
   have vU:1≤2001:=by decide
   have JK:∀j (hj:j<((ay s).take 1).length),w3.cell? ⟨tg,j*2,none⟩=some (ak ((ay s).take 1)[j].1)∧w3.cell? ⟨tg,j*2+1,none⟩=some (.int .i64 (((ay s).take 1)[j].2:Nat)):=fun j hj=>by
    obtain⟨_,a9,c9,h9,h8⟩:=bY.1;obtain⟨b9,o9,h7,h6⟩:=h8 (by omega)
    cases h9;cases h7;obtain⟨t0,t1⟩:=Ap ((ay s).take 1) j hj;have y0:=h6 _ _ t0;have y1:=h6 _ _ t1;rw[Nat.zero_add] at y0 y1;exact⟨y0,y1⟩
   have kU:=I4 1 rU;have Ir:=Hd rU;have yG:=Hd bY;have Nf:=Hd JK;have yx:=Hd kU;clear rU bY JK kU dR aD aja I4;go_wp2_with fail;go_loopw [10,64] (fun x i wr=>∃j:Nat,j≤1∧i=.int .i64 (j:Nat)∧x=.int .i64 (bB wt (((ay s).take 1).take j):Nat)∧Hid (Cs w₀.heap.size w3 wr)∧Hid (SrS w₀ pv nd wt sb mb wr)) (fun _ i _=>1-(intOf i).toNat)
   case atStart=>exact⟨0,by omega,rfl,rfl,Cs.refl _ _,oU.out⟩
   case round =>
    obtain⟨j,hj,rfl,rfl,AV,BP⟩:=hrel;obtain⟨wo,rfl⟩:∃wo:World,wo=wr:=⟨_,rfl⟩;by_cases iI:j<1
    ·have zF:j<((ay s).take 1).length:=by have:=Ir.out;omega
     obtain⟨t0,t1⟩:=Nf.out j zF;have u0:=AV.out.cell t0;have u1:=AV.out.cell t1;have EW:bB wt (((ay s).take 1).take (j+1))=bB wt (((ay s).take 1).take j)+wt ((ay s).take 1)[j].1:=by
      unfold bB;rw[List.take_succ_eq_append_getElem zF,List.map_append,List.sum_append];simp
     have Lj:bB wt (((ay s).take 1).take j)≤1000000:=by
      have h1:=I8 wt Z9.out (((ay s).take 1).take j);have h2:(((ay s).take 1).take j).length≤2001:=by rw[List.length_take];omega
      omega
     have cw:=CWT.out ((ay s).take 1)[j].1;have rO:=Z9.out ((ay s).take 1)[j].1;generalize ((ay s).take 1)[j]=tk at *;obtain⟨tt,tp⟩:=tk;simp only at t0 t1 u0 u1 EW cw rO;generalize bB wt (((ay s).take 1).take j)=sj at *;have AX:=Q.alloc wo (.cells #[ak tt,.int .i64 (tp:Nat)] 129);have c:=cw _ (BP.out.stays AX);obtain⟨y0,y1,_⟩:=(Blk.new wo 129 #[ak tt,.int .i64 (tp:Nat)]).c2;have hi1:(j:Int)<(1:Int):=by omega
     have mD:(0:Int)≤(j:Int):=by omega
     have yY:IntKind.i64.wrap ((sj:Int)+(wt tt:Int))=((sj+wt tt:Nat):Int):=by rw[IntWalk.i64_in _ (by omega)];omega
     have C:=Hd c;have Ng:=Hd EW;have zP:=Hd (AV.out.trans (Cs.of_q AX));clear c cw EW t0 t1 AX AV BP;generalize wt tt=wtt at *;go_wp2_with fail;refine C.out.mono ?_;rintro e w5 ⟨rfl,c5,s5⟩;have XA:=Hd (zP.out.trans c5);have zQ:=Hd s5;clear c5 s5 C zP u0 u1 y0 y1;go_wp2_with fail;go_roundw;case rel=>exact⟨j+1,by omega,by go_num,by rw[Ng.out];go_num,XA,zQ⟩
     case measure=>simp[intOf];omega
    ·have qh:j=1:=by omega
     subst qh;have gU:((ay s).take 1).take 1=(ay s).take 1:=by rw[List.take_take];rfl
     rw[gU];have HR9:=Hd (yx.out wo AV.out);have ME:=Hd ((Cs.of_q bZ.out).trans AV.out);clear gU yx AV Nf;go_wp2_with fail;go_ret;exact⟨_,rfl,HR9.out,ME.out,BP.out⟩
 ·by_cases hp:ay s=[]
  ·have qH:fO l wt (.mk 3 s m sh no)=DW:=by rw[fO,if_neg (by decide),if_neg (by decide),if_neg (by decide),if_pos hp]
   have nY:=(IsWk.nothing ⟨w₀.heap.size,W.heap.size,w3.heap.size⟩ l.length pJ w3).refit qH.symm HF.out;have Dv:(!(ay s).isEmpty)=false:=by rw[hp];rfl
   rw[Dv];have BU:=Hd nY;clear qH nY y9 zw hp Dv;go_wp2_with fail;go_ret;exact⟨_,rfl,BU.out,Cs.of_q bZ.out,oU.out⟩
  ·have gQ:0<(ay s).length:=List.length_pos_iff.2 hp
   obtain⟨tg,rfl⟩:=zw gQ;have qH:fO l wt (.mk 3 s m sh no)=kM l (ay s) (bB wt (ay s)):=by rw[fO,if_neg (by decide),if_neg (by decide),if_neg (by decide),if_neg hp,if_neg (by decide)]
   have Dv:(!(ay s).isEmpty)=true:=by cases xk:ay s with|nil=>exact absurd xk hp|cons a b=>rfl
   rw[Dv];obtain⟨n3,JJ⟩:∃n3,n3=(ay s).length:=⟨_,rfl⟩;rw[←JJ] at y9 gQ ao6 aa0 ⊢;have aD:0<(ay s).length:=by omega
   have aja:(ay s).length≤2001:=by omega
   have dR:SlW ⟨w₀.heap.size,W.heap.size,w3.heap.size⟩ w3 (.slice (some ⟨tg,0,none⟩) (ay s).length tcap) (ay s).length 2 (dF (ay s)):=by rw[←JJ];exact y9
   have Rk:∀t∈ay s,t.2≤1000000:=fun t ht=>qD.out t (ht)
   have XI:bB wt (ay s)≤1000000000:=Nat.le_trans (I8 wt Z9.out _) (by omega)
   have Rj:=HF.out;rw[qH] at Rj;have I4:∀np,np=(ay s).length→∀w,Cs w₀.heap.size w3 w→IsWk ⟨w₀.heap.size,W.heap.size,w.heap.size⟩ l.length pJ w (.iface 132 (.agg #[.pointer (some ⟨g,0,none⟩),.slice (some ⟨tg,0,none⟩) np tcap,.int .i64 (bB wt (ay s):Nat)])) (fO l wt (.mk 3 s m sh no)):=fun np rU w c=>by
    rw[qH,rU];exact Ny.out (ay s) (bB wt (ay s)) w ((Cs.of_q bZ.out).trans c) _ (((Ws.of_cs c (Nat.le_refl _)).sl dR).wide (Nat.le_refl _) c.size) aD (by omega) Rk XI Rj
   clear Dv qH Rj Rk XI hp CB CF CX y9 HF;have atF:(0:Int)<(n3:Int):=by omega
   have atG:(1:Int)≤(n3:Int):=by omega
   have zT:n3≤tcap:=aa0;have rU:n3=(ay s).length:=JJ;clear JJ;have bY:SlW ⟨w₀.heap.size,W.heap.size,w3.heap.size⟩ w3 (.slice (some ⟨tg,0,none⟩) n3 tcap) n3 2 (dF (ay s)):=by have e1:=dR;rw[←rU] at e1;exact e1
   have aF:0<n3:=by rw[rU];exact aD
   have vU:n3≤2001:=by rw[rU];exact aja
   have JK:∀j (hj:j<(ay s).length),w3.cell? ⟨tg,j*2,none⟩=some (ak (ay s)[j].1)∧w3.cell? ⟨tg,j*2+1,none⟩=some (.int .i64 ((ay s)[j].2:Nat)):=fun j hj=>by
    obtain⟨_,a9,c9,h9,h8⟩:=bY.1;obtain⟨b9,o9,h7,h6⟩:=h8 (by omega)
    cases h9;cases h7;obtain⟨t0,t1⟩:=Ap (ay s) j hj;have y0:=h6 _ _ t0;have y1:=h6 _ _ t1;rw[Nat.zero_add] at y0 y1;exact⟨y0,y1⟩
   have kU:=I4 n3 rU;have Ir:=Hd rU;have yG:=Hd bY;have Nf:=Hd JK;have yx:=Hd kU;clear rU bY JK kU dR aD aja I4;go_wp2_with fail;go_loopw [10,64] (fun x i wr=>∃j:Nat,j≤n3∧i=.int .i64 (j:Nat)∧x=.int .i64 (bB wt ((ay s).take j):Nat)∧Hid (Cs w₀.heap.size w3 wr)∧Hid (SrS w₀ pv nd wt sb mb wr)) (fun _ i _=>n3-(intOf i).toNat)
   case atStart=>exact⟨0,by omega,rfl,rfl,Cs.refl _ _,oU.out⟩
   case round =>
    obtain⟨j,hj,rfl,rfl,AV,BP⟩:=hrel;obtain⟨wo,rfl⟩:∃wo:World,wo=wr:=⟨_,rfl⟩;by_cases iI:j<n3
    ·have zF:j<(ay s).length:=by have:=Ir.out;omega
     obtain⟨t0,t1⟩:=Nf.out j zF;have u0:=AV.out.cell t0;have u1:=AV.out.cell t1;have EW:bB wt ((ay s).take (j+1))=bB wt ((ay s).take j)+wt (ay s)[j].1:=by
      unfold bB;rw[List.take_succ_eq_append_getElem zF,List.map_append,List.sum_append];simp
     have Lj:bB wt ((ay s).take j)≤1000000:=by
      have h1:=I8 wt Z9.out ((ay s).take j);have h2:((ay s).take j).length≤2001:=by rw[List.length_take];omega
      omega
     have cw:=CWT.out (ay s)[j].1;have rO:=Z9.out (ay s)[j].1;generalize (ay s)[j]=tk at *;obtain⟨tt,tp⟩:=tk;simp only at t0 t1 u0 u1 EW cw rO;generalize bB wt ((ay s).take j)=sj at *;have AX:=Q.alloc wo (.cells #[ak tt,.int .i64 (tp:Nat)] 129);have c:=cw _ (BP.out.stays AX);obtain⟨y0,y1,_⟩:=(Blk.new wo 129 #[ak tt,.int .i64 (tp:Nat)]).c2;have hi1:(j:Int)<(n3:Int):=by omega
     have mD:(0:Int)≤(j:Int):=by omega
     have yY:IntKind.i64.wrap ((sj:Int)+(wt tt:Int))=((sj+wt tt:Nat):Int):=by rw[IntWalk.i64_in _ (by omega)];omega
     have C:=Hd c;have Ng:=Hd EW;have zP:=Hd (AV.out.trans (Cs.of_q AX));clear c cw EW t0 t1 AX AV BP;generalize wt tt=wtt at *;go_wp2_with fail;refine C.out.mono ?_;rintro e w5 ⟨rfl,c5,s5⟩;have XA:=Hd (zP.out.trans c5);have zQ:=Hd s5;clear c5 s5 C zP u0 u1 y0 y1;go_wp2_with fail;go_roundw;case rel=>exact⟨j+1,by omega,by go_num,by rw[Ng.out];go_num,XA,zQ⟩
     case measure=>simp[intOf];omega
    ·have qh:j=n3:=by omega
     subst qh;have gU:(ay s).take j=ay s:=by rw[Ir.out,List.take_length]
     rw[gU];have HR9:=Hd (yx.out wo AV.out);have ME:=Hd ((Cs.of_q bZ.out).trans AV.out);clear gU yx AV Nf;go_wp2_with fail;go_ret;exact⟨_,rfl,HR9.out,ME.out,BP.out⟩
noncomputable def docsRow:Code:=((Tryz.f47.body.bind (iw 7)).getD .skip)
theorem docs_row(base b off n pc X p a1 a2 m:Nat)(ds os:List au)(v:Value)(w:World)(cX0:w.cell? ⟨X,0,none⟩=some (.int .i64 (a1:Nat)))(cX1:w.cell? ⟨X,1,none⟩=some (.int .i64 (a2:Nat)))
  (cP:w.cell? ⟨b,off+a1*2,none⟩=some (.pointer (some ⟨p,0,none⟩))) (hS:SegAt w p ds (eF ds)) (Ut:a1<n) (Ni:a2<ds.length) (ku:ds.length≤1000000)
  (aQ:w.ownsRow base 47 2 v m (bK os)) (hb:base≤w.heap.size) (aD:m≤1000000000) (hXr:some X≠v.ownBlock) (hbr:some b≠v.ownBlock)
  (Qx:Exit→Act→World→Prop) (x1 x2 x3 x5 x6 x8 x9 x10 x11 x12 x13 x14 x15 x16 x17 x18 x19 x20 x21 x22 x23 x24 x25 x26 x27 x28 x29 x30 x31 x32 x33 x34 x35 x36 x37 x38:Value)
  (hQ:∀wa g2 cap z21 z22 z23 z24 z25 z26 z27 z28 z29 z30 z31 z32 z33 z34 z35 z36,wa.ownsRow base 47 2 (.slice (some ⟨g2,0,none⟩) (m+1) cap) (m+1) (bK (os++[ds[a2]]))→w.grownBy wa v.ownBlock →
   Qx .normal ⟨#[.slice (some ⟨b,off,none⟩) n pc,x1,x2,x3,.slice (some ⟨g2,0,none⟩) (m+1) cap,x5,x6,.pointer (some ⟨X,0,none⟩),x8,x9,x10,x11,x12,x13,x14,x15,x16,x17,x18,x19,x20,z21,z22,z23,z24,z25,z26,z27,z28,z29,z30,z31,z32,z33,z34,z35,z36,x37,x38],[]⟩ wa) :
  docsRow.wp Tryz.prog Qx ⟨#[.slice (some ⟨b,off,none⟩) n pc,x1,x2,x3,v,x5,x6,.pointer (some ⟨X,0,none⟩),x8,x9,x10,x11,x12,x13,x14,x15,x16,x17,x18,x19,x20,x21,x22,x23,x24,x25,x26,x27,x28,x29,x30,x31,x32,x33,x34,x35,x36,x37,x38],[]⟩ w:=by
 obtain⟨i0,hi,fJ,eU,fD⟩:=info_parts fT;conv=>arg 2;whnf
 have pz:Tryz.prog.follows .mixedOrders=true:=by kernel_rfl
 have zq:=Hd hQ;have HO:=Hd aQ;have HS:=Hd hS;clear hQ aQ hS;have hXl:X<w.heap.size:=cK cX0;have oQ:b<w.heap.size:=cK cP;have hB1:(m+1)*32≤140737488355328:=by omega
 have Cv:m+1≤maxLen:=by unfold maxLen;omega
 have hi1:(0:Int)≤(a1:Int):=by omega
 have mD:(a1:Int)<(n:Int):=by omega
 have rZ:(0:Int)≤(a2:Int):=by omega
 have Gx:(a2:Int)<(ds.length:Int):=by omega
 refine wp_region_noPanic ?_;have jM:∀u∈[ak ds[a2].1,ak ds[a2].2],u.oneCell'=true:=by simp[Value.oneCell']
 have Dq:=DY os ds[a2];go_region_law
  (first
   | (go_simp;go_at_call 23;refine(F6 p ds (eF ds) _ (by first|exact HS.out|exact HS.out.stays (Q.drew _)) ku).mono ?_;rintro e w' ⟨v',rfl,ho,q⟩;obtain⟨da,dcap,rfl,Q8⟩:=wP ho;obtain⟨g,rfl,XJ⟩:=Q8 (by omega);have cd0:=XJ _ _ (Jo ds a2 Ni).1;have cd1:=XJ _ _ (Jo ds a2 Ni).2;have o2:=ownsRow_below (aX HO.out) q;have O2:=Hd o2;have aO:base≤(w'.alloc (.cells #[ak ds[a2].1,ak ds[a2].2] 47)).heap.size:=(by have:=q.size;simp at this ⊢;omega);have aY:(w'.alloc (.cells #[ak ds[a2].1,ak ds[a2].2] 47)).heap.size=w'.heap.size+1:=(by simp);have dX0:=ah q cX0;have dX1:=ah q cX1;have dP:=ah q cP;clear o2 ho Q8 XJ)
   | (refine step_append_lies _ (by rfl) _ _ 39 (by rfl) base 47 i0 (.agg #[ak [],ak []]) 2 32 Tryz.underlying39 hi fJ eU fD rfl (by decide) v m (bK os) (by rfl) (bF _ O2.out) ⟨w'.heap.size,0,none⟩ 1 1 [ak ds[a2].1,ak ds[a2].2] (by rfl) rfl (World.news_of_block (heap_alloc_new w' _)) jM (by decide) Cv hB1 aO (w'.heap.size+1) aY ?_;intro g2 cap wa nS rJ lN hlt;have Nh:=grown_of (q.trans (Q.alloc _ _)) rJ;have HW:=Hd nS;clear nS rJ))
 all_goals exact zq.out wa g2 cap _ _ _ _ _ _ _ _ _ _ _ _ _ _ _ _ (by rw[Dq];exact HW.out) (by first|exact Nh|exact grown_of (Q.drew _) Nh)
theorem afa(ps:List aG)(h:∀p∈ps,PartOk p)(n:Nat)(hn:n≤ps.length):(tH ps n).length≤500*n:=by
 induction n with
 | zero=>simp[tH]
 | succ n ih =>
  have hlt:n<ps.length:=by omega
  have e:ps.getD n ([],[])=ps[n]:=by rw[List.getD_eq_getElem?_getD,List.getElem?_eq_getElem hlt];rfl
  have:=(h _ (List.getElem_mem hlt)).2.2.1;have:=aeX (ps.getD n ([],[])) n (tH ps n) (ps.getD n ([],[])).1.length;rw[tH];rw[e] at *;have:=ih (by omega)
  omega
theorem PartOk.lens{p:aG}(h:PartOk p):p.1.length≤1000000∧p.2.length≤1000000:=by
 obtain⟨_,_,h2,h3⟩:=h;omega
theorem ab2(ps:List aG)(a:Nat×Nat)(h1:a.1<ps.length)(h2:a.2<(ps.getD a.1 ([],[])).1.length):∃h:a.2<ps[a.1].1.length,Aj ps a=ps[a.1].1[a.2]:=by
 have e:ps.getD a.1 ([],[])=ps[a.1]:=by rw[List.getD_eq_getElem?_getD,List.getElem?_eq_getElem h1];rfl
 rw[e] at h2;refine⟨h2,?_⟩;unfold Aj;rw[e,List.getD_eq_getElem?_getD,List.getElem?_eq_getElem h2];rfl
theorem plAll_key(ps:List aG)(h:∀p∈ps,PartOk p)(x:Bytes×(Nat×Nat))(hx:x∈jw ps):x.1.length≤40:=by
 obtain⟨a,b,c⟩:=Ym ps ps.length x hx;have h1:x.2.1<ps.length:=by omega
 obtain⟨h2,e⟩:=ab2 ps x.2 h1 b;rw[←c,e];have hp:=h _ (List.getElem_mem h1);exact(oI (hp.1.1 _ (List.getElem_mem h2))).1
theorem zeroPlace(w:World):(zeroValue 169).run Tryz.prog w=.ok (Cc (0,0)) w:=by
 simp[zeroValue,go_sem];rw[show Tryz.t169.zero=some (Cc (0,0)) from by kernel_rfl]
 rfl
theorem PW(v:Value)(ps:List aG)(w:World)(hv:PartsAt w v ps)(hn:ps.length≤1000000)(bD:∀p∈ps,PartOk p):
  Calls Tryz.prog 47 #[v] w fun e w'=>∃v',e=.returned v'∧w'.ownsRow w.heap.size 47 2 v' (bW ps).length (bK (bW ps))∧Q w w':=by
 have cpl:=WC v ps w hv hn (fun p hp=>(bD p hp).lens)
 obtain⟨a,cap,rfl,aJ⟩:=hv.value;have apc:=plAll_key ps bD;have adI:=afa ps bD ps.length (Nat.le_refl _);rw[show tH ps ps.length=jw ps from rfl] at adI
 have HV:=Hd hv;have HC:=Hd aJ;have CPL:=Hd cpl;have ni:=Hd bD;have atH:=Hd apc;clear hv aJ cpl bD apc;go_enter Tryz.func47,Tryz.ntmps47;go_wp2_with fail;refine CPL.out.mono ?_;rintro e wo ⟨mb,rfl,hm,q1⟩;have Dp:(plV (jw ps)).length=(jw ps).length:=by simp[plV]
 have yt:∀x∈plV (jw ps),x.1.length≤maxLen:=by
  intro x hx;obtain⟨y,hy,rfl⟩:=List.mem_map.1 hx;have:=atH.out y hy;show y.1.length≤maxLen;unfold maxLen;omega
 obtain⟨D,hD,wh,Mg⟩:=hm.owns (P:=Tryz.prog) 9 Tryz.underlying9 (by rw[Dp];unfold maxLen;omega) yt
 have c1:=callsIn_wide.1 (Tryz.maps_Keys_89 (some mb) wo);have c2:=callsIn_wide.1 (Tryz.slices_Sorted_keys_88_89 mb (plV (jw ps)).length D noR wo hD (by rw[wh,Dp];unfold maxLen;omega) (by rw[wh,Dp];omega))
 have C1:=Hd c1;have C2:=Hd c2;have HM:=Hd hm;have Mh:=Hd Mg;have aC:=Hd q1;clear c1 c2 hm hD wh Mg yt q1 CPL;go_wp2_with fail;refine C1.out.mono ?_;rintro e w2 ⟨rfl,rfl⟩;go_wp2_with fail;refine C2.out.mono ?_;rintro e w3 ⟨sv,ss,rfl,hp,ho,_,jJ⟩;have wD:ss.mergeSort (fun x y=>decide (x≤y))=bE ((jw ps).map (·.1)):=by
  have uY:ss.Perm ((jw ps).map (·.1)):=by
   refine hp.trans (Mh.out.trans (List.Perm.of_eq ?_));simp[plV,List.map_map]
  exact V9 uY
 rw[wD] at ho;have bY:ss.length=(bE ((jw ps).map (·.1))).length:=by rw[←wD];simp
 rw[bY] at ho;have FK:(bE ((jw ps).map (·.1))).length=(jw ps).length:=by simp[bE]
 have xH:∀x∈bE ((jw ps).map (·.1)),x∈(jw ps).map (·.1):=by
  intro x hx;simpa[bE] using hx
 obtain⟨sa,scap,rfl,zV⟩:=wP ho;have ng:Q wo w3:=(Q.alloc wo _).trans jJ;have tX:=aC.out.trans ng;have Xy:=HM.out.stays ng;have ku:bW ps=(bE ((jw ps).map (·.1))).map fun id=>Aj ps ((getM id (jw ps)).getD (0,0)):=abP ps
 have GN:=Hd zV;have HM3:=Hd Xy;have bZ:=Hd tX;have Tp:=Hd xH;have zW:=Hd ku;clear hp ho jJ wD ng tX Xy zV xH ku Mh HM aC C1 C2;generalize bE ((jw ps).map (·.1))=ks at *
 have vZ:ks.length≤500000000:=by omega
 clear bY FK;go_wp2_with fail;go_loopw [4,14] (fun ov x wr=>∃j:Nat,x=.int .i64 (j:Nat)∧j≤ks.length∧Hid (wr.ownsRow w3.heap.size 47 2 ov j (bK ((ks.take j).map fun id=>Aj ps ((getM id (jw ps)).getD (0,0)))))∧Hid (Below w3.heap.size w3 wr)) (fun ov x _=>ks.length-(intOf x).toNat)
 case atStart=>exact⟨0,rfl,by omega,World.ownsRow_nil _ _ _ _,Below.refl _ _⟩
 case round =>
  obtain⟨j,rfl,hj,HO,HQ⟩:=hrel;obtain⟨wi,rfl⟩:∃wi:World,wi=wr:=⟨_,rfl⟩;have JC:=HQ.out.size;by_cases iI:j<ks.length
  ·obtain⟨gs,rfl,zV⟩:=GN.out (by omega)
   have lJ:=ah HQ.out (zV j (ak ks[j]) (by simp[encStr]))
   obtain⟨at2,hg,Ut,Ni⟩:=plAll_get ps ks[j] (Tp.out _ (List.getElem_mem iI));obtain⟨ha3,zR⟩:=ab2 ps at2 Ut Ni;have gU:(ks.take (j+1)).map (fun id=>Aj ps ((getM id (jw ps)).getD (0,0)))=(ks.take j).map (fun id=>Aj ps ((getM id (jw ps)).getD (0,0)))++[ps[at2.1].1[at2.2]]:=by
    rw[List.take_succ_eq_append_getElem iI,List.map_append,List.map_singleton,hg,Option.getD_some,zR]
   have JL:=HM3.out.stays HQ.out;have xL:(getM ks[j] (plV (jw ps))).getD (Cc (0,0))=Cc at2:=by rw[plV_get,hg];rfl
   obtain⟨b,off,rfl,hc⟩:=HC.out (by omega)
   obtain⟨p,gX,_,Iq⟩:=hc at2.1 Ut;have Nn:=bZ.out.trans HQ.out;have uX:=ah Nn gX;have hsi:=Iq.stays Nn;have atI:=(ni.out _ (List.getElem_mem Ut)).lens.1;have oQ:=cK gX;simp only at oQ;have GH:=bZ.out.size;have Cy:=HO.out;have adK:=fun g hg=>(Cy.lt g hg)
   generalize ((ks.take j).map fun id=>Aj ps ((getM id (jw ps)).getD (0,0)))=os at *
   generalize ps[at2.1].1=ds at *;have qV:=Hd gU;have HSI:=Hd hsi;have HOU:=Hd Cy;have Bh:=Hd adK;have HHQ:=Hd HQ.out;clear zV hg Ni zR gU hc gX Iq Nn hsi Cy adK HO HQ;generalize ks[j]=t at *;obtain⟨a1,a2⟩:=at2;simp only at Ut ha3 uX qV;go_wp2_with (at_lookup;go_must (refine mM wi (by rfl) _ _ 115 (by rfl) 9 169 Tryz.underlying115 Tryz.underlying9 (Cc (0,0)) (zeroPlace _) mb (plV (jw ps)) JL t (by rfl) (by rfl) _ xL ?_))
   have qx:=Q.alloc wi (.cells #[.int .i64 (a1:Nat),.int .i64 (a2:Nat)] 169);have cc:=bN (heap_alloc_new wi (.cells #[.int .i64 (a1:Nat),.int .i64 (a2:Nat)] 169));refine docs_row w3.heap.size b off ps.length cap wi.heap.size p a1 a2 j ds os _ _ cc.1 cc.2 (ah qx uX) (HSI.out.stays qx) Ut ha3 atI (bF _ HOU.out) (by simp;omega) (by omega) (fun e=>by have:=(Bh.out _ e.symm).2;omega) (fun e=>by have:=(Bh.out _ e.symm).1;omega) _ _ _ _ _ _ _ _ _ _ _ _ _ _ _ _ _ _ _ _ _ _ _ _ _ _ _ _ _ _ _ _ _ _ _ _ _ ?_
   intro wa g2 cap2 z21 z22 z23 z24 z25 z26 z27 z28 z29 z30 z31 z32 z33 z34 z35 z36 QN QO;have Jv:=(HHQ.out.alloc JC (.cells #[.int .i64 (a1:Nat),.int .i64 (a2:Nat)] 169)).grown QO (by simp;omega) (fun x hx=>(Bh.out x hx).1)
   have HOA:=Hd QN;have HBA:=Hd Jv;clear QN QO Jv JL uX;go_wp2_with fail;go_roundw;case rel=>exact⟨j+1,by go_num,by omega,by show World.ownsRow _ _ _ _ _ _ _;rw[qV.out];exact HOA.out,HBA⟩
   case measure=>simp[intOf];omega
  ·have qh:j=ks.length:=by omega
   subst qh;have Le:=HO.out;rw[List.take_length,←zW.out] at Le;have hl6:ks.length=(bW ps).length:=by rw[zW.out,List.length_map]
   rw[hl6] at Le;have GU:=dO Le (show w.heap.size≤w3.heap.size from bZ.out.size)
   have GV:=bZ.out.trans HQ.out;have tO:=Hd GU;have ny:=Hd GV;clear Le hl6 GU GV HO HQ;go_wp2_with fail;go_ret;exact⟨_,rfl,tO.out,ny.out⟩
abbrev iP(v:Value):Value:=.agg #[v]
theorem UZ(v:Value)(ps:List aG)(w:World)(hv:PartsAt w v ps)(hn:ps.length≤1000000)(bD:∀p∈ps,PartOk p):
  Calls Tryz.prog 22 #[iP v] w fun e w'=>e=.returned (.int .i64 ((uI ps).length:Nat))∧Q w w':=by
 have c:=WC v ps (w.alloc (.cells #[v] 31)) (hv.stays (Q.alloc _ _)) hn (fun p hp=>(bD p hp).lens)
 obtain⟨a,cap,rfl,_⟩:=hv.value;have hl:(plV (jw ps)).length=(uI ps).length:=by rw[←abO];simp[plV]
 have C:=Hd c;have HL:=Hd hl;clear c hv bD hl;go_enter Tryz.func22,Tryz.ntmps22;go_wp2_with fail;refine C.out.mono ?_;rintro e w1 ⟨mb,rfl,hm,q⟩;have q2:=(Q.alloc w (.cells #[.slice a ps.length cap] 31)).trans q;have HQ:=Hd q2;clear q q2;go_wp2_with (at_len;refine MC w1 (by rfl) _ 115 (by rfl) 9 169 Tryz.underlying115 mb (plV (jw ps)) hm (by rfl) ?_)
 rw[HL.out];go_wp2_with fail;go_ret;exact⟨rfl,HQ.out⟩
def GR(w w':World):Prop:=∃(q:Nat) (os:Array Obj),w'=Go.Sort.grow (w.drewN q) os
theorem GR.refl(w:World):GR w w:=⟨0,#[],by rw[Go.Sort.grow_empty];rfl⟩
theorem GR.dr{w w':World}(h:GR w w'):GR w w'.drew:=by
 obtain⟨q,os,rfl⟩:=h;exact⟨q+1,os,rfl⟩
theorem GR.al{w w':World}(h:GR w w')(o:Obj):GR w (w'.alloc o):=by
 obtain⟨q,os,rfl⟩:=h;exact⟨q,os++#[o],by rw[Go.Sort.alloc_eq_grow,Go.Sort.grow_grow]⟩
theorem GR.q{w w':World}(h:GR w w'):Q w w':=by
 obtain⟨q,os,rfl⟩:=h;refine⟨rfl,rfl,rfl,by rw[Go.Sort.size_grow];exact Nat.le_add_right _ _,fun k hk=>?_⟩
 show(w.heap++os)[k]?=w.heap[k]?;rw[Array.getElem?_append_left hk]
theorem Oe(x:Bytes)(w:World):Calls Tryz.prog 110 #[ak x] w fun e w'=>e=.returned (.bool false)∧w=w':=by
 go_enter Tryz.func110,Tryz.ntmps110;go_wp2;go_ret;exact⟨by simp,rfl⟩
theorem cmpI_any(x y:Int)(w:World):Calls Tryz.prog 58 #[.int .i64 x,.int .i64 y] w fun e w'=>e=.returned (.int .i64 (Lib.compareInt x y))∧w=w':=by
 go_enter Tryz.func58,Tryz.ntmps58;go_wp2_with (go_at_call 109;refine(WE _ _).mono ?_;rintro e w' ⟨rfl,rfl⟩);all_goals (go_ret;refine⟨?_,rfl⟩;unfold Lib.compareInt;(repeat' split)<;>first|rfl|(exfalso;omega))
theorem less_no{a b:Bytes}(h:¬a<b):Op.bytesLess a b=false:=by
 rw[ou,Bool.eq_false_iff];exact fun hl=>h ((gu a b).1 hl)
theorem ab3{a b:Bytes}(h:a<b):Op.bytesLess a b=true:=by
 rw[ou];exact(gu a b).2 h
theorem afb(x t:Bytes):(!Op.bytesLess x t && !x==t)=bU t x:=by
 rw[ou];by_cases h:x<t
 ·rw[(gu x t).2 h]
  have:¬t<x:=List.not_lt.2 (List.le_of_lt h);rw[Bool.eq_false_iff.2 (fun hl=>this ((gu t x).1 hl))];rfl
 ·rw[Bool.eq_false_iff.2 (fun hl=>h ((gu x t).1 hl))]
  by_cases e:x=t
  ·subst e
   rw[Bool.eq_false_iff.2 (fun hl=>h ((gu x x).1 hl))];simp
  ·rw[(gu t x).2 (NI h e)];simp[e]
theorem cmpS_any(x y:Bytes)(w:World):Calls Tryz.prog 59 #[ak x,ak y] w fun e w'=>e=.returned (.int .i64 (cmpB x y))∧w=w':=by
 unfold cmpB;by_cases h1:x<y
 ·have hb:=ab3 h1
  rw[if_pos h1];clear h1;go_enter Tryz.func59,Tryz.ntmps59;go_wp2_with (go_at_call 110;refine(Oe _ _).mono ?_;rintro e w' ⟨rfl,rfl⟩);go_ret;exact⟨rfl,rfl⟩
 ·have hb:=less_no h1
  have hg:=afb x y;rw[if_neg h1];by_cases h2:y<x
  ·rw[(gu y x).2 h2] at hg
   rw[if_pos h2];have aO:(!x==y)=true:=by rw[hb] at hg;simpa using hg
   clear h1 h2;go_enter Tryz.func59,Tryz.ntmps59;go_wp2_with (go_at_call 110;refine(Oe _ _).mono ?_;rintro e w' ⟨rfl,rfl⟩);go_ret;exact⟨rfl,rfl⟩
  ·rw[Bool.eq_false_iff.2 (fun hl=>h2 ((gu y x).1 hl))] at hg
   rw[if_neg h2];have aO:(!x==y)=false:=by rw[hb] at hg;simpa using hg
   clear h1 h2;go_enter Tryz.func59,Tryz.ntmps59;go_wp2_with (go_at_call 110;refine(Oe _ _).mono ?_;rintro e w' ⟨rfl,rfl⟩);go_ret;exact⟨rfl,rfl⟩
theorem Or_any(b c:Nat)(x y:Int)(w:World)(h0:w.cell? ⟨b,0,none⟩=some (.int .i64 x))(h1:w.cell? ⟨b,1,none⟩=some (.int .i64 y)):
  Calls Tryz.prog 57 #[.slice (some ⟨b,0,none⟩) 2 c] w fun e w'=>e=.returned (.int .i64 (if x=0 then y else x))∧w=w':=by
 go_enter Tryz.func57,Tryz.ntmps57;go_wp2_with fail;go_loopw [8] (fun i wr=>∃k:Nat,k≤2∧i=.int .i64 (k:Nat)∧w=wr∧(0<k→x=0)∧(1<k→y=0)) (fun i _=>2-(intOf i).toNat)
 case atStart=>exact⟨0,by omega,rfl,rfl,fun h=>by omega,fun h=>by omega⟩
 case round =>
  obtain⟨k,hk,rfl,rfl,hx,hy⟩:=hrel;by_cases k0:k=0
  ·subst k0
   by_cases ex:x=0
   ·subst ex
    go_wp2_with fail;go_roundw;case rel=>exact⟨1,by omega,by first|rfl|trivial,by first|rfl|trivial,by simp,by simp⟩
    case measure=>simp[intOf]
   ·have hb:(x != 0)=true:=bne_iff_ne.2 ex
    have HX:=Hd ex;clear hx hy ex;go_wp2_with fail;go_ret;exact⟨rfl,rfl⟩
  ·have ex:=hx (by omega)
   subst ex;by_cases k1:k=1
   ·subst k1
    by_cases ey:y=0
    ·subst ey
     clear hx hy;go_wp2_with fail;go_roundw;case rel=>exact⟨2,by omega,by first|rfl|trivial,by first|rfl|trivial,by simp,by simp⟩
     case measure=>simp[intOf]
    ·have hb:(y != 0)=true:=bne_iff_ne.2 ey
     clear hx hy;go_wp2_with fail;go_ret;exact⟨rfl,rfl⟩
   ·have mP:k=2:=by omega
    subst mP;have ey:=hy (by omega)
    subst ey;clear hx hy;go_wp2_with fail;go_ret;exact⟨rfl,rfl⟩
theorem Or_lit(W:World)(t:TypeId)(x y:Int):Calls Tryz.prog 57 #[.slice (some ⟨W.heap.size,0,none⟩) 2 2] (W.alloc (.cells #[.int .i64 x,.int .i64 y] t)) fun e w'=>e=.returned (.int .i64 (if x=0 then y else x))∧W.alloc (.cells #[.int .i64 x,.int .i64 y] t)=w':=by
 obtain⟨h0,h1,_⟩:=(Blk.new W t #[.int .i64 x,.int .i64 y]).c2;exact Or_any _ _ x y _ h0 h1
theorem Or_litd(W:World)(t:TypeId)(x y:Int):Calls Tryz.prog 57 #[.slice (some ⟨W.heap.size,0,none⟩) 2 2] (W.alloc (.cells #[.int .i64 x,.int .i64 y] t)).drew fun e w'=>e=.returned (.int .i64 (if x=0 then y else x))∧(W.alloc (.cells #[.int .i64 x,.int .i64 y] t)).drew=w':=by
 obtain⟨h0,h1,_⟩:=(Blk.new W t #[.int .i64 x,.int .i64 y]).c2;exact Or_any _ _ x y _ (ah (Q.drew _) h0) (ah (Q.drew _) h1)
abbrev hitV(h:dY):Value:=.agg #[ak h.1,.int .i64 (h.2:Nat)]
theorem Order_any(a b:dY)(w:World):Calls Tryz.prog 27 #[hitV a,hitV b] w fun e w'=>e=.returned (.int .i64 (ordH a b))∧GR w w':=by
 obtain⟨ia,za⟩:=a;obtain⟨ib,zb⟩:=b;have apd:GR w ((w.alloc (.cells #[ak ia,.int .i64 (za:Nat)] 54)).alloc (.cells #[ak ib,.int .i64 (zb:Nat)] 54)):=((GR.refl w).al _).al _;have k1:=(Blk.new w 54 #[ak ia,.int .i64 (za:Nat)]).alloc (.cells #[ak ib,.int .i64 (zb:Nat)] 54);have k2:=Blk.new (w.alloc (.cells #[ak ia,.int .i64 (za:Nat)] 54)) 54 #[ak ib,.int .i64 (zb:Nat)];rw[World.size_alloc] at k2;have HG:=Hd apd;have vP:=Hd k1;have AO:=Hd k2;clear apd k1 k2;have pz:Tryz.prog.follows .mixedOrders=true:=by kernel_rfl
 have hor:ordH (ia,za) (ib,zb)=if Lib.compareInt (zb:Int) (za:Int)=0 then cmpB ia ib else Lib.compareInt (zb:Int) (za:Int):=rfl
 rw[hor];clear hor;generalize gX:Lib.compareInt (zb:Int) (za:Int)=c1;generalize dM:cmpB ia ib=c2;have C1:Hid (∀W,Calls Tryz.prog 58 #[.int .i64 (zb:Int),.int .i64 (za:Int)] W fun e w'=>e=.returned (.int .i64 c1)∧W=w'):=by rw[←gX];exact fun W=>cmpI_any _ _ W
 have C2:Hid (∀W,Calls Tryz.prog 59 #[ak ia,ak ib] W fun e w'=>e=.returned (.int .i64 c2)∧W=w'):=by rw[←dM];exact fun W=>cmpS_any _ _ W
 clear gX dM;obtain⟨r,hr⟩:∃r,r=if c1=0 then c2 else c1:=⟨_,rfl⟩
 have C3:Hid (∀(W:World) (t:TypeId),Calls Tryz.prog 57 #[.slice (some ⟨W.heap.size,0,none⟩) 2 2] (W.alloc (.cells #[.int .i64 c1,.int .i64 c2] t)) fun e w'=>e=.returned (.int .i64 r)∧W.alloc (.cells #[.int .i64 c1,.int .i64 c2] t)=w'):=by rw[hr];exact fun W t=>Or_lit W t c1 c2
 have C4:Hid (∀(W:World) (t:TypeId),Calls Tryz.prog 57 #[.slice (some ⟨W.heap.size,0,none⟩) 2 2] (W.alloc (.cells #[.int .i64 c1,.int .i64 c2] t)).drew fun e w'=>e=.returned (.int .i64 r)∧(W.alloc (.cells #[.int .i64 c1,.int .i64 c2] t)).drew=w'):=by rw[hr];exact fun W t=>Or_litd W t c1 c2
 rw[←hr];clear hr;go_enter Tryz.func27,Tryz.ntmps27;go_wp2_with fail;generalize rO:((w.alloc (.cells #[ak ia,.int .i64 (za:Nat)] 54)).alloc (.cells #[ak ib,.int .i64 (zb:Nat)] 54))=wb at *;have kk:GR w wb:=by rw[←rO];exact((GR.refl w).al _).al _
 generalize hB:w.heap.size=B at *;obtain⟨a0,a1,_⟩:=vP.out.c2;obtain⟨b0,b1,_⟩:=AO.out.c2;have KK:=Hd kk;clear kk rO hB vP AO;go_region_held3 (fun w'=>w'.cell? ⟨B,0,none⟩=some (ak ia)∧w'.cell? ⟨B,1,none⟩=some (.int .i64 (za:Nat))∧w'.cell? ⟨B+1,0,none⟩=some (ak ib)∧w'.cell? ⟨B+1,1,none⟩=some (.int .i64 (zb:Nat))) (first|exact⟨a0,a1,b0,b1⟩|exact⟨ah (Q.drew _) a0,ah (Q.drew _) a1,ah (Q.drew _) b0,ah (Q.drew _) b1⟩|exact⟨ah (Q.alloc _ _) a0,ah (Q.alloc _ _) a1,ah (Q.alloc _ _) b0,ah (Q.alloc _ _) b1⟩|exact⟨ah ((Q.alloc _ _).trans (Q.drew _)) a0,ah ((Q.alloc _ _).trans (Q.drew _)) a1,ah ((Q.alloc _ _).trans (Q.drew _)) b0,ah ((Q.alloc _ _).trans (Q.drew _)) b1⟩|exact⟨ah ((Q.drew _).trans (Q.alloc _ _)) a0,ah ((Q.drew _).trans (Q.alloc _ _)) a1,ah ((Q.drew _).trans (Q.alloc _ _)) b0,ah ((Q.drew _).trans (Q.alloc _ _)) b1⟩)
  (first
   | (go_at_call 58;((with_reducible refine(C1.out _).mono ?_);rintro e w' ⟨rfl,rfl⟩))
   | (go_at_call 59;((with_reducible refine(C2.out _).mono ?_);rintro e w' ⟨rfl,rfl⟩))
   | (go_at_call 57;(refine(C3.out _ _).mono ?_;rintro e w' ⟨rfl,rfl⟩))
   | (go_at_call 57;(refine(C4.out _ _).mono ?_;rintro e w' ⟨rfl,rfl⟩)))
 go_wp2_with fail;go_ret;refine⟨rfl,?_⟩
 (repeat (first|with_reducible exact KK.out|with_reducible apply GR.al|with_reducible apply GR.dr))
end
section
open Go.Shelf Go.RowKit Go.Lib Go.Sort
open Go.RowKit
shelf_lay_g SlLaysF0.n6 Slsf 6 at Tryz 26 as Tryz.sortHit
def Fq(h:dY):List Value:=[ak h.1,.int .i64 (h.2:Nat)]
def tY(hs:List dY):List Value:=hs.flatMap Fq
theorem IJ(h:dY)(hs:List dY):tY (h::hs)=ak h.1::.int .i64 (h.2:Nat)::tY hs:=rfl
theorem ab4(a b:List dY):tY (a++b)=tY a++tY b:=by unfold tY;rw[List.flatMap_append]
theorem PY(hs:List dY):(tY hs).length=hs.length*2:=by
 induction hs with
 | nil=>rfl
 | cons h hs ih=>rw[IJ,List.length_cons,List.length_cons,ih,List.length_cons];omega
theorem U5(hs:List dY)(i:Nat)(h:i<hs.length):(tY hs)[i*2]?=some (ak hs[i].1)∧(tY hs)[i*2+1]?=some (.int .i64 (hs[i].2:Nat)):=by
 induction hs generalizing i with
 | nil=>simp at h
 | cons x hs ih =>
  rw[IJ];cases i with
  | zero=>exact⟨rfl,rfl⟩
  | succ i =>
   rw[show(i+1)*2=i*2+1+1 by omega]
   exact ih i (by simpa using h)
def Hits(w:World)(v:Value)(hs:List dY):Prop:=Sl w v hs.length 2 (tY hs)
theorem Hits.stays{w w':World}{v:Value}{hs:List dY}(h:Hits w v hs)(q:Q w w'):Hits w' v hs:=Sl.stays h q
theorem Hits.nil(w:World):Hits w (.slice none 0 0) []:=Sl.nil w 2
theorem Hits.value{w:World}{v:Value}{hs:List dY}(h:Hits w v hs):∃a cap,v=.slice a hs.length cap∧(0<hs.length→∃b off,a=some ⟨b,off,none⟩∧∀i (hi:i<hs.length),w.cell? ⟨b,off+i*2,none⟩=some (ak hs[i].1)∧w.cell? ⟨b,off+i*2+1,none⟩=some (.int .i64 (hs[i].2:Nat))):=by
 obtain⟨_,a,cap,h1,h2⟩:=h;refine⟨a,cap,h1,fun hn=>?_⟩
 obtain⟨b,off,h3,h4⟩:=h2 hn;exact⟨b,off,h3,fun i hi=>⟨h4 _ _ (U5 hs i hi).1,by rw[Nat.add_assoc];exact h4 _ _ (U5 hs i hi).2⟩⟩
theorem flat_at(hs:List dY)(j:Nat)(hj:j<hs.length*2):(tY hs)[j]?=some ((Fq hs.toArray[j / 2]!)[j%2]!):=by
 have hi:j / 2<hs.length:=by omega
 have e:hs.toArray[j / 2]! = hs[j / 2]:=by rw[getElem!_pos hs.toArray (j / 2) (by simpa using hi)];simp
 obtain⟨h0,h1⟩:=U5 hs (j / 2) hi;rw[e];have hd:=Nat.div_add_mod j 2;rcases Nat.mod_two_eq_zero_or_one j with h|h
 ·have ER:j=j / 2*2:=by omega
  rw[h];conv=>lhs;rw[ER]
  exact h0
 ·have ER:j=j / 2*2+1:=by omega
  rw[h];conv=>lhs;rw[ER]
  exact h1
theorem ahF{w:World}{base g cap:Nat}{hs:List dY}(ho:w.ownsRow base 54 2 (.slice (some ⟨g,0,none⟩) hs.length cap) hs.length (tY hs)):Go.Sort.HoldsK Fq 2 w g 0 hs.toArray:=by
 intro j hj;rw[Go.Sort.size_flatK] at hj;have Es:j<hs.length*2:=by simpa using hj
 obtain⟨_,a,c,hv,hc⟩:=Sl.of_owns ho;obtain⟨b,off,hb,bC⟩:=hc (by omega)
 have Jy:some ⟨g,0,none⟩=a:=by cases hv;rfl
 rw[hb] at Jy;cases Jy;rw[Go.Sort.get_flatK _ _ _ _ hj];refine⟨bC j _ (flat_at hs j Es),?_⟩;obtain⟨cs,tN⟩:=jE ho g rfl;simp[World.frozen?,tN]
theorem ahG(w:World)(blk off n:Nat)(d:Array dY)(os:Array Obj):w.grownBy (sortWorldK Fq 2 w blk off n d os) (some blk):=by
 refine⟨rfl,rfl,rfl,?_,fun k hk aF=>?_⟩
 ·unfold sortWorldK
  rw[Go.Sort.size_grow];have:(Go.Sort.putRowK Fq 2 (Go.Sort.ahead w n) blk off d).heap.size=w.heap.size:=by rw[Go.Sort.size_putRowK];rfl
  omega
 ·have hb:blk≠k:=fun e=>aF (by rw[e])
  have hs:(Go.Sort.putRowK Fq 2 (Go.Sort.ahead w n) blk off d).heap.size=w.heap.size:=by rw[Go.Sort.size_putRowK];rfl
  show((Go.Sort.putRowK Fq 2 (Go.Sort.ahead w n) blk off d).heap++os)[k]?=w.heap[k]?;rw[Array.getElem?_append_left (by omega)]
  show(w.heap.modify blk _)[k]?=w.heap[k]?;rw[Array.getElem?_modify,if_neg hb]
theorem Ins_nil(cap:Nat)(w:World)(x:Value):Calls Tryz.prog 101 #[.slice none 0 cap,.int .i64 0,.int .i64 0,x] w fun e w'=>e=.returned (.tuple #[])∧w=w':=by
 go_enter Tryz.func101,Tryz.ntmps101;go_wp2_with fail;go_loopw [8] (fun i wr=>i=.int .i64 1∧w=wr) (fun _ _=>0)
 case atStart=>exact⟨rfl,rfl⟩
 case round =>
  obtain⟨rfl,rfl⟩:=hrel;go_wp2_with fail;go_end0;exact⟨rfl,rfl⟩
theorem Pdq_nil(cap:Nat)(w:World)(x:Value)(n:Nat):Calls Tryz.prog 56 #[.slice none 0 cap,.int .i64 0,.int .i64 0,.int .i64 (n:Nat),x] w fun e w'=>e=.returned (.tuple #[])∧w=w':=by
 go_enter Tryz.func56,Tryz.ntmps56;go_wp2_with fail;go_loopw [1,2] (fun x y wr=>x=.int .i64 0∧y=.int .i64 0∧w=wr) (fun _ _ _=>0)
 case atStart=>exact⟨rfl,rfl,rfl⟩
 case round =>
  obtain⟨rfl,rfl,rfl⟩:=hrel;go_wp2_with (go_at_call 101;refine(Ins_nil _ _ _).mono ?_;rintro e w' ⟨rfl,rfl⟩);refine bodyPost_ret (results_none rfl _ _ _) rfl ?_;exact⟨rfl,rfl⟩
theorem Sort_nil(cap:Nat)(w:World)(x:Value):Calls Tryz.prog 26 #[.slice none 0 cap,x] w fun e w'=>e=.returned (.tuple #[])∧w=w':=by
 go_enter Tryz.func26,Tryz.ntmps26;go_wp2_with (first|(go_at_call 32;refine(Tj 0 _ (by omega)).mono ?_;rintro e w' ⟨rfl,rfl⟩)|(go_at_call 56;refine(Pdq_nil _ _ _ _).mono ?_;rintro e w' ⟨rfl,rfl⟩))
 go_end0;exact⟨rfl,rfl⟩
theorem cmpLaysH(blk off size:Nat)(w:World):CmpLays Tryz.prog 27 #[] Fq 2 ordH blk off size w:=fun _ _ _ _ x y=>Order_any x y _
theorem ltOrd:ltOf ordH=pR:=funext fun x=>funext fun y=>ordH_lt x y
theorem ab5(base:Nat)(v:Value)(hs:List dY)(W:World)(ho:W.ownsRow base 54 2 v hs.length (tY hs))(aD:hs.length≤1000000000)(ds:List au)(q:QL)(hd:hs=D6 ds q):
  Calls Tryz.prog 26 #[v,.func (.func 27) #[] #[]] W fun e w'=>e=.returned (.tuple #[])∧Hits w' v (bA ds q)∧∀n₀,n₀≤base→n₀≤W.heap.size→Below n₀ W w':=by
 have hl:(bA ds q).length=hs.length:=by rw[(sN ds q).length_eq,hd]
 obtain⟨a,cap,rfl,lT⟩:=aT ho;rcases ho.2 with ⟨hv,hz⟩|⟨g,cap',cur,hv,hb,hg,_⟩
 ·injection hv with e1 e2 e3
  subst e1;subst e3;rw[hz];refine(Sort_nil _ W _).mono ?_;rintro e w' ⟨rfl,rfl⟩;have:bA ds q=[]:=List.eq_nil_of_length_eq_zero (by omega)
  rw[this];exact⟨rfl,Hits.nil _,fun n₀ _ _=>Below.refl _ _⟩
 ·injection hv with e1 e2 e3
  subst e1;subst e3;have hH:=ahF ho;have hlt:=(ho.lt g rfl).2;have eg:∀args w,(callFunc 27 args).run Tryz.prog w=.ok (.enter 27 args) w:=enters_of Tryz.func27 (by kernel_rfl) rfl
  have alA:=AnyQ.slices_SortFunc Tryz.sortHit 2 Tryz.isAgg54 Tryz.sizeOf54 Fq (fun _=>rfl) (fun x v hv=>by simp[Fq] at hv;rcases hv with rfl|rfl<;>rfl) ordH (by rw[ltOrd];exact hit_swo) 27 #[] g 0 cap hs.toArray W eg (cmpLaysH g 0 _ W) hH hlt (by simp;omega)
  have e:hs.toArray.size=hs.length:=by simp
  rw[e] at alA;change Calls Tryz.prog 26 _ _ _ at alA;refine alA.mono ?_;rintro e w' ⟨rfl,d',n,os,hp,ze,rfl⟩;rw[ltOrd] at ze;have Jz:=aaI (ds:=ds) (q:=q) (d:=hs.toArray) (d':=d') (by simpa using hd) (by simpa using hp) (by simpa using ze)
  have aY:d'.size=hs.toArray.size:=hp.1;have hK:Go.Sort.HoldsK Fq 2 (sortWorldK Fq 2 W g 0 n d' os) g 0 d':=holdsK_sortWorldK_c Fq 2 W g 0 hs.toArray d' n os hH hlt aY;refine⟨rfl,?_,fun n₀ h1 h2=>(Below.refl _ _).grown (ahG W g 0 n d' os) h2 (fun k hk=>by cases hk;omega)⟩
  refine⟨by rw[PY],some ⟨g,0,none⟩,cap,by rw[hl],fun hn=>⟨g,0,rfl,fun j u hj=>?_⟩⟩
  have iI:j<(bA ds q).length*2:=by
   have:=(List.getElem?_eq_some_iff.1 hj).1;rwa [PY] at this
  have Xg:=flat_at (bA ds q) j iI;rw[hj] at Xg;have zR:(bA ds q).toArray=d':=by rw[←Jz]
  rw[zR] at Xg;have hc:=(hK.cell (i:=j / 2) (c:=j%2) (by rw[aY];simp;omega) (by omega)).1
  rw[Option.some.inj Xg,←hc];congr 2;omega
end
section
open Go.RowKit
theorem Qt.dr{A B:World}(h:Q A B):Q A B.drew:=h.trans (Q.drew _)
theorem Qt.al{A B:World}(h:Q A B)(o:Obj):Q A (B.alloc o):=h.trans (Q.alloc _ _)
theorem cellQ{A B:World}(h:Q A B){a:Addr}{u:Value}(hc:A.cell? a=some u):B.cell? a=some u:=ah h hc
theorem mapQ{x W:World}{mb:Nat}(h:MapS (x.alloc (.map #[] 0)) mb [])(q:Q (x.alloc (.map #[] 0)) W):MapS W mb []:=h.stays q
noncomputable def searchRow:Code:=((Tryz.f9.body.bind (iw 1)).getD .skip)
theorem SrS.fresh{w₀ W:World}{pv:Value}{n:Nat}(wt:Bytes→Nat){sb mb:Nat}(h:Q w₀ W)(hb:Blk W sb 67 #[pv,.int .i64 (n:Nat),.map (some mb)])(hm:MapS W mb [])(h1:w₀.heap.size≤sb)(h2:w₀.heap.size≤mb):SrS w₀ pv n wt sb mb W :=
 ⟨h,hb,⟨[],hm,fun t v h=>by cases h⟩,h1,h2⟩
theorem ahH(w₀ wb:World)(pa:Option Addr)(np pc:Nat)(n B:Nat)(wt:Bytes→Nat)(hq:Q w₀ wb)(cm:∀W,Q w₀ W→Calls Tryz.prog 22 #[iP (.slice pa np pc)] W fun e w'=>e=.returned (.int .i64 (n:Nat))∧Q W w')(k0:wb.cell? ⟨B,0,none⟩=some (.slice pa np pc))
  (Qx:Exit→Act→World→Prop) (x0 x1 x3 x4 x5 x6 x7 x8 x9 x10 x11 x12 x13 x14 x15 x16 x17 x18 x19 x20 x21 x22 x23 x24 x25 x26 x27 x28 x29 x30 x31 x32 x33 x34 x35 x36 x37 x38 x39 x40 x41 x42 x43 x44 x45 x46 x47 x48 x49 x50 x51 x52 x53 x54 x55 x56 x57 x58 x59 x60 x61 x62 x63 x64 x65 x66 x67 x68:Value)
  (hQ:∀(W:World) (sb mb:Nat) (z15 z16 z17 z18 z19 z20:Value),SrS w₀ (.slice pa np pc) n wt sb mb W→Q wb W→Qx .normal ⟨#[x0,x1,.pointer (some ⟨B,0,none⟩),x3,x4,.pointer (some ⟨sb,0,none⟩),x6,x7,x8,x9,x10,x11,x12,x13,x14,z15,z16,z17,z18,z19,z20,x21,x22,x23,x24,x25,x26,x27,x28,x29,x30,x31,x32,x33,x34,x35,x36,x37,x38,x39,x40,x41,x42,x43,x44,x45,x46,x47,x48,x49,x50,x51,x52,x53,x54,x55,x56,x57,x58,x59,x60,x61,x62,x63,x64,x65,x66,x67,x68],[]⟩ W) :
  searchRow.wp Tryz.prog Qx ⟨#[x0,x1,.pointer (some ⟨B,0,none⟩),x3,x4,x5,x6,x7,x8,x9,x10,x11,x12,x13,x14,x15,x16,x17,x18,x19,x20,x21,x22,x23,x24,x25,x26,x27,x28,x29,x30,x31,x32,x33,x34,x35,x36,x37,x38,x39,x40,x41,x42,x43,x44,x45,x46,x47,x48,x49,x50,x51,x52,x53,x54,x55,x56,x57,x58,x59,x60,x61,x62,x63,x64,x65,x66,x67,x68],[]⟩ wb:=by
 conv=>arg 2;whnf
 have pz:Tryz.prog.follows .mixedOrders=true:=by kernel_rfl
 have vT:=@run_makeMap Tryz.prog;have CM:=Hd cm;have zq:=Hd hQ;have KK:=Hd (Q.refl wb);have HQ:=Hd hq;clear cm hQ hq;go_region_held3 (fun w'=>w'.cell? ⟨B,0,none⟩=some (.slice pa np pc))
  (first|exact k0|exact cellQ (by repeat (first|with_reducible exact KK.out|with_reducible apply Qt.al|with_reducible apply Qt.dr)) k0)
  (first
   | (go_at_call 22;((with_reducible refine(CM.out _ (HQ.out.trans (by repeat (first|with_reducible exact KK.out|with_reducible apply Qt.al|with_reducible apply Qt.dr)))).mono ?_);rintro e w1 ⟨rfl,q1⟩);have s':Q wb w1:=Q.trans (by repeat (first|with_reducible exact KK.out|with_reducible apply Qt.al|with_reducible apply Qt.dr)) q1;have aC:=Hd q1;clear KK;have KK:=Hd s';clear s' q1))
 all_goals (have dz:∀w:World,w.drew.heap.size=w.heap.size:=fun _=>rfl)
 all_goals (have y1:=KK.out.size)
 all_goals (have y0:=HQ.out.size)
 all_goals (first
  | exact zq.out _ _ (w1.heap.size) _ _ _ _ _ _ (SrS.fresh wt (HQ.out.trans (by repeat (first|with_reducible exact KK.out|with_reducible apply Qt.al|with_reducible apply Qt.dr))) (by first|exact Blk.new _ _ _|(have h:=Blk.new (w1.alloc (.map #[] 0)) 67 #[.slice pa np pc,.int .i64 (n:Nat),.map (some w1.heap.size)];rw[World.size_alloc] at h;exact h)|(have h:=Blk.new (w1.drew.alloc (.map #[] 0)) 67 #[.slice pa np pc,.int .i64 (n:Nat),.map (some w1.heap.size)];rw[World.size_alloc] at h;exact h)) (mapQ (show MapS ((w1).alloc (.map #[] 0)) (w1.heap.size) [] from MapS.made (w1)) (by repeat (first|with_reducible exact Q.refl _|with_reducible exact aC.out|with_reducible exact(Q.drew _).trans aC.out|with_reducible apply Qt.al|with_reducible apply Qt.dr))) (by first|omega|(simp only[World.size_alloc,dz];omega)) (by first|omega|(simp only[World.size_alloc,dz];omega))) (by repeat (first|with_reducible exact KK.out|with_reducible apply Qt.al|with_reducible apply Qt.dr))
  | exact zq.out _ _ (w1.heap.size) _ _ _ _ _ _ (SrS.fresh wt (HQ.out.trans (by repeat (first|with_reducible exact KK.out|with_reducible apply Qt.al|with_reducible apply Qt.dr))) (by first|exact Blk.new _ _ _|(have h:=Blk.new (w1.alloc (.map #[] 0)) 67 #[.slice pa np pc,.int .i64 (n:Nat),.map (some w1.heap.size)];rw[World.size_alloc] at h;exact h)|(have h:=Blk.new (w1.drew.alloc (.map #[] 0)) 67 #[.slice pa np pc,.int .i64 (n:Nat),.map (some w1.heap.size)];rw[World.size_alloc] at h;exact h)) (mapQ (show MapS ((w1.drew).alloc (.map #[] 0)) (w1.heap.size) [] from MapS.made (w1.drew)) (by repeat (first|with_reducible exact Q.refl _|with_reducible exact aC.out|with_reducible exact(Q.drew _).trans aC.out|with_reducible apply Qt.al|with_reducible apply Qt.dr))) (by first|omega|(simp only[World.size_alloc,dz];omega)) (by first|omega|(simp only[World.size_alloc,dz];omega))) (by repeat (first|with_reducible exact KK.out|with_reducible apply Qt.al|with_reducible apply Qt.dr))
  | exact zq.out _ _ (wb.heap.size) _ _ _ _ _ _ (SrS.fresh wt (HQ.out.trans (by repeat (first|with_reducible exact KK.out|with_reducible apply Qt.al|with_reducible apply Qt.dr))) (by first|exact Blk.new _ _ _|(have h:=Blk.new (w1.alloc (.map #[] 0)) 67 #[.slice pa np pc,.int .i64 (n:Nat),.map (some w1.heap.size)];rw[World.size_alloc] at h;exact h)|(have h:=Blk.new (w1.drew.alloc (.map #[] 0)) 67 #[.slice pa np pc,.int .i64 (n:Nat),.map (some w1.heap.size)];rw[World.size_alloc] at h;exact h)) (mapQ (show MapS ((wb).alloc (.map #[] 0)) (wb.heap.size) [] from MapS.made (wb)) (by repeat (first|with_reducible exact Q.refl _|with_reducible exact aC.out|with_reducible exact(Q.drew _).trans aC.out|with_reducible apply Qt.al|with_reducible apply Qt.dr))) (by first|omega|(simp only[World.size_alloc,dz];omega)) (by first|omega|(simp only[World.size_alloc,dz];omega))) (by repeat (first|with_reducible exact KK.out|with_reducible apply Qt.al|with_reducible apply Qt.dr))
  | exact zq.out _ _ (wb.heap.size) _ _ _ _ _ _ (SrS.fresh wt (HQ.out.trans (by repeat (first|with_reducible exact KK.out|with_reducible apply Qt.al|with_reducible apply Qt.dr))) (by first|exact Blk.new _ _ _|(have h:=Blk.new (w1.alloc (.map #[] 0)) 67 #[.slice pa np pc,.int .i64 (n:Nat),.map (some w1.heap.size)];rw[World.size_alloc] at h;exact h)|(have h:=Blk.new (w1.drew.alloc (.map #[] 0)) 67 #[.slice pa np pc,.int .i64 (n:Nat),.map (some w1.heap.size)];rw[World.size_alloc] at h;exact h)) (mapQ (show MapS ((wb.drew).alloc (.map #[] 0)) (wb.heap.size) [] from MapS.made (wb.drew)) (by repeat (first|with_reducible exact Q.refl _|with_reducible exact aC.out|with_reducible exact(Q.drew _).trans aC.out|with_reducible apply Qt.al|with_reducible apply Qt.dr))) (by first|omega|(simp only[World.size_alloc,dz];omega)) (by first|omega|(simp only[World.size_alloc,dz];omega))) (by repeat (first|with_reducible exact KK.out|with_reducible apply Qt.al|with_reducible apply Qt.dr)))
theorem p8:(Tryz.prog.info? 54).map (fun i=>(i.zero,i.size,i.bytes))=some (some (.agg #[ak [],.int .i64 0]),2,24):=by kernel_rfl
theorem ahI{w:World}{base g n cap:Nat}{l:List au}(h:w.ownsRow base 47 2 (.slice (some ⟨g,0,none⟩) n cap) n (bK l))(hn:n=l.length)(i:Nat)(hi:i<l.length):w.cell? ⟨g,i*2,none⟩=some (ak l[i].1) :=
 KC h (by omega) (i*2) _ (Jo l i hi).1
theorem kD(w₀:World)(pv:Value)(ps:List aG)(q:QL)(qv:Value)(hp:PartsAt w₀ pv ps)(bD:eu ps)(hn:ps.length≤1000)(hq:QryAt w₀ q qv)(wB:iD q=true)(aY:dh q≤100)(hT:Tabs w₀)(gG:Spans w₀):
  Calls Tryz.prog 9 #[iP pv,qv] w₀ fun e w'=>∃v,e=.returned v∧Hits w' v (bA (aH ps) q)∧Q w₀ w':=by
 obtain⟨i0,hi,fJ,eU,fD⟩:=info_parts p8;obtain⟨wt,OQ⟩:∃wt,wt=wtL (aH ps):=⟨_,rfl⟩;have H:SrH w₀ pv ps wt:=⟨hp,bD.1,hn,fun t=>by rw[OQ],hT,gG⟩
 have mF:=hq;obtain⟨qk,qs,a1,n1,p1,a2,n2,p2,a3,n3,p3,XK⟩:∃k s a1 n1 p1 a2 n2 p2 a3 n3 p3,qv=.agg #[.int .i64 k,ak s,.slice a1 n1 p1,.slice a2 n2 p2,.slice a3 n3 p3]:=by
  cases q with
  | mk k s m sh n =>
   obtain⟨vm,vs,vn,he,⟨a1,p1,e1,_⟩,⟨a2,p2,e2,_⟩,⟨a3,p3,e3,_⟩⟩:=hq.open;exact⟨k,s,a1,_,p1,a2,_,p2,a3,_,p3,by rw[he,e1,e2,e3]⟩
 subst XK;have cwk:=fun sb mb g (k:Nat) (hk:k<ps.length) (hg:SegAt w₀ g ps[k].1 (eF ps[k].1))=>ahE w₀ pv ps wt sb mb g ps[k].1 H hg (bD.1 _ (List.getElem_mem hk)).2.2.1 (bD.1 _ (List.getElem_mem hk)).1 q wB aY
 have cmany:=fun W (hq:Q w₀ W)=>UZ pv ps W (hp.stays hq) (by omega) bD.1
 rw[show(uI ps).length=(aH ps).length by rw[Cj ps bD.2]] at cmany
 have bV:=fun k (hk:k<ps.length)=>hits_step ps wt q k hk (LV q wB)
 have FQ:=fun k (hk:k<ps.length)=>abQ ps[k].1 wt H.wt_le (II (bD.1 _ (List.getElem_mem hk)).1) q wB (by omega)
 have sO:=Fj ps (fun p hp=>(bD.1 p hp).2.2.1)
 have OO:∀k,((aH (ps.take k)).filterMap (kZ wt q)).length≤500000:=fun k=>by
  have h1:=Fj (ps.take k) (fun p hp=>(bD.1 p (List.mem_of_mem_take hp)).2.2.1)
  have h2:(ps.take k).length≤1000:=by rw[List.length_take];omega
  exact Nat.le_trans (List.length_filterMap_le _ _) (by omega)
 have ape:=bD.1;have am0:(aH ps).filterMap (kZ wt q)=D6 (aH ps) q:=by rw[OQ];rfl
 obtain⟨pa,pc,rfl,sQ⟩:=hp.value;obtain⟨nd,adF⟩:∃nd,nd=(aH ps).length:=⟨_,rfl⟩;rw[←adF] at cmany cwk sO;have BQ:=Hd sQ;have CWK:=Hd cwk;have CM:=Hd cmany;have bJ:=Hd bV;have atJ:=Hd FQ;have MU:=Hd OO;have ni:=Hd ape;have HH:=Hd am0;have HQV:=Hd mF;obtain⟨np,rU⟩:∃np,np=ps.length:=⟨_,rfl⟩;have Ir:=Hd rU;clear sQ cwk cmany bV FQ OO ape am0 mF hq hp bD H hT gG wB aY OQ adF;rw[←rU] at hn CM ⊢;clear rU;have jS:Q w₀ ((w₀.alloc (.cells #[.slice pa np pc] 31)).alloc (.cells #[.int .i64 qk,ak qs,.slice a1 n1 p1,.slice a2 n2 p2,.slice a3 n3 p3] 25)):=(Q.alloc _ _).trans (Q.alloc _ _);have lK:=(Blk.new w₀ 31 #[.slice pa np pc]).alloc (.cells #[.int .i64 qk,ak qs,.slice a1 n1 p1,.slice a2 n2 p2,.slice a3 n3 p3] 25);have dS:=Blk.new (w₀.alloc (.cells #[.slice pa np pc] 31)) 25 #[.int .i64 qk,ak qs,.slice a1 n1 p1,.slice a2 n2 p2,.slice a3 n3 p3];rw[World.size_alloc] at dS;have aC:=Hd jS;have xq:=Hd lK;have jT:=Hd dS;clear jS lK dS;go_enter Tryz.func9,Tryz.ntmps9;go_wp2_with fail;refine ahH w₀ _ pa np pc nd w₀.heap.size wt aC.out CM.out (xq.out.cell 0 _ rfl) _ _ _ _ _ _ _ _ _ _ _ _ _ _ _ _ _ _ _ _ _ _ _ _ _ _ _ _ _ _ _ _ _ _ _ _ _ _ _ _ _ _ _ _ _ _ _ _ _ _ _ _ _ _ _ _ _ _ _ _ _ _ _ _ _ _ _ _ _ ?_;rintro W1 sb mb z15 z16 z17 z18 z19 z20 Jz rQ;have lK:=xq.out.stays rQ;have dS:=jT.out.stays rQ;have c0:=lK.cell 0 _ rfl;have AL:=Hd Jz;have HBQ:=Hd dS;have l9:w₀.heap.size≤W1.heap.size:=Jz.q.size;clear Jz rQ lK dS xq jT aC CM;go_wp2_with fail;go_loopw [6,24] (fun hv i wr=>∃(k:Nat),k≤np∧i=.int .i64 (k:Nat)∧Hid (wr.ownsRow W1.heap.size 54 2 hv ((aH (ps.take k)).filterMap (kZ wt q)).length (tY ((aH (ps.take k)).filterMap (kZ wt q))))∧Hid (Cs w₀.heap.size W1 wr)∧Hid (SrS w₀ (.slice pa np pc) nd wt sb mb wr)) (fun _ i _=>np-(intOf i).toNat)
 case atStart=>exact⟨0,by omega,rfl,World.ownsRow_nil _ _ _ _,Cs.refl _ _,AL.out⟩
 case round =>
  obtain⟨k,hk,rfl,HR,HC,HS⟩:=hrel;obtain⟨wo,rfl⟩:∃wo:World,wo=wr:=⟨_,rfl⟩;clear c0;by_cases hlt:k<np
  ·have oN:k<ps.length:=by have:=Ir.out;omega
   obtain⟨b,off,rfl,bC⟩:=BQ.out (by omega)
   obtain⟨p,e0,e1,yu⟩:=bC k oN;have u0:=ah HS.out.q e0;have u1:=ah HS.out.q e1;have Oz:=ni.out ps[k] (List.getElem_mem oN);have cwk:=CWK.out sb mb p k oN yu;have aI:=bJ.out k oN;have FQ:=atJ.out k oN;have alB:=MU.out k;have adA:=fun d W=>mH ps[k].2 (d:Nat) W (by have:=Oz.2.2.2;have:=Oz.2.2.1;omega)
   have gJ:Q wo (wo.alloc (.cells #[.pointer (some ⟨p,0,none⟩),ak ps[k].2] 70)):=Q.alloc _ _;have cd:=F6 p ps[k].1 _ _ (yu.stays (HS.out.q.trans gJ)) (by have:=Oz.2.2.1;omega)
   have Uu:=Oz.2.2.1;generalize EP:ps[k]=part at *;obtain⟨l,gone⟩:=part;simp only at *;generalize (aH (ps.take k)).filterMap (kZ wt q)=hs at *;have sS:=Blk.new wo 70 #[.pointer (some ⟨p,0,none⟩),ak gone];obtain⟨y0,y1,_⟩:=sS.c2;have hi1:(k:Int)<(np:Int):=by omega
   have mD:(0:Int)≤(k:Int):=by omega
   have CD:=Hd cd;have CW:=Hd cwk;have atK:=Hd aI;have Wt:=Hd FQ;have atL:=Hd adA;have BR:=Hd sS;clear cd cwk aI FQ adA Oz e0 e1 yu bC sS EP gJ;go_wp2_with fail;refine CD.out.mono ?_;rintro e w2 ⟨dv,rfl,EU,q2⟩;obtain⟨da,dcap,rfl,apg⟩:=aT EU;have gJ:Q wo w2:=(Q.alloc _ _).trans q2;have dM:=HC.out.trans (Cs.of_q gJ);have alC:=BR.out.stays q2;obtain⟨y0,y1,_⟩:=alC.c2;obtain⟨g0,g1,g2,g3,g4⟩:=(dM.blk HBQ.out).c5;have jG:=ownsRow_below HR.out gJ;have kE:=HS.out.stays gJ;have ak9:SrS w₀ (.slice (some ⟨b,off,none⟩) ps.length pc) nd wt sb mb w2:=by rw[←Ir.out];exact kE
   have c:=CW.out w2 _ ak9 HQV.out;have C:=Hd c;have Cr:=Hd dM;have adz:=Hd alC;have BK:=Hd jG;have OU:=Hd EU;have Er:=Hd apg;have lJ:W1.heap.size≤wo.heap.size:=HC.out.size;have nV:wo.heap.size≤w2.heap.size:=gJ.size;clear EU q2 gJ dM alC jG kE ak9 c CD CW BR HR HC HS apg u0 u1;go_wp2_with fail;refine C.out.mono ?_;rintro e w3 ⟨u,rfl,nY,c3,s3⟩;have Io:w2.heap.size≤w3.heap.size:=c3.size;have s3':SrS w₀ (.slice (some ⟨b,off,none⟩) np pc) nd wt sb mb w3:=by rw[Ir.out];exact s3
   have Ur:∀g,Value.ownBlock u6=some g→g<w2.heap.size∨w3.heap.size≤g:=fun g hg=>.inl (BK.out.lt g hg).2
   have aph:=dO (c3.owns OU.out) (Nat.le_trans lJ (show wo.heap.size≤(wo.alloc (.cells #[.pointer (some ⟨p,0,none⟩),ak gone] 70)).heap.size by simp))
   have dR:hs++jX l gone (fO l wt q) 0=hs:=by rw[aaH,List.append_nil]
   have BU:=Hd nY;have M8:=Hd (Cr.out.trans c3);have oU:=Hd s3';have apj:=Hd (c3.blk adz.out);have uW:=Hd (c3.owns BK.out);have Vv:=Hd aph;have M0:=Hd Ur;have oV:=Hd dR;clear nY c3 s3 s3' Cr adz BK OU C Ur aph dR y0 y1 g0 g1 g2 g3 g4;go_wp2_with fail;go_loopw [6,11] (fun hv i wr=>∃(doc:Nat),doc≤l.length∧i=.int .i64 (doc:Nat)∧Hid (wr.ownsRow W1.heap.size 54 2 hv (hs++jX l gone (fO l wt q) doc).length (tY (hs++jX l gone (fO l wt q) doc)))∧Hid (∀g,Value.ownBlock hv=some g→g<w2.heap.size∨w3.heap.size≤g)∧w3.heap.size≤wr.heap.size∧Hid (IsWk ⟨w₀.heap.size,w2.heap.size,w3.heap.size⟩ l.length pJ wr u (fO l wt q))∧Hid (Cs w₀.heap.size W1 wr)∧Hid (SrS w₀ (.slice (some ⟨b,off,none⟩) np pc) nd wt sb mb wr)∧Hid (Blk wr wo.heap.size 70 #[.pointer (some ⟨p,0,none⟩),ak gone])∧Hid (wr.ownsRow W1.heap.size 47 2 (.slice da l.length dcap) l.length (bK l))) (fun _ i _=>501-(intOf i).toNat)
   case atStart=>exact⟨0,Nat.zero_le _,rfl,by show World.ownsRow _ _ _ _ _ _ _;rw[oV.out];exact uW.out,M0.out,Nat.le_refl _,BU.out,M8.out,oU.out,apj.out,Vv.out⟩
   case round =>
    obtain⟨doc,Yy,rfl,HR,HA,xV,HW,HC,HS,HP,HD⟩:=hrel;obtain⟨wi,rfl⟩:∃wi:World,wi=wr:=⟨_,rfl⟩;clear uW BU M8 oU apj Vv M0 oV;obtain⟨ut,ux,ug,hue,vT,QI,Mx⟩:=HW.out.is;subst hue;have c:=Mx wi doc (Ws.refl _ _) (by omega)
    have C:=Hd c;clear Mx c;go_wp2_with fail;refine C.out.mono ?_;rintro e w4 ⟨(⟨d,s,rfl,hx⟩|⟨d,s,rfl,hx⟩),q4⟩
    ·obtain⟨JE,vN⟩:=(Wt.out d s hx.2.1)
     have kR:=aaG l gone (fO l wt q) doc d s hx l[d] (List.getElem?_eq_getElem JE);unfold pJ at vN;have gQ:=abU l gone (fO l wt q) doc;have CZ:doc≤d:=hx.1;have zf:=atL.out d w4 (by omega)
     rw[abm] at zf;have nu:=Hd (ownsRow_below HR.out q4);have HW4:=Hd (HW.out.stays (Ws.of_q q4));have AV:=Hd (HC.out.trans (Cs.of_q q4));have BP:=Hd (HS.out.stays q4);have HP4:=Hd (HP.out.stays q4);have Da:=Hd (ownsRow_below HD.out q4);have xu:=Hd kR;have hw4:w3.heap.size≤w4.heap.size:=Nat.le_trans xV q4.size;obtain⟨g,rfl⟩:=Er.out (by omega)
     have apl:=ahI Da.out rfl d JE;obtain⟨y0,y1,_⟩:=HP4.out.c2;have rZ:(d:Int)<(l.length:Int):=by omega
     have Gx:(0:Int)≤(d:Int):=by omega
     have zU:=Hd zf;generalize xM:hs++jX l gone (fO l wt q) doc=h1 at *;have hh1:h1.length≤600000:=by rw[←xM,List.length_append];omega
     have XF:=Hd xM;clear hx kR q4 HR HW HC HS HP HD zf xM C vT QI;cases zS:bit gone d with
     | true =>
      have kQ:Hid (hs++jX l gone (fO l wt q) (d+1)=h1):=by
       have h:=xu.out;rw[zS,if_pos rfl,List.append_nil] at h;show _=_;rw[h];exact XF.out
      rw[zS] at zU;clear zS xu;go_wp2_with fail;refine zU.out.mono ?_;rintro e w' ⟨rfl,rfl⟩;go_wp2_with fail;go_roundw;case rel=>exact⟨d+1,by omega,by go_num,by show World.ownsRow _ _ _ _ _ _ _;rw[kQ.out];exact nu.out,HA.out,hw4,HW4.out,AV.out,BP.out,HP4.out,Da.out⟩
      case measure=>simp[intOf];omega
     | false =>
      have kQ:Hid (hs++jX l gone (fO l wt q) (d+1)=h1++[(l[d].1,s)]):=by
       have h:=xu.out;rw[zS,if_neg (by simp)] at h
       show _=_;rw[h,←List.append_assoc,XF.out]
      rw[zS] at zU;have XL:=nu.out;obtain⟨va,vcap,hv6,_⟩:=aT XL;subst hv6;have dS:W1.heap.size≤w4.heap.size:=AV.out.size;generalize l[d].1=did at *;clear zS xu nu;go_wp2_with fail;refine zU.out.mono ?_;rintro e w' ⟨rfl,rfl⟩;go_wp2_with (at_builtin;go_must (refine cZ w4 (by rfl) _ _ 36 (by rfl) W1.heap.size 54 _ i0 (.agg #[ak [],.int .i64 0]) 2 24 Tryz.underlying36 hi fJ eU fD rfl (by decide) (by decide) _ _ _ (by rfl) XL #[ak did,.int .i64 (s:Nat)] (by simp[Act.eval]) rfl ?c1 ?c2 dS ?_))
      case c1=>simp[Value.oneCell']
      case c2=>omega
      intro g6 cap6 w6 aW dB iL uz tq;have hz6:Ws ⟨w₀.heap.size,w2.heap.size,w3.heap.size⟩ w4 w6:=Ws.grown dB (fun g hg=>⟨by have:=(XL.lt g hg).1;show w₀.heap.size≤g;omega,HA.out g hg⟩)
      have ha6:∀g,Value.ownBlock (.slice (some ⟨g6,0,none⟩) (h1.length+1) cap6)=some g→g<w2.heap.size∨w3.heap.size≤g:=fun g hg=>by
       have e:g=g6:=by simpa[Value.ownBlock] using hg.symm
       subst e;rcases iL with h|h
       ·exact HA.out _ h
       ·exact .inr (by omega)
      have aky:w6.ownsRow W1.heap.size 54 2 (.slice (some ⟨g6,0,none⟩) (h1.length+1) cap6) (h1++[(did,s)]).length (tY (h1++[(did,s)])):=by
       rw[ab4,List.length_append];exact aW
      have QX:=Hd aky;have K8:=Hd ha6;have HW6:=Hd (HW4.out.stays hz6);have XA:=Hd (AV.out.grown XL dB (Nat.le_refl _) l9);have zQ:=Hd (BP.out.grown XL dB l9 (by decide));have HP6:=Hd (lW HP4.out XL dB (by decide));have HD6:=Hd (iW Da.out XL dB (by decide))
      have Vi:w3.heap.size≤w6.heap.size:=by omega
      clear aW aky dB iL hz6 ha6 XL HA HW4 AV BP HP4 Da y0 y1 apl zU;go_wp2_with fail;go_roundw;case rel=>exact⟨d+1,by omega,by go_num,by show World.ownsRow _ _ _ _ _ _ _;rw[kQ.out];exact QX.out,K8.out,Vi,HW6.out,XA.out,zQ.out,HP6.out,HD6.out⟩
      case measure=>simp[intOf];omega
    ·have qG:=aaF l gone (fO l wt q) doc l.length Yy hx
     have sJ:(aH (ps.take (k+1))).filterMap (kZ wt q)=hs++jX l gone (fO l wt q) doc:=by rw[atK.out,qG]
     have HNW:=Hd sJ;have nu:=Hd (ownsRow_below HR.out q4);have AV:=Hd (HC.out.trans (Cs.of_q q4));have BP:=Hd (HS.out.stays q4);clear hx qG sJ q4 HR HW HC HS HP HD C vT QI;go_wp2_with fail;go_roundw;case rel=>exact⟨k+1,by omega,by go_num,by show World.ownsRow _ _ _ _ _ _ _;rw[HNW.out];exact nu.out,AV.out,BP.out⟩
     case measure=>simp[intOf];omega
  ·have cO:k=np:=by omega
   subst cO;have hr:=HR.out;have gU:ps.take k=ps:=by rw[Ir.out,List.take_length]
   have alB:=MU.out k;rw[gU,HH.out] at hr alB;have c:=ab5 W1.heap.size _ _ wo hr (by omega) (aH ps) q rfl
   have C:=Hd c;have xK:=Hd HS.out.q;clear c hr HR alB gU;go_wp2_with fail;refine C.out.mono ?_;rintro e w9 ⟨rfl,hh,oQ⟩;have HH9:=Hd hh;have wu:=Hd (Below.trans xK.out (oQ w₀.heap.size l9 xK.out.size));clear hh oQ C;go_wp2_with fail;go_ret;exact⟨_,rfl,HH9.out,wu.out⟩
abbrev HitI:=Bytes×Int
def MN(hs:List HitI):List Value:=hs.flatMap fun h=>[ak h.1,.int .i64 h.2]
def HitsI(w:World)(v:Value)(hs:List HitI):Prop:=Sl w v hs.length 2 (MN hs)
theorem HitsI.stays{w w':World}{v:Value}{hs:List HitI}(h:HitsI w v hs)(q:Q w w'):HitsI w' v hs:=Sl.stays h q
theorem LZ(h:HitI)(hs:List HitI):MN (h::hs)=ak h.1::.int .i64 h.2::MN hs:=rfl
theorem Zt(hs:List HitI)(i:Nat)(h:i<hs.length):(MN hs)[i*2]?=some (ak hs[i].1)∧(MN hs)[i*2+1]?=some (.int .i64 hs[i].2):=by
 induction hs generalizing i with
 | nil=>simp at h
 | cons x hs ih =>
  rw[LZ];cases i with
  | zero=>exact⟨rfl,rfl⟩
  | succ i =>
   rw[show(i+1)*2=i*2+1+1 by omega]
   exact ih i (by simpa using h)
theorem HitsI.value{w:World}{v:Value}{hs:List HitI}(h:HitsI w v hs):∃a cap,v=.slice a hs.length cap∧(0<hs.length→∃b off,a=some ⟨b,off,none⟩∧∀i (hi:i<hs.length),w.cell? ⟨b,off+i*2,none⟩=some (ak hs[i].1)∧w.cell? ⟨b,off+i*2+1,none⟩=some (.int .i64 hs[i].2)):=by
 obtain⟨_,a,cap,h1,h2⟩:=h;refine⟨a,cap,h1,fun hn=>?_⟩
 obtain⟨b,off,h3,h4⟩:=h2 hn;exact⟨b,off,h3,fun i hi=>⟨h4 _ _ (Zt hs i hi).1,by rw[Nat.add_assoc];exact h4 _ _ (Zt hs i hi).2⟩⟩
def toI(h:dY):HitI:=(h.1,(h.2:Int))
theorem toI_inj{a b:List dY}(h:a.map toI=b.map toI):a=b:=by
 induction a generalizing b with
 | nil=>cases b with|nil=>rfl|cons x b=>simp at h
 | cons x a ih =>
  cases b with
  | nil=>simp at h
  | cons y b =>
   rw[List.map_cons,List.map_cons] at h;injection h with h1 h2;unfold toI at h1;injection h1 with h3 h4;rw[ih h2,Prod.ext h3 (Int.ofNat.inj h4)]
theorem Hits.toI{w:World}{v:Value}{hs:List dY}(h:Hits w v hs):HitsI w v (hs.map toI):=by
 have e:MN (hs.map Go.Proofs.YthijhicdmnoifaaGreatDoor.toI)=tY hs:=by
  induction hs with
  | nil=>rfl
  | cons x hs ih =>
   have h':Hits w v hs→True:=fun _=>trivial
   rw[List.map_cons,LZ,IJ];congr 2;clear h h' ih;induction hs with
   | nil=>rfl
   | cons y hs ih=>rw[List.map_cons,LZ,IJ,ih];rfl
 unfold HitsI;rw[List.length_map,e];exact h
theorem afc(a b:Bytes):(({ data:=a.toArray }:ByteArray).toList==({ data:=b.toArray }:ByteArray).toList)=decide (a=b):=by
 rw[ByteArray.toList_eq,ByteArray.toList_eq];by_cases h:a=b<;>simp[h]
theorem eqHit(i1:Bytes)(t1:Int)(i2:Bytes)(t2:Int)(w:World):(Op.equalIn 10000 54 (.agg #[ak i1,.int .i64 t1]) (.agg #[ak i2,.int .i64 t2])).run Tryz.prog w=.ok (decide (((i1,t1):HitI)=(i2,t2))) w:=by
 have u9:=Tryz.underlying9;have u3:=Tryz.underlying3;have hS:Tryz.prog.underlying 54=some (.struct (Tryz.prog.fieldsOf 54)):=by kernel_rfl
 have hp:Tryz.prog.stoodInHeld 54=false:=by kernel_rfl
 rw[show(10000:Nat)=9999+1 from rfl,run_equalIn_agg w 9999 54 _ _ hS hp]
 simp only[Program.fieldsOf,Tryz.underlying54];go_simp;by_cases h1:i1=i2<;>by_cases h2:t1=t2<;>simp[h1,h2,afc]
theorem ahJ(va vb:Value)(la lb:List HitI)(w:World)(ha:HitsI w va la)(hb:HitsI w vb lb)(hna:la.length≤1000000000)(Nt:lb.length≤1000000000):
  Calls Tryz.prog 8 #[va,vb] w fun e w'=>e=.returned (.bool (decide (la=lb)))∧Q w w':=by
 obtain⟨aa,ca,rfl,QI⟩:=ha.value;obtain⟨ab,cb,rfl,Sc⟩:=hb.value;have HA:=Hd QI;have HB:=Hd Sc;clear ha hb QI Sc;by_cases hl:la.length=lb.length
 ·have El:=Hd hl
  rw[←hl];clear hl;go_enter Tryz.func8,Tryz.ntmps8;go_wp2_with fail;go_loopw [5] (fun x wr=>∃k:Nat,x=.int .i64 (k:Nat)∧k≤la.length∧Hid (la.take k=lb.take k)∧Hid (Q w wr)) (fun x _=>la.length-(intOf x).toNat)
  case atStart=>exact⟨0,rfl,by omega,rfl,Q.refl w⟩
  case round =>
   obtain⟨k,rfl,hk,HT,HQ⟩:=hrel;obtain⟨wo,rfl⟩:∃wo:World,wo=wr:=⟨_,rfl⟩;by_cases hlt:k<la.length
   ·obtain⟨b1,o1,rfl,gX⟩:=HA.out (by omega)
    have alh:k<lb.length:=by have:=El.out;omega
    obtain⟨b2,o2,rfl,dM⟩:=HB.out (by omega)
    obtain⟨x1,x2⟩:=gX k hlt;obtain⟨y1,y2⟩:=dM k alh;have k1:=ah HQ.out x1;have k2:=ah HQ.out x2;have k3:=ah HQ.out y1;have k4:=ah HQ.out y2;have vQ:=List.take_succ_eq_append_getElem hlt;have nE:=List.take_succ_eq_append_getElem alh;have Qq:(0:Int)≤(k:Int):=by omega
    have hi1:(k:Int)<(la.length:Int):=by omega
    generalize zR:la[k]=da at *;generalize hdb:lb[k]=db at *;have Lx:=Hd vQ;have gM:=Hd nE;have HDA:=Hd zR;have HDB:=Hd hdb;clear gX dM x1 x2 y1 y2 vQ nE zR hdb;obtain⟨i1,t1⟩:=da;obtain⟨i2,t2⟩:=db;simp only at k1 k2 k3 k4;have hm:Tryz.prog.eqGuardType Tryz.prog.depth 54=false:=by kernel_rfl
    have fu:=fun w=>eqHit i1 t1 i2 t2 w
    by_cases hd:((i1,t1):HitI)=(i2,t2)
    ·rw[decide_eq_true hd] at fu
     have HD:=Hd hd;clear hd;go_wp2_with fail;go_quiet (fail);go_wp2_with fail;go_roundw;case rel=>exact⟨k+1,by go_num,by omega,by show _=_;rw[Lx.out,gM.out,HT.out,HD.out],HQ.out.trans (Q.drewN _ _)⟩
     case measure=>simp[intOf];omega
    ·rw[decide_eq_false hd] at fu
     have HD:=Hd hd;clear hd;go_wp2_with fail;go_quiet (fail);go_wp2_with fail;go_ret;have Dt:decide (la=lb)=false:=by
      rw[decide_eq_false];intro e;have h1:=Lx.out;have h2:=gM.out;rw[←e,h1] at h2;exact HD.out (by simpa using h2)
     exact⟨by rw[Dt];rfl,HQ.out.trans (Q.drewN _ _)⟩
   ·have cO:k=la.length:=by omega
    subst cO;go_wp2_with fail;go_ret;have Xv:decide (la=lb)=true:=by
     rw[decide_eq_true];have:=HT.out;rw[List.take_length,El.out,List.take_length] at this;exact this
    exact⟨by rw[Xv];rfl,HQ.out⟩
 ·have aF:((la.length:Int) != (lb.length:Int))=true:=by simp;omega
  have HL:=Hd hl;clear hl;go_enter Tryz.func8,Tryz.ntmps8;go_wp2_with fail;go_ret;have Dt:decide (la=lb)=false:=decide_eq_false (fun e=>HL.out (by rw[e]))
  exact⟨by rw[Dt];rfl,Q.refl _⟩
theorem SameL_any(va vb:Value)(la lb:List dY)(w:World)(ha:Hits w va la)(hb:Hits w vb lb)(hna:la.length≤1000000000)(Nt:lb.length≤1000000000):
  Calls Tryz.prog 8 #[va,vb] w fun e w'=>e=.returned (.bool (decide (la=lb)))∧Q w w':=by
 have h:=ahJ va vb (la.map toI) (lb.map toI) w ha.toI hb.toI (by rw[List.length_map];exact hna) (by rw[List.length_map];exact Nt)
 rwa [show decide (la.map toI=lb.map toI)=decide (la=lb) from by rw[decide_eq_decide];exact⟨toI_inj,fun h=>by rw[h]⟩] at h
theorem PZ(id tx:Bytes)(w:World):
  Calls Tryz.prog 15 #[.string ⟨id.toArray⟩,.string ⟨tx.toArray⟩] w fun e w'=>e=.returned (opV (false,(id,tx)))∧Q w w':=by
 go_enter Tryz.func15,Tryz.ntmps15;go_wp2_with fail;exact bodyPost_ret (v:=opV (false,(id,tx))) (by simp[results,Tryz.results15,go_sem]) rfl ⟨rfl,Q.alloc _ _⟩
abbrev oneV(k:Int)(s:Bytes):Value:=.agg #[.int .i64 k,ak s,.slice none 0 0,.slice none 0 0,.slice none 0 0]
theorem oZ(k:Int)(s:Bytes)(w:World):
  Calls Tryz.prog 16 #[.int .i64 k,.string ⟨s.toArray⟩] w fun e w'=>e=.returned (oneV k s)∧Q w w':=by
 go_enter Tryz.func16,Tryz.ntmps16;go_wp2_with fail;exact bodyPost_ret (v:=oneV k s) (by simp[results,Tryz.results16,go_sem]) rfl ⟨rfl,Q.alloc _ _⟩
theorem yC(w:World)(k:Int)(s:Bytes):QryAt w (.mk k s [] [] []) (oneV k s):=QryAt.mk' (QrysAt.nil w) (QrysAt.nil w) (QrysAt.nil w)
end
section
open Go.Sort
abbrev sxD:List au:=[([120],[102,111,120,32,102,111,120,32,100,111,103]),([121],[102,111,120]),([122],[99,97,116])]
abbrev sxO:List OpL:=sxD.map fun d=>(false,d)
abbrev sxP:List aG:=[(sxD,[0])]
theorem sx_fresh:bG sxD=([(sxD,[0])],jV sxD (Ci sxD)):=by
 unfold bG;rw[if_neg (by simp)];rfl
theorem sx_more:bq sxO=sxD:=by decide
theorem sx_right:sxO.all dZ=true:=by decide +kernel
theorem ab6:fB [] sxO=(sxP,jV sxD (Ci sxD),0):=by
 unfold fB;rw[if_neg (by decide),if_pos sx_right,sx_more,sx_fresh];rfl
theorem sx_ok:eu sxP:=by
 have:=Ji [] sxO ⟨by simp,by simp[aH]⟩
 rwa [ab6] at this
theorem MO:aH sxP=sxD:=by decide +kernel
def sq(k:Int)(s:Bytes):QL:=.mk k s [] [] []
def sxQ:QL:=.mk 5 [] [] [sq 2 [102,111,120],sq 2 [99,97,116]] [sq 2 [100,111,103]]
theorem sx_1:bA (aH sxP) (sq 2 [102,111,120])=[([120],2),([121],1)]:=by rw[MO,←BA];decide +kernel
theorem sx_2:bA (aH sxP) (sq 3 [102,111,120,32,100,111,103])=[([120],3)]:=by rw[MO,←BA];decide +kernel
theorem sx_3:bA (aH sxP) (sq 4 [99])=[([122],1)]:=by rw[MO,←BA];decide +kernel
theorem sx_4:bA (aH sxP) (sq 1 [])=[([120],1),([121],1),([122],1)]:=by rw[MO,←BA];decide +kernel
theorem sx_5:bA (aH sxP) sxQ=[([122],2),([121],1)]:=by rw[MO,←BA];decide +kernel
end
end Go.Proofs.YthijhicdmnoifaaGreatDoor
