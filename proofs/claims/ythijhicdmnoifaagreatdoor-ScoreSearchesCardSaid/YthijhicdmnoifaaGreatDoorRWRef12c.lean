/- Joined texts of one proof. -/
import Derived.Test.YthijhicdmnoifaaGreatDoorRWRef11a
set_option linter.unusedSimpArgs false
set_option linter.unusedVariables false
set_option linter.unnecessarySimpa false
set_option maxRecDepth 100000
set_option maxHeartbeats 8000000
namespace Go.Proofs.YthijhicdmnoifaaGreatDoor
section
open Go.RowKit
theorem aif(l:List Nat)(n:Nat):dQ (l++[n])=dQ l++bI n:=by simp[dQ]
theorem Di(x:Int)(n:Nat)(hx:x=(n:Int))(hn:n<9223372036854775808)(W:World):
  Calls Tryz.prog 164 #[.int .i64 x] W fun e w'=>e=.returned (ak (bI n))∧Q W w':=by
 subst hx;exact acv n W hn
theorem ROne_ok(d last:Int)(pv:Value)(ps:List Int)(w:World)(hv:Ints w pv ps)(hd:last<d)(h1 : -1≤last)(h2:d<500)(hr:Rises (-1) ps)(hn:ps.length≤1000000):
  Calls Tryz.prog 165 #[.agg #[.int .i64 d,pv],.int .i64 last] w fun e w'=>e=.returned (ak (qM (d,ps) last))∧Q w w':=by
 obtain⟨a,cap,rfl,aJ⟩:=hv.value;have c1:=Di (d-last) (d-last).toNat (by omega) (by omega)
 have c2:=Di (ps.length:Int) ps.length rfl (by omega)
 have jM:qM (d,ps) last=dQ (iy d last ps ps.length):=by unfold qM iy;rw[List.take_length]
 have apN:dQ (iy d last ps 0)=bI (d-last).toNat++bI ps.length:=by simp[iy,kG,dQ]
 have jZ:=eP (d-last).toNat;have jB:=eP ps.length;have hx:=heap_alloc_new w (.cells #[.int .i64 d,.slice a ps.length cap] 201);obtain⟨x0,x1⟩:=bN hx;have iR:=Q.alloc w (.cells #[.int .i64 d,.slice a ps.length cap] 201);have JA:w.heap.size<(w.alloc (.cells #[.int .i64 d,.slice a ps.length cap] 201)).heap.size:=by simp
 have HC:=Hd aJ;have HR:=Hd hr;have C1:=Hd c1;have C2:=Hd c2;have FP:=Hd jM;have apO:=Hd apN;have EB:=Hd x0;have EC:=Hd x1;have jk:=Hd iR;clear aJ hv hr c1 c2 jM apN x0 x1 hx iR JA;generalize bI (d-last).toNat=v1 at *;generalize bI ps.length=v2 at *;have yY:v1.length+v2.length≤9223372036854775807:=by omega
 have mY:∀W:World,(Op.stringOp .add ⟨v1.toArray⟩ ⟨v2.toArray⟩).run Tryz.prog W=.ok (.string (⟨v1.toArray⟩++⟨v2.toArray⟩)) W:=fun W=>run_string_add_sum W _ _ (by simpa[ByteArray.size] using yY)
 go_enter Tryz.func165,Tryz.ntmps165;go_wp2_with fail;generalize rO:w.alloc (.cells #[.int .i64 d,.slice a ps.length cap] 201)=wb at *;generalize hB:w.heap.size=B at *;have k0:=EB.out;have k1:=EC.out;have pz:Tryz.prog.follows .mixedOrders=true:=by kernel_rfl
 have lJ:IntKind.i64.wrap (d-last)=d-last:=IntWalk.i64_in _ (by omega)
 have kk:=Q.refl wb;have KK:=Hd kk;clear kk rO hB;go_region_held3 (fun w'=>w'.cell? ⟨B,0,none⟩=some (.int .i64 d)∧w'.cell? ⟨B,1,none⟩=some (.slice a ps.length cap)) (first|exact⟨k0,k1⟩|exact⟨ah KK.out k0,ah KK.out k1⟩|exact⟨ah (KK.out.trans (Q.drew _)) k0,ah (KK.out.trans (Q.drew _)) k1⟩)
  (first
   | (go_at_call 164;((with_reducible refine(C1.out _).mono ?_);rintro e w' ⟨rfl,q⟩);have s':Q wb w':=Q.trans (by first|exact KK.out|exact KK.out.trans (Q.drew _)) q;clear KK;have KK:=Hd s';clear s' q)
   | (go_at_call 164;((with_reducible refine(C2.out _).mono ?_);rintro e w' ⟨rfl,q⟩);have s':Q wb w':=Q.trans (by first|exact KK.out|exact KK.out.trans (Q.drew _)) q;clear KK;have KK:=Hd s';clear s' q))
 rw[bytes_append,←apO.out];go_wp2_with fail;go_loopw [5,6,7] (fun sv at_ i wr=>∃(k:Nat) (x:Int) (t:Bytes),k≤ps.length∧i=.int .i64 (k:Nat)∧at_=.int .i64 x∧sv=ak t∧t.length≤10*k+20∧Hid (x=if k=0 then -1 else ps.getD (k-1) 0)∧Hid (t=dQ (iy d last ps k))∧Hid (Q wb wr)) (fun _ _ i _=>ps.length-(intOf i).toNat)
 case atStart=>exact⟨0,-1,_,by omega,rfl,rfl,rfl,by rw[apO.out,List.length_append];omega,rfl,rfl,KK.out⟩
 case round =>
  obtain⟨k,x,t,hk,rfl,rfl,rfl,vg,HX,HT,HQ⟩:=hrel;obtain⟨wo,rfl⟩:∃wo:World,wo=wr:=⟨_,rfl⟩;have e0:=ah HQ.out k0;have e1:=ah HQ.out k1;by_cases hlt:k<ps.length
  ·obtain⟨bb,off,rfl,hc⟩:=HC.out (by omega)
   have c0:=ah (jk.out.trans HQ.out) (hc k hlt);have ql:(k:Int)<(ps.length:Int):=by omega
   have ayf:(0:Int)≤(k:Int):=by omega
   obtain⟨p1,p2,p3⟩:=Rises.at_ _ _ HR.out k hlt;rw[←HX.out] at p1 p3;have aI:iy d last ps (k+1)=iy d last ps k++[(ps[k]-x).toNat]:=by
    unfold iy;rw[YZ ps (-1) k hlt,HX.out];rfl
   have Xo:ps[k]=if k+1=0 then -1 else ps.getD (k+1-1) 0:=by
    rw[if_neg (by omega),List.getD_eq_getElem?_getD,show k+1-1=k by omega,List.getElem?_eq_getElem hlt];rfl
   clear hc;generalize ps[k]=y at *;have c3:=Di (y-x) (y-x).toNat (by omega) (by omega)
   have lC:=eP (y-x).toNat;have QK:t++bI (y-x).toNat=dQ (iy d last ps (k+1)):=by rw[aI,aif,HT.out]
   have HN:=Hd Xo;have Pf:=Hd QK;have C3:=Hd c3;clear Xo QK c3 aI;generalize bI (y-x).toNat=v3 at *;go_wp2_with fail;refine(C3.out _).mono ?_;rintro e w6 ⟨rfl,q6⟩;have f0:=ah q6 e0;have f1:=ah q6 e1;have g0:=ah q6 c0;have fQ:=Hd (HQ.out.trans q6);clear q6 e0 e1 c0 HQ C3;go_wp2_with fail;go_roundw;case rel=>exact⟨k+1,y,t++v3,by omega,by go_num,rfl,by rw[bytes_append],by rw[List.length_append];omega,HN,Pf,fQ⟩
   case measure=>simp[intOf];omega
  ·have cO:k=ps.length:=by omega
   subst cO;go_wp2_with fail;go_ret;exact⟨by rw[HT.out,FP.out];rfl,jk.out.trans HQ.out⟩
theorem aii(v:Value)(l:List aR)(w:World)(hv:Posts w v l)(hn:l.length≤1000)(hl:∀p∈l,p.2.2.length≤1000000)(hr:aV (-1) (aK l)=true):
  Calls Tryz.prog 129 #[v] w fun e w'=>e=.returned (ak (iG (aK l)))∧Q w w':=by
 obtain⟨a,cap,rfl,aJ⟩:=hv.value;have qF:=hv.2;have HC:=Hd aJ;have JB:=Hd qF;have HL:=Hd hl;have HR:=Hd hr;clear aJ hv qF hl hr;go_enter Tryz.func129,Tryz.ntmps129;go_wp2_with fail;go_loopw [3,4,5,6,7,8,9] (fun skv alv eiv lav ahv i _ wr=>∃(k:Nat) (sk:List Nat) (bd:Bytes) (la dc:Int) (fr:Nat) (s8 vs:Bytes),k≤l.length∧i=.int .i64 (k:Nat)∧skv=ak vs∧alv=ak bd∧eiv=ak s8∧lav=.int .i64 dc∧ahv=.int .i64 la∧Hid (vs=dQ sk)∧Hid (iH (aK l) k=⟨sk,bd,la,dc,fr⟩)∧s8.length=bd.length-fr∧Hid (Q w wr)) (fun _ _ _ _ _ i _ _=>l.length-(intOf i).toNat)
 case atStart=>exact⟨0,[],[],-1,-1,0,[],[],by omega,rfl,rfl,rfl,rfl,rfl,rfl,rfl,rfl,rfl,Q.refl _⟩
 case round =>
  obtain⟨k,sk,bd,la,dc,fr,s8,vs,hk,rfl,rfl,rfl,rfl,rfl,rfl,XG,bJ,Xw,HQ⟩:=hrel;obtain⟨wo,rfl⟩:∃wo:World,wo=wr:=⟨_,rfl⟩;obtain⟨a1,a2,a3,a4,a5,a6⟩:=packOk (aK l) HR.out (by simpa using hn) k (by simpa using hk)
  have aI:=bJ.out;rw[aI] at a1 a2 a3 a4 a5 a6;simp only at a1 a2 a3 a4 a5 a6;have Dp:=zx sk;rw[←XG.out] at Dp;by_cases hlt:k<l.length
  ·obtain⟨bb,o,rfl,hc⟩:=HC.out (by omega)
   obtain⟨z0,z1⟩:=hc k hlt;have c0:=ah HQ.out z0;have c1:=ah HQ.out z1;have ql:(k:Int)<(l.length:Int):=by omega
   have gY:(0:Int)≤(k:Int):=by omega
   have cB:=JB.out _ (List.getElem_mem hlt);have gQ:=HL.out _ (List.getElem_mem hlt);obtain⟨b1,b2,b3,b4,b5⟩:=acw l HR.out k hlt;rw[←a1] at b1 b5;have Ru:=LK (aK l) k (by simpa using hlt)
   have ES:(aK l)[k]'(by simpa using hlt)=(l[k].1,l[k].2.2):=by simp
   rw[ES,aI] at Ru;clear z0 z1 hc ES a1 aI;generalize l[k]=p at *;obtain⟨d,pv,ps⟩:=p;simp only at c0 c1 cB gQ b1 b2 b3 b4 Ru;have vW:=UG _ _ b4;have sD:=UM (d,ps) dc vW;have cone:=fun W (q:Q w W)=>ROne_ok d dc pv ps W (cB.stays q) b1 b5 b2 vW (by omega)
   obtain⟨pa,jc,rfl,_⟩:=cB.value;by_cases hg:0<k∧k%8=0
   ·have bV:oq ⟨sk,bd,la,dc,fr⟩ k (d,ps)=⟨sk++[(dc-la).toNat,bd.length-fr],bd++qM (d,ps) dc,dc,d,bd.length⟩:=by unfold oq;rw[if_pos hg]
    rw[bV] at Ru;obtain⟨oO,vV⟩:=hg;have hk8:((k:Int)%8==0)=true:=by simp;omega
    have Bt:(0:Int)<(k:Int):=by omega
    have c3:=Di (dc-la) (dc-la).toNat (by omega) (by omega)
    have c4:=Di (s8.length:Int) s8.length rfl (by omega)
    have E9:vs++bI (dc-la).toNat++bI s8.length=dQ (sk++[(dc-la).toNat,bd.length-fr]):=by
     rw[XG.out,Xw];simp[dQ]
    have lC:=eP (dc-la).toNat;have En:=eP s8.length;have YA:s8.length≤bd.length:=by omega
    clear Xw;generalize qM (d,ps) dc=x at *;have Vp:=Hd cone;have aji:=Hd Ru;have C3:=Hd c3;have C4:=Hd c4;have HVN:=Hd E9;clear cone Ru c3 c4 E9 b4 b3 vW cB bV a6;generalize bI (dc-la).toNat=v3 at *;generalize bI s8.length=v4 at *;go_wp2_with fail;refine(C3.out _).mono ?_;rintro e w5 ⟨rfl,q5⟩;have d0:=ah q5 c0;have d1:=ah q5 c1;have mZ:=Hd (HQ.out.trans q5);clear q5 c0 c1 HQ C3;go_wp2_with fail;refine(C4.out _).mono ?_;rintro e w6 ⟨rfl,q6⟩;have e0:=ah q6 d0;have e1:=ah q6 d1;have fQ:=Hd (mZ.out.trans q6);clear q6 d0 d1 mZ C4;go_wp2_with fail;refine(Vp.out _ fQ.out).mono ?_;rintro e w7 ⟨rfl,q7⟩;have f0:=ah q7 e0;have f1:=ah q7 e1;have ny:=Hd (fQ.out.trans q7);clear q7 e0 e1 fQ Vp;go_wp2_with fail;go_roundw;case rel=>exact⟨k+1,_,_,_,_,_,x,vs++v3++v4,by omega,by go_num,by rw[bytes_append,bytes_append],by rw[bytes_append],rfl,rfl,rfl,HVN,aji,by simp,ny⟩
    case measure=>simp[intOf];omega
   ·have bV:oq ⟨sk,bd,la,dc,fr⟩ k (d,ps)=⟨sk,bd++qM (d,ps) dc,la,d,fr⟩:=by unfold oq;rw[if_neg hg]
    rw[bV] at Ru;generalize qM (d,ps) dc=x at *;have Vp:=Hd cone;have aji:=Hd Ru;clear cone Ru b4 b3 vW cB bV a6;by_cases hz:k=0
    ·subst hz
     simp only[Nat.zero_mul,Nat.add_zero] at c0 c1;have YA:=Xw;have Dm:=Hd YA;have aua:s8.length≤bd.length:=by omega
     clear hg Xw YA;go_wp2_with fail;refine(Vp.out _ HQ.out).mono ?_;rintro e w7 ⟨rfl,q7⟩;have f0:=ah q7 c0;have f1:=ah q7 c1;have ny:=Hd (HQ.out.trans q7);clear q7 c0 c1 HQ Vp;go_wp2_with fail;go_roundw;case rel=>exact⟨0+1,_,_,_,_,_,s8++x,vs,by omega,by go_num,rfl,by rw[bytes_append],by rw[bytes_append],rfl,rfl,XG,aji,by have:=Dm.out;simp;omega,ny⟩
     case measure=>simp[intOf];omega
    ·have Bt:(0:Int)<(k:Int):=by omega
     have hk8:((k:Int)%8==0)=false:=by simp;omega
     have YA:=Xw;have Dm:=Hd YA;have aua:s8.length≤bd.length:=by omega
     clear hg Xw YA;go_wp2_with fail;refine(Vp.out _ HQ.out).mono ?_;rintro e w7 ⟨rfl,q7⟩;have f0:=ah q7 c0;have f1:=ah q7 c1;have ny:=Hd (HQ.out.trans q7);clear q7 c0 c1 HQ Vp;go_wp2_with fail;go_roundw;case rel=>exact⟨k+1,_,_,_,_,_,s8++x,vs,by omega,by go_num,rfl,by rw[bytes_append],by rw[bytes_append],rfl,rfl,XG,aji,by have:=Dm.out;simp;omega,ny⟩
     case measure=>simp[intOf];omega
  ·have cO:k=l.length:=by omega
   subst cO;have Xp:iH (aK l) l.length=xU ⟨[],[],-1,-1,0⟩ 0 (aK l):=by unfold iH;rw[List.take_of_length_le (by simp)]
   have tV:iG (aK l)=bI l.length++vs++bd:=by
    rw[Xp] at aI;unfold iG;rw[aI,XG.out];simp
   have c3:=Di (l.length:Int) l.length rfl (by omega)
   have lC:=eP l.length;have alI:=Hd tV;have C3:=Hd c3;clear tV c3 aI Xp a1 a6;generalize bI l.length=v3 at *;go_wp2_with fail;refine(C3.out _).mono ?_;rintro e w7 ⟨rfl,q7⟩;have ny:=Hd (HQ.out.trans q7);clear q7;go_wp2_with fail;go_ret;exact⟨by rw[alI.out];exact congrArg (fun b=>Ending.returned (.string b)) (by rw[bytes_append,bytes_append]),ny.out⟩
theorem RPPack_ok(v:Value)(l:List aR)(w:World)(hv:Posts w v l)(hn:l.length≤1000)(hl:∀p∈l,p.2.2.length≤1000000)(hr:aV (-1) (aK l)=true):
  Calls Tryz.prog 83 #[v] w fun e w'=>e=.returned (.tuple #[ak (qW (aK l)),.int .i64 0])∧Q w w':=by
 have c1:=aie v l w hv (by omega) hl hr
 have c2:=fun W (q:Q w W)=>aii v l W (hv.stays q) hn hl hr
 have EP:qW (aK l)=iG (aK l):=by unfold qW;rw[if_pos hr]
 rw[EP];generalize iG (aK l)=x at *;obtain⟨a,cap,rfl,aJ⟩:=hv.value;have C1:=Hd c1;have C2:=Hd c2;clear c1 c2 hv hl aJ hr EP;go_enter Tryz.func83,Tryz.ntmps83;go_wp2_with fail;refine C1.out.mono ?_;rintro e w1 ⟨rfl,q1⟩;have aC:=Hd q1;clear q1 C1;go_wp2_with fail;refine(C2.out _ aC.out).mono ?_;rintro e w2 ⟨rfl,q2⟩;have aS:=Hd (aC.out.trans q2);clear q2 C2;go_wp2_with fail;go_ret2;exact⟨rfl,aS.out⟩
theorem Qc(id tx:Bytes)(w:World)(h1:id.length≤9223372036854775807)(h2:tx.length≤9223372036854775807):
  Calls Tryz.prog 80 #[.agg #[ak id,ak tx]] w fun e w'=>e=.returned (.bool (iT id tx))∧Q w w':=by
 have cv1:=fun W=>IQ id W h1
 have cv2:=fun W=>IQ tx W h2
 have zu:iT id tx=(pW id&&pW tx&&decide (1≤id.length)&&decide (id.length≤40)&&decide (tx.length≤2000)):=by
  unfold iT;rw[←Js _ id (Nat.le_refl _),←Js _ tx (Nat.le_refl _)];have:(!id.isEmpty)=decide (1≤id.length):=by cases id<;>simp
  rw[this];cases pW id<;>cases pW tx<;>simp
 have hx:=heap_alloc_new w (.cells #[ak id,ak tx] 47);obtain⟨x0,x1⟩:=bN hx;have iR:=Q.alloc w (.cells #[ak id,ak tx] 47);generalize pW id=b1 at *;generalize pW tx=b2 at *;have CV1:=Hd cv1;have CV2:=Hd cv2;have Ul:=Hd zu;have EB:=Hd x0;have EC:=Hd x1;have jk:=Hd iR;clear cv1 cv2 zu x0 x1 hx iR;go_enter Tryz.func80,Tryz.ntmps80;go_wp2_with fail;generalize w.alloc (.cells #[ak id,ak tx] 47)=wb at *;generalize w.heap.size=B at *;refine(CV1.out _).mono ?_;rintro e w1 ⟨rfl,q1⟩;have aC:=Hd q1;have d0:=ah q1 EB.out;have d1:=ah q1 EC.out;clear q1;go_wp2_with fail;refine(CV2.out _).mono ?_;rintro e w2 ⟨rfl,q2⟩;have aS:=Hd (aC.out.trans q2);have e0:=ah q2 d0;have e1:=ah q2 d1;clear q2 aC d0 d1;cases b1<;>cases b2
 all_goals
  by_cases g1:1≤id.length;all_goals by_cases g2:id.length≤40
  all_goals by_cases g3:tx.length≤2000
  all_goals
   first
    | (exfalso;omega)
    | (go_wp2_with fail;go_ret;exact⟨eX (by rw[Ul.out];first|(simp[*];done)|(simp[*];omega)),jk.out.trans aS.out⟩)
def MS(l:List (Bytes×Nat))(t:Bytes)(k:Nat):List Int:=(l.take k).filterMap fun x=>if x.1=t then some (x.2:Int) else none
theorem afx(l:List (Bytes×Nat))(t:Bytes)(k:Nat)(h:k<l.length):MS l t (k+1)=MS l t k++if l[k].1=t then [(l[k].2:Int)] else []:=by
 unfold MS;rw[List.take_succ_eq_append_getElem h,List.filterMap_append];by_cases he:l[k].1=t
 ·simp[he]
 ·simp[he]
theorem afy(s t:Bytes)(w:World)(hs:s.length≤100000000):
  Calls Tryz.prog 130 #[ak s,ak t] w fun e w'=>∃v,e=.returned v∧w'.ownsRow w.heap.size 3 1 v (placesIn s t).length (kH (placesIn s t))∧Q w w':=by
 obtain⟨i0,hi,fJ,eU,fD⟩:=info_parts acy;have ct:=Gh s w hs;have vg:(aA s).length≤s.length+1:=by
  have:=sK (bT s) 0;have:=(uJ s).1;unfold aA;omega
 have gQ:placesIn s t=MS (aA s) t (aA s).length:=by unfold MS placesIn;rw[List.take_length]
 rw[gQ];clear gQ;generalize aA s=l at *;have CT:=Hd ct;clear ct;go_enter Tryz.func130,Tryz.ntmps130;go_wp2_with fail;refine CT.out.mono ?_;rintro e w1 ⟨v1,rfl,jf,q1⟩;have XM:Toks w1 v1 l:=Sl.of_owns jf;obtain⟨a,cap,rfl,hc⟩:=XM.value;have HC:=Hd hc;have aC:=Hd q1;have l9:w.heap.size≤w1.heap.size:=q1.size;clear jf XM hc q1 CT;go_wp2_with fail;go_loopw [5,7] (fun ov i wr=>∃(k:Nat) (o:List Int),k≤l.length∧i=.int .i64 (k:Nat)∧o.length≤k∧Hid (o=MS l t k)∧Hid (wr.ownsRow w1.heap.size 3 1 ov o.length (kH o))∧Hid (Q w1 wr)) (fun _ i _=>l.length-(intOf i).toNat)
 case atStart=>exact⟨0,[],by omega,rfl,by simp,rfl,World.ownsRow_nil _ _ _ _,Q.refl _⟩
 case round =>
  obtain⟨k,o,hk,rfl,sD,xg,HO,HQ⟩:=hrel;obtain⟨wo,rfl⟩:∃wo:World,wo=wr:=⟨_,rfl⟩;by_cases hlt:k<l.length
  ·obtain⟨b,of,rfl,bC⟩:=HC.out (by omega)
   obtain⟨z0,z1⟩:=bC k hlt;have c0:=ah HQ.out z0;have c1:=ah HQ.out z1;have ql:(k:Int)<(l.length:Int):=by omega
   have gY:(0:Int)≤(k:Int):=by omega
   have uw:=afx l t k hlt;rw[←xg.out] at uw;have aY:w1.heap.size≤wo.heap.size:=HQ.out.size;clear z0 z1 bC;generalize l[k]=x at *;obtain⟨u,p⟩:=x;simp only at c0 c1 uw;by_cases he:u=t
   ·rw[if_pos he] at uw
    have GX:=Hd uw;clear uw;subst he;have ho:=HO.out;go_wp2_with (at_builtin;go_must (refine cZ wo (by rfl) _ _ 199 (by rfl) w1.heap.size 3 _ i0 (.int .i64 0) 1 8 Tryz.underlying199 hi fJ eU fD rfl (by decide) (by decide) _ _ _ (by rfl) ho #[.int .i64 (p:Nat)] (by simp[Act.eval]) rfl ?c1 ?c2 aY ?_))
    case c1=>simp[Value.oneCell']
    case c2=>omega
    intro g6 cap6 w6 aW dB iL uz tq;have q6:Q w1 w6:=aL HQ.out ho dB (Nat.le_refl _) (by omega)
    have aW:w6.ownsRow w1.heap.size 3 1 (.slice (some ⟨g6,0,none⟩) (o.length+1) cap6) (o.length+1) (kH (o++[(p:Int)])):=by simpa[kH] using aW
    have rH:=Hd aW;have fQ:=Hd q6;clear aW q6 dB iL ho;go_wp2_with fail;go_roundw;case rel=>exact⟨k+1,o++[(p:Int)],by omega,by go_num,by simp;omega,GX.out.symm,by show World.ownsRow _ _ _ _ _ _ _;simpa using rH.out,fQ⟩
    case measure=>simp[intOf];omega
   ·rw[if_neg he,List.append_nil] at uw
    have zI:(u==t)=false:=by simpa using he
    have zJ:@BEq.beq (List UInt8) instBEqOfDecidableEq u t=false:=by simpa using he
    have zK:@BEq.beq (List UInt8) List.instBEq u t=false:=by simpa using he
    have GX:=Hd uw;clear he uw;go_wp2_with fail;go_roundw;case rel=>exact⟨k+1,o,by omega,by go_num,by omega,GX.out.symm,HO,HQ⟩
    case measure=>simp[intOf];omega
  ·have cO:k=l.length:=by omega
   subst cO;have Db:=xg.out;go_wp2_with fail;go_ret;exact⟨_,rfl,by rw[←xg.out];exact dO HO.out l9,aC.out.trans HQ.out⟩
theorem aij(t:Bytes)(a:List au)(d:au)(i:Nat):bf t (a++[d]) i=bf t a i++if placesIn d.2 t=[] then [] else [(((i+a.length:Nat):Int),placesIn d.2 t)]:=by
 induction a generalizing i with
 | nil=>simp[bf]
 | cons x a ih =>
  rw[List.cons_append,bf,bf,ih (i+1),List.length_cons,show i+1+a.length=i+(a.length+1) by omega]
  split<;>simp
theorem afz(t:Bytes)(l:List au)(k:Nat)(h:k<l.length):bf t (l.take (k+1)) 0=bf t (l.take k) 0++if placesIn l[k].2 t=[] then [] else [((k:Int),placesIn l[k].2 t)]:=by
 rw[List.take_succ_eq_append_getElem h,aij,List.length_take,Nat.min_eq_left (by omega),Nat.zero_add]
theorem aaS(v:Value)(l:List au)(t:Bytes)(w:World)(hv:Docs w v l)(hn:l.length≤1000000)(hl:∀d∈l,d.2.length≤100000000):
  Calls Tryz.prog 84 #[v,ak t] w fun e w'=>∃v',e=.returned v'∧Told w' w.heap.size v' (bf t l 0)∧Q w w':=by
 obtain⟨a,cap,rfl,aJ⟩:=hv.value;obtain⟨i0,hi,fJ,eU,fD⟩:=info_parts tinfoPo;have HC:=Hd aJ;have HL:=Hd hl;clear aJ hv hl;go_enter Tryz.func84,Tryz.ntmps84;go_wp2_with fail;go_loopw [5,6,7] (fun ov i _ wr=>∃(k:Nat) (rs:List aR),k≤l.length∧i=.int .i64 (k:Nat)∧rs.length≤k∧Hid (aK rs=bf t (l.take k) 0)∧Hid (wr.ownsRow w.heap.size 201 2 ov rs.length (fH rs))∧Hid (∀r∈rs,wr.ownsRow w.heap.size 3 1 r.2.1 r.2.2.length (kH r.2.2))∧Hid (Q w wr)) (fun _ i _ _=>l.length-(intOf i).toNat)
 case atStart=>exact⟨0,[],by omega,rfl,by simp,rfl,World.ownsRow_nil _ _ _ _,fun r hr=>by simp at hr,Q.refl _⟩
 case round =>
  obtain⟨k,rs,hk,rfl,BI,Xb,HO,HR,HQ⟩:=hrel;obtain⟨wo,rfl⟩:∃wo:World,wo=wr:=⟨_,rfl⟩;by_cases hlt:k<l.length
  ·obtain⟨b,of,rfl,bC⟩:=HC.out (by omega)
   have c1:=ah HQ.out (bC k hlt).2;have ql:(k:Int)<(l.length:Int):=by omega
   have gY:(0:Int)≤(k:Int):=by omega
   have aI:=afz t l k hlt;rw[←Xb.out] at aI;have rE:=HL.out _ (List.getElem_mem hlt);have cp:=fun W=>afy l[k].2 t W (by omega)
   have sS:(placesIn l[k].2 t).length≤1000000000:=by
    have h1:(placesIn l[k].2 t).length≤(aA l[k].2).length:=List.length_filterMap_le _ _;have h2:=sK (bT l[k].2) 0;have h3:=(uJ l[k].2).1;unfold aA at h1;omega
   clear bC;generalize placesIn l[k].2 t=ps at *;generalize l[k].2=x at *;have CP:=Hd cp;have bJ:=Hd aI;clear cp aI;go_wp2_with fail;refine(CP.out _).mono ?_;rintro e w1 ⟨v1,rfl,jf,q1⟩;obtain⟨pa,jc,rfl,_⟩:=aT jf;have xw:=dO jf HQ.out.size;have jI:=ownsRow_below HO.out q1;have jG:∀r∈rs,w1.ownsRow w.heap.size 3 1 r.2.1 r.2.2.length (kH r.2.2):=fun r hr=>ownsRow_below (HR.out r hr) q1
   have aC:=Hd (HQ.out.trans q1);have Pk:=Hd xw;have BK:=Hd jG;have aY:w.heap.size≤w1.heap.size:=aC.out.size;clear jf xw jG q1 CP HQ HO HR;by_cases oP:ps=[]
   ·have aI:=bJ.out
    rw[if_pos oP,List.append_nil] at aI;have Bj:=Hd aI;have rF:=Hd jI;have Em:¬(0:Int)<(ps.length:Int):=by rw[oP];simp
    clear aI oP jI;go_wp2_with fail;go_roundw;case rel=>exact⟨k+1,rs,by omega,by go_num,by omega,Bj.out.symm,rF,BK,aC⟩
    case measure=>simp[intOf];omega
   ·have aI:=bJ.out
    rw[if_neg oP] at aI;have FN:aK (rs++[((k:Int),Value.slice pa ps.length jc,ps)])=bf t (l.take (k+1)) 0:=by rw[aI];simp[aK,postOf]
    have Bj:=Hd FN;have Em:(0:Int)<(ps.length:Int):=by have:=List.length_pos_iff.2 oP;omega
    clear aI FN oP;go_wp2_with (at_builtin;go_must (refine cZ w1 (by rfl) _ _ 157 (by rfl) w.heap.size 201 _ i0 (.agg #[.int .i64 0,.slice none 0 0]) 2 32 Tryz.underlying157 hi fJ eU fD rfl (by decide) (by decide) _ _ _ (by rfl) jI #[.int .i64 (k:Nat),.slice pa ps.length jc] (by simp[Act.eval]) rfl ?c1 ?c2 aY ?_))
    case c1=>simp[Value.oneCell']
    case c2=>omega
    intro g6 cap6 w6 aW dB iL uz tq;have q6:Q w w6:=aL aC.out jI dB (Nat.le_refl _) (by omega)
    have r6:∀r∈rs++[((k:Int),Value.slice pa ps.length jc,ps)],w6.ownsRow w.heap.size 3 1 r.2.1 r.2.2.length (kH r.2.2):=fun r hr=>by
     rcases List.mem_append.1 hr with hr|hr
     ·exact iW (BK.out r hr) jI dB (by decide)
     ·rw[List.mem_singleton] at hr
      subst hr;exact iW Pk.out jI dB (by decide)
    have aW:w6.ownsRow w.heap.size 201 2 (.slice (some ⟨g6,0,none⟩) (rs.length+1) cap6) (rs.length+1) (fH (rs++[((k:Int),Value.slice pa ps.length jc,ps)])):=by
     have e:fH (rs++[((k:Int),Value.slice pa ps.length jc,ps)])=fH rs++[.int .i64 (k:Int),.slice pa ps.length jc]:=by simp[fH]
     rw[e];simpa using aW
    have rH:=Hd aW;have fQ:=Hd q6;have QX:=Hd r6;clear aW q6 dB iL jI r6;go_wp2_with fail;go_roundw;case rel=>exact⟨k+1,rs++[((k:Int),Value.slice pa ps.length jc,ps)],by omega,by go_num,by simp;omega,Bj.out,by show World.ownsRow _ _ _ _ _ _ _;rw[List.length_append];exact rH.out,QX,fQ⟩
    case measure=>simp[intOf];omega
  ·have cO:k=l.length:=by omega
   subst cO;go_wp2_with fail;go_ret;exact⟨_,rfl,⟨rs,by rw[Xb.out,List.take_length],HO.out,HR.out⟩,HQ.out⟩
theorem acz(v:Value)(l:List au)(w:World)(hv:Docs w v l)(hn:l.length≤1000)(hl:∀d∈l,d.2.length≤2100):
  Calls Tryz.prog 82 #[v] w fun e w'=>∃v',e=.returned v'∧w'.ownsRow w.heap.size 9 1 v' (dK l).length (lu (dK l))∧Q w w':=by
 obtain⟨a,cap,rfl,aJ⟩:=hv.value;have yJ:=allL_len l hl;have HC:=Hd aJ;have HL:=Hd hl;clear aJ hv hl;go_enter Tryz.func82,Tryz.ntmps82;go_wp2_with fail;go_loopw [3,4] (fun sv i wr=>∃(k:Nat) (s:Bytes),k≤l.length∧i=.int .i64 (k:Nat)∧sv=ak s∧s.length≤2101*k∧Hid (s=eD (l.take k))∧Hid (Q w wr)) (fun _ i _=>l.length-(intOf i).toNat)
 case atStart=>exact⟨0,[],by omega,rfl,rfl,by simp,rfl,Q.refl _⟩
 case round =>
  obtain⟨k,s,hk,rfl,rfl,bY,HS,HQ⟩:=hrel;obtain⟨wo,rfl⟩:∃wo:World,wo=wr:=⟨_,rfl⟩;by_cases hlt:k<l.length
  ·obtain⟨b,of,rfl,bC⟩:=HC.out (by omega)
   have c1:=ah HQ.out (bC k hlt).2;have ql:(k:Int)<(l.length:Int):=by omega
   have gY:(0:Int)≤(k:Int):=by omega
   have aI:=allL_take l k hlt;rw[←HS.out] at aI;have rE:=HL.out _ (List.getElem_mem hlt);clear bC;generalize l[k].2=x at *;have bJ:=Hd aI;have mY:s.length+x.length≤9223372036854775807:=by omega
   have axD:s.length+x.length+1≤9223372036854775807:=by omega
   clear aI;go_wp2_with fail;go_roundw;case rel=>exact⟨k+1,s++(x++[32]),by omega,by go_num,str_cat (a:=s++x) (b:=[32]) (by rw[bytes_append];exact bytes_append _ _) (by simp),by simp;omega,bJ.out.symm,HQ⟩
   case measure=>simp[intOf];omega
  ·have cO:k=l.length:=by omega
   subst cO;have hs:=HS.out;rw[List.take_length] at hs;have ct:=aic s wo (by omega)
   rw[hs,ah9,←hs] at ct;have CT:=Hd ct;clear ct hs;go_wp2_with fail;refine CT.out.mono ?_;rintro e w1 ⟨v1,rfl,jf,q1⟩;have jH:=Hd (dO jf HQ.out.size);have aC:=Hd (HQ.out.trans q1);clear jf q1;go_wp2_with fail;go_ret;exact⟨_,rfl,jH.out,aC.out⟩
theorem Qd(x:Int)(n:Nat)(hx:x=(n:Int))(hn:n<9223372036854775808)(w:World):
  Calls Tryz.prog 167 #[.int .i64 x] w fun e w'=>e=.returned (ak (bI n))∧Q w w':=by
 subst hx;have c:=fun W=>Jt n W (by omega)
 have C:=Hd c;have hw:IntKind.u64.wrap (n:Int)=n:=IntWalk.u64_in _ (by omega)
 clear c;go_enter Tryz.func167,Tryz.ntmps167;go_wp2_with fail;refine(C.out _).mono ?_;rintro e w1 ⟨rfl,q1⟩;have aC:=Hd q1;clear q1 C;go_wp2_with fail;go_ret;exact⟨rfl,aC.out⟩
theorem afA(a b:Bytes)(w:World)(ha:a.length≤9223372036854775807)(hb:b.length≤9223372036854775807):
  Calls Tryz.prog 189 #[.string ⟨a.toArray⟩,.string ⟨b.toArray⟩] w fun e w'=>e=.returned (.int .i64 (dW a b))∧Q w w':=by
 go_enter Tryz.func189,Tryz.ntmps189;go_wp2_with fail;go_loopw [5] (fun i wr=>∃k:Nat,i=.int .i64 k∧k≤a.length∧k≤b.length∧Hid (dW a b=k+dW (a.drop k) (b.drop k))∧Hid (Q w wr)) (fun i _=>a.length-(intOf i).toNat)
 case atStart=>exact⟨0,rfl,by omega,by omega,by show _=_;simp,Q.refl w⟩
 case round =>
  obtain⟨k,rfl,FE,Ih,HA,HQ⟩:=hrel;by_cases hlt:k<a.length∧k<b.length
  ·obtain⟨h1,h2⟩:=hlt
   have hs:=VF a b k h1 h2;have he:=byte_eq a b k h1 h2;have HS:=Hd hs;clear hs;by_cases Az:a[k]=b[k]
   ·rw[decide_eq_true Az] at he
    have qy:=Hd Az;clear Az;by_cases Jv:b.length<a.length;all_goals
     go_wp2_with fail;go_quiet (fail);go_wp2_with fail;go_roundw;case rel=>exact⟨k+1,by go_num,by omega,by omega,by show _=_;rw[HA.out,HS.out,if_pos qy.out];omega,HQ.out.trans (Q.drewN _ _)⟩
     case measure=>simp[intOf];omega
   ·rw[decide_eq_false Az] at he
    have qy:=Hd Az;clear Az;by_cases Jv:b.length<a.length;all_goals
     go_wp2_with fail;go_quiet (fail);go_wp2_with fail;go_ret;exact⟨gV (by rw[HA.out,HS.out,if_neg qy.out];omega),HQ.out.trans (Q.drewN _ _)⟩
  ·have hs:=VG a b k hlt
   have HS:=Hd hs;clear hs;by_cases Jv:k<a.length
   ·have hk:decide (k<b.length)=false:=decide_eq_false (by omega)
    clear hlt;go_wp2_with fail;go_quiet (fail);go_wp2_with fail;go_ret;exact⟨gV (by rw[HA.out,HS.out];omega),HQ.out.trans (Q.drewN _ _)⟩
   ·have hk:decide (k<a.length)=false:=decide_eq_false (by omega)
    clear hlt;go_wp2_with fail;go_quiet (fail);go_wp2_with fail;go_ret;exact⟨gV (by rw[HA.out,HS.out];omega),HQ.out.trans (Q.drewN _ _)⟩
theorem ZA(last:Bytes)(l:List aN)(h:dw last l=true)(k:Nat)(hk:k<l.length):bU (if k=0 then last else(l.getD (k-1) ([],[])).1) l[k].1=true∧l[k].1.length≤40∧l[k].2.length≤4194304:=by
 induction l generalizing last k with
 | nil=>simp at hk
 | cons x l ih =>
  simp only[dw,Bool.and_eq_true,decide_eq_true_eq] at h;obtain⟨⟨⟨h1,h2⟩,h3⟩,h4⟩:=h;cases k with
  | zero=>exact⟨by simpa using h1,by simpa using h2,by simpa using h3⟩
  | succ k =>
   have:=ih x.1 h4 k (by simpa using hk)
   cases k with
   | zero=>simpa using this
   | succ k=>simpa using this
theorem lessL_pos(a b:Bytes)(h:bU a b=true):1≤b.length:=by
 cases b with
 | nil=>cases a<;>simp[bU] at h
 | cons x b=>simp
theorem aik(v:Value)(l:List aN)(w:World)(hv:Pairs w v l)(hn:l.length≤1048576)(hr:dw [] l=true):
  Calls Tryz.prog 131 #[v] w fun e w'=>e=.returned (.bool true)∧Q w w':=by
 obtain⟨a,cap,rfl,aJ⟩:=hv.value;have HC:=Hd aJ;have HR:=Hd hr;clear aJ hv hr;go_enter Tryz.func131,Tryz.ntmps131;go_wp2_with fail;go_loopw [3,4] (fun i _ wr=>∃k:Nat,k≤l.length∧i=.int .i64 (k:Nat)∧Hid (Q w wr)) (fun i _ _=>l.length-(intOf i).toNat)
 case atStart=>exact⟨0,by omega,rfl,Q.refl _⟩
 case round =>
  obtain⟨k,hk,rfl,HQ⟩:=hrel;obtain⟨wo,rfl⟩:∃wo:World,wo=wr:=⟨_,rfl⟩;by_cases hlt:k<l.length
  ·obtain⟨bb,o,rfl,hc⟩:=HC.out (by omega)
   have c0:=ah HQ.out (hc k hlt).1;have c1:=ah HQ.out (hc k hlt).2;obtain⟨r1,r2,r3⟩:=ZA _ _ HR.out k hlt;have r4:=lessL_pos _ _ r1;have ql:(k:Int)<(l.length:Int):=by omega
   have gY:(0:Int)≤(k:Int):=by omega
   by_cases hz:k=0
   ·have fD:¬0<k:=by omega
    have hz3:¬(0:Int)<(k:Int):=by omega
    have rz:decide (0<k)=false:=by simp;omega
    clear hc hz r1;generalize l[k]=x at *;obtain⟨t,u⟩:=x;simp only at c0 c1 r2 r3 r4;have h1:decide ((t.length:Int)<1)=false:=decide_eq_false (by omega)
    have h2:decide ((40:Int)<(t.length:Int))=false:=decide_eq_false (by omega)
    have h3:decide ((4194304:Int)<(u.length:Int))=false:=decide_eq_false (by omega)
    have h5:decide (t.length<1)=false:=decide_eq_false (by omega)
    have h6:decide (40<t.length)=false:=decide_eq_false (by omega)
    have h7:decide (4194304<u.length)=false:=decide_eq_false (by omega)
    go_wp2_with fail;go_quiet (fail);go_wp2_with fail;go_roundw;case rel=>exact⟨k+1,by omega,by go_num,HQ.out.trans (Q.drewN _ _)⟩
    case measure=>simp[intOf];omega
   ·have d0:=ah HQ.out (hc (k-1) (by omega)).1
    rw[if_neg hz] at r1;have e1:(l.getD (k-1) ([],[])).1=l[k-1].1:=by rw[List.getD_eq_getElem?_getD,List.getElem?_eq_getElem (by omega)];rfl
    rw[e1] at r1;have vO:(0:Int)<(k:Int):=by omega
    have mP:0<k:=by omega
    have jO:decide (0<k)=true:=by simp;omega
    have jL:(k:Int)-1=((k-1:Nat):Int):=by omega
    have xH:((k-1:Nat):Int)<(l.length:Int):=by omega
    clear hc e1 hz;generalize l[k-1]=y at *;generalize l[k]=x at *;obtain⟨t,u⟩:=x;obtain⟨t',u'⟩:=y;simp only at c0 c1 r1 r2 r3 r4 d0;obtain⟨g1,g2⟩:=JV _ _ r1;have hb:Op.bytesLess t t'=false:=by rw[ou];exact g1
    have aO:Op.bytesLess t' t=true:=by rw[ou];exact r1
    have he:(t==t')=false:=by simpa using g2
    have h1:decide ((t.length:Int)<1)=false:=decide_eq_false (by omega)
    have h2:decide ((40:Int)<(t.length:Int))=false:=decide_eq_false (by omega)
    have h3:decide ((4194304:Int)<(u.length:Int))=false:=decide_eq_false (by omega)
    have h5:decide (t.length<1)=false:=decide_eq_false (by omega)
    have h6:decide (40<t.length)=false:=decide_eq_false (by omega)
    have h7:decide (4194304<u.length)=false:=decide_eq_false (by omega)
    generalize k-1=k1 at *;clear g1 g2 r1;go_wp2_with fail;go_quiet (fail);go_wp2_with fail;go_roundw;case rel=>exact⟨k+1,by omega,by go_num,HQ.out.trans (Q.drewN _ _)⟩
    case measure=>simp[intOf];omega
  ·have cO:k=l.length:=by omega
   subst cO;have rD:(l.length:Int)≤1048576:=by omega
   go_wp2_with fail;go_ret;exact⟨rfl,HQ.out⟩
theorem MV(a b:Bytes)(h:a.length+b.length≤9223372036854775807)(W:World):(Op.stringOp .add ⟨a.toArray⟩ ⟨b.toArray⟩).run Tryz.prog W=.ok (ak (a++b)) W:=by
 rw[run_string_add_sum W _ _ (by simpa[ByteArray.size] using h),bytes_append]
theorem afB(v:Value)(g:List aN)(w:World)(hv:Pairs w v g)(hn:g.length≤16)(hg:Small g):
  Calls Tryz.prog 166 #[v] w fun e w'=>e=.returned (ak (dU [] g))∧Q w w':=by
 obtain⟨a,cap,rfl,aJ⟩:=hv.value;have HC:=Hd aJ;have HG:=Hd hg;clear aJ hv hg;have pz:Tryz.prog.follows .mixedOrders=true:=by kernel_rfl
 go_enter Tryz.func166,Tryz.ntmps166;go_wp2_with fail;go_loopw [3,4,5] (fun sv i _ wr=>∃(k:Nat) (s:Bytes),k≤g.length∧i=.int .i64 (k:Nat)∧sv=ak s∧s.length≤k*4194400∧Hid (s=dU [] (g.take k))∧Hid (Q w wr)) (fun _ i _ _=>g.length-(intOf i).toNat)
 case atStart=>exact⟨0,[],by omega,rfl,rfl,by simp,rfl,Q.refl _⟩
 case round =>
  obtain⟨k,s,hk,rfl,rfl,bY,HS,HQ⟩:=hrel;obtain⟨wo,rfl⟩:∃wo:World,wo=wr:=⟨_,rfl⟩;by_cases hlt:k<g.length
  ·obtain⟨bb,o,rfl,hc⟩:=HC.out (by omega)
   have z0:=(hc k hlt).1;have z1:=(hc k hlt).2;obtain⟨r1,r2⟩:=HG.out _ (List.getElem_mem hlt);have ql:(k:Int)<(g.length:Int):=by omega
   have gY:(0:Int)≤(k:Int):=by omega
   have zf:=TD g k hlt;have yJ:=(Y6 (pX g k) g[k].1).1;have I4:k≠0→pX g k=(g[k-1]'(by omega)).1:=fun h=>by
    unfold pX;rw[if_neg h,List.getD_eq_getElem?_getD,List.getElem?_eq_getElem (by omega)];rfl
   have adX:k=0→pX g k=[]:=fun h=>by unfold pX;rw[if_pos h]
   have ajj:k≠0→w.cell? ⟨bb,o+(k-1)*2,none⟩=some (ak (g[k-1]'(by omega)).1):=fun h=>(hc (k-1) (by omega)).1
   have gQ:k≠0→(g[k-1]'(by omega)).1.length≤40:=fun h=>(HG.out _ (List.getElem_mem (by omega))).1
   clear hc;generalize g[k]=x at *;obtain⟨t,u⟩:=x;simp only at z0 z1 r1 r2 zf yJ;rw[←HS.out] at zf;generalize Gw:pX g k=la at *;have Ij:dW [] t=0:=by cases t<;>rfl
   obtain⟨n,qG⟩:∃n,n=dW la t:=⟨_,rfl⟩;rw[←qG] at zf yJ;have xJ:=iV t n;have jZ:=eP n;have jB:=iF (t.drop n);have lC:=iF u;have Bu:(t.drop n).length≤t.length:=by rw[List.length_drop];omega
   have c1:=fun W=>Qd (n:Int) n rfl (by omega) W
   have c2:=fun W=>Gu (t.drop n) W (by omega)
   have c3:=fun W=>Gu u W (by omega)
   generalize uV:bI n=v1 at *;generalize wX:aM (t.drop n)=v2 at *;generalize Nw:aM u=v3 at *;obtain⟨s1,es1⟩:∃s1,s1=s++v1:=⟨_,rfl⟩;obtain⟨s2,es2⟩:∃s2,s2=s1++v2:=⟨_,rfl⟩;obtain⟨s3,es3⟩:∃s3,s3=s2++v3:=⟨_,rfl⟩;have l1:s1.length=s.length+v1.length:=by rw[es1,List.length_append]
   have l2:s2.length=s1.length+v2.length:=by rw[es2,List.length_append]
   have l3:s3.length=s2.length+v3.length:=by rw[es3,List.length_append]
   have dN:=MV s v1 (by omega)
   have kE:=MV s1 v2 (by omega)
   have kP:=MV s2 v3 (by omega)
   rw[←es1] at dN;rw[←es2] at kE;rw[←es3] at kP;have kU:s3=dU [] (g.take (k+1)):=by rw[zf,es3,es2,es1];simp
   have aD:s3.length≤(k+1)*4194400:=by omega
   clear es1 es2 es3 l1 l2 l3;generalize alJ:t.drop n=td at *;have yx:=Hd kU;have Ic:=Hd aD;have C1:=Hd c1;have C2:=Hd c2;have C3:=Hd c3;have HN:=Hd qG;have Z0:=Hd z0;have Z1:=Hd z1;clear kU aD c1 c2 c3 zf uV wX Nw qG z0 z1;have qC:(0:Int)≤(n:Int):=by omega
   have rD:(n:Int)≤(t.length:Int):=by omega
   by_cases hz:k=0
   ·subst hz
    have h0:=adX rfl;rw[h0] at HN;have hnz:n=0:=by rw[HN.out,Ij]
    have hdz:td=t:=by rw[←alJ,hnz];rfl
    subst hnz;subst hdz;have C1:Hid (∀W:World,Calls Tryz.prog 167 #[.int .i64 0] W fun e w'=>e=.returned (ak v1)∧Q W w'):=C1.out
    have d0:=ah HQ.out Z0.out;have d1:=ah HQ.out Z1.out;simp only[Nat.zero_mul,Nat.add_zero] at d0 d1 Z0 Z1;have KK:=HQ;clear I4 adX ajj gQ h0 Gw Ij alJ;go_wp2_with fail;go_region_held3 (fun w'=>w'.cell? ⟨bb,o,none⟩=some (ak td)∧w'.cell? ⟨bb,o+1,none⟩=some (ak u)) (first|exact⟨d0,d1⟩|exact⟨ah (Q.drew _) d0,ah (Q.drew _) d1⟩|exact⟨ah KK.out Z0.out,ah KK.out Z1.out⟩|exact⟨ah (KK.out.trans (Q.drew _)) Z0.out,ah (KK.out.trans (Q.drew _)) Z1.out⟩)
     (first
      | (go_at_call 167;((with_reducible refine(C1.out _).mono ?_);rintro e w' ⟨rfl,q⟩);have s':Q w w':=Q.trans (by first|exact KK.out|exact KK.out.trans (Q.drew _)) q;clear KK;have KK:=Hd s';clear s' q)
      | (go_at_call 81;((with_reducible refine(C2.out _).mono ?_);rintro e w' ⟨rfl,q⟩);have s':Q w w':=Q.trans (by first|exact KK.out|exact KK.out.trans (Q.drew _)) q;clear KK;have KK:=Hd s';clear s' q)
      | (go_at_call 81;((with_reducible refine(C3.out _).mono ?_);rintro e w' ⟨rfl,q⟩);have s':Q w w':=Q.trans (by first|exact KK.out|exact KK.out.trans (Q.drew _)) q;clear KK;have KK:=Hd s';clear s' q))
    all_goals
     clear d0 d1;go_wp2_with fail;go_roundw;case rel=>exact⟨0+1,s3,by omega,by go_num,rfl,Ic.out,yx,KK⟩
     case measure=>simp[intOf];omega
   ·have ha:=I4 hz
    have p0:=ah HQ.out (ajj hz);have c0:=ah HQ.out Z0.out;have c1:=ah HQ.out Z1.out;have aub:=gQ hz;rw[←ha] at p0 aub;have cal:=fun W=>afA la t W (by omega) (by omega)
    rw[←HN.out] at cal;have CAL:=Hd cal;have vO:(k:Int)-1=((k-1:Nat):Int):=by omega
    have mP:((k-1:Nat):Int)<(g.length:Int):=by omega
    have jO:(0:Int)<(k:Int):=by omega
    have Eo:IntKind.i64.wrap ((k-1:Nat):Int)=((k-1:Nat):Int):=IntWalk.i64_in _ (by omega)
    have vZ:(0:Int)≤((k-1:Nat):Int):=by omega
    clear I4 adX ajj gQ ha hz Gw cal Ij alJ;generalize k-1=k1 at *;have KK:=HQ;go_wp2_with fail;go_region_held3 (fun w'=>w'.cell? ⟨bb,o+k1*2,none⟩=some (ak la)∧w'.cell? ⟨bb,o+k*2,none⟩=some (ak t)) (first|exact⟨p0,c0⟩|exact⟨ah (Q.drew _) p0,ah (Q.drew _) c0⟩|exact⟨P0.out,C0.out⟩)
     (first
      | (go_at_call 189;((with_reducible refine(CAL.out _).mono ?_);rintro e w' ⟨rfl,q⟩);have s':Q w w':=Q.trans (by first|exact KK.out|exact KK.out.trans (Q.drew _)) q;have p0':=(by first|exact ah q p0|exact ah (Q.trans (Q.drew _) q) p0);have c0':=(by first|exact ah q c0|exact ah (Q.trans (Q.drew _) q) c0);have P0:=Hd p0';have C0:=Hd c0';clear KK;have KK:=Hd s';clear s' q p0' c0'))
    all_goals
     clear p0 c0 c1 P0 C0;have d0:=ah KK.out Z0.out;have d1:=ah KK.out Z1.out;go_wp2_with fail;go_region_held3 (fun w'=>w'.cell? ⟨bb,o+k*2,none⟩=some (ak t)∧w'.cell? ⟨bb,o+k*2+1,none⟩=some (ak u)) (first|exact⟨d0,d1⟩|exact⟨ah (Q.drew _) d0,ah (Q.drew _) d1⟩|exact⟨ah KK.out Z0.out,ah KK.out Z1.out⟩|exact⟨ah (KK.out.trans (Q.drew _)) Z0.out,ah (KK.out.trans (Q.drew _)) Z1.out⟩)
      (first
       | (go_at_call 167;((with_reducible refine(C1.out _).mono ?_);rintro e w' ⟨rfl,q⟩);have s':Q w w':=Q.trans (by first|exact KK.out|exact KK.out.trans (Q.drew _)) q;clear KK;have KK:=Hd s';clear s' q)
       | (go_at_call 81;((with_reducible refine(C2.out _).mono ?_);rintro e w' ⟨rfl,q⟩);have s':Q w w':=Q.trans (by first|exact KK.out|exact KK.out.trans (Q.drew _)) q;clear KK;have KK:=Hd s';clear s' q)
       | (go_at_call 81;((with_reducible refine(C3.out _).mono ?_);rintro e w' ⟨rfl,q⟩);have s':Q w w':=Q.trans (by first|exact KK.out|exact KK.out.trans (Q.drew _)) q;clear KK;have KK:=Hd s';clear s' q))
     all_goals
      clear d0 d1;go_wp2_with fail;go_roundw;case rel=>exact⟨k+1,s3,by omega,by go_num,rfl,Ic.out,yx,KK⟩
      case measure=>simp[intOf];omega
  ·have cO:k=g.length:=by omega
   subst cO;go_wp2_with fail;go_ret;exact⟨by rw[HS.out,List.take_length];rfl,HQ.out⟩
theorem TP(l:List aN)(k:Nat):(dV l).take (k*2)=dV (l.take k):=by
 induction l generalizing k with
 | nil=>simp[dV]
 | cons x l ih =>
  cases k with
  | zero=>simp[dV]
  | succ k =>
   have e:∀m:List aN,dV (x::m)=ak x.1::ak x.2::dV m:=fun m=>by simp[dV]
   rw[List.take_succ_cons,e,e,show(k+1)*2=k*2+1+1 by omega,List.take_succ_cons,List.take_succ_cons,ih]
theorem TQ(l:List aN)(k:Nat):(dV l).drop (k*2)=dV (l.drop k):=by
 induction l generalizing k with
 | nil=>simp[dV]
 | cons x l ih =>
  cases k with
  | zero=>simp
  | succ k =>
   have e:∀m:List aN,dV (x::m)=ak x.1::ak x.2::dV m:=fun m=>by simp[dV]
   rw[List.drop_succ_cons,e,show(k+1)*2=k*2+1+1 by omega,List.drop_succ_cons,List.drop_succ_cons,ih]
def idxR(l:List aN)(m:Nat):Bytes:=(List.range m).flatMap fun i=>aM ((iE l i).headD ([],[])).1++bI (dU [] (iE l i)).length
theorem idxTo_R(l:List aN)(m:Nat):wC l m=bI l.length++idxR l m:=rfl
theorem idxR_succ(l:List aN)(m:Nat):idxR l (m+1)=idxR l m++(aM ((iE l m).headD ([],[])).1++bI (dU [] (iE l m)).length):=by
 simp[idxR,List.range_succ]
theorem ail(v:Value)(l:List aN)(w:World)(hv:Pairs w v l)(hn:l.length≤1048576)(hl:Small l)(zT:∀a n c,v=.slice a n c→n≤c∧c≤9223372036854775807):
  Calls Tryz.prog 132 #[v] w fun e w'=>e=.returned (ak (kV l))∧Q w w':=by
 have pG:=hv;obtain⟨a,cap,rfl,aJ⟩:=hv.value;obtain⟨gX,dM⟩:=zT _ _ _ rfl;have HC:=Hd aJ;have HL:=Hd hl;have HV:=Hd pG;clear aJ hv hl pG zT;have pz:Tryz.prog.follows .mixedOrders=true:=by kernel_rfl
 go_enter Tryz.func132,Tryz.ntmps132;go_wp2_with fail;go_loopw [3,4,5,6] (fun xv av iv _ wr=>∃(m i:Nat) (s t:Bytes),iv=.int .i64 (i:Int)∧xv=ak s∧av=ak t∧i≤l.length+15∧s.length≤1000000000∧t.length≤100000000000000∧Hid (i=16*m)∧Hid (m=0∨16*(m-1)<l.length)∧Hid (s=idxR l m)∧Hid (t=wE l m)∧Hid (Q w wr)) (fun _ _ i _ _=>l.length+16-(intOf i).toNat)
 case atStart=>exact⟨0,0,[],[],rfl,rfl,rfl,by omega,by simp,by simp,rfl,.inl rfl,rfl,rfl,Q.refl _⟩
 case round =>
  obtain⟨m,i,s,t,rfl,rfl,rfl,Pp,Lj,nE,HI,HM,HS,HT,HQ⟩:=hrel;obtain⟨wo,rfl⟩:∃wo:World,wo=wr:=⟨_,rfl⟩;by_cases hlt:i<l.length
  ·have hg:=LM l m
   have AA:(l.take (min l.length (i+16))).drop i=iE l m:=by
    unfold iE;rw[←HI.out,List.drop_take];by_cases h:i+16≤l.length
    ·rw[Nat.min_eq_right h,show i+16-i=16 by omega]
    ·rw[Nat.min_eq_left (by omega),List.take_of_length_le (by rw[List.length_drop];omega),List.take_of_length_le (by rw[List.length_drop];omega)]
   have FT:=fun W (q:Q w W) (hi1:i≤min l.length (i+16)) (mD:min l.length (i+16)≤l.length)=>Sl.cut (size:=2) (Pairs.stays HV.out q) i (min l.length (i+16)) hi1 mD gX
   rw[TP,TQ,AA,if_neg (by omega:¬cap=i)] at FT
   have ana:((iE l m).headD ([],[])).1=l[i].1:=by
    have hh:(iE l m)[0]?=some l[i]:=by
     unfold iE;rw[List.getElem?_take,if_pos (by omega),List.getElem?_drop,←HI.out,Nat.add_zero,List.getElem?_eq_getElem hlt]
    cases Nh:iE l m with
    | nil=>rw[Nh] at hh;cases hh
    | cons y ys=>rw[Nh] at hh;injection hh with hh;rw[hh];rfl
   have um:=idxR_succ l m;have QK:=N7 l m;rw[ana,←HS.out] at um;rw[←HT.out] at QK;have bY:=Kq HL.out (m+1);rw[idxTo_R,List.length_append,um] at bY;have vg:=Kr HL.out (m+1);rw[QK] at vg;have yK:=HI.out;have oQ:=IE (sG HL.out m) [];have lT:=sG HL.out m;rw[hg,←HI.out] at oQ;rw[←HI.out] at hg;have KN:(0:Int)≤(i:Int):=by omega
   have uj:(i:Int)<(l.length:Int):=by omega
   obtain⟨mD,KQ⟩:∃h,h=min l.length (i+16):=⟨_,rfl⟩;rw[←KQ] at FT;have Vf:min (l.length:Int) ((i:Int)+16)=(mD:Int):=by omega
   have dS:i≤mD:=by omega
   have aO:mD≤l.length:=by omega
   have anb:(iE l m).length=mD-i:=by omega
   have Un:∀W,Q w W→Pairs W (.slice (Option.map (fun x=>x.add (i*2)) a) (mD-i) (cap-i)) (iE l m):=fun W q=>by
    have:=FT W q dS aO;unfold Pairs;rw[anb];exact this
   have cb:=fun W (q:Q w W)=>afB _ _ W (Un W q) (by omega) lT
   have z0:=fun (h:0<l.length)=>HC.out h
   obtain⟨bb,o,rfl,hc⟩:=HC.out (by omega)
   have c0:=ah HQ.out (hc i hlt).1;simp only[Option.map_some,yM] at cb;have rE:=(HL.out _ (List.getElem_mem hlt)).1;have jZ:=iF l[i].1;have jB:=eP (dU [] (iE l m)).length;have ct:=fun W=>Gu l[i].1 W (by omega)
   have cn:=Qd ((dU [] (iE l m)).length:Int) _ rfl (by omega)
   clear hc z0 FT Un AA lT;generalize l[i].1=x at *;generalize dU [] (iE l m)=bl at *;generalize aM x=v1 at *;generalize bI bl.length=v2 at *;have Nr:=Hd um;have Pf:=Hd QK;have CB:=Hd cb;have CT:=Hd ct;have CN:=Hd cn;have Xy:m+1≤65537:=by omega
   have HM2:=Hd yK;have kE:(s++(v1++v2)).length≤1000000000:=by rw[List.length_append];rw[List.length_append] at bY;omega
   have JD:(t++bl).length≤100000000000000:=by omega
   have Ep:=Hd kE;have Nb:=Hd JD;clear um QK cb ct cn hg anb KQ yK ana bY vg kE JD;have c0i:=c0;go_wp2_with fail;refine(CB.out _ HQ.out).mono ?_;rintro e w1 ⟨rfl,q1⟩;have d0:=ah q1 c0;have aC:=Hd (HQ.out.trans q1);clear q1 c0 HQ CB c0i;go_wp2_with fail;refine(CT.out _).mono ?_;rintro e w2 ⟨rfl,q2⟩;have aS:=Hd (aC.out.trans q2);clear q2 aC CT d0;go_wp2_with fail;refine(CN.out _).mono ?_;rintro e w3 ⟨rfl,q3⟩;have bZ:=Hd (aS.out.trans q3);clear q3 aS CN;go_wp2_with fail;go_roundw;case rel=>exact⟨m+1,i+16,s++(v1++v2),t++bl,by go_num,by rw[bytes_append,bytes_append,List.append_assoc],by rw[bytes_append],by omega,Ep.out,Nb.out,by show _=_;have:=HM2.out;omega,.inr (by have:=HM2.out;simp;omega),Nr.out.symm,Pf.out.symm,bZ⟩
   case measure=>simp[intOf];omega
  ·have tV:kV l=bI l.length++s++t:=by
    rw[UN l m (by have:=HI.out;omega) HM.out,idxTo_R,←HS.out,←HT.out]
   have c3:=Qd (l.length:Int) l.length rfl (by omega)
   have lC:=eP l.length;have alI:=Hd tV;have C3:=Hd c3;clear tV c3;generalize bI l.length=v3 at *;go_wp2_with fail;refine(C3.out _).mono ?_;rintro e w7 ⟨rfl,q7⟩;have ny:=Hd (HQ.out.trans q7);clear q7;go_wp2_with fail;go_ret;exact⟨by rw[alI.out];exact congrArg (fun b=>Ending.returned (.string b)) (by rw[bytes_append,bytes_append]),ny.out⟩
theorem RDPack_ok(v:Value)(l:List aN)(w:World)(hv:Pairs w v l)(hn:l.length≤1048576)(hl:Small l)(zT:∀a n c,v=.slice a n c→n≤c∧c≤9223372036854775807)(hr:dw [] l=true):
  Calls Tryz.prog 85 #[v] w fun e w'=>e=.returned (.tuple #[ak (kV l),.int .i64 0])∧Q w w':=by
 have c1:=aik v l w hv hn hr;have c2:=fun W (q:Q w W)=>ail v l W (hv.stays q) hn hl zT
 generalize kV l=x at *;obtain⟨a,cap,rfl,aJ⟩:=hv.value;have C1:=Hd c1;have C2:=Hd c2;clear c1 c2 hv hl aJ hr zT;go_enter Tryz.func85,Tryz.ntmps85;go_wp2_with fail;refine C1.out.mono ?_;rintro e w1 ⟨rfl,q1⟩;have aC:=Hd q1;clear q1 C1;go_wp2_with fail;refine(C2.out _ aC.out).mono ?_;rintro e w2 ⟨rfl,q2⟩;have aS:=Hd (aC.out.trans q2);clear q2 C2;go_wp2_with fail;go_ret2;exact⟨rfl,aS.out⟩
end
section
open Go.RowKit
set_option maxRecDepth 20000 in
theorem ain(v:Nat)(w:World)(hv:v<4294967296):
  Calls Tryz.prog 86 #[.int .u32 v] w fun e w'=>e=.returned (ak (oh v))∧Q w w':=by
 have k4:=Za w (v%256) (v / 256%256) (v / 65536%256) (v / 16777216) (by omega) (by omega) (by omega) (by omega) (oh v) (by unfold oh;rw[show v / 16777216%256=v / 16777216 by omega])
 simp only[Int.natCast_emod,Int.natCast_ediv,Int.cast_ofNat_Int] at k4
 generalize oh v=r at *
 go_enter Tryz.func86,Tryz.ntmps86
 go_wp2_with fail
 go_ret
 exact⟨rfl,Q.alloc _ _⟩
theorem crc_take1(s:Bytes)(j:Nat)(h:j<s.length):rW (s.take (j+1))=qp 8 (rW (s.take j) ^^^ s[j].toNat):=aa5 [] s j h
set_option maxRecDepth 20000 in
theorem RCrc_any(s:Bytes)(w:World)(hs:s.length≤9223372036854775807):
  Calls Tryz.prog 87 #[ak s] w fun e w'=>e=.returned (.int .u32 (wI s:Nat))∧w=w':=by
 go_enter Tryz.func87,Tryz.ntmps87
 go_wp2_with fail
 go_loop [3,4,5] (fun c i _=>∃k:Nat,k≤s.length∧i=.int .i64 k∧c=.int .u32 (rW (s.take k):Nat)) (fun _ i _=>s.length-(intOf i).toNat)
 case atStart=>exact⟨0,by omega,rfl,rfl⟩
 case round =>
  obtain⟨k,hk,rfl,rfl⟩:=hrel
  have FI:=Gm (s.take k)
  by_cases hlt:k<s.length
  ·have aI:=crc_take1 s k hlt
   have hx:(s[k]).toNat<256:=UInt8.toNat_lt _
   generalize hy:rW (s.take k)=c at *
   have HY:=Hd hy;have bJ:=Hd aI;clear hy aI
   go_wp2_with fail
   have rE:c ^^^ (s[k]).toNat<4294967296:=Nat.xor_lt_two_pow (n:=32) FI (by omega)
   go_loop [5,3] (fun i d=>∃m:Nat,m≤8∧i=.int .i64 m∧d=.int .u32 (qp m (c ^^^ (s[k]).toNat):Nat)) (fun i _=>8-(intOf i).toNat)
   case atStart=>exact⟨0,by omega,rfl,int_eq (by
    rw[show((({ data:=List.toArray s }:ByteArray)[k]).toNat:Int)%4294967296=((s[k]).toNat:Int) from Int.emod_eq_of_lt (by omega) (by show((s[k]).toNat:Int)<_;omega)]
    exact u32_xor_nat c (s[k]).toNat FI (by omega))⟩
   case round =>
    obtain⟨m,hm,rfl,rfl⟩:=hrel
    have vg:=Lr m _ rE
    by_cases ET:m<8
    ·have zV:qp (m+1) (c ^^^ (s[k]).toNat)=wH (qp m (c ^^^ (s[k]).toNat)):=rfl
     generalize qp m (c ^^^ (s[k]).toNat)=d at *
     have GN:=Hd zV;clear zV
     by_cases ajk:d%2=1
     ·have ht:wH d=(d / 2) ^^^ 3988292384:=by unfold wH;rw[if_pos ajk]
      have qE:bits .xor .u32 (((d / 2:Nat):Int)) ((3988292384:Nat):Int)=((d / 2 ^^^ 3988292384:Nat):Int):=u32_xor_nat (d / 2) 3988292384 (by omega) (by decide)
      have hoi:((d:Int)%2==1)=true:=by simp;omega
      have HT:=Hd ht;have Ml:=Hd qE
      clear ht qE ajk
      go_wp2_with fail
      go_round
      case rel=>exact⟨m+1,by omega,by go_num,int_eq (by rw[GN.out,HT.out];exact Ml.out)⟩
      case measure=>simp[intOf];omega
     ·have ht:wH d=d / 2:=by unfold wH;rw[if_neg ajk]
      have hoi:((d:Int)%2==1)=false:=by simp;omega
      have HT:=Hd ht
      clear ht ajk
      go_wp2_with fail
      go_round
      case rel=>exact⟨m+1,by omega,by go_num,int_eq (by rw[GN.out,HT.out];rfl)⟩
      case measure=>simp[intOf];omega
    ·have nk:m=8:=by omega
     subst nk
     go_wp2_with fail
     go_round
     case rel=>exact⟨k+1,by omega,by go_num,by rw[bJ.out]⟩
     case measure=>simp[intOf];omega
  ·have jL:k=s.length:=by omega
   have hx:=Gm s
   subst jL
   rw[List.take_length]
   generalize hc:rW s=c at *
   have HCR:=Hd hc;clear hc
   go_wp2_with fail
   go_ret
   refine⟨gV ?_,rfl⟩
   show bits BinOp.xor IntKind.u32 (c:Int) ((4294967295:Nat):Int)=_
   rw[u32_xor_nat _ _ hx (by decide)]
   unfold wI
   rw[HCR.out]
end
section
open Go.RowKit
theorem RText_big(s:Bytes)(w:World)(hs:s.length≤9000000000000000000):
  Calls Tryz.prog 81 #[ak s] w fun e w'=>e=.returned (ak (aM s))∧Q w w':=by
 have c:=fun W=>Jt s.length W (by omega)
 have C:=Hd c;have hl:=eP s.length;clear c;go_enter Tryz.func81,Tryz.ntmps81;go_wp2_with fail;refine(C.out _).mono ?_;rintro e w1 ⟨rfl,q1⟩;have aC:=Hd q1;clear q1 C;go_wp2_with fail;go_ret;exact⟨congrArg (fun b=>Ending.returned (.string b)) (bytes_append _ _),aC.out⟩
theorem TR(l:List au)(k:Nat)(h:k<l.length):fV (l.take (k+1))↔fV (l.take k)∧iT l[k].1 l[k].2=true∧l[k].1∉(l.take k).map (·.1):=by
 rw[List.take_succ_eq_append_getElem h];unfold fV;rw[List.map_append,List.nodup_append];constructor
 ·rintro⟨h1,h2,h3,h4⟩
  exact⟨⟨fun d hd=>h1 d (List.mem_append_left _ hd),h2⟩,h1 l[k] (List.mem_append_right _ (List.mem_singleton.2 rfl)),fun hm=>h4 _ hm l[k].1 (by simp) rfl⟩
 ·rintro⟨⟨h1,h2⟩,h3,h4⟩
  refine⟨fun d hd=>?_,h2,by simp,fun a ha b hb e=>?_⟩
  ·rcases List.mem_append.1 hd with hd|hd
   ·exact h1 d hd
   ·rw[List.mem_singleton] at hd;subst hd;exact h3
  ·simp only[List.map_cons,List.map_nil,List.mem_singleton] at hb
   subst hb;subst e;exact h4 ha
theorem afC(l:List au)(k:Nat)(h:fV l):fV (l.take k):=by
 refine⟨fun d hd=>h.1 d (List.mem_of_mem_take hd),?_⟩
 rw[List.map_take];exact(List.take_sublist _ _).nodup h.2
theorem afD(last:Bytes)(l:List aN)(h:dw last l=true):Small l:=fun e he=>by
 obtain⟨k,hk,rfl⟩:=List.mem_iff_getElem.1 he
 exact(ZA last l h k hk).2
theorem aio(l:List au)(k:Nat)(h:k<(dK l).length):(iO l).take (k+1)=(iO l).take k++[((dK l)[k],qW (bf (dK l)[k] l 0))]:=by
 have hl:(iO l).length=(dK l).length:=by unfold iO;rw[List.length_map]
 rw[List.take_succ_eq_append_getElem (by omega)]
 congr 1;unfold iO;simp
theorem tinfoEnt:(Tryz.prog.info? 160).map (fun i=>(i.zero,i.size,i.bytes))=some (some (.agg #[ak [],ak []]),2,32):=by kernel_rfl
theorem WS(v:Value)(l:List au)(w:World)(hv:Docs w v l)(hn:l.length≤9223372036854775807)(hl:∀d∈l,d.1.length≤9223372036854775807∧d.2.length≤9223372036854775807):
  Calls Tryz.prog 46 #[v] w fun e w'=>e=.returned (.tuple #[ak (oH l).1,.int .i64 (oH l).2])∧Q w w':=by
 have pG:=hv;obtain⟨a,cap,rfl,aJ⟩:=hv.value;have HC:=Hd aJ;have HL:=Hd hl;have HV:=Hd pG;clear aJ hv hl pG;have pz:Tryz.prog.follows .mixedOrders=true:=by kernel_rfl
 by_cases h:l.length<1∨500<l.length
 ·have hb:oH l=([],6):=by unfold oH;rw[if_pos h]
  rw[hb];clear hb;by_cases h1:l.length<1
  ·clear h
   go_enter Tryz.func46,Tryz.ntmps46;go_wp2_with fail;go_ret2;exact⟨rfl,Q.refl _⟩
  ·have h5:500<l.length:=by omega
   clear h;go_enter Tryz.func46,Tryz.ntmps46;go_wp2_with fail;go_ret2;exact⟨rfl,Q.refl _⟩
 ·have QU:¬fV l→oH l=([],1):=fun hb=>by unfold oH;rw[if_neg h,if_neg hb]
  have Ox:fV l→oH l=(jV l (eF l),0):=fun hb=>by unfold oH;rw[if_neg h,if_pos hb]
  have jZ:1≤l.length:=by omega
  have Uu:l.length≤500:=by omega
  have cv:=fun W=>Jt l.length W (by omega)
  have Dp:=eP l.length;obtain⟨vn,E9⟩:∃vn,vn=bI l.length:=⟨_,rfl⟩;rw[←E9] at cv Dp;have CV:=Hd cv;have HB:=Hd QU;have HG:=Hd Ox;have HVN:=Hd E9;clear cv QU Ox E9 h;go_enter Tryz.func46,Tryz.ntmps46;go_wp2_with fail;refine(CV.out _).mono ?_;rintro e w1 ⟨rfl,q1⟩;have aC:=Hd q1;clear q1 CV;go_wp2_with fail;go_loopw [4,5,6,7] (fun sv i _ _ wr=>∃(k:Nat) (s:Bytes),k≤l.length∧i=.int .i64 (k:Nat)∧sv=ak s∧s.length≤14+2100*k∧Hid (s=mX++(vn++jg (l.take k)))∧Hid (fV (l.take k))∧Hid (Q w wr)) (fun _ i _ _ _=>l.length-(intOf i).toNat)
  case atStart=>exact⟨0,mX++vn,by omega,rfl,str_cat (bytes_append _ _) rfl,by simp[mX];omega,by show _=_;simp[jg],⟨by simp,by simp⟩,aC.out⟩
  case round =>
   obtain⟨k,s,hk,rfl,rfl,bY,HS,ni,HQ⟩:=hrel;obtain⟨wo,rfl⟩:∃wo:World,wo=wr:=⟨_,rfl⟩;by_cases hlt:k<l.length
   ·obtain⟨b,of,rfl,bC⟩:=HC.out (by omega)
    have z0:=(bC k hlt).1;have z1:=(bC k hlt).2;have c0:=ah HQ.out z0;have c1:=ah HQ.out z1;have ql:(k:Int)<(l.length:Int):=by omega
    have gY:(0:Int)≤(k:Int):=by omega
    have kR:=TR l k hlt;have Xv:=Wp l k hlt;have aD:=HL.out _ (List.getElem_mem hlt);have ajl:fV l→iT l[k].1 l[k].2=true:=fun hd=>hd.1 _ (List.getElem_mem hlt)
    have apQ:∀j,(hj:j<k)→l[j].1=l[k].1→¬fV l:=fun j hj he hd=>by
     have:=(TR l k hlt).1 (afC l (k+1) hd);exact this.2.2 (by rw[←he];exact List.mem_map_of_mem (List.mem_iff_getElem.2 ⟨j,by rw[List.length_take];omega,by simp⟩))
    have apR:(∀j,(hj:j<k)→l[j].1≠l[k].1)→l[k].1∉(l.take k).map (·.1):=fun hf hm=>by
     obtain⟨d,hd,he⟩:=List.mem_map.1 hm;obtain⟨j,hj,qh⟩:=List.mem_iff_getElem.1 hd;rw[List.length_take] at hj;have ER:j<k:=by omega
     refine hf j ER ?_;rw[←he,←qh];simp
    have Rw:∀j,(hj:j<k)→w.cell? ⟨b,of+j*2,none⟩=some (ak l[j].1):=fun j hj=>(bC j (by omega)).1
    have aqL:∀j,(hj:j<k)→l[j].1.length≤9223372036854775807:=fun j hj=>(HL.out _ (List.getElem_mem (by omega))).1
    obtain⟨ids,aa1⟩:∃ids:Nat→Bytes,∀j,(hj:j<k)→ids j=l[j].1:=⟨fun j=>if hj:j<k then l[j].1 else [],fun j hj=>by simp[hj]⟩
    have anc:∀j,j<k→w.cell? ⟨b,of+j*2,none⟩=some (ak (ids j)):=fun j hj=>by rw[aa1 j hj];exact Rw j hj
    have ajm:∀j,j<k→ids j=l[k].1→¬fV l:=fun j hj he=>apQ j hj (by rw[←aa1 j hj];exact he)
    have ajn:(∀j,j<k→ids j≠l[k].1)→l[k].1∉(l.take k).map (·.1):=fun hf=>apR (fun j hj=>by rw[←aa1 j hj];exact hf j hj)
    have cr:=fun W=>Qc l[k].1 l[k].2 W aD.1 aD.2
    clear bC Rw aqL aa1 apQ apR;generalize l[k]=x at *;obtain⟨id,tx⟩:=x;simp only at z0 z1 c0 c1 kR Xv aD ajl ajm ajn cr;have CR:=Hd cr;have xu:=Hd kR;have Cz:=Hd Xv;have HAK:=Hd ajl;have HDU:=Hd ajm;have Kg:=Hd ajn;have HID:=Hd anc;have Z0:=Hd z0;have Z1:=Hd z1;clear cr kR Xv ajl ajm ajn anc z0 z1;go_wp2_with fail;refine(CR.out _).mono ?_;rintro e w2 ⟨rfl,q2⟩;have aS:=Hd (HQ.out.trans q2);clear q2 HQ c0 c1 CR;cases hr:iT id tx with
    | false =>
     have kU:oH l=([],1):=HB.out (fun hd=>by have:=HAK.out hd;rw[hr] at this;cases this)
     have yx:=Hd kU;clear hr kU;go_wp2_with fail;go_ret2;exact⟨by rw[yx.out];rfl,aS.out⟩
    | true =>
     have HR:=Hd hr;obtain⟨anw,Yv⟩:=oI hr;clear hr aD;go_wp2_with fail;go_loopw [7] (fun j wr=>∃m:Nat,m≤k∧j=.int .i64 (m:Nat)∧Hid (∀j,j<m→ids j≠id)∧Hid (Q w wr)) (fun j _=>k-(intOf j).toNat)
     case atStart=>exact⟨0,by omega,rfl,fun j hj=>by omega,aS.out⟩
     case round =>
      obtain⟨m,hm,rfl,nN,HQm⟩:=hrel;obtain⟨wm,rfl⟩:∃wm:World,wm=wr:=⟨_,rfl⟩;have d0:=ah HQm.out Z0.out;by_cases JG:m<k
      ·have e0:=ah HQm.out (HID.out m JG)
       have hdu:=HDU.out m JG;have fE:ids m≠id→∀j,j<m+1→ids j≠id:=fun aF j hj=>by
        by_cases he:j=m
        ·subst he;exact aF
        ·exact nN.out j (by omega)
       have JL:(m:Int)<(k:Int):=by omega
       have adW:(0:Int)≤(m:Int):=by omega
       have ajh:(m:Int)<(l.length:Int):=by omega
       generalize ids m=u at *;have auc:=Hd hdu;have aud:=Hd fE;clear hdu fE;by_cases he:u=id
       ·have kU:oH l=([],1):=HB.out (auc.out he)
        have yx:=Hd kU;subst he;clear kU;go_wp2_with fail;go_quiet (fail);go_wp2_with fail;go_ret2;exact⟨by rw[yx.out];rfl,HQm.out.trans (Q.drewN _ _)⟩
       ·have zI:(u==id)=false:=by simpa using he
        have zJ:@BEq.beq (List UInt8) instBEqOfDecidableEq u id=false:=by simpa using he
        have zK:@BEq.beq (List UInt8) List.instBEq u id=false:=by simpa using he
        have HE:=Hd he;clear he;go_wp2_with fail;go_quiet (fail);go_wp2_with fail;go_roundw;case rel=>exact⟨m+1,by omega,by go_num,aud.out HE.out,HQm.out.trans (Q.drewN _ _)⟩
        case measure=>simp[intOf];omega
      ·have rP:m=k:=by omega
       subst rP;have Vq:fV (l.take (m+1)):=xu.out.2 ⟨ni.out,HR.out,Kg.out nN.out⟩;have d1:=ah HQm.out Z1.out;have ct1:=fun W=>Gu id W (by omega)
       have ct2:=fun W=>Gu tx W (by omega)
       have lC:=iF id;have En:=iF tx;generalize uV:aM id=v1 at *;generalize wX:aM tx=v2 at *;obtain⟨s1,es1⟩:∃s1,s1=s++v1:=⟨_,rfl⟩;obtain⟨s2,es2⟩:∃s2,s2=s1++v2:=⟨_,rfl⟩;have l1:s1.length=s.length+v1.length:=by rw[es1,List.length_append]
       have l2:s2.length=s1.length+v2.length:=by rw[es2,List.length_append]
       have dN:=MV s v1 (by omega)
       have kE:=MV s1 v2 (by omega)
       rw[←es1] at dN;rw[←es2] at kE;have apT:s2=mX++(vn++jg (l.take (m+1))):=by rw[es2,es1,HS.out,Cz.out];simp
       have apU:s2.length≤14+2100*(m+1):=by omega
       have aue:=Hd Vq;have CT1:=Hd ct1;have CT2:=Hd ct2;have Ep:=Hd apT;have auf:=Hd apU;clear Vq ct1 ct2 apT apU es1 es2 l1 l2 uV wX;have KK:=HQm;go_wp2_with fail;go_region_held3 (fun w'=>w'.cell? ⟨b,of+m*2,none⟩=some (ak id)∧w'.cell? ⟨b,of+m*2+1,none⟩=some (ak tx)) (first|exact⟨d0,d1⟩|exact⟨ah (Q.drew _) d0,ah (Q.drew _) d1⟩|exact⟨ah KK.out Z0.out,ah KK.out Z1.out⟩|exact⟨ah (KK.out.trans (Q.drew _)) Z0.out,ah (KK.out.trans (Q.drew _)) Z1.out⟩)
        (first
         | (go_at_call 81;((with_reducible refine(CT1.out _).mono ?_);rintro e w' ⟨rfl,q⟩);have s':Q w w':=Q.trans (by first|exact KK.out|exact KK.out.trans (Q.drew _)) q;clear KK;have KK:=Hd s';clear s' q)
         | (go_at_call 81;((with_reducible refine(CT2.out _).mono ?_);rintro e w' ⟨rfl,q⟩);have s':Q w w':=Q.trans (by first|exact KK.out|exact KK.out.trans (Q.drew _)) q;clear KK;have KK:=Hd s';clear s' q))
       all_goals
        clear d0 d1;go_wp2_with fail;go_roundw;case rel=>exact⟨m+1,s2,by omega,by go_num,rfl,auf.out,Ep,aue,KK⟩
        case measure=>simp[intOf];omega
   ·have cO:k=l.length:=by omega
    subst cO;have bD:=ni.out;have GY:=HS.out;rw[List.take_length] at bD GY;have FK:s.length≤1100000:=by omega
    have kU:=HG.out bD;have xA:∀d∈l,d.2.length≤2000:=fun d hd=>(oI (bD.1 d hd)).2
    have EG:=abJ l Uu xA;rw[EG] at kU;have Vg:=LH l Uu xA;have ES:(iO l).length=(dK l).length:=by unfold iO;rw[List.length_map]
    have vg:=IC l Uu xA;have lT:=afD _ _ Vg;have ku:(kV (iO l)).length≤4500000000000:=by
     have:=PE (iO l);unfold Dz at this;rw[Vg,decide_eq_true (by omega)] at this
     simpa using this
    have yu:jV l (kV (iO l))=(s++aM (kV (iO l)))++oh (wI (s++aM (kV (iO l)))):=by
     unfold jV;have:jU l (kV (iO l))=s++aM (kV (iO l)):=by unfold jU;rw[GY,HVN.out];simp
     rw[this]
    rw[yu] at kU;have Xv:=iF (kV (iO l));have htm:=fun W (q:Q w W)=>acz _ l W (Sl.stays HV.out q) (by omega) (fun d hd=>by have:=xA d hd;omega)
    have cpo:=fun t W (q:Q w W)=>aaS _ l t W (Sl.stays HV.out q) (by omega) (fun d hd=>by have:=xA d hd;omega)
    have sU:=fun t=>IG Uu bD t
    have EP:=fun (t:Bytes) (rs:List aR) (W:World) (vp:Value) (hp:Posts W vp rs) (he:aK rs=bf t l 0)=>by
     have hr:=sU t;rw[←he] at hr;have hs:=vJ _ hr;have:=RPPack_ok vp rs W hp (by have:=hs.1;rw[List.length_map] at this;omega) (fun p hp=>Nat.le_trans (hs.2.1 (postOf p) (List.mem_map_of_mem hp)).1 (by decide)) hr
     rw[he] at this;exact this
    have bV:=aio l;have yx:=Hd kU;have ai1:=Hd Vg;have Xx:=Hd lT;have HTM:=Hd htm;have CPO:=Hd cpo;have Gc:=Hd EP;have Oy:=Hd bV;clear kU EG Vg lT yu htm cpo sU EP bV xA bD GY bY hk hlt;obtain⟨i0,hi,fJ,eU,fD⟩:=info_parts tinfoEnt;go_wp2_with fail;refine(HTM.out _ HQ.out).mono ?_;rintro e w2 ⟨v2,rfl,jI,q2⟩;obtain⟨ta,tcap,rfl,_⟩:=aT jI;have QK:Strs w2 (.slice ta (dK l).length tcap) (dK l):=Sl.of_owns jI;have Pf:=Hd QK;have aS:=Hd (HQ.out.trans q2);clear QK jI q2 HTM HQ ni HS;go_wp2_with fail;go_loopw [8,10,11,12] (fun dv i _ _ wr=>∃k:Nat,k≤(dK l).length∧i=.int .i64 (k:Nat)∧Hid (wr.ownsRow w2.heap.size 160 2 dv k (dV ((iO l).take k)))∧Hid (Q w2 wr)) (fun _ i _ _ _=>(dK l).length-(intOf i).toNat)
    case atStart=>exact⟨0,by omega,rfl,World.ownsRow_nil _ _ _ _,Q.refl _⟩
    case round =>
     obtain⟨k,hk,rfl,HO,HQk⟩:=hrel;obtain⟨wk,rfl⟩:∃wk:World,wk=wr:=⟨_,rfl⟩;by_cases hlt:k<(dK l).length
     ·obtain⟨aa,cc,Ao,bC⟩:=Pf.out.value
      cases Ao;obtain⟨bt,ot,rfl,hct⟩:=bC (by omega)
      have t0:=ah HQk.out (hct k hlt);have ql:(k:Int)<((dK l).length:Int):=by omega
      have gY:(0:Int)≤(k:Int):=by omega
      have aI:=Oy.out k hlt;clear hct bC;generalize (dK l)[k]=t at *;have bJ:=Hd aI;clear aI;go_wp2_with fail;refine(CPO.out t _ (aS.out.trans HQk.out)).mono ?_;rintro e w3 ⟨v3,rfl,ane,q3⟩;obtain⟨rs,wY,oP⟩:=ane.posts;have cpk:=Gc.out t rs w3 v3 oP wY;obtain⟨pa,jc,rfl,_⟩:=oP.value;generalize qW (bf t l 0)=pk at *;have Pt:=Hd cpk;have bZ:=Hd (HQk.out.trans q3);have zi:=Hd (ownsRow_below HO.out q3);have t3:=ah q3 t0;clear cpk ane oP wY q3 t0 HO HQk;go_wp2_with fail;refine Pt.out.mono ?_;rintro e w4 ⟨rfl,q4⟩;have pF:=Hd (bZ.out.trans q4);have vS:=ownsRow_below zi.out q4;have t4:=ah q4 t3;have aY:w2.heap.size≤w4.heap.size:=pF.out.size;clear q4 t3 zi bZ Pt;go_wp2_with (at_builtin;go_must (refine cZ w4 (by rfl) _ _ 154 (by rfl) w2.heap.size 160 _ i0 (.agg #[ak [],ak []]) 2 32 Tryz.underlying154 hi fJ eU fD rfl (by decide) (by decide) _ _ _ (by rfl) vS #[ak t,ak pk] (by simp[Act.eval]) rfl ?c1 ?c2 aY ?_))
      case c1=>simp[Value.oneCell']
      case c2=>omega
      intro g6 cap6 w6 aW dB iL uz tq;have q6:Q w2 w6:=aL pF.out vS dB (Nat.le_refl _) (by omega)
      have aW:w6.ownsRow w2.heap.size 160 2 (.slice (some ⟨g6,0,none⟩) (k+1) cap6) (k+1) (dV ((iO l).take (k+1))):=by
       rw[bJ.out,yA];simpa using aW
      have rH:=Hd aW;have fQ:=Hd q6;clear aW q6 dB iL vS t4;go_wp2_with fail;go_roundw;case rel=>exact⟨k+1,by omega,by go_num,rH,fQ⟩
      case measure=>simp[intOf];omega
     ·have cO:k=(dK l).length:=by omega
      subst cO;have ho:=HO.out;rw[List.take_of_length_le (by omega)] at ho
      obtain⟨da,dcap,rfl,_⟩:=aT ho;have uX:=o8 ho;have akO:Pairs wk (.slice da (dK l).length dcap) (iO l):=by have:=Sl.of_owns ho;unfold Pairs;rw[ES];exact this
      have cpk:=RDPack_ok _ (iO l) wk akO (by omega) Xx.out (fun a n c e=>by cases e;exact uX) ai1.out
      generalize kV (iO l)=dx at *;have ctx:=fun W=>RText_big dx W (by omega)
      generalize aM dx=tdx at *;obtain⟨sf,xP⟩:∃sf,sf=s++tdx:=⟨_,rfl⟩;have ayg:sf.length=s.length+tdx.length:=by rw[xP,List.length_append]
      have ccr:=fun W=>RCrc_any sf W (by omega)
      have cfx:=fun W=>ain (wI sf) W (X6 sf)
      have rG:(oh (wI sf)).length=4:=Hg _;rw[←xP] at yx;generalize wI sf=cs at *;generalize oh cs=fx at *;have Pt:=Hd cpk;have CTX:=Hd ctx;have CCR:=Hd ccr;have CFX:=Hd cfx;have HSF:=Hd xP;clear cpk ctx ccr cfx xP akO ho uX HO;go_wp2_with fail;refine Pt.out.mono ?_;rintro e w5 ⟨rfl,q5⟩;have mZ:=Hd ((aS.out.trans HQk.out).trans q5);clear q5 Pt;go_wp2_with fail;refine(CTX.out _).mono ?_;rintro e w6 ⟨rfl,q6⟩;have fQ:=Hd (mZ.out.trans q6);clear q6 CTX;go_wp2_with fail;rw[bytes_append,←HSF.out];refine(CCR.out _).mono ?_;rintro e w7 ⟨rfl,rfl⟩;go_wp2_with fail;refine(CFX.out _).mono ?_;rintro e w8 ⟨rfl,q8⟩;have wu:=Hd (fQ.out.trans q8);clear q8 CFX;go_wp2_with fail;go_ret2;exact⟨by rw[yx.out];exact congrArg (fun b=>Ending.returned (.tuple #[.string b,.int .i64 0])) (bytes_append _ _),wu.out⟩
theorem ROp_any(o:OpL)(w:World)(h1:o.2.1.length≤9223372036854775807)(h2:o.2.2.length≤9223372036854775807):
  Calls Tryz.prog 78 #[.agg #[.bool o.1,ak o.2.1,ak o.2.2]] w fun e w'=>e=.returned (.bool (dZ o))∧Q w w':=by
 obtain⟨del,id,tx⟩:=o;simp only at h1 h2 ⊢;have cr:=fun W=>Qc id tx W h1 h2
 have cv:=fun W=>IQ id W h1
 have zu:dZ (del,id,tx)=if del then(pW id&&decide (1≤id.length)&&decide (id.length≤40)&&decide (tx=[])) else iT id tx:=by
  unfold dZ;rw[←Js _ id (Nat.le_refl _)];have e1:(!id.isEmpty)=decide (1≤id.length):=by cases id<;>simp
  have e2:tx.isEmpty=decide (tx=[]):=by cases tx<;>simp
  simp only[e1,e2];cases del
  ·rfl
  ·simp only[if_true]
   cases pW id<;>simp
 have hx:=heap_alloc_new w (.cells #[.bool del,ak id,ak tx] 49);obtain⟨x0,x1,x2,_⟩:=Blk.c3 (show Blk _ _ _ _ from hx)
 have iR:=Q.alloc w (.cells #[.bool del,ak id,ak tx] 49);have CR:=Hd cr;have CV:=Hd cv;have Ul:=Hd zu;have EC:=Hd x1;have Ml:=Hd x2;have jk:=Hd iR;clear cr cv zu hx iR;cases del with
 | false =>
  go_enter Tryz.func78,Tryz.ntmps78;go_wp2_with fail;refine(CR.out _).mono ?_;rintro e w1 ⟨rfl,q1⟩;have aC:=Hd (jk.out.trans q1);clear q1;go_wp2_with fail;go_ret;exact⟨by rw[Ul.out];rfl,aC.out⟩
 | true =>
  generalize Dp:pW id=b1 at *;go_enter Tryz.func78,Tryz.ntmps78;go_wp2_with fail;refine(CV.out _).mono ?_;rintro e w1 ⟨rfl,q1⟩;have d1:=ah q1 EC.out;have d2:=ah q1 Ml.out;have aC:=Hd (jk.out.trans q1);clear q1 x0 x1 x2 Dp;cases b1;all_goals
   by_cases g1:1≤id.length;all_goals by_cases g2:id.length≤40
   all_goals by_cases g3:tx=[]
   all_goals first
    | (exfalso;omega)
    | (subst g3
       go_wp2_with fail;go_ret;exact⟨eX (by rw[Ul.out];first|(simp[*];done)|(simp[*];omega)),aC.out⟩)
    | (have zI:(tx==[])=false:=by simpa using g3
       have zJ:@BEq.beq (List UInt8) instBEqOfDecidableEq tx []=false:=by simpa using g3
       have zK:@BEq.beq (List UInt8) List.instBEq tx []=false:=by simpa using g3
       go_wp2_with fail;go_ret;exact⟨eX (by rw[Ul.out];first|(simp[*];done)|(simp[*];omega)),aC.out⟩)
def zM(ops:List OpL):Int:=if ops.length<1∨50<ops.length then 6 else if ops.all dZ then 0 else 1
theorem Om(v:Value)(ops:List OpL)(w:World)(hv:Ops w v ops)(hn:ops.length≤9223372036854775807)(hl:∀o∈ops,o.2.1.length≤9223372036854775807∧o.2.2.length≤9223372036854775807):
  Calls Tryz.prog 44 #[v] w fun e w'=>e=.returned (.int .i64 (zM ops))∧Q w w':=by
 obtain⟨a,cap,rfl,aJ⟩:=hv.value;have HC:=Hd aJ;have HL:=Hd hl;clear aJ hv hl;by_cases h:ops.length<1∨50<ops.length
 ·have hc:zM ops=6:=by unfold zM;rw[if_pos h]
  rw[hc];clear hc;by_cases h1:ops.length<1
  ·clear h
   go_enter Tryz.func44,Tryz.ntmps44;go_wp2_with fail;go_ret;exact⟨rfl,Q.refl _⟩
  ·have h5:50<ops.length:=by omega
   clear h;go_enter Tryz.func44,Tryz.ntmps44;go_wp2_with fail;go_ret;exact⟨rfl,Q.refl _⟩
 ·have hc:zM ops=if ops.all dZ then 0 else 1:=by unfold zM;rw[if_neg h]
  have JQ:=Hd hc;have jZ:1≤ops.length:=by omega
  have Uu:ops.length≤50:=by omega
  clear hc h;go_enter Tryz.func44,Tryz.ntmps44;go_wp2_with fail;go_loopw [3,4] (fun i _ wr=>∃k:Nat,k≤ops.length∧i=.int .i64 (k:Nat)∧Hid (∀o∈ops.take k,dZ o=true)∧Hid (Q w wr)) (fun i _ _=>ops.length-(intOf i).toNat)
  case atStart=>exact⟨0,by omega,rfl,fun o ho=>by simp at ho,Q.refl _⟩
  case round =>
   obtain⟨k,hk,rfl,ni,HQ⟩:=hrel;obtain⟨wo,rfl⟩:∃wo:World,wo=wr:=⟨_,rfl⟩;by_cases hlt:k<ops.length
   ·obtain⟨b,of,rfl,bC⟩:=HC.out (by omega)
    obtain⟨z0,z1,z2⟩:=bC k hlt;have c0:=ah HQ.out z0;have c1:=ah HQ.out z1;have c2:=ah HQ.out z2;have ql:(k:Int)<(ops.length:Int):=by omega
    have gY:(0:Int)≤(k:Int):=by omega
    have aD:=HL.out _ (List.getElem_mem hlt);have cr:=fun W=>ROp_any ops[k] W aD.1 aD.2
    have aI:dZ ops[k]=true→∀o∈ops.take (k+1),dZ o=true:=fun h o ho=>by
     rw[List.take_succ_eq_append_getElem hlt] at ho;rcases List.mem_append.1 ho with ho|ho
     ·exact ni.out o ho
     ·rw[List.mem_singleton] at ho;subst ho;exact h
    have QU:dZ ops[k]=false→ops.all dZ=false:=fun h=>by
     rw[List.all_eq_false];exact⟨_,List.getElem_mem hlt,by rw[h];simp⟩
    clear z0 z1 z2 bC aD;generalize ops[k]=x at *;obtain⟨del,id,tx⟩:=x;simp only at c0 c1 c2 cr;have CR:=Hd cr;have bJ:=Hd aI;have aug:=Hd QU;clear cr aI QU;generalize dZ (del,id,tx)=ok at *;go_wp2_with fail;refine(CR.out _).mono ?_;rintro e w2 ⟨rfl,q2⟩;have aS:=Hd (HQ.out.trans q2);clear q2 HQ CR c0 c1 c2;cases ok with
    | false =>
     have hb:=aug.out rfl;have HB:=Hd hb;clear hb;go_wp2_with fail;go_ret;exact⟨by rw[JQ.out,HB.out];rfl,aS.out⟩
    | true =>
     have hs:=bJ.out rfl;have HS:=Hd hs;clear hs;go_wp2_with fail;go_roundw;case rel=>exact⟨k+1,by omega,by go_num,HS,aS⟩
     case measure=>simp[intOf];omega
   ·have cO:k=ops.length:=by omega
    subst cO;have dI:ops.all dZ=true:=by
     rw[List.all_eq_true];have:=ni.out;rw[List.take_length] at this;exact this
    have yZ:=Hd dI;clear dI;go_wp2_with fail;go_ret;exact⟨by rw[JQ.out,yZ.out];rfl,HQ.out⟩
theorem aip(l:List OpL)(k:Nat)(h:k<l.length):fK (l.drop k)=if l[k].2.1∈(l.drop (k+1)).map (fun p=>p.2.1) then fK (l.drop (k+1)) else l[k]::fK (l.drop (k+1)):=by
 rw[List.drop_eq_getElem_cons h,fK]
theorem RLast_any(v:Value)(l:List OpL)(w:World)(hv:Ops w v l)(hn:l.length≤1000000):
  Calls Tryz.prog 45 #[v] w fun e w'=>∃v',e=.returned v'∧w'.ownsRow w.heap.size 49 3 v' (fK l).length (wR (fK l))∧Q w w':=by
 obtain⟨io,V4,fJ,eU,fD⟩:=info_parts mE;obtain⟨a,cap,rfl,aJ⟩:=hv.value;have HC:=Hd aJ;clear aJ hv;go_enter Tryz.func45,Tryz.ntmps45;go_wp2_with fail;go_loopw [3,4,5,6] (fun ov i _ _ wr=>∃(k:Nat) (o:List OpL),k≤l.length∧i=.int .i64 (k:Nat)∧o.length≤k∧Hid (fK l=o++fK (l.drop k))∧Hid (wr.ownsRow w.heap.size 49 3 ov o.length (wR o))∧Hid (Q w wr)) (fun _ i _ _ _=>l.length-(intOf i).toNat)
 case atStart=>exact⟨0,[],by omega,rfl,by simp,rfl,World.ownsRow_nil _ _ _ _,Q.refl _⟩
 case round =>
  obtain⟨k,o,hk,rfl,sD,HL,HO,HQ⟩:=hrel;obtain⟨wo,rfl⟩:∃wo:World,wo=wr:=⟨_,rfl⟩;by_cases hlt:k<l.length
  ·obtain⟨b,of,rfl,bC⟩:=HC.out (by omega)
   obtain⟨z0,z1,z2⟩:=bC k hlt;have ql:(k:Int)<(l.length:Int):=by omega
   have gY:(0:Int)≤(k:Int):=by omega
   have hld:=aip l k hlt;have qF:(∀x∈(l.take l.length).drop (k+1),x.2.1≠l[k].2.1)↔¬l[k].2.1∈(l.drop (k+1)).map (fun p=>p.2.1):=by
    rw[List.take_length];constructor
    ·intro h hm
     obtain⟨x,hx,he⟩:=List.mem_map.1 hm;exact h x hx he
    ·intro h x hx he
     exact h (List.mem_map.2 ⟨x,hx,he⟩)
   have Rw:∀j (hj:j<l.length),w.cell? ⟨b,of+j*3+1,none⟩=some (ak l[j].2.1):=fun j hj=>(bC j hj).2.1
   clear bC;generalize l[k]=x at *;obtain⟨del,id,tx⟩:=x;simp only at z0 z1 z2 hld qF;have Z0:=Hd z0;have Z1:=Hd z1;have Z2:=Hd z2;have HLD:=Hd hld;have JB:=Hd qF;have HID:=Hd Rw;clear z0 z1 z2 hld qF Rw;go_wp2_with fail;go_loopw [5,6] (fun bv j wr=>∃(m:Nat) (bb:Bool),k+1≤m∧m≤l.length∧j=.int .i64 (m:Nat)∧bv=.bool bb∧Hid (bb=true↔∀x∈(l.take m).drop (k+1),x.2.1≠id)∧Hid (Q wo wr)) (fun _ j _=>l.length-(intOf j).toNat)
   case atStart=>exact⟨k+1,true,by omega,by omega,by go_num,rfl,by show _↔_;simp[List.drop_eq_nil_of_le],Q.refl _⟩
   case round =>
    obtain⟨m,bb,hkm,ET,rfl,rfl,Ej,HQm⟩:=hrel;obtain⟨wm,rfl⟩:∃wm:World,wm=wr:=⟨_,rfl⟩;by_cases AU:m<l.length
    ·have e0:=ah (HQ.out.trans HQm.out) (HID.out m AU)
     have e1:=ah (HQ.out.trans HQm.out) Z1.out;have JL:(m:Int)<(l.length:Int):=by omega
     have adW:(0:Int)≤(m:Int):=by omega
     have gU:(l.take (m+1)).drop (k+1)=(l.take m).drop (k+1)++[l[m]]:=by
      rw[List.take_succ_eq_append_getElem AU,List.drop_append_of_le_length (by rw[List.length_take];omega)]
     have bV:(∀x∈(l.take (m+1)).drop (k+1),x.2.1≠id)↔(bb=true∧l[m].2.1≠id):=by
      rw[gU,Ej.out];constructor
      ·intro h;exact⟨fun x hx=>h x (List.mem_append_left _ hx),h _ (List.mem_append_right _ (List.mem_singleton.2 rfl))⟩
      ·rintro⟨h1,h2⟩ x hx
       rcases List.mem_append.1 hx with hx|hx
       ·exact h1 x hx
       ·rw[List.mem_singleton] at hx;subst hx;exact h2
     clear gU;generalize l[m].2.1=u at *;have bJ:=Hd bV;clear bV;cases bb with
     | false =>
      go_wp2_with fail;go_quiet (fail);go_wp2_with fail;go_roundw;case rel=>exact⟨m+1,false,by omega,by omega,by go_num,rfl,by show _↔_;rw[bJ.out];simp,HQm.out.trans (Q.drewN _ _)⟩
      case measure=>simp[intOf];omega
     | true =>
      by_cases he:u=id
      ·subst he
       go_wp2_with fail;go_quiet (fail);go_wp2_with fail;go_roundw;case rel=>exact⟨m+1,false,by omega,by omega,by go_num,rfl,by show _↔_;rw[bJ.out];simp,HQm.out.trans (Q.drewN _ _)⟩
       case measure=>simp[intOf];omega
      ·have zI:(u==id)=false:=by simpa using he
       have zJ:@BEq.beq (List UInt8) instBEqOfDecidableEq u id=false:=by simpa using he
       have zK:@BEq.beq (List UInt8) List.instBEq u id=false:=by simpa using he
       have HE:=Hd he;clear he;go_wp2_with fail;go_quiet (fail);go_wp2_with fail;go_roundw;case rel=>exact⟨m+1,true,by omega,by omega,by go_num,rfl,by show _↔_;rw[bJ.out];simp[HE.out],HQm.out.trans (Q.drewN _ _)⟩
       case measure=>simp[intOf];omega
    ·have rP:m=l.length:=by omega
     subst rP;have zk:=Ej.out.trans JB.out;have c0:=ah (HQ.out.trans HQm.out) Z0.out;have c1:=ah (HQ.out.trans HQm.out) Z1.out;have c2:=ah (HQ.out.trans HQm.out) Z2.out;have aS:=Hd (HQ.out.trans HQm.out);have aY:w.heap.size≤wm.heap.size:=aS.out.size;have ho:=ownsRow_below HO.out HQm.out;cases bb with
     | false =>
      have Rl:id∈(l.drop (k+1)).map (fun p=>p.2.1):=by
       by_cases hm:id∈(l.drop (k+1)).map (fun p=>p.2.1)
       ·exact hm
       ·exact absurd (zk.2 hm) (by simp)
      have jB:fK l=o++fK (l.drop (k+1)):=by rw[HL.out,HLD.out,if_pos Rl]
      have Pw:=Hd jB;have rF:=Hd ho;clear Rl jB zk ho;go_wp2_with fail;go_roundw;case rel=>exact⟨k+1,o,by omega,by go_num,by omega,Pw,rF,aS⟩
      case measure=>simp[intOf];omega
     | true =>
      have jB:fK l=(o++[(del,id,tx)])++fK (l.drop (k+1)):=by rw[HL.out,HLD.out,if_neg (zk.1 rfl)];simp
      have Pw:=Hd jB;clear jB zk;go_wp2_with (at_builtin;go_must (refine cZ wm (by rfl) _ _ 51 (by rfl) w.heap.size 49 _ io (.agg #[.bool false,ak [],ak []]) 3 40 Tryz.underlying51 V4 fJ eU fD rfl (by decide) (by decide) _ _ _ (by rfl) ho #[.bool del,ak id,ak tx] (by simp[Act.eval]) rfl ?c1 ?c2 aY ?_))
      case c1=>simp[Value.oneCell']
      case c2=>omega
      intro g6 cap6 w6 aW dB iL uz tq;have q6:Q w w6:=aL aS.out ho dB (Nat.le_refl _) (by omega)
      have aW:w6.ownsRow w.heap.size 49 3 (.slice (some ⟨g6,0,none⟩) (o.length+1) cap6) (o.length+1) (wR (o++[(del,id,tx)])):=by
       rw[LX];simpa using aW
      have rH:=Hd aW;have fQ:=Hd q6;clear aW q6 dB iL ho c0 c1 c2;go_wp2_with fail;go_roundw;case rel=>exact⟨k+1,o++[(del,id,tx)],by omega,by go_num,by simp;omega,Pw,by show World.ownsRow _ _ _ _ _ _ _;rw[List.length_append];exact rH.out,fQ⟩
      case measure=>simp[intOf];omega
  ·have cO:k=l.length:=by omega
   subst cO;have tV:fK l=o:=by
    have:=HL.out;rw[List.drop_length] at this;simpa[fK] using this
   have HF:=Hd tV;clear tV;go_wp2_with fail;go_ret;exact⟨_,rfl,by rw[HF.out];exact HO.out,HQ.out⟩
end
end Go.Proofs.YthijhicdmnoifaaGreatDoor
