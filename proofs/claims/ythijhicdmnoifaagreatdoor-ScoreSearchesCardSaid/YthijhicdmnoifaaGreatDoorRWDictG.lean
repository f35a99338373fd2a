/- Joined texts of one proof. -/
import Derived.Test.YthijhicdmnoifaaGreatDoorRWDictB
set_option linter.unusedSimpArgs false
set_option linter.unusedVariables false
set_option linter.unnecessarySimpa false
set_option maxRecDepth 100000
set_option maxHeartbeats 8000000
namespace Go.Proofs.YthijhicdmnoifaaGreatDoor
section
open Go.RowKit
theorem NJ(ps:List y7)(k:Nat)(h:k<ps.length):(ig ps)[k*3]?=some (ak ps[k].1)∧(ig ps)[k*3+1]?=some (ak ps[k].2.1)∧(ig ps)[k*3+2]?=some (.int .i64 ps[k].2.2):=by
 induction ps generalizing k with
 | nil=>simp at h
 | cons d l ih =>
  have e:ig (d::l)=ak d.1::ak d.2.1::.int .i64 d.2.2::ig l:=rfl;cases k with
  | zero=>rw[e];exact⟨rfl,rfl,rfl⟩
  | succ k =>
   have:=ih k (by simpa using h)
   rw[e,show(k+1)*3=k*3+1+1+1 by omega]
   exact this
theorem VL(x t:Bytes):(!Op.bytesLess x t && !x==t)=bU t x:=by
 rw[ou];cases h:bU x t with
 | true=>rw[(JV _ _ h).1];rfl
 | false =>
  rcases aa6 _ _ h with h1|h1
  ·have:=(JV _ _ h1).2
   rw[h1,beq_eq_false_iff_ne.2 this];rfl
  ·subst h1
   rw[h];simp
theorem from1_any(ps:List y7)(t:Bytes)(i BL BT:Nat)(g cap:Nat)(w:World)(hi:i<ps.length)(hL:w.cell? ⟨BL,0,none⟩=some (.slice (some ⟨g,0,none⟩) ps.length cap))(hT:w.cell? ⟨BT,0,none⟩=some (ak t))
  (ho:Sl w (.slice (some ⟨g,0,none⟩) ps.length cap) ps.length 3 (ig ps)) :
  Calls Tryz.prog 202 #[.int .i64 i,.pointer (some ⟨BL,0,none⟩),.pointer (some ⟨BT,0,none⟩)] w fun e w'=>e=.returned (.bool (bU t ps[i].1))∧Q w w':=by
 obtain⟨_,a,c,e,h3⟩:=ho;cases e;obtain⟨b,off,e2,h5⟩:=h3 (by omega)
 cases e2;have hc:=h5 _ _ (NJ ps i hi).1;rw[Nat.zero_add] at hc;have hb:(!Op.bytesLess ps[i].1 t && !ps[i].1==t)=bU t ps[i].1:=VL _ _;generalize ps[i].1=x at *;clear h3 h5;have mD:(i:Int)<ps.length:=by omega
 go_enter Tryz.func202,Tryz.ntmps202;go_wp2_with fail;go_quiet (fail);go_wp2_with fail;go_ret;exact⟨rfl,Q.drewN _ _⟩
theorem Sl.from_{w:World}{n size:Nat}{xs:List Value}{a:Option Addr}{cap j:Nat}(h:Sl w (.slice a n cap) n size xs)(hj:j≤n):∀(g off:Nat),a=some ⟨g,off,none⟩→Sl w (.slice (some ⟨g,off+j*size,none⟩) (n-j) (cap-j)) (n-j) size (xs.drop (j*size)):=by
 intro g off ha;obtain⟨h1,a',c',e,h3⟩:=h;cases e;subst ha;refine⟨by rw[List.length_drop,h1,Nat.sub_mul],_,_,rfl,fun hn=>⟨g,off+j*size,rfl,fun i u hi=>?_⟩⟩
 obtain⟨b,o,e,h5⟩:=h3 (by omega)
 cases e;rw[List.getElem?_drop] at hi;rw[Nat.add_assoc];exact h5 _ _ hi
theorem abh(ps:List y7)(j:Nat):(ig ps).drop (j*3)=ig (ps.drop j):=by
 induction ps generalizing j with
 | nil=>simp[ig]
 | cons d l ih =>
  cases j with
  | zero=>simp
  | succ j =>
   have e:ig (d::l)=ak d.1::ak d.2.1::.int .i64 d.2.2::ig l:=rfl;rw[e,show(j+1)*3=j*3+1+1+1 by omega,List.drop_succ_cons,List.drop_succ_cons,List.drop_succ_cons,List.drop_succ_cons,ih]
theorem abj(l:List aN)(t:Bytes):(dA l).findIdx (fun p=>bU t p.1)=(eH l).findIdx (fun g=>bU t (jh g)):=by
 unfold dA;rw[List.findIdx_map];rfl
theorem agP{α:Type}(p:α→Bool)(l:List α)(d:α)(i:Nat)(hi:i≤l.length)(h1:∀t,t<i→p (l.getD t d)=false)(h2:∀t,i≤t→t<l.length→p (l.getD t d)=true):l.findIdx p=i:=by
 rcases Nat.lt_trichotomy (l.findIdx p) i with h|h|h
 ·have:=List.findIdx_getElem (p:=p) (xs:=l) (w:=by omega)
  have h3:=h1 _ h;rw[List.getD_eq_getElem?_getD,List.getElem?_eq_getElem (by omega)] at h3
  rw[Option.getD_some] at h3;rw[h3] at this;cases this
 ·exact h
 ·have uj:i<l.length:=Nat.lt_of_lt_of_le h List.findIdx_le_length
  have h3:=List.not_of_lt_findIdx h;have h4:=h2 i (Nat.le_refl _) uj;rw[List.getD_eq_getElem?_getD,List.getElem?_eq_getElem uj,Option.getD_some] at h4;rw[h4] at h3;cases h3
theorem aer(a:Option Addr)(n cap:Nat)(s:ByteArray)(b:Bool)(w:World):(Instr.field 291 (.agg #[.slice a n cap,.string s,.bool b]) 0).run Tryz.prog w=.ok (.slice a n cap) w:=by
 kernel_rfl
theorem abk(l:List aN)(t:Bytes)(w:World)(hn:l.length≤1048576)(hu:(l.map (·.1)).Pairwise (·<·))(oP:∀p∈dA l,p.1.length≤1000000∧p.2.1.length≤1073741824)(hb:(kV l).length≤9223372036854775807):
  Calls Tryz.prog 172 #[.string ⟨(kV l).toArray⟩,ak t] w fun e w'=>∃v,e=.returned v∧Sl w' v ((dA l).drop (kW (eH l) t)).length 3 (ig ((dA l).drop (kW (eH l) t)))∧Q w w':=by
 have c:=fun w=>DParts_ok l w hn oP hb
 have hg:=(X9 l hu);have hfi:=abj l t;have SE:∀a b,a≤b→b<(dA l).length→bU t ((dA l).getD a ([],[],0)).1=true→bU t ((dA l).getD b ([],[],0)).1=true:=by
  intro a b Az hb h;have hf:=hg.firsts;have aD:(dA l).length=(eH l).length:=by unfold dA;rw[List.length_map]
  have lN:∀k,(hk:k<(dA l).length)→((dA l).getD k ([],[],0)).1=((eH l).map jh)[k]'(by rw[List.length_map];omega):=by
   intro k hk;have h1:(dA l)[k]?=((eH l)[k]?).map uH:=List.getElem?_map;rw[List.getD_eq_getElem?_getD,h1,List.getElem?_eq_getElem (show k<(eH l).length by omega),List.getElem_map]
   rfl
  rw[lN a (by omega)] at h
  rw[lN b hb];rcases Nat.eq_or_lt_of_le Az with e|e
  ·subst e;exact h
  ·rw[List.pairwise_iff_getElem] at hf
   exact(gu _ _).2 (List.lt_trans ((gu _ _).1 h) (hf _ _ _ _ e))
 have C:=Hd c;have HM:=Hd SE;have HFI:=Hd hfi;clear c SE hfi oP hg;go_enter Tryz.func172,Tryz.ntmps172;go_wp2_with fail;refine(C.out _).mono ?_;rintro e w1 ⟨v,rfl,ho,q1⟩;obtain⟨a,cap,rfl,lT⟩:∃a cap,v=.slice a (dA l).length cap∧(a=none∧(dA l).length=0∧cap=0∨(∃g,a=some ⟨g,0,none⟩∧(dA l).length≤cap)):=by
  rcases ho.2 with ⟨rfl,h0⟩|⟨g,cap,cur,rfl,_,_,Ud,_⟩
  ·exact⟨none,0,by rw[h0],.inl ⟨rfl,h0,rfl⟩⟩
  ·exact⟨_,cap,rfl,.inr ⟨g,rfl,Ud⟩⟩
 have EO:=(Blk.new w 9 #[ak t]).stays q1;have q1':=(Q.alloc w _).trans q1;have hN:w.heap.size<w1.heap.size:=by have:=q1.size;simp at this;omega
 have Gy:w1.cell? ⟨w.heap.size,0,none⟩=some (ak t):=EO.cell 0 _ rfl;have RO:∀W,(Instr.field 291 (.agg #[.slice a (dA l).length cap,ak [],.bool true]) 0).run Tryz.prog W=.ok (.slice a (dA l).length cap) W:=fun W=>aer a (dA l).length cap _ true W
 have bY:=Sl.of_owns ho;have oQ:=Blk.new w1 262 #[.slice a (dA l).length cap];have zf:=EO.alloc (.cells #[.slice a (dA l).length cap] 262);have gJ:=Q.alloc w1 (.cells #[.slice a (dA l).length cap] 262);have gQ:=Ho l;have cs:=VK 202 #[.pointer (some ⟨w1.heap.size,0,none⟩),.pointer (some ⟨w.heap.size,0,none⟩)] (dA l).length (fun i=>bU t ((dA l).getD i ([],[],0)).1) (w1.alloc (.cells #[.slice a (dA l).length cap] 262)) (enters_of Tryz.func202 (by kernel_rfl) rfl) (by omega)
  (fun i hi W hq=>by
   rcases lT with ⟨_,h0,_⟩|⟨g,rfl,_⟩
   ·omega
   ·have:=from1_any (dA l) t i w1.heap.size w.heap.size g cap W hi ((oQ.stays hq).cell 0 _ rfl) ((zf.stays hq).cell 0 _ rfl) ((bY.stays gJ).stays hq)
    rw[List.getD_eq_getElem?_getD,List.getElem?_eq_getElem hi,Option.getD_some];exact this)
  HM.out
 have yG:=Hd (bY.stays gJ);have aS:=Hd (q1'.trans gJ);have CS:=Hd cs;have zh:=Hd oQ;have sS:(dA l).length≤100000:=by omega
 clear EO ho q1 q1' bY oQ zf gJ gQ cs;go_wp2_with fail;refine CS.out.mono ?_;rintro e w2 ⟨⟨i,rfl,hi,BO,KQ⟩,q2⟩;have F4:=agP (fun p:y7=>bU t p.1) (dA l) ([],[],0) i hi BO KQ
 rw[HFI.out] at F4;have hj:kW (eH l) t=i-1:=by unfold kW;rw[F4]
 have HJ:=Hd hj;have FK:=yG.out.stays q2;have gJ:=aS.out.trans q2;have aO:=(zh.out.stays q2).cell 0 _ rfl;have ak6:=Hd FK;have bZ:=Hd gJ;clear BO KQ F4 hj FK gJ q2 yG aS CS C HM HFI;rcases lT with ⟨rfl,h0,rfl⟩|⟨g,rfl,uX⟩
 ·have Qq:i=0:=by omega
  subst Qq;have Bf:dA l=[]:=List.eq_nil_of_length_eq_zero h0;rw[h0] at aO RO ⊢;have Vb:=Hd Bf;clear Bf h0 hi;go_wp2_with fail;go_ret;refine⟨_,rfl,?_,bZ.out⟩;rw[Vb.out,List.drop_nil];exact Sl.nil _ _
 ·rcases Nat.eq_zero_or_pos i with rfl|hi1
  ·go_wp2_with fail
   go_ret;refine⟨_,rfl,?_,bZ.out⟩;rw[HJ.out,List.drop_zero];exact ak6.out
  ·obtain⟨j,rfl⟩:∃j,i=j+1:=⟨i-1,by omega⟩
   have aF:¬cap=j:=by omega
   rcases Nat.eq_zero_or_pos j with rfl|hj0
   ·go_wp2_with fail
    go_ret;refine⟨_,rfl,?_,bZ.out⟩;rw[HJ.out,show 0+1-1=0 by omega,List.drop_zero]
    exact ak6.out
   ·have Ck:((j+1:Nat):Int)-1=j:=by omega
    go_wp2_with fail;go_ret;refine⟨_,rfl,?_,bZ.out⟩;have h:=Sl.from_ (j:=j) ak6.out (by omega) g 0 rfl
    rw[abh,Nat.zero_add] at h;rw[HJ.out,show j+1-1=j by omega]
    first|exact h|(rw[List.length_drop];exact h)
def DOk(l:List aN):Prop:=dw [] l=true∧l.length≤1048576
theorem agQ(last:Bytes)(g:List aN)(h:∀e∈g,e.1.length≤40∧e.2.length≤4194304):(dU last g).length≤g.length*4194400:=by
 induction g generalizing last with
 | nil=>simp[dU]
 | cons e g ih =>
  have h1:=eP (dW last e.1);have h2:=iF (e.1.drop (dW last e.1));have h3:=iF e.2;have h4:=h e (by simp)
  have h5:=ih e.1 (fun x hx=>h x (by simp[hx]))
  rw[List.length_drop] at h2;rw[dU,List.length_append,List.length_append,List.length_append,List.length_cons,Nat.add_mul];omega
theorem DOk.parts{l:List aN}(h:DOk l):∀p∈dA l,p.1.length≤1000000∧p.2.1.length≤1073741824:=by
 obtain⟨_,h2⟩:=AZ _ _ h.1;intro p hp;obtain⟨g,hg,rfl⟩:=List.mem_map.1 hp;have vV:=Iw l g hg;have CQ:∀e∈g,e∈l:=fun e he=>by rw[←xW l.length l (Nat.le_refl _)];exact List.mem_flatten.2 ⟨g,hg,he⟩
 have hb:=agQ [] g (fun e he=>(h2 e (CQ e he)).2)
 have h16:g.length*4194400≤16*4194400:=Nat.mul_le_mul_right _ vV.2;refine⟨?_,by simp only[uH];omega⟩
 cases g with
 | nil=>exact absurd rfl vV.1
 | cons e g=>have:=(h2 e (CQ e (by simp))).2.1;simp only[uH,List.headD_cons];omega
theorem DOk.rise{l:List aN}(h:DOk l):(l.map (·.1)).Pairwise (·<·):=(AZ _ _ h.1).1
theorem DOk.small{l:List aN}(h:DOk l):∀e∈l,e.1.length≤1000000∧e.2.length≤1000000000:=fun e he=>by
 have:=(AZ _ _ h.1).2 e he;omega
theorem idxD_len(ps:List y7)(h:∀p∈ps,p.1.length≤1000000):(Fa ps).length≤ps.length*1000020:=by
 induction ps with
 | nil=>simp[Fa]
 | cons p ps ih =>
  have h1:=ih (fun x hx=>h x (by simp[hx]))
  have h2:=iF p.1;have h3:=eP p.2.1.length;have h4:=h p (by simp)
  simp only[Fa,List.flatMap_cons,List.length_append,List.length_cons,Nat.add_mul] at h1 ⊢;omega
theorem allD_len(ps:List y7)(h:∀p∈ps,p.2.1.length≤1073741824):(yU ps).length≤ps.length*1073741824:=by
 induction ps with
 | nil=>simp[yU]
 | cons p ps ih =>
  have h1:=ih (fun x hx=>h x (by simp[hx]))
  have h4:=h p (by simp)
  simp only[yU,List.flatMap_cons,List.length_append,List.length_cons,Nat.add_mul] at h1 ⊢;omega
theorem DOk.len{l:List aN}(h:DOk l):(kV l).length≤9223372036854775807:=by
 have h1:=idxD_len (dA l) (fun p hp=>(h.parts p hp).1)
 have h2:=allD_len (dA l) (fun p hp=>(h.parts p hp).2)
 have h3:=Ho l;have h4:=eP l.length;have h5:(dA l).length≤65537:=by have:=h.2;omega
 have h6:(dA l).length*1000020≤65537*1000020:=Nat.mul_le_mul_right _ h5;have h7:(dA l).length*1073741824≤65537*1073741824:=Nat.mul_le_mul_right _ h5;rw[Ls,List.length_append,List.length_append];omega
theorem DOk.group{l:List aN}(h:DOk l){g:List aN}(hg:g∈eH l):g≠[]∧g.length≤16∧(∀e∈g,e.1.length≤1000000∧e.2.length≤1000000000)∧(dU [] g).length≤9223372036854775807:=by
 have CQ:∀e∈g,e∈l:=fun e he=>by rw[←xW l.length l (Nat.le_refl _)];exact List.mem_flatten.2 ⟨g,hg,he⟩
 have hp:=h.parts (uH g) (List.mem_map.2 ⟨g,hg,rfl⟩);exact⟨(Iw l g hg).1,(Iw l g hg).2,fun e he=>h.small e (CQ e he),by have:(uH g).2.1=dU [] g:=rfl;rw[this] at hp;omega⟩
theorem NK(a:Option Addr)(n cap:Nat)(s:ByteArray)(b:Bool)(w:World):(Instr.field 268 (.agg #[.slice a n cap,.string s,.bool b]) 0).run Tryz.prog w=.ok (.slice a n cap) w:=by
 kernel_rfl
theorem SN(l:List aN)(j:Nat):(dA l).drop j=((eH l).drop j).map uH:=by unfold dA;rw[List.map_drop]
theorem DGet_ok(l:List aN)(t:Bytes)(w:World)(h:DOk l):
  Calls Tryz.prog 145 #[.string ⟨(kV l).toArray⟩,ak t] w fun e w'=>e=.returned (.tuple #[ak ((mO l t).getD []),.bool (mO l t).isSome])∧Q w w':=by
 have c:=abk l t w h.2 h.rise h.parts h.len;have hfg:∀g,(eH l)[kW (eH l) t]?=some g→mO l t=mO g t:=fun g hg=>by
  rw[←get_group _ (X9 l h.rise) t g hg,xW _ _ (Nat.le_refl _)]
 rw[SN,List.length_map] at c;have C:=Hd c;have HG:=Hd hfg;have HH:=Hd h;clear c hfg h;go_enter Tryz.func145,Tryz.ntmps145;go_wp2_with fail;refine C.out.mono ?_;rintro e w1 ⟨v,rfl,hs,q1⟩;have HS:=Hd hs;have aC:=Hd q1;obtain⟨bY,a,cap,rfl,aJ⟩:=hs;clear q1 bY;cases OG:(eH l).drop (kW (eH l) t) with
 | nil =>
  have fE:mO l t=none:=by
   have h0:(eH l).length≤kW (eH l) t:=by
    have:=congrArg List.length OG;rw[List.length_drop,List.length_nil] at this;omega
   have h1:kW (eH l) t≤(eH l).length-1:=by
    have:=List.findIdx_le_length (p:=fun g=>bU t (jh g)) (xs:=eH l)
    unfold kW;omega
   have h2:eH l=[]:=List.eq_nil_of_length_eq_zero (by omega)
   have h3:l=[]:=by rw[←xW l.length l (Nat.le_refl _),show mQ l.length l=[] from h2];rfl
   rw[h3];rfl
  have nN:=Hd fE;clear fE aJ;rw[OG] at HS;go_wp2_with fail;go_ret2;exact⟨by rw[nN.out];rfl,aC.out⟩
 | cons g gs =>
  rw[OG] at aJ;obtain⟨b,off,rfl,hc⟩:=aJ (by simp)
  have e0:=hc 0 (ak (jh g)) rfl;rw[Nat.add_zero] at e0;have e1:=hc 1 (ak (dU [] g)) rfl;have e2:=hc 2 (.int .i64 g.length) rfl;have BJ:(eH l)[kW (eH l) t]?=some g:=by
   have:=congrArg (fun x=>x[0]?) OG
   simpa using this
  have hfe:=HG.out g BJ;obtain⟨gh1,gh2,gh3,gh4⟩:=HH.out.group (List.mem_of_getElem? BJ);have c:=fun f w=>SL f g w (by omega) gh3 gh4
  have C:=Hd c;have HFE:=Hd hfe;clear c hfe hc aJ BJ gh3 HG HS HH;generalize dU [] g=bs at *;generalize jh g=hd at *;go_wp2_with fail;refine(C.out _ _).mono ?_;rintro e w2 ⟨v2,rfl,ho,q2⟩;obtain⟨a2,cap2,rfl,lT⟩:=aT ho;have RO:∀W,(Instr.field 268 (.agg #[.slice a2 g.length cap2,ak [],.bool true]) 0).run Tryz.prog W=.ok (.slice a2 g.length cap2) W:=fun W=>NK a2 g.length cap2 _ true W
  have sU:Pairs w2 (.slice a2 g.length cap2) g:=Sl.of_owns ho;have HP:=Hd sU;have aS:=Hd (aC.out.trans q2);clear ho q2 C aC e0 e1 e2 sU;go_wp2_with fail;go_loopw [21] (fun i wr=>∃(k:Nat),k≤g.length∧i=.int .i64 k∧Hid (mO g t=mO (g.drop k) t)∧Hid (Pairs wr (.slice a2 g.length cap2) g)∧Hid (Q w wr)) (fun i _=>g.length-(intOf i).toNat)
  case atStart=>exact⟨0,by omega,rfl,rfl,HP.out,aS.out⟩
  case round =>
   obtain⟨k,hk,rfl,HF,HP,HQ⟩:=hrel;obtain⟨wo,rfl⟩:∃wo:World,wo=wr:=⟨_,rfl⟩;by_cases hlt:k<g.length
   ·obtain⟨a3,c3,e3,zO⟩:=HP.out.value
    cases e3;obtain⟨b3,o3,rfl,hc⟩:=zO (by omega)
    obtain⟨gX,dM⟩:=hc k hlt;have Xf:mO (g.drop k) t=if g[k].1==t then some g[k].2 else mO (g.drop (k+1)) t:=by
     rw[List.drop_eq_getElem_cons hlt];unfold mO;rw[List.find?_cons];cases g[k].1==t<;>rfl
    generalize g[k]=e at *;obtain⟨x,v⟩:=e;simp only at gX dM Xf;have Qr:=Hd Xf;clear hc zO Xf;by_cases hx:x=t
    ·subst hx
     have hf:mO l x=some v:=by rw[HFE.out,HF.out,Qr.out];simp
     have Ga:=Hd hf;clear hf;go_wp2_with fail;go_ret2;exact⟨by rw[Ga.out];rfl,HQ.out.trans (Q.alloc _ _)⟩
    ·have hxb:(x==t)=false:=by simpa using hx
     have hf:mO g t=mO (g.drop (k+1)) t:=by rw[HF.out,Qr.out,hxb];rfl
     have Ga:=Hd hf;clear hf;go_wp2_with fail;go_roundw;case rel=>exact⟨k+1,by omega,by go_num,Ga,HP.out.stays (Q.alloc _ _),HQ.out.trans (Q.alloc _ _)⟩
     case measure=>simp[intOf];omega
   ·have jL:k=g.length:=by omega
    have fE:mO l t=none:=by rw[HFE.out,HF.out,List.drop_eq_nil_of_le (by omega)];rfl
    have nN:=Hd fE;clear fE;go_wp2_with fail;go_ret2;exact⟨by rw[nN.out];rfl,HQ.out⟩
theorem SQ(s p:Bytes)(h:p.length≤s.length):(s.take p.length==p)=p.isPrefixOf s:=by
 rw[Bool.eq_iff_iff,beq_iff_eq,List.isPrefixOf_iff_prefix,List.prefix_iff_eq_take];exact eq_comm
theorem Ya(s p:Bytes)(w:World)(hs:s.length≤9223372036854775807)(hp:p.length≤9223372036854775807):
  Calls Tryz.prog 188 #[.string ⟨s.toArray⟩,.string ⟨p.toArray⟩] w fun e w'=>e=.returned (.bool (p.isPrefixOf s))∧Q w w':=by
 by_cases h:p.length≤s.length
 ·have hx:({ data:=s.toArray }:ByteArray).extract 0 p.length=⟨(s.take p.length).toArray⟩:=og s _
  have hb:(s.take p.length==p)=p.isPrefixOf s:=SQ s p h;have hl:(p.length:Int)≤s.length:=by omega
  go_enter Tryz.func188,Tryz.ntmps188;go_wp2_with fail;go_ret;exact⟨rfl,Q.refl _⟩
 ·have hb:p.isPrefixOf s=false:=by
   rw[Bool.eq_false_iff];intro h2;exact h (List.isPrefixOf_iff_prefix.1 h2).length_le
  have HB:=Hd hb;clear hb;go_enter Tryz.func188,Tryz.ntmps188;go_wp2_with fail;go_ret;exact⟨by rw[HB.out];rfl,Q.refl _⟩
theorem Hq(s p:Bytes)(w:World)(hs:s.length≤9223372036854775807)(hp:p.length≤9223372036854775807):
  Calls Tryz.prog 173 #[.string ⟨s.toArray⟩,.string ⟨p.toArray⟩] w fun e w'=>e=.returned (.bool (p.isPrefixOf s))∧Q w w':=by
 have C:=Hd (Ya s p w hs hp);go_enter Tryz.func173,Tryz.ntmps173;go_wp2_with fail;refine C.out.mono ?_;rintro e w1 ⟨rfl,q1⟩;go_wp2_with fail;go_ret;exact⟨rfl,q1⟩
theorem agR{α:Type}(l:List (List α))(h:∀w∈l,w≠[]):l.length≤l.flatten.length:=by
 induction l with
 | nil=>simp
 | cons a l ih =>
  have:=ih (fun w hw=>h w (by simp[hw]))
  have ha:=List.length_pos_iff.2 (h a (by simp))
  rw[List.flatten_cons,List.length_append,List.length_cons];omega
theorem sl_kept{w w':World}{b off cap n size:Nat}{xs:List Value}(h:Sl w (.slice (some ⟨b,off,none⟩) n cap) n size xs){base:Nat}{e:TypeId}{size':Nat}{v:Value}{m:Nat}{ys:List Value}(hb:b<base)(ho:w.ownsRow base e size' v m ys)(hg:w.grownBy w' v.ownBlock):
  Sl w' (.slice (some ⟨b,off,none⟩) n cap) n size xs:=by
 obtain⟨h1,a',c',e',h3⟩:=h;cases e';refine⟨h1,_,_,rfl,fun hn=>?_⟩
 obtain⟨b',o',e',h5⟩:=h3 hn;cases e';exact⟨b,off,rfl,fun j u hj=>agE ho hg hb (h5 j u hj)⟩
theorem agS(l:List aN)(p:Bytes)(w:World)(h:DOk l)(hp:p.length≤1000000000):
  Calls Tryz.prog 138 #[.string ⟨(kV l).toArray⟩,ak p] w fun e w'=>∃v,e=.returned v∧w'.ownsRow w.heap.size 231 2 v (l.filter (fun e=>p.isPrefixOf e.1)).length (dV (l.filter (fun e=>p.isPrefixOf e.1)))∧Q w w':=by
 obtain⟨i0,hi,fJ,eU,fD⟩:=info_parts tinfoE;have c:=abk l p w h.2 h.rise h.parts h.len;have rG:=aep p (eH l) (X9 l h.rise);rw[xW _ _ (Nat.le_refl _)] at rG;rw[←rG];have ak7:∀g∈(eH l).drop (kW (eH l) p),_:=fun g hg=>h.group (List.mem_of_mem_drop hg)
 have aiO:((eH l).drop (kW (eH l) p)).flatten.length≤1048576:=by
  have h1:=xW l.length l (Nat.le_refl _);have h2:(eH l).flatten.length=((eH l).take (kW (eH l) p)).flatten.length+((eH l).drop (kW (eH l) p)).flatten.length:=by
   rw[←List.length_append,←List.flatten_append,List.take_append_drop]
  rw[show(eH l).flatten=l from h1] at h2
  have:=h.2;omega
 rw[SN,List.length_map] at c;generalize (eH l).drop (kW (eH l) p)=gs at *;have AA:gs.length≤1048576:=Nat.le_trans (agR gs (fun g hg=>(ak7 g hg).1)) aiO
 have C:=Hd c;have HG:=Hd ak7;clear c rG ak7 h;go_enter Tryz.func138,Tryz.ntmps138;go_wp2_with fail;refine C.out.mono ?_;rintro e w1 ⟨v,rfl,hs,q1⟩;have su:=Hd hs;have aC:=Hd q1;have R4:w.heap.size≤w1.heap.size:=q1.size;obtain⟨bY,a,cap,rfl,aJ⟩:=hs;clear q1 bY aJ;go_wp2_with fail;go_loopw [5,14] (fun lv i wr=>∃(k:Nat) (out:List aN),k≤gs.length∧i=.int .i64 k∧Hid (wr.ownsRow w1.heap.size 231 2 lv out.length (dV out))∧Hid (wJ p gs=out++wJ p (gs.drop k))∧Hid (out.length≤(gs.take k).flatten.length) ∧
  Hid (Sl wr (.slice a gs.length cap) gs.length 3 (ig (gs.map uH)))∧Hid (Q w wr)∧w1.heap.size≤wr.heap.size) (fun _ i _=>gs.length-(intOf i).toNat)
 case atStart=>exact⟨0,[],by omega,rfl,World.ownsRow_nil _ _ _ _,rfl,by show _≤_;simp,su.out,aC.out,Nat.le_refl _⟩
 case round =>
  obtain⟨k,out,hk,rfl,HO,Cg,HL,HS,HQ,Fb⟩:=hrel;obtain⟨wo,rfl⟩:∃wo:World,wo=wr:=⟨_,rfl⟩;by_cases hlt:k<gs.length
  ·obtain⟨b,off,rfl,hc⟩:∃b off,a=some ⟨b,off,none⟩∧∀j u,(ig (gs.map uH))[j]?=some u→wo.cell? ⟨b,off+j,none⟩=some u:=by
    obtain⟨_,a',c',e,h3⟩:=HS.out;cases e;exact h3 (by omega)
   have hbN:b<w1.heap.size:=by
    obtain⟨_,a',c',e,h3⟩:=su.out;cases e;obtain⟨b',o',e',h5⟩:=h3 (by omega)
    cases e';exact cK (h5 _ _ (NJ (gs.map uH) k (by rw[List.length_map];exact hlt)).1)
   have yH:=NJ (gs.map uH) k (by rw[List.length_map];exact hlt)
   rw[List.getElem_map] at yH;have e0:=hc _ _ yH.1;have e1:=hc _ _ yH.2.1;have e2:=hc _ _ yH.2.2;rw[←Nat.add_assoc] at e1 e2;have Gb:=HG.out gs[k] (List.getElem_mem hlt);have EP:wJ p (gs.drop k)=if bU p (jh gs[k]) && !p.isPrefixOf (jh gs[k]) then [] else gs[k].filter (fun e=>p.isPrefixOf e.1)++wJ p (gs.drop (k+1)):=by
    rw[List.drop_eq_getElem_cons hlt,wJ]
   have Xf:(gs.take (k+1)).flatten.length=(gs.take k).flatten.length+gs[k].length:=by
    rw[List.take_succ_eq_append_getElem hlt,List.flatten_append,List.length_append];simp
   have Xg:(gs.take (k+1)).flatten.length≤gs.flatten.length:=by
    conv=>rhs;rw[←List.take_append_drop (k+1) gs,List.flatten_append,List.length_append]
    omega
   simp only[uH] at e0 e1 e2;rw[show(gs[k].headD ([],[])).1=jh gs[k] from rfl] at e0
   generalize gs[k]=g at *;obtain⟨gh1,gh2,gh3,gh4⟩:=Gb;have OH:(jh g).length≤1000000:=by
    cases g with
    | nil=>exact absurd rfl gh1
    | cons x g=>exact(gh3 x (by simp)).1
   have cE:=fun f w=>SL f g w (by omega) gh3 gh4
   have cP:=fun w=>Hq (jh g) p w (by omega) (by omega)
   have Nh:=VL (jh g) p;have CE:=Hd cE;have CP:=Hd cP;have Gc:=Hd EP;have R6:=Hd gh3;have Qr:=Hd Xf;have Gd:=Hd Xg;clear cE cP EP hc yH gh3 Xf Xg;generalize dU [] g=bs at *;generalize jh g=hd at *;cases hl:bU p hd with
   | false =>
    rw[hl] at Nh;have uY:wJ p (gs.drop k)=g.filter (fun e=>p.isPrefixOf e.1)++wJ p (gs.drop (k+1)):=by rw[Gc.out,hl];rfl
    have Nj:=Hd uY;clear uY hl;go_wp2_with fail;have o3:=HO.out.alloc (.cells #[ak hd,ak bs,.int .i64 g.length] 265);have s3:=HS.out.stays (Q.alloc _ (.cells #[ak hd,ak bs,.int .i64 g.length] 265));have q3:=HQ.out.trans (Q.alloc _ (.cells #[ak hd,ak bs,.int .i64 g.length] 265));have zi:=Hd o3;have oU:=Hd s3;have bZ:=Hd q3;clear o3 s3 q3 HO HS HQ;have Oq:w1.heap.size≤(wo.alloc (.cells #[ak hd,ak bs,.int .i64 g.length] 265)).heap.size:=by simp;omega
    generalize wo.alloc (.cells #[ak hd,ak bs,.int .i64 g.length] 265)=W3 at *;refine(CE.out _ _).mono ?_;rintro e w4 ⟨v2,rfl,ho,q4⟩;obtain⟨B3,cap2,rfl,hB3⟩:∃B3 cap2,v2=.slice (some ⟨B3,0,none⟩) g.length cap2∧W3.heap.size≤B3:=by
     obtain⟨a2,cap2,rfl,lT⟩:=aT ho;obtain⟨B3,rfl⟩:=lT (List.length_pos_iff.2 gh1);exact⟨B3,cap2,rfl,(ho.lt B3 rfl).1⟩
    have RO:∀W,(Instr.field 268 (.agg #[.slice (some ⟨B3,0,none⟩) g.length cap2,ak [],.bool true]) 0).run Tryz.prog W=.ok (.slice (some ⟨B3,0,none⟩) g.length cap2) W:=fun W=>NK _ g.length cap2 _ true W
    have hB4:B3<w4.heap.size:=(ho.lt B3 rfl).2;have vS:=ownsRow_below zi.out q4;have vN:=oU.out.stays q4;have KR:=bZ.out.trans q4;have acR:∀g',u5.ownBlock=some g'→g'≠B3:=fun g' e' e2=>by have:=(zi.out.lt g' e').2;omega
    have Gz:w1.heap.size≤W3.heap.size:=Oq;have HE4:=Hd (dO ho Gz);have ZK:=Hd vS;have BP:=Hd vN;have pF:=Hd KR;have Xd:=Hd acR;clear ho vS vN KR acR q4 zi oU bZ CE CP;go_wp2_with fail;go_loopw [5,33] (fun lv i wr=>∃(j:Nat) (o2:List aN),j≤g.length∧i=.int .i64 j∧Hid (wr.ownsRow w1.heap.size 231 2 lv o2.length (dV o2))∧Hid (o2=out++(g.take j).filter (fun e=>p.isPrefixOf e.1)) ∧
     Hid (wr.ownsRow w1.heap.size 231 2 (.slice (some ⟨B3,0,none⟩) g.length cap2) g.length (dV g))∧Hid (∀g',lv.ownBlock=some g'→g'≠B3)∧B3<wr.heap.size∧w1.heap.size≤wr.heap.size ∧
     Hid (Sl wr (.slice (some ⟨b,off,none⟩) gs.length cap) gs.length 3 (ig (gs.map uH)))∧Hid (Q w wr)) (fun _ i _=>g.length-(intOf i).toNat)
    case atStart=>exact⟨0,out,by omega,rfl,ZK.out,by show _=_;simp,HE4.out,Xd.out,hB4,by omega,BP.out,pF.out⟩
    case round =>
     obtain⟨j,o2,hj,rfl,sw,xg,Xh,sI,hBJ,hsJ,sM,Xi⟩:=hrel;obtain⟨wj,rfl⟩:∃wj:World,wj=wr:=⟨_,rfl⟩;by_cases iI:j<g.length
     ·have xk:=Gn g j iI
      have x0:=(Xh.out.cellAt (j*2) (by omega)).trans xk.1
      have x1:=(Xh.out.cellAt (j*2+1) (by omega)).trans xk.2
      have OG:=R6.out _ (List.getElem_mem iI);have gU:(g.take (j+1)).filter (fun e=>p.isPrefixOf e.1)=(g.take j).filter (fun e=>p.isPrefixOf e.1)++(if p.isPrefixOf g[j].1 then [g[j]] else []):=by
       rw[List.take_succ_eq_append_getElem iI,List.filter_append];congr 1;cases hb:p.isPrefixOf g[j].1<;>simp[hb]
      have sD:o2.length≤1048576:=by
       have h1:((g.take j).filter (fun e=>p.isPrefixOf e.1)).length≤g.length:=Nat.le_trans (List.length_filter_le _ _) (by rw[List.length_take];omega)
       have h2:=congrArg List.length xg.out;rw[List.length_append] at h2;have h3:=HL.out;have h4:=Qr.out;have h5:=Gd.out;omega
      generalize g[j]=e at *;obtain⟨t,x⟩:=e;simp only at x0 x1 OG gU;have cP:=fun w=>Hq t p w (by omega) (by omega)
      have CP:=Hd cP;have qV:=Hd gU;clear cP gU xk;go_wp2_with fail;refine(CP.out _).mono ?_;rintro e w5 ⟨rfl,q5⟩;have Gr:=(Blk.new wj 231 #[ak t,ak x]).stays q5;have o5:=ownsRow_below (sw.out.alloc (.cells #[ak t,ak x] 231)) q5;have e5:=ownsRow_below (Xh.out.alloc (.cells #[ak t,ak x] 231)) q5;have s5:=(sM.out.stays (Q.alloc _ (.cells #[ak t,ak x] 231))).stays q5;have qq5:=(Xi.out.trans (Q.alloc _ (.cells #[ak t,ak x] 231))).trans q5;have GA:B3<w5.heap.size:=by have:=q5.size;simp at this;omega
      have sP:w1.heap.size≤w5.heap.size:=by have:=q5.size;simp at this;omega
      obtain⟨y0,y1,_⟩:=Gr.c2;have EM:=Hd o5;have tF:=Hd e5;have Qs:=Hd s5;have mZ:=Hd qq5;clear Gr o5 e5 s5 qq5 q5 x0 x1 sw Xh sM Xi;cases hb:p.isPrefixOf t with
      | false =>
       have he:o2=out++(g.take (j+1)).filter (fun e=>p.isPrefixOf e.1):=by rw[qV.out,hb,xg.out];simp
       have HE:=Hd he;clear he hb;go_wp2_with fail;go_roundw;case rel=>exact⟨j+1,o2,by omega,by go_num,EM,HE,tF,sI,GA,sP,Qs,mZ⟩
       case measure=>simp[intOf];omega
      | true =>
       have he:o2++[(t,x)]=out++(g.take (j+1)).filter (fun e=>p.isPrefixOf e.1):=by rw[qV.out,hb,xg.out];simp
       have HE:=Hd he;clear he hb;have aQ:=EM.out;go_wp2_with (at_builtin;go_must (refine cZ w5 (by rfl) _ _ 229 (by rfl) w1.heap.size 231 _ i0 (.agg #[ak [],ak []]) 2 32 Tryz.underlying229 hi fJ eU fD rfl (by decide) (by decide) _ _ _ (by rfl) aQ #[ak t,ak x] (by simp[Act.eval]) rfl ?c1 ?c2 sP ?_))
       case c1=>simp[Value.oneCell']
       case c2=>omega
       intro g6 cap6 w6 aW dB iL uz tq;have aF:∀g',Value.ownBlock (.slice (some ⟨g6,0,none⟩) (o2.length+1) cap6)=some g'→g'≠B3:=by
        intro g' e' e2;have e3:g6=g':=by simpa[Value.ownBlock] using e'
        subst e3;rcases iL with h|h
        ·exact sI.out g6 h e2
        ·omega
       have e6:=tF.out.kept dB (.inr (fun e'=>sI.out B3 e'.symm rfl))
       have s6:=sl_kept Qs.out hbN aQ dB;have q6:Q w w6:=aL mZ.out aQ dB (by omega) (by omega)
       have hB6:B3<w6.heap.size:=Nat.lt_of_lt_of_le GA dB.size;rw[show dV o2++(#[ak t,ak x]:Array Value).toList=dV (o2++[(t,x)]) from(yA o2 (t,x)).symm] at aW
       rw[show o2.length+1=(o2++[(t,x)]).length by simp] at aW
       have jP:w1.heap.size≤w6.heap.size:=Nat.le_trans sP dB.size;have rH:=Hd aW;have GD:=Hd e6;have zQ:=Hd s6;have fQ:=Hd q6;have HN6:=Hd aF;have BO:(o2++[(t,x)]).length=o2.length+1:=by simp
       clear aW e6 s6 q6 aF aQ dB iL EM tF Qs mZ;go_wp2_with fail;go_roundw;case rel=>exact⟨j+1,o2++[(t,x)],by omega,by go_num,by rw[BO] at rH ⊢;exact rH,HE,GD,HN6,hB6,jP,zQ,fQ⟩
       case measure=>simp[intOf];omega
     ·have Ck:j=g.length:=by omega
      subst Ck;have he:o2=out++g.filter (fun e=>p.isPrefixOf e.1):=by rw[xg.out,List.take_length]
      have ZL:wJ p gs=o2++wJ p (gs.drop (k+1)):=by rw[Cg.out,Nj.out,he,List.append_assoc]
      have sD:o2.length≤(gs.take (k+1)).flatten.length:=by
       rw[Qr.out,he,List.length_append];have:=List.length_filter_le (fun e:aN=>p.isPrefixOf e.1) g
       have:=HL.out;omega
      have ak8:=Hd ZL;have Im:=Hd sD;clear he ZL sD xg;go_wp2_with fail;go_roundw;case rel=>exact⟨k+1,o2,by omega,by go_num,sw,ak8,Im,sM,Xi,hsJ⟩
      case measure=>simp[intOf];omega
   | true =>
    rw[hl] at Nh;go_wp2_with fail;refine(CP.out _).mono ?_;rintro e W3 ⟨rfl,q3⟩;have b3:=(Blk.new wo 265 #[ak hd,ak bs,.int .i64 g.length]).stays q3;have o3:=ownsRow_below (HO.out.alloc (.cells #[ak hd,ak bs,.int .i64 g.length] 265)) q3;have s3:=(HS.out.stays (Q.alloc _ (.cells #[ak hd,ak bs,.int .i64 g.length] 265))).stays q3;have qq3:=(HQ.out.trans (Q.alloc _ (.cells #[ak hd,ak bs,.int .i64 g.length] 265))).trans q3;obtain⟨z0,z1,z2,_⟩:=b3.c3;have Oq:w1.heap.size≤W3.heap.size:=by have:=q3.size;simp at this;omega
    have zi:=Hd o3;have oU:=Hd s3;have bZ:=Hd qq3;clear b3 o3 s3 qq3 q3 HO HS HQ e0 e1 e2;cases hb:p.isPrefixOf hd with
    | false =>
     have uY:wJ p gs=out:=by rw[Cg.out,Gc.out,hl,hb];simp
     have Nj:=Hd uY;clear uY hl hb;go_wp2_with fail;go_ret;exact⟨_,rfl,by rw[Nj.out];exact dO zi.out R4,bZ.out⟩
    | true =>
     have uY:wJ p (gs.drop k)=g.filter (fun e=>p.isPrefixOf e.1)++wJ p (gs.drop (k+1)):=by rw[Gc.out,hl,hb];rfl
     have Nj:=Hd uY;clear uY hl hb;go_wp2_with fail;refine(CE.out _ _).mono ?_;rintro e w4 ⟨v2,rfl,ho,q4⟩;obtain⟨B3,cap2,rfl,hB3⟩:∃B3 cap2,v2=.slice (some ⟨B3,0,none⟩) g.length cap2∧W3.heap.size≤B3:=by
      obtain⟨a2,cap2,rfl,lT⟩:=aT ho;obtain⟨B3,rfl⟩:=lT (List.length_pos_iff.2 gh1);exact⟨B3,cap2,rfl,(ho.lt B3 rfl).1⟩
     have RO:∀W,(Instr.field 268 (.agg #[.slice (some ⟨B3,0,none⟩) g.length cap2,ak [],.bool true]) 0).run Tryz.prog W=.ok (.slice (some ⟨B3,0,none⟩) g.length cap2) W:=fun W=>NK _ g.length cap2 _ true W
     have hB4:B3<w4.heap.size:=(ho.lt B3 rfl).2;have vS:=ownsRow_below zi.out q4;have vN:=oU.out.stays q4;have KR:=bZ.out.trans q4;have acR:∀g',u5.ownBlock=some g'→g'≠B3:=fun g' e' e2=>by have:=(zi.out.lt g' e').2;omega
     have Gz:w1.heap.size≤W3.heap.size:=Oq;have HE4:=Hd (dO ho Gz);have ZK:=Hd vS;have BP:=Hd vN;have pF:=Hd KR;have Xd:=Hd acR;clear ho vS vN KR acR q4 zi oU bZ CE CP;go_wp2_with fail;go_loopw [5,33] (fun lv i wr=>∃(j:Nat) (o2:List aN),j≤g.length∧i=.int .i64 j∧Hid (wr.ownsRow w1.heap.size 231 2 lv o2.length (dV o2))∧Hid (o2=out++(g.take j).filter (fun e=>p.isPrefixOf e.1)) ∧
      Hid (wr.ownsRow w1.heap.size 231 2 (.slice (some ⟨B3,0,none⟩) g.length cap2) g.length (dV g))∧Hid (∀g',lv.ownBlock=some g'→g'≠B3)∧B3<wr.heap.size∧w1.heap.size≤wr.heap.size ∧
      Hid (Sl wr (.slice (some ⟨b,off,none⟩) gs.length cap) gs.length 3 (ig (gs.map uH)))∧Hid (Q w wr)) (fun _ i _=>g.length-(intOf i).toNat)
     case atStart=>exact⟨0,out,by omega,rfl,ZK.out,by show _=_;simp,HE4.out,Xd.out,hB4,by omega,BP.out,pF.out⟩
     case round =>
      obtain⟨j,o2,hj,rfl,sw,xg,Xh,sI,hBJ,hsJ,sM,Xi⟩:=hrel;obtain⟨wj,rfl⟩:∃wj:World,wj=wr:=⟨_,rfl⟩;by_cases iI:j<g.length
      ·have xk:=Gn g j iI
       have x0:=(Xh.out.cellAt (j*2) (by omega)).trans xk.1
       have x1:=(Xh.out.cellAt (j*2+1) (by omega)).trans xk.2
       have OG:=R6.out _ (List.getElem_mem iI);have gU:(g.take (j+1)).filter (fun e=>p.isPrefixOf e.1)=(g.take j).filter (fun e=>p.isPrefixOf e.1)++(if p.isPrefixOf g[j].1 then [g[j]] else []):=by
        rw[List.take_succ_eq_append_getElem iI,List.filter_append];congr 1;cases hb:p.isPrefixOf g[j].1<;>simp[hb]
       have sD:o2.length≤1048576:=by
        have h1:((g.take j).filter (fun e=>p.isPrefixOf e.1)).length≤g.length:=Nat.le_trans (List.length_filter_le _ _) (by rw[List.length_take];omega)
        have h2:=congrArg List.length xg.out;rw[List.length_append] at h2;have h3:=HL.out;have h4:=Qr.out;have h5:=Gd.out;omega
       generalize g[j]=e at *;obtain⟨t,x⟩:=e;simp only at x0 x1 OG gU;have cP:=fun w=>Hq t p w (by omega) (by omega)
       have CP:=Hd cP;have qV:=Hd gU;clear cP gU xk;go_wp2_with fail;refine(CP.out _).mono ?_;rintro e w5 ⟨rfl,q5⟩;have Gr:=(Blk.new wj 231 #[ak t,ak x]).stays q5;have o5:=ownsRow_below (sw.out.alloc (.cells #[ak t,ak x] 231)) q5;have e5:=ownsRow_below (Xh.out.alloc (.cells #[ak t,ak x] 231)) q5;have s5:=(sM.out.stays (Q.alloc _ (.cells #[ak t,ak x] 231))).stays q5;have qq5:=(Xi.out.trans (Q.alloc _ (.cells #[ak t,ak x] 231))).trans q5;have GA:B3<w5.heap.size:=by have:=q5.size;simp at this;omega
       have sP:w1.heap.size≤w5.heap.size:=by have:=q5.size;simp at this;omega
       obtain⟨y0,y1,_⟩:=Gr.c2;have EM:=Hd o5;have tF:=Hd e5;have Qs:=Hd s5;have mZ:=Hd qq5;clear Gr o5 e5 s5 qq5 q5 x0 x1 sw Xh sM Xi;cases hb:p.isPrefixOf t with
       | false =>
        have he:o2=out++(g.take (j+1)).filter (fun e=>p.isPrefixOf e.1):=by rw[qV.out,hb,xg.out];simp
        have HE:=Hd he;clear he hb;go_wp2_with fail;go_roundw;case rel=>exact⟨j+1,o2,by omega,by go_num,EM,HE,tF,sI,GA,sP,Qs,mZ⟩
        case measure=>simp[intOf];omega
       | true =>
        have he:o2++[(t,x)]=out++(g.take (j+1)).filter (fun e=>p.isPrefixOf e.1):=by rw[qV.out,hb,xg.out];simp
        have HE:=Hd he;clear he hb;have aQ:=EM.out;go_wp2_with (at_builtin;go_must (refine cZ w5 (by rfl) _ _ 229 (by rfl) w1.heap.size 231 _ i0 (.agg #[ak [],ak []]) 2 32 Tryz.underlying229 hi fJ eU fD rfl (by decide) (by decide) _ _ _ (by rfl) aQ #[ak t,ak x] (by simp[Act.eval]) rfl ?c1 ?c2 sP ?_))
        case c1=>simp[Value.oneCell']
        case c2=>omega
        intro g6 cap6 w6 aW dB iL uz tq;have aF:∀g',Value.ownBlock (.slice (some ⟨g6,0,none⟩) (o2.length+1) cap6)=some g'→g'≠B3:=by
         intro g' e' e2;have e3:g6=g':=by simpa[Value.ownBlock] using e'
         subst e3;rcases iL with h|h
         ·exact sI.out g6 h e2
         ·omega
        have e6:=tF.out.kept dB (.inr (fun e'=>sI.out B3 e'.symm rfl))
        have s6:=sl_kept Qs.out hbN aQ dB;have q6:Q w w6:=aL mZ.out aQ dB (by omega) (by omega)
        have hB6:B3<w6.heap.size:=Nat.lt_of_lt_of_le GA dB.size;rw[show dV o2++(#[ak t,ak x]:Array Value).toList=dV (o2++[(t,x)]) from(yA o2 (t,x)).symm] at aW
        rw[show o2.length+1=(o2++[(t,x)]).length by simp] at aW
        have jP:w1.heap.size≤w6.heap.size:=Nat.le_trans sP dB.size;have rH:=Hd aW;have GD:=Hd e6;have zQ:=Hd s6;have fQ:=Hd q6;have HN6:=Hd aF;have BO:(o2++[(t,x)]).length=o2.length+1:=by simp
        clear aW e6 s6 q6 aF aQ dB iL EM tF Qs mZ;go_wp2_with fail;go_roundw;case rel=>exact⟨j+1,o2++[(t,x)],by omega,by go_num,by rw[BO] at rH ⊢;exact rH,HE,GD,HN6,hB6,jP,zQ,fQ⟩
        case measure=>simp[intOf];omega
      ·have Ck:j=g.length:=by omega
       subst Ck;have he:o2=out++g.filter (fun e=>p.isPrefixOf e.1):=by rw[xg.out,List.take_length]
       have ZL:wJ p gs=o2++wJ p (gs.drop (k+1)):=by rw[Cg.out,Nj.out,he,List.append_assoc]
       have sD:o2.length≤(gs.take (k+1)).flatten.length:=by
        rw[Qr.out,he,List.length_append];have:=List.length_filter_le (fun e:aN=>p.isPrefixOf e.1) g
        have:=HL.out;omega
       have ak8:=Hd ZL;have Im:=Hd sD;clear he ZL sD xg;go_wp2_with fail;go_roundw;case rel=>exact⟨k+1,o2,by omega,by go_num,sw,ak8,Im,sM,Xi,hsJ⟩
       case measure=>simp[intOf];omega
  ·have jL:k=gs.length:=by omega
   subst jL;have uY:wJ p gs=out:=by rw[Cg.out,List.drop_length];simp[wJ]
   have Nj:=Hd uY;clear uY;go_wp2_with fail;go_ret;exact⟨_,rfl,by rw[Nj.out];exact dO HO.out aC.out.size,HQ.out⟩
structure Turn (own:Nat→Prop) (A B:World):Prop where
 os:B.os=A.os
 tape:B.tape=A.tape
 output:B.output=A.output
 size:A.heap.size≤B.heap.size
 block:∀k,k<A.heap.size→¬own k→B.heap[k]?=A.heap[k]?
theorem Turn.refl(own:Nat→Prop)(A:World):Turn own A A:=⟨rfl,rfl,rfl,Nat.le_refl _,fun _ _ _=>rfl⟩
theorem Turn.trans{own:Nat→Prop}{A B C:World}(h:Turn own A B)(k:Turn own B C):Turn own A C :=
 ⟨k.os.trans h.os,k.tape.trans h.tape,k.output.trans h.output,Nat.le_trans h.size k.size,fun i h1 h2=>(k.block i (Nat.lt_of_lt_of_le h1 h.size) h2).trans (h.block i h1 h2)⟩
theorem Turn.of_q{own:Nat→Prop}{A B:World}(h:Q A B):Turn own A B:=⟨h.os,h.tape,h.output,h.size,fun k h1 _=>h.block k h1⟩
theorem Turn.mono{own own':Nat→Prop}{A B:World}(h:Turn own A B)(ho:∀k,own k→own' k):Turn own' A B:=⟨h.os,h.tape,h.output,h.size,fun k h1 h2=>h.block k h1 (fun e=>h2 (ho k e))⟩
theorem Turn.setCell{own:Nat→Prop}{A B:World}(h:Turn own A B){a:Addr}(ha:own a.block∨A.heap.size≤a.block)(v:Value):Turn own A (B.setCell a v) :=
 ⟨h.os,h.tape,h.output,Nat.le_trans h.size (KeepsWalks.setCell B a v).size,fun k h1 h2=>(Below.heap_setCell _ _ _ _ (fun e=>by
  rcases ha with ha|ha
  ·exact h2 (by rw[e];exact ha)
  ·omega)).trans (h.block k h1 h2)⟩
theorem Turn.below{own:Nat→Prop}{A B:World}{n:Nat}{w:World}(h:Turn own A B)(hw:Below n w A)(hn:n≤A.heap.size)(ho:∀k,own k→n≤k):Below n w B :=
 hw.trans ⟨h.os,h.tape,h.output,h.size,fun k hk=>h.block k (by omega) (fun e=>by have:=ho k e;omega)⟩
theorem Turn.itk{own:Nat→Prop}{lo:Nat}{A B:World}(h:Turn own A B):Itk own lo A B :=
 ⟨h.os,h.tape,h.output,h.size,fun k _ h2 h3=>h.block k h2 h3,fun k o h1 _ h3=>(h.block k (aU h1) h3).trans h1⟩
theorem Turn.blk{own:Nat→Prop}{A B:World}(h:Turn own A B){k:Nat}{t:TypeId}{cs:Array Value}(hb:Blk A k t cs)(ho:¬own k):Blk B k t cs:=(h.block k hb.lt ho).trans hb
theorem Turn.get{own:Nat→Prop}{A B:World}(h:Turn own A B){k:Nat}{o:Obj}(hb:A.heap[k]?=some o)(ho:¬own k):B.heap[k]?=some o:=(h.block k (aU hb) ho).trans hb
theorem Turn.owns{own:Nat→Prop}{A B:World}(h:Turn own A B){base:Nat}{e:TypeId}{size:Nat}{v:Value}{n:Nat}{xs:List Value}(hr:A.ownsRow base e size v n xs)(ho:∀g,v.ownBlock=some g→¬own g):B.ownsRow base e size v n xs:=(h.itk (lo:=0)).owns hr ho
theorem Turn.grown{own:Nat→Prop}{A B C:World}(h:Turn own A B){v:Value}{base:Nat}{e:TypeId}{size n:Nat}{xs:List Value}(hr:B.ownsRow base e size v n xs)(hg:B.grownBy C v.ownBlock)(hb:A.heap.size≤base):Turn own A C :=
 ⟨hg.os.trans h.os,hg.tape.trans h.tape,hg.output.trans h.output,Nat.le_trans h.size hg.size,fun k h1 h2=>(hg.block k (Nat.lt_of_lt_of_le h1 h.size) (fun e'=>by have:=(hr.lt k e'.symm).1;omega)).trans (h.block k h1 h2)⟩
end
end Go.Proofs.YthijhicdmnoifaaGreatDoor
