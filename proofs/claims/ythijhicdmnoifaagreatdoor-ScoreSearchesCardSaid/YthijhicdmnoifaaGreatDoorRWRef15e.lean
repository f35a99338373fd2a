/- Joined texts of one proof. -/
import Derived.Test.YthijhicdmnoifaaGreatDoorRWRef15b
set_option linter.unusedSimpArgs false
set_option linter.unusedVariables false
set_option linter.unnecessarySimpa false
set_option maxRecDepth 100000
set_option maxHeartbeats 8000000
namespace Go.Proofs.YthijhicdmnoifaaGreatDoor
section
open Go.RowKit
theorem Qe(l:List jY)(k:Nat):(bn l).take (k*2)=bn (l.take k):=by
 induction l generalizing k with
 | nil=>simp[bn]
 | cons x l ih =>
  cases k with
  | zero=>simp[bn]
  | succ k =>
   have:=ih k;simp only[bn,List.flatMap_cons,List.take_succ_cons] at this ⊢;rw[show(k+1)*2=k*2+1+1 by omega]
   simp[this]
theorem Ju(l:List jY)(k:Nat):(bn l).drop (k*2)=bn (l.drop k):=by
 induction l generalizing k with
 | nil=>simp[bn]
 | cons x l ih =>
  cases k with
  | zero=>simp[bn]
  | succ k =>
   have:=ih k;simp only[bn,List.flatMap_cons,List.drop_succ_cons] at this ⊢;rw[show(k+1)*2=k*2+1+1 by omega]
   simp[this]
theorem Sl.one{w:World}{v:Value}{n size:Nat}{xs:List Value}(h:Sl w v n size xs):v.oneCell'=true:=by
 obtain⟨_,a,c,rfl,_⟩:=h;rfl
theorem L9{w:World}{l:List jY}(h:∀p∈l,Docs w p.1 p.2.2.1∧Bools w p.2.1 p.2.2.2):∀u∈bn l,u.oneCell'=true:=by
 intro u hu;obtain⟨p,hp,hu⟩:=List.mem_flatMap.1 hu;have:=h p hp;simp only[List.mem_cons,List.not_mem_nil,or_false] at hu;rcases hu with rfl|rfl
 ·exact Sl.one this.1
 ·exact Sl.one this.2
theorem own_lit0P(W:World)(base:Nat)(hb:base≤W.heap.size):(W.alloc (.cells #[] 94)).ownsRow base 94 2 (.slice (some ⟨W.heap.size,0,none⟩) 0 0) 0 (bn []):=⟨rfl,.inr ⟨W.heap.size,0,#[],rfl,hb,heap_alloc_new _ _,Nat.le_refl _,by decide,rfl,rfl⟩⟩
theorem afI(v:Value)(l:List jY)(i j:Nat)(w:World)(hv:PartsM w v l)(hn:l.length≤1000)(hl:∀p∈l,RPartOk p.2.2)(tQ:i<j)(iI:j<l.length)
  (bD:fV (pU (((l.map rOf).take (j+1)).drop i))) (ayn:(pU (((l.map rOf).take (j+1)).drop i)).length≤1000000) :
  Calls Tryz.prog 21 #[v,.int .i64 i,.int .i64 j] w fun e w'=>SB w (pY (l.map rOf) i j) e w':=by
 obtain⟨a,cap,rfl,aJ⟩:=hv.value;have zT:=hv.2.2 _ _ _ rfl;obtain⟨b,off,rfl,bC⟩:=aJ (by omega)
 have hR:pY (l.map rOf) i j=if 500<(pU (((l.map rOf).take (j+1)).drop i)).length then(l.map rOf,[],6) else((l.map rOf).take i++(yD (pU (((l.map rOf).take (j+1)).drop i))++(l.map rOf).drop (j+1)),(if pU (((l.map rOf).take (j+1)).drop i)=[] then [] else jV (pU (((l.map rOf).take (j+1)).drop i)) (Ci (pU (((l.map rOf).take (j+1)).drop i)))),0):=by
  unfold pY;rw[if_neg (by rw[List.length_map];omega)];simp only[Int.toNat_natCast]
 have i1:¬(i:Int)<0:=by omega
 have i2:¬(j:Int)≤(i:Int):=by omega
 have i3:¬(l.length:Int)≤(j:Int):=by omega
 have i4:¬cap=i:=by omega
 have i5:(i:Int)≤(j:Int)+1:=by omega
 have i6:(j:Int)+1≤(cap:Int):=by omega
 have i7:(i:Int)≤(cap:Int):=by omega
 have CQ:PartsM w (.slice (some ⟨b,off+i*2,none⟩) (j+1-i) (cap-i)) ((l.take (j+1)).drop i):=by
  refine⟨?_,fun p hp=>hv.2.1 p (List.mem_of_mem_take (List.mem_of_mem_drop hp)),fun _ _ _ e=>by cases e;omega⟩
  have h:=MW (FB hv.1 (j+1) (by omega)) i (by omega) (off+i*2) (cap-i) rfl
  rw[Qe,Ju] at h;have e:((l.take (j+1)).drop i).length=j+1-i:=by rw[List.length_drop,List.length_take];omega
  rw[e];exact h
 have cd:=fun W (q:Q w W)=>afF _ _ W (CQ.stays q) (by rw[List.length_drop,List.length_take];omega) (fun p hp=>⟨(hl p (List.mem_of_mem_take (List.mem_of_mem_drop hp))).1,(hl p (List.mem_of_mem_take (List.mem_of_mem_drop hp))).len.1⟩)
 rw[List.map_drop,List.map_take] at cd;generalize pU (((l.map rOf).take (j+1)).drop i)=dl at *;have CD:=Hd cd;have HR:=Hd hR;have HV:=Hd hv;clear cd hR hv aJ bC hl CQ;generalize pY (l.map rOf) i j=R at *;go_enter Tryz.func21,Tryz.ntmps21;go_wp2_with fail;refine(CD.out w (Q.refl _)).mono ?_;rintro e w1 ⟨dv,rfl,EU,q1⟩;obtain⟨da,dc,JF,_⟩:=aT EU;subst JF;have OU:=Hd EU;have aC:=Hd q1;clear EU q1 CD;by_cases h5:500<dl.length
 ·have Nu:=HR.out
  rw[if_pos h5] at Nu;have qj:=Hd Nu;clear Nu HR;go_wp2_with fail;go_ret3;exact⟨⟨_,l,by rw[qj.out];rfl,HV.out.stays aC.out,by rw[qj.out]⟩,aC.out⟩
 ·have Nu:=HR.out
  rw[if_neg h5] at Nu;have qj:=Hd Nu;clear Nu HR;have h5':dl.length≤500:=by omega
  clear h5;have gJ:=Q.alloc w1 (.cells #[] 94);have wX:=(HV.out.stays aC.out).stays gJ;have kE:=FB wX.1 i (by omega)
  rw[Qe] at kE;have ani:=L9 (fun p hp=>wX.2.1 p (List.mem_of_mem_take (i:=i) hp))
  have jI:=own_lit0P w1 w1.heap.size (Nat.le_refl _);have ru:0+i≤maxLen:=by unfold maxLen;omega
  have nH:(0+i)*48≤140737488355328:=by omega
  have fC:w1.heap.size≤(w1.alloc (.cells #[] 94)).heap.size:=by simp
  have Ep:=Hd kE;have anj:=Hd ani;have rF:=Hd jI;have aS:=Hd (aC.out.trans gJ);have ad2:=Hd gJ;clear kE ani jI gJ wX;obtain⟨ip,BN,vG,vH,vI⟩:=info_parts p9;obtain⟨ib,Pp,ajo,ajp,ajq⟩:=info_parts tinfoB4;go_wp2_with (at_builtin;go_must (refine jq (w1.alloc (.cells #[] 94)) (by rfl) _ _ 32 (by rfl) w1.heap.size 94 ip (.agg #[.slice none 0 0,.slice none 0 0]) 2 48 Tryz.underlying32 BN vG vH vI rfl (by decide) _ _ _ (by rfl) rF.out _ _ _ (by rfl) Ep.out anj.out ru nH fC ?_))
  intro v3 w3 zY Q9 aup;have zY:w3.ownsRow w1.heap.size 94 2 v3 i (bn (l.take i)):=by simpa using zY
  have q13:Q w1 w3:=ad2.out.grown Q9 fC (fun k hk=>by simp[Value.ownBlock] at hk;omega)
  obtain⟨a3,c3,Nw,_⟩:=aT zY;subst Nw;have zi:=Hd zY;have ad3:=Hd q13;have bZ:=Hd (aC.out.trans q13);clear zY Q9 aup q13 Ep anj rF aS ad2 ru nH fC;by_cases hz:dl.length=0
  ·have Bf:dl=[]:=List.eq_nil_of_length_eq_zero hz
   clear bD;subst Bf;have ND:=zi;have GZ:=bZ;have zU:=Hd ad3.out.size;have hlt:(l.take i).length=i:=by rw[List.length_take];omega
   have Lc:=Hd hlt;have sJ:∀W8,w3.grownBy W8 (Value.slice a3 i c3).ownBlock→Q w W8→∀p∈l.take i,Docs W8 p.1 p.2.2.1∧Bools W8 p.2.1 p.2.2.2:=fun W8 _ q p hp=>(HV.out.stays q).2.1 p (List.mem_of_mem_take hp)
   have XR:(l.take i++l.drop (j+1)).map rOf=(l.map rOf).take i++([]++(l.map rOf).drop (j+1)):=by rw[List.map_append,List.map_take,List.map_drop];rfl
   have Bg:=Hd sJ;have Aw:=Hd XR;clear hlt sJ XR;have XT:=L9 (fun p hp=>(HV.out.stays GZ.out).2.1 p (List.mem_of_mem_drop (i:=j+1) hp))
   have OB:=Hd XT;have fC:w1.heap.size≤w3.heap.size:=zU.out;clear XT;by_cases JI:l.length=j+1
   ·have FU:∀(A:Option Addr) (c:Nat),Sl w3 (.slice A 0 c) 0 2 (bn (l.drop (j+1))):=fun A c=>by
     rw[List.drop_eq_nil_of_le (by omega)];exact Jc w3 _ _ _
    have aD:(l.take i++l.drop (j+1)).length=i+0:=by rw[List.length_append,Lc.out,List.length_drop];omega
    have ru:i+0≤maxLen:=by unfold maxLen;omega
    have nH:(i+0)*48≤140737488355328:=by omega
    have OC:=Hd FU;have Ic:=Hd aD;have HJN:=Hd JI;have fJ:l.length-(j+1)=0:=by omega
    have i8:(j:Int)+1≤(l.length:Int):=by omega
    clear FU aD;by_cases OY:cap=j+1
    ·have alM:=OY
     subst alM;go_wp2_with (at_builtin;go_must (refine jq w3 (by rfl) _ _ 32 (by rfl) w1.heap.size 94 ip (.agg #[.slice none 0 0,.slice none 0 0]) 2 48 Tryz.underlying32 BN vG vH vI rfl (by decide) _ _ _ (by rfl) ND.out _ 0 _ (by rfl) (OC.out _ _) OB.out ru nH fC ?_))
     intro v8 w8 xQ zZ JR;have q8:Q w w8:=(aL GZ.out ND.out zZ aC.out.size GZ.out.size:Below w.heap.size w w8);have uQ:w8.ownsRow w1.heap.size 94 2 v8 (l.take i++l.drop (j+1)).length (bn (l.take i++l.drop (j+1))):=by
      have e:bn (l.take i++l.drop (j+1))=bn (l.take i)++bn (l.drop (j+1)):=by simp[bn]
      rw[e,Ic.out];first|exact xQ|simpa[bn] using xQ
     have uS:∀p∈l.take i++l.drop (j+1),Docs w8 p.1 p.2.2.1∧Bools w8 p.2.1 p.2.2.2:=by
      intro p hp;rcases List.mem_append.1 hp with hp|hp
      ·exact Bg.out w8 zZ q8 p hp
      ·exact(HV.out.stays q8).2.1 p (List.mem_of_mem_drop hp)
     have EJ:=Hd uS;have oW:=Hd uQ;have wu:=Hd q8;clear uS uQ q8 xQ zZ JR;go_wp2_with fail;go_ret3;refine⟨⟨_,l.take i++l.drop (j+1),by rw[qj.out];rfl,⟨Sl.of_owns oW.out,EJ.out,fun a n c e=>?_⟩,?_⟩,wu.out⟩
     ·obtain⟨a',c',Dn⟩:∃a' c',v8=.slice a' (l.take i++l.drop (j+1)).length c':=by obtain⟨a',c',h,_⟩:=aT oW.out;exact⟨a',c',h⟩
      have Rx:=oW.out;subst Dn;have e':Value.slice a' (l.take i++l.drop (j+1)).length c'=.slice a n c:=e;cases e';exact(o8 Rx).1
     ·first|(rw[qj.out,Aw.out];done)|(rw[qj.out,Aw.out];rfl)
    ·clear JI
     go_wp2_with (at_builtin;go_must (refine jq w3 (by rfl) _ _ 32 (by rfl) w1.heap.size 94 ip (.agg #[.slice none 0 0,.slice none 0 0]) 2 48 Tryz.underlying32 BN vG vH vI rfl (by decide) _ _ _ (by rfl) ND.out _ 0 _ (by rfl) (OC.out _ _) OB.out ru nH fC ?_))
     intro v8 w8 xQ zZ JR;have q8:Q w w8:=(aL GZ.out ND.out zZ aC.out.size GZ.out.size:Below w.heap.size w w8);have uQ:w8.ownsRow w1.heap.size 94 2 v8 (l.take i++l.drop (j+1)).length (bn (l.take i++l.drop (j+1))):=by
      have e:bn (l.take i++l.drop (j+1))=bn (l.take i)++bn (l.drop (j+1)):=by simp[bn]
      rw[e,Ic.out];first|exact xQ|simpa[bn] using xQ
     have uS:∀p∈l.take i++l.drop (j+1),Docs w8 p.1 p.2.2.1∧Bools w8 p.2.1 p.2.2.2:=by
      intro p hp;rcases List.mem_append.1 hp with hp|hp
      ·exact Bg.out w8 zZ q8 p hp
      ·exact(HV.out.stays q8).2.1 p (List.mem_of_mem_drop hp)
     have EJ:=Hd uS;have oW:=Hd uQ;have wu:=Hd q8;clear uS uQ q8 xQ zZ JR;go_wp2_with fail;go_ret3;refine⟨⟨_,l.take i++l.drop (j+1),by rw[qj.out];rfl,⟨Sl.of_owns oW.out,EJ.out,fun a n c e=>?_⟩,?_⟩,wu.out⟩
     ·obtain⟨a',c',Dn⟩:∃a' c',v8=.slice a' (l.take i++l.drop (j+1)).length c':=by obtain⟨a',c',h,_⟩:=aT oW.out;exact⟨a',c',h⟩
      have Rx:=oW.out;subst Dn;have e':Value.slice a' (l.take i++l.drop (j+1)).length c'=.slice a n c:=e;cases e';exact(o8 Rx).1
     ·first|(rw[qj.out,Aw.out];done)|(rw[qj.out,Aw.out];rfl)
   ·have OY:¬cap=j+1:=by omega
    have FU:=MW (HV.out.stays GZ.out).1 (j+1) (by omega) (off+(j+1)*2) (cap-(j+1)) rfl
    rw[Ju] at FU;have aD:(l.take i++l.drop (j+1)).length=i+(l.length-(j+1)):=by rw[List.length_append,Lc.out,List.length_drop]
    have ru:i+(l.length-(j+1))≤maxLen:=by unfold maxLen;omega
    have nH:(i+(l.length-(j+1)))*48≤140737488355328:=by omega
    have OC:=Hd FU;have Ic:=Hd aD;have i8:(j:Int)+1≤(l.length:Int):=by omega
    clear FU aD JI;go_wp2_with (at_builtin;go_must (refine jq w3 (by rfl) _ _ 32 (by rfl) w1.heap.size 94 ip (.agg #[.slice none 0 0,.slice none 0 0]) 2 48 Tryz.underlying32 BN vG vH vI rfl (by decide) _ _ _ (by rfl) ND.out _ (l.length-(j+1)) _ (by rfl) (OC.out) OB.out ru nH fC ?_))
    intro v8 w8 xQ zZ JR;have q8:Q w w8:=(aL GZ.out ND.out zZ aC.out.size GZ.out.size:Below w.heap.size w w8);have uQ:w8.ownsRow w1.heap.size 94 2 v8 (l.take i++l.drop (j+1)).length (bn (l.take i++l.drop (j+1))):=by
     have e:bn (l.take i++l.drop (j+1))=bn (l.take i)++bn (l.drop (j+1)):=by simp[bn]
     rw[e,Ic.out];first|exact xQ|simpa[bn] using xQ
    have uS:∀p∈l.take i++l.drop (j+1),Docs w8 p.1 p.2.2.1∧Bools w8 p.2.1 p.2.2.2:=by
     intro p hp;rcases List.mem_append.1 hp with hp|hp
     ·exact Bg.out w8 zZ q8 p hp
     ·exact(HV.out.stays q8).2.1 p (List.mem_of_mem_drop hp)
    have EJ:=Hd uS;have oW:=Hd uQ;have wu:=Hd q8;clear uS uQ q8 xQ zZ JR;go_wp2_with fail;go_ret3;refine⟨⟨_,l.take i++l.drop (j+1),by rw[qj.out];rfl,⟨Sl.of_owns oW.out,EJ.out,fun a n c e=>?_⟩,?_⟩,wu.out⟩
    ·obtain⟨a',c',Dn⟩:∃a' c',v8=.slice a' (l.take i++l.drop (j+1)).length c':=by obtain⟨a',c',h,_⟩:=aT oW.out;exact⟨a',c',h⟩
     have Rx:=oW.out;subst Dn;have e':Value.slice a' (l.take i++l.drop (j+1)).length c'=.slice a n c:=e;cases e';exact(o8 Rx).1
    ·first|(rw[qj.out,Aw.out];done)|(rw[qj.out,Aw.out];rfl)
  ·have aF:dl≠[]:=fun e=>hz (by rw[e];rfl)
   have Ux:=(Sl.of_owns OU.out).stays ad3.out;have yX:∀d∈dl,d.1.length≤9223372036854775807∧d.2.length≤9223372036854775807:=fun d hd=>by
    have:=oI (bD.1 d hd);omega
   have hb:(oH dl).1=jV dl (Ci dl):=by unfold oH;rw[if_neg (by omega),if_pos bD,idx_eq]
   have cb:=WS _ dl w3 Ux (by omega) yX
   rw[hb] at cb;have CB:=Hd cb;have uZ:=Hd aF;clear cb hb Ux yX aF bD;generalize jV dl (Ci dl)=sg at *;go_wp2_with fail;refine CB.out.mono ?_;rintro e w5 ⟨rfl,q5⟩;obtain⟨w6,JG,dR,uo⟩:=run_make_full (P:=Tryz.prog) w5 w1.heap.size 92 4 ib (.bool false) 1 Tryz.underlying92 Pp ajo ajp .i64 .i64 dl.length (by rw[ajq];omega) (by unfold maxLen;omega) (by have:=(ad3.out.trans q5).size;omega)
   rw[WU] at dR;have q6:Q w5 w6:=Below.grown (Below.refl _ _) uo (Nat.le_refl _) (fun k hk=>by simp at hk)
   have Le:=ownsRow_below zi.out (q5.trans q6);have ad1:=ownsRow_below OU.out (ad3.out.trans (q5.trans q6));have aY:w1.heap.size≤w6.heap.size:=(ad3.out.trans (q5.trans q6)).size;have oV:=Hd dR;have fQ:=Hd (bZ.out.trans (q5.trans q6));have alL:=Hd ad1;clear dR ad1 q5 q6 uo;go_wp2_with (at_builtin;go_must (refine cZ w6 (by rfl) _ _ 32 (by rfl) w1.heap.size 94 _ ip (.agg #[.slice none 0 0,.slice none 0 0]) 2 48 Tryz.underlying32 BN vG vH vI rfl (by decide) (by decide) _ _ _ (by rfl) Le #[.slice da dl.length dc,.slice (some ⟨w5.heap.size,0,none⟩) dl.length dl.length] (by simp[Act.eval]) rfl ?c1 ?c2 aY ?_))
   case c1=>simp[Value.oneCell']
   case c2=>omega
   intro g7 cap7 w7 XQ xB OA ap2 ada;have q7:Q w w7:=(aL fQ.out Le xB aC.out.size fQ.out.size:Below w.heap.size w w7);have ap3:=iW alL.out Le xB (by decide)
   have ap4:=iW oV.out Le xB (by decide)
   have GZ:=Hd q7;have zU:=Hd (show w1.heap.size≤w7.heap.size by omega)
   generalize rU:((Value.slice da dl.length dc,Value.slice (some ⟨w5.heap.size,0,none⟩) dl.length dl.length,dl,List.replicate dl.length false):jY)=np at *;have hot:w7.ownsRow w1.heap.size 94 2 (.slice (some ⟨g7,0,none⟩) (i+1) cap7) (i+1) (bn (l.take i++[np])):=by
    rw[FC,←rU];simpa using XQ
   have ND:=Hd hot;have hlt:(l.take i++[np]).length=i+1:=by rw[List.length_append,List.length_take];simp;omega
   have Lc:=Hd hlt;have sJ:∀W8,w7.grownBy W8 (Value.slice (some ⟨g7,0,none⟩) (i+1) cap7).ownBlock→Q w W8→∀p∈l.take i++[np],Docs W8 p.1 p.2.2.1∧Bools W8 p.2.1 p.2.2.2:=fun W8 hg q p hp=>by
    rcases List.mem_append.1 hp with hp|hp
    ·exact(HV.out.stays q).2.1 p (List.mem_of_mem_take hp)
    ·rw[List.mem_singleton] at hp
     subst hp;subst rU;refine⟨Sl.of_owns (iW ap3 hot hg (by decide)),?_⟩
     have:=Sl.of_owns (iW ap4 hot hg (by decide))
     show Sl W8 _ (List.replicate dl.length false).length 1 _;rw[List.length_replicate];exact this
   have XR:((l.take i++[np])++l.drop (j+1)).map rOf=(l.map rOf).take i++(yD dl++(l.map rOf).drop (j+1)):=by
    rw[List.map_append,List.map_append,List.map_take,List.map_drop,List.append_assoc,←rU];unfold yD;rw[if_neg uZ.out];rfl
   have Bg:=Hd sJ;have Aw:=Hd XR;have Ir:=Hd rU;clear hlt sJ XR hot rU ap3 ap4 XQ xB OA Le q7 aY JG ap2 ada;have XT:=L9 (fun p hp=>(HV.out.stays GZ.out).2.1 p (List.mem_of_mem_drop (i:=j+1) hp))
   have OB:=Hd XT;have fC:w1.heap.size≤w7.heap.size:=zU.out;clear XT;by_cases JI:l.length=j+1
   ·have FU:∀(A:Option Addr) (c:Nat),Sl w7 (.slice A 0 c) 0 2 (bn (l.drop (j+1))):=fun A c=>by
     rw[List.drop_eq_nil_of_le (by omega)];exact Jc w7 _ _ _
    have aD:(l.take i++[np]++l.drop (j+1)).length=(i+1)+0:=by rw[List.length_append,Lc.out,List.length_drop];omega
    have ru:(i+1)+0≤maxLen:=by unfold maxLen;omega
    have nH:((i+1)+0)*48≤140737488355328:=by omega
    have OC:=Hd FU;have Ic:=Hd aD;have HJN:=Hd JI;have fJ:l.length-(j+1)=0:=by omega
    have i8:(j:Int)+1≤(l.length:Int):=by omega
    clear FU aD;by_cases OY:cap=j+1
    ·have alM:=OY
     subst alM;go_wp2_with (at_builtin;go_must (refine jq w7 (by rfl) _ _ 32 (by rfl) w1.heap.size 94 ip (.agg #[.slice none 0 0,.slice none 0 0]) 2 48 Tryz.underlying32 BN vG vH vI rfl (by decide) _ _ _ (by rfl) ND.out _ 0 _ (by rfl) (OC.out _ _) OB.out ru nH fC ?_))
     intro v8 w8 xQ zZ JR;have q8:Q w w8:=(aL GZ.out ND.out zZ aC.out.size GZ.out.size:Below w.heap.size w w8);have uQ:w8.ownsRow w1.heap.size 94 2 v8 (l.take i++[np]++l.drop (j+1)).length (bn (l.take i++[np]++l.drop (j+1))):=by
      have e:bn (l.take i++[np]++l.drop (j+1))=bn (l.take i++[np])++bn (l.drop (j+1)):=by simp[bn]
      rw[e,Ic.out];first|exact xQ|simpa[bn] using xQ
     have uS:∀p∈l.take i++[np]++l.drop (j+1),Docs w8 p.1 p.2.2.1∧Bools w8 p.2.1 p.2.2.2:=by
      intro p hp;rcases List.mem_append.1 hp with hp|hp
      ·exact Bg.out w8 zZ q8 p hp
      ·exact(HV.out.stays q8).2.1 p (List.mem_of_mem_drop hp)
     have EJ:=Hd uS;have oW:=Hd uQ;have wu:=Hd q8;clear uS uQ q8 xQ zZ JR;go_wp2_with fail;go_ret3;refine⟨⟨_,l.take i++[np]++l.drop (j+1),by rw[qj.out];simp only[if_neg uZ.out];rfl,⟨Sl.of_owns oW.out,EJ.out,fun a n c e=>?_⟩,?_⟩,wu.out⟩
     ·obtain⟨a',c',Dn⟩:∃a' c',v8=.slice a' (l.take i++[np]++l.drop (j+1)).length c':=by obtain⟨a',c',h,_⟩:=aT oW.out;exact⟨a',c',h⟩
      have Rx:=oW.out;subst Dn;have e':Value.slice a' (l.take i++[np]++l.drop (j+1)).length c'=.slice a n c:=e;cases e';exact(o8 Rx).1
     ·first|(rw[qj.out,Aw.out];done)|(rw[qj.out,Aw.out];rfl)
    ·clear JI
     go_wp2_with (at_builtin;go_must (refine jq w7 (by rfl) _ _ 32 (by rfl) w1.heap.size 94 ip (.agg #[.slice none 0 0,.slice none 0 0]) 2 48 Tryz.underlying32 BN vG vH vI rfl (by decide) _ _ _ (by rfl) ND.out _ 0 _ (by rfl) (OC.out _ _) OB.out ru nH fC ?_))
     intro v8 w8 xQ zZ JR;have q8:Q w w8:=(aL GZ.out ND.out zZ aC.out.size GZ.out.size:Below w.heap.size w w8);have uQ:w8.ownsRow w1.heap.size 94 2 v8 (l.take i++[np]++l.drop (j+1)).length (bn (l.take i++[np]++l.drop (j+1))):=by
      have e:bn (l.take i++[np]++l.drop (j+1))=bn (l.take i++[np])++bn (l.drop (j+1)):=by simp[bn]
      rw[e,Ic.out];first|exact xQ|simpa[bn] using xQ
     have uS:∀p∈l.take i++[np]++l.drop (j+1),Docs w8 p.1 p.2.2.1∧Bools w8 p.2.1 p.2.2.2:=by
      intro p hp;rcases List.mem_append.1 hp with hp|hp
      ·exact Bg.out w8 zZ q8 p hp
      ·exact(HV.out.stays q8).2.1 p (List.mem_of_mem_drop hp)
     have EJ:=Hd uS;have oW:=Hd uQ;have wu:=Hd q8;clear uS uQ q8 xQ zZ JR;go_wp2_with fail;go_ret3;refine⟨⟨_,l.take i++[np]++l.drop (j+1),by rw[qj.out];simp only[if_neg uZ.out];rfl,⟨Sl.of_owns oW.out,EJ.out,fun a n c e=>?_⟩,?_⟩,wu.out⟩
     ·obtain⟨a',c',Dn⟩:∃a' c',v8=.slice a' (l.take i++[np]++l.drop (j+1)).length c':=by obtain⟨a',c',h,_⟩:=aT oW.out;exact⟨a',c',h⟩
      have Rx:=oW.out;subst Dn;have e':Value.slice a' (l.take i++[np]++l.drop (j+1)).length c'=.slice a n c:=e;cases e';exact(o8 Rx).1
     ·first|(rw[qj.out,Aw.out];done)|(rw[qj.out,Aw.out];rfl)
   ·have OY:¬cap=j+1:=by omega
    have FU:=MW (HV.out.stays GZ.out).1 (j+1) (by omega) (off+(j+1)*2) (cap-(j+1)) rfl
    rw[Ju] at FU;have aD:(l.take i++[np]++l.drop (j+1)).length=(i+1)+(l.length-(j+1)):=by rw[List.length_append,Lc.out,List.length_drop]
    have ru:(i+1)+(l.length-(j+1))≤maxLen:=by unfold maxLen;omega
    have nH:((i+1)+(l.length-(j+1)))*48≤140737488355328:=by omega
    have OC:=Hd FU;have Ic:=Hd aD;have i8:(j:Int)+1≤(l.length:Int):=by omega
    clear FU aD JI;go_wp2_with (at_builtin;go_must (refine jq w7 (by rfl) _ _ 32 (by rfl) w1.heap.size 94 ip (.agg #[.slice none 0 0,.slice none 0 0]) 2 48 Tryz.underlying32 BN vG vH vI rfl (by decide) _ _ _ (by rfl) ND.out _ (l.length-(j+1)) _ (by rfl) (OC.out) OB.out ru nH fC ?_))
    intro v8 w8 xQ zZ JR;have q8:Q w w8:=(aL GZ.out ND.out zZ aC.out.size GZ.out.size:Below w.heap.size w w8);have uQ:w8.ownsRow w1.heap.size 94 2 v8 (l.take i++[np]++l.drop (j+1)).length (bn (l.take i++[np]++l.drop (j+1))):=by
     have e:bn (l.take i++[np]++l.drop (j+1))=bn (l.take i++[np])++bn (l.drop (j+1)):=by simp[bn]
     rw[e,Ic.out];first|exact xQ|simpa[bn] using xQ
    have uS:∀p∈l.take i++[np]++l.drop (j+1),Docs w8 p.1 p.2.2.1∧Bools w8 p.2.1 p.2.2.2:=by
     intro p hp;rcases List.mem_append.1 hp with hp|hp
     ·exact Bg.out w8 zZ q8 p hp
     ·exact(HV.out.stays q8).2.1 p (List.mem_of_mem_drop hp)
    have EJ:=Hd uS;have oW:=Hd uQ;have wu:=Hd q8;clear uS uQ q8 xQ zZ JR;go_wp2_with fail;go_ret3;refine⟨⟨_,l.take i++[np]++l.drop (j+1),by rw[qj.out];simp only[if_neg uZ.out];rfl,⟨Sl.of_owns oW.out,EJ.out,fun a n c e=>?_⟩,?_⟩,wu.out⟩
    ·obtain⟨a',c',Dn⟩:∃a' c',v8=.slice a' (l.take i++[np]++l.drop (j+1)).length c':=by obtain⟨a',c',h,_⟩:=aT oW.out;exact⟨a',c',h⟩
     have Rx:=oW.out;subst Dn;have e':Value.slice a' (l.take i++[np]++l.drop (j+1)).length c'=.slice a n c:=e;cases e';exact(o8 Rx).1
    ·first|(rw[qj.out,Aw.out];done)|(rw[qj.out,Aw.out];rfl)
theorem acC(v:Value)(l:List jY)(i j:Int)(w:World)(hv:PartsM w v l)(hn:l.length≤1000)(hl:∀p∈l,RPartOk p.2.2)(bD:eu ((l.map rOf).map toP)):
  Calls Tryz.prog 21 #[v,.int .i64 i,.int .i64 j] w fun e w'=>SB w (pY (l.map rOf) i j) e w':=by
 by_cases h:i<0∨j≤i∨(l.length:Int)≤j
 ·have hR:pY (l.map rOf) i j=(l.map rOf,[],1):=by unfold pY;rw[if_pos (by rw[List.length_map];exact h)]
  rw[hR];obtain⟨a,cap,rfl,_⟩:=hv.value;have HV:=Hd hv;clear hv hR hl bD;by_cases h1:i<0
  ·clear h
   go_enter Tryz.func21,Tryz.ntmps21;go_wp2_with fail;go_ret3;exact⟨⟨_,l,rfl,HV.out,rfl⟩,Q.refl _⟩
  ·by_cases h2:j≤i
   ·clear h
    go_enter Tryz.func21,Tryz.ntmps21;go_wp2_with fail;go_ret3;exact⟨⟨_,l,rfl,HV.out,rfl⟩,Q.refl _⟩
   ·have h3:(l.length:Int)≤j:=by omega
    clear h;go_enter Tryz.func21,Tryz.ntmps21;go_wp2_with fail;go_ret3;exact⟨⟨_,l,rfl,HV.out,rfl⟩,Q.refl _⟩
 ·obtain⟨n,rfl⟩:∃n:Nat,i=n:=⟨i.toNat,by omega⟩
  obtain⟨m,rfl⟩:∃m:Nat,j=m:=⟨j.toNat,by omega⟩
  have wY:∀r∈((l.map rOf).take (m+1)).drop n,RPartOk r:=fun r hr=>by
   obtain⟨p,hp,rfl⟩:=List.mem_map.1 (List.mem_of_mem_take (List.mem_of_mem_drop hr));exact hl p hp
  have EZ:=Jj _ n (m+1) bD;rw[←List.map_take,←List.map_drop] at EZ;have hd:=Fe _ EZ;rw[←U8 _ wY EZ.2] at hd;have aD:(pU (((l.map rOf).take (m+1)).drop n)).length≤1000000:=by
   rw[U8 _ wY EZ.2,←many_eq _ EZ.2,Cj _ EZ.2,Zx _ wY];have hb:∀rs:List jo,(∀r∈rs,RPartOk r)→(rs.flatMap Ce).length≤rs.length*500:=by
    intro rs;induction rs with
    | nil=>intro _;simp
    | cons r rs ih =>
     intro hr;have h1:=ih (fun x hx=>hr x (List.mem_cons_of_mem _ hx))
     have h2:(Ce r).length≤500:=by
      have:=(hr r (by simp)).len.1
      unfold Ce;rw[List.length_map];have:=List.length_filter_le (fun x:au×Bool => !x.2) (r.1.zip r.2)
      rw[List.length_zip] at this;omega
     rw[List.flatMap_cons,List.length_append,List.length_cons];omega
   have:=hb _ wY;have h3:(((l.map rOf).take (m+1)).drop n).length≤l.length:=by simp;omega
   omega
  exact afI v l n m w hv hn hl (by omega) (by omega) hd aD
abbrev CatX:=Value×Nat×List Value
def iJ(xs:List CatX)(k:Nat):Nat:=((xs.take k).map (fun x=>x.2.1)).sum
def tK(xs:List CatX)(k:Nat):List Value:=(xs.take k).flatMap (fun x=>x.2.2)
theorem TT(xs:List CatX)(k:Nat)(h:k<xs.length):iJ xs (k+1)=iJ xs k+xs[k].2.1:=by
 unfold iJ;rw[List.take_succ_eq_append_getElem h,List.map_append,List.sum_append];simp
theorem aaU(xs:List CatX)(k:Nat)(h:k<xs.length):tK xs (k+1)=tK xs k++xs[k].2.2:=by
 unfold tK;rw[List.take_succ_eq_append_getElem h,List.flatMap_append];simp
theorem Qg(xs:List CatX)(k:Nat):iJ xs k≤iJ xs xs.length:=by
 unfold iJ;rw[List.take_length];conv=>rhs;rw[←List.take_append_drop k xs,List.map_append,List.sum_append]
 omega
theorem WV(B off cap:Nat)(xs:List CatX)(w:World)(hc:∀k (h:k<xs.length),w.cell? ⟨B,off+k,none⟩=some xs[k].1∧Sl w xs[k].1 xs[k].2.1 2 xs[k].2.2∧∀u∈xs[k].2.2,u.oneCell'=true)(hl:xs.length≤1000)(hs:iJ xs xs.length≤1000000000):
  Calls Tryz.prog 48 #[.slice (some ⟨B,off,none⟩) xs.length cap] w fun e w'=>∃v',e=.returned v'∧w'.ownsRow w.heap.size 70 2 v' (iJ xs xs.length) (tK xs xs.length)∧Q w w':=by
 obtain⟨ip,BN,vG,vH,vI⟩:=info_parts iB;have HC:=Hd hc;clear hc;have cg:=Grow_nil (iJ xs xs.length) w hs;have CG:=Hd cg;clear cg;go_enter Tryz.func48,Tryz.ntmps48;go_wp2_with fail;go_loop [3,11] (fun n x=>∃k:Nat,x=.int .i64 (k:Nat)∧k≤xs.length∧n=.int .i64 (iJ xs k:Nat)) (fun _ x=>xs.length-(intOf x).toNat)
 case atStart=>exact⟨0,rfl,by omega,rfl⟩
 case round =>
  obtain⟨k,rfl,hk,rfl⟩:=hrel;have bR:=Qg xs k;by_cases hlt:k<xs.length
  ·obtain⟨hc,bY,_⟩:=HC.out k hlt
   have uw:=TT xs k hlt;have EH:=Qg xs (k+1);obtain⟨a,c,hv,_⟩:=bY.value;rw[hv] at hc;have qG:¬((iJ xs k:Int)+(xs[k].2.1:Int)<0):=by omega
   have GX:=Hd uw;have ai4:iJ xs k+xs[k].2.1≤1000000000:=by omega
   clear bY uw hv EH;go_wp2_with fail;go_round;case rel=>exact⟨k+1,by go_num,by omega,by rw[GX.out];go_num⟩
   case measure=>simp[intOf];omega
  ·have cO:k=xs.length:=by omega
   subst cO;go_wp2_with fail;refine CG.out.mono ?_;rintro e w1 ⟨gv,rfl,ho,q1⟩;have HO:=Hd ho;have HQ:=Hd q1;clear ho q1;go_wp2_with fail;have h0:w1.ownsRow w.heap.size 70 2 gv (iJ xs 0) (tK xs 0):=HO.out;have H0:=Hd h0;clear h0;go_loopw [6,27] (fun ov x wr=>∃k:Nat,x=.int .i64 (k:Nat)∧k≤xs.length∧Hid (wr.ownsRow w.heap.size 70 2 ov (iJ xs k) (tK xs k))∧Hid (Below w.heap.size w wr)) (fun _ x _=>xs.length-(intOf x).toNat)
   case atStart=>exact⟨0,rfl,by omega,H0,HQ⟩
   case round =>
    obtain⟨k,rfl,hk,HO,HB⟩:=hrel;obtain⟨wo,rfl⟩:∃wo:World,wo=wr:=⟨_,rfl⟩;by_cases hlt:k<xs.length
    ·obtain⟨hc,bY,jM⟩:=HC.out k hlt
     have uw:=TT xs k hlt;have xL:=aaU xs k hlt;have EH:=Qg xs (k+1);have hw:=ah HB.out hc;have EW:=bY.stays HB.out;have ho:=HO.out;have fC:=HB.out.size;have ai4:iJ xs k+xs[k].2.1≤1000000000:=by omega
     have ru:iJ xs k+xs[k].2.1≤maxLen:=by unfold maxLen;omega
     have gB:(iJ xs k+xs[k].2.1)*24≤140737488355328:=by omega
     have GX:=Hd uw;have HCU:=Hd xL;clear hc bY uw xL EH bR;generalize xs[k]=x at *;obtain⟨xv,xn,xl⟩:=x;simp only at hw EW jM ru gB ai4;go_wp2_with (at_builtin;go_must (refine jq wo (by rfl) _ _ 29 (by rfl) w.heap.size 70 ip (.agg #[.pointer none,ak []]) 2 24 Tryz.underlying29 BN vG vH vI rfl (by decide) _ _ _ (by rfl) ho _ _ _ (by rfl) EW jM ru gB fC ?_))
     intro v' w7 GU xB OA;have zn:Below w.heap.size w w7:=HB.out.grown xB fC (fun g hg=>(ho.lt g hg).1)
     have xQ:w7.ownsRow w.heap.size 70 2 v' (iJ xs (k+1)) (tK xs (k+1)):=by rw[GX.out,HCU.out];exact GU
     have HO8:=Hd xQ;have vY:=Hd zn;clear xQ zn GU xB OA ho EW hw;go_wp2_with fail;go_roundw;case rel=>exact⟨k+1,by go_num,by omega,HO8,vY⟩
     case measure=>simp[intOf];omega
    ·have cO:k=xs.length:=by omega
     subst cO;go_wp2_with fail;go_ret;exact⟨_,rfl,HO.out,HB.out⟩
theorem afJ(l:List Cb)(k:Nat):(iU l).take (k*2)=iU (l.take k):=by
 induction l generalizing k with
 | nil=>simp[iU]
 | cons d l ih =>
  have e:∀(d:Cb) l,iU (d::l)=.pointer (some ⟨d.1,0,none⟩)::ak d.2::iU l:=by intros;simp[iU]
  cases k with
  | zero=>simp[iU]
  | succ k =>
   have h2:(k+1)*2=k*2+1+1:=by omega
   rw[h2,e,List.take_succ_cons,List.take_succ_cons,List.take_succ_cons,e,ih]
theorem afK(l:List Cb)(k:Nat):(iU l).drop (k*2)=iU (l.drop k):=by
 induction l generalizing k with
 | nil=>simp[iU]
 | cons d l ih =>
  have e:∀(d:Cb) l,iU (d::l)=.pointer (some ⟨d.1,0,none⟩)::ak d.2::iU l:=by intros;simp[iU]
  cases k with
  | zero=>simp
  | succ k =>
   have h2:(k+1)*2=k*2+1+1:=by omega
   rw[h2,e,List.drop_succ_cons,List.drop_succ_cons,List.drop_succ_cons,ih]
theorem ZE(segs:List Nat)(gs:List Bytes)(lo hi:Nat):((iQ segs gs).take (hi*2)).drop (lo*2)=iQ ((segs.take hi).drop lo) ((gs.take hi).drop lo):=by
 unfold iQ;rw[afJ,afK,List.zip_eq_zipWith,List.take_zipWith,List.drop_zipWith];rfl
theorem SegsAt.cut{w:World}{segs:List Nat}{ps:List aG}(h:SegsAt w segs ps)(lo hi:Nat):SegsAt w ((segs.take hi).drop lo) ((ps.take hi).drop lo):=by
 intro i p q hp hq;rw[List.getElem?_drop,List.getElem?_take] at hp hq;split at hp
 ·rename_i hlt
  rw[if_pos hlt] at hq;exact h _ p q hp hq
 ·cases hp
theorem Ed{α:Type}(l:List α)(lo hi:Nat)(h2:hi≤l.length):((l.take hi).drop lo).length=hi-lo:=by
 rw[List.length_drop,List.length_take,Nat.min_eq_left h2]
theorem PartsAt.cut{w:World}{a:Option Addr}{cap:Nat}{ps:List aG}(h:PartsAt w (.slice a ps.length cap) ps)(lo hi:Nat)(h1:lo≤hi)(h2:hi≤ps.length):
  PartsAt w (.slice (if cap=lo then a else a.map (·.add (lo*2))) (hi-lo) (cap-lo)) ((ps.take hi).drop lo):=by
 obtain⟨segs,hl,hs,hr,hc⟩:=h.segs;have zT:=hc _ _ _ rfl;refine PartsAt.of ((segs.take hi).drop lo) ?_ (hs.cut lo hi) ?_ (fun x n c e=>by cases e;omega)
 ·rw[Ed _ _ _ (by omega),Ed _ _ _ h2]
 ·have:=Sl.cut hr lo hi h1 h2 zT
  rw[ZE,←List.map_take,←List.map_drop] at this;rw[Ed _ _ _ h2];exact this
theorem Merge_arg(a:Option Addr)(n cap:Nat)(i j:Int)(w:World)(h:i<0∨j≤i∨(n:Int)≤j):
  Calls Tryz.prog 20 #[iP (.slice a n cap),.int .i64 i,.int .i64 j] w fun e w'=>e=.returned (.tuple #[iP (.slice a n cap),ak [],.int .i64 1])∧Q w w':=by
 by_cases h1:i<0
 ·go_enter Tryz.func20,Tryz.ntmps20
  go_wp2_with fail;refine bodyPost_ret (v:=.tuple #[iP (.slice a n cap),ak [],.int .i64 1]) (by simp[results,Tryz.results20,go_sem]) rfl ⟨rfl,(Q.alloc _ _).trans (Q.alloc _ _)⟩
 ·by_cases h2:j≤i
  ·clear h
   go_enter Tryz.func20,Tryz.ntmps20;go_wp2_with fail;refine bodyPost_ret (v:=.tuple #[iP (.slice a n cap),ak [],.int .i64 1]) (by simp[results,Tryz.results20,go_sem]) rfl ⟨rfl,(Q.alloc _ _).trans (Q.alloc _ _)⟩
  ·have h3:(n:Int)≤j:=by omega
   clear h;go_enter Tryz.func20,Tryz.ntmps20;go_wp2_with fail;refine bodyPost_ret (v:=.tuple #[iP (.slice a n cap),ak [],.int .i64 1]) (by simp[results,Tryz.results20,go_sem]) rfl ⟨rfl,(Q.alloc _ _).trans (Q.alloc _ _)⟩
theorem Sl.take{w:World}{a:Option Addr}{n cap size:Nat}{xs:List Value}(h:Sl w (.slice a n cap) n size xs)(i:Nat)(h1:i≤n):Sl w (.slice a i cap) i size (xs.take (i*size)):=by
 obtain⟨hl,a',c',hv,hc⟩:=h;cases hv;refine⟨by rw[List.length_take,hl,Nat.min_eq_left (Nat.mul_le_mul_right _ h1)],_,_,rfl,fun hp=>?_⟩
 obtain⟨b,off,rfl,bC⟩:=hc (by omega)
 refine⟨b,off,rfl,fun j u hj=>?_⟩
 rw[List.getElem?_take] at hj;split at hj
 ·exact bC _ u hj
 ·cases hj
theorem PartsAt.take{w:World}{a:Option Addr}{cap:Nat}{ps:List aG}(h:PartsAt w (.slice a ps.length cap) ps)(i:Nat)(h2:i≤ps.length):PartsAt w (.slice a i cap) (ps.take i):=by
 obtain⟨segs,hl,hs,hr,hc⟩:=h.segs;have zT:=hc _ _ _ rfl;have h0:=hs.cut 0 i;rw[List.drop_zero,List.drop_zero] at h0;refine PartsAt.of (segs.take i) (by simp[hl]) h0 ?_ (fun x n c e=>by cases e;omega)
 have:=Sl.take hr i h2;have e:=ZE segs (ps.map (·.2)) 0 i
 simp only[Nat.zero_mul,List.drop_zero] at e;rw[e,←List.map_take] at this;rw[List.length_take,Nat.min_eq_left h2];exact this
theorem PartsAt.drop{w:World}{a:Option Addr}{cap:Nat}{ps:List aG}(h:PartsAt w (.slice a ps.length cap) ps)(lo:Nat)(h1:lo≤ps.length):
  PartsAt w (.slice (if cap=lo then a else a.map (·.add (lo*2))) (ps.length-lo) (cap-lo)) (ps.drop lo):=by
 have:=h.cut lo ps.length h1 (Nat.le_refl _);rwa [List.take_length] at this
theorem SegsAt.append{w:World}{s1 s2:List Nat}{p1 p2:List aG}(h1:SegsAt w s1 p1)(h2:SegsAt w s2 p2)(hl:s1.length=p1.length):SegsAt w (s1++s2) (p1++p2):=by
 intro i x q hx hq;by_cases hi:i<s1.length
 ·rw[List.getElem?_append_left hi] at hx
  rw[List.getElem?_append_left (by omega)] at hq
  exact h1 i x q hx hq
 ·rw[List.getElem?_append_right (by omega)] at hx
  rw[List.getElem?_append_right (by omega),←hl] at hq
  exact h2 _ x q hx hq
theorem ZF(v:Value)(l:List au)(w:World)(hv:Docs w v l)(h:l.length≤500)(bD:fV l)(hT:Tabs w)(gG:Spans w):
  Calls Tryz.prog 40 #[v] w fun e w'=>(∃pa pc,e=.returned (.tuple #[.slice pa (bG l).1.length pc,.string ⟨(bG l).2.toArray⟩])∧PartsAt w' (.slice pa (bG l).1.length pc) (bG l).1)∧Q w w':=by
 by_cases nQ:l=[]
 ·subst nQ
  obtain⟨a,cap,rfl,_⟩:=hv.value;refine(WB a cap w).mono ?_;rintro e w' ⟨rfl,rfl⟩;exact⟨⟨none,0,rfl,PartsAt.of [] rfl (fun i p q hp=>by simp at hp) (Sl.nil _ _) (fun a n c e=>by cases e;exact Nat.le_refl _)⟩,Q.refl _⟩
 ·have jZ:¬(l.length<1∨500<l.length):=by have:=List.length_pos_iff.2 nQ;omega
  have rG:bG l=([(l,jr l.length)],jV l (eF l)):=by unfold bG;rw[if_neg nQ,idx_eq]
  refine(WA v l w hv jZ bD hT gG).mono ?_;rintro e w' ⟨⟨g,p,rfl,hp,hs⟩,q⟩;rw[rG];refine⟨⟨some ⟨g,0,none⟩,1,rfl,PartsAt.of [p] rfl (fun i x y hx hy=>?_) hp (fun a n c e=>by cases e;exact Nat.le_refl _)⟩,q⟩
  cases i with
  | zero=>simp at hx hy;subst hx;subst hy;exact hs
  | succ i=>simp at hx
theorem ait(a:Option Addr)(cap:Nat)(ps:List aG)(i j:Nat)(w:World)(hv:PartsAt w (.slice a ps.length cap) ps)(OY:¬cap=j+1)(tQ:i<j)(hj:j<ps.length)(hn:ps.length≤1000000)(sV:eu ps)(hT:Tabs w)(gG:Spans w):
  Calls Tryz.prog 20 #[iP (.slice a ps.length cap),.int .i64 (i:Nat),.int .i64 (j:Nat)] w fun e w'=>(∃v',e=.returned (.tuple #[iP v',ak (kX ps i j).2.1,.int .i64 (kX ps i j).2.2])∧PartsAt w' v' (kX ps i j).1)∧Q w w':=by
 have h1:¬((i:Int)<0):=by omega
 have h2:¬((j:Int)≤(i:Int)):=by omega
 have h3:¬((ps.length:Int)≤(j:Int)):=by omega
 obtain⟨segs,bY,Iq,dR,uX⟩:=hv.segs;have zT:=uX _ _ _ rfl;have iR:Q w ((w.alloc (.cells #[.slice a ps.length cap] 31)).alloc (.cells #[.slice none 0 0] 31)):=(Q.alloc _ _).trans (Q.alloc _ _);have lU:Boxed ((w.alloc (.cells #[.slice a ps.length cap] 31)).alloc (.cells #[.slice none 0 0] 31)) (w.heap.size+1) 31 (.slice none 0 0):=by
  have:=Boxed.new (w.alloc (.cells #[.slice a ps.length cap] 31)) 31 (.slice none 0 0);simpa using this
 have lK:Boxed ((w.alloc (.cells #[.slice a ps.length cap] 31)).alloc (.cells #[.slice none 0 0] 31)) w.heap.size 31 (.slice a ps.length cap):=(Boxed.new w _ _).alloc _;have AQ:w.heap.size+1<((w.alloc (.cells #[.slice a ps.length cap] 31)).alloc (.cells #[.slice none 0 0] 31)).heap.size:=by simp
 have FT:=(hv.cut i (j+1) (by omega) (by omega)).stays iR
 have Vs:=Jj ps i (j+1) sV;have cd:=PW _ ((ps.take (j+1)).drop i) _ FT (by rw[Ed _ _ _ (by omega)];omega) Vs.1
 have aF:¬cap=i:=by omega
 have BX:kX ps (i:Nat) (j:Nat)=if 500<(bW ((ps.take (j+1)).drop i)).length then(ps,[],6) else(ps.take i++((bG (bW ((ps.take (j+1)).drop i))).1++ps.drop (j+1)),(bG (bW ((ps.take (j+1)).drop i))).2,0):=by
  unfold kX;rw[if_neg (by omega)]
  simp only[Int.toNat_natCast]
 have ad4:=Fe _ Vs;rw[if_neg aF] at cd;have CD:=Hd cd;have pI:=Hd lU;have xq:=Hd lK;have HV:=Hd hv;have Ev:=Hd Iq;have oV:=Hd dR;have HT:=Hd hT;have nX:=Hd gG;have jk:=Hd iR;have Av:=Hd BX;have ad6:=Hd ad4;have uq:=Hd sV;clear cd lU lK hv Iq dR uX hT gG FT Vs BX ad4 iR sV;go_enter Tryz.func20,Tryz.ntmps20;go_wp2_with fail;refine CD.out.mono ?_;rintro e w1 ⟨dv,rfl,hd,q1⟩;have ku:Docs w1 dv (bW ((ps.take (j+1)).drop i)):=Sl.of_owns hd;have jS:=jk.out.trans q1;have b1:Boxed w1 (w.heap.size+1) 31 (.slice none 0 0):=aB q1 pI.out;have b0:Boxed w1 w.heap.size 31 (.slice a ps.length cap):=aB q1 xq.out;have dN:w.heap.size+1<w1.heap.size:=Nat.lt_of_lt_of_le AQ q1.size;obtain⟨da,dcap,rfl,_⟩:=ku.value;obtain⟨all,dI⟩:∃all,all=bW ((ps.take (j+1)).drop i):=⟨_,rfl⟩;have EG:=idx_eq all;have rG:bG all=if all=[] then([],[]) else([(all,jr all.length)],jV all (eF all)):=by unfold bG;rw[EG]
 clear EG;rw[←dI] at ku Av ad6 ⊢;have yZ:=Hd dI;have zW:=Hd ku;have aC:=Hd jS;have B1:=Hd b1;have B0:=Hd b0;have QW:=Hd rG;clear hd q1 jS b1 b0 dI ku rG CD pI xq jk AQ;have c0:=B0.out.cell;have c1:=B1.out.cell;have f1:=B1.out.frozen;by_cases h5:500<all.length
 ·have BX:=Av.out
  rw[if_pos h5] at BX;have JU:=Hd BX;have r1:=(B1.out.set (.slice a ps.length cap)).cell;have R1:=Hd r1;clear BX r1;have h5i:(500:Int)<(all.length:Int):=by omega
  go_wp2_with fail;have yH:=PartsAt.setBox B1.out (.slice a ps.length cap) (HV.out.stays aC.out) (by decide)
  refine bodyPost_ret (v:=.tuple #[iP (.slice a ps.length cap),ak [],.int .i64 6]) (by simp[results,Tryz.results20,go_sem,R1.out]) rfl ⟨⟨_,by rw[JU.out],by rw[JU.out];exact yH⟩,aC.out.setCell (by simp) _⟩
 ·have BX:=Av.out
  rw[if_neg h5] at BX;have JU:=Hd BX;clear BX;have h5i:¬(500:Int)<(all.length:Int):=by omega
  have cf:=ZF _ all w1 zW.out (by omega) ad6.out (HT.out.stays aC.out) (nX.out.stays aC.out)
  have CF:=Hd cf;clear cf;go_wp2_with fail;refine CF.out.mono ?_;rintro e w2 ⟨⟨pa,pc,rfl,uY⟩,q2⟩;have b2:Boxed w2 (w.heap.size+1) 31 (.slice none 0 0):=aB q2 B1.out;have b20:Boxed w2 w.heap.size 31 (.slice a ps.length cap):=aB q2 B0.out;have gJ:=aC.out.trans q2;have wX:=HV.out.stays gJ;have kE:w.heap.size+1<w2.heap.size:=Nat.lt_of_lt_of_le dN q2.size;have Nj:=Hd uY;have aS:=Hd gJ;have om:=Hd wX;have B2:=Hd b2;have B20:=Hd b20;clear uY q2 gJ wX b2 b20 CF B0 B1 c0 c1 f1;have c0:=B20.out.cell;have c1:=B2.out.cell;have f1:=B2.out.frozen;have pz:Tryz.prog.follows .mixedOrders=true:=by kernel_rfl
  have auq:¬cap=0:=by omega
  have lJ:IntKind.i64.wrap ((j:Int)+1)=(j:Int)+1:=IntWalk.i64_in _ (by omega)
  have Qq:(0:Int)≤(i:Int):=by omega
  have hi1:(i:Int)≤(cap:Int):=by omega
  have mD:(0:Int)≤(j:Int)+1:=by omega
  have rZ:(j:Int)+1≤(ps.length:Int):=by omega
  go_wp2_with fail;have uV:=om.out.take i (by omega)
  have Nw:=om.out.drop (j+1) (by omega)
  rw[if_neg OY] at Nw;obtain⟨s1,jZ,oO,qU,_⟩:=uV.segs;obtain⟨s2,jB,vV,jG,_⟩:=Nj.out.segs;obtain⟨s3,lC,Q9,Ew,_⟩:=Nw.segs;have vO:(ps.take i).length=i:=by rw[List.length_take,Nat.min_eq_left (by omega)]
  have jO:(ps.drop (j+1)).length=ps.length-(j+1):=by rw[List.length_drop]
  have qg:=DU all;rw[vO] at qU jZ;rw[jO] at Ew lC;obtain⟨XS,Ry⟩:∃XS:List CatX,XS=[(.slice a i cap,i,iQ s1 ((ps.take i).map (·.2))),(.slice pa (bG all).1.length pc,(bG all).1.length,iQ s2 ((bG all).1.map (·.2))),(.slice (Option.map (fun x=>x.add ((j+1)*2)) a) (ps.length-(j+1)) (cap-(j+1)),ps.length-(j+1),iQ s3 ((ps.drop (j+1)).map (·.2)))]:=⟨_,rfl⟩
  have wK:∀W,Q (w2.alloc (.cells #[.slice a i cap,.slice pa (bG all).1.length pc,.slice (Option.map (fun x=>x.add ((j+1)*2)) a) (ps.length-(j+1)) (cap-(j+1))] 29)) W→∀k (h:k<XS.length),W.cell? ⟨w2.heap.size,0+k,none⟩=some XS[k].1∧Sl W XS[k].1 XS[k].2.1 2 XS[k].2.2∧∀u∈XS[k].2.2,u.oneCell'=true:=by
   intro W hq k hk;subst Ry;have gJ:=(Q.alloc w2 (.cells #[.slice a i cap,.slice pa (bG all).1.length pc,.slice (Option.map (fun x=>x.add ((j+1)*2)) a) (ps.length-(j+1)) (cap-(j+1))] 29)).trans hq
   obtain⟨d0,d1,d2⟩:=Og (aB hq (heap_alloc_new w2 (.cells #[.slice a i cap,.slice pa (bG all).1.length pc,.slice (Option.map (fun x=>x.add ((j+1)*2)) a) (ps.length-(j+1)) (cap-(j+1))] 29)))
   match k,hk with
   | 0,_=>exact⟨d0,qU.stays gJ,uO _⟩
   | 1,_=>exact⟨d1,jG.stays gJ,uO _⟩
   | 2,_=>exact⟨d2,Ew.stays gJ,uO _⟩
  have rE:XS.length=3:=by rw[Ry];rfl
  have lD:iJ XS XS.length=i+((bG all).1.length+(ps.length-(j+1))):=by rw[Ry];simp[iJ]
  have bC:tK XS XS.length=iQ (s1++(s2++s3)) ((ps.take i++((bG all).1++ps.drop (j+1))).map (·.2)):=by
   rw[Ry,List.map_append,List.map_append,zH _ _ _ _ (by rw[jZ,List.length_map,vO]),zH _ _ _ _ (by rw[jB,List.length_map])]
   simp[tK]
  have XU:=oO.append (vV.append Q9 jB) (by omega)
  have mY:iJ XS XS.length≤1000000000:=by omega
  have Qh:XS.length≤1000:=by omega
  have ccat:=fun W hq=>WV w2.heap.size 0 3 XS W (wK W hq) Qh mY
  rw[rE] at ccat;have alN:=Hd ccat;have Pb:=Hd lD;have rM:=Hd bC;have ajr:=Hd XU;have HXL:=Hd rE;have ad7:(s1++(s2++s3)).length=(ps.take i++((bG all).1++ps.drop (j+1))).length:=by simp only[List.length_append];omega
  have ad8:iJ XS 3=(ps.take i++((bG all).1++ps.drop (j+1))).length:=by simp only[List.length_append];rw[←rE,lD];omega
  rw[rE] at bC;have alO:=Hd bC;have alP:=Hd ad7;have ad9:=Hd ad8;clear wK ccat lD bC XU mY Qh uV Nw oO vV Q9 qU jG Ew jZ jB lC vO jO Ry ad7 ad8 rE;have aur:w.heap.size<w2.heap.size:=by omega
  go_region_held3 (fun w'=>w'.cell? ⟨w.heap.size,0,none⟩=some (.slice a ps.length cap)) (first|exact c0|exact ah ((Q.alloc _ _).trans (Q.drew _)) c0|exact ah qz c0|exact(World.cell?_setCell_other _ _ _ _ (by simp)).trans (ah qz c0))
   (first
    | (go_at_call 48;refine(alN.out _ (by first|exact Q.refl _|exact Q.drew _)).mono ?_;rintro e w' ⟨v',rfl,ho,q⟩;obtain⟨xa,kT,rfl,_⟩:=aT ho;have qz:=((Q.alloc w2 (.cells #[.slice a i cap,.slice pa (bG all).1.length pc,.slice (Option.map (fun x=>x.add ((j+1)*2)) a) (ps.length-(j+1)) (cap-(j+1))] 29)).trans (Q.drew _)).trans q;have xS:=Hd ho;have c9:=ah qz c1;have f9:=(Pv qz kE).trans f1;clear ho q))
  all_goals
   have b9:Boxed w' (w.heap.size+1) 31 (.slice none 0 0):=aB qz B2.out;have aea:SegsAt w' (s1++(s2++s3)) (ps.take i++((bG all).1++ps.drop (j+1))):=ajr.out.stays qz;have Um:=xS.out;rw[alO.out,ad9.out] at Um;have yH:PartsAt w' (.slice xa (ps.take i++((bG all).1++ps.drop (j+1))).length kT) (ps.take i++((bG all).1++ps.drop (j+1))):=PartsAt.owns _ alP.out aea Um;rw[←ad9.out] at yH;have sS:=PartsAt.setBox b9 (.slice xa (iJ XS 3) kT) yH (by decide)
   have r9:=(b9.set (.slice xa (iJ XS 3) kT)).cell;have vw:=aS.out.trans qz;have BR:=Hd sS;have R9:=Hd r9;have xK:=Hd vw;clear b9 aea Um yH sS r9 vw;go_wp2_with fail;refine bodyPost_ret (v:=.tuple #[iP (.slice xa (iJ XS 3) kT),ak (bG all).2,.int .i64 0]) (by simp[results,Tryz.results20,go_sem,R9.out]) rfl ⟨⟨_,by rw[JU.out],by rw[JU.out];exact BR.out⟩,xK.out.setCell (by simp) _⟩
theorem aiu(a:Option Addr)(ps:List aG)(i j:Nat)(w:World)(hv:PartsAt w (.slice a ps.length (j+1)) ps)(tQ:i<j)(hj:j<ps.length)(hn:ps.length≤1000000)(sV:eu ps)(hT:Tabs w)(gG:Spans w):
  Calls Tryz.prog 20 #[iP (.slice a ps.length (j+1)),.int .i64 (i:Nat),.int .i64 (j:Nat)] w fun e w'=>(∃v',e=.returned (.tuple #[iP v',ak (kX ps i j).2.1,.int .i64 (kX ps i j).2.2])∧PartsAt w' v' (kX ps i j).1)∧Q w w':=by
 have h1:¬((i:Int)<0):=by omega
 have h2:¬((j:Int)≤(i:Int)):=by omega
 have h3:¬((ps.length:Int)≤(j:Int)):=by omega
 obtain⟨segs,bY,Iq,dR,uX⟩:=hv.segs;have zT:=uX _ _ _ rfl;have iR:Q w ((w.alloc (.cells #[.slice a ps.length (j+1)] 31)).alloc (.cells #[.slice none 0 0] 31)):=(Q.alloc _ _).trans (Q.alloc _ _);have lU:Boxed ((w.alloc (.cells #[.slice a ps.length (j+1)] 31)).alloc (.cells #[.slice none 0 0] 31)) (w.heap.size+1) 31 (.slice none 0 0):=by
  have:=Boxed.new (w.alloc (.cells #[.slice a ps.length (j+1)] 31)) 31 (.slice none 0 0);simpa using this
 have lK:Boxed ((w.alloc (.cells #[.slice a ps.length (j+1)] 31)).alloc (.cells #[.slice none 0 0] 31)) w.heap.size 31 (.slice a ps.length (j+1)):=(Boxed.new w _ _).alloc _;have AQ:w.heap.size+1<((w.alloc (.cells #[.slice a ps.length (j+1)] 31)).alloc (.cells #[.slice none 0 0] 31)).heap.size:=by simp
 have FT:=(hv.cut i (j+1) (by omega) (by omega)).stays iR
 have Vs:=Jj ps i (j+1) sV;have cd:=PW _ ((ps.take (j+1)).drop i) _ FT (by rw[Ed _ _ _ (by omega)];omega) Vs.1
 have aF:¬(j+1)=i:=by omega
 have BX:kX ps (i:Nat) (j:Nat)=if 500<(bW ((ps.take (j+1)).drop i)).length then(ps,[],6) else(ps.take i++((bG (bW ((ps.take (j+1)).drop i))).1++ps.drop (j+1)),(bG (bW ((ps.take (j+1)).drop i))).2,0):=by
  unfold kX;rw[if_neg (by omega)]
  simp only[Int.toNat_natCast]
 have ad4:=Fe _ Vs;rw[if_neg aF] at cd;have CD:=Hd cd;have pI:=Hd lU;have xq:=Hd lK;have HV:=Hd hv;have Ev:=Hd Iq;have oV:=Hd dR;have HT:=Hd hT;have nX:=Hd gG;have jk:=Hd iR;have Av:=Hd BX;have ad6:=Hd ad4;have uq:=Hd sV;clear cd lU lK hv Iq dR uX hT gG FT Vs BX ad4 iR sV;go_enter Tryz.func20,Tryz.ntmps20;go_wp2_with fail;refine CD.out.mono ?_;rintro e w1 ⟨dv,rfl,hd,q1⟩;have ku:Docs w1 dv (bW ((ps.take (j+1)).drop i)):=Sl.of_owns hd;have jS:=jk.out.trans q1;have b1:Boxed w1 (w.heap.size+1) 31 (.slice none 0 0):=aB q1 pI.out;have b0:Boxed w1 w.heap.size 31 (.slice a ps.length (j+1)):=aB q1 xq.out;have dN:w.heap.size+1<w1.heap.size:=Nat.lt_of_lt_of_le AQ q1.size;obtain⟨da,dcap,rfl,_⟩:=ku.value;obtain⟨all,dI⟩:∃all,all=bW ((ps.take (j+1)).drop i):=⟨_,rfl⟩;have EG:=idx_eq all;have rG:bG all=if all=[] then([],[]) else([(all,jr all.length)],jV all (eF all)):=by unfold bG;rw[EG]
 clear EG;rw[←dI] at ku Av ad6 ⊢;have yZ:=Hd dI;have zW:=Hd ku;have aC:=Hd jS;have B1:=Hd b1;have B0:=Hd b0;have QW:=Hd rG;clear hd q1 jS b1 b0 dI ku rG CD pI xq jk AQ;have c0:=B0.out.cell;have c1:=B1.out.cell;have f1:=B1.out.frozen;by_cases h5:500<all.length
 ·have BX:=Av.out
  rw[if_pos h5] at BX;have JU:=Hd BX;have r1:=(B1.out.set (.slice a ps.length (j+1))).cell;have R1:=Hd r1;clear BX r1;have h5i:(500:Int)<(all.length:Int):=by omega
  go_wp2_with fail;have yH:=PartsAt.setBox B1.out (.slice a ps.length (j+1)) (HV.out.stays aC.out) (by decide)
  refine bodyPost_ret (v:=.tuple #[iP (.slice a ps.length (j+1)),ak [],.int .i64 6]) (by simp[results,Tryz.results20,go_sem,R1.out]) rfl ⟨⟨_,by rw[JU.out],by rw[JU.out];exact yH⟩,aC.out.setCell (by simp) _⟩
 ·have BX:=Av.out
  rw[if_neg h5] at BX;have JU:=Hd BX;clear BX;have h5i:¬(500:Int)<(all.length:Int):=by omega
  have cf:=ZF _ all w1 zW.out (by omega) ad6.out (HT.out.stays aC.out) (nX.out.stays aC.out)
  have CF:=Hd cf;clear cf;go_wp2_with fail;refine CF.out.mono ?_;rintro e w2 ⟨⟨pa,pc,rfl,uY⟩,q2⟩;have b2:Boxed w2 (w.heap.size+1) 31 (.slice none 0 0):=aB q2 B1.out;have b20:Boxed w2 w.heap.size 31 (.slice a ps.length (j+1)):=aB q2 B0.out;have gJ:=aC.out.trans q2;have wX:=HV.out.stays gJ;have kE:w.heap.size+1<w2.heap.size:=Nat.lt_of_lt_of_le dN q2.size;have Nj:=Hd uY;have aS:=Hd gJ;have om:=Hd wX;have B2:=Hd b2;have B20:=Hd b20;clear uY q2 gJ wX b2 b20 CF B0 B1 c0 c1 f1;have c0:=B20.out.cell;have c1:=B2.out.cell;have f1:=B2.out.frozen;have pz:Tryz.prog.follows .mixedOrders=true:=by kernel_rfl
  have auq:¬(j+1)=0:=by omega
  have lJ:IntKind.i64.wrap ((j:Int)+1)=(j:Int)+1:=IntWalk.i64_in _ (by omega)
  have Qq:(0:Int)≤(i:Int):=by omega
  have hi1:(i:Int)≤((j+1):Int):=by omega
  have mD:(0:Int)≤(j:Int)+1:=by omega
  have rZ:(j:Int)+1≤(ps.length:Int):=by omega
  go_wp2_with fail;have uV:=om.out.take i (by omega)
  have Nw:=om.out.drop (j+1) (by omega)
  rw[if_pos rfl,Nat.sub_self,show ps.length-(j+1)=0 by omega] at Nw
  obtain⟨s1,jZ,oO,qU,_⟩:=uV.segs;obtain⟨s2,jB,vV,jG,_⟩:=Nj.out.segs;obtain⟨s3,lC,Q9,Ew,_⟩:=Nw.segs;have vO:(ps.take i).length=i:=by rw[List.length_take,Nat.min_eq_left (by omega)]
  have jO:(ps.drop (j+1)).length=0:=by rw[List.length_drop];omega
  have qg:=DU all;rw[vO] at qU jZ;rw[jO] at Ew lC;obtain⟨XS,Ry⟩:∃XS:List CatX,XS=[(.slice a i (j+1),i,iQ s1 ((ps.take i).map (·.2))),(.slice pa (bG all).1.length pc,(bG all).1.length,iQ s2 ((bG all).1.map (·.2))),(.slice a 0 0,0,iQ s3 ((ps.drop (j+1)).map (·.2)))]:=⟨_,rfl⟩
  have wK:∀W,Q (w2.alloc (.cells #[.slice a i (j+1),.slice pa (bG all).1.length pc,.slice a 0 0] 29)) W→∀k (h:k<XS.length),W.cell? ⟨w2.heap.size,0+k,none⟩=some XS[k].1∧Sl W XS[k].1 XS[k].2.1 2 XS[k].2.2∧∀u∈XS[k].2.2,u.oneCell'=true:=by
   intro W hq k hk;subst Ry;have gJ:=(Q.alloc w2 (.cells #[.slice a i (j+1),.slice pa (bG all).1.length pc,.slice a 0 0] 29)).trans hq;obtain⟨d0,d1,d2⟩:=Og (aB hq (heap_alloc_new w2 (.cells #[.slice a i (j+1),.slice pa (bG all).1.length pc,.slice a 0 0] 29)));match k,hk with
   | 0,_=>exact⟨d0,qU.stays gJ,uO _⟩
   | 1,_=>exact⟨d1,jG.stays gJ,uO _⟩
   | 2,_=>exact⟨d2,Ew.stays gJ,uO _⟩
  have rE:XS.length=3:=by rw[Ry];rfl
  have lD:iJ XS XS.length=i+((bG all).1.length+0):=by rw[Ry];simp[iJ]
  have bC:tK XS XS.length=iQ (s1++(s2++s3)) ((ps.take i++((bG all).1++ps.drop (j+1))).map (·.2)):=by
   rw[Ry,List.map_append,List.map_append,zH _ _ _ _ (by rw[jZ,List.length_map,vO]),zH _ _ _ _ (by rw[jB,List.length_map])]
   simp[tK]
  have XU:=oO.append (vV.append Q9 jB) (by omega)
  have mY:iJ XS XS.length≤1000000000:=by omega
  have Qh:XS.length≤1000:=by omega
  have ccat:=fun W hq=>WV w2.heap.size 0 3 XS W (wK W hq) Qh mY
  rw[rE] at ccat;have alN:=Hd ccat;have Pb:=Hd lD;have rM:=Hd bC;have ajr:=Hd XU;have HXL:=Hd rE;have ad7:(s1++(s2++s3)).length=(ps.take i++((bG all).1++ps.drop (j+1))).length:=by simp only[List.length_append];omega
  have ad8:iJ XS 3=(ps.take i++((bG all).1++ps.drop (j+1))).length:=by simp only[List.length_append];rw[←rE,lD];omega
  rw[rE] at bC;have alO:=Hd bC;have alP:=Hd ad7;have ad9:=Hd ad8;clear wK ccat lD bC XU mY Qh uV Nw oO vV Q9 qU jG Ew jZ jB lC vO jO Ry ad7 ad8 rE;have aur:w.heap.size<w2.heap.size:=by omega
  go_region_held3 (fun w'=>w'.cell? ⟨w.heap.size,0,none⟩=some (.slice a ps.length (j+1))) (first|exact c0|exact ah ((Q.alloc _ _).trans (Q.drew _)) c0|exact ah qz c0|exact(World.cell?_setCell_other _ _ _ _ (by simp)).trans (ah qz c0))
   (first
    | (go_at_call 48;refine(alN.out _ (by first|exact Q.refl _|exact Q.drew _)).mono ?_;rintro e w' ⟨v',rfl,ho,q⟩;obtain⟨xa,kT,rfl,_⟩:=aT ho;have qz:=((Q.alloc w2 (.cells #[.slice a i (j+1),.slice pa (bG all).1.length pc,.slice a 0 0] 29)).trans (Q.drew _)).trans q;have xS:=Hd ho;have c9:=ah qz c1;have f9:=(Pv qz kE).trans f1;clear ho q))
  all_goals
   have b9:Boxed w' (w.heap.size+1) 31 (.slice none 0 0):=aB qz B2.out;have aea:SegsAt w' (s1++(s2++s3)) (ps.take i++((bG all).1++ps.drop (j+1))):=ajr.out.stays qz;have Um:=xS.out;rw[alO.out,ad9.out] at Um;have yH:PartsAt w' (.slice xa (ps.take i++((bG all).1++ps.drop (j+1))).length kT) (ps.take i++((bG all).1++ps.drop (j+1))):=PartsAt.owns _ alP.out aea Um;rw[←ad9.out] at yH;have sS:=PartsAt.setBox b9 (.slice xa (iJ XS 3) kT) yH (by decide)
   have r9:=(b9.set (.slice xa (iJ XS 3) kT)).cell;have vw:=aS.out.trans qz;have BR:=Hd sS;have R9:=Hd r9;have xK:=Hd vw;clear b9 aea Um yH sS r9 vw;go_wp2_with fail;refine bodyPost_ret (v:=.tuple #[iP (.slice xa (iJ XS 3) kT),ak (bG all).2,.int .i64 0]) (by simp[results,Tryz.results20,go_sem,R9.out]) rfl ⟨⟨_,by rw[JU.out],by rw[JU.out];exact BR.out⟩,xK.out.setCell (by simp) _⟩
theorem Merge_any(v:Value)(ps:List aG)(i j:Int)(w:World)(hv:PartsAt w v ps)(hn:ps.length≤1000000)(sV:eu ps)(hT:Tabs w)(gG:Spans w):
  Calls Tryz.prog 20 #[iP v,.int .i64 i,.int .i64 j] w fun e w'=>(∃v',e=.returned (.tuple #[iP v',ak (kX ps i j).2.1,.int .i64 (kX ps i j).2.2])∧PartsAt w' v' (kX ps i j).1)∧Q w w':=by
 obtain⟨a,cap,rfl,_⟩:=hv.value;by_cases h:i<0∨j≤i∨(ps.length:Int)≤j
 ·have e:kX ps i j=(ps,[],1):=by unfold kX;rw[if_pos h]
  rw[e];refine(Merge_arg a ps.length cap i j w h).mono ?_;rintro e w' ⟨rfl,q⟩;exact⟨⟨_,rfl,hv.stays q⟩,q⟩
 ·obtain⟨i',rfl⟩:=Int.eq_ofNat_of_zero_le (show 0≤i by omega)
  obtain⟨j',rfl⟩:=Int.eq_ofNat_of_zero_le (show 0≤j by omega)
  by_cases OY:cap=j'+1
  ·subst OY
   exact aiu a ps i' j' w hv (by omega) (by omega) hn sV hT gG
  ·exact ait a cap ps i' j' w hv OY (by omega) (by omega) hn sV hT gG
abbrev uD:=List OpL×Bool×Int×Int
abbrev Gi(vs:List Value)(l:List uD):List Value:=(vs.zip l).flatMap fun x=>[x.1,.bool x.2.2.1,.int .i64 x.2.2.2.1,.int .i64 x.2.2.2.2]
def Acts(w:World)(v:Value)(l:List uD):Prop:=∃vs:List Value,vs.length=l.length∧Sl w v l.length 4 (Gi vs l)∧∀(i:Nat) (a:Value) (b:uD),vs[i]?=some a→l[i]?=some b→Ops w a b.1
theorem Acts.stays{w w':World}{v:Value}{l:List uD}(h:Acts w v l)(q:Q w w'):Acts w' v l:=by
 obtain⟨vs,h1,h2,h3⟩:=h;exact⟨vs,h1,h2.stays q,fun i a b ha hb=>(h3 i a b ha hb).stays q⟩
theorem actVs_at(vs:List Value)(l:List uD)(hl:vs.length=l.length)(k:Nat)(h:k<l.length):(Gi vs l)[k*4]?=some (vs[k]'(by omega))∧(Gi vs l)[k*4+1]?=some (.bool l[k].2.1)∧(Gi vs l)[k*4+2]?=some (.int .i64 l[k].2.2.1)∧(Gi vs l)[k*4+3]?=some (.int .i64 l[k].2.2.2):=by
 induction l generalizing vs k with
 | nil=>simp at h
 | cons d l ih =>
  cases vs with
  | nil=>simp at hl
  | cons v vs =>
   have e:Gi (v::vs) (d::l)=v::.bool d.2.1::.int .i64 d.2.2.1::.int .i64 d.2.2.2::Gi vs l:=by simp[Gi]
   cases k with
   | zero=>rw[e];exact⟨rfl,rfl,rfl,rfl⟩
   | succ k =>
    have:=ih vs (by simpa using hl) k (by simpa using h)
    rw[e,show(k+1)*4=k*4+1+1+1+1 by omega]
    exact this
theorem Acts.value{w:World}{v:Value}{l:List uD}(h:Acts w v l):∃a cap,v=.slice a l.length cap∧(0<l.length→∃b off,a=some ⟨b,off,none⟩ ∧
  ∀k (hk:k<l.length),∃ov,w.cell? ⟨b,off+k*4,none⟩=some ov∧w.cell? ⟨b,off+k*4+1,none⟩=some (.bool l[k].2.1)∧w.cell? ⟨b,off+k*4+2,none⟩=some (.int .i64 l[k].2.2.1)∧w.cell? ⟨b,off+k*4+3,none⟩=some (.int .i64 l[k].2.2.2)∧Ops w ov l[k].1):=by
 obtain⟨vs,hl,⟨_,a,cap,h2,h3⟩,h4⟩:=h;refine⟨a,cap,h2,fun hn=>?_⟩
 obtain⟨b,off,h5,h6⟩:=h3 hn;refine⟨b,off,h5,fun k hk=>?_⟩
 obtain⟨e0,e1,e2,e3⟩:=actVs_at vs l hl k hk;exact⟨_,h6 _ _ e0,h6 _ _ e1,h6 _ _ e2,h6 _ _ e3,h4 k _ _ (List.getElem?_eq_getElem (by omega)) (List.getElem?_eq_getElem hk)⟩
def nJ(o:OpL):Bool:=decide (o.2.1.length≤100)&&decide (o.2.2.length≤600)
def oL(a:uD):Bool:=decide (a.1.length≤30)&&a.1.all nJ
def qB(l:List uD):Bool:=decide (l.length≤12)&&l.all oL
theorem BG(v:Value)(l:List uD)(w:World)(hv:Acts w v l)(hn:l.length≤9223372036854775807)(hl:∀a∈l,a.1.length≤9223372036854775807∧∀o∈a.1,o.2.1.length≤9223372036854775807∧o.2.2.length≤9223372036854775807):
  Calls Tryz.prog 5 #[v] w fun e w'=>e=.returned (.bool (qB l))∧w=w':=by
 obtain⟨a,cap,rfl,aJ⟩:=hv.value;have HC:=Hd aJ;have HL:=Hd hl;clear hv aJ hl;by_cases ZY:l.length≤12
 ·have Lj:qB l=l.all oL:=by unfold qB;rw[decide_eq_true ZY];rfl
  have XH:=Hd Lj;clear Lj;have aus:¬((12:Int)<(l.length:Int)):=by omega
  go_enter Tryz.func5,Tryz.ntmps5;go_wp2_with fail;go_loop [3] (fun x=>∃k:Nat,x=.int .i64 (k:Nat)∧k≤l.length∧Hid (l.all oL=(l.drop k).all oL)) (fun x=>l.length-(intOf x).toNat)
  case atStart=>exact⟨0,rfl,by omega,rfl⟩
  case round =>
   obtain⟨k,rfl,hk,HK⟩:=hrel;by_cases hlt:k<l.length
   ·obtain⟨b,off,rfl,hc⟩:=HC.out (by omega)
    obtain⟨ov,c0,_,_,_,Vt⟩:=hc k hlt;obtain⟨jZ,jB⟩:=HL.out _ (List.getElem_mem hlt);have dI:l.all oL=(oL l[k]&&(l.drop (k+1)).all oL):=by rw[HK.out,List.drop_eq_getElem_cons hlt,List.all_cons]
    have Qq:(0:Int)≤(k:Int):=by omega
    have hi1:(k:Int)<(l.length:Int):=by omega
    generalize l[k]=act at *;obtain⟨ops,am⟩:=act;obtain⟨oa,oc,rfl,EX⟩:=Vt.value;simp only at jZ jB EX c0;have yZ:=Hd dI;have l8:=Hd EX;have Pw:=Hd jB;clear dI hc Vt EX jB;by_cases h30:ops.length≤30
    ·have aut:¬((30:Int)<(ops.length:Int)):=by omega
     have nW:oL (ops,am)=ops.all nJ:=by unfold oL;rw[decide_eq_true h30];rfl
     have z8:=Hd nW;clear nW;go_wp2_with fail;go_loop [4] (fun x=>∃j:Nat,x=.int .i64 (j:Nat)∧j≤ops.length∧Hid (ops.all nJ=(ops.drop j).all nJ)) (fun x=>ops.length-(intOf x).toNat)
     case atStart=>exact⟨0,rfl,by omega,rfl⟩
     case round =>
      obtain⟨j,rfl,hj,HJ⟩:=hrel;by_cases iI:j<ops.length
      ·obtain⟨b2,off2,rfl,dM⟩:=l8.out (by omega)
       obtain⟨_,d1,d2⟩:=dM j iI;obtain⟨dN,kE⟩:=Pw.out _ (List.getElem_mem iI);have yJ:ops.all nJ=(nJ ops[j]&&(ops.drop (j+1)).all nJ):=by rw[HJ.out,List.drop_eq_getElem_cons iI,List.all_cons]
       have hj0:(0:Int)≤(j:Int):=by omega
       have Nv:(j:Int)<(ops.length:Int):=by omega
       generalize ops[j]=o at *;obtain⟨ob,oid,otx⟩:=o;simp only at d1 d2 dN kE;clear dM;by_cases h1:oid.length≤100
       ·by_cases h2:otx.length≤600
        ·have EZ:ops.all nJ=(ops.drop (j+1)).all nJ:=by rw[yJ];simp[nJ,h1,h2]
         have mh:=Hd EZ;clear EZ yJ;have h1i:¬((100:Int)<(oid.length:Int)):=by omega
         have h2i:¬((600:Int)<(otx.length:Int)):=by omega
         go_wp2_with fail;go_round;case rel=>exact⟨j+1,by go_num,by omega,mh⟩
         case measure=>simp[intOf];omega
        ·have EZ:ops.all nJ=false:=by rw[yJ];simp[nJ];omega
         have mh:=Hd EZ;clear EZ yJ;have h1i:¬((100:Int)<(oid.length:Int)):=by omega
         have h2i:(600:Int)<(otx.length:Int):=by omega
         go_wp2_with fail;go_ret;exact⟨by rw[XH.out,yZ.out,z8.out,mh.out];rfl,rfl⟩
       ·have EZ:ops.all nJ=false:=by rw[yJ];simp[nJ];omega
        have mh:=Hd EZ;clear EZ yJ;have h1i:(100:Int)<(oid.length:Int):=by omega
        go_wp2_with fail;go_ret;exact⟨by rw[XH.out,yZ.out,z8.out,mh.out];rfl,rfl⟩
      ·have qh:j=ops.length:=by omega
       subst qh;have EZ:l.all oL=(l.drop (k+1)).all oL:=by rw[yZ.out,z8.out,HJ.out,List.drop_length];rfl
       have mh:=Hd EZ;clear EZ;go_wp2_with fail;go_round;case rel=>exact⟨k+1,by go_num,by omega,mh⟩
       case measure=>simp[intOf];omega
    ·have aut:(30:Int)<(ops.length:Int):=by omega
     have nW:oL (ops,am)=false:=by unfold oL;rw[decide_eq_false h30];rfl
     have z8:=Hd nW;clear nW;go_wp2_with fail;go_ret;exact⟨by rw[XH.out,yZ.out,z8.out];rfl,rfl⟩
   ·have cO:k=l.length:=by omega
    subst cO;go_wp2_with fail;go_ret;exact⟨by rw[XH.out,HK.out,List.drop_length];rfl,rfl⟩
 ·have Lj:qB l=false:=by unfold qB;rw[decide_eq_false ZY];rfl
  have XH:=Hd Lj;clear Lj;have aus:(12:Int)<(l.length:Int):=by omega
  go_enter Tryz.func5,Tryz.ntmps5;go_wp2_with fail;go_ret;exact⟨by rw[XH.out];rfl,rfl⟩
theorem sW{l:List uD}(h:qB l=true):l.length≤12∧∀a∈l,a.1.length≤30∧∀o∈a.1,o.2.1.length≤100∧o.2.2.length≤600:=by
 unfold qB at h;simp only[Bool.and_eq_true,decide_eq_true_eq] at h;refine⟨h.1,fun a ha=>?_⟩
 have h2:=List.all_eq_true.1 h.2 a ha;unfold oL at h2;simp only[Bool.and_eq_true,decide_eq_true_eq] at h2;refine⟨h2.1,fun o ho=>?_⟩
 have h3:=List.all_eq_true.1 h2.2 o ho;unfold nJ at h3;simpa only[Bool.and_eq_true,decide_eq_true_eq] using h3
def ActsWf(l:List uD):Prop:=l.length≤9223372036854775807∧∀a∈l,a.1.length≤9223372036854775807∧∀o∈a.1,o.2.1.length≤9223372036854775807∧o.2.2.length≤9223372036854775807
def OpsWf(l:List OpL):Prop:=l.length≤9223372036854775807∧∀o∈l,o.2.1.length≤9223372036854775807∧o.2.2.length≤9223372036854775807
theorem WW(l:List au):∀r∈yD l,r.2.length=r.1.length:=by
 intro r hr;unfold yD at hr;split at hr
 ·simp at hr
 ·rw[List.mem_singleton] at hr;subst hr;simp
def wU(mg:Bool)(rs:List jo)(a:wG):List jo:=if a.2.1 then(if mg then(pY rs a.2.2.1 a.2.2.2).1 else rs) else(nM rs a.1).1
theorem acD(mg:Bool)(rs:List jo)(a:wG)(h:∀r∈rs,RPartOk r)(bD:eu (rs.map toP)):Ea mg (rs.map toP) a=(wU mg rs a).map toP:=by
 unfold Ea wU;split
 ·split
  ·rw[merge_R rs _ _ h bD.2]
  ·rfl
 ·rw[apply_R rs _ h]
theorem WX(mg:Bool)(rs:List jo)(a:wG)(h:∀r∈rs,RPartOk r)(bD:eu (rs.map toP)):(∀r∈wU mg rs a,RPartOk r)∧eu ((wU mg rs a).map toP):=by
 have hd:=Zv mg _ a bD;rw[acD mg rs a h bD] at hd;refine⟨fun r hr=>⟨?_,hd.1 _ (List.mem_map_of_mem hr)⟩,hd⟩
 unfold wU at hr;split at hr
 ·split at hr
  ·unfold pY at hr
   split at hr
   ·exact(h r hr).1
   ·split at hr
    ·exact(h r hr).1
    ·rcases List.mem_append.1 hr with hr|hr
     ·exact(h r (List.mem_of_mem_take hr)).1
     ·rcases List.mem_append.1 hr with hr|hr
      ·exact WW _ r hr
      ·exact(h r (List.mem_of_mem_drop hr)).1
  ·exact(h r hr).1
 ·unfold nM at hr
  split at hr
  ·exact(h r hr).1
  ·split at hr
   ·rcases List.mem_append.1 hr with hr|hr
    ·obtain⟨x,hx,rfl⟩:=List.mem_map.1 hr
     rw[P8 _ _ (h x hx).1];rfl
    ·exact WW _ r hr
   ·exact(h r hr).1
def bH(mg:Bool)(l:List wG)(k:Nat):List jo:=(l.take k).foldl (wU mg) []
theorem Qi(mg:Bool)(l:List wG)(k:Nat)(h:k<l.length):bH mg l (k+1)=wU mg (bH mg l k) l[k]:=by
 unfold bH;rw[List.take_succ_eq_append_getElem h,List.foldl_append];rfl
theorem WY(mg:Bool)(l:List wG)(k:Nat)(hk:k≤l.length):(∀r∈bH mg l k,RPartOk r)∧eu ((bH mg l k).map toP)∧je mg l k=(bH mg l k).map toP:=by
 induction k with
 | zero=>exact⟨by simp[bH],⟨by simp[bH],by simp[bH,aH]⟩,by simp[bH,je]⟩
 | succ k ih =>
  obtain⟨h1,h2,h3⟩:=ih (by omega)
  have h4:=WX mg _ l[k] h1 h2;rw[Qi mg l k (by omega),F9 mg l k (by omega),h3,acD mg _ _ h1 h2]
  exact⟨h4.1,h4.2,rfl⟩
theorem afL(mg:Bool)(l:List wG)(k:Nat)(hk:k≤l.length):(bH mg l k).length≤k:=by
 have h1:=(C9 mg l k hk).2;rw[(WY mg l k hk).2.2,List.length_map] at h1;exact h1
theorem PartsM.setBox{W:World}{X:Nat}{T:TypeId}{a:Option Addr}{n cap:Nat}(hb:Boxed W X T (.slice a n cap))(u:Value){ps:List aG}(hp:PartsAt W (.slice a n cap) ps){v:Value}{l:List jY}(h:PartsM W v l)(h1:∀p∈l,RPartOk p.2.2):PartsM (W.setCell ⟨X,0,none⟩ u) v l:=by
 obtain⟨ha,aO,hc⟩:=h;have sQ:∀(b off:Nat) (x:Value),a=some ⟨b,off,none⟩→0<n→W.cell? ⟨b,off,none⟩=some x→∃y,x=.pointer y:=by
  intro b off x e hn hx;obtain⟨a',c',e2,aJ⟩:=hp.value;injection e2 with e3 e4 e5;obtain⟨b',off',e6,bC⟩:=aJ (by omega)
  rw[←e3,e] at e6;injection e6 with e7;injection e7 with e8 e9;obtain⟨p,xw,_⟩:=bC 0 (by omega)
  rw[←e8,←e9,Nat.zero_mul,Nat.add_zero] at xw;rw[xw] at hx;injection hx with hx;exact⟨_,hx.symm⟩
 refine⟨Sl.setBox hb u ha (by decide) (fun x hx e=>?_),fun p Qu=>⟨Sl.setBox hb u (aO p Qu).1 (by decide) (fun x hx e=>?_),Sl.setBox hb u (aO p Qu).2 (by decide) (fun x hx e=>?_)⟩,hc⟩
 ·obtain⟨p,Qu,hx⟩:=List.mem_flatMap.1 hx
  obtain⟨hd,hg⟩:=aO p Qu;have hr:=h1 p Qu;have jZ:1≤p.2.2.1.length:=hr.2.2.1;have jB:=hr.1;simp only[List.mem_cons,List.not_mem_nil,or_false] at hx;rcases hx with hx|hx
  ·obtain⟨a',c',e2,aJ⟩:=hd.value
   obtain⟨b,off,e3,bC⟩:=aJ (by omega)
   have h0:=(bC 0 (by omega)).1
   rw[Nat.zero_mul,Nat.add_zero] at h0;rw[←hx,e] at e2;injection e2 with e4 e5 e6;obtain⟨y,hy⟩:=sQ b off _ (by rw[e4,e3]) (by omega) h0
   cases hy
  ·obtain⟨a',c',e2,aJ⟩:=hg.value
   obtain⟨b,off,e3,bC⟩:=aJ (by omega)
   have h0:=bC 0 (by omega)
   rw[Nat.add_zero] at h0;rw[←hx,e] at e2;injection e2 with e4 e5 e6;obtain⟨y,hy⟩:=sQ b off _ (by rw[e4,e3]) (by omega) h0
   cases hy
 ·obtain⟨d,_,hx⟩:=List.mem_flatMap.1 hx
  simp only[List.mem_cons,List.not_mem_nil,or_false] at hx;rcases hx with hx|hx<;>rw[hx] at e<;>cases e
 ·obtain⟨b,_,hx⟩:=List.mem_map.1 hx
  rw[←hx] at e;cases e
theorem Ar(v:Value)(l:List uD)(mg:Bool)(w:World)(hv:Acts w v l)(hn:l.length≤20)(hl:∀a∈l,a.1.length≤1000000∧∀o∈a.1,o.2.1.length≤9223372036854775807∧o.2.2.length≤9223372036854775807)(hT:Tabs w)(gG:Spans w):
  Calls Tryz.prog 7 #[v,.bool mg] w fun e w'=>(∃v' mv pl,e=.returned (.tuple #[iP v',mv])∧PartsAt w' v' (je mg l l.length)∧PartsM w' mv pl∧pl.map rOf=bH mg l l.length)∧Q w w':=by
 obtain⟨a,cap,rfl,aJ⟩:=hv.value;have HC:=Hd aJ;have HL:=Hd hl;have HT:=Hd hT;have nX:=Hd gG;clear hv aJ hl hT gG;have pz:Tryz.prog.follows .mixedOrders=true:=by kernel_rfl
 go_enter Tryz.func7,Tryz.ntmps7;go_wp2_with fail;have iR:Q w ((w.alloc (.cells #[.slice none 0 0] 31)).alloc (.cells #[.slice none 0 0] 31)):=(Q.alloc _ _).trans (Q.alloc _ _);have aO:Boxed ((w.alloc (.cells #[.slice none 0 0] 31)).alloc (.cells #[.slice none 0 0] 31)) w.heap.size 31 (.slice none 0 0):=(Boxed.new w _ _).alloc _;have jJ:Boxed ((w.alloc (.cells #[.slice none 0 0] 31)).alloc (.cells #[.slice none 0 0] 31)) (w.heap.size+1) 31 (.slice none 0 0):=by
  have:=Boxed.new (w.alloc (.cells #[.slice none 0 0] 31)) 31 (.slice none 0 0);simpa using this
 have Qq:∃a c,Boxed ((w.alloc (.cells #[.slice none 0 0] 31)).alloc (.cells #[.slice none 0 0] 31)) (w.heap.size+1) 31 (.slice a (bH mg l 0).length c)∧PartsAt ((w.alloc (.cells #[.slice none 0 0] 31)).alloc (.cells #[.slice none 0 0] 31)) (.slice a (bH mg l 0).length c) ((bH mg l 0).map toP):=⟨none,0,jJ,D9 _⟩;have H0:=Hd Qq;have eG:=Hd aO;have jk:=Hd iR;clear Qq aO jJ iR;go_loopw [7,8] (fun mv x wr=>∃(k:Nat) (pl:List jY),x=.int .i64 (k:Nat)∧k≤l.length∧pl.length≤k∧Hid (pl.map rOf=bH mg l k)∧Hid (PartsM wr mv pl)∧Hid (∃a c,Boxed wr (w.heap.size+1) 31 (.slice a (bH mg l k).length c)∧PartsAt wr (.slice a (bH mg l k).length c) ((bH mg l k).map toP))∧Hid (Boxed wr w.heap.size 31 (.slice none 0 0))∧Hid (Q w wr)) (fun _ x _=>l.length-(intOf x).toNat)
 case atStart=>exact⟨0,[],rfl,by omega,by simp,rfl,⟨Sl.nil _ _,fun p hp=>by simp at hp,fun a n c e=>by cases e;exact Nat.le_refl _⟩,H0,eG,jk⟩
 case round =>
  obtain⟨k,pl,rfl,hk,gQ,Rz,HM,HI,HB,HQ⟩:=hrel;obtain⟨wo,rfl⟩:∃wo:World,wo=wr:=⟨_,rfl⟩;obtain⟨pa,pc,b3,hp⟩:=HI.out;obtain⟨qU,jG,Ew⟩:=WY mg l k hk;have BI:(bH mg l k).length=pl.length:=by rw[←Rz.out];simp
  obtain⟨ma,mc,rfl,_⟩:=HM.out.value;by_cases hlt:k<l.length
  ·obtain⟨b,off,rfl,hc⟩:=HC.out (by omega)
   obtain⟨ov,c0,c1,c2,c3,Vt⟩:=hc k hlt;obtain⟨jZ,jB⟩:=HL.out _ (List.getElem_mem hlt);have EY:=Qi mg l k hlt;have Ue:=WX mg (bH mg l k) l[k] qU jG;have k0:=ah HQ.out c0;have k1:=ah HQ.out c1;have k2:=ah HQ.out c2;have k3:=ah HQ.out c3;have Qq:(0:Int)≤(k:Int):=by omega
   have hi1:(k:Int)<(l.length:Int):=by omega
   have dS:=cK c0;simp only at dS;have cap1:∀(W:World) (hq:Q wo W),Calls Tryz.prog 14 #[iP (.slice pa (bH mg l k).length pc),ov] W fun e w'=>(∃v',e=.returned (.tuple #[iP v',ak (nM (bH mg l k) l[k].1).2.1,.int .i64 (nM (bH mg l k) l[k].1).2.2])∧PartsAt w' v' ((nM (bH mg l k) l[k].1).1.map toP))∧Q W w':=fun W hq=>by
    have c:=P5 _ ((bH mg l k).map toP) ov l[k].1 W (hp.stays hq) ((Vt.stays HQ.out).stays hq) jZ jB (by rw[List.length_map];omega) jG.1 ((HT.out.stays HQ.out).stays hq) ((nX.out.stays HQ.out).stays hq)
    rw[apply_R _ _ qU] at c;exact c
   have cap2:∀(W:World) (hq:Q w W),PartsM W (.slice ma pl.length mc) pl→Calls Tryz.prog 19 #[.slice ma pl.length mc,ov] W fun e w'=>SB W (nM (bH mg l k) l[k].1) e w':=fun W hq hm=>by
    have c:=acB _ pl ov l[k].1 W hm (by omega) (fun p hp=>by have:=qU _ (show rOf p∈bH mg l k by rw[←Rz.out];exact List.mem_map_of_mem hp);exact⟨this.1,this.len.1⟩) (Vt.stays hq) (by omega) jB
    rw[Rz.out] at c;exact c
   have cmg1:∀(W:World) (hq:Q wo W),Calls Tryz.prog 20 #[iP (.slice pa (bH mg l k).length pc),.int .i64 l[k].2.2.1,.int .i64 l[k].2.2.2] W fun e w'=>(∃v',e=.returned (.tuple #[iP v',ak (pY (bH mg l k) l[k].2.2.1 l[k].2.2.2).2.1,.int .i64 (pY (bH mg l k) l[k].2.2.1 l[k].2.2.2).2.2])∧PartsAt w' v' ((pY (bH mg l k) l[k].2.2.1 l[k].2.2.2).1.map toP))∧Q W w':=fun W hq=>by
    have c:=Merge_any _ ((bH mg l k).map toP) l[k].2.2.1 l[k].2.2.2 W (hp.stays hq) (by rw[List.length_map];omega) jG ((HT.out.stays HQ.out).stays hq) ((nX.out.stays HQ.out).stays hq)
    rw[merge_R _ _ _ qU jG.2] at c;exact c
   have cmg2:∀(W:World),PartsM W (.slice ma pl.length mc) pl→Calls Tryz.prog 21 #[.slice ma pl.length mc,.int .i64 l[k].2.2.1,.int .i64 l[k].2.2.2] W fun e w'=>SB W (pY (bH mg l k) l[k].2.2.1 l[k].2.2.2) e w':=fun W hm=>by
    have c:=acC _ pl l[k].2.2.1 l[k].2.2.2 W hm (by omega) (fun p hp=>qU _ (by rw[←Rz.out];exact List.mem_map_of_mem hp)) (by rw[Rz.out];exact jG)
    rw[Rz.out] at c;exact c
   have hrm:∀p∈pl,RPartOk p.2.2:=fun p hp=>qU _ (by rw[←Rz.out];exact List.mem_map_of_mem hp)
   have lU:=b3.cell;have ku:(wU mg (bH mg l k) l[k]).length≤k+1:=by rw[←EY];exact afL mg l (k+1) hlt
   have ap7:l[k].2.1=false→bH mg l (k+1)=(nM (bH mg l k) l[k].1).1:=fun h=>by rw[EY];unfold wU;rw[h];rfl
   have FN:l[k].2.1=true→mg=true→bH mg l (k+1)=(pY (bH mg l k) l[k].2.2.1 l[k].2.2.2).1:=fun h h'=>by rw[EY];unfold wU;rw[h,h'];rfl
   have ap8:l[k].2.1=true→mg=false→bH mg l (k+1)=bH mg l k:=fun h h'=>by rw[EY];unfold wU;rw[h,h'];rfl
   rw[←EY] at ku;obtain⟨oa,oc,hov,_⟩:=Vt.value;have alQ:=Hd cap1;have alR:=Hd cap2;have alS:=Hd cmg1;have alT:=Hd cmg2;have HRM:=Hd hrm;have ajs:=Hd ap7;have Bj:=Hd FN;have ajt:=Hd ap8;have B3:=Hd b3;have HP:=Hd hp;have C0:=Hd c0;have C1:=Hd c1;have C2:=Hd c2;have C3:=Hd c3;have zW:=Hd ku;clear cap1 cap2 cmg1 cmg2 hrm ap7 FN ap8 b3 hp c0 c1 c2 c3 ku hc Vt EY Ue jZ jB qU jG Ew HI BI;generalize l[k]=act at *;obtain⟨ops,am,ai,aj⟩:=act;subst hov;simp only at k0 k1 k2 k3;cases am with
   | false =>
    have dN:=ajs.out rfl;clear ajs Bj ajt alS alT;generalize vT:nM (bH mg l k) ops=M at *;obtain⟨M1,M2,M3⟩:=M;simp only at dN;have su:=Hd dN;generalize JG:bH mg l k=mk at *;clear dN vT JG;go_wp2_with fail;go_region_law
     (first
      | (go_simp;go_at_call 14;refine(alQ.out _ (by first|exact Q.refl _|exact Q.drew _)).mono ?_;rintro e w' ⟨⟨v',rfl,xw⟩,q⟩;obtain⟨xa,kT,Qf,_⟩:=xw.value;rw[List.length_map] at Qf;subst Qf;have qz:=(Q.drew wo).trans q;have b1:=aB qz B3.out;have c9:=Boxed.cell b1;have f9:=Boxed.frozen b1;have B1:=Hd b1;have Pk:=Hd xw;have QZ:=Hd qz;clear xw q b1 qz))
    all_goals
     have sS:=PartsAt.setBox B1.out (.slice xa M1.length kT) Pk.out (by decide)
     have wZ:=PartsM.setBox B1.out (.slice xa M1.length kT) (HP.out.stays QZ.out) (HM.out.stays QZ.out) HRM.out;have zk:=Boxed.set (.slice xa M1.length kT) B1.out;have lK:Boxed (w'.setCell ⟨w.heap.size+1,0,none⟩ (.slice xa M1.length kT)) w.heap.size 31 (.slice none 0 0):=(Sj w' _ (by omega)).trans (aB QZ.out HB.out)
     have rQ:Q w (w'.setCell ⟨w.heap.size+1,0,none⟩ (.slice xa M1.length kT)):=(HQ.out.trans QZ.out).setCell (by simp) _
     have z0:=ah rQ C0.out;have z1:=ah rQ C1.out;have z2:=ah rQ C2.out;have z3:=ah rQ C3.out;have c:=alR.out _ rQ wZ;have C:=Hd c;have BR:=Hd sS;have Ej:=Hd zk;have xq:=Hd lK;have Jw:=Hd rQ;clear sS wZ zk lK rQ c k0 k1 k2 k3 lU c9 f9;generalize w'.setCell ⟨w.heap.size+1,0,none⟩ (.slice xa M1.length kT)=wS at *;go_wp2_with fail;refine C.out.mono ?_;rintro e w5 ⟨⟨mv5,pl5,rfl,Vu,aec⟩,q5⟩;obtain⟨m5a,m5c,alU,_⟩:=Vu.value;subst alU;have Q6:Hid (∃a c,Boxed w5 (w.heap.size+1) 31 (.slice a (bH mg l (k+1)).length c)∧PartsAt w5 (.slice a (bH mg l (k+1)).length c) ((bH mg l (k+1)).map toP)):=by
      show ∃a c,_;rw[su.out];exact⟨xa,kT,aB q5 Ej.out,BR.out.stays q5⟩
     have Vw:Hid (pl5.map rOf=bH mg l (k+1)):=by show _=_;rw[su.out];exact aec
     have Uu:pl5.length≤k+1:=by have:=zW.out;rw[←Vw.out,List.length_map] at this;exact this
     have Q7:=Hd Vu;have lS:=Hd (aB q5 xq.out);have mZ:=Hd (Jw.out.trans q5);clear Vu aec q5 z0 z1 z2 z3 C;go_wp2_with fail;go_roundw;case rel=>exact⟨k+1,pl5,by go_num,by omega,Uu,Vw,Q7,Q6,lS,mZ⟩
     case measure=>simp[intOf];omega
   | true =>
    cases mg with
    | false =>
     have dN:=ajt.out rfl rfl;clear ajs Bj ajt alS alT alQ alR;have Q6:Hid (∃a c,Boxed wo (w.heap.size+1) 31 (.slice a (bH false l (k+1)).length c)∧PartsAt wo (.slice a (bH false l (k+1)).length c) ((bH false l (k+1)).map toP)):=by
      show ∃a c,_;rw[dN];exact⟨pa,pc,B3.out,HP.out⟩
     have Vw:Hid (pl.map rOf=bH false l (k+1)):=by show _=_;rw[dN];exact Rz.out
     clear dN;go_wp2_with fail;go_roundw;case rel=>exact⟨k+1,pl,by go_num,by omega,by omega,Vw,HM,Q6,HB,HQ⟩
     case measure=>simp[intOf];omega
    | true =>
     have dN:=Bj.out rfl rfl;clear ajs Bj ajt alQ alR;generalize vT:pY (bH true l k) ai aj=M at *;obtain⟨M1,M2,M3⟩:=M;simp only at dN;have su:=Hd dN;generalize JG:bH true l k=mk at *;clear dN vT JG;go_wp2_with fail;go_region_law
      (first
       | (go_simp;go_at_call 20;refine(alS.out _ (by first|exact Q.refl _|exact Q.drew _)).mono ?_;rintro e w' ⟨⟨v',rfl,xw⟩,q⟩;obtain⟨xa,kT,Qf,_⟩:=xw.value;rw[List.length_map] at Qf;subst Qf;have qz:=(Q.drew wo).trans q;have b1:=aB qz B3.out;have c9:=Boxed.cell b1;have f9:=Boxed.frozen b1;have B1:=Hd b1;have Pk:=Hd xw;have QZ:=Hd qz;clear xw q b1 qz))
     all_goals
      have sS:=PartsAt.setBox B1.out (.slice xa M1.length kT) Pk.out (by decide)
      have wZ:=PartsM.setBox B1.out (.slice xa M1.length kT) (HP.out.stays QZ.out) (HM.out.stays QZ.out) HRM.out;have zk:=Boxed.set (.slice xa M1.length kT) B1.out;have lK:Boxed (w'.setCell ⟨w.heap.size+1,0,none⟩ (.slice xa M1.length kT)) w.heap.size 31 (.slice none 0 0):=(Sj w' _ (by omega)).trans (aB QZ.out HB.out)
      have rQ:Q w (w'.setCell ⟨w.heap.size+1,0,none⟩ (.slice xa M1.length kT)):=(HQ.out.trans QZ.out).setCell (by simp) _
      have z0:=ah rQ C0.out;have z1:=ah rQ C1.out;have z2:=ah rQ C2.out;have z3:=ah rQ C3.out;have aqa:=Hd wZ;have BR:=Hd sS;have Ej:=Hd zk;have xq:=Hd lK;have Jw:=Hd rQ;clear sS wZ zk lK rQ k0 k1 k2 k3 lU c9 f9;generalize w'.setCell ⟨w.heap.size+1,0,none⟩ (.slice xa M1.length kT)=wS at *;go_wp2_with fail;have KK:=Hd (Q.refl wS);have Z2:=Hd z2;have Z3:=Hd z3;go_region_held3 (fun w'=>w'.cell? ⟨b,off+k*4+2,none⟩=some (.int .i64 ai)∧w'.cell? ⟨b,off+k*4+3,none⟩=some (.int .i64 aj))
       (first
        | exact⟨ah KK.out Z2.out,ah KK.out Z3.out⟩
        | exact⟨ah (KK.out.trans (Q.drew _)) Z2.out,ah (KK.out.trans (Q.drew _)) Z3.out⟩)
       (first
        | (go_at_call 21;refine(alT.out _ (by first|exact aqa.out|exact aqa.out.stays (Q.drew _))).mono ?_;rintro e w5 ⟨⟨mv5,pl5,rfl,Vu,aec⟩,q5⟩;obtain⟨m5a,m5c,alU,_⟩:=Vu.value;subst alU;have q6:Q wS w5:=(by first|exact q5|exact(Q.drew wS).trans q5);have Q7:=Hd Vu;have auu:=Hd aec;have fQ:=Hd q6;clear KK;have KK:=Hd q6;clear q5 q6 Vu aec))
      all_goals
       have Q6:Hid (∃a c,Boxed w5 (w.heap.size+1) 31 (.slice a (bH true l (k+1)).length c)∧PartsAt w5 (.slice a (bH true l (k+1)).length c) ((bH true l (k+1)).map toP)):=by
        show ∃a c,_;rw[su.out];exact⟨xa,kT,aB fQ.out Ej.out,BR.out.stays fQ.out⟩
       have Vw:Hid (pl5.map rOf=bH true l (k+1)):=by show _=_;rw[su.out];exact auu.out
       have Uu:pl5.length≤k+1:=by have:=zW.out;rw[←Vw.out,List.length_map] at this;exact this
       have lS:=Hd (aB fQ.out xq.out);have mZ:=Hd (Jw.out.trans fQ.out);clear z0 z1 z2 z3;go_wp2_with fail;go_roundw;case rel=>exact⟨k+1,pl5,by go_num,by omega,Uu,Vw,Q7,Q6,lS,mZ⟩
       case measure=>simp[intOf];omega
  ·have cO:k=l.length:=by omega
   subst cO;have b3c:=b3.cell;have b0:=HB.out.cell;have f0:=HB.out.frozen;rw[←Ew] at hp;have alV:(bH mg l l.length).length=(je mg l l.length).length:=by rw[Ew,List.length_map]
   rw[alV] at hp b3 b3c;have sS:=PartsAt.setBox HB.out (.slice pa (je mg l l.length).length pc) hp (by decide)
   have wZ:=PartsM.setBox HB.out (.slice pa (je mg l l.length).length pc) (D9 wo) HM.out (fun p hp=>qU _ (by rw[←Rz.out];exact List.mem_map_of_mem hp))
   have r0:=(HB.out.set (.slice pa (je mg l l.length).length pc)).cell;have BR:=Hd sS;have R0:=Hd r0;have auv:=Hd wZ;have auw:Hid (pl.map rOf=bH mg l l.length):=Rz;clear sS r0 b3 hp wZ qU jG Ew alV Rz BI HI;generalize JG:je mg l l.length=mk at *;have Xz:=Hd JG;clear JG;go_wp2_with fail;exact bodyPost_ret (v:=.tuple #[iP (.slice pa mk.length pc),.slice ma pl.length mc]) (by simp[results,Tryz.results7,go_sem,R0.out]) rfl ⟨⟨_,_,pl,rfl,by rw[Xz.out];exact BR.out,auv.out,auw.out⟩,HQ.out.setCell (by simp) _⟩
def QIs(w:World)(q:QL)(cs:List Value):Prop:=∃k s a1 n1 p1 a2 n2 p2 a3 n3 p3,cs=[.int .i64 k,ak s,.slice a1 n1 p1,.slice a2 n2 p2,.slice a3 n3 p3]∧QryAt w q (.agg #[.int .i64 k,ak s,.slice a1 n1 p1,.slice a2 n2 p2,.slice a3 n3 p3])
theorem QIs.stays{w w':World}{q:QL}{cs:List Value}(h:QIs w q cs)(hb:Q w w'):QIs w' q cs:=by
 obtain⟨k,s,a1,n1,p1,a2,n2,p2,a3,n3,p3,h1,h2⟩:=h;exact⟨k,s,a1,n1,p1,a2,n2,p2,a3,n3,p3,h1,h2.stays hb⟩
theorem QryAt.isV{w:World}{q:QL}{v:Value}(h:QryAt w q v):∃cs,v=.agg cs.toArray∧QIs w q cs:=by
 cases q with
 | mk k s m sh n =>
  obtain⟨vm,vs,vn,rfl,⟨a1,p1,rfl,x1⟩,⟨a2,p2,rfl,x2⟩,⟨a3,p3,rfl,x3⟩⟩:=h.open;exact⟨[.int .i64 k,ak s,.slice a1 m.length p1,.slice a2 sh.length p2,.slice a3 n.length p3],rfl,k,s,a1,_,p1,a2,_,p2,a3,_,p3,rfl,h⟩
def QRows(w:World):List QL→List Value→Prop
 | [],vs=>vs=[]
 | q::qs,vs=>∃cs r,vs=cs++r∧QIs w q cs∧QRows w qs r
theorem QIs.len{w:World}{q:QL}{cs:List Value}(h:QIs w q cs):cs.length=5:=by
 obtain⟨_,_,_,_,_,_,_,_,_,_,_,rfl,_⟩:=h;rfl
theorem QRows.len{w:World}:∀{qs:List QL} {vs:List Value},QRows w qs vs→vs.length=qs.length*5
 | [],vs,h=>by simp only[QRows] at h;subst h;rfl
 | q::qs,vs,h=>by
  obtain⟨cs,r,rfl,h1,h2⟩:=h
  rw[List.length_append,h1.len,h2.len,List.length_cons];omega
theorem QRows.stays{w w':World}(hb:Q w w'):∀{qs:List QL} {vs:List Value},QRows w qs vs→QRows w' qs vs
 | [],vs,h=>h
 | q::qs,vs,h=>by
  obtain⟨cs,r,rfl,h1,h2⟩:=h
  exact⟨cs,r,rfl,h1.stays hb,h2.stays hb⟩
theorem QRows.append{w:World}{bs:List QL}{ys:List Value}(hb:QRows w bs ys):∀{as_:List QL} {xs:List Value},QRows w as_ xs→QRows w (as_++bs) (xs++ys)
 | [],xs,h=>by simp only[QRows] at h;subst h;exact hb
 | q::qs,xs,h=>by
  obtain⟨cs,r,rfl,h1,h2⟩:=h
  exact⟨cs,r++ys,List.append_assoc _ _ _,h1,QRows.append hb h2⟩
theorem QRows.one{w:World}:∀{qs:List QL} {vs:List Value},QRows w qs vs→∀u∈vs,u.oneCell'=true
 | [],vs,h,u,hu=>by simp only[QRows] at h;subst h;simp at hu
 | q::qs,vs,h,u,hu=>by
  obtain⟨cs,r,rfl,⟨k,s,a1,n1,p1,a2,n2,p2,a3,n3,p3,rfl,_⟩,h2⟩:=h
  rcases List.mem_append.1 hu with hu|hu
  ·simp at hu
   rcases hu with rfl|rfl|rfl|rfl|rfl<;>simp[Value.oneCell']
  ·exact QRows.one h2 u hu
theorem QRows.at{w:World}:∀{qs:List QL} {vs:List Value},QRows w qs vs→∀i (hi:i<qs.length),∃k s a1 n1 p1 a2 n2 p2 a3 n3 p3,vs[i*5]?=some (.int .i64 k)∧vs[i*5+1]?=some (ak s)∧vs[i*5+2]?=some (.slice a1 n1 p1)∧vs[i*5+3]?=some (.slice a2 n2 p2)∧vs[i*5+4]?=some (.slice a3 n3 p3) ∧
  QryAt w qs[i] (.agg #[.int .i64 k,ak s,.slice a1 n1 p1,.slice a2 n2 p2,.slice a3 n3 p3])
 | [],vs,h,i,hi=>by simp at hi
 | q::qs,vs,h,i,hi=>by
  obtain⟨cs,r,rfl,⟨k,s,a1,n1,p1,a2,n2,p2,a3,n3,p3,rfl,h1⟩,h2⟩:=h
  cases i with
  | zero=>exact⟨k,s,a1,n1,p1,a2,n2,p2,a3,n3,p3,rfl,rfl,rfl,rfl,rfl,h1⟩
  | succ i =>
   obtain⟨k',s',b1,m1,o1,b2,m2,o2,b3,m3,o3,g0,g1,g2,g3,g4,g5⟩:=QRows.at h2 i (by simpa using hi)
   refine⟨k',s',b1,m1,o1,b2,m2,o2,b3,m3,o3,?_,?_,?_,?_,?_,g5⟩
   ·rw[show(i+1)*5=i*5+1+1+1+1+1 by omega];exact g0
   ·rw[show(i+1)*5+1=(i*5+1)+1+1+1+1+1 by omega];exact g1
   ·rw[show(i+1)*5+2=(i*5+2)+1+1+1+1+1 by omega];exact g2
   ·rw[show(i+1)*5+3=(i*5+3)+1+1+1+1+1 by omega];exact g3
   ·rw[show(i+1)*5+4=(i*5+4)+1+1+1+1+1 by omega];exact g4
theorem QcellsAt.rows{w:World}:∀{qs:List QL} {b off:Nat},QcellsAt w qs b off→∃vs,QRows w qs vs∧∀j u,vs[j]?=some u→w.cell? ⟨b,off+j,none⟩=some u
 | [],b,off,h=>⟨[],rfl,fun j u hj=>by simp at hj⟩
 | q::qs,b,off,h=>by
  unfold QcellsAt at h
  obtain⟨⟨c0,c1,c2,c3,c4,⟨g0,g1,g2,g3,g4⟩,hq⟩,hr⟩:=h
  obtain⟨r,h1,h2⟩:=QcellsAt.rows hr
  obtain⟨cs,he,hi⟩:=hq.isV
  have tN:cs=[c0,c1,c2,c3,c4]:=by
   injection he with he;have:=congrArg Array.toList he;simpa using this.symm
  subst tN;refine⟨_,⟨[c0,c1,c2,c3,c4],r,rfl,hi,h1⟩,fun j u hj=>?_⟩
  match j,hj with
  | 0,hj=>cases hj;exact g0
  | 1,hj=>cases hj;exact g1
  | 2,hj=>cases hj;exact g2
  | 3,hj=>cases hj;exact g3
  | 4,hj=>cases hj;exact g4
  | j+5,hj =>
   have:=h2 j u (by simpa using hj)
   rwa [show off+5+j=off+(j+5) by omega] at this
theorem QrysAt.rows{w:World}{v:Value}{qs:List QL}(h:QrysAt w v qs):∃vs,QRows w qs vs∧Sl w v qs.length 5 vs:=by
 obtain⟨a,cap,rfl,hc⟩:=h;by_cases hn:0<qs.length
 ·obtain⟨b,off,rfl,bC⟩:=hc hn
  obtain⟨vs,h1,h2⟩:=bC.rows;exact⟨vs,h1,h1.len,_,cap,rfl,fun _=>⟨b,off,rfl,h2⟩⟩
 ·have:qs=[]:=List.eq_nil_of_length_eq_zero (by omega)
  subst this;exact⟨[],rfl,rfl,a,cap,rfl,fun h=>absurd h hn⟩
theorem QRows.cells{w:World}:∀{qs:List QL} {vs:List Value} {b off:Nat},QRows w qs vs→(∀j u,vs[j]?=some u→w.cell? ⟨b,off+j,none⟩=some u)→QcellsAt w qs b off
 | [],vs,b,off,h,hc=>by unfold QcellsAt;trivial
 | q::qs,vs,b,off,h,hc=>by
  obtain⟨cs,r,rfl,⟨k,s,a1,n1,p1,a2,n2,p2,a3,n3,p3,rfl,h1⟩,h2⟩:=h
  unfold QcellsAt
  refine⟨⟨_,_,_,_,_,⟨hc 0 _ rfl,hc 1 _ rfl,hc 2 _ rfl,hc 3 _ rfl,hc 4 _ rfl⟩,h1⟩,QRows.cells h2 (fun j u hj=>?_)⟩
  have:=hc (j+5) u (by simpa using hj)
  rwa [show off+(j+5)=off+5+j by omega] at this
theorem QRows.qrys{w:World}{v:Value}{qs:List QL}{vs:List Value}(h:QRows w qs vs)(hs:Sl w v qs.length 5 vs):QrysAt w v qs:=by
 obtain⟨_,a,cap,rfl,hc⟩:=hs;refine⟨a,cap,rfl,fun hn=>?_⟩
 obtain⟨b,off,rfl,bC⟩:=hc hn;exact⟨b,off,rfl,h.cells bC⟩
end
end Go.Proofs.YthijhicdmnoifaaGreatDoor
