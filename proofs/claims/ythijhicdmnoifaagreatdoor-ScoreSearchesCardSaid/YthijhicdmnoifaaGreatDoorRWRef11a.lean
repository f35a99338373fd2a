/- Joined texts of one proof. -/
import Derived.Test.YthijhicdmnoifaaGreatDoorROpen0
import Derived.Test.YthijhicdmnoifaaGreatDoorRWSh18
set_option linter.unusedSimpArgs false
set_option linter.unusedVariables false
set_option linter.unnecessarySimpa false
set_option maxRecDepth 100000
set_option maxHeartbeats 8000000
namespace Go.Proofs.YthijhicdmnoifaaGreatDoor
section
open Go.RowKit
theorem acr(r:Int):0≤qJ r∧qJ r≤3:=by
 rw[←acn];unfold Sz;repeat' split
 all_goals omega
def yE(b:Bool)(out:List Bytes)(t:Bytes):List Bytes :=
 if b=true then out.dropLast++dJ (chunks t) (some (out.getLastD [])) else out++dJ (chunks t) none
theorem wst_end(b:Bool)(out:List Bytes)(h:b=true→out≠[]):yE b out []=out:=by
 unfold yE;split
 ·rename_i hb
  rw[Dy,dJ];have:=h hb;rw[List.getLastD_eq_getLast?,List.getLast?_eq_some_getLast this];exact List.dropLast_concat_getLast this
 ·rw[Dy,dJ,List.append_nil]
theorem Df(b:Bool)(out:List Bytes)(t:Bytes)(ht:t≠[])(h:b=true→out≠[])(hw:fG (aP t).1=false):yE b out t=yE false out (t.drop (aP t).2):=by
 unfold yE;rw[kK t ht];split
 ·rename_i hb
  have:=h hb;rw[dJ,if_neg (by rw[hw];simp),if_neg (by simp),List.getLastD_eq_getLast?,List.getLast?_eq_some_getLast this]
  rw[←List.singleton_append,←List.append_assoc];simp only[Option.getD_some];rw[List.dropLast_concat_getLast this]
 ·rw[dJ,if_neg (by rw[hw];simp),if_neg (by simp)]
theorem wst_new(out:List Bytes)(t:Bytes)(ht:t≠[])(hw:fG (aP t).1=true):yE false out t=yE true (out++[t.take (aP t).2]) (t.drop (aP t).2):=by
 unfold yE;rw[kK t ht,if_neg (by simp),if_pos rfl,dJ,if_pos hw]
 simp
theorem acs(out:List Bytes)(t:Bytes)(ht:t≠[])(ho:out≠[])(hw:fG (aP t).1=true):yE true out t=yE true (out.dropLast++[out.getLastD []++t.take (aP t).2]) (t.drop (aP t).2):=by
 unfold yE;rw[kK t ht,if_pos rfl,if_pos rfl,dJ,if_pos hw];simp
theorem Qb(out:List Bytes)(x:Bytes)(ho:out≠[]):(out.map ak).set (out.length-1) (ak x)=(out.dropLast++[x]).map ak:=by
 obtain⟨o,c,rfl⟩:∃o c,out=o++[c]:=⟨out.dropLast,out.getLast ho,(List.dropLast_concat_getLast ho).symm⟩;rw[←List.map_set,List.length_append,List.length_singleton,Nat.add_sub_cancel,List.set_append_right _ _ (Nat.le_refl _)];simp
theorem ah5(s:Bytes)(w:World)(hs:s.length≤1000000000):
  Calls Tryz.prog 60 #[ak s] w fun e w'=>∃v,e=.returned v∧w'.ownsRow w.heap.size 9 1 v (bT s).length ((bT s).map ak)∧Q w w':=by
 obtain⟨i0,hi,fJ,eU,fD⟩:=info_parts (show(Tryz.prog.info? 9).map (fun i=>(i.zero,i.size,i.bytes))=some (some (ak []),1,16) by kernel_rfl)
 go_enter Tryz.func60,Tryz.ntmps60;go_wp2_with fail;go_loopw [3,4,0] (fun v3 v4 v0 wr=>∃(t:Bytes) (b:Bool) (out:List Bytes),v0=ak t∧v4=.bool b∧t.length≤s.length∧out.length+t.length≤s.length∧(b=true→out≠[])∧Hid (∀x∈out,x.length+t.length≤s.length)∧Hid (bT s=yE b out t)∧Hid (wr.ownsRow w.heap.size 9 1 v3 out.length (out.map ak))∧Hid (Q w wr)) (fun _ _ v _=>(match v with | .string b=>b.size|_=>0))
 case atStart=>exact⟨s,false,[],rfl,rfl,Nat.le_refl _,by simp,(fun h=>by cases h),(fun x hx=>by cases hx),rfl,World.ownsRow_nil _ _ _ _,Q.refl _⟩
 case round =>
  obtain⟨t,b,out,rfl,rfl,vg,sD,hb,OX,GL,HO,HQ⟩:=hrel;obtain⟨wo,rfl⟩:∃wo:World,wo=wr:=⟨_,rfl⟩;by_cases aF:t=[]
  ·subst aF
   have QH:=wst_end b out hb;go_wp2_with fail;go_ret;have JA:=GL.out;rw[QH] at JA;rw[JA];exact⟨_,rfl,HO.out,HQ.out⟩
  ·have hl:0<t.length:=List.length_pos_iff.2 aF
   have OP:(0:Int)<(t.length:Int):=by omega
   obtain⟨qC,rD⟩:=lV t aF;have zu:=Qa t aF;have cr:=fun W=>P9 t W (by omega)
   have ck:=fun W=>RKind_any (aP t).1 W
   have xJ:({ data:=t.toArray }:ByteArray).extract (aP t).2 t.length=⟨(t.drop (aP t).2).toArray⟩:=iV t _;have gU:({ data:=t.toArray }:ByteArray).extract 0 (aP t).2=⟨(t.take (aP t).2).toArray⟩:=og t _;have ku:(t.drop (aP t).2).length=t.length-(aP t).2:=List.length_drop;have atW:(t.take (aP t).2).length≤t.length:=by rw[List.length_take];omega
   have uZ:=Hd aF;have HB:=Hd hb;have La:fG (aP t).1=(decide (0≤(aP t).1)&&(qJ (aP t).1==1||qJ (aP t).1==2)):=rfl;obtain⟨r,hr⟩:∃r,r=(aP t).1:=⟨_,rfl⟩;obtain⟨n,hn⟩:∃n,n=(aP t).2:=⟨_,rfl⟩;obtain⟨td,Bu⟩:∃td,td=t.drop (aP t).2:=⟨_,rfl⟩;obtain⟨tk,ajf⟩:∃tk,tk=t.take (aP t).2:=⟨_,rfl⟩;rw[←Bu] at xJ ku;rw[←ajf] at gU atW;rw[←hr] at cr ck zu La;rw[←hn] at cr xJ gU ku qC rD;have Uw:=Hd Bu;have qV:=Hd ajf;have HR:=Hd hr;have Cw:(n:Int)≤(t.length:Int):=by omega
   have Ij:(0:Int)≤(n:Int):=by omega
   have ayc:td.length<t.length:=by omega
   have adn:tk.length+td.length=t.length:=by rw[ajf,Bu,←List.length_append,List.take_append_drop]
   have Nb:=Hd adn;clear adn;have bY:td.length≤s.length:=by omega
   have Rq:fG (aP t).1=fG r:=by rw[hr]
   clear hr hn Bu ajf aF hb ku;have Ih:=acr r;generalize hk:qJ r=k at *;clear hk;by_cases h0:r<0
   ·have KY:fG (aP t).1=false:=by rw[Rq,La,decide_eq_false (by omega)];rfl
    have NC:=Hd KY;clear KY La Rq;cases b with
    | false =>
     have aI:=Df false out t uZ.out HB.out NC.out;have bJ:=Hd aI;clear aI;go_wp2_with fail;refine(cr _).mono ?_;rintro e w1 ⟨rfl,q1⟩;have aC:=Hd (HQ.out.trans q1);have jH:=Hd (ownsRow_below HO.out q1);have aY:w.heap.size≤w1.heap.size:=aC.out.size;clear q1 HO HQ cr;go_wp2_with fail;refine(ck _).mono ?_;rintro e w2 ⟨rfl,rfl⟩;clear ck;go_wp2_with fail;go_roundw;case rel=>exact⟨td,false,out,rfl,rfl,by omega,by omega,(fun h=>by cases h),(fun x hx=>by have:=OX.out x hx;omega),by show _=_;rw[GL.out,bJ.out,Uw.out],jH,aC⟩
     case measure=>show td.length<t.length;omega
    | true =>
     have aI:=Df true out t uZ.out HB.out NC.out;have bJ:=Hd aI;clear aI;go_wp2_with fail;refine(cr _).mono ?_;rintro e w1 ⟨rfl,q1⟩;have aC:=Hd (HQ.out.trans q1);have jH:=Hd (ownsRow_below HO.out q1);have aY:w.heap.size≤w1.heap.size:=aC.out.size;clear q1 HO HQ cr;go_wp2_with fail;refine(ck _).mono ?_;rintro e w2 ⟨rfl,rfl⟩;clear ck;go_wp2_with fail;go_roundw;case rel=>exact⟨td,false,out,rfl,rfl,by omega,by omega,(fun h=>by cases h),(fun x hx=>by have:=OX.out x hx;omega),by show _=_;rw[GL.out,bJ.out,Uw.out],jH,aC⟩
     case measure=>show td.length<t.length;omega
   ·by_cases k1:k=1
    ·have KY:fG (aP t).1=true:=by rw[Rq,La,decide_eq_true (by omega),k1];rfl
     have NC:=Hd KY;clear KY La Rq;subst k1;cases b with
     | false =>
      have aI:=wst_new out t uZ.out NC.out;have bJ:=Hd aI;clear aI;go_wp2_with fail;refine(cr _).mono ?_;rintro e w1 ⟨rfl,q1⟩;have aC:=Hd (HQ.out.trans q1);have jH:=Hd (ownsRow_below HO.out q1);have aY:w.heap.size≤w1.heap.size:=aC.out.size;clear q1 HO HQ cr;go_wp2_with fail;refine(ck _).mono ?_;rintro e w2 ⟨rfl,rfl⟩;clear ck;have jf:=jH.out;go_wp2_with (at_builtin;go_must (refine cZ w2 (by rfl) _ _ 136 (by rfl) w.heap.size 9 _ i0 (ak []) 1 16 Tryz.underlying136 hi fJ eU fD rfl (by decide) (by decide) _ _ _ (by rfl) jf #[ak []] (by simp[Act.eval]) rfl ?c1 ?c2 aY ?_))
      case c1=>simp[Value.oneCell']
      case c2=>omega
      intro g6 cap6 w6 aW dB iL uz tq;have q6:Q w w6:=aL aC.out jf dB (Nat.le_refl _) (by omega)
      rw[show out.map ak++(#[ak []]:Array Value).toList=(out++[[]]).map ak by simp] at aW
      have Gy:w6.cell? ⟨g6,out.length,none⟩=some (ak []):=by
       rw[aW.cellAt _ (by omega)];simp
      have C8:w6.frozen? ⟨g6,out.length,none⟩=false:=aW.frozenAt _;have jP:=(aW.stored out.length (ak tk)).1;have Qo:List.set (List.map ak (out++[([]:Bytes)])) out.length (ak tk)=List.map ak (out++[tk]):=by
       rw[←List.map_set,List.set_append_right _ _ (Nat.le_refl _)];simp
      rw[Qo] at jP;clear Qo;have BJ:w.heap.size≤g6:=by
       rcases aW.2 with ⟨h,_⟩|⟨g,c,cur,h,hb,_⟩
       ·cases h
       ·cases h;exact hb
      have GV:=q6.setCell (a:=⟨g6,out.length,none⟩) BJ (ak tk);rw[show out.length+1=(out++[tk]).length by simp] at jP
      have vk:(out++[tk]).length=out.length+1:=by simp
      rw[vk] at jP;have zQ:=Hd jP;have ny:=Hd GV;have Ii:=Hd vk;clear jP GV aW dB iL jf q6 vk;have wK:({ data:=([]:Bytes).toArray }:ByteArray)++{ data:=tk.toArray }=⟨tk.toArray⟩:=by rw[bytes_append,List.nil_append]
      have sD:(out.length:Int)+1-1=(out.length:Int):=by omega
      have Xe:(0:Int)≤(out.length:Int):=by omega
      have jI:(out.length:Int)<(out.length:Int)+1:=by omega
      have mY:∀W:World,(Op.stringOp .add ⟨([]:Bytes).toArray⟩ ⟨tk.toArray⟩).run Tryz.prog W=.ok (.string ⟨tk.toArray⟩) W:=fun W=>by
       rw[run_string_add_sum W _ _ (by show 0+tk.length≤_;omega)];rw[wK]
      go_wp2_with fail;go_region;go_wp2_with fail;go_roundw;case rel=>exact⟨td,true,out++[tk],rfl,rfl,by omega,by rw[Ii.out];omega,(fun _=>by simp),(fun x hx=>by
       rcases List.mem_append.1 hx with hx|hx
       ·have:=OX.out x hx;omega
       ·rw[List.mem_singleton] at hx;subst hx;have:=Nb.out;omega),by show _=_;rw[GL.out,bJ.out,Uw.out,qV.out],by rw[Ii.out];exact ownsRow_below zQ.out (Q.drew _),ny.out.trans (Q.drew _)⟩
      case measure=>show td.length<t.length;omega
     | true =>
      have zX:=HB.out rfl;have aI:=acs out t uZ.out zX NC.out;have lD:(out.map ak)[out.length-1]?=some (ak (out.getLastD [])):=by
       rw[List.getElem?_map,List.getLastD_eq_getLast?,List.getLast?_eq_getElem?];rw[List.getElem?_eq_getElem (by have:=List.length_pos_iff.2 zX;omega)];rfl
      have Oj:=Qb out (out.getLastD []++tk) zX;have kR:(out.dropLast++[out.getLastD []++tk]).length=out.length:=by
       have:=List.length_pos_iff.2 zX;rw[List.length_append,List.length_dropLast,List.length_singleton];omega
      have atX:(out.getLastD []).length+t.length≤s.length:=OX.out _ (by rw[List.getLastD_eq_getLast?,List.getLast?_eq_some_getLast zX];exact List.getLast_mem zX)
      have um:∀x∈out.dropLast++[out.getLastD []++tk],x.length+td.length≤s.length:=fun x hx=>by
       have:=Nb.out;rcases List.mem_append.1 hx with hx|hx
       ·have:=OX.out x (List.dropLast_subset out hx);omega
       ·rw[List.mem_singleton] at hx;subst hx;rw[List.length_append];omega
      rw[←qV.out,←Uw.out] at aI;obtain⟨m1,yI⟩:∃m1,out.length=m1+1:=⟨out.length-1,by have:=List.length_pos_iff.2 zX;omega⟩
      rw[yI,Nat.add_sub_cancel] at lD Oj;rw[yI] at kR sD;have ho:=HO.out;rw[yI] at ho;generalize ajg:out.dropLast++[out.getLastD []++tk]=out2 at *;generalize out.getLastD []=cur at *;obtain⟨ga,gcap,rfl,BJ⟩:=aT ho;obtain⟨g6,rfl⟩:=BJ (by omega)
      have HO:=Hd ho;have bJ:=Hd aI;have xu:=Hd kR;have Nr:=Hd um;have Pb:=Hd lD;have yG:=Hd Oj;clear aI lD Oj kR um yI ajg ho BJ zX;go_wp2_with fail;refine(cr _).mono ?_;rintro e w1 ⟨rfl,q1⟩;have aC:=Hd (HQ.out.trans q1);have jH:=Hd (ownsRow_below HO.out q1);have aY:w.heap.size≤w1.heap.size:=aC.out.size;clear q1 HO HQ cr;go_wp2_with fail;refine(ck _).mono ?_;rintro e w2 ⟨rfl,rfl⟩;clear ck;have Gy:w2.cell? ⟨g6,m1,none⟩=some (ak cur):=by rw[jH.out.cellAt _ (by omega)];exact Pb.out
      have C8:w2.frozen? ⟨g6,m1,none⟩=false:=jH.out.frozenAt _;have jP:=(jH.out.stored m1 (ak (cur++tk))).1;rw[yG.out] at jP;have Cq:w.heap.size≤g6:=by
       rcases jH.out.2 with ⟨h,_⟩|⟨g,c,cu,h,hb,_⟩
       ·cases h
       ·cases h;exact hb
      have GV:=aC.out.setCell (a:=⟨g6,m1,none⟩) Cq (ak (cur++tk));have zQ:=Hd jP;have ny:=Hd GV;clear jP GV jH aC;have wK:({ data:=cur.toArray }:ByteArray)++{ data:=tk.toArray }=⟨(cur++tk).toArray⟩:=bytes_append _ _;have mY:∀W:World,(Op.stringOp .add ⟨cur.toArray⟩ ⟨tk.toArray⟩).run Tryz.prog W=.ok (.string ⟨(cur++tk).toArray⟩) W:=fun W=>by
       rw[run_string_add_sum W _ _ (by show cur.length+tk.length≤_;have:=Nb.out;omega)];rw[wK]
      generalize cur++tk=ct at *;have sD:(m1:Int)+1-1=(m1:Int):=by omega
      have Xe:(0:Int)≤(m1:Int):=by omega
      have jI:(m1:Int)<(m1:Int)+1:=by omega
      clear wK;go_wp2_with fail;go_region;go_wp2_with fail;go_roundw;case rel=>exact⟨td,true,out2,rfl,rfl,by omega,by rw[xu.out];omega,(fun _=>by intro e;have:=xu.out;rw[e] at this;simp at this),Nr,by show _=_;rw[GL.out,bJ.out],by rw[xu.out];exact ownsRow_below zQ.out (Q.drew _),ny.out.trans (Q.drew _)⟩
      case measure=>show td.length<t.length;omega
    ·by_cases k2:k=2
     ·have KY:fG (aP t).1=true:=by rw[Rq,La,decide_eq_true (by omega),k2];rfl
      have NC:=Hd KY;clear KY La Rq;subst k2;cases b with
      | false =>
       have aI:=wst_new out t uZ.out NC.out;have bJ:=Hd aI;clear aI;go_wp2_with fail;refine(cr _).mono ?_;rintro e w1 ⟨rfl,q1⟩;have aC:=Hd (HQ.out.trans q1);have jH:=Hd (ownsRow_below HO.out q1);have aY:w.heap.size≤w1.heap.size:=aC.out.size;clear q1 HO HQ cr;go_wp2_with fail;refine(ck _).mono ?_;rintro e w2 ⟨rfl,rfl⟩;clear ck;have jf:=jH.out;go_wp2_with (at_builtin;go_must (refine cZ w2 (by rfl) _ _ 136 (by rfl) w.heap.size 9 _ i0 (ak []) 1 16 Tryz.underlying136 hi fJ eU fD rfl (by decide) (by decide) _ _ _ (by rfl) jf #[ak []] (by simp[Act.eval]) rfl ?c1 ?c2 aY ?_))
       case c1=>simp[Value.oneCell']
       case c2=>omega
       intro g6 cap6 w6 aW dB iL uz tq;have q6:Q w w6:=aL aC.out jf dB (Nat.le_refl _) (by omega)
       rw[show out.map ak++(#[ak []]:Array Value).toList=(out++[[]]).map ak by simp] at aW
       have Gy:w6.cell? ⟨g6,out.length,none⟩=some (ak []):=by
        rw[aW.cellAt _ (by omega)];simp
       have C8:w6.frozen? ⟨g6,out.length,none⟩=false:=aW.frozenAt _;have jP:=(aW.stored out.length (ak tk)).1;have Qo:List.set (List.map ak (out++[([]:Bytes)])) out.length (ak tk)=List.map ak (out++[tk]):=by
        rw[←List.map_set,List.set_append_right _ _ (Nat.le_refl _)];simp
       rw[Qo] at jP;clear Qo;have BJ:w.heap.size≤g6:=by
        rcases aW.2 with ⟨h,_⟩|⟨g,c,cur,h,hb,_⟩
        ·cases h
        ·cases h;exact hb
       have GV:=q6.setCell (a:=⟨g6,out.length,none⟩) BJ (ak tk);rw[show out.length+1=(out++[tk]).length by simp] at jP
       have vk:(out++[tk]).length=out.length+1:=by simp
       rw[vk] at jP;have zQ:=Hd jP;have ny:=Hd GV;have Ii:=Hd vk;clear jP GV aW dB iL jf q6 vk;have wK:({ data:=([]:Bytes).toArray }:ByteArray)++{ data:=tk.toArray }=⟨tk.toArray⟩:=by rw[bytes_append,List.nil_append]
       have sD:(out.length:Int)+1-1=(out.length:Int):=by omega
       have Xe:(0:Int)≤(out.length:Int):=by omega
       have jI:(out.length:Int)<(out.length:Int)+1:=by omega
       have mY:∀W:World,(Op.stringOp .add ⟨([]:Bytes).toArray⟩ ⟨tk.toArray⟩).run Tryz.prog W=.ok (.string ⟨tk.toArray⟩) W:=fun W=>by
        rw[run_string_add_sum W _ _ (by show 0+tk.length≤_;omega)];rw[wK]
       go_wp2_with fail;go_region;go_wp2_with fail;go_roundw;case rel=>exact⟨td,true,out++[tk],rfl,rfl,by omega,by rw[Ii.out];omega,(fun _=>by simp),(fun x hx=>by
        rcases List.mem_append.1 hx with hx|hx
        ·have:=OX.out x hx;omega
        ·rw[List.mem_singleton] at hx;subst hx;have:=Nb.out;omega),by show _=_;rw[GL.out,bJ.out,Uw.out,qV.out],by rw[Ii.out];exact ownsRow_below zQ.out (Q.drew _),ny.out.trans (Q.drew _)⟩
       case measure=>show td.length<t.length;omega
      | true =>
       have zX:=HB.out rfl;have aI:=acs out t uZ.out zX NC.out;have lD:(out.map ak)[out.length-1]?=some (ak (out.getLastD [])):=by
        rw[List.getElem?_map,List.getLastD_eq_getLast?,List.getLast?_eq_getElem?];rw[List.getElem?_eq_getElem (by have:=List.length_pos_iff.2 zX;omega)];rfl
       have Oj:=Qb out (out.getLastD []++tk) zX;have kR:(out.dropLast++[out.getLastD []++tk]).length=out.length:=by
        have:=List.length_pos_iff.2 zX;rw[List.length_append,List.length_dropLast,List.length_singleton];omega
       have atX:(out.getLastD []).length+t.length≤s.length:=OX.out _ (by rw[List.getLastD_eq_getLast?,List.getLast?_eq_some_getLast zX];exact List.getLast_mem zX)
       have um:∀x∈out.dropLast++[out.getLastD []++tk],x.length+td.length≤s.length:=fun x hx=>by
        have:=Nb.out;rcases List.mem_append.1 hx with hx|hx
        ·have:=OX.out x (List.dropLast_subset out hx);omega
        ·rw[List.mem_singleton] at hx;subst hx;rw[List.length_append];omega
       rw[←qV.out,←Uw.out] at aI;obtain⟨m1,yI⟩:∃m1,out.length=m1+1:=⟨out.length-1,by have:=List.length_pos_iff.2 zX;omega⟩
       rw[yI,Nat.add_sub_cancel] at lD Oj;rw[yI] at kR sD;have ho:=HO.out;rw[yI] at ho;generalize ajg:out.dropLast++[out.getLastD []++tk]=out2 at *;generalize out.getLastD []=cur at *;obtain⟨ga,gcap,rfl,BJ⟩:=aT ho;obtain⟨g6,rfl⟩:=BJ (by omega)
       have HO:=Hd ho;have bJ:=Hd aI;have xu:=Hd kR;have Nr:=Hd um;have Pb:=Hd lD;have yG:=Hd Oj;clear aI lD Oj kR um yI ajg ho BJ zX;go_wp2_with fail;refine(cr _).mono ?_;rintro e w1 ⟨rfl,q1⟩;have aC:=Hd (HQ.out.trans q1);have jH:=Hd (ownsRow_below HO.out q1);have aY:w.heap.size≤w1.heap.size:=aC.out.size;clear q1 HO HQ cr;go_wp2_with fail;refine(ck _).mono ?_;rintro e w2 ⟨rfl,rfl⟩;clear ck;have Gy:w2.cell? ⟨g6,m1,none⟩=some (ak cur):=by rw[jH.out.cellAt _ (by omega)];exact Pb.out
       have C8:w2.frozen? ⟨g6,m1,none⟩=false:=jH.out.frozenAt _;have jP:=(jH.out.stored m1 (ak (cur++tk))).1;rw[yG.out] at jP;have Cq:w.heap.size≤g6:=by
        rcases jH.out.2 with ⟨h,_⟩|⟨g,c,cu,h,hb,_⟩
        ·cases h
        ·cases h;exact hb
       have GV:=aC.out.setCell (a:=⟨g6,m1,none⟩) Cq (ak (cur++tk));have zQ:=Hd jP;have ny:=Hd GV;clear jP GV jH aC;have wK:({ data:=cur.toArray }:ByteArray)++{ data:=tk.toArray }=⟨(cur++tk).toArray⟩:=bytes_append _ _;have mY:∀W:World,(Op.stringOp .add ⟨cur.toArray⟩ ⟨tk.toArray⟩).run Tryz.prog W=.ok (.string ⟨(cur++tk).toArray⟩) W:=fun W=>by
        rw[run_string_add_sum W _ _ (by show cur.length+tk.length≤_;have:=Nb.out;omega)];rw[wK]
       generalize cur++tk=ct at *;have sD:(m1:Int)+1-1=(m1:Int):=by omega
       have Xe:(0:Int)≤(m1:Int):=by omega
       have jI:(m1:Int)<(m1:Int)+1:=by omega
       clear wK;go_wp2_with fail;go_region;go_wp2_with fail;go_roundw;case rel=>exact⟨td,true,out2,rfl,rfl,by omega,by rw[xu.out];omega,(fun _=>by intro e;have:=xu.out;rw[e] at this;simp at this),Nr,by show _=_;rw[GL.out,bJ.out],by rw[xu.out];exact ownsRow_below zQ.out (Q.drew _),ny.out.trans (Q.drew _)⟩
       case measure=>show td.length<t.length;omega
     ·have KY:fG (aP t).1=false:=by
       rw[Rq,La,show(k==1)=false by simpa using k1,show(k==2)=false by simpa using k2];simp
      have NC:=Hd KY;clear KY La Rq;have h03:k=0∨k=3:=by omega
      clear k1 k2 Ih;rcases h03 with rfl|rfl
      ·cases b with
       | false =>
        have aI:=Df false out t uZ.out HB.out NC.out;have bJ:=Hd aI;clear aI;go_wp2_with fail;refine(cr _).mono ?_;rintro e w1 ⟨rfl,q1⟩;have aC:=Hd (HQ.out.trans q1);have jH:=Hd (ownsRow_below HO.out q1);have aY:w.heap.size≤w1.heap.size:=aC.out.size;clear q1 HO HQ cr;go_wp2_with fail;refine(ck _).mono ?_;rintro e w2 ⟨rfl,rfl⟩;clear ck;go_wp2_with fail;go_roundw;case rel=>exact⟨td,false,out,rfl,rfl,by omega,by omega,(fun h=>by cases h),(fun x hx=>by have:=OX.out x hx;omega),by show _=_;rw[GL.out,bJ.out,Uw.out],jH,aC⟩
        case measure=>show td.length<t.length;omega
       | true =>
        have aI:=Df true out t uZ.out HB.out NC.out;have bJ:=Hd aI;clear aI;go_wp2_with fail;refine(cr _).mono ?_;rintro e w1 ⟨rfl,q1⟩;have aC:=Hd (HQ.out.trans q1);have jH:=Hd (ownsRow_below HO.out q1);have aY:w.heap.size≤w1.heap.size:=aC.out.size;clear q1 HO HQ cr;go_wp2_with fail;refine(ck _).mono ?_;rintro e w2 ⟨rfl,rfl⟩;clear ck;go_wp2_with fail;go_roundw;case rel=>exact⟨td,false,out,rfl,rfl,by omega,by omega,(fun h=>by cases h),(fun x hx=>by have:=OX.out x hx;omega),by show _=_;rw[GL.out,bJ.out,Uw.out],jH,aC⟩
        case measure=>show td.length<t.length;omega
      ·cases b with
       | false =>
        have aI:=Df false out t uZ.out HB.out NC.out;have bJ:=Hd aI;clear aI;go_wp2_with fail;refine(cr _).mono ?_;rintro e w1 ⟨rfl,q1⟩;have aC:=Hd (HQ.out.trans q1);have jH:=Hd (ownsRow_below HO.out q1);have aY:w.heap.size≤w1.heap.size:=aC.out.size;clear q1 HO HQ cr;go_wp2_with fail;refine(ck _).mono ?_;rintro e w2 ⟨rfl,rfl⟩;clear ck;go_wp2_with fail;go_roundw;case rel=>exact⟨td,false,out,rfl,rfl,by omega,by omega,(fun h=>by cases h),(fun x hx=>by have:=OX.out x hx;omega),by show _=_;rw[GL.out,bJ.out,Uw.out],jH,aC⟩
        case measure=>show td.length<t.length;omega
       | true =>
        have aI:=Df true out t uZ.out HB.out NC.out;have bJ:=Hd aI;clear aI;go_wp2_with fail;refine(cr _).mono ?_;rintro e w1 ⟨rfl,q1⟩;have aC:=Hd (HQ.out.trans q1);have jH:=Hd (ownsRow_below HO.out q1);have aY:w.heap.size≤w1.heap.size:=aC.out.size;clear q1 HO HQ cr;go_wp2_with fail;refine(ck _).mono ?_;rintro e w2 ⟨rfl,rfl⟩;clear ck;go_wp2_with fail;go_roundw;case rel=>exact⟨td,false,out,rfl,rfl,by omega,by omega,(fun h=>by cases h),(fun x hx=>by have:=OX.out x hx;omega),by show _=_;rw[GL.out,bJ.out,Uw.out],jH,aC⟩
        case measure=>show td.length<t.length;omega
theorem Zz:stopsL=[[97],[97,110],[97,110,100],[97,114,101],[97,115],[97,116],[98,101],[98,121],[102,111,114],[105,110],[105,115],[105,116],[111,102],[111,110],[111,114],[116,104,101],[116,111],[119,105,116,104]]:=by decide
theorem RStop_any(t:Bytes)(w:World):
  Calls Tryz.prog 62 #[ak t] w fun e w'=>e=.returned (.bool (xR t))∧Q w w':=by
 have hq:=Q.alloc w (.cells (stopsL.map ak).toArray 9);have Vk:(stopsL.map ak).toArray=#[ak [97],ak [97,110],ak [97,110,100],ak [97,114,101],ak [97,115],ak [97,116],ak [98,101],ak [98,121],ak [102,111,114],ak [105,110],ak [105,115],ak [105,116],ak [111,102],ak [111,110],ak [111,114],ak [116,104,101],ak [116,111],ak [119,105,116,104]]:=by rw[Zz];rfl
 have aJ:∀j (hj:j<stopsL.length),(w.alloc (.cells (stopsL.map ak).toArray 9)).cell? ⟨w.heap.size,j,none⟩=some (ak stopsL[j]):=fun j hj=>by
  simp only[World.cell?,heap_alloc_new,List.getElem?_toArray,List.getElem?_map,List.getElem?_eq_getElem hj,Option.map_some];simp
 have am9:stopsL.length=18:=by rw[Zz];rfl
 rw[Vk] at aJ hq;have HC:=Hd aJ;have jk:=Hd hq;have yG:=Hd am9;clear hq Vk aJ am9;go_enter Tryz.func62,Tryz.ntmps62;go_wp2_with fail;generalize Xu:w.alloc _=wa at *;clear Xu;go_loopw [4] (fun i wr=>∃k:Nat,k≤18∧i=.int .i64 (k:Nat)∧Hid (∀j (hj:j<stopsL.length),j<k→stopsL[j]≠t)∧Hid (Q wa wr)) (fun i _=>18-(intOf i).toNat)
 case atStart=>exact⟨0,by omega,rfl,fun j hj h=>by omega,Q.refl _⟩
 case round =>
  obtain⟨k,hk,rfl,nN,HQ⟩:=hrel;obtain⟨wo,rfl⟩:∃wo:World,wo=wr:=⟨_,rfl⟩;by_cases hlt:k<18
  ·have CJ:k<stopsL.length:=by rw[yG.out];exact hlt
   have hc:=ah HQ.out (HC.out k CJ);have ql:(k:Int)<18:=by omega
   have gY:(0:Int)≤(k:Int):=by omega
   have hx:stopsL[k]∈stopsL:=List.getElem_mem CJ;have fE:stopsL[k]≠t→∀j (hj:j<stopsL.length),j<k+1→stopsL[j]≠t:=fun h j hj Cn=>by
    by_cases he:j=k
    ·subst he;exact h
    ·exact nN.out j hj (by omega)
   have HX:=Hd hx;have HN:=Hd fE;clear hx fE;generalize stopsL[k]=x at *;by_cases he:x=t
   ·have HE:=Hd he
    subst he;go_wp2_with fail;go_ret;exact⟨eX (by unfold xR;symm;simpa using HX.out),jk.out.trans HQ.out⟩
   ·have zI:(x==t)=false:=by simpa using he
    have zJ:@BEq.beq (List UInt8) instBEqOfDecidableEq x t=false:=by simpa using he
    have zK:@BEq.beq (List UInt8) List.instBEq x t=false:=by simpa using he
    have HE:=Hd he;clear he;go_wp2_with fail;go_roundw;case rel=>exact⟨k+1,by omega,by go_num,HN.out HE.out,HQ⟩
    case measure=>simp[intOf];omega
  ·have cO:k=18:=by omega
   subst cO;go_wp2_with fail;go_ret;refine⟨eX ?_,jk.out.trans HQ.out⟩;have:t∉stopsL:=fun h=>by
    obtain⟨j,hj,qh⟩:=List.mem_iff_getElem.1 h;exact nN.out j hj (by have:=yG.out;omega) qh
   unfold xR;symm;simpa using this
theorem Gh(s:Bytes)(w:World)(hs:s.length≤100000000):
  Calls Tryz.prog 28 #[ak s] w fun e w'=>∃v,e=.returned v∧w'.ownsRow w.heap.size 129 2 v (aA s).length (dF (aA s))∧Q w w':=by
 obtain⟨i0,hi,fJ,eU,fD⟩:=info_parts kr;have cw:=ah5 s w (by omega)
 have CW:=Hd cw;clear cw;go_enter Tryz.func28,Tryz.ntmps28;go_wp2_with fail;refine CW.out.mono ?_;rintro e w1 ⟨v1,rfl,jf,q1⟩;obtain⟨a1,c1,rfl,oO⟩:=aT jf;have su:=Hd (show Strs w1 (.slice a1 (bT s).length c1) (bT s) from by have:=Sl.of_owns jf;exact this)
 have aC:=Hd q1;have Gz:=uJ s;clear jf q1 CW;go_wp2_with fail;go_loopw [3,5] (fun ov i wr=>∃k:Nat,k≤(bT s).length∧i=.int .i64 (k:Nat)∧Hid (wr.ownsRow w1.heap.size 129 2 ov (pO s k).length (dF (pO s k)))∧Hid (Q w1 wr)) (fun _ i _=>(bT s).length-(intOf i).toNat)
 case atStart=>exact⟨0,by omega,rfl,World.ownsRow_nil _ _ _ _,Q.refl _⟩
 case round =>
  obtain⟨k,hk,rfl,HO,HQ⟩:=hrel;obtain⟨wo,rfl⟩:∃wo:World,wo=wr:=⟨_,rfl⟩;by_cases hlt:k<(bT s).length
  ·obtain⟨aa,cc,Ao,bC⟩:=su.out.value
   cases Ao;obtain⟨b,o,rfl,hc⟩:=bC (by omega)
   have t0:=ah HQ.out (hc k hlt);have ql:(k:Int)<((bT s).length:Int):=by omega
   have gY:(0:Int)≤(k:Int):=by omega
   have zV:=V5 s k hlt;have vg:=YX s k;have hx:=Gz.2 _ (List.getElem_mem hlt);have ayd:=Gz.1;clear hc bC;generalize (bT s)[k]=x at *;have rG:=F5 x;have cf:=fun W=>TL x W (by omega)
   have Rt:J8 x k=if (bQ x).length≤40∧xR (bQ x)=false then [(bQ x,k)] else []:=rfl
   have cs:=fun W=>RStop_any (bQ x) W
   generalize bQ x=f at *;have GN:=Hd zV;clear zV Gz;generalize gU:pO s k=tk at *;have qV:=Hd gU;clear gU;have aY:w1.heap.size≤wo.heap.size:=HQ.out.size;cases aI:xR f with
   | true =>
    rw[aI] at cs Rt;rw[if_neg (by simp)] at Rt
    have Pd:=Hd Rt;clear Rt aI;go_wp2_with fail;refine(cf _).mono ?_;rintro e w2 ⟨rfl,q2⟩;have aS:=Hd (HQ.out.trans q2);have rF:=Hd (ownsRow_below HO.out q2);clear q2 HQ HO cf;go_wp2_with fail;refine(cs _).mono ?_;rintro e w3 ⟨rfl,q3⟩;have bZ:=Hd (aS.out.trans q3);have zi:=Hd (ownsRow_below rF.out q3);clear q3 aS rF cs;go_wp2_with fail;go_roundw;case rel=>exact⟨k+1,by omega,by go_num,by show World.ownsRow _ _ _ _ _ _ _;rw[GN.out,Pd.out,List.append_nil];exact zi.out,bZ⟩
    case measure=>simp[intOf];omega
   | false =>
    rw[aI] at cs Rt;clear aI;by_cases TV:f.length≤40
    ·rw[if_pos ⟨TV,rfl⟩] at Rt
     have atY:(f.length:Int)≤40:=by omega
     have Pd:=Hd Rt;clear Rt;go_wp2_with fail;refine(cf _).mono ?_;rintro e w2 ⟨rfl,q2⟩;have aS:=Hd (HQ.out.trans q2);have rF:=Hd (ownsRow_below HO.out q2);clear q2 HQ HO cf;go_wp2_with fail;refine(cs _).mono ?_;rintro e w3 ⟨rfl,q3⟩;have bZ:=Hd (aS.out.trans q3);have zY:=ownsRow_below rF.out q3;have Oq:w1.heap.size≤w3.heap.size:=bZ.out.size;clear q3 aS rF cs;go_wp2_with (at_builtin;go_must (refine cZ w3 (by rfl) _ _ 88 (by rfl) w1.heap.size 129 _ i0 (.agg #[ak [],.int .i64 0]) 2 24 Tryz.underlying88 hi fJ eU fD rfl (by decide) (by decide) _ _ _ (by rfl) zY #[ak f,.int .i64 (k:Nat)] (by simp[Act.eval]) rfl ?c1 ?c2 Oq ?_))
     case c1=>simp[Value.oneCell']
     case c2=>omega
     intro g6 cap6 w6 aW dB iL uz tq;have q6:Q w1 w6:=aL bZ.out zY dB (Nat.le_refl _) (by omega)
     rw[show dF tk++(#[ak f,.int .i64 (k:Nat)]:Array Value).toList=dF (tk++[(f,k)]) from(Pq tk (f,k)).symm] at aW
     have vk:(tk++[(f,k)]).length=tk.length+1:=by simp
     have rH:=Hd aW;have fQ:=Hd q6;have Ii:=Hd vk;clear aW q6 dB iL zY vk;go_wp2_with fail;go_roundw;case rel=>exact⟨k+1,by omega,by go_num,by show World.ownsRow _ _ _ _ _ _ _;rw[GN.out,Pd.out,Ii.out];exact rH.out,fQ⟩
     case measure=>simp[intOf];omega
    ·rw[if_neg (fun h=>TV h.1)] at Rt
     have atY:¬((f.length:Int)≤40):=by omega
     have Pd:=Hd Rt;clear Rt;go_wp2_with fail;refine(cf _).mono ?_;rintro e w2 ⟨rfl,q2⟩;have aS:=Hd (HQ.out.trans q2);have rF:=Hd (ownsRow_below HO.out q2);clear q2 HQ HO cf;go_wp2_with fail;refine(cs _).mono ?_;rintro e w3 ⟨rfl,q3⟩;have bZ:=Hd (aS.out.trans q3);have zi:=Hd (ownsRow_below rF.out q3);clear q3 aS rF cs;go_wp2_with fail;go_roundw;case rel=>exact⟨k+1,by omega,by go_num,by show World.ownsRow _ _ _ _ _ _ _;rw[GN.out,Pd.out,List.append_nil];exact zi.out,bZ⟩
     case measure=>simp[intOf];omega
  ·have cO:k=(bT s).length:=by omega
   subst cO;have dI:pO s (bT s).length=aA s:=by unfold pO aA;rw[List.take_length]
   have ho:=HO.out;rw[dI] at ho;have Ua:=Hd ho;clear ho dI HO;go_wp2_with fail;go_ret;exact⟨_,rfl,dO Ua.out aC.out.size,aC.out.trans HQ.out⟩
end
section
theorem afs(n m b0 b1 b2 b3 c1 c2 c3:Nat)(hn:0<n)(hm:n<m)
  (h1:1<n→c1=b1) (h2:2<n→c2=b2) (h3:3<n→c3=b3)
  (k1:n=1→c1=32) (k2:n=2→c2=32) (k3:n=3→c3=32):Lib.decodeN m b0 c1 c2 c3=Lib.decodeN n b0 b1 b2 b3:=by
 rcases Nat.lt_or_ge 3 n with h|h
 ·have e1:=h1 (by omega);have e2:=h2 (by omega);have e3:=h3 (by omega)
  subst e1;subst e2;subst e3;have a1:(1<m)=(1<n):=propext ⟨fun _=>by omega,fun _=>by omega⟩
  have a2:(2<m)=(2<n):=propext ⟨fun _=>by omega,fun _=>by omega⟩
  have a3:(3<m)=(3<n):=propext ⟨fun _=>by omega,fun _=>by omega⟩
  simp only[Lib.decodeN,a1,a2,a3]
 ·rcases Nat.lt_or_ge 2 n with h'|h'
  ·have JJ:n=3:=by omega
   subst JJ;have e1:=h1 (by omega);have e2:=h2 (by omega);have e3:=k3 rfl
   subst e1;subst e2;subst e3;have a1:(1<m)=True:=by simp;omega
   have a2:(2<m)=True:=by simp;omega
   simp[Lib.decodeN,a1,a2]
  ·rcases Nat.lt_or_ge 1 n with h''|h''
   ·have rD:n=2:=by omega
    subst rD;have e1:=h1 (by omega);have e2:=k2 rfl
    subst e1;subst e2;have a1:(1<m)=True:=by simp;omega
    simp[Lib.decodeN,a1]
   ·have qC:n=1:=by omega
    subst qC;have e1:=k1 rfl;subst e1;simp[Lib.decodeN]
theorem rune1_cut(a b:Bytes)(h:a≠[]):aP (a++32::b)=aP a:=by
 have hl:0<a.length:=List.length_pos_iff.2 h;have hd:∀i,i<a.length→(a++32::b).getD i 0=a.getD i 0:=by
  intro i hi;simp[List.getD,List.getElem?_append_left hi]
 have hk:(a++32::b).getD a.length 0=32:=by
  simp[List.getD,List.getElem?_append_right (Nat.le_refl _)]
 have hm:(a++32::b).length=a.length+(b.length+1):=by simp
 have key:Lib.decodeN (a++32::b).length ((a++32::b).getD 0 0).toNat ((a++32::b).getD 1 0).toNat ((a++32::b).getD 2 0).toNat ((a++32::b).getD 3 0).toNat
   = Lib.decodeN a.length (a.getD 0 0).toNat (a.getD 1 0).toNat (a.getD 2 0).toNat (a.getD 3 0).toNat:=by
  rw[hd 0 hl];refine afs _ _ _ _ _ _ _ _ _ hl (by omega) (fun h1=>by rw[hd 1 h1]) (fun h1=>by rw[hd 2 h1]) (fun h1=>by rw[hd 3 h1]) (fun h1=>?_) (fun h1=>?_) (fun h1=>?_)
  all_goals (rw[h1] at hk;rw[hk];rfl)
 cases a with
 | nil=>exact absurd rfl h
 | cons x a =>
  simp only[aP,List.cons_append];rw[List.cons_append] at key;rw[key]
theorem ah6(n:Nat)(a b:Bytes)(hn:a.length≤n):chunks (a++32::b)=chunks a++(32,[32])::chunks b:=by
 induction n generalizing a with
 | zero =>
  have:a=[]:=List.eq_nil_of_length_eq_zero (by omega)
  subst this;rw[List.nil_append,kK _ (by simp),Dy,List.nil_append]
  have hr:aP (32::b)=(32,1):=by
   simp[aP,Lib.decodeN,List.getD]
  rw[hr];rfl
 | succ n ih =>
  by_cases h:a=[]
  ·subst h;exact ih [] (by simp)
  ·have h1:=lV a h
   rw[kK _ (by simp),kK a h,rune1_cut a b h,List.take_append_of_le_length h1.2,List.drop_append_of_le_length h1.2,ih _ (by rw[List.length_drop];omega)]
   rfl
theorem ah7(x y:List (Int×Bytes))(c:Int×Bytes)(st:Option Bytes)(hc:fG c.1=false):dJ (x++c::y) st=dJ x st++dJ y none:=by
 induction x generalizing st with
 | nil=>cases st<;>simp[dJ,hc]
 | cons z x ih =>
  cases st with
  | none =>
   rw[List.cons_append,dJ,dJ];split<;>exact ih _
  | some w =>
   rw[List.cons_append,dJ,dJ];split
   ·exact ih _
   ·rw[ih];rfl
theorem ah8(a b:Bytes):bT (a++32::b)=bT a++bT b:=by
 unfold bT;rw[ah6 a.length a b (Nat.le_refl _),ah7 _ _ _ _ (by decide)]
theorem aft(ws:List Bytes)(k m:Nat):(eY ws k).map (·.1)=(eY ws m).map (·.1):=by
 induction ws generalizing k m with
 | nil=>rfl
 | cons w ws ih =>
  rw[eY,eY];split
  ·rw[List.map_cons,List.map_cons,ih (k+1) (m+1)]
  ·exact ih _ _
theorem afu(a b:List Bytes)(k:Nat):(eY (a++b) k).map (·.1)=(eY a k).map (·.1)++(eY b 0).map (·.1):=by
 induction a generalizing k with
 | nil=>rw[List.nil_append];exact aft b k 0
 | cons w a ih =>
  rw[List.cons_append,eY,eY];split
  ·rw[List.map_cons,List.map_cons,ih,List.cons_append]
  ·exact ih _
def Dh(s:Bytes):List Bytes:=(aA s).map (·.1)
theorem afv(a b:Bytes):Dh (a++32::b)=Dh a++Dh b:=by
 unfold Dh aA;rw[ah8,afu]
def eD(l:List au):Bytes:=l.flatMap fun d=>d.2++[32]
theorem allL_snoc(l:List au)(d:au):eD (l++[d])=eD l++(d.2++[32]):=by unfold eD;simp
theorem allL_take(l:List au)(k:Nat)(h:k<l.length):eD (l.take (k+1))=eD (l.take k)++(l[k].2++[32]):=by
 rw[List.take_succ_eq_append_getElem h,allL_snoc]
theorem allL_len(l:List au)(h:∀d∈l,d.2.length≤2100):(eD l).length≤2101*l.length:=by
 induction l with
 | nil=>simp[eD]
 | cons d l ih =>
  have h1:=h d (by simp)
  have h2:=ih (fun x hx=>h x (by simp[hx]))
  have e:eD (d::l)=d.2++[32]++eD l:=by unfold eD;rw[List.flatMap_cons]
  rw[e,List.length_append,List.length_append,List.length_cons,List.length_nil,List.length_cons];omega
theorem afw(l:List au):Dh (eD l)=l.flatMap fun d=>Dh d.2:=by
 induction l with
 | nil=>rfl
 | cons d l ih =>
  have e:eD (d::l)=d.2++32::eD l:=by unfold eD;rw[List.flatMap_cons];simp
  rw[e,afv,ih,List.flatMap_cons]
def MR(s:Bytes):List Bytes:=(Dh s).foldl (fun a t=>ji t a) []
theorem ah9(l:List au):MR (eD l)=dK l:=by
 unfold MR;rw[afw];rfl
theorem putL_cut(t:Bytes)(l:List Bytes)(k:Nat)(hk:k≤l.length)(h1:∀x∈l.take k,bU x t=true)(h2:∀x,l[k]?=some x→bU x t=false)
  (hr:l.Pairwise (·<·)):ji t l=if l[k]?=some t then l else l.take k++t::l.drop k:=by
 induction l generalizing k with
 | nil=>simp[ji]
 | cons x l ih =>
  rw[ji];obtain⟨qU,jG⟩:=List.pairwise_cons.1 hr;cases k with
  | zero =>
   have h3:bU x t=false:=h2 x rfl;simp only[List.take_zero,List.nil_append,List.drop_zero,List.getElem?_cons_zero,Option.some.injEq];by_cases hx:x=t
   ·rw[if_pos hx,if_pos hx]
   ·rw[if_neg hx,if_neg hx]
    have h4:bU t x=true:=by
     rw[gu];have h5:¬(x<t):=by rw[←gu];simp[h3]
     rcases List.le_iff_lt_or_eq.1 (List.not_lt.1 h5) with h|h
     ·exact h
     ·exact absurd h.symm hx
    rw[if_pos h4]
  | succ k =>
   have h3:bU x t=true:=h1 x (by simp)
   have h4:¬x=t:=by
    intro e;subst e;rw[gu] at h3;exact absurd h3 (List.lt_irrefl _)
   have h5:¬bU t x=true:=by
    rw[gu];rw[gu] at h3;intro h6;exact absurd (List.lt_trans h3 h6) (List.lt_irrefl _)
   rw[if_neg h4,if_neg h5,ih k (by simpa using hk) (fun y hy=>h1 y (by simp[hy])) (fun y hy=>h2 y (by simpa using hy)) jG]
   simp only[List.getElem?_cons_succ,List.take_succ_cons,List.drop_succ_cons,List.cons_append];split<;>rfl
end
section
open Go.RowKit
theorem o8{w:World}{base:Nat}{e:TypeId}{size n:Nat}{xs:List Value}{a:Option Addr}{c:Nat}(h:w.ownsRow base e size (.slice a n c) n xs):n≤c∧c≤9223372036854775807:=by
 rcases h.2 with ⟨hv,hn⟩|⟨g,cap,cur,hv,_,_,h1,h2,_⟩
 ·cases hv;exact⟨by omega,by omega⟩
 ·cases hv;unfold maxLen at h2;exact⟨h1,by omega⟩
abbrev lu(l:List Bytes):List Value:=l.map ak
theorem lI(W:World)(base:Nat)(hb:base≤W.heap.size):(W.alloc (.cells #[] 9)).ownsRow base 9 1 (.slice (some ⟨W.heap.size,0,none⟩) 0 0) 0 (lu []):=abA W base 9 #[] 0 rfl hb (by decide)
theorem zL(W:World)(A:Obj)(base:Nat)(hb:base≤W.heap.size):((W.alloc A).alloc (.cells #[] 9)).ownsRow base 9 1 (.slice (some ⟨W.heap.size+1,0,none⟩) 0 0) 0 (lu []):=by
 have:=lI (W.alloc A) base (by simp;omega)
 simpa using this
theorem yS(W:World)(A B:Obj):((W.alloc A).alloc B).heap[W.heap.size+1]?=some B:=by
 have:=World.alloc_heap_new (W.alloc A) B;simpa using this
theorem yT(W:World)(A B:Obj):((W.alloc B).alloc A).heap[W.heap.size]?=some B:=(Q.alloc (W.alloc B) A).block W.heap.size (by simp) |>.trans (World.alloc_heap_new W B)
theorem yF{w:World}{g:Nat}{t:Bytes}{T:TypeId}{fr:Nat×Nat}(h:w.heap[g]?=some (.cells #[ak t] T fr)):Sl w (.slice (some ⟨g,0,none⟩) 1 1) 1 1 (lu [t]):=by
 refine⟨rfl,_,_,rfl,fun _=>⟨g,0,rfl,fun j u hj=>?_⟩⟩
 simp only[World.cell?,h];simpa using hj
theorem jy(W0:World){w:World}{ops:Array Oper}{o:Oper}{a:Act}{K:Act→World→Prop}{Qx:Exit→Act→World→Prop}{E:Prop}(uf:o.guard=none)(s x:Operand)
  (ho:o.op=.call { callee:=.builtin .append,args:=#[s,x],argTypes:=#[136,136] })
  (v:Value) (n:Nat) (xs:List Bytes) (hs:a.eval s=v) (aQ:w.ownsRow W0.heap.size 9 1 v n (lu xs)) (hq:Q W0 w)
  (vx:Value) (m:Nat) (ys:List Bytes) (hx:a.eval x=vx) (hl:Sl w vx m 1 (lu ys)) (hnm:n+m≤1000000000)
  (h:∀v' w',w'.ownsRow W0.heap.size 9 1 v' (n+m) (lu (xs++ys))→Q W0 w'→(∀g o,w.heap[g]?=some o→v.ownBlock≠some g→w'.heap[g]?=some o)→K (a.put o.dst v') w') :
  if Region.wanted o (yielded ops a.tmps)=true then Oper.wp Tryz.prog o a w K Qx else E:=by
 obtain⟨i0,hi,fJ,eU,fD⟩:=info_parts (show(Tryz.prog.info? 9).map (fun i=>(i.zero,i.size,i.bytes))=some (some (ak []),1,16) by kernel_rfl)
 have hw:Region.wanted o (yielded ops a.tmps)=true:=by simp[Region.wanted,uf]
 rw[if_pos hw];refine zG w s x 136 ho W0.heap.size 9 i0 (ak []) 1 16 Tryz.underlying136 hi fJ eU fD rfl (by decide) v n (lu xs) hs aQ vx m (lu ys) hx hl (fun u hu=>?_) (by unfold maxLen;omega) (by omega) hq.size ?_
 ·obtain⟨y,_,rfl⟩:=List.mem_map.1 hu;rfl
 ·intro v' w' h2 h3 _
  refine h v' w' (by rw[lu,List.map_append];exact h2) (aL hq aQ h3 (Nat.le_refl _) hq.size) (fun g o hg aF=>(h3.block g (Array.getElem?_eq_some_iff.1 hg).1 (Ne.symm aF)).trans hg)
def Ol(l:List (Bytes×Nat))(k:Nat):List Bytes:=((l.take k).map (·.1)).foldl (fun a t=>ji t a) []
theorem aia(l:List (Bytes×Nat))(k:Nat)(h:k<l.length):Ol l (k+1)=ji l[k].1 (Ol l k):=by
 unfold Ol;rw[List.take_succ_eq_append_getElem h,List.map_append,List.foldl_append];rfl
theorem aib(l:List (Bytes×Nat))(k:Nat):(Ol l k).Pairwise (·<·):=Hz _ _ List.Pairwise.nil
theorem aic(s:Bytes)(w:World)(hs:s.length≤100000000):
  Calls Tryz.prog 127 #[ak s] w fun e w'=>∃v,e=.returned v∧w'.ownsRow w.heap.size 9 1 v (MR s).length (lu (MR s))∧Q w w':=by
 obtain⟨i0,hi,fJ,eU,fD⟩:=info_parts (show(Tryz.prog.info? 9).map (fun i=>(i.zero,i.size,i.bytes))=some (some (ak []),1,16) by kernel_rfl)
 have ct:=Gh s w hs;have vg:(aA s).length≤s.length+1:=by
  have:=sK (bT s) 0;have:=(uJ s).1;unfold aA;omega
 have gQ:MR s=Ol (aA s) (aA s).length:=by unfold Ol MR Dh;rw[List.take_length]
 rw[gQ];clear gQ;generalize aA s=l at *;have CT:=Hd ct;clear ct;have pz:Tryz.prog.follows .mixedOrders=true:=by kernel_rfl
 go_enter Tryz.func127,Tryz.ntmps127;go_wp2_with fail;refine CT.out.mono ?_;rintro e w1 ⟨v1,rfl,jf,q1⟩;have XM:Toks w1 v1 l:=Sl.of_owns jf;obtain⟨a,cap,rfl,hc⟩:=XM.value;have HC:=Hd hc;have aC:=Hd q1;have l9:w.heap.size≤w1.heap.size:=q1.size;clear jf XM hc q1 CT;go_wp2_with fail;go_loopw [3,5,6] (fun ov i _ wr=>∃(k:Nat) (o:List Bytes),k≤l.length∧i=.int .i64 (k:Nat)∧o.length≤k∧Hid (o=Ol l k)∧Hid (wr.ownsRow w1.heap.size 9 1 ov o.length (lu o))∧Hid (Q w1 wr)) (fun _ i _ _=>l.length-(intOf i).toNat)
 case atStart=>exact⟨0,[],by omega,rfl,by simp,rfl,World.ownsRow_nil _ _ _ _,Q.refl _⟩
 case round =>
  obtain⟨k,o,hk,rfl,sD,xg,HO,HQ⟩:=hrel;obtain⟨wo,rfl⟩:∃wo:World,wo=wr:=⟨_,rfl⟩;by_cases hlt:k<l.length
  ·obtain⟨b,of,rfl,bC⟩:=HC.out (by omega)
   have z0:=(bC k hlt).1;have ql:(k:Int)<(l.length:Int):=by omega
   have gY:(0:Int)≤(k:Int):=by omega
   have uw:=aia l k hlt;have vW:=aib l k;rw[←xg.out] at uw vW;have apM:Strs wo _ o:=Sl.of_owns HO.out;obtain⟨oa,oJ,rfl,EX⟩:=apM.value;have zT:=o8 HO.out;obtain⟨aaX,amm⟩:=zT;clear bC apM;generalize l[k]=x at *;obtain⟨t,p⟩:=x;simp only at z0 uw;have Z0:=Hd z0;have GX:=Hd uw;have vB:=Hd vW;have l8:=Hd EX;clear z0 uw vW EX;go_wp2_with fail;go_loopw [6] (fun j wr=>∃m:Nat,m≤o.length∧j=.int .i64 (m:Nat)∧Hid (∀x∈o.take m,bU x t=true)∧Hid (Q wo wr)) (fun j _=>o.length-(intOf j).toNat)
   case atStart=>exact⟨0,by omega,rfl,fun x hx=>by simp at hx,Q.refl _⟩
   case round =>
    obtain⟨m,hm,rfl,Lh,HQm⟩:=hrel;obtain⟨wm,rfl⟩:∃wm:World,wm=wr:=⟨_,rfl⟩;have t0:=ah (HQ.out.trans HQm.out) Z0.out;have adW:(0:Int)≤(m:Int):=by omega
    by_cases hgo:∃y,o[m]?=some y∧bU y t=true
    ·obtain⟨y,hy,Gl⟩:=hgo
     obtain⟨JO,TW⟩:=List.getElem?_eq_some_iff.1 hy;obtain⟨ob,oo,rfl,EX⟩:=l8.out (by omega)
     have c0:=ah HQm.out (EX m JO);rw[TW] at c0;have JL:(m:Int)<(o.length:Int):=by omega
     have gU:o.take (m+1)=o.take m++[o[m]]:=List.take_succ_eq_append_getElem JO;rw[TW] at gU;have JE:decide (m<o.length)=true:=decide_eq_true JO;have hb:Op.bytesLess y t=true:=by rw[ou];exact Gl
     have EH:∀x∈o.take (m+1),bU x t=true:=fun x hx=>by
      rw[gU] at hx;rcases List.mem_append.1 hx with hx|hx
      ·exact Lh.out x hx
      ·rw[List.mem_singleton] at hx;subst hx;exact Gl
     have alG:=Hd EH;clear Gl gU EH hy TW EX;go_wp2_with fail;go_quiet (fail);go_wp2_with fail;go_roundw;case rel=>exact⟨m+1,by omega,by go_num,alG,HQm.out.trans (Q.drewN _ _)⟩
     case measure=>simp[intOf];omega
    ·have sQ:=putL_cut t o m (by omega) Lh.out (fun x hx=>by
      cases hl:bU x t with
      | false=>rfl
      | true=>exact absurd ⟨x,hx,hl⟩ hgo) vB.out
     by_cases fu:o[m]?=some t
     ·rw[if_pos fu] at sQ
      obtain⟨JO,TW⟩:=List.getElem?_eq_some_iff.1 fu;obtain⟨ob,oo,rfl,EX⟩:=l8.out (by omega)
      have c0:=ah HQm.out (EX m JO);rw[TW] at c0;have JL:(m:Int)<(o.length:Int):=by omega
      have JE:decide (m<o.length)=true:=decide_eq_true JO;have hb:Op.bytesLess t t=false:=by
       rw[ou];cases hl:bU t t with
       | false=>rfl
       | true=>exact absurd ⟨t,fu,hl⟩ hgo
      have aF:((m:Int)==(o.length:Int))=false:=by simp;omega
      have BQ:=Hd sQ;clear hgo fu TW EX sQ;go_wp2_with fail;go_quiet (fail);go_wp2_with fail;go_quiet (fail);go_wp2_with fail;go_roundw;case rel=>exact⟨k+1,o,by omega,by go_num,by omega,by show _=_;rw[GX.out,BQ.out],ownsRow_below HO.out (HQm.out.trans (Q.drewN _ _)),(HQ.out.trans HQm.out).trans (Q.drewN _ _)⟩
      case measure=>simp[intOf];omega
     ·rw[if_neg fu] at sQ
      by_cases JO:m<o.length
      ·obtain⟨ob,oo,rfl,EX⟩:=l8.out (by omega)
       have c0:=ah HQm.out (EX m JO);have adT:o[m]≠t:=fun e=>fu (by rw[List.getElem?_eq_getElem JO,e])
       have hb:Op.bytesLess o[m] t=false:=by
        rw[ou];cases hl:bU o[m] t with
        | false=>rfl
        | true=>exact absurd ⟨o[m],List.getElem?_eq_getElem JO,hl⟩ hgo
       have JL:(m:Int)<(o.length:Int):=by omega
       have JE:decide (m<o.length)=true:=decide_eq_true JO;have aF:((m:Int)==(o.length:Int))=false:=by simp;omega
       clear hgo fu EX;generalize o[m]=y at *;have zI:(y==t)=false:=by simpa using adT
       have zJ:@BEq.beq (List UInt8) instBEqOfDecidableEq y t=false:=by simpa using adT
       have zK:@BEq.beq (List UInt8) List.instBEq y t=false:=by simpa using adT
       have BQ:=Hd sQ;clear adT sQ;go_wp2_with fail;go_quiet (fail);go_wp2_with fail;go_quiet (fail);go_wp2_with fail;rename_i na;obtain⟨W,hW⟩:∃W,W=(wm.drewN na).drewN nq:=⟨_,rfl⟩;rw[←hW];have kF:Q wo W:=by rw[hW];exact HQm.out.trans ((Q.drewN _ _).trans (Q.drewN _ _))
       have x0:=ah (HQ.out.trans kF) Z0.out;have aQ:=ownsRow_below HO.out kF;have bY:=Sl.of_owns aQ;have atZ:¬oJ=0:=by omega
       have alH:¬oJ=m:=by omega
       have sl1:∀V,Q W V→Sl V (.slice (some ⟨ob,oo,none⟩) m oJ) m 1 (lu (o.take m)):=fun V q=>by
        have:=Sl.cut (size:=1) (Sl.stays bY q) 0 m (by omega) hm aaX
        simpa[atZ,yM,lu,List.map_take] using this
       have sl2:∀V,Q W V→Sl V (.slice (some ⟨ob,oo+m,none⟩) (o.length-m) (oJ-m)) (o.length-m) 1 (lu (o.drop m)):=fun V q=>by
        have:=Sl.cut (size:=1) (Sl.stays bY q) m o.length hm (Nat.le_refl _) aaX;rw[List.take_of_length_le (by simp)] at this
        simpa[alH,yM,lu,List.map_drop] using this
       have vC:=Hd sl1;have Iu:=Hd sl2;have ZP:=Hd aQ;have xO:=Hd kF;clear sl1 sl2 aQ kF bY;clear c0 hb zI zJ zK aF JE hW t0;have ajh:(m:Int)≤(o.length:Int):=by omega
       have at1:(m:Int)≤(oJ:Int):=by omega
       have at6:(o.length:Int)≤(oJ:Int):=by omega
       have gQ:(ji t o).length≤o.length+1:=Jm t o;have dR:∀(v:Value) (V:World),V.ownsRow W.heap.size 9 1 v (0+m+1+(o.length-m)) (lu ([]++o.take m++[t]++o.drop m))→V.ownsRow w1.heap.size 9 1 v (ji t o).length (lu (ji t o)):=fun v V h=>by
        have e:[]++o.take m++[t]++o.drop m=ji t o:=by rw[BQ.out];simp
        rw[e] at h;have e2:0+m+1+(o.length-m)=(ji t o).length:=by
         rw[BQ.out];simp;omega
        rw[e2] at h;exact dO h (HQ.out.trans xO.out).size
       have XE:=Hd gQ;have oV:=Hd dR;clear gQ dR;have xe:=ah (Q.alloc W (.cells #[] 9)) x0;go_region_law
        (first
         | (refine jy W (by rfl) _ _ (by rfl) (.slice (some ⟨W.heap.size,0,none⟩) 0 0) 0 [] (by rfl) (by first|exact lI W _ (Nat.le_refl _)|exact aX (lI W _ (Nat.le_refl _))|exact bF _ (lI W _ (Nat.le_refl _))|exact aX (bF _ (lI W _ (Nat.le_refl _)))) (by repeat (first|with_reducible exact Q.refl _|with_reducible refine Q.trans ?_ (Q.drew _)|with_reducible refine Q.trans ?_ (Q.alloc _ _))) _ m (o.take m) (by rfl) (vC.out _ (by repeat (first|with_reducible exact Q.refl _|with_reducible refine Q.trans ?_ (Q.drew _)|with_reducible refine Q.trans ?_ (Q.alloc _ _)))) (by omega) ?_;intro va wa ha qa ka;have xa:=ah qa x0;have HA:=Hd ha;have QA:=Hd qa;have KA:=Hd ka;clear ha qa ka)
         | (refine jy W (by rfl) _ _ (by rfl) (.slice (some ⟨W.heap.size+1,0,none⟩) 0 0) 0 [] (by rfl) (by first|exact zL W _ _ (Nat.le_refl _)|exact aX (zL W _ _ (Nat.le_refl _))) (by repeat (first|with_reducible exact Q.refl _|with_reducible refine Q.trans ?_ (Q.drew _)|with_reducible refine Q.trans ?_ (Q.alloc _ _))) _ m (o.take m) (by rfl) (vC.out _ (by repeat (first|with_reducible exact Q.refl _|with_reducible refine Q.trans ?_ (Q.drew _)|with_reducible refine Q.trans ?_ (Q.alloc _ _)))) (by omega) ?_;intro va wa ha qa ka;have xa:=ah qa x0;have HA:=Hd ha;have QA:=Hd qa;have KA:=Hd ka;clear ha qa ka)
         | (refine jy W (by rfl) _ _ (by rfl) va (0+m) ([]++o.take m) (by rfl) (by first|exact HA.out|exact aX HA.out|exact bF _ HA.out|exact aX (bF _ HA.out)) (by first|exact QA.out|exact QA.out.trans (Q.drew _)|exact QA.out.trans (Q.alloc _ _)|exact(QA.out.trans (Q.alloc _ _)).trans (Q.drew _)) (.slice (some ⟨wa.heap.size,0,none⟩) 1 1) 1 [t] (by rfl) (by exact yF (World.alloc_heap_new _ _)) (by omega) ?_;intro vb wb aO qb kb;have HB:=Hd aO;have QB:=Hd qb;clear aO qb kb)
         | (refine jy W (by rfl) _ _ (by rfl) va (0+m) ([]++o.take m) (by rfl) (by first|exact HA.out|exact aX HA.out|exact bF _ HA.out|exact aX (bF _ HA.out)) (by first|exact QA.out|exact QA.out.trans (Q.drew _)|exact QA.out.trans (Q.alloc _ _)|exact(QA.out.trans (Q.alloc _ _)).trans (Q.drew _)) (.slice (some ⟨W.heap.size+1,0,none⟩) 1 1) 1 [t] (by rfl) (by exact yF (KA.out _ _ (yS W (.cells #[] 9) (.cells #[ak t] 9)) (by simp[Value.ownBlock]))) (by omega) ?_;intro vb wb aO qb kb;have HB:=Hd aO;have QB:=Hd qb;clear aO qb kb)
         | (refine jy W (by rfl) _ _ (by rfl) va (0+m) ([]++o.take m) (by rfl) (by first|exact HA.out|exact aX HA.out|exact bF _ HA.out|exact aX (bF _ HA.out)) (by first|exact QA.out|exact QA.out.trans (Q.drew _)|exact QA.out.trans (Q.alloc _ _)|exact(QA.out.trans (Q.alloc _ _)).trans (Q.drew _)) (.slice (some ⟨W.heap.size,0,none⟩) 1 1) 1 [t] (by rfl) (by exact yF (KA.out _ _ (yT W (.cells #[] 9) (.cells #[ak t] 9)) (by simp[Value.ownBlock]))) (by omega) ?_;intro vb wb aO qb kb;have HB:=Hd aO;have QB:=Hd qb;clear aO qb kb)
         | (refine jy W (by rfl) _ _ (by rfl) vb (0+m+1) ([]++o.take m++[t]) (by rfl) (by first|exact HB.out|exact aX HB.out) (by first|exact QB.out|exact QB.out.trans (Q.drew _)) _ (o.length-m) (o.drop m) (by rfl) (Iu.out _ (by first|exact QB.out|exact QB.out.trans (Q.drew _))) (by omega) ?_;intro vc wc dM qc kc;have rM:=Hd dM;have QC:=Hd qc;clear dM qc kc))
       all_goals
        clear xa xe x0;go_wp2_with fail;go_roundw;case rel=>exact⟨k+1,ji t o,by omega,by go_num,by have:=XE.out;omega,by show _=_;rw[GX.out],oV.out _ _ rM.out,(HQ.out.trans xO.out).trans QC.out⟩
        case measure=>simp[intOf];omega
      ·have rP:m=o.length:=by omega
       have aF:((m:Int)==(o.length:Int))=true:=by simp;omega
       have JE:decide (m<o.length)=false:=decide_eq_false (by omega)
       have JL:¬(m:Int)<(o.length:Int):=by omega
       have BQ:=Hd sQ;have Du:=Hd rP;clear hgo fu sQ rP;have XK:(oa=none∧oJ=0∧o.length=0)∨∃g,oa=some ⟨g,0,none⟩:=by
        rcases HO.out.2 with ⟨hv,hn⟩|⟨g,cap,cur,hv,_⟩
        ·injection hv with e1 e2 e3;exact .inl ⟨e1,e3,e2⟩
        ·injection hv with e1 e2 e3;exact .inr ⟨g,e1⟩
       go_wp2_with fail;go_quiet (fail);go_wp2_with fail;go_quiet (fail);go_wp2_with fail;rename_i na;obtain⟨W,hW⟩:∃W,W=(wm.drewN na).drewN nq:=⟨_,rfl⟩;rw[←hW];have kF:Q wo W:=by rw[hW];exact HQm.out.trans ((Q.drewN _ _).trans (Q.drewN _ _))
       have x0:=ah (HQ.out.trans kF) Z0.out;have aQ:=ownsRow_below HO.out kF;have bY:=Sl.of_owns aQ;have sl0:∀(V:World) (A:Option Addr) (c:Nat),Sl V (.slice A 0 c) 0 1 (lu []):=fun V A c=>⟨rfl,_,_,rfl,fun h=>by omega⟩
       have Eh:o.drop m=[]:=List.drop_eq_nil_of_le (by omega)
       have SG:o.take m=o:=List.take_of_length_le (by omega)
       clear aF JE hW t0;have ajh:(m:Int)≤(o.length:Int):=by omega
       have at1:(m:Int)≤(oJ:Int):=by omega
       have at6:(o.length:Int)≤(oJ:Int):=by omega
       rcases XK with ⟨h1,h2,h3⟩|⟨g,h1⟩
       ·subst h1
        have Il:m=0:=by have:=Du.out;omega
        have sl1:∀V,Q W V→Sl V (.slice none 0 0) m 1 (lu (o.take m)):=fun V q=>by
         have e:o=[]:=List.eq_nil_of_length_eq_zero h3;rw[Il,e];exact sl0 V _ _
        have sl2:∀V,Q W V→Sl V (.slice none 0 0) (o.length-m) 1 (lu (o.drop m)):=fun V q=>by
         have e:o=[]:=List.eq_nil_of_length_eq_zero h3;rw[Il,e];exact sl0 V _ _
        have vC:=Hd sl1;have Iu:=Hd sl2;have ZP:=Hd aQ;have xO:=Hd kF;clear sl1 sl2 aQ kF bY sl0 Eh SG;have gQ:(ji t o).length≤o.length+1:=Jm t o;have dR:∀(v:Value) (V:World),V.ownsRow W.heap.size 9 1 v (0+m+1+(o.length-m)) (lu ([]++o.take m++[t]++o.drop m))→V.ownsRow w1.heap.size 9 1 v (ji t o).length (lu (ji t o)):=fun v V h=>by
         have e:[]++o.take m++[t]++o.drop m=ji t o:=by rw[BQ.out];simp
         rw[e] at h;have e2:0+m+1+(o.length-m)=(ji t o).length:=by
          rw[BQ.out];simp;omega
         rw[e2] at h;exact dO h (HQ.out.trans xO.out).size
        have XE:=Hd gQ;have oV:=Hd dR;clear gQ dR;have xe:=ah (Q.alloc W (.cells #[] 9)) x0;go_region_law
         (first
          | (refine jy W (by rfl) _ _ (by rfl) (.slice (some ⟨W.heap.size,0,none⟩) 0 0) 0 [] (by rfl) (by first|exact lI W _ (Nat.le_refl _)|exact aX (lI W _ (Nat.le_refl _))|exact bF _ (lI W _ (Nat.le_refl _))|exact aX (bF _ (lI W _ (Nat.le_refl _)))) (by repeat (first|with_reducible exact Q.refl _|with_reducible refine Q.trans ?_ (Q.drew _)|with_reducible refine Q.trans ?_ (Q.alloc _ _))) _ m (o.take m) (by rfl) (vC.out _ (by repeat (first|with_reducible exact Q.refl _|with_reducible refine Q.trans ?_ (Q.drew _)|with_reducible refine Q.trans ?_ (Q.alloc _ _)))) (by omega) ?_;intro va wa ha qa ka;have xa:=ah qa x0;have HA:=Hd ha;have QA:=Hd qa;have KA:=Hd ka;clear ha qa ka)
          | (refine jy W (by rfl) _ _ (by rfl) (.slice (some ⟨W.heap.size+1,0,none⟩) 0 0) 0 [] (by rfl) (by first|exact zL W _ _ (Nat.le_refl _)|exact aX (zL W _ _ (Nat.le_refl _))) (by repeat (first|with_reducible exact Q.refl _|with_reducible refine Q.trans ?_ (Q.drew _)|with_reducible refine Q.trans ?_ (Q.alloc _ _))) _ m (o.take m) (by rfl) (vC.out _ (by repeat (first|with_reducible exact Q.refl _|with_reducible refine Q.trans ?_ (Q.drew _)|with_reducible refine Q.trans ?_ (Q.alloc _ _)))) (by omega) ?_;intro va wa ha qa ka;have xa:=ah qa x0;have HA:=Hd ha;have QA:=Hd qa;have KA:=Hd ka;clear ha qa ka)
          | (refine jy W (by rfl) _ _ (by rfl) va (0+m) ([]++o.take m) (by rfl) (by first|exact HA.out|exact aX HA.out|exact bF _ HA.out|exact aX (bF _ HA.out)) (by first|exact QA.out|exact QA.out.trans (Q.drew _)|exact QA.out.trans (Q.alloc _ _)|exact(QA.out.trans (Q.alloc _ _)).trans (Q.drew _)) (.slice (some ⟨wa.heap.size,0,none⟩) 1 1) 1 [t] (by rfl) (by exact yF (World.alloc_heap_new _ _)) (by omega) ?_;intro vb wb aO qb kb;have HB:=Hd aO;have QB:=Hd qb;clear aO qb kb)
          | (refine jy W (by rfl) _ _ (by rfl) va (0+m) ([]++o.take m) (by rfl) (by first|exact HA.out|exact aX HA.out|exact bF _ HA.out|exact aX (bF _ HA.out)) (by first|exact QA.out|exact QA.out.trans (Q.drew _)|exact QA.out.trans (Q.alloc _ _)|exact(QA.out.trans (Q.alloc _ _)).trans (Q.drew _)) (.slice (some ⟨W.heap.size+1,0,none⟩) 1 1) 1 [t] (by rfl) (by exact yF (KA.out _ _ (yS W (.cells #[] 9) (.cells #[ak t] 9)) (by simp[Value.ownBlock]))) (by omega) ?_;intro vb wb aO qb kb;have HB:=Hd aO;have QB:=Hd qb;clear aO qb kb)
          | (refine jy W (by rfl) _ _ (by rfl) va (0+m) ([]++o.take m) (by rfl) (by first|exact HA.out|exact aX HA.out|exact bF _ HA.out|exact aX (bF _ HA.out)) (by first|exact QA.out|exact QA.out.trans (Q.drew _)|exact QA.out.trans (Q.alloc _ _)|exact(QA.out.trans (Q.alloc _ _)).trans (Q.drew _)) (.slice (some ⟨W.heap.size,0,none⟩) 1 1) 1 [t] (by rfl) (by exact yF (KA.out _ _ (yT W (.cells #[] 9) (.cells #[ak t] 9)) (by simp[Value.ownBlock]))) (by omega) ?_;intro vb wb aO qb kb;have HB:=Hd aO;have QB:=Hd qb;clear aO qb kb)
          | (refine jy W (by rfl) _ _ (by rfl) vb (0+m+1) ([]++o.take m++[t]) (by rfl) (by first|exact HB.out|exact aX HB.out) (by first|exact QB.out|exact QB.out.trans (Q.drew _)) _ (o.length-m) (o.drop m) (by rfl) (Iu.out _ (by first|exact QB.out|exact QB.out.trans (Q.drew _))) (by omega) ?_;intro vc wc dM qc kc;have rM:=Hd dM;have QC:=Hd qc;clear dM qc kc))
        all_goals
         clear xa xe x0;go_wp2_with fail;go_roundw;case rel=>exact⟨k+1,ji t o,by omega,by go_num,by have:=XE.out;omega,by show _=_;rw[GX.out],oV.out _ _ rM.out,(HQ.out.trans xO.out).trans QC.out⟩
         case measure=>simp[intOf];omega
       ·subst h1
        have Ue:o.length-m=0:=by omega
        have sl1:∀V,Q W V→Sl V (.slice (some ⟨g,0,none⟩) m oJ) m 1 (lu (o.take m)):=fun V q=>by
         rw[SG];have:=Sl.stays bY q;have e:=Du.out;rw[←e] at this;exact this
        have sl2:∀V (A:Option Addr) (c:Nat),Q W V→Sl V (.slice A 0 c) 0 1 (lu (o.drop m)):=fun V A c q=>by
         rw[Eh];exact sl0 V _ _
        have at7:(0:Nat)=o.length-m:=by omega
        have vC:=Hd sl1;have Iu:=Hd sl2;have ZP:=Hd aQ;have xO:=Hd kF;clear sl1 sl2 aQ kF bY sl0 Eh SG at7;by_cases alH:oJ=m
        ·have aqK:=alH.symm
         subst aqK;have gQ:(ji t o).length≤o.length+1:=Jm t o;have dR:∀(v:Value) (V:World),V.ownsRow W.heap.size 9 1 v (0+m+1+0) (lu ([]++o.take m++[t]++o.drop m))→V.ownsRow w1.heap.size 9 1 v (ji t o).length (lu (ji t o)):=fun v V h=>by
          have e:[]++o.take m++[t]++o.drop m=ji t o:=by rw[BQ.out];simp
          rw[e] at h;have e2:0+m+1+0=(ji t o).length:=by
           rw[BQ.out];simp;omega
          rw[e2] at h;exact dO h (HQ.out.trans xO.out).size
         have XE:=Hd gQ;have oV:=Hd dR;clear gQ dR;have xe:=ah (Q.alloc W (.cells #[] 9)) x0;go_region_law
          (first
           | (refine jy W (by rfl) _ _ (by rfl) (.slice (some ⟨W.heap.size,0,none⟩) 0 0) 0 [] (by rfl) (by first|exact lI W _ (Nat.le_refl _)|exact aX (lI W _ (Nat.le_refl _))|exact bF _ (lI W _ (Nat.le_refl _))|exact aX (bF _ (lI W _ (Nat.le_refl _)))) (by repeat (first|with_reducible exact Q.refl _|with_reducible refine Q.trans ?_ (Q.drew _)|with_reducible refine Q.trans ?_ (Q.alloc _ _))) _ m (o.take m) (by rfl) (vC.out _ (by repeat (first|with_reducible exact Q.refl _|with_reducible refine Q.trans ?_ (Q.drew _)|with_reducible refine Q.trans ?_ (Q.alloc _ _)))) (by omega) ?_;intro va wa ha qa ka;have xa:=ah qa x0;have HA:=Hd ha;have QA:=Hd qa;have KA:=Hd ka;clear ha qa ka)
           | (refine jy W (by rfl) _ _ (by rfl) (.slice (some ⟨W.heap.size+1,0,none⟩) 0 0) 0 [] (by rfl) (by first|exact zL W _ _ (Nat.le_refl _)|exact aX (zL W _ _ (Nat.le_refl _))) (by repeat (first|with_reducible exact Q.refl _|with_reducible refine Q.trans ?_ (Q.drew _)|with_reducible refine Q.trans ?_ (Q.alloc _ _))) _ m (o.take m) (by rfl) (vC.out _ (by repeat (first|with_reducible exact Q.refl _|with_reducible refine Q.trans ?_ (Q.drew _)|with_reducible refine Q.trans ?_ (Q.alloc _ _)))) (by omega) ?_;intro va wa ha qa ka;have xa:=ah qa x0;have HA:=Hd ha;have QA:=Hd qa;have KA:=Hd ka;clear ha qa ka)
           | (refine jy W (by rfl) _ _ (by rfl) va (0+m) ([]++o.take m) (by rfl) (by first|exact HA.out|exact aX HA.out|exact bF _ HA.out|exact aX (bF _ HA.out)) (by first|exact QA.out|exact QA.out.trans (Q.drew _)|exact QA.out.trans (Q.alloc _ _)|exact(QA.out.trans (Q.alloc _ _)).trans (Q.drew _)) (.slice (some ⟨wa.heap.size,0,none⟩) 1 1) 1 [t] (by rfl) (by exact yF (World.alloc_heap_new _ _)) (by omega) ?_;intro vb wb aO qb kb;have HB:=Hd aO;have QB:=Hd qb;clear aO qb kb)
           | (refine jy W (by rfl) _ _ (by rfl) va (0+m) ([]++o.take m) (by rfl) (by first|exact HA.out|exact aX HA.out|exact bF _ HA.out|exact aX (bF _ HA.out)) (by first|exact QA.out|exact QA.out.trans (Q.drew _)|exact QA.out.trans (Q.alloc _ _)|exact(QA.out.trans (Q.alloc _ _)).trans (Q.drew _)) (.slice (some ⟨W.heap.size+1,0,none⟩) 1 1) 1 [t] (by rfl) (by exact yF (KA.out _ _ (yS W (.cells #[] 9) (.cells #[ak t] 9)) (by simp[Value.ownBlock]))) (by omega) ?_;intro vb wb aO qb kb;have HB:=Hd aO;have QB:=Hd qb;clear aO qb kb)
           | (refine jy W (by rfl) _ _ (by rfl) va (0+m) ([]++o.take m) (by rfl) (by first|exact HA.out|exact aX HA.out|exact bF _ HA.out|exact aX (bF _ HA.out)) (by first|exact QA.out|exact QA.out.trans (Q.drew _)|exact QA.out.trans (Q.alloc _ _)|exact(QA.out.trans (Q.alloc _ _)).trans (Q.drew _)) (.slice (some ⟨W.heap.size,0,none⟩) 1 1) 1 [t] (by rfl) (by exact yF (KA.out _ _ (yT W (.cells #[] 9) (.cells #[ak t] 9)) (by simp[Value.ownBlock]))) (by omega) ?_;intro vb wb aO qb kb;have HB:=Hd aO;have QB:=Hd qb;clear aO qb kb)
           | (refine jy W (by rfl) _ _ (by rfl) vb (0+m+1) ([]++o.take m++[t]) (by rfl) (by first|exact HB.out|exact aX HB.out) (by first|exact QB.out|exact QB.out.trans (Q.drew _)) _ 0 (o.drop m) (by rfl) (Iu.out _ _ _ (by first|exact QB.out|exact QB.out.trans (Q.drew _))) (by omega) ?_;intro vc wc dM qc kc;have rM:=Hd dM;have QC:=Hd qc;clear dM qc kc))
         all_goals
          clear xa xe x0;go_wp2_with fail;go_roundw;case rel=>exact⟨k+1,ji t o,by omega,by go_num,by have:=XE.out;omega,by show _=_;rw[GX.out],oV.out _ _ rM.out,(HQ.out.trans xO.out).trans QC.out⟩
          case measure=>simp[intOf];omega
        ·have gQ:(ji t o).length≤o.length+1:=Jm t o
         have dR:∀(v:Value) (V:World),V.ownsRow W.heap.size 9 1 v (0+m+1+0) (lu ([]++o.take m++[t]++o.drop m))→V.ownsRow w1.heap.size 9 1 v (ji t o).length (lu (ji t o)):=fun v V h=>by
          have e:[]++o.take m++[t]++o.drop m=ji t o:=by rw[BQ.out];simp
          rw[e] at h;have e2:0+m+1+0=(ji t o).length:=by
           rw[BQ.out];simp;omega
          rw[e2] at h;exact dO h (HQ.out.trans xO.out).size
         have XE:=Hd gQ;have oV:=Hd dR;clear gQ dR;have xe:=ah (Q.alloc W (.cells #[] 9)) x0;go_region_law
          (first
           | (refine jy W (by rfl) _ _ (by rfl) (.slice (some ⟨W.heap.size,0,none⟩) 0 0) 0 [] (by rfl) (by first|exact lI W _ (Nat.le_refl _)|exact aX (lI W _ (Nat.le_refl _))|exact bF _ (lI W _ (Nat.le_refl _))|exact aX (bF _ (lI W _ (Nat.le_refl _)))) (by repeat (first|with_reducible exact Q.refl _|with_reducible refine Q.trans ?_ (Q.drew _)|with_reducible refine Q.trans ?_ (Q.alloc _ _))) _ m (o.take m) (by rfl) (vC.out _ (by repeat (first|with_reducible exact Q.refl _|with_reducible refine Q.trans ?_ (Q.drew _)|with_reducible refine Q.trans ?_ (Q.alloc _ _)))) (by omega) ?_;intro va wa ha qa ka;have xa:=ah qa x0;have HA:=Hd ha;have QA:=Hd qa;have KA:=Hd ka;clear ha qa ka)
           | (refine jy W (by rfl) _ _ (by rfl) (.slice (some ⟨W.heap.size+1,0,none⟩) 0 0) 0 [] (by rfl) (by first|exact zL W _ _ (Nat.le_refl _)|exact aX (zL W _ _ (Nat.le_refl _))) (by repeat (first|with_reducible exact Q.refl _|with_reducible refine Q.trans ?_ (Q.drew _)|with_reducible refine Q.trans ?_ (Q.alloc _ _))) _ m (o.take m) (by rfl) (vC.out _ (by repeat (first|with_reducible exact Q.refl _|with_reducible refine Q.trans ?_ (Q.drew _)|with_reducible refine Q.trans ?_ (Q.alloc _ _)))) (by omega) ?_;intro va wa ha qa ka;have xa:=ah qa x0;have HA:=Hd ha;have QA:=Hd qa;have KA:=Hd ka;clear ha qa ka)
           | (refine jy W (by rfl) _ _ (by rfl) va (0+m) ([]++o.take m) (by rfl) (by first|exact HA.out|exact aX HA.out|exact bF _ HA.out|exact aX (bF _ HA.out)) (by first|exact QA.out|exact QA.out.trans (Q.drew _)|exact QA.out.trans (Q.alloc _ _)|exact(QA.out.trans (Q.alloc _ _)).trans (Q.drew _)) (.slice (some ⟨wa.heap.size,0,none⟩) 1 1) 1 [t] (by rfl) (by exact yF (World.alloc_heap_new _ _)) (by omega) ?_;intro vb wb aO qb kb;have HB:=Hd aO;have QB:=Hd qb;clear aO qb kb)
           | (refine jy W (by rfl) _ _ (by rfl) va (0+m) ([]++o.take m) (by rfl) (by first|exact HA.out|exact aX HA.out|exact bF _ HA.out|exact aX (bF _ HA.out)) (by first|exact QA.out|exact QA.out.trans (Q.drew _)|exact QA.out.trans (Q.alloc _ _)|exact(QA.out.trans (Q.alloc _ _)).trans (Q.drew _)) (.slice (some ⟨W.heap.size+1,0,none⟩) 1 1) 1 [t] (by rfl) (by exact yF (KA.out _ _ (yS W (.cells #[] 9) (.cells #[ak t] 9)) (by simp[Value.ownBlock]))) (by omega) ?_;intro vb wb aO qb kb;have HB:=Hd aO;have QB:=Hd qb;clear aO qb kb)
           | (refine jy W (by rfl) _ _ (by rfl) va (0+m) ([]++o.take m) (by rfl) (by first|exact HA.out|exact aX HA.out|exact bF _ HA.out|exact aX (bF _ HA.out)) (by first|exact QA.out|exact QA.out.trans (Q.drew _)|exact QA.out.trans (Q.alloc _ _)|exact(QA.out.trans (Q.alloc _ _)).trans (Q.drew _)) (.slice (some ⟨W.heap.size,0,none⟩) 1 1) 1 [t] (by rfl) (by exact yF (KA.out _ _ (yT W (.cells #[] 9) (.cells #[ak t] 9)) (by simp[Value.ownBlock]))) (by omega) ?_;intro vb wb aO qb kb;have HB:=Hd aO;have QB:=Hd qb;clear aO qb kb)
           | (refine jy W (by rfl) _ _ (by rfl) vb (0+m+1) ([]++o.take m++[t]) (by rfl) (by first|exact HB.out|exact aX HB.out) (by first|exact QB.out|exact QB.out.trans (Q.drew _)) _ 0 (o.drop m) (by rfl) (Iu.out _ _ _ (by first|exact QB.out|exact QB.out.trans (Q.drew _))) (by omega) ?_;intro vc wc dM qc kc;have rM:=Hd dM;have QC:=Hd qc;clear dM qc kc))
         all_goals
          clear xa xe x0;go_wp2_with fail;go_roundw;case rel=>exact⟨k+1,ji t o,by omega,by go_num,by have:=XE.out;omega,by show _=_;rw[GX.out],oV.out _ _ rM.out,(HQ.out.trans xO.out).trans QC.out⟩
          case measure=>simp[intOf];omega
  ·have cO:k=l.length:=by omega
   subst cO;go_wp2_with fail;go_ret;exact⟨_,rfl,by rw[←xg.out];exact dO HO.out l9,aC.out.trans HQ.out⟩
end
section
theorem acu(n b0 b1 b2 b3:Nat)(h:(Lib.decodeN n b0 b1 b2 b3).1=65533):(Lib.decodeN n b0 b1 b2 b3).2=1∨3≤(Lib.decodeN n b0 b1 b2 b3).2:=by
 unfold Lib.decodeN at h ⊢;repeat' split
 all_goals (try simp only at h ⊢)
 all_goals first|omega|(simp_all;done)|(simp_all;omega)
theorem rune1_D(s:Bytes)(h:s≠[]):(0≤(aP s).1↔¬((Lib.decodeL s).1=65533∧(Lib.decodeL s).2=1))∧(aP s).2=(Lib.decodeL s).2:=by
 cases s with
 | nil=>exact absurd rfl h
 | cons b t =>
  have hd:Lib.decodeL (b::t)=Lib.decodeN (b::t).length ((b::t).getD 0 0).toNat ((b::t).getD 1 0).toNat ((b::t).getD 2 0).toNat ((b::t).getD 3 0).toNat:=Lib.decodeL_N _;have h2:=acu (b::t).length ((b::t).getD 0 0).toNat ((b::t).getD 1 0).toNat ((b::t).getD 2 0).toNat ((b::t).getD 3 0).toNat;rw[←hd] at h2;have hr:aP (b::t)=if (Lib.decodeN (b::t).length ((b::t).getD 0 0).toNat ((b::t).getD 1 0).toNat ((b::t).getD 2 0).toNat ((b::t).getD 3 0).toNat).1=65533∧(Lib.decodeN (b::t).length ((b::t).getD 0 0).toNat ((b::t).getD 1 0).toNat ((b::t).getD 2 0).toNat ((b::t).getD 3 0).toNat).2<3 then(-1,(Lib.decodeN (b::t).length ((b::t).getD 0 0).toNat ((b::t).getD 1 0).toNat ((b::t).getD 2 0).toNat ((b::t).getD 3 0).toNat).2) else(((Lib.decodeN (b::t).length ((b::t).getD 0 0).toNat ((b::t).getD 1 0).toNat ((b::t).getD 2 0).toNat ((b::t).getD 3 0).toNat).1:Int),(Lib.decodeN (b::t).length ((b::t).getD 0 0).toNat ((b::t).getD 1 0).toNat ((b::t).getD 2 0).toNat ((b::t).getD 3 0).toNat).2):=rfl
  rw[←hd] at hr;rw[hr];clear hr hd;generalize Lib.decodeL (b::t)=d at *;by_cases h1:d.1=65533∧d.2<3
  ·rw[if_pos h1]
   have:=h2 h1.1;refine⟨⟨fun h=>by simp at h,fun h=>absurd ⟨h1.1,by omega⟩ h⟩,rfl⟩
  ·rw[if_neg h1]
   refine⟨⟨fun _ hh=>h1 ⟨hh.1,by omega⟩,fun _=>by simp⟩,rfl⟩
theorem Js(n:Nat)(s:Bytes)(hn:s.length≤n):pW s=Lib.validD s:=by
 induction n generalizing s with
 | zero =>
  have:s=[]:=List.eq_nil_of_length_eq_zero (by omega)
  subst this;rfl
 | succ n ih =>
  by_cases h:s=[]
  ·subst h;rfl
  ·obtain⟨h1,h2⟩:=rune1_D s h
   have h3:=lV s h;rw[TI s h,Lib.validD_step s h,←h2,ih _ (by rw[List.length_drop];omega)]
   by_cases hb:(Lib.decodeL s).1=65533∧(Lib.decodeL s).2=1
   ·rw[if_pos (by rw[h2];exact hb)]
    have:decide (0≤(aP s).1)=false:=decide_eq_false (fun h=>h1.1 h hb)
    rw[this];rfl
   ·rw[if_neg (by rw[h2];exact hb),decide_eq_true (h1.2 hb),Bool.true_and]
end
section
open Go.RowKit
theorem tinfoR5:(Tryz.prog.info? 5).map (fun i=>(i.zero,i.size,i.bytes))=some (some (.int .u8 0),1,1):=by kernel_rfl
theorem TM(l:Bytes)(x:Nat)(hx:x<256):jR l++(#[Value.int .u8 (x:Int)]:Array Value).toList=jR (l++[UInt8.ofNat x]):=by
 rw[uF];simp[jR,Lib.byteCells];omega
theorem Jt(v:Nat)(w:World)(hv:v<18446744073709551616):
  Calls Tryz.prog 79 #[.int .u64 v] w fun e w'=>e=.returned (ak (bI v))∧Q w w':=by
 obtain⟨i0,hi,fJ,eU,fD⟩:=info_parts tinfoR5;go_enter Tryz.func79,Tryz.ntmps79;go_wp2_with fail;go_loopw [3,0] (fun bv x wr=>∃(y m:Nat) (l:Bytes),x=.int .u64 y∧y<18446744073709551616∧m≤10∧l.length+m≤10∧Hid (0<m∧y<128 ^ m)∧Hid (l++jC m y=bI v)∧Hid (wr.ownsRow w.heap.size 5 1 bv l.length (jR l))∧Hid (Q w wr)) (fun _ x _=>(intOf x).toNat)
 case atStart=>exact⟨v,10,[],rfl,hv,by omega,by simp,⟨by omega,lt64 v hv⟩,rfl,World.ownsRow_nil _ _ _ _,Q.refl _⟩
 case round =>
  obtain⟨y,m,l,rfl,hy,hm,AU,HM,HL,HO,HQ⟩:=hrel;obtain⟨wo,rfl⟩:∃wo:World,wo=wr:=⟨_,rfl⟩;obtain⟨Il,Km⟩:=HM.out;have aY:w.heap.size≤wo.heap.size:=HQ.out.size;have ho:=HO.out;by_cases yX:128≤y
  ·obtain⟨yI,Ik,Ct⟩:=aa4 m y yX Km
   have aI:l++jC m y=(l++[UInt8.ofNat (y%128+128)])++jC (m-1) (y / 128):=by rw[Ik];simp
   have bJ:=Hd aI;have HYL:=Hd Ct;clear aI Ik Ct Km HO;go_wp2_with (at_builtin;go_must (refine cZ wo (by rfl) _ _ 147 (by rfl) w.heap.size 5 _ i0 (.int .u8 0) 1 1 Tryz.underlying147 hi fJ eU fD rfl (by decide) (by decide) _ _ _ (by rfl) ho #[.int .u8 (128+(y:Int)%128)] (by simp[Act.eval]) rfl ?c1 ?c2 aY ?_))
   case c1=>simp[Value.oneCell']
   case c2=>omega
   intro g6 cap6 w6 aW dB iL uz tq;have q6:Q w w6:=aL HQ.out ho dB (Nat.le_refl _) (by omega)
   rw[show(128+(y:Int)%128)=((y%128+128:Nat):Int) by omega,TM _ _ (by omega),show l.length+1=(l++[UInt8.ofNat (y%128+128)]).length by simp] at aW
   have rH:=Hd aW;have fQ:=Hd q6;clear aW q6 dB iL ho;rw[show l.length+1=(l++[UInt8.ofNat (y%128+128)]).length by simp]
   generalize jB:l++[UInt8.ofNat (y%128+128)]=l2 at *;have aye:l2.length=l.length+1:=by rw[←jB];simp
   clear jB;go_wp2_with fail;go_roundw;case rel=>exact⟨y / 128,m-1,l2,by go_num,by omega,by omega,by omega,⟨by omega,HYL.out⟩,by show _=_;rw[←bJ.out];exact HL.out,rH,fQ⟩
   case measure=>simp[intOf];omega
  ·have Dq:=VD m y Il (by omega)
   have QH:l++[UInt8.ofNat y]=bI v:=by rw[←HL.out,Dq]
   have HE:=Hd QH;clear QH Dq Km HO;go_wp2_with (at_builtin;go_must (refine cZ wo (by rfl) _ _ 147 (by rfl) w.heap.size 5 _ i0 (.int .u8 0) 1 1 Tryz.underlying147 hi fJ eU fD rfl (by decide) (by decide) _ _ _ (by rfl) ho #[.int .u8 (y:Int)] (by simp[Act.eval]) rfl ?c1 ?c2 aY ?_))
   case c1=>simp[Value.oneCell']
   case c2=>omega
   intro g6 cap6 w6 aW dB iL uz tq;have q6:Q w w6:=aL HQ.out ho dB (Nat.le_refl _) (by omega)
   rw[TM _ _ (by omega),HE.out,show l.length+1=(bI v).length by rw[←HE.out];simp] at aW
   have hc:=WQ aW;have fQ:=Hd q6;rw[show l.length+1=(bI v).length by rw[←HE.out];simp]
   clear aW q6 dB iL ho;go_wp2_with fail;go_ret;exact⟨rfl,fQ.out⟩
theorem Gu(s:Bytes)(w:World)(hs:s.length≤1000000000000):
  Calls Tryz.prog 81 #[ak s] w fun e w'=>e=.returned (ak (aM s))∧Q w w':=by
 have c:=fun W=>Jt s.length W (by omega)
 have C:=Hd c;have hl:=eP s.length;clear c;go_enter Tryz.func81,Tryz.ntmps81;go_wp2_with fail;refine(C.out _).mono ?_;rintro e w1 ⟨rfl,q1⟩;have aC:=Hd q1;clear q1 C;go_wp2_with fail;go_ret;exact⟨congrArg (fun b=>Ending.returned (.string b)) (bytes_append _ _),aC.out⟩
theorem risingAt(a:Int)(l:List Int)(b:Int)(h:gW a l b=true)(k:Nat)(hk:k<l.length):(if k=0 then a else l.getD (k-1) 0)<l[k]∧l[k]<b∧a≤(if k=0 then a else l.getD (k-1) 0):=by
 induction l generalizing a k with
 | nil=>simp at hk
 | cons x l ih =>
  simp only[gW,Bool.and_eq_true,decide_eq_true_eq] at h;cases k with
  | zero=>exact⟨by simpa using h.1.1,h.1.2,by simp⟩
  | succ k =>
   have:=ih x h.2 k (by simpa using hk)
   have hx:=h.1.1;cases k with
   | zero=>simp at this ⊢;exact⟨this.1,this.2,by omega⟩
   | succ k=>simp at this ⊢;exact⟨this.1,this.2.1,by omega⟩
theorem acv(n:Nat)(w:World)(hn:n<9223372036854775808):
  Calls Tryz.prog 164 #[.int .i64 (n:Nat)] w fun e w'=>e=.returned (ak (bI n))∧Q w w':=by
 have c:=fun W=>Jt n W (by omega)
 have C:=Hd c;have hw:IntKind.u64.wrap (n:Int)=n:=IntWalk.u64_in _ (by omega)
 clear c;go_enter Tryz.func164,Tryz.ntmps164;go_wp2_with fail;refine(C.out _).mono ?_;rintro e w1 ⟨rfl,q1⟩;have aC:=Hd q1;clear q1 C;go_wp2_with fail;go_ret;exact⟨rfl,aC.out⟩
theorem TN(v:Value)(l:List Int)(b:Int)(w:World)(hv:Ints w v l)(hn:l.length≤1000000000000)(hr:gW (-1) l b=true):
  Calls Tryz.prog 163 #[v,.int .i64 b] w fun e w'=>e=.returned (.bool true)∧Q w w':=by
 obtain⟨a,cap,rfl,aJ⟩:=hv.value;have HC:=Hd aJ;have HR:=Hd hr;clear aJ hv hr;go_enter Tryz.func163,Tryz.ntmps163;go_wp2_with fail;go_loopw [5] (fun i wr=>∃k:Nat,k≤l.length∧i=.int .i64 (k:Nat)∧Hid (Q w wr)) (fun i _=>l.length-(intOf i).toNat)
 case atStart=>exact⟨0,by omega,rfl,Q.refl _⟩
 case round =>
  obtain⟨k,hk,rfl,HQ⟩:=hrel;obtain⟨wo,rfl⟩:∃wo:World,wo=wr:=⟨_,rfl⟩;by_cases hlt:k<l.length
  ·obtain⟨bb,o,rfl,hc⟩:=HC.out (by omega)
   have c0:=ah HQ.out (hc k hlt);obtain⟨r1,r2,r3⟩:=risingAt _ _ _ HR.out k hlt;have ql:(k:Int)<(l.length:Int):=by omega
   have gY:(0:Int)≤(k:Int):=by omega
   by_cases hz:k=0
   ·subst hz
    simp only[if_true] at r1 r3;simp only[Nat.add_zero] at c0;clear hc;generalize l[0]=x at *;have h1:decide (x<0)=false:=by simp;omega
    have h2:decide (b≤x)=false:=by simp;omega
    go_wp2_with fail;go_quiet (fail);go_wp2_with fail;go_roundw;case rel=>exact⟨0+1,by omega,by go_num,HQ.out.trans (Q.drewN _ _)⟩
    case measure=>simp[intOf];omega
   ·have c1:=ah HQ.out (hc (k-1) (by omega))
    rw[if_neg hz] at r1 r3;have e1:l.getD (k-1) 0=l[k-1]:=by rw[List.getD_eq_getElem?_getD,List.getElem?_eq_getElem (by omega)];rfl
    rw[e1] at r1 r3;clear hc e1;generalize l[k-1]=x' at *;generalize l[k]=x at *;have vO:(0:Int)<(k:Int):=by omega
    have mP:0<k:=by omega
    have jO:decide (0<k)=true:=by simp;omega
    have h1:decide (x<0)=false:=by simp;omega
    have h2:decide (b≤x)=false:=by simp;omega
    have h3:decide (x≤x')=false:=by simp;omega
    have jL:(k:Int)-1=((k-1:Nat):Int):=by omega
    have xH:((k-1:Nat):Int)<(l.length:Int):=by omega
    generalize k-1=k1 at *;go_wp2_with fail;go_quiet (fail);go_wp2_with fail;go_roundw;case rel=>exact⟨k+1,by omega,by go_num,HQ.out.trans (Q.drewN _ _)⟩
    case measure=>simp[intOf];omega
  ·have cO:k=l.length:=by omega
   subst cO;go_wp2_with fail;go_ret;exact⟨rfl,HQ.out⟩
theorem WR(a:Int)(l:List aZ)(h:aV a l=true):gW a (l.map (·.1)) 500=true:=by
 induction l generalizing a with
 | nil=>rfl
 | cons p l ih =>
  simp only[aV,Bool.and_eq_true,decide_eq_true_eq] at h;obtain⟨⟨⟨⟨h1,h2⟩,h3⟩,h4⟩,h5⟩:=h;simp only[List.map_cons,gW,Bool.and_eq_true,decide_eq_true_eq];exact⟨⟨h1,h2⟩,ih _ h5⟩
theorem acw(l:List aR)(h:aV (-1) (aK l)=true)(k:Nat)(hk:k<l.length):(if k=0 then -1 else((aK l).getD (k-1) (0,[])).1)<l[k].1∧l[k].1<500∧l[k].2.2.isEmpty=false∧gW (-1) l[k].2.2 2000=true ∧ -1≤(if k=0 then -1 else((aK l).getD (k-1) (0,[])).1):=by
 have Np:k<(aK l).length:=by simpa using hk
 have:=Ia _ _ h k Np;have ES:(aK l)[k]=(l[k].1,l[k].2.2):=by simp
 rw[ES] at this;exact this
theorem str_cat{x:ByteArray}{a b c:Bytes}(hx:x=⟨(a++b).toArray⟩)(h:a++b=c):Value.string x=ak c:=by rw[hx,h]
theorem acy:(Tryz.prog.info? 3).map (fun i=>(i.zero,i.size,i.bytes))=some (some (.int .i64 0),1,8):=by kernel_rfl
theorem aie(v:Value)(l:List aR)(w:World)(hv:Posts w v l)(hn:l.length≤1000000)(hl:∀p∈l,p.2.2.length≤1000000)(hr:aV (-1) (aK l)=true):
  Calls Tryz.prog 128 #[v] w fun e w'=>e=.returned (.bool true)∧Q w w':=by
 obtain⟨a,cap,rfl,aJ⟩:=hv.value;obtain⟨i0,hi,fJ,eU,fD⟩:=info_parts acy;have qF:=hv.2;have HC:=Hd aJ;have JB:=Hd qF;have HL:=Hd hl;have HR:=Hd hr;clear aJ hv qF hl hr;go_enter Tryz.func128,Tryz.ntmps128;go_wp2_with fail;go_loopw [3,4,5] (fun dv i _ wr=>∃(k:Nat) (ds:List Int),k≤l.length∧i=.int .i64 (k:Nat)∧Hid (ds=(l.take k).map (·.1))∧Hid (wr.ownsRow w.heap.size 3 1 dv k (kH ds))∧Hid (Q w wr)) (fun _ i _ _=>l.length-(intOf i).toNat)
 case atStart=>exact⟨0,[],by omega,rfl,rfl,World.ownsRow_nil _ _ _ _,Q.refl _⟩
 case round =>
  obtain⟨k,ds,hk,rfl,Er,HO,HQ⟩:=hrel;obtain⟨wo,rfl⟩:∃wo:World,wo=wr:=⟨_,rfl⟩;have aY:w.heap.size≤wo.heap.size:=HQ.out.size;by_cases hlt:k<l.length
  ·obtain⟨bb,o,rfl,hc⟩:=HC.out (by omega)
   obtain⟨z0,z1⟩:=hc k hlt;have c0:=ah HQ.out z0;have c1:=ah HQ.out z1;have ql:(k:Int)<(l.length:Int):=by omega
   have gY:(0:Int)≤(k:Int):=by omega
   have cB:=JB.out _ (List.getElem_mem hlt);have gQ:=HL.out _ (List.getElem_mem hlt);obtain⟨_,_,b3,b4,_⟩:=acw l HR.out k hlt;have gU:(l.take (k+1)).map (·.1)=(l.take k).map (·.1)++[l[k].1]:=by rw[List.take_succ_eq_append_getElem hlt,List.map_append];rfl
   have Z0:=Hd z0;have Z1:=Hd z1;clear z0 z1 hc;generalize l[k]=p at *;obtain⟨d,pv,ps⟩:=p;simp only at c0 c1 cB gQ b3 b4 gU Z0 Z1;have crs:=fun W (q:Q w W)=>TN pv ps 2000 W (cB.stays q) (by omega) b4
   obtain⟨pa,jc,rfl,_⟩:=cB.value;have aF:(((ps.length:Nat):Int)==0)=false:=by cases ps<;>simp_all;omega
   have CRS:=Hd crs;have qV:=Hd gU;clear crs b3 b4 gU cB;have ho:=HO.out;go_wp2_with (at_builtin;go_must (refine cZ wo (by rfl) _ _ 199 (by rfl) w.heap.size 3 _ i0 (.int .i64 0) 1 8 Tryz.underlying199 hi fJ eU fD rfl (by decide) (by decide) _ _ _ (by rfl) ho #[.int .i64 d] (by simp[Act.eval]) rfl ?c1 ?c2 aY ?_))
   case c1=>simp[Value.oneCell']
   case c2=>omega
   intro g6 cap6 w6 aW dB iL uz tq;have q6:Q w w6:=aL HQ.out ho dB (Nat.le_refl _) (by omega)
   have d0:=ah q6 Z0.out;have d1:=ah q6 Z1.out;have aW:w6.ownsRow w.heap.size 3 1 (.slice (some ⟨g6,0,none⟩) (k+1) cap6) (k+1) (kH (ds++[d])):=by simpa[kH] using aW
   have rH:=Hd aW;have fQ:=Hd q6;clear aW q6 dB iL ho c0 c1 HO HQ;go_wp2_with fail;refine(CRS.out _ fQ.out).mono ?_;rintro e w7 ⟨rfl,q7⟩;have d2:=ah q7 d0;have d3:=ah q7 d1;have ny:=Hd (fQ.out.trans q7);have tO:=Hd (ownsRow_below rH.out q7);clear q7 fQ rH CRS d0 d1;go_wp2_with fail;go_roundw;case rel=>exact⟨k+1,ds++[d],by omega,by go_num,by show _=_;rw[qV.out,Er.out],tO,ny⟩
   case measure=>simp[intOf];omega
  ·have cO:k=l.length:=by omega
   subst cO;have ho:=HO.out;have Ux:=Er.out;rw[List.take_length] at Ux;rw[Ux] at ho;have vk:(l.map (·.1)).length=l.length:=List.length_map _
   have hdm:(aK l).map (·.1)=l.map (·.1):=by simp[postOf]
   have xJ:=WR _ _ HR.out;rw[hdm] at xJ;obtain⟨da,dcap,rfl,_⟩:=aT ho;have hint:Ints wo (.slice da l.length dcap) (l.map (·.1)):=by have:=Sl.of_owns ho;unfold Ints;rw[vk];exact this
   have c:=TN _ (l.map (·.1)) 500 wo hint (by omega) xJ
   have C:=Hd c;clear c hint xJ hdm ho HO;go_wp2_with fail;refine C.out.mono ?_;rintro e w7 ⟨rfl,q7⟩;have ny:=Hd (HQ.out.trans q7);clear q7;go_wp2_with fail;go_ret;exact⟨rfl,ny.out⟩
end
end Go.Proofs.YthijhicdmnoifaaGreatDoor
