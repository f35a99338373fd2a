/- Joined texts of one proof: what is needed of WRDevB, WBlkD, WRDevC, WJrnA, WCrc, Base, Base2, Base3. -/
import Derived.Test.YthcpkgfieoneeaaGreatDoorJPJrn4
import Derived.Deep.RegionHeld3
import Derived.BigRegion
import Derived.Test.YthcpkgfieoneeaaGreatDoorProg
import Derived.Test.YthcpkgfieoneeaaGreatDoorJPKit
import Derived.WalkKit
import Derived.WalkSpells
import Derived.WalkLawsBesides
import Derived.Outline
import Derived.KernelRfl
import Derived.Lib.Hide
import Derived.Deep.QuietTactic
import Derived.BigQuiet
set_option linter.unusedSimpArgs false
set_option linter.unusedVariables false
set_option linter.unnecessarySimpa false
set_option maxRecDepth 100000
set_option maxHeartbeats 16000000
namespace Go.Proofs.YthcpkgfieoneeaaGreatDoor
section
open Go.RowKit
theorem wrVs_oneD(l:List WrL):∀u∈wrVs l,u.oneCell'=true:=by
 intro u hu
 obtain⟨d,_,hd⟩:=List.mem_flatMap.1 hu
 simp[encW] at hd
 rcases hd with rfl|rfl<;>rfl
theorem own_wr0(W:World)(base:Nat)(hb:base≤W.heap.size):(W.alloc (.cells #[] 102)).ownsRow base 102 2 (.slice (some ⟨W.heap.size,0,none⟩) 0 0) 0 (wrVs []):=⟨rfl,.inr ⟨W.heap.size,0,#[],rfl,hb,heap_alloc_new _ _,Nat.le_refl _,by decide,rfl,rfl⟩⟩
theorem RDevG.pend{w w2:World}{F:Nat→Prop}{b:Nat}{lv pv:Value}{d:DevL}(h:RDevG w F b lv pv d)(q:Q w w2)(v:Value)(ps:List WrL)(hr:w2.ownsRow w.heap.size 102 2 v ps.length (wrVs ps)):
  RDevG (w2.setCell ⟨b,1,none⟩ v) (grow F w (w2.setCell ⟨b,1,none⟩ v)) b lv v { d with p:=ps }∧Turn F w (w2.setCell ⟨b,1,none⟩ v):=by
 have hk:=h.keep q
 obtain⟨h1,h2,h3,h4⟩:=hk.setBox 1 v
 have hb:=hk.box
 have t:Turn (fun k=>k=b) w2 (w2.setCell ⟨b,1,none⟩ v):=Turn.setCell (a:=⟨b,1,none⟩) (Turn.refl (fun k=>k=b) w2) (.inl rfl) _
 refine⟨⟨h4,.inl h.fb,h2,fun k e=>.inl (h.fl k e),t.owns (owns_low hr (Nat.zero_le _)) (fun k e=>owns_not_blk hr hb (by decide) k e),fun k e=>.inr ?_⟩,(Turn.of_q q).trans h1⟩
 have:=hr.lt k e
 exact⟨this.1,by rw[setCell_size];exact this.2⟩
theorem RWrite_any(w:World)(F:Nat→Prop)(b:Nat)(d:DevL)(i:Int)(s:Bytes)(h:RDevAt w F b d)(hd:d.Ok)(hp:d.dead=false→d.p.length≤1000000)(hs:s.length≤9223372036854775807):
  Calls Tryz.prog 115 #[ptrV b,.int .i64 i,strV s] w fun e w'=>e=.returned (.int .i64 (d.write i s).2)∧RDevAt w' (grow F w w') b (d.write i s).1∧Turn F w w':=by
 obtain⟨lv,pv,hg⟩:=h
 obtain⟨c0,c1,c2,c3,_⟩:=hg.box.c4
 obtain⟨la,lc,rfl,hlc⟩:=hg.lcells
 clear hlc
 have hg0:=hg.mono (fun k hk=>grow_left (A:=w) (B:=w) hk)
 have hm:=hd.max
 have hfin:∀{e:Int},(d.write i s)=(d,e)→RDevAt w (grow F w w) b (d.write i s).1:=fun he=>by rw[he];exact⟨_,pv,hg0⟩
 cases hlive:d.dead with
 | true =>
  have hc:d.chk i=4:=by unfold DevL.chk;rw[if_pos hlive]
  have hw:d.write i s=(d,4):=by rw[write_err i s (by rw[hc];decide),hc]
  have hend:=hfin hw
  rw[hw] at hend ⊢
  rw[hlive] at c3
  have HE:=Lib.hid hend
  clear hend hg hg0 hfin hw hd hp hc
  go_enter Tryz.func115,Tryz.ntmps115
  go_wp2_with fail
  go_ret
  exact⟨rfl,HE.out,Turn.refl _ _⟩
 | false =>
  rw[hlive] at c3
  by_cases hin:0≤i∧i<d.l.length
  ·have hc:d.chk i=0:=by rw[chk_live hlive,if_pos hin]
   obtain⟨hi0,hi1⟩:=hin
   have e1:decide (i<0)=false:=decide_eq_false (by omega)
   have e2:decide ((d.l.length:Int)≤i)=false:=decide_eq_false (by omega)
   by_cases h1:s.length=256
   ·have e3:(!((s.length:Int)==256))=false:=by rw[beq_iff_eq.2 (by omega)];rfl
    have ht:=RTurn_any w F b _ pv d hg hd.fuse hd.fuse2
    by_cases h2:d.fuse=0
    ·have hw:d.write i s=(d.turn,4):=by unfold DevL.write;rw[if_neg (by rw[hc];simp),if_neg (by rw[h1];simp),if_pos h2]
     rw[decide_eq_true h2] at ht
     rw[hw]
     have HT:=Lib.hid ht
     clear ht hg hg0 hfin hw hd hp hc
     generalize d.l.length=n at *
     go_enter Tryz.func115,Tryz.ntmps115
     go_wp2_with fail
     refine HT.out.mono ?_
     rintro e w1 ⟨rfl,hg1,t1,hz1⟩
     have HG:=Lib.hid hg1;have HTT:=Lib.hid t1
     clear hg1 t1
     go_wp2_with fail
     go_ret
     exact⟨rfl,⟨_,_,HG.out.mono (fun k hk=>grow_left hk)⟩,HTT.out⟩
    ·rw[decide_eq_false h2] at ht
     have hw:d.write i s=({ d.turn with p:=d.turn.p++[(i.toNat,s)] },0):=by unfold DevL.write;rw[if_neg (by rw[hc];simp),if_neg (by rw[h1];simp),if_neg h2,(DevL.turn_l d).2]
     have hpl:d.turn.p.length≤1000000:=by rw[(DevL.turn_l d).2];exact hp hlive
     have hx:[Value.int .i64 i,strV s]=encW (i.toNat,s):=by unfold encW;rw[Int.toNat_of_nonneg hi0]
     rw[hw]
     obtain⟨i0,hi,hz0,hz1,hz2⟩:=info_parts tinfoWr
     generalize d.turn=d2 at *
     have HT:=Lib.hid ht;have HX:=Lib.hid hx
     clear hg hg0 hfin hw hd hp hx ht hc
     generalize d.l.length=n at *
     go_enter Tryz.func115,Tryz.ntmps115
     go_wp2_with fail
     refine HT.out.mono ?_
     rintro e w1 ⟨rfl,hg1,t1,hz1'⟩
     obtain⟨a0,a1,a2,a3,f0,f1,f2,f3⟩:=hg1.box.c4
     have hqa:=Q.alloc w1 (.cells #[] 102)
     have hsl:=(Sl.of_owns hg1.prow).stays hqa
     have b1:=cellQ hqa a1
     have how:=own_wr0 w1 w1.heap.size (Nat.le_refl _)
     have h5:0+d2.p.length≤maxLen:=by unfold maxLen;omega
     have h6:(0+d2.p.length)*24≤140737488355328:=by omega
     have HG:=Lib.hid hg1;have HTT:=Lib.hid t1;have HZ:=Lib.hid hz1';have HSL:=Lib.hid hsl;have HOW:=Lib.hid how;have H5:=Lib.hid h5;have H6:=Lib.hid h6;have HQA:=Lib.hid hqa
     have H1:=Lib.hid (wrVs_oneD d2.p)
     clear hg1 t1 hz1' hsl how h5 h6 hqa
     go_wp2_with (at_builtin;refine wpList_append_sl (w1.alloc (.cells #[] 102)) (by rfl) _ _ 49 (by rfl) w1.heap.size 102 i0 (.agg #[.int .i64 0,strV []]) 2 24 Tryz.underlying49 hi hz0 hz1 hz2 rfl (by decide) _ 0 (wrVs []) (by rfl) HOW.out pv d2.p.length (wrVs d2.p) (by rfl) HSL.out H1.out H5.out H6.out (by simp) ?_)
     intro v' w' hr hgr ho
     have hq':Q w1 w':=grown_below HQA.out HOW.out hgr (Nat.le_refl _) HQA.out.size
     have hr2:w'.ownsRow w1.heap.size 102 2 v' d2.p.length (wrVs d2.p):=hr
     have hc1:∀u∈#[Value.int .i64 i,strV s].toList,u.oneCell'=true:=by intro u hu;simp at hu;rcases hu with rfl|rfl<;>rfl
     have hc2:(d2.p.length+1)*24≤140737488355328:=by omega
     have HQ':=Lib.hid hq';have HR2:=Lib.hid hr2;have HC1:=Lib.hid hc1;have HC2:=Lib.hid hc2
     have x0:=cellQ hq' a0;have x1:=cellQ hq' a1;have x2:=cellQ hq' a2;have x3:=cellQ hq' a3
     clear hq' hr2 hc1 hc2 hr hgr ho
     go_wp2_with (at_builtin;refine wpList_app w' (by rfl) _ _ 49 (by rfl) w1.heap.size 102 _ i0 (.agg #[.int .i64 0,strV []]) 2 24 Tryz.underlying49 hi hz0 hz1 hz2 rfl (by decide) (by decide) _ _ _ (by rfl) HR2.out #[.int .i64 i,strV s] (by rfl) rfl HC1.out HC2.out HQ'.out.size ?_)
     intro g2 cap2 w3 hr3 hg3 ho3 hlt3 hlt4
     have hq3:Q w1 w3:=grown_below HQ'.out HR2.out hg3 (Nat.le_refl _) HQ'.out.size
     have hr4:w3.ownsRow w1.heap.size 102 2 (.slice (some ⟨g2,0,none⟩) (d2.p.length+1) cap2) (d2.p++[(i.toNat,s)]).length (wrVs (d2.p++[(i.toNat,s)])):=by
      rw[wrVs_append,show(d2.p++[(i.toNat,s)]).length=d2.p.length+1 by simp,show wrVs [(i.toNat,s)]=encW (i.toNat,s) by simp[wrVs],←HX.out]
      exact hr3
     have hend:=HG.out.pend hq3 _ _ hr4
     have y1:=cellQ hq3 a1
     have z1:=(HG.out.keep hq3).box.frozen 1
     have HE:=Lib.hid hend
     clear hend hr4 hq3 hr3 hg3 ho3
     go_wp2_with fail
     go_ret
     refine⟨rfl,⟨_,_,HE.out.1.mono (fun k hk=>?_)⟩,HTT.out.trans HE.out.2⟩
     rcases hk with hk|hk
     ·exact .inl hk
     ·exact .inr ⟨by rw[←HZ.out];exact hk.1,hk.2⟩
   ·have e3:(!((s.length:Int)==256))=true:=by rw[beq_eq_false_iff_ne.2 (by omega)];rfl
    have hw:d.write i s=(d,3):=by unfold DevL.write;rw[if_neg (by rw[hc];simp),if_pos h1]
    have hend:=hfin hw
    rw[hw] at hend ⊢
    have HE:=Lib.hid hend
    clear hend hg hg0 hfin hw hd hp hc
    generalize d.l.length=n at *
    go_enter Tryz.func115,Tryz.ntmps115
    go_wp2_with fail
    go_ret
    exact⟨rfl,HE.out,Turn.refl _ _⟩
  ·have hc:d.chk i=2:=by rw[chk_live hlive,if_neg hin]
   have hw:d.write i s=(d,2):=by rw[write_err i s (by rw[hc];decide),hc]
   have hend:=hfin hw
   rw[hw] at hend ⊢
   have HE:=Lib.hid hend
   clear hend hg hg0 hfin hw hd hp hc
   by_cases h0:i<0
   ·have e1:decide (i<0)=true:=decide_eq_true h0
    go_enter Tryz.func115,Tryz.ntmps115
    go_wp2_with fail
    go_ret
    exact⟨rfl,HE.out,Turn.refl _ _⟩
   ·have e1:decide (i<0)=false:=decide_eq_false h0
    have e2:decide ((d.l.length:Int)≤i)=true:=decide_eq_true (by omega)
    generalize d.l.length=n at *
    go_enter Tryz.func115,Tryz.ntmps115
    go_wp2_with fail
    go_ret
    exact⟨rfl,HE.out,Turn.refl _ _⟩
theorem layP_step(l:List Bytes)(p:List WrL)(k:Nat)(h:k<p.length):layP l (p.take (k+1))=(layP l (p.take k)).set p[k].1 p[k].2:=by
 rw[List.take_succ_eq_append_getElem h,layP_append];rfl
theorem Flush_any(w:World)(F:Nat→Prop)(b:Nat)(d:DevL)(h:DevAt w F b d)(hd:d.Ok)(hp:d.dead=false→d.p.length≤1000000):
  Calls Tryz.prog 140 #[ptrV b] w fun e w'=>e=.returned (.int .i64 d.flush.2)∧DevAt w' (grow F w w') b d.flush.1∧Turn F w w':=by
 have hc:=Chk_any w F b d 0 h hd.max
 obtain⟨g,cap,pv,h⟩:=h
 have hg0:=h.mono (fun k hk=>grow_left (A:=w) (B:=w) hk)
 cases hlive:d.dead with
 | true =>
  have hw:d.flush=(d,4):=by unfold DevL.flush;rw[if_pos hlive]
  have h0:d.chk 0=4:=by unfold DevL.chk;rw[if_pos hlive]
  rw[h0] at hc
  rw[hw]
  have HC:=Lib.hid hc;have HG:=Lib.hid hg0
  clear hc hg0 h hw h0 hd hp
  go_enter Tryz.func140,Tryz.ntmps140
  go_wp2_with fail
  refine HC.out.mono ?_
  rintro e w1 ⟨rfl,rfl⟩
  go_wp2_with fail
  go_ret
  exact⟨rfl,⟨_,_,_,HG.out⟩,Turn.refl _ _⟩
 | false =>
  have h0:d.chk 0=0:=by
   have:=hd.pos
   unfold DevL.chk
   rw[hlive,if_neg (by decide),if_pos ⟨by omega,by omega⟩]
  rw[h0] at hc
  have ht:=BTurn_any w F b g cap pv d h hd.fuse hd.fuse2
  by_cases h2:d.fuse=0
  ·have hw:d.flush=(d.turn,4):=by unfold DevL.flush;rw[if_neg (by rw[hlive];decide),if_pos h2]
   rw[if_pos h2] at ht
   rw[hw]
   have HC:=Lib.hid hc;have HT:=Lib.hid ht
   clear hc ht h hg0 hw h0 hd hp
   go_enter Tryz.func140,Tryz.ntmps140
   go_wp2_with fail
   refine HC.out.mono ?_
   rintro e w1 ⟨rfl,rfl⟩
   go_wp2_with fail
   refine HT.out.mono ?_
   rintro e w1 ⟨rfl,hg1,t1,hz1⟩
   have HG:=Lib.hid hg1;have HTT:=Lib.hid t1
   clear hg1 t1
   go_wp2_with fail
   go_ret
   exact⟨rfl,⟨_,_,_,HG.out.mono (fun k hk=>grow_left hk)⟩,HTT.out⟩
  ·rw[if_neg h2] at ht
   have hw:d.flush=({ d.turn with l:=layP d.turn.l d.turn.p,p:=[] },0):=by unfold DevL.flush;rw[if_neg (by rw[hlive];decide),if_neg h2,(DevL.turn_l d).1,(DevL.turn_l d).2]
   have hpl:d.turn.p.length≤1000000:=by rw[(DevL.turn_l d).2];exact hp hlive
   have hdt:=DevL.turn_ok hd
   rw[hw]
   generalize d.turn=d2 at *
   have HC:=Lib.hid hc;have HT:=Lib.hid ht
   have hpk:∀k (hk:k<d2.p.length),d2.p[k].1<d2.l.length:=fun k hk=>(hdt.p _ (List.getElem_mem hk)).1
   have hmax:=hdt.max
   have HPK:=Lib.hid hpk
   clear hc ht h hg0 hw h0 hd hp hdt hpk
   go_enter Tryz.func140,Tryz.ntmps140
   go_wp2_with fail
   refine HC.out.mono ?_
   rintro e w1 ⟨rfl,rfl⟩
   go_wp2_with fail
   refine HT.out.mono ?_
   rintro e w1 ⟨rfl,hg1,t1,hz1⟩
   obtain⟨c0,c1,c2,c3,f0,f1,f2,f3⟩:=hg1.box.c4
   obtain⟨pa,pc,rfl,_⟩:=hg1.pcells
   have HG:=Lib.hid hg1;have HTT:=Lib.hid t1;have HZ:=Lib.hid hz1
   clear hg1 t1 hz1
   go_wp2_with fail
   go_loopw [22] (fun v wr=>∃k:Nat,v=.int .i64 (k:Nat)∧k≤d2.p.length∧Hid (DevG wr F b g cap (.slice pa d2.p.length pc) { d2 with l:=layP d2.l (d2.p.take k) })∧Hid (Turn F w1 wr)) (fun v _=>d2.p.length-(intOf v).toNat)
   case atStart=>exact⟨0,rfl,Nat.zero_le _,HG.out,Turn.refl _ _⟩
   case round =>
    obtain⟨k,rfl,hk2,HG2,HT2⟩:=hrel
    obtain⟨d0,d1,d2',d3,e0,e1,e2,e3⟩:=HG2.out.box.c4
    by_cases hlt:k<d2.p.length
    ·have hki:(k:Int)<(d2.p.length:Int):=by omega
     obtain⟨pa',pc',hpv,hcc⟩:=HG2.out.pcells
     simp only[Value.slice.injEq] at hpv
     obtain⟨rfl,_,rfl⟩:=hpv
     obtain⟨g2,rfl,x1,x2⟩:=hcc k hlt
     have hin:=HPK.out k hlt
     have hll:(layP d2.l (d2.p.take k)).length=d2.l.length:=layP_length _ _
     have hini:((d2.p[k].1:Nat):Int)<(d2.l.length:Int):=by omega
     have hini0:(0:Int)≤((d2.p[k].1:Nat):Int):=by omega
     obtain⟨y1,y2⟩:=HG2.out.dcell d2.p[k].1 (by rw[hll];exact hin)
     have z0:wr.cell? ⟨b,0,none⟩=some (.slice (some ⟨g,0,none⟩) d2.l.length cap):=by rw[←hll];exact d0
     have hqa:=Q.alloc wr (.cells #[.int .i64 (d2.p[k].1:Nat),strV d2.p[k].2] 102)
     obtain⟨m0,m1,_⟩:=(Blk.new wr 102 #[.int .i64 (d2.p[k].1:Nat),strV d2.p[k].2]).c2
     have hg3:=HG2.out.keep hqa
     have z1:=cell_stays hqa z0
     obtain⟨y3,y4⟩:=hg3.dcell d2.p[k].1 (by rw[hll];exact hin)
     have hstep:=layP_step d2.l d2.p k hlt
     have HST:=Lib.hid hstep;have HG3:=Lib.hid hg3;have HT3:=Lib.hid (HT2.out.q hqa)
     clear hstep hcc d0 d1 d2' d3 e0 e1 e2 e3 hg3 hqa y1 y2 c0 c1 c2 c3 f0 f1 f2 f3
     generalize hbk:d2.p[k].1=bk at *
     generalize hdk:d2.p[k].2=dk at *
     generalize (layP d2.l (d2.p.take k)).getD bk []=old at *
     go_wp2_with fail
     generalize hwo:wr.alloc (.cells #[.int .i64 (bk:Nat),strV dk] 102)=wo at *
     go_region
     all_goals
      go_wp2_with fail
      go_roundw
      case rel =>
       refine⟨k+1,by go_num,by omega,?_,?_⟩
       ·rw[HST.out]
        exact Lib.hid ((HG3.out.keep (Q.drew _)).lay bk dk).1
       ·exact Lib.hid ((HT3.out.q (Q.drew _)).trans (((HG3.out.keep (Q.drew _)).lay bk dk).2))
      case measure=>simp[intOf];omega
    ·have hki:¬(k:Int)<(d2.p.length:Int):=by omega
     have hkn:k=d2.p.length:=by omega
     subst hkn
     have hg3:=HG2.out
     rw[List.take_length] at hg3
     have hend:=hg3.empty
     have HE:=Lib.hid hend
     clear hend hg3
     go_wp2_with fail
     go_ret
     exact⟨rfl,⟨_,_,_,HE.out.1.mono (fun k hk=>grow_left hk)⟩,HTT.out.trans (HT2.out.trans HE.out.2)⟩
theorem RFlush_any(w:World)(F:Nat→Prop)(b:Nat)(d:DevL)(h:RDevAt w F b d)(hd:d.Ok)(hp:d.dead=false→d.p.length≤1000000):
  Calls Tryz.prog 117 #[ptrV b] w fun e w'=>e=.returned (.int .i64 d.flush.2)∧RDevAt w' F b d.flush.1∧Turn F w w':=by
 obtain⟨lv,pv,hg⟩:=h
 obtain⟨c0,c1,c2,c3,_⟩:=hg.box.c4
 cases hlive:d.dead with
 | true =>
  have hw:d.flush=(d,4):=by unfold DevL.flush;rw[if_pos hlive]
  rw[hw]
  rw[hlive] at c3
  have HG:=Lib.hid hg
  clear hg hw hd hp
  go_enter Tryz.func117,Tryz.ntmps117
  go_wp2_with fail
  go_ret
  exact⟨rfl,⟨_,_,HG.out⟩,Turn.refl _ _⟩
 | false =>
  rw[hlive] at c3
  have ht:=RTurn_any w F b lv pv d hg hd.fuse hd.fuse2
  by_cases h2:d.fuse=0
  ·have hw:d.flush=(d.turn,4):=by unfold DevL.flush;rw[if_neg (by rw[hlive];decide),if_pos h2]
   rw[decide_eq_true h2] at ht
   rw[hw]
   have HT:=Lib.hid ht
   clear ht hg hw hd hp
   go_enter Tryz.func117,Tryz.ntmps117
   go_wp2_with fail
   refine HT.out.mono ?_
   rintro e w1 ⟨rfl,hg1,t1,hz1⟩
   have HG:=Lib.hid hg1;have HTT:=Lib.hid t1
   clear hg1 t1
   go_wp2_with fail
   go_ret
   exact⟨rfl,⟨_,_,HG.out⟩,HTT.out⟩
  ·rw[decide_eq_false h2] at ht
   have hw:d.flush=({ d.turn with l:=layP d.turn.l d.turn.p,p:=[] },0):=by unfold DevL.flush;rw[if_neg (by rw[hlive];decide),if_neg h2,(DevL.turn_l d).1,(DevL.turn_l d).2]
   have hpl:d.turn.p.length≤1000000:=by rw[(DevL.turn_l d).2];exact hp hlive
   have hdt:=DevL.turn_ok hd
   rw[hw]
   generalize d.turn=d2 at *
   have HT:=Lib.hid ht
   have hpk:∀k (hk:k<d2.p.length),d2.p[k].1<d2.l.length:=fun k hk=>(hdt.p _ (List.getElem_mem hk)).1
   have hmax:=hdt.max
   have HPK:=Lib.hid hpk
   clear ht hg hw hd hp hdt hpk
   go_enter Tryz.func117,Tryz.ntmps117
   go_wp2_with fail
   refine HT.out.mono ?_
   rintro e w1 ⟨rfl,hg1,t1,hz1⟩
   obtain⟨la,lc,rfl,hlc⟩:=hg1.lcells
   obtain⟨pa,pc,rfl,hpc⟩:=hg1.pcells
   clear hlc hpc
   have HG:=Lib.hid hg1;have HTT:=Lib.hid t1
   clear hg1 t1 hz1 c0 c1 c2 c3
   go_wp2_with fail
   go_loopw [4] (fun v wr=>∃k:Nat,v=.int .i64 (k:Nat)∧k≤d2.p.length∧Hid (RDevG wr F b (.slice la d2.l.length lc) (.slice pa d2.p.length pc) { d2 with l:=layP d2.l (d2.p.take k) })∧Hid (Turn F w1 wr)) (fun v _=>d2.p.length-(intOf v).toNat)
   case atStart=>exact⟨0,rfl,Nat.zero_le _,HG.out,Turn.refl _ _⟩
   case round =>
    obtain⟨k,rfl,hk2,HG2,HT2⟩:=hrel
    obtain⟨d0,d1,d2',d3,e0,e1,e2,e3⟩:=HG2.out.box.c4
    by_cases hlt:k<d2.p.length
    ·have hki:(k:Int)<(d2.p.length:Int):=by omega
     have hki0:(0:Int)≤(k:Int):=by omega
     have hin:=HPK.out k hlt
     have hll:(layP d2.l (d2.p.take k)).length=d2.l.length:=layP_length _ _
     obtain⟨pa',pc',hpv,hcc⟩:=HG2.out.pcells
     obtain⟨la',lc',hlv,hlc⟩:=HG2.out.lcells
     simp only[Value.slice.injEq] at hpv hlv
     obtain⟨rfl,hj1,rfl⟩:=hpv
     obtain⟨rfl,hj2,rfl⟩:=hlv
     clear hj1 hj2
     obtain⟨g2,rfl,xx1,xx2⟩:=hcc k hlt
     obtain⟨gl,rfl,yy1,y2⟩:=hlc d2.p[k].1 (by show _<(layP d2.l (d2.p.take k)).length;omega)
     obtain⟨old,y1⟩:∃s,wr.cell? ⟨gl,d2.p[k].1,none⟩=some (strV s):=⟨_,yy1⟩
     have x1:wr.cell? ⟨g2,k*2,none⟩=some (.int .i64 (d2.p[k].1:Nat)):=xx1
     have x2:wr.cell? ⟨g2,k*2+1,none⟩=some (strV d2.p[k].2):=xx2
     clear yy1 xx1 xx2
     have hini:((d2.p[k].1:Nat):Int)<(d2.l.length:Int):=by omega
     have hini0:(0:Int)≤((d2.p[k].1:Nat):Int):=by omega
     have hstep:=layP_step d2.l d2.p k hlt
     have HST:=Lib.hid hstep
     have hg3:=HG2.out
     rw[show d2.l.length=({ d2 with l:=layP d2.l (d2.p.take k) }:DevL).l.length from hll.symm] at hg3
     have hend:=fun (W:World) (q:Q wr W)=>(hg3.keep q).lay d2.p[k].1 d2.p[k].2
     have HEND:=Lib.hid hend
     have z0:wr.cell? ⟨b,0,none⟩=some (.slice (some ⟨gl,0,none⟩) d2.l.length lc):=HG2.out.box.c4.1
     have z1:wr.cell? ⟨b,1,none⟩=some (.slice (some ⟨g2,0,none⟩) d2.p.length pc):=HG2.out.box.c4.2.1
     clear hstep hcc hlc hg3 hend d0 d1 d2' d3 e0 e1 e2 e3
     generalize hbk:d2.p[k].1=bk at *
     generalize hdk:d2.p[k].2=dk at *
     go_wp2_with fail
     go_region
     all_goals
      go_wp2_with fail
      go_roundw
      case rel =>
       refine⟨k+1,by go_num,by omega,?_,?_⟩
       ·rw[HST.out]
        have h:=(HEND.out _ (Q.drew _)).1
        rw[show({ d2 with l:=layP d2.l (d2.p.take k) }:DevL).l.length=d2.l.length from hll] at h
        exact Lib.hid h
       ·exact Lib.hid ((HT2.out.q (Q.drew _)).trans (HEND.out _ (Q.drew _)).2)
      case measure=>simp[intOf];omega
    ·have hki:¬(k:Int)<(d2.p.length:Int):=by omega
     have hkn:k=d2.p.length:=by omega
     subst hkn
     have hg3:=HG2.out
     rw[List.take_length] at hg3
     have hend:=hg3.empty
     have HE:=Lib.hid hend
     clear hend hg3
     go_wp2_with fail
     go_ret
     exact⟨rfl,⟨_,_,HE.out.1⟩,HTT.out.trans (HT2.out.trans HE.out.2)⟩
theorem DevL.write_p(d:DevL)(i:Int)(s:Bytes):(d.write i s).1.p.length≤d.p.length+1:=by
 unfold DevL.write
 split
 ·exact Nat.le_succ _
 ·split
  ·exact Nat.le_succ _
  ·split
   ·show d.turn.p.length≤_
    rw[(DevL.turn_l d).2];omega
   ·simp
theorem DevL.write_dead(d:DevL)(i:Int)(s:Bytes)(h:d.dead=true):(d.write i s).1.dead=true:=by
 unfold DevL.write
 have:d.chk i=4:=by unfold DevL.chk;rw[if_pos h]
 rw[if_pos (by rw[this];decide)];exact h
theorem DevL.write_live(d:DevL)(i:Int)(s:Bytes)(h:(d.write i s).1.dead=false):d.dead=false:=by
 cases hd:d.dead with
 | false=>rfl
 | true=>rw[d.write_dead i s hd] at h;exact absurd h (by decide)
theorem Writes_any(w:World)(F:Nat→Prop)(b:Nat)(d:DevL)(lv:Value)(ws:List WrL)(h:DevAt w F b d)(hd:d.Ok)(hp:d.dead=false→d.p.length+ws.length≤1000000)(hl:WrArg w F lv ws)(hn:ws.length≤1000000):
  Calls Tryz.prog 112 #[ptrV b,lv] w fun e w'=>e=.returned (.int .i64 (d.writes ws).2)∧DevAt w' (grow F w w') b (d.writes ws).1∧Turn F w w':=by
 obtain⟨la,lc,rfl,hlc⟩:=hl.sl.value
 have hcell:∀k (hk:k<ws.length),∃lb lo,la=some ⟨lb,lo,none⟩∧lb<w.heap.size∧¬F lb∧w.cell? ⟨lb,lo+k*2,none⟩=some (.int .i64 (ws[k].1:Nat))∧w.cell? ⟨lb,lo+k*2+1,none⟩=some (strV ws[k].2):=fun k hk=>by
  obtain⟨lb,lo,h1,h2,h3,h4⟩:=hlc (by omega)
  exact⟨lb,lo,h1,h2,h3,h4 _ _ (wrVs_at ws k hk).1,by have:=h4 _ _ (wrVs_at ws k hk).2;rwa [←Nat.add_assoc] at this⟩
 have hnum:∀k (hk:k<ws.length),ws[k].1≤9223372036854775807∧ws[k].2.length≤9223372036854775807:=fun k hk=>hl.num _ (List.getElem_mem hk)
 have HC:=Lib.hid hcell;have HN:=Lib.hid hnum;have HG:=Lib.hid h;have HD:=Lib.hid hd;have HP:=Lib.hid hp
 clear hcell hnum hl hlc h hd hp
 go_enter Tryz.func112,Tryz.ntmps112
 go_wp2_with fail
 go_loopw [10] (fun v wr=>∃(k:Nat) (d2:DevL),v=.int .i64 (k:Nat)∧k≤ws.length∧Hid (d.writes ws=d2.writes (ws.drop k))∧Hid (DevAt wr (grow F w wr) b d2)∧Hid (Turn F w wr)∧Hid d2.Ok∧Hid (d2.dead=false→d2.p.length+(ws.length-k)≤1000000)) (fun v _=>ws.length-(intOf v).toNat)
 case atStart=>exact⟨0,d,rfl,Nat.zero_le _,by rw[List.drop_zero];exact Lib.hid rfl,HG.out.mono (fun _ h=>grow_left h),Turn.refl _ _,HD.out,by rw[Nat.sub_zero];exact HP⟩
 case round =>
  obtain⟨k,d2,rfl,hk,HE,HG2,HT2,HD2,HP2⟩:=hrel
  by_cases hlt:k<ws.length
  ·have hki:(k:Int)<(ws.length:Int):=by omega
   obtain⟨lb,lo,rfl,hlb,hlF,x1,x2⟩:=HC.out k hlt
   obtain⟨n1,n2⟩:=HN.out k hlt
   have y1:=HT2.out.cell (F:=F) x1 hlF
   have y2:=HT2.out.cell (F:=F) x2 hlF
   have he:=HE.out
   rw[List.drop_eq_getElem_cons hlt,DevL.writes] at he
   have hqa:=Q.alloc wr (.cells #[.int .i64 (ws[k].1:Nat),strV ws[k].2] 102)
   have hw:=Write_any _ _ b d2 (ws[k].1:Nat) ws[k].2 (HG2.out.keep hqa) HD2.out (fun hx=>by have:=HP2.out hx;omega) n2
   have hok:=DevL.write_ok HD2.out (ws[k].1:Nat) ws[k].2
   have hpn:(d2.write (ws[k].1:Nat) ws[k].2).1.dead=false→(d2.write (ws[k].1:Nat) ws[k].2).1.p.length+(ws.length-(k+1))≤1000000:=fun hx=>by
    have h1:=HP2.out (DevL.write_live _ _ _ hx)
    have h2:=DevL.write_p d2 (ws[k].1:Nat) ws[k].2
    omega
   have HW:=Lib.hid hw;have HEE:=Lib.hid he;have HOK:=Lib.hid hok;have HPN:=Lib.hid hpn;have HQA:=Lib.hid hqa
   clear x1 x2 he hw hok hpn hqa
   generalize hx1:ws[k].1=bk at *
   generalize hx2:ws[k].2=dk at *
   generalize hdw:d2.write (bk:Nat) dk=dw at *
   go_wp2_with fail
   refine HW.out.mono ?_
   rintro e w3 ⟨rfl,hg3,ht3⟩
   have ht4:=(HT2.out.q HQA.out)
   have hgr:∀i,grow (grow F w wr) (wr.alloc (.cells #[.int .i64 (bk:Nat),strV dk] 102)) w3 i→grow F w w3 i:=fun i hi=>by
    rcases hi with (hi|hi)|hi
    ·exact .inl hi
    ·exact .inr ⟨hi.1,by have:=ht3.size;simp at this;omega⟩
    ·exact .inr ⟨by have:=ht4.size;omega,hi.2⟩
   have ht5:Turn F w w3:=⟨ht3.os.trans ht4.os,ht3.tape.trans ht4.tape,ht3.output.trans ht4.output,Nat.le_trans ht4.size ht3.size,fun i h1 h2=>(ht3.block i (Nat.lt_of_lt_of_le h1 ht4.size) (fun hg=>hg.elim h2 (fun hg=>by omega))).trans (ht4.block i h1 h2)⟩
   have HG3:=Lib.hid (hg3.mono hgr);have HT5:=Lib.hid ht5
   clear hg3 ht3 ht4 hgr ht5
   by_cases hz:dw.2=0
   ·have hb:(dw.2==0)=true:=beq_iff_eq.2 hz
    have hee:=HEE.out
    rw[if_pos hz] at hee
    have HE2:=Lib.hid hee
    clear hee HEE hz
    go_wp2_with fail
    go_roundw
    case rel=>exact⟨k+1,dw.1,by go_num,by omega,HE2,HG3,HT5,HOK,HPN⟩
    case measure=>simp[intOf];omega
   ·have hb:(dw.2==0)=false:=beq_eq_false_iff_ne.2 hz
    have hee:=HEE.out
    rw[if_neg hz] at hee
    have HE2:=Lib.hid hee
    clear hee HEE hz
    go_wp2_with fail
    go_ret
    exact⟨by rw[HE2.out];rfl,by rw[HE2.out];exact HG3.out,HT5.out⟩
  ·have hki:¬(k:Int)<(ws.length:Int):=by omega
   have hkn:k=ws.length:=by omega
   subst hkn
   have he:=HE.out
   rw[List.drop_length,DevL.writes] at he
   have HE2:=Lib.hid he
   clear he
   go_wp2_with fail
   go_ret
   exact⟨by rw[HE2.out];rfl,by rw[HE2.out];exact HG2.out,HT2.out⟩
theorem DevL.writes_p(ws:List WrL):∀(d:DevL),(d.writes ws).1.p.length≤d.p.length+ws.length:=by
 induction ws with
 | nil=>intro d;exact Nat.le_refl _
 | cons w ws ih =>
  intro d
  have h1:=DevL.write_p d w.1 w.2
  rw[DevL.writes]
  split
  ·have:=ih (d.write w.1 w.2).1
   rw[List.length_cons];omega
  ·rw[List.length_cons];omega
theorem DevL.writes_live(ws:List WrL):∀(d:DevL),(d.writes ws).1.dead=false→d.dead=false:=by
 induction ws with
 | nil=>intro d h;exact h
 | cons w ws ih =>
  intro d h
  rw[DevL.writes] at h
  split at h
  ·exact DevL.write_live d _ _ (ih _ h)
  ·exact DevL.write_live d _ _ h
theorem DevAt.minus{w:World}{F:Nat→Prop}{b p:Nat}{d:DevL}{cs:Array Value}(h:DevAt w F b d)(hb:Blk w p 110 cs):DevAt w (fun k=>F k∧k≠p) b d:=by
 obtain⟨g,cap,pv,h⟩:=h
 exact⟨g,cap,pv,h.box,⟨h.fb,blk_ne h.box hb (by decide)⟩,h.disk,⟨h.fg,blk_ne h.disk hb (by decide)⟩,h.row,fun k e=>⟨h.fp k e,owns_not_blk h.row hb (by decide) k e⟩⟩
theorem Lays_any(w:World)(F:Nat→Prop)(p b:Nat)(j:JL)(lv:Value)(ws:List WrL)(hb:Blk w p 110 (jcells b j))(h:DevAt w F b j.d)(hd:j.d.Ok)(hp:j.d.dead=false→j.d.p.length+ws.length≤1000000)(hl:WrArg w F lv ws)(hn:ws.length≤1000000)(hpF:¬F p):
  Calls Tryz.prog 110 #[ptrV p,lv] w fun e w'=>e=.returned (.int .i64 (j.d.lays ws).2)∧DevAt w' (grow F w w') b (j.d.lays ws).1∧Turn F w w':=by
 have hw:=Writes_any w F b j.d lv ws h hd hp hl hn
 obtain⟨c0,_⟩:=hb.c8
 have hplt:=hb.lt
 have hok:=DevL.writes_ok hd ws
 have hpp:(j.d.writes ws).1.dead=false→(j.d.writes ws).1.p.length≤1000000:=fun hx=>by
  have h1:=hp (DevL.writes_live ws _ hx)
  have h2:=DevL.writes_p ws j.d
  omega
 unfold DevL.lays
 generalize j.d.writes ws=r at *
 have HW:=Lib.hid hw;have HOK:=Lib.hid hok;have HPP:=Lib.hid hpp
 clear hw hok hpp h hd hp hl hb
 by_cases hz:r.2=0
 ·have hb:(r.2==0)=true:=beq_iff_eq.2 hz
  rw[if_pos hz]
  clear hz
  go_enter Tryz.func110,Tryz.ntmps110
  go_wp2_with fail
  refine HW.out.mono ?_
  rintro e w1 ⟨rfl,h1,t1⟩
  have c1:=t1.cell c0 hpF
  have HF:=Lib.hid (Flush_any w1 (grow F w w1) b r.1 h1 HOK.out HPP.out)
  have HT:=Lib.hid t1
  clear h1 t1
  go_wp2_with fail
  refine HF.out.mono ?_
  rintro e w2 ⟨rfl,h2,t2⟩
  have HE:=Lib.hid (h2.mono (fun k hk=>grow_trans HT.out.size t2.size hk));have HT2:=Lib.hid (HT.out.step t2)
  clear h2 t2
  go_wp2_with fail
  go_ret
  exact⟨rfl,HE.out,HT2.out⟩
 ·have hb:(r.2==0)=false:=beq_eq_false_iff_ne.2 hz
  rw[if_neg hz]
  clear hz
  go_enter Tryz.func110,Tryz.ntmps110
  go_wp2_with fail
  refine HW.out.mono ?_
  rintro e w1 ⟨rfl,h1,t1⟩
  have HE:=Lib.hid h1;have HT:=Lib.hid t1
  clear h1 t1
  go_wp2_with fail
  go_ret
  exact⟨rfl,HE.out,HT.out⟩
end
section
open Go.RowKit
theorem walk_turn32(c:Nat)(h:c<4294967296):bits .xor .u32 ((c:Int) / 2) (bits .and .u32 3988292384 (-(bits .and .u32 (c:Int) 1)%4294967296))=((crcTurn c:Nat):Int):=by
 have h1:bits .and .u32 (c:Int) ((1:Nat):Int)=((c &&& 1:Nat):Int):=u32_and_nat c 1 h (by decide)
 rw[show((1:Nat):Int)=1 from rfl,Nat.and_one_is_mod] at h1
 rw[h1,show((c:Int) / 2)=((c / 2:Nat):Int) from rfl]
 have h2:c / 2<4294967296:=by omega
 unfold crcTurn
 rcases Nat.mod_two_eq_zero_or_one c with e|e
 ·rw[e]
  rw[show(-((0:Nat):Int))%4294967296=((0:Nat):Int) by decide,show(3988292384:Int)=((3988292384:Nat):Int) from rfl,
   u32_and_nat _ _ (by decide) (by decide),u32_xor_nat _ _ h2 (by decide)]
  simp
 ·rw[e]
  rw[show(-((1:Nat):Int))%4294967296=((4294967295:Nat):Int) by decide,show(3988292384:Int)=((3988292384:Nat):Int) from rfl,
   u32_and_nat _ _ (by decide) (by decide),u32_xor_nat _ _ h2 (by decide)]
  rw[if_pos rfl]
  congr 1
theorem Crc_any(v:Value)(ps:List Bytes)(w:World)(hv:Strs w v ps)(hn:ps.length≤9223372036854775807)(hs:∀p∈ps,p.length≤9223372036854775807):
  Calls Tryz.prog 170 #[v] w fun e w'=>e=.returned (.int .u32 (crcL ps.flatten:Nat))∧w=w':=by
 obtain⟨a,cap,rfl,hcell⟩:=hv.value
 have HC:=Lib.hid hcell;have HS:=Lib.hid hs;clear hcell hs hv
 go_enter Tryz.func170,Tryz.ntmps170
 go_wp2_with fail
 go_loop [9,3,5,6] (fun i c _ _=>∃k:Nat,k≤ps.length∧i=.int .i64 k∧c=.int .u32 (crcRaw (ps.take k).flatten:Nat)) (fun i _ _ _=>ps.length-(intOf i).toNat)
 case atStart=>exact⟨0,by omega,rfl,rfl⟩
 case round =>
  obtain⟨k,hk,rfl,rfl⟩:=hrel
  by_cases hlt:k<ps.length
  ·obtain⟨b,off,rfl,hc⟩:=HC.out (by omega)
   have hck:=hc k hlt
   have hpl:=HS.out _ (List.getElem_mem hlt)
   have hft:=flat_take ps k hlt
   generalize ps[k]=p at *
   generalize (ps.take k).flatten=pre at *
   have HF:=Lib.hid hft;have HCC:=Lib.hid hc;clear hft hc
   go_wp2_with fail
   go_loop [15,3,6] (fun i c _=>∃j:Nat,j≤p.length∧i=.int .i64 j∧c=.int .u32 (crcRaw (pre++p.take j):Nat)) (fun i _ _=>p.length-(intOf i).toNat)
   case atStart=>exact⟨0,by omega,rfl,by simp⟩
   case round =>
    obtain⟨j,hj,rfl,rfl⟩:=hrel
    have hlt1:=crcRaw_lt (pre++p.take j)
    by_cases hjl:j<p.length
    ·have hst:=crc_take pre p j hjl
     have hx:(p[j]).toNat<256:=UInt8.toNat_lt _
     generalize hy:crcRaw (pre++p.take j)=c at *
     have HY:=Lib.hid hy;have HST:=Lib.hid hst;clear hy hst
     go_wp2_with fail
     have hxl:c ^^^ (p[j]).toNat<4294967296:=Nat.xor_lt_two_pow (n:=32) hlt1 (by omega)
     go_loop [24,3] (fun i d=>∃m:Nat,m≤8∧i=.int .i64 m∧d=.int .u32 (crcTurns m (c ^^^ (p[j]).toNat):Nat)) (fun i _=>8-(intOf i).toNat)
     case atStart=>exact⟨0,by omega,rfl,int_eq (by
      rw[show((({ data:=List.toArray p }:ByteArray)[j]).toNat:Int)%4294967296=((p[j]).toNat:Int) from Int.emod_eq_of_lt (by omega) (by show((p[j]).toNat:Int)<_;omega)]
      exact u32_xor_nat c (p[j]).toNat hlt1 (by omega))⟩
     case round =>
      obtain⟨m,hm,rfl,rfl⟩:=hrel
      have htl:=crcTurns_lt m _ hxl
      by_cases hml:m<8
      ·have hsc:crcTurns (m+1) (c ^^^ (p[j]).toNat)=crcTurn (crcTurns m (c ^^^ (p[j]).toNat)):=rfl
       generalize crcTurns m (c ^^^ (p[j]).toNat)=d at *
       have hwt:=walk_turn32 d htl
       have HSC:=Lib.hid hsc;have HWT:=Lib.hid hwt;clear hsc hwt
       go_wp2_with fail
       go_round
       case rel=>exact⟨m+1,by omega,by go_num,int_eq (by rw[HSC.out,←HWT.out])⟩
       case measure=>simp[intOf];omega
      ·have hm8:m=8:=by omega
       subst hm8
       go_wp2_with fail
       go_round
       case rel=>exact⟨j+1,by omega,by go_num,by rw[HST.out]⟩
       case measure=>simp[intOf];omega
    ·have hjj:j=p.length:=by omega
     subst hjj
     go_wp2_with fail
     go_round
     case rel=>exact⟨k+1,by omega,by go_num,by rw[HF.out,List.take_length]⟩
     case measure=>simp[intOf];omega
  ·have hkk:k=ps.length:=by omega
   have hx:=crcRaw_lt ps.flatten
   subst hkk
   rw[List.take_length]
   generalize hc:crcRaw ps.flatten=c at *
   have HCR:=Lib.hid hc;clear hc
   go_wp2_with fail
   go_ret
   refine⟨ret_int ?_,rfl⟩
   show bits BinOp.xor IntKind.u32 IntKind.u32.max (c:Int)=_
   rw[show IntKind.u32.max=((4294967295:Nat):Int) by decide,u32_xor_nat _ _ (by decide) hx,Nat.xor_comm]
   unfold crcL
   rw[HCR.out]
theorem four_back(w:World)(a b c d:Nat)(ha:a<256)(hb:b<256)(hc:c<256)(hd:d<256)(r:Bytes)(hr:r=[UInt8.ofNat a,UInt8.ofNat b,UInt8.ofNat c,UInt8.ofNat d]):
  (convert 103 9 (.slice (some ⟨w.heap.size,0,none⟩) 4 4)).run Tryz.prog (w.alloc (.cells #[.int .u8 a,.int .u8 b,.int .u8 c,.int .u8 d] 5)) =
   .ok (.string ⟨r.toArray⟩) (w.alloc (.cells #[.int .u8 a,.int .u8 b,.int .u8 c,.int .u8 d] 5)):=by
 subst hr
 refine run_convert_bytes_back (P:=Tryz.prog) _ 103 9 5 ⟨w.heap.size,0,none⟩ 4 [UInt8.ofNat a,UInt8.ofNat b,UInt8.ofNat c,UInt8.ofNat d] Tryz.underlying103 Tryz.underlying5 Tryz.underlying9 ?_
 intro j hj
 rw[add_head]
 simp only[World.cell?,heap_alloc_new]
 match j,hj with
 | 0,_=>simp[Nat.mod_eq_of_lt ha]
 | 1,_=>simp[Nat.mod_eq_of_lt hb]
 | 2,_=>simp[Nat.mod_eq_of_lt hc]
 | 3,_=>simp[Nat.mod_eq_of_lt hd]
set_option maxRecDepth 20000 in
theorem Fixed_any(v:Nat)(w:World)(hv:v<4294967296):
  Calls Tryz.prog 130 #[.int .u32 v] w fun e w'=>e=.returned (.string ⟨(fixedL v).toArray⟩)∧Q w w':=by
 have k4:=four_back w (v%256) (v / 256%256) (v / 65536%256) (v / 16777216) (by omega) (by omega) (by omega) (by omega) (fixedL v) (by unfold fixedL;rw[show v / 16777216%256=v / 16777216 by omega])
 simp only[Int.natCast_emod,Int.natCast_ediv,Int.cast_ofNat_Int] at k4
 generalize fixedL v=r at *
 go_enter Tryz.func130,Tryz.ntmps130
 go_wp2_with fail
 go_ret
 exact⟨rfl,Q.alloc _ _⟩
end
section
open Go.RowKit
def bit(l:List UInt8)(i:Nat):Bool:=(l.getD (i / 8) 0).toNat.testBit (i%8)
def bitI(l:List UInt8)(i:Int):Bool:=decide (0≤i)&&bit l i.toNat
theorem bit_of_ge(l:List UInt8)(i:Nat)(h:8*l.length≤i):bit l i=false:=by
 unfold bit
 rw[List.getD_eq_getElem?_getD,List.getElem?_eq_none (by omega)]
 simp
theorem bitI_neg(l:List UInt8)(i:Int)(h:i<0):bitI l i=false:=by
 simp[bitI];omega
theorem bitI_ge(l:List UInt8)(i:Int)(h:8*l.length≤i):bitI l i=false:=by
 unfold bitI;rw[bit_of_ge _ _ (by omega)];simp
theorem bitI_nat(l:List UInt8)(i:Nat):bitI l i=bit l i:=by simp[bitI]
theorem walk_bit(x k:Nat)(hx:x<256):(bits BinOp.and IntKind.u8 ((x:Int) / 2 ^ k) 1==1)=x.testBit k:=by
 have h1:((x:Int) / 2 ^ k)=((x / 2 ^ k:Nat):Int):=by simp
 have h2:x / 2 ^ k<256:=Nat.lt_of_le_of_lt (Nat.div_le_self _ _) hx
 rw[h1]
 have:=u8_and_nat (x / 2 ^ k) 1 h2 (by omega)
 rw[show((1:Nat):Int)=1 from rfl] at this
 rw[this,Nat.and_one_is_mod,Nat.testBit_eq_decide_div_mod_eq]
 by_cases h:x / 2 ^ k%2=1
 ·simp[h]
 ·have:x / 2 ^ k%2=0:=by omega
  rw[this];simp
theorem bitI_in(l:List UInt8)(i:Int)(hi:0≤i)(h:(i / 8).toNat<l.length):
  bitI l i=(l[(i / 8).toNat]).toNat.testBit (i%8).toNat:=by
 unfold bitI bit
 have e1:i.toNat / 8=(i / 8).toNat:=by omega
 have e2:i.toNat%8=(i%8).toNat:=by omega
 rw[e1,e2,List.getD_eq_getElem?_getD,List.getElem?_eq_getElem h]
 simp[hi]
theorem div_two_pow(x k:Nat):((x / 2 ^ k:Nat):Int) / 2=((x / 2 ^ (k+1):Nat):Int):=by
 rw[Nat.pow_succ,←Nat.div_div_eq_div_mul];rfl
theorem mod_two_one(x k:Nat):(((x / 2 ^ k:Nat):Int)%2==1)=x.testBit k:=by
 rw[Nat.testBit_eq_decide_div_mod_eq,Bool.eq_iff_iff]
 generalize x / 2 ^ k=y
 rw[beq_iff_eq,decide_eq_true_iff]
 omega
def ByteRow(w:World)(B:Nat)(l:List UInt8):Prop :=
 ∃cur e lo hi,w.heap[B]?=some (.cells cur e (lo,hi))∧(hi≤lo∨l.length≤lo)∧∀j (_:j<l.length),cur[j]?=some (.int .u8 l[j].toNat)
theorem ByteRow.cell{w:World}{B:Nat}{l:List UInt8}(h:ByteRow w B l)(j:Nat)(hj:j<l.length):w.cell? ⟨B,j,none⟩=some (.int .u8 l[j].toNat):=by
 obtain⟨cur,e,lo,hi,h1,h2,h3⟩:=h
 simp[World.cell?,h1,h3 j hj]
theorem ByteRow.frozen{w:World}{B:Nat}{l:List UInt8}(h:ByteRow w B l)(j:Nat)(hj:j<l.length):w.frozen? ⟨B,j,none⟩=false:=by
 obtain⟨cur,e,lo,hi,h1,h2,h3⟩:=h
 simp[World.frozen?,h1];omega
theorem ByteRow.at{w:World}{B:Nat}{l:List UInt8}(h:ByteRow w B l)(j:Nat)(hj:j<l.length):∃x:Nat,x<256∧Hid ((l.getD j 0).toNat=x)∧w.cell? ⟨B,j,none⟩=some (.int .u8 x)∧w.frozen? ⟨B,j,none⟩=false :=
 ⟨l[j].toNat,UInt8.toNat_lt _,by unfold Hid;rw[List.getD_eq_getElem?_getD,List.getElem?_eq_getElem hj];rfl,h.cell j hj,h.frozen j hj⟩
theorem ByteRow.drew{w:World}{B:Nat}{l:List UInt8}(h:ByteRow w B l):ByteRow w.drew B l:=h
theorem ByteRow.drewN{w:World}{B:Nat}{l:List UInt8}(h:ByteRow w B l)(n:Nat):ByteRow (w.drewN n) B l:=h
theorem ByteRow.below{w w':World}{B N:Nat}{l:List UInt8}(h:ByteRow w B l)(hb:Below N w w')(hB:B<N):ByteRow w' B l:=by
 obtain⟨cur,e,lo,hi,h1,h2⟩:=h
 exact⟨cur,e,lo,hi,by rw[hb.block B hB];exact h1,h2⟩
theorem ByteRow.alloc{w:World}{B:Nat}{l:List UInt8}(h:ByteRow w B l)(o:Obj):ByteRow (w.alloc o) B l:=by
 obtain⟨cur,e,lo,hi,h1,h2⟩:=h
 refine⟨cur,e,lo,hi,?_,h2⟩
 rw[Below.heap_alloc _ _ _ (Array.getElem?_eq_some_iff.1 h1).1];exact h1
theorem ByteRow.set{w:World}{B:Nat}{l:List UInt8}(h:ByteRow w B l)(j:Nat)(v:Int)(x:UInt8)(hv:v=x.toNat):ByteRow (w.setCell ⟨B,j,none⟩ (.int .u8 v)) B (l.set j x):=by
 obtain⟨cur,e,lo,hi,h1,h2,h3⟩:=h
 subst hv
 refine⟨cur.setIfInBounds j (.int .u8 x.toNat),e,lo,hi,?_,by simpa using h2,?_⟩
 ·simp[World.setCell,Array.getElem?_modify,h1]
 ·intro k hk
  have hk':k<l.length:=by simpa using hk
  rw[Array.getElem?_setIfInBounds]
  have:=h3 k hk'
  have hs:k<cur.size:=(Array.getElem?_eq_some_iff.1 this).1
  by_cases e:j=k
  ·subst e;simp[hs]
  ·simp[e,this]
theorem ByteRow.made(w:World)(l:List UInt8)(cap:Nat)(e:TypeId):ByteRow (w.alloc (.cells (bytesRow ⟨l.toArray⟩ cap) e ((bytesRow ⟨l.toArray⟩ cap).size,(bytesRow ⟨l.toArray⟩ cap).size+1))) w.heap.size l:=by
 refine⟨_,_,_,_,heap_alloc_new w _,Or.inr (by simp[bytesRow]),?_⟩
 intro j hj
 have:=bytesRow_at ⟨l.toArray⟩ cap j (by simpa using hj)
 simpa using this
theorem ByteRow.back{P:Program}{w:World}{B:Nat}{l:List UInt8}(h:ByteRow w B l)(src dst e:TypeId)(cap:Nat)(hs:P.underlying src=some (.slice e))(he:P.underlying e=some (.int .u8))(hd:P.underlying dst=some .string):
  (convert src dst (.slice (some ⟨B,0,none⟩) l.length cap)).run P w=.ok (.string ⟨l.toArray⟩) w :=
 run_convert_bytes_back w src dst e _ cap l hs he hd (fun j hj=>by
  have:(⟨B,0,none⟩:Addr).add j=⟨B,j,none⟩:=by unfold Addr.add;split<;>simp_all
  rw[this];exact h.cell j hj)
def byteSet(x k:Nat)(on:Bool):Nat:=if on then x ||| 2 ^ k else x &&& (255-2 ^ k)
def setBit(l:List UInt8)(i:Nat)(on:Bool):List UInt8:=l.set (i / 8) (UInt8.ofNat (byteSet (l.getD (i / 8) 0).toNat (i%8) on))
def setTo(l:List UInt8)(start:Nat)(on:Bool):Nat→List UInt8
 | 0=>l
 | k+1=>setBit (setTo l start on k) (start+k) on
theorem length_setBit(l:List UInt8)(i:Nat)(on:Bool):(setBit l i on).length=l.length:=by simp[setBit]
theorem length_setTo(l:List UInt8)(s:Nat)(on:Bool)(k:Nat):(setTo l s on k).length=l.length:=by
 induction k with
 | zero=>rfl
 | succ k ih=>rw[setTo,length_setBit,ih]
theorem two_pow_mod(k:Nat)(hk:k<8):((2:Int) ^ k%256)=((2 ^ k:Nat):Int):=by
 have h:∀k:Fin 8,((2:Int) ^ k.val%256)=((2 ^ k.val:Nat):Int):=by decide
 exact h ⟨k,hk⟩
theorem two_pow_lt(k:Nat)(hk:k<8):2 ^ k<256:=by
 have h:∀k:Fin 8,2 ^ k.val<256:=by decide
 exact h ⟨k,hk⟩
theorem byteSet_lt(x k:Nat)(on:Bool)(hx:x<256)(hk:k<8):byteSet x k on<256:=by
 unfold byteSet
 split
 ·exact Nat.or_lt_two_pow (n:=8) hx (two_pow_lt k hk)
 ·exact Nat.lt_of_le_of_lt Nat.and_le_left hx
theorem clear_or(x k:Nat)(hx:x<256)(hk:k<8):(x &&& (255-2 ^ k)) ||| 2 ^ k=x ||| 2 ^ k:=by
 have h:∀(x:Fin 256) (k:Fin 8),(x.val &&& (255-2 ^ k.val)) ||| 2 ^ k.val=x.val ||| 2 ^ k.val:=by decide +kernel
 exact h ⟨x,hx⟩ ⟨k,hk⟩
theorem walk_clear(x k:Nat)(hx:x<256)(hk:k<8):bits BinOp.andNot IntKind.u8 (x:Int) (2 ^ k%256)=((byteSet x k false:Nat):Int):=by
 rw[two_pow_mod k hk,u8_andNot_nat _ _ hx (two_pow_lt k hk)];rfl
theorem walk_turn(x k:Nat)(hx:x<256)(hk:k<8):bits BinOp.or IntKind.u8 (bits BinOp.andNot IntKind.u8 (x:Int) (2 ^ k%256)) (2 ^ k%256)=((byteSet x k true:Nat):Int):=by
 rw[walk_clear x k hx hk,two_pow_mod k hk,u8_or_nat _ _ (byteSet_lt x k false hx hk) (two_pow_lt k hk)]
 unfold byteSet
 simp[clear_or x k hx hk]
theorem set_set(l:List UInt8)(i:Nat)(a b:UInt8):(l.set i a).set i b=l.set i b:=by simp
theorem ofNat_toNat(n:Nat)(h:n<256):((UInt8.ofNat n).toNat:Int)=n:=by
 rw[UInt8.toNat_ofNat'];omega
def firstN(l:List UInt8)(n:Int):Nat:=(max 0 (min n (8*l.length))).toNat
theorem firstN_le(l:List UInt8)(n:Int):firstN l n≤8*l.length:=by unfold firstN;omega
theorem firstN_int(l:List UInt8)(n:Int):((firstN l n:Nat):Int)=max 0 (min n (8*l.length)):=by unfold firstN;omega
def cnt(l:List UInt8):Nat→Nat
 | 0=>0
 | k+1=>cnt l k+if bit l k then 0 else 1
theorem cnt_le(l:List UInt8)(k:Nat):cnt l k≤k:=by
 induction k with
 | zero=>exact Nat.le_refl _
 | succ k ih=>rw[cnt];split<;>omega
def makeL(n:Int):List UInt8:=if 1≤n∧n≤32768 then List.replicate ((n+7) / 8).toNat 0 else []
theorem ByteRow.zeros(w:World)(n:Nat)(e:TypeId):ByteRow (w.alloc (.cells (madeCells #[.int .u8 0] n) e)) w.heap.size (List.replicate n 0):=by
 refine⟨_,_,_,_,heap_alloc_new w _,Or.inl (Nat.le_refl _),?_⟩
 intro j hj
 have hj':j<n:=by simpa using hj
 simp[madeCells,hj',Nat.mod_one]
theorem xor_set(x k:Nat)(on:Bool)(hx:x<256)(hk:k<8)(h:(x.testBit k==on)=false):x ^^^ 2 ^ k=byteSet x k on:=by
 have h':∀(x:Fin 256) (k:Fin 8) (on:Bool),(x.val.testBit k.val==on)=false→x.val ^^^ 2 ^ k.val=byteSet x.val k.val on:=by decide +kernel
 exact h' ⟨x,hx⟩ ⟨k,hk⟩ on h
theorem same_set(x k:Nat)(on:Bool)(hx:x<256)(hk:k<8)(h:(x.testBit k==on)=true):x=byteSet x k on:=by
 have h':∀(x:Fin 256) (k:Fin 8) (on:Bool),(x.val.testBit k.val==on)=true→x.val=byteSet x.val k.val on:=by decide +kernel
 exact h' ⟨x,hx⟩ ⟨k,hk⟩ on h
def bump:List (Nat×Nat)→List (Nat×Nat)
 | []=>[]
 | [r]=>[(r.1,r.2+1)]
 | r::rs=>r::bump rs
def runsTo(l:List UInt8):Nat→List (Nat×Nat)
 | 0=>[]
 | k+1=>if bit l k then runsTo l k else if 0<k∧bit l (k-1)=false then bump (runsTo l k) else runsTo l k++[(k,1)]
def ext(rs:List (Nat×Nat)):List Value:=rs.flatMap fun r=>[.int .i64 r.1,.int .i64 r.2]
theorem length_ext(rs:List (Nat×Nat)):(ext rs).length=rs.length*2:=by
 induction rs with
 | nil=>rfl
 | cons r rs ih=>simp only[ext,List.flatMap_cons,List.length_append] at ih ⊢;simp at ih ⊢;omega
theorem ext_append(a b:List (Nat×Nat)):ext (a++b)=ext a++ext b:=by simp[ext]
theorem ext_at(rs:List (Nat×Nat))(j:Nat)(h:j<rs.length):(ext rs)[2*j]?=some (.int .i64 rs[j].1)∧(ext rs)[2*j+1]?=some (.int .i64 rs[j].2):=by
 induction rs generalizing j with
 | nil=>simp at h
 | cons r rs ih =>
  cases j with
  | zero=>simp[ext]
  | succ j =>
   have:=ih j (by simpa using h)
   have e:ext (r::rs)=.int .i64 r.1::.int .i64 r.2::ext rs:=by simp[ext]
   rw[e]
   have e2:2*(j+1)=2*j+1+1:=by omega
   rw[e2]
   simpa using this
theorem length_bump(rs:List (Nat×Nat)):(bump rs).length=rs.length:=by
 induction rs with
 | nil=>rfl
 | cons r rs ih=>cases rs with
  | nil=>rfl
  | cons q qs=>simp only[bump,List.length_cons] at ih ⊢;omega
theorem runsTo_length(l:List UInt8)(k:Nat):(runsTo l k).length≤k:=by
 induction k with
 | zero=>exact Nat.le_refl _
 | succ k ih =>
  rw[runsTo]
  split
  ·omega
  ·split
   ·rw[length_bump];omega
   ·simp;omega
theorem bump_snoc(rs:List (Nat×Nat))(r:Nat×Nat):bump (rs++[r])=rs++[(r.1,r.2+1)]:=by
 induction rs with
 | nil=>rfl
 | cons q qs ih =>
  rw[List.cons_append]
  cases h:qs++[r] with
  | nil=>simp at h
  | cons a az =>
   rw[h] at ih
   simp only[bump,ih,List.cons_append]
theorem runsTo_last(l:List UInt8)(k:Nat)(h:bit l k=false):∃rs r,runsTo l (k+1)=rs++[r]∧r.1+r.2=k+1∧1≤r.2:=by
 induction k with
 | zero=>exact⟨[],(0,1),by simp[runsTo,h],by omega,by omega⟩
 | succ k ih =>
  rw[runsTo,h]
  by_cases hk:bit l k=false
  ·obtain⟨rs,r,e,h1,h2⟩:=ih hk
   rw[e]
   refine⟨rs,(r.1,r.2+1),?_,by simp;omega,by simp⟩
   simp[hk,bump_snoc]
  ·exact⟨runsTo l (k+1),(k+1,1),by simp[hk],by omega,by omega⟩
theorem ext_set(rs:List (Nat×Nat))(r1 r2:Nat):(ext rs++ext [(r1,r2)]).set (rs.length*2+1) (.int .i64 ((r2:Int)+1))=ext (rs++[(r1,r2+1)]):=by
 rw[ext_append,List.set_append_right _ _ (by rw[length_ext];omega),length_ext]
 have:rs.length*2+1-rs.length*2=1:=by omega
 rw[this]
 simp[ext]
end
section
theorem runs_step(l:List UInt8)(i:Nat)(hi:i=0∨bit l (i-1)=true)(m:Nat)(h:∀j,i≤j→j<i+m+1→bit l j=false):runsTo l (i+m+1)=runsTo l i++[(i,m+1)]:=by
 induction m with
 | zero =>
  rw[Nat.add_zero,runsTo,h i (Nat.le_refl _) (by omega),if_neg (by simp),if_neg]
  rintro⟨h0,h1⟩
  rcases hi with hi|hi
  ·omega
  ·rw[hi] at h1;cases h1
 | succ m ih =>
  have:=ih (fun j h1 h2=>h j h1 (by omega))
  rw[show i+(m+1)+1=(i+m+1)+1 by omega,runsTo,h _ (by omega) (by omega),if_neg (by simp),if_pos ⟨by omega,h _ (by omega) (by omega)⟩,this,bump_snoc]
theorem runs_stay(l:List UInt8)(k:Nat)(h:bit l k=true):runsTo l (k+1)=runsTo l k:=by rw[runsTo,h];rfl
theorem runs_more(l:List UInt8)(i k N:Nat)(hi:i=0∨bit l (i-1)=true)(hik:i<k)(hkN:k≤N)(h:∀j,i≤j→j<k→bit l j=false)(hk:k=N∨bit l k=true):
  runsTo l (min (k+1) N)=runsTo l i++[(i,k-i)]:=by
 have:=runs_step l i hi (k-i-1) (fun j h1 h2=>h j h1 (by omega))
 rw[show i+(k-i-1)+1=k by omega,show k-i-1+1=k-i by omega] at this
 rcases hk with hk|hk
 ·rw[←this];congr 1;omega
 ·by_cases e:k=N
  ·rw[←this];congr 1;omega
  ·rw[show min (k+1) N=k+1 by omega,runs_stay l k hk,this]
theorem runs_none(l:List UInt8)(k N:Nat)(hkN:k≤N)(hk:k=N∨bit l k=true):runsTo l (min (k+1) N)=runsTo l k:=by
 rcases hk with hk|hk
 ·congr 1;omega
 ·by_cases e:k=N
  ·congr 1;omega
  ·rw[show min (k+1) N=k+1 by omega,runs_stay l k hk]
def tail(l:List UInt8):Nat→Nat
 | 0=>0
 | k+1=>if bit l k then 0 else tail l k+1
theorem tail_le(l:List UInt8)(k:Nat):tail l k≤k:=by
 induction k with
 | zero=>exact Nat.le_refl _
 | succ k ih=>rw[tail];split<;>omega
def fitN(l:List UInt8)(c:Nat):Nat→Option Nat
 | 0=>none
 | k+1=>match fitN l c k with
  | some s=>some s
  | none=>if tail l (k+1)=c then some (k+1-c) else none
def fitO:Option Nat→Int×Bool
 | some s=>((s:Int),true)
 | none=>(0,false)
def fitR(l:List UInt8)(n c:Int):Int×Bool:=if c<1 then(0,false) else fitO (fitN l c.toNat (firstN l n))
theorem fitN_mono(l:List UInt8)(c k s:Nat)(h:fitN l c k=some s)(m:Nat)(hm:k≤m):fitN l c m=some s:=by
 induction m with
 | zero=>rw[←h];congr 1;omega
 | succ m ih =>
  by_cases e:k=m+1
  ·rw[←e];exact h
  ·rw[fitN,ih (by omega)]
theorem runs_tail(l:List UInt8)(k:Nat)(h:bit l k=false):∃rs a,runsTo l (k+1)=rs++[(a,tail l (k+1))]∧a+tail l (k+1)=k+1:=by
 induction k with
 | zero=>exact⟨[],0,by simp[runsTo,tail,h],by simp[tail,h]⟩
 | succ k ih =>
  by_cases hk:bit l k=false
  ·obtain⟨rs,a,h1,h2⟩:=ih hk
   refine⟨rs,a,?_,?_⟩
   ·rw[runsTo,h,if_neg (by simp),if_pos ⟨by omega,hk⟩,h1,bump_snoc,tail.eq_2 l (k+1),h];rfl
   ·rw[tail,h];simp;omega
  ·have hk':bit l k=true:=by simpa using hk
   refine⟨runsTo l (k+1),k+1,?_,?_⟩
   ·rw[runsTo,h,if_neg (by simp),if_neg (by simp[hk']),tail,h,tail,hk'];rfl
   ·rw[tail,h,tail,hk'];simp
theorem fit_eq(l:List UInt8)(c:Nat)(hc:1≤c)(N:Nat):fitN l c N=((runsTo l N).find? (fun r=>decide (c≤r.2))).map (·.1):=by
 induction N with
 | zero=>rfl
 | succ k ih =>
  cases hk:bit l k with
  | true =>
   rw[runs_stay l k hk,fitN,tail,hk,←ih]
   cases fitN l c k with
   | none=>simp;omega
   | some s=>rfl
  | false =>
   obtain⟨rs,a,h1,h2⟩:=runs_tail l k hk
   rw[h1,fitN]
   by_cases hp:0<k∧bit l (k-1)=false
   ·obtain⟨rs',a',h3,h4⟩:=runs_tail l (k-1) hp.2
    rw[show k-1+1=k by omega] at h3 h4
    have h5:=h1
    rw[runsTo,hk,if_neg (by simp),if_pos hp,h3,bump_snoc] at h5
    have e:=List.append_inj' h5 rfl
    obtain⟨rfl,e2⟩:=e
    simp at e2
    obtain⟨rfl,e2⟩:=e2
    rw[ih,h3,List.find?_append,List.find?_append]
    cases hf:rs'.find? (fun r=>decide (c≤r.2)) with
    | some r=>simp
    | none =>
     simp only[Option.none_or,List.find?_cons,List.find?_nil]
     by_cases h6:c≤tail l k
     ·simp[h6,show c≤tail l (k+1) by omega]
     ·by_cases h7:c≤tail l (k+1)
      ·simp[h6,h7,show tail l (k+1)=c by omega];omega
      ·simp[h6,h7,show ¬tail l (k+1)=c by omega]
   ·have h5:=h1
    rw[runsTo,hk,if_neg (by simp),if_neg hp] at h5
    have e:=List.append_inj' h5 rfl
    obtain⟨rfl,e2⟩:=e
    simp at e2
    obtain⟨rfl,e2⟩:=e2
    rw[ih,List.find?_append]
    cases hf:(runsTo l k).find? (fun r=>decide (c≤r.2)) with
    | some r=>simp
    | none =>
     simp only[Option.none_or,List.find?_cons,List.find?_nil,Option.map_none]
     rw[←e2]
     by_cases h7:c≤1
     ·simp[show c=1 by omega]
     ·simp[h7];omega
theorem mask_bit(k j:Nat)(hk:k<8)(hj:j<8):(255-2 ^ k).testBit j=decide (j≠k):=by
 have h:∀(k j:Fin 8),(255-2 ^ k.val).testBit j.val=decide (j.val≠k.val):=by decide +kernel
 exact h ⟨k,hk⟩ ⟨j,hj⟩
theorem byteSet_bit(x k j:Nat)(on:Bool)(hk:k<8)(hj:j<8):(byteSet x k on).testBit j=if j=k then on else x.testBit j:=by
 unfold byteSet
 cases on with
 | true =>
  simp only[if_true,Nat.testBit_or,Nat.testBit_two_pow]
  by_cases h:j=k
  ·simp[h]
  ·simp[h];omega
 | false =>
  simp only[Bool.false_eq_true,if_false,Nat.testBit_and,mask_bit k j hk hj]
  by_cases h:j=k<;>simp[h]
theorem bit_setBit(l:List UInt8)(i j:Nat)(on:Bool)(hi:i<8*l.length):bit (setBit l i on) j=if j=i then on else bit l j:=by
 have hi8:i / 8<l.length:=by omega
 unfold bit setBit
 rw[List.getD_eq_getElem?_getD,List.getElem?_set]
 by_cases h:i / 8=j / 8
 ·rw[if_pos h,if_pos hi8,Option.getD_some,UInt8.toNat_ofNat',Nat.mod_eq_of_lt (byteSet_lt _ _ _ (UInt8.toNat_lt _) (Nat.mod_lt _ (by omega))),
   byteSet_bit _ _ _ _ (Nat.mod_lt _ (by omega)) (Nat.mod_lt _ (by omega)),h]
  by_cases h2:j=i
  ·rw[if_pos (by omega),if_pos h2]
  ·rw[if_neg (by omega),if_neg h2]
 ·rw[if_neg h,if_neg (by intro e;exact h (by rw[e])),←List.getD_eq_getElem?_getD]
theorem bit_setTo(l:List UInt8)(s c j:Nat)(on:Bool)(h:c+s≤8*l.length):bit (setTo l s on c) j=if s≤j∧j<s+c then on else bit l j:=by
 induction c with
 | zero=>rw[setTo,if_neg (by omega)]
 | succ c ih =>
  rw[setTo,bit_setBit _ _ _ _ (by rw[length_setTo];omega),ih (by omega)]
  by_cases h1:j=s+c
  ·rw[if_pos h1,if_pos (by omega)]
  ·rw[if_neg h1]
   by_cases h2:s≤j∧j<s+c
   ·rw[if_pos h2,if_pos (by omega)]
   ·rw[if_neg h2,if_neg (by omega)]
theorem byte_ext(x y:Nat)(hx:x<256)(hy:y<256)(h:∀j,j<8→x.testBit j=y.testBit j):x=y:=by
 apply Nat.eq_of_testBit_eq
 intro i
 by_cases hi:i<8
 ·exact h i hi
 ·have h8:2 ^ 8≤2 ^ i:=Nat.pow_le_pow_right (by decide) (by omega)
  rw[Nat.testBit_lt_two_pow (by omega),Nat.testBit_lt_two_pow (by omega)]
theorem bits_ext(a b:List UInt8)(hl:a.length=b.length)(h:∀j,j<8*a.length→bit a j=bit b j):a=b:=by
 refine List.ext_getElem hl (fun k h1 h2=>?_)
 apply UInt8.toNat_inj.1
 refine byte_ext _ _ (UInt8.toNat_lt _) (UInt8.toNat_lt _) (fun j hj=>?_)
 have:=h (8*k+j) (by omega)
 unfold bit at this
 rw[show(8*k+j) / 8=k by omega,show(8*k+j)%8=j by omega,List.getD_eq_getElem?_getD,List.getD_eq_getElem?_getD,List.getElem?_eq_getElem h1,List.getElem?_eq_getElem h2] at this
 exact this
theorem setTo_back(l:List UInt8)(s c:Nat)(h:c+s≤8*l.length)(hf:∀j,s≤j→j<s+c→bit l j=false):setTo (setTo l s true c) s false c=l:=by
 refine bits_ext _ _ (by rw[length_setTo,length_setTo]) (fun j hj=>?_)
 rw[bit_setTo _ _ _ _ _ (by rw[length_setTo];exact h),bit_setTo _ _ _ _ _ h]
 by_cases h1:s≤j∧j<s+c
 ·rw[if_pos h1,hf j h1.1 h1.2]
 ·rw[if_neg h1,if_neg h1]
theorem cnt_set(l m:List UInt8)(s c:Nat)(hm:∀j,bit m j=if s≤j∧j<s+c then true else bit l j)(hf:∀j,s≤j→j<s+c→bit l j=false)(k:Nat):
  cnt m k+(min k (s+c)-min k s)=cnt l k:=by
 induction k with
 | zero=>simp[cnt]
 | succ k ih =>
  rw[cnt,cnt,hm]
  by_cases h1:s≤k∧k<s+c
  ·rw[if_pos h1,hf k h1.1 h1.2];simp;omega
  ·rw[if_neg h1];split<;>omega
theorem tail_free(l:List UInt8)(k j:Nat)(h1:k-tail l k≤j)(h2:j<k):bit l j=false:=by
 induction k with
 | zero=>omega
 | succ k ih =>
  rw[tail] at h1
  cases hb:bit l k with
  | true=>rw[hb] at h1;simp at h1;omega
  | false =>
   rw[hb] at h1;simp at h1
   by_cases e:j=k
   ·rw[e];exact hb
   ·exact ih (by omega) (by omega)
theorem fit_some(l:List UInt8)(c N s:Nat)(h:fitN l c N=some s):tail l (s+c)=c∧s+c≤N∧(1≤c→fitN l c (s+c-1)=none):=by
 induction N with
 | zero=>cases h
 | succ k ih =>
  rw[fitN] at h
  cases hk:fitN l c k with
  | some t =>
   rw[hk] at h
   obtain⟨h1,h2,h3⟩:=ih (by rw[hk];simpa using h)
   exact⟨h1,by omega,h3⟩
  | none =>
   rw[hk] at h
   simp at h
   have:=tail_le l (k+1)
   have e:s+c=k+1:=by omega
   rw[e]
   exact⟨h.1,Nat.le_refl _,fun _=>hk⟩
def RunOk(l:List UInt8)(k:Nat)(r:Nat×Nat):Prop :=
 (∀j,r.1≤j→j<r.1+r.2→bit l j=false)∧(0<r.1→bit l (r.1-1)=true)∧1≤r.2∧r.1+r.2≤k∧(r.1+r.2<k→bit l (r.1+r.2)=true)
def total(rs:List (Nat×Nat)):Nat:=(rs.map (·.2)).sum
theorem total_snoc(rs:List (Nat×Nat))(r:Nat×Nat):total (rs++[r])=total rs+r.2:=by simp[total]
theorem runs_ok(l:List UInt8)(k:Nat):(∀r∈runsTo l k,RunOk l k r)∧(runsTo l k).Pairwise (fun r q=>r.1+r.2<q.1)∧total (runsTo l k)=cnt l k:=by
 induction k with
 | zero=>exact⟨by simp[runsTo],by simp[runsTo],by simp[runsTo,total,cnt]⟩
 | succ k ih =>
  obtain⟨h1,h2,h3⟩:=ih
  cases hb:bit l k with
  | true =>
   rw[runs_stay l k hb]
   refine⟨fun r hr=>?_,h2,by rw[h3,cnt,hb];rfl⟩
   obtain⟨a,b,c,d,e⟩:=h1 r hr
   refine⟨a,b,c,by omega,fun h=>?_⟩
   by_cases e1:r.1+r.2=k
   ·rw[e1];exact hb
   ·exact e (by omega)
  | false =>
   by_cases hp:0<k∧bit l (k-1)=false
   ·obtain⟨rs,a,h4,h5⟩:=runs_tail l (k-1) hp.2
    rw[show k-1+1=k by omega] at h4 h5
    generalize tail l k=t at *
    have e:runsTo l (k+1)=rs++[(a,t+1)]:=by rw[runsTo,hb,if_neg (by simp),if_pos hp,h4,bump_snoc]
    rw[h4] at h1 h2 h3
    rw[e]
    rw[List.pairwise_append] at h2
    obtain⟨p1,p2,p3⟩:=h2
    refine⟨fun r hr=>?_,?_,?_⟩
    ·rw[List.mem_append] at hr
     rcases hr with hr|hr
     ·obtain⟨a1,b1,c1,d1,e1⟩:=h1 r (by simp[hr])
      have:=p3 r hr (a,t) (by simp)
      exact⟨a1,b1,c1,by omega,fun h=>e1 (by simp at this;omega)⟩
     ·simp at hr
      subst hr
      obtain⟨a1,b1,c1,d1,e1⟩:=h1 (a,t) (by simp)
      refine⟨fun j j1 j2=>?_,b1,by simp,by simp;omega,fun h=>by simp at h;omega⟩
      by_cases ej:j=k
      ·rw[ej];exact hb
      ·exact a1 j j1 (by simp at j2 ⊢;omega)
    ·rw[List.pairwise_append]
     refine⟨p1,by simp,fun r hr q hq=>?_⟩
     have:=p3 r hr (a,t) (by simp)
     simp at hq;subst hq;exact this
    ·rw[total_snoc] at h3 ⊢
     rw[cnt,hb];simp at h3 ⊢;omega
   ·have e:runsTo l (k+1)=runsTo l k++[(k,1)]:=by rw[runsTo,hb,if_neg (by simp),if_neg hp]
    have hlt:∀r∈runsTo l k,r.1+r.2<k:=by
     intro r hr
     obtain⟨a1,b1,c1,d1,e1⟩:=h1 r hr
     by_cases e2:r.1+r.2=k
     ·exact absurd ⟨by omega,a1 (k-1) (by omega) (by omega)⟩ hp
     ·omega
    rw[e]
    refine⟨fun r hr=>?_,?_,?_⟩
    ·rw[List.mem_append] at hr
     rcases hr with hr|hr
     ·obtain⟨a1,b1,c1,d1,e1⟩:=h1 r hr
      exact⟨a1,b1,c1,by omega,fun h=>e1 (hlt r hr)⟩
     ·simp at hr
      subst hr
      refine⟨fun j j1 j2=>?_,fun h=>?_,by simp,by simp,fun h=>by simp at h⟩
      ·have:j=k:=by simp at j1 j2;omega
       rw[this];exact hb
      ·simp at h
       cases hq:bit l (k-1) with
       | true=>rfl
       | false=>exact absurd ⟨h,hq⟩ hp
    ·rw[List.pairwise_append]
     refine⟨h2,by simp,fun r hr q hq=>?_⟩
     simp at hq;subst hq;exact hlt r hr
    ·rw[total_snoc,h3,cnt,hb];rfl
end
end Go.Proofs.YthcpkgfieoneeaaGreatDoor
