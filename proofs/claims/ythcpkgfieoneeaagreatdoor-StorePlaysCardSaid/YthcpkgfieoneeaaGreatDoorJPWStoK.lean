/- Joined texts of one proof: what is needed of WStoK, WStoL, WStoM, WStoN. -/
import Derived.Test.YthcpkgfieoneeaaGreatDoorJPWStoD0
import Derived.Test.YthcpkgfieoneeaaGreatDoorJPBitC
import Derived.Test.YthcpkgfieoneeaaGreatDoorJPJrn4
import Derived.Test.YthcpkgfieoneeaaGreatDoorJPWRef4f
import Derived.Test.YthcpkgfieoneeaaGreatDoorJPWJrnG
import Derived.Test.YthcpkgfieoneeaaGreatDoorJPBitM
set_option linter.unusedSimpArgs false
set_option linter.unusedVariables false
set_option linter.unnecessarySimpa false
set_option maxRecDepth 100000
set_option maxHeartbeats 16000000
namespace Go.Proofs.YthcpkgfieoneeaaGreatDoor
section
open Go.RowKit
structure ComPre (σ:StL):Prop where
 get:(σ.j.commit σ.tx).2=0→∀i,63≤i∧i<σ.n→(σ.j.commit σ.tx).1.d.get i=lastP σ.tx i (σ.j.d.get i)
 dead:(σ.j.commit σ.tx).2≠0→(σ.j.commit σ.tx).1.d.dead=true
theorem StUAt.ofU{w:World}{FJ FC F:Nat→Prop}{sb b p cb tb most clock:Nat}{ms:Int}{mb:Nat}{m:KeptLs}{ti:List (Nat×Value)}{σ:StL}{K:Nat}(h:StU w FJ FC sb b p cb tb most clock ms mb m ti σ)(hF:∀k,FJ k∨FC k∨k=sb∨k=tb→F k)(hl:∀k,F k→k<w.heap.size)(hK:clock≤K):StUAt w F sb b σ K :=
 ⟨_,_,_,_,_,_,_,_,_,_,_,h,hF,hl,hK⟩
theorem commit_door(w w5:World)(F F5:Nat→Prop)(sb b:Nat)(σ':StL)(K:Nat)(err:Int)(tmps:Array Value)(ht:tmps.getD 2 undef=.pointer (some ⟨w.heap.size+1,0,none⟩))(h5:StUAt w5 F5 sb b σ' K)(he:Boxed w5 (w.heap.size+1) 30 (.int .i64 err))(hb:Boxed w5 w.heap.size 38 (ptrV sb))
  (hF5:∀k,F5 k→F k∨(w.heap.size+2≤k∧k<w5.heap.size)) (hF:∀k,F k→k<w.heap.size) (t:Turn F w w5) (htx:err=0→σ'.tx=[]) :
  Leaves Tryz.prog Tryz.f24 tmps (fun e w'=>e=.returned (.int .i64 err)∧StAt w' (grow F w w') sb b (if err=0 then σ'.close else σ'.undone.close) K∧Turn F w w')
   [{ target:=Target.fn (Fn.func 65) #[.pointer (some ⟨w.heap.size+1,0,none⟩),.pointer (some ⟨w.heap.size,0,none⟩)],args:=#[] }] .returning w5:=by
 have n1:¬F5 (w.heap.size+1):=fun e=>by rcases hF5 _ e with e|e;have:=hF _ e;omega;omega
 have n2:¬F5 w.heap.size:=fun e=>by rcases hF5 _ e with e|e;have:=hF _ e;omega;omega
 refine leaves_cons (f:=65) (args:=#[ptrV (w.heap.size+1),ptrV w.heap.size]) (by simp) (by simp[go_sem]) ?_
 refine(CommitEnd_any w5 F5 sb b _ _ σ' K err h5 he hb n1 n2 htx).mono ?_
 rintro e u' w' ⟨rfl,rfl,h,t'⟩
 have he':Boxed w' (w.heap.size+1) 30 (.int .i64 err):=(t'.block _ (lt_of_get he) n1).trans he
 have tt:Turn F w w':=t.step (t'.mono (fun k hk=>(hF5 k hk).elim .inl (fun hk=>.inr ⟨by omega,hk.2⟩)))
 exact⟨.int .i64 err,results_cell1 rfl _ _ ⟨w.heap.size+1,0,none⟩ _ ht (load_errno _ _ err he'.cell),rfl,h.mono (fun k hk=>(hF5 k hk).elim .inl (fun hk=>.inr ⟨by omega,by have:=t'.size;omega⟩)) (fun k hk=>hk.elim (fun hk=>Nat.lt_of_lt_of_le (hF k hk) tt.size) (fun hk=>hk.2)) (Nat.le_refl _),tt⟩
theorem SCommit_any(w:World)(F:Nat→Prop)(sb b:Nat)(σ:StL)(K:Nat)(h:StAt w F sb b σ K)(hn:StNum σ)(hp:σ.state true=0→σ.tx≠[]→ComPre σ):
  Calls Tryz.prog 24 #[ptrV sb] w fun e w'=>e=.returned (.int .i64 σ.commit.2)∧StAt w' (grow F w w') sb b σ.commit.1 K∧Turn F w w':=by
 obtain⟨wa,hwa⟩:∃wa,wa=(w.alloc (.cells #[ptrV sb] 38)).alloc (.cells #[.int .i64 0] 30):=⟨_,rfl⟩
 have hq:Q w wa:=by rw[hwa];exact(Q.alloc _ _).trans (Q.alloc _ _)
 have hsz:wa.heap.size=w.heap.size+2:=by rw[hwa];simp
 have hb0:Boxed wa w.heap.size 38 (ptrV sb):=by rw[hwa];exact(Boxed.new w _ _).alloc _
 have hb1:Boxed wa (w.heap.size+1) 30 (.int .i64 0):=by
  rw[hwa]
  have:=Boxed.new (w.alloc (.cells #[ptrV sb] 38)) 30 (.int .i64 0)
  rwa [World.size_alloc] at this
 have hF:=h.lt
 have hh:=h.keep hq
 have d0:=hb0.cell
 have d1:=hb1.cell;have e1:=hb1.frozen
 have hst:=hh.hstate true
 have hmf:∀(fn:Fn) (first cap:Array Value) (w:World),(Instr.makeFunc fn first cap).run Tryz.prog w=.ok (.func fn first cap) w:=fun _ _ _ _=>rfl
 by_cases hz:σ.state true=0
 ·obtain⟨hdd,hoo⟩:=state_open hz
  rw[hz] at hst
  have hab:=hsz
  obtain⟨FJ,FC,p,cb,tb,most,clock,ms,mb,m,ti,hg,hFF,hlt,hcl⟩:=hh
  obtain⟨c0,c1,c2,c3,c4,c5⟩:=Blk.c6 hg.box
  obtain⟨n1,n2,n3,n4,n5,n6⟩:=hn.num hdd
  have hok:=hg.ok hdd
  have hdi:=Dirty_any wa FC cb p σ.n most clock ms mb m σ.tx σ.j.d.get hg.ca hok
  have hn':=hn
  have hts:σ.tx.length≤48:=n5
  have HDI:=Lib.hid hdi;have HST:=Lib.hid hst;have HG:=Lib.hid hg;have HFF:=Lib.hid hFF;have HF:=Lib.hid hF;have HQ:=Lib.hid hq;have HB0:=Lib.hid hb0;have HB1:=Lib.hid hb1;have HP:=Lib.hid (hp hz);have HOK:=Lib.hid hok;have HZ:=Lib.hid hz;have HJN:=Lib.hid (And.intro n1 (And.intro n2 (And.intro n3 n4)));have HSZ:=Lib.hid hsz
  clear hdi hst hg hFF hF hq hb0 hb1 hp hok hz n1 n2 n3 n4 n6 hn hsz hlt hab
  go_enter_defers Tryz.func24,Tryz.ntmps24
  go_upto_region 1 with fail
  rw[←hwa]
  clear hwa
  go_wp2_with fail
  refine HST.out.mono ?_
  rintro e w1 ⟨rfl,rfl⟩
  go_wp2_with fail
  refine HDI.out.mono ?_
  rintro e w2 ⟨v2,rfl,ho2,q2⟩
  have hcn:=Clone_writes v2 σ.tx w2 (Sl.of_owns ho2) (by omega)
  have HCN:=Lib.hid hcn;have Q2:=Lib.hid q2
  clear hcn q2 ho2
  go_wp2_with fail
  refine HCN.out.mono ?_
  rintro e w3 ⟨v3,rfl,ho3,q3⟩
  have q3':Q wa w3:=Q2.out.trans q3
  have hz3:wa.heap.size≤w2.heap.size:=Q2.out.size
  obtain⟨a3,cap3,rfl,-⟩:=owns_value ho3
  have b0:=HB0.out.cell;have b1:=HB1.out.cell;have b2:=HB1.out.frozen
  have x0:=cellQ q3' d0;have x1:=cellQ q3' d1
  have HO3:=Lib.hid ho3;have HQ3:=Lib.hid q3'
  have hb13:Boxed w3 (w.heap.size+1) 30 (.int .i64 0):=(q3'.block _ (lt_of_get HB1.out)).trans HB1.out
  have hb03:Boxed w3 w.heap.size 38 (ptrV sb):=(q3'.block _ (lt_of_get HB0.out)).trans HB0.out
  have f1:=hb13.frozen
  have hg3:=HG.out.keep q3'
  obtain⟨g0,g1,g2,g3,g4,g5⟩:=Blk.c6 hg3.box
  have HB13:=Lib.hid hb13;have HB03:=Lib.hid hb03;have HG3:=Lib.hid hg3
  clear ho3 q3 q3' hb13 hb03 hg3 c0 c1 c2 c3 c4 c5 b0 b1 b2 d0 d1 e1
  by_cases htx:σ.tx=[]
  ·have hlen:¬(0:Int)<(σ.tx.length:Int):=by rw[htx];decide
   have hcln:=Clean_any w3 FC cb p most clock ms mb m HG3.out.ca HOK.out.keys HOK.out.ptrs
   have HCL:=Lib.hid hcln;have HTX:=Lib.hid htx
   clear hcln htx
   go_wp2_with fail
   refine HCL.out.mono ?_
   rintro e w4 ⟨rfl,h4,t4⟩
   have hn1:¬FC (w.heap.size+1):=fun e=>by have:=HF.out _ (HFF.out _ (.inr (.inl e)));omega
   have y1:=t4.cell x1 hn1
   have hb14:Boxed w4 (w.heap.size+1) 30 (.int .i64 0):=(t4.block _ (lt_of_get HB13.out) hn1).trans HB13.out
   have f2:=hb14.frozen
   have H4:=Lib.hid h4;have T4:=Lib.hid t4;have HB14:=Lib.hid hb14
   clear h4 t4 hb14
   go_wp2_with fail
   have hco:σ.commit=(({ σ with tx:=[] }:StL).close,0):=by unfold StL.commit;rw[if_neg (by rw[HZ.out];decide),if_pos HTX.out];rfl
   rw[hco]
   have hbe:=HB14.out.set (.int .i64 0)
   have t5:Turn (fun k=>k=w.heap.size+1) w4 (w4.setCell ⟨w.heap.size+1,0,none⟩ (.int .i64 0)):=Turn.setCell (a:=⟨w.heap.size+1,0,none⟩) (Turn.refl (fun k=>k=w.heap.size+1) w4) (.inl rfl) _
   have hne:w.heap.size≠w.heap.size+1:=by omega
   have hn0:¬FC w.heap.size:=fun e=>by have:=HF.out _ (HFF.out _ (.inr (.inl e)));omega
   have hbs:Boxed (w4.setCell ⟨w.heap.size+1,0,none⟩ (.int .i64 0)) w.heap.size 38 (ptrV sb):=by
    have z0:Boxed w4 w.heap.size 38 (ptrV sb):=(T4.out.block _ (lt_of_get HB03.out) hn0).trans HB03.out
    exact(t5.block _ (lt_of_get z0) hne).trans z0
   have hge:∀k,F k→k≠w.heap.size+1:=fun k hk e=>by have:=HF.out k hk;omega
   have hU:StU (w4.setCell ⟨w.heap.size+1,0,none⟩ (.int .i64 0)) FJ FC sb b p cb tb most clock ms mb _ ti { σ with tx:=[] } :=
    ⟨t5.blk (T4.out.blk HG3.out.box HG3.out.sF.2) (hge _ (HFF.out _ (.inr (.inr (.inl rfl))))),(HG3.out.tm.same (T4.out.block _ HG3.out.tm.lt HG3.out.tF.2)).same (t5.block _ (Nat.lt_of_lt_of_le HG3.out.tm.lt T4.out.size) (hge _ (HFF.out _ (.inr (.inr (.inr rfl)))))),(HG3.out.jr.beside T4.out HG3.out.apart).beside t5 (fun k hk=>hge k (HFF.out k (.inl hk))),H4.out.beside t5 (fun k hk=>hge k (HFF.out k (.inr (.inl hk)))),HG3.out.apart,HG3.out.sF,HG3.out.tF,fun _=>HOK.out.cleaned _ (fun i hi=>by rw[HTX.out];rfl)⟩
   have tq:Turn F w w4:=(Turn.of_q (HQ.out.trans HQ3.out)).trans (T4.out.mono (fun k hk=>HFF.out k (.inr (.inl hk))))
   have tz:Turn F w (w4.setCell ⟨w.heap.size+1,0,none⟩ (.int .i64 0)):=tq.setCell (.inr (by simp)) _
   exact commit_door w _ F F sb b { σ with tx:=[] } K 0 _ rfl (StUAt.ofU hU HFF.out (fun k hk=>Nat.lt_of_lt_of_le (HF.out k hk) tz.size) hcl) hbe hbs (fun k hk=>.inl hk) HF.out tz (fun _=>rfl)
  ·have hlen:(0:Int)<(σ.tx.length:Int):=by have:=List.length_pos_iff.2 htx;omega
   obtain⟨jn,ju,jh,jt⟩:=HJN.out
   have hpre:=HP.out htx
   have hz2:w.heap.size+2≤w2.heap.size:=by have:=HSZ.out;omega
   have hfjl:∀k,FJ k→k<w.heap.size:=fun k hk=>HF.out k (HFF.out k (.inl hk))
   have hfcl:∀k,FC k→k<w.heap.size:=fun k hk=>HF.out k (HFF.out k (.inr (.inl hk)))
   have hwa:WrArg w3 FJ (.slice a3 σ.tx.length cap3) σ.tx:=⟨SlO.owned HO3.out (fun g hg e=>by have:=hfjl g e;omega),fun x hx=>by have:=jt x hx;have:=hn'.max;exact⟨by omega,by omega⟩⟩
   have hjc:=JCommit_any w3 FJ p b σ.j _ σ.tx HG3.out.jr jn ⟨by omega,n5,fun x hx=>by have h1:=jt x hx;have:=hn'.max;exact⟨by omega,h1.2.2⟩⟩ (fun x hx=>by have:=jt x hx;rw[jh];exact⟨by omega,this.2.1⟩) hwa ju
   have hco:σ.commit=if (σ.j.commit σ.tx).2=0 then(({ σ with j:=(σ.j.commit σ.tx).1,tx:=[] }:StL).close,0) else(({ σ with j:=(σ.j.commit σ.tx).1 }:StL).undone.close,(σ.j.commit σ.tx).2):=by unfold StL.commit;rw[if_neg (by rw[HZ.out];decide),if_neg htx];rfl
   have hgt:=hpre.get;have hdd':=hpre.dead
   have hln:=JL.commit_len σ.j σ.tx
   have HCO:=Lib.hid hco;have HJC:=Lib.hid hjc;have HGT:=Lib.hid hgt;have HDD:=Lib.hid hdd';have HLN:=Lib.hid hln;have HFJ:=Lib.hid (And.intro hfjl hfcl)
   clear hjc hgt hdd' hln hpre hco hwa jn ju jh jt htx n5 hfjl hfcl
   generalize σ.j.commit σ.tx=jc at *
   obtain⟨j',err⟩:=jc
   simp only at HJC HGT HDD HLN HCO
   go_wp2_with fail
   refine HJC.out.mono ?_
   rintro e w4 ⟨rfl,h4,t4⟩
   have hn1:¬FJ (w.heap.size+1):=fun e=>by have:=HFJ.out.1 _ e;omega
   have hn0:¬FJ w.heap.size:=fun e=>by have:=HFJ.out.1 _ e;omega
   have hbe4:Boxed w4 (w.heap.size+1) 30 (.int .i64 0):=(t4.block _ (lt_of_get HB13.out) hn1).trans HB13.out
   have hbs4:Boxed w4 w.heap.size 38 (ptrV sb):=(t4.block _ (lt_of_get HB03.out) hn0).trans HB03.out
   have f2:=hbe4.frozen;have f3:=hbe4.cell
   have t5:Turn (fun k=>k=w.heap.size+1) w4 (w4.setCell ⟨w.heap.size+1,0,none⟩ (.int .i64 err)):=Turn.setCell (a:=⟨w.heap.size+1,0,none⟩) (Turn.refl (fun k=>k=w.heap.size+1) w4) (.inl rfl) _
   have hbe5:=hbe4.set (.int .i64 err)
   have hne:w.heap.size≠w.heap.size+1:=by omega
   have hbs5:Boxed (w4.setCell ⟨w.heap.size+1,0,none⟩ (.int .i64 err)) w.heap.size 38 (ptrV sb):=(t5.block _ (lt_of_get hbs4) hne).trans hbs4
   have hge:∀k,F k→k≠w.heap.size+1:=fun k hk e=>by have:=HF.out k hk;omega
   have hb5:=t5.blk (t4.blk HG3.out.box HG3.out.sF.1) (hge _ (HFF.out _ (.inr (.inr (.inl rfl)))))
   have hm4:=HG3.out.tm.same (t4.block _ HG3.out.tm.lt HG3.out.tF.1)
   have hm5:=hm4.same (t5.block _ hm4.lt (hge _ (HFF.out _ (.inr (.inr (.inr rfl))))))
   have hj5:=h4.beside t5 (fun k hk e=>by rcases hk with hk|hk;exact hge k (HFF.out k (.inl hk)) e;have:=HQ3.out.size;have:=HSZ.out;omega)
   have hc5:=(HG3.out.ca.beside t4 (fun k hk e=>HG3.out.apart k e hk)).beside t5 (fun k hk=>hge k (HFF.out k (.inr (.inl hk))))
   have hz4:w3.heap.size≤w4.heap.size:=t4.size
   have hz3':w.heap.size+2≤w3.heap.size:=by have:=HQ3.out.size;have:=HSZ.out;omega
   have tw5:Turn F w (w4.setCell ⟨w.heap.size+1,0,none⟩ (.int .i64 err)):=((Turn.of_q (HQ.out.trans HQ3.out)).trans (t4.mono (fun k hk=>HFF.out k (.inl hk)))).setCell (.inr (by simp)) _
   have hs5:(w4.setCell ⟨w.heap.size+1,0,none⟩ (.int .i64 err)).heap.size=w4.heap.size:=setCell_size _ _ _
   have HBE5:=Lib.hid hbe5;have HBS5:=Lib.hid hbs5;have HB5:=Lib.hid hb5;have HM5:=Lib.hid hm5;have HJ5:=Lib.hid hj5;have HC5:=Lib.hid hc5;have HZ4:=Lib.hid (And.intro hz4 (And.intro hz3' hs5));have TW5:=Lib.hid tw5;have HGE:=Lib.hid hge
   clear h4 t4 hbe4 hbs4 t5 hbe5 hbs5 hb5 hm4 hm5 hj5 hc5 hz4 hz3' tw5 hs5 hge hz3 hz2 x0 x1
   go_upto_region 8 with fail
   generalize w4.setCell ⟨w.heap.size+1,0,none⟩ (.int .i64 err)=w5 at *
   have x0:=HBS5.out.cell;have x1:=HBE5.out.cell
   obtain⟨k0,k1,k2,k3,k4,k5⟩:=Blk.c6 HB5.out
   have hap:∀k,grow FJ w3 w4 k→¬FC k:=fun k hk e=>hk.elim (fun hk=>HG3.out.apart k hk e) (fun hk=>by have:=HFJ.out.2 k e;have:=HZ4.out.2.1;omega)
   have hsF:¬grow FJ w3 w4 sb∧¬FC sb:=⟨fun hk=>hk.elim HG3.out.sF.1 (fun hk=>by have:=HG3.out.box.lt;omega),HG3.out.sF.2⟩
   have htF:¬grow FJ w3 w4 tb∧¬FC tb:=⟨fun hk=>hk.elim HG3.out.tF.1 (fun hk=>by have:=HG3.out.tm.lt;omega),HG3.out.tF.2⟩
   have hF5:∀k,grow FJ w3 w4 k∨FC k∨k=sb∨k=tb→grow F w3 w4 k:=fun k hk=>by
    rcases hk with hk|hk|hk|hk
    ·exact hk.elim (fun hk=>.inl (HFF.out k (.inl hk))) .inr
    ·exact .inl (HFF.out k (.inr (.inl hk)))
    ·exact .inl (HFF.out k (.inr (.inr (.inl hk))))
    ·exact .inl (HFF.out k (.inr (.inr (.inr hk))))
   have HAP:=Lib.hid hap;have HSF:=Lib.hid hsF;have HTF:=Lib.hid htF;have HF5:=Lib.hid hF5
   clear hap hsF htF hF5
   by_cases hz:err=0
   ·subst hz
    have hcln:=Clean_any w5 FC cb p most clock ms mb m HC5.out HOK.out.keys HOK.out.ptrs
    have hco:=HCO.out
    rw[if_pos rfl] at hco
    have HCL:=Lib.hid hcln;have HCO1:=Lib.hid hco
    clear hcln hco HCO
    go_wp2_with fail
    refine HCL.out.mono ?_
    rintro e w6 ⟨rfl,h6,t6⟩
    have hn1:¬FC (w.heap.size+1):=fun e=>by have:=HFJ.out.2 _ e;omega
    have hn0:¬FC w.heap.size:=fun e=>by have:=HFJ.out.2 _ e;omega
    have hbe6:Boxed w6 (w.heap.size+1) 30 (.int .i64 0):=(t6.block _ (lt_of_get HBE5.out) hn1).trans HBE5.out
    have hbs6:Boxed w6 w.heap.size 38 (ptrV sb):=(t6.block _ (lt_of_get HBS5.out) hn0).trans HBS5.out
    have y1:=hbe6.cell;have y2:=hbe6.frozen
    have H6:=Lib.hid h6;have T6:=Lib.hid t6;have HBE6:=Lib.hid hbe6;have HBS6:=Lib.hid hbs6
    clear h6 t6 hbe6 hbs6
    go_wp2_with fail
    rw[HCO1.out]
    have t7:Turn (fun k=>k=w.heap.size+1) w6 (w6.setCell ⟨w.heap.size+1,0,none⟩ (.int .i64 0)):=Turn.setCell (a:=⟨w.heap.size+1,0,none⟩) (Turn.refl (fun k=>k=w.heap.size+1) w6) (.inl rfl) _
    have hne:w.heap.size≠w.heap.size+1:=by omega
    have hgj:∀k,grow FJ w3 w4 k→k≠w.heap.size+1:=fun k hk e=>by rcases hk with hk|hk;exact HGE.out k (HFF.out k (.inl hk)) e;have:=HZ4.out.2.1;omega
    have hU:StU (w6.setCell ⟨w.heap.size+1,0,none⟩ (.int .i64 0)) (grow FJ w3 w4) FC sb b p cb tb most clock ms mb _ ti { σ with j:=j',tx:=[] } :=
     ⟨t7.blk (T6.out.blk HB5.out HG3.out.sF.2) (HGE.out _ (HFF.out _ (.inr (.inr (.inl rfl))))),(HM5.out.same (T6.out.block _ HM5.out.lt HG3.out.tF.2)).same (t7.block _ (Nat.lt_of_lt_of_le HM5.out.lt T6.out.size) (HGE.out _ (HFF.out _ (.inr (.inr (.inr rfl)))))),(HJ5.out.beside T6.out HAP.out).beside t7 hgj,H6.out.beside t7 (fun k hk=>HGE.out k (HFF.out k (.inr (.inl hk)))),HAP.out,HSF.out,HTF.out,fun _=>by
      have e:({ σ with j:=j',tx:=[] }:StL).n=σ.n:=HLN.out
      rw[e]
      exact HOK.out.cleaned _ (HGT.out (by first|rfl|trivial))⟩
    have tz:Turn F w (w6.setCell ⟨w.heap.size+1,0,none⟩ (.int .i64 0)):=(TW5.out.trans (T6.out.mono (fun k hk=>HFF.out k (.inr (.inl hk))))).setCell (.inr (by simp)) _
    have hsz6:w4.heap.size≤(w6.setCell ⟨w.heap.size+1,0,none⟩ (.int .i64 0)).heap.size:=by have h1:=T6.out.size;have h2:=t7.size;have h3:=HZ4.out.2.2;omega
    exact commit_door w _ F (grow F w3 w4) sb b { σ with j:=j',tx:=[] } K 0 _ rfl (StUAt.ofU hU HF5.out (fun k hk=>hk.elim (fun hk=>Nat.lt_of_lt_of_le (HF.out k hk) tz.size) (fun hk=>by omega)) hcl) (HBE6.out.set _) ((t7.block _ (lt_of_get HBS6.out) hne).trans HBS6.out) (fun k hk=>hk.elim .inl (fun hk=>.inr ⟨by have:=HZ4.out.2.1;omega,by omega⟩)) HF.out tz (fun _=>rfl)
   ·have e1:(err==0)=false:=beq_eq_false_iff_ne.2 hz
    have hco:=HCO.out
    rw[if_neg hz] at hco
    have f5:=HBE5.out.frozen
    have HCO1:=Lib.hid hco;have HERR:=Lib.hid hz
    clear hco HCO hz
    go_wp2_with fail
    rw[HCO1.out]
    have t7:Turn (fun k=>k=w.heap.size+1) w5 (w5.setCell ⟨w.heap.size+1,0,none⟩ (.int .i64 err)):=Turn.setCell (a:=⟨w.heap.size+1,0,none⟩) (Turn.refl (fun k=>k=w.heap.size+1) w5) (.inl rfl) _
    have hne:w.heap.size≠w.heap.size+1:=by omega
    have hgj:∀k,grow FJ w3 w4 k→k≠w.heap.size+1:=fun k hk e=>by rcases hk with hk|hk;exact HGE.out k (HFF.out k (.inl hk)) e;have:=HZ4.out.2.1;omega
    have hU:StU (w5.setCell ⟨w.heap.size+1,0,none⟩ (.int .i64 err)) (grow FJ w3 w4) FC sb b p cb tb most clock ms mb m ti { σ with j:=j' } :=
     ⟨t7.blk HB5.out (HGE.out _ (HFF.out _ (.inr (.inr (.inl rfl))))),HM5.out.same (t7.block _ HM5.out.lt (HGE.out _ (HFF.out _ (.inr (.inr (.inr rfl)))))),HJ5.out.beside t7 hgj,HC5.out.beside t7 (fun k hk=>HGE.out k (HFF.out k (.inr (.inl hk)))),HAP.out,HSF.out,HTF.out,fun hd=>by
      have hx:j'.d.dead=false:=hd
      rw[HDD.out HERR.out] at hx;exact absurd hx (by decide)⟩
    have tz:Turn F w (w5.setCell ⟨w.heap.size+1,0,none⟩ (.int .i64 err)):=TW5.out.setCell (.inr (by simp)) _
    have hsz6:w4.heap.size≤(w5.setCell ⟨w.heap.size+1,0,none⟩ (.int .i64 err)).heap.size:=by have h2:=t7.size;have h3:=HZ4.out.2.2;omega
    have hdoor:=fun (tmps:Array Value) (ht:tmps.getD 2 undef=.pointer (some ⟨w.heap.size+1,0,none⟩))=>commit_door w _ F (grow F w3 w4) sb b { σ with j:=j' } K err tmps ht (StUAt.ofU hU HF5.out (fun k hk=>hk.elim (fun hk=>Nat.lt_of_lt_of_le (HF.out k hk) tz.size) (fun hk=>by omega)) hcl) (HBE5.out.set _) ((t7.block _ (lt_of_get HBS5.out) hne).trans HBS5.out) (fun k hk=>hk.elim .inl (fun hk=>.inr ⟨by have:=HZ4.out.2.1;omega,by omega⟩)) HF.out tz (fun e=>absurd e HERR.out)
    simp only[if_neg HERR.out] at hdoor
    exact hdoor _ rfl
 ·have hr:σ.commit=(σ,σ.state true):=by unfold StL.commit;rw[if_pos hz]
  rw[hr]
  have e1':(σ.state true==0)=false:=beq_eq_false_iff_ne.2 hz
  have hb2:=hb1.set (.int .i64 (σ.state true))
  have hqe:Q w (wa.setCell ⟨w.heap.size+1,0,none⟩ (.int .i64 (σ.state true))):=Qs.st hq _ _ (by simp)
  have hend:=h.quiet hqe (Nat.le_refl K)
  have HE:=Lib.hid hend;have HST:=Lib.hid hst;have HB2:=Lib.hid hb2
  clear hend hqe hb2 hr hz hst hh hn hp h hF hsz hb0 hb1 hq
  simp only at HE ⊢
  generalize σ.state true=x at *
  go_enter_defers Tryz.func24,Tryz.ntmps24
  go_upto_region 1 with fail
  rw[←hwa]
  clear hwa
  go_wp2_with fail
  refine HST.out.mono ?_
  rintro e w1 ⟨rfl,rfl⟩
  go_wp2_with fail
  exact⟨.int .i64 x,results_cell1 rfl _ _ ⟨w.heap.size+1,0,none⟩ _ rfl (load_errno _ _ x HB2.out.cell),rfl,HE.out.1,HE.out.2⟩
theorem ext_app'(rs ss:List (Nat×Nat)):ext (rs++ss)=ext rs++ext ss:=by simp[ext]
theorem ext_one'(l:List (Nat×Nat)):∀u∈ext l,u.oneCell'=true:=by
 intro u hu
 obtain⟨d,_,hd⟩:=List.mem_flatMap.1 hu
 simp at hd
 rcases hd with rfl|rfl<;>simp[Value.oneCell']
theorem tinfoExt1:(Tryz.prog.info? 64).map (fun i=>(i.zero,i.size,i.bytes))=some (some (.agg #[.int .i64 0,.int .i64 0]),2,16):=by kernel_rfl
theorem ext_app(W0:World){w:World}{ops:Array Oper}{o:Oper}{a:Act}{K:Act→World→Prop}{Qx:Exit→Act→World→Prop}{E:Prop}(hgd:o.guard=none)(s x:Operand)
  (ho:o.op=.call { callee:=.builtin .append,args:=#[s,x],argTypes:=#[53,53] })
  (v:Value) (n:Nat) (xs:List (Nat×Nat)) (hs:a.eval s=v) (hown:w.ownsRow W0.heap.size 64 2 v n (ext xs)) (hq:Q W0 w)
  (vx:Value) (m:Nat) (ys:List (Nat×Nat)) (hx:a.eval x=vx) (hl:Sl w vx m 2 (ext ys)) (hnm:n+m≤1000000000)
  (h:∀v' w',w'.ownsRow W0.heap.size 64 2 v' (n+m) (ext (xs++ys))→Q W0 w'→K (a.put o.dst v') w') :
  if Region.wanted o (yielded ops a.tmps)=true then Oper.wp Tryz.prog o a w K Qx else E:=by
 obtain⟨i0,hi,hz0,hz1,hz2⟩:=info_parts tinfoExt1
 have hw:Region.wanted o (yielded ops a.tmps)=true:=by simp[Region.wanted,hgd]
 rw[if_pos hw]
 refine wp_append_sl w s x 53 ho W0.heap.size 64 i0 (.agg #[.int .i64 0,.int .i64 0]) 2 16 Tryz.underlying53 hi hz0 hz1 hz2 rfl (by decide) v n (ext xs) hs hown vx m (ext ys) hx hl (ext_one' ys) (by unfold maxLen;omega) (by omega) hq.size ?_
 ·intro v' w' h2 h3 _
  exact h v' w' (by rw[ext_app'];exact h2) (grown_below hq hown h3 (Nat.le_refl _) hq.size)
theorem ext_lit(w:World)(x y:Nat):Sl (w.alloc (.cells #[.int .i64 (x:Nat),.int .i64 (y:Nat)] 64)) (.slice (some ⟨w.heap.size,0,none⟩) 1 1) 1 2 (ext [(x,y)]) :=
 Sl.lit w #[.int .i64 (x:Nat),.int .i64 (y:Nat)] 64 1 2 rfl
theorem SUsed_any(w:World)(F:Nat→Prop)(sb b:Nat)(σ:StL)(K:Nat)(h:StAt w F sb b σ K)(hn:StNum σ):
  Calls Tryz.prog 16 #[ptrV sb] w fun e w'=>∃v,e=.returned v∧w'.ownsRow w.heap.size 64 2 v (usedR σ.map1 (firstD σ.n) σ.n).length (ext (usedR σ.map1 (firstD σ.n) σ.n))∧Q w w':=by
 have hmx:=hn.max;have hml:=hn.map
 have hbl:=h.hblocks
 have hfs:∀W,Q w W→Calls Tryz.prog 19 #[ptrV sb] W fun e w'=>e=.returned (.int .i64 (firstD σ.n:Nat))∧W=w':=fun W q=>by
  obtain⟨FJ,FC,p,cb,tb,most,clock,ms,mb,m,ti,hg,_⟩:=h.keep q
  exact SFirst_any hg hmx
 have hru:=fun (W:World)=>BRuns_any σ.map1 (σ.n:Nat) W (by rw[hml];unfold partsN;omega) (by omega) (by omega)
 rw[firstN_n hn] at hru
 obtain⟨p,cb,tb,hbx⟩:=h.boxed
 obtain⟨c0,c1,c2,c3,c4,c5⟩:=Blk.c6 hbx
 have hud:usedR σ.map1 (firstD σ.n) σ.n=((runsTo σ.map1 σ.n++[(σ.n,0)]).foldl usedStep ([],firstD σ.n)).1:=rfl
 obtain⟨RES,hres⟩:∃RES,RES=((runsTo σ.map1 σ.n++[(σ.n,0)]).foldl usedStep ([],firstD σ.n)).1:=⟨_,rfl⟩
 rw[hud,←hres]
 have HRES:=Lib.hid hres
 clear hres
 have HBL:=Lib.hid hbl;have HFS:=Lib.hid hfs;have HRU:=Lib.hid hru
 have hf1:firstD σ.n≤4200:=by unfold firstD partsN;omega
 clear hbl hfs hru hbx hud h hn hml
 generalize σ.map1=m1 at *
 generalize firstD σ.n=lo at *
 generalize σ.n=n at *
 have hrl:(runsTo m1 n).length+1≤1000000000:=by have:=runsTo_length m1 n;omega
 have HRL:=Lib.hid hrl
 have KK:=Lib.hid (Q.refl w)
 clear hrl
 go_enter Tryz.func16,Tryz.ntmps16
 go_wp2_with fail
 refine(HFS.out _ (Q.refl w)).mono ?_
 rintro e w1 ⟨rfl,rfl⟩
 go_wp2_with fail
 go_region_law
  (first
   | (go_simp;go_at_call 46;with_reducible refine(HBL.out _ (by repeat (first|with_reducible exact KK.out|with_reducible apply Qs.dr|with_reducible apply Qs.al))).mono ?_;rintro e w5 ⟨rfl,rfl⟩)
   | (go_simp;go_at_call 51;with_reducible refine(HRU.out _).mono ?_;rintro e w6 ⟨v6,rfl,q6,o6⟩;have s':Q w w6:=Q.trans (by repeat (first|with_reducible exact KK.out|with_reducible apply Qs.dr|with_reducible apply Qs.al)) (Q.of q6);clear KK;have KK:=Lib.hid s';have c2':=cellQ s' c2;have O6:=Lib.hid (owns_low (base':=w.heap.size) o6 (Nat.le_refl _));clear s' q6 o6)
   | (refine ext_app w (by rfl) _ _ (by rfl) v6 (runsTo m1 n).length (runsTo m1 n) (by rfl) (ownsRow_below O6.out (Q.alloc _ _)) (KK.out.trans (Q.alloc _ _)) (.slice (some ⟨w6.heap.size,0,none⟩) 1 1) 1 [(n,0)] (by rfl) (ext_lit w6 n 0) HRL.out ?_;intro v7 w7 h7 q7;obtain⟨a7,cap7,rfl,-⟩:=owns_value h7;have H7:=Lib.hid h7;have Q7:=Lib.hid q7;clear h7 q7))
 all_goals
  go_simp
  have hrr:∀k (hk:k<(runsTo m1 n++[(n,0)]).length),(runsTo m1 n++[(n,0)])[k].1+(runsTo m1 n++[(n,0)])[k].2≤n:=fun k hk=>by
   have hm:=List.getElem_mem hk
   rcases List.mem_append.1 hm with hm|hm
   ·exact((runs_ok m1 n).1 _ hm).2.2.2.1
   ·rw[List.mem_singleton] at hm;rw[hm];exact Nat.le_refl _
  have hlen:(runsTo m1 n++[(n,0)]).length=(runsTo m1 n).length+1:=by simp
  have hrn:(runsTo m1 n).length≤n:=runsTo_length m1 n
  have hs7:=Sl.of_owns H7.out
  have hcell:∀k (hk:k<(runsTo m1 n++[(n,0)]).length),∃g off,a7=some ⟨g,off,none⟩∧w7.cell? ⟨g,off+k*2,none⟩=some (.int .i64 ((runsTo m1 n++[(n,0)])[k].1:Nat))∧w7.cell? ⟨g,off+k*2+1,none⟩=some (.int .i64 ((runsTo m1 n++[(n,0)])[k].2:Nat)):=fun k hk=>by
   obtain⟨_,a,cap,e,hc⟩:=hs7
   simp only[Value.slice.injEq] at e
   obtain⟨rfl,_,_⟩:=e
   obtain⟨g,off,e,hc⟩:=hc (by omega)
   have h1:=ext_at (runsTo m1 n++[(n,0)]) k hk
   exact⟨g,off,e,by have:=hc _ _ h1.1;rwa [Nat.mul_comm] at this,by have:=hc _ _ h1.2;rwa [Nat.mul_comm,←Nat.add_assoc] at this⟩
  obtain⟨i1,hi1,hy0,hy1,hy2⟩:=info_parts tinfoExt1
  have HRR:=Lib.hid hrr;have HCE:=Lib.hid hcell;have HLN:=Lib.hid hlen
  clear hrr hcell hs7 H7 c0 c1 c2 c3 c4 c5 c2' O6 KK HRL hlen
  generalize runsTo m1 n++[(n,0)]=RR at *
  generalize (runsTo m1 n).length=rl at *
  go_wp2_with fail
  go_loopw [3,4,22] (fun v at_ i wr=>∃(k:Nat) (st:List (Nat×Nat)×Nat),i=.int .i64 (k:Nat)∧k≤rl+1∧at_=.int .i64 (st.2:Nat)∧st.1.length≤k∧st.2≤4200∧Hid (wr.ownsRow w7.heap.size 64 2 v st.1.length (ext st.1))∧Hid ((RR.take k).foldl usedStep ([],lo)=st)∧Hid (Q w7 wr)) (fun _ _ i _=>rl+1-(intOf i).toNat)
  case atStart=>exact⟨0,([],lo),rfl,Nat.zero_le _,rfl,Nat.le_refl _,hf1,Lib.hid (World.ownsRow_nil _ _ _ _),Lib.hid rfl,Lib.hid (Q.refl _)⟩
  case round =>
   obtain⟨k,⟨acc,pos⟩,rfl,hk,rfl,hal,hpos,HOW,HST,HQ⟩:=hrel
   simp only at hal hpos HOW ⊢
   by_cases hlt:k<rl+1
   ·have hki:(k:Int)<(rl:Int)+1:=by omega
    have hkl:k<RR.length:=by rw[HLN.out];exact hlt
    obtain⟨g,off,rfl,x1,x2⟩:=HCE.out k hkl
    have y1:=cellQ HQ.out x1;have y2:=cellQ HQ.out x2
    have hle:=HRR.out k hkl
    have hst:(RR.take (k+1)).foldl usedStep ([],lo)=usedStep (acc,pos) RR[k]:=by
     rw[List.take_succ_eq_append_getElem hkl,List.foldl_append,HST.out];rfl
    generalize RR[k]=r at *
    obtain⟨a,c⟩:=r
    simp only at y1 y2 hle
    unfold usedStep at hst
    simp only at hst
    have HST2:=Lib.hid hst
    clear hst x1 x2 HST
    by_cases hgt:pos<a
    ·have e1:(pos:Int)<(a:Int):=by omega
     have hst:=HST2.out
     rw[if_pos hgt] at hst
     have HST3:=Lib.hid hst
     have hw:IntKind.i64.wrap ((a:Int)-(pos:Int))=(a:Int)-(pos:Int):=IntWalk.i64_in _ (by omega)
     have hw2:IntKind.i64.wrap ((a:Int)+(c:Int))=(a:Int)+(c:Int):=IntWalk.i64_in _ (by omega)
     have hc1:∀u∈#[Value.int .i64 (pos:Nat),Value.int .i64 ((a:Int)-(pos:Int))].toList,u.oneCell'=true:=by intro u hu;simp at hu;rcases hu with rfl|rfl<;>rfl
     have hc2:(acc.length+1)*16≤140737488355328:=by omega
     have HC3:=Lib.hid hc1;have HC4:=Lib.hid hc2
     have hb0:w7.heap.size≤(wr.alloc (.cells #[.int .i64 (a:Nat),.int .i64 (c:Nat)] 64)).heap.size:=by have:=HQ.out.size;simp;omega
     have how:=ownsRow_below HOW.out (Q.alloc wr (.cells #[.int .i64 (a:Nat),.int .i64 (c:Nat)] 64))
     have HO2:=Lib.hid how
     have HVB:=Lib.hid (fun kk hk=>(HOW.out.lt kk hk).2)
     have hq2:Q w7 (wr.alloc (.cells #[.int .i64 (a:Nat),.int .i64 (c:Nat)] 64)):=HQ.out.trans (Q.alloc _ _)
     have HQ2:=Lib.hid hq2
     have z0:(wr.alloc (.cells #[.int .i64 (a:Nat),.int .i64 (c:Nat)] 64)).cell? ⟨wr.heap.size,0,none⟩=some (.int .i64 (a:Nat)):=(Blk.new wr 64 #[.int .i64 (a:Nat),.int .i64 (c:Nat)]).cell 0 _ rfl
     have z1:(wr.alloc (.cells #[.int .i64 (a:Nat),.int .i64 (c:Nat)] 64)).cell? ⟨wr.heap.size,1,none⟩=some (.int .i64 (c:Nat)):=(Blk.new wr 64 #[.int .i64 (a:Nat),.int .i64 (c:Nat)]).cell 1 _ rfl
     have hz:(wr.alloc (.cells #[.int .i64 (a:Nat),.int .i64 (c:Nat)] 64)).heap.size=wr.heap.size+1:=by simp
     have HZ:=Lib.hid hz
     clear hc1 hc2 how hst HST2 hgt hq2 hz
     go_upto_region 7 with fail
     generalize wr.alloc (.cells #[.int .i64 (a:Nat),.int .i64 (c:Nat)] 64)=wx at *
     have hst':wx.heap.size≤wx.heap.size:=Nat.le_refl _
     go_wp2_with (at_builtin;refine wpList_app wx (by rfl) _ _ 53 (by rfl) w7.heap.size 64 _ i1 (.agg #[.int .i64 0,.int .i64 0]) 2 16 Tryz.underlying53 hi1 hy0 hy1 hy2 rfl (by decide) (by decide) _ _ _ (by rfl) HO2.out #[.int .i64 (pos:Nat),.int .i64 ((a:Int)-(pos:Int))] (by rfl) rfl HC3.out HC4.out hb0 ?_)
     intro g11 cap11 w11 hr11 hg11 ho11 hlt11 hlt11b
     have hq21:Q w7 w11:=grown_below HQ2.out HO2.out hg11 (Nat.le_refl _) hb0
     have hr11':w11.ownsRow w7.heap.size 64 2 (.slice (some ⟨g11,0,none⟩) (acc.length+1) cap11) (acc++[(pos,a-pos)]).length (ext (acc++[(pos,a-pos)])):=by
      rw[List.length_append,ext_app',show ext [(pos,a-pos)]=[.int .i64 (pos:Nat),.int .i64 ((a:Int)-(pos:Int))] by simp only[ext,List.flatMap_cons,List.flatMap_nil,List.append_nil];rw[show(((a-pos:Nat):Nat):Int)=(a:Int)-(pos:Int) by omega]];exact hr11
     have v0:w11.cell? ⟨wr.heap.size,0,none⟩=some (.int .i64 (a:Nat)):=by
      exact hg11.cell z0 (fun h=>by have:=HVB.out _ h.symm;simp at this)
     have v1:w11.cell? ⟨wr.heap.size,1,none⟩=some (.int .i64 (c:Nat)):=by
      exact hg11.cell z1 (fun h=>by have:=HVB.out _ h.symm;simp at this)
     have HQ11:=Lib.hid hq21;have HR11:=Lib.hid hr11'
     clear hr11 hg11 ho11 hlt11 hlt11b hr11' hq21
     go_wp2_with fail
     go_roundw
     case rel=>exact⟨k+1,(acc++[(pos,a-pos)],a+c),by go_num,by omega,by push_cast;rfl,by simp;omega,by simp only;omega,HR11,HST3,HQ11⟩
     case measure=>simp[intOf];omega
    ·have e1:¬(pos:Int)<(a:Int):=by omega
     have hst:=HST2.out
     rw[if_neg hgt] at hst
     have HST3:=Lib.hid hst
     have hw2:IntKind.i64.wrap ((a:Int)+(c:Int))=(a:Int)+(c:Int):=IntWalk.i64_in _ (by omega)
     have how:=ownsRow_below HOW.out (Q.alloc wr (.cells #[.int .i64 (a:Nat),.int .i64 (c:Nat)] 64))
     have HO2:=Lib.hid how
     have hq2:Q w7 (wr.alloc (.cells #[.int .i64 (a:Nat),.int .i64 (c:Nat)] 64)):=HQ.out.trans (Q.alloc _ _)
     have HQ2:=Lib.hid hq2
     clear how hst HST2 hgt hq2
     go_wp2_with fail
     go_roundw
     case rel=>exact⟨k+1,(acc,a+c),by go_num,by omega,by push_cast;rfl,by simp only;omega,by simp only;omega,HO2,HST3,HQ2⟩
     case measure=>simp[intOf];omega
   ·have hki:¬(k:Int)<(rl:Int)+1:=by omega
    obtain rfl:k=rl+1:=by omega
    have hst:=HST.out
    rw[List.take_of_length_le (by rw[HLN.out];exact Nat.le_refl _)] at hst
    have HST2:=Lib.hid hst
    have HOO:=Lib.hid (owns_low (base':=w.heap.size) HOW.out Q7.out.size)
    have HQQ:=Lib.hid (Q7.out.trans HQ.out)
    clear hst HST HOW HQ
    go_wp2_with fail
    go_ret
    rw[HRES.out,HST2.out]
    exact⟨_,rfl,HOO.out,HQQ.out⟩
theorem ssum_of(a b:Bytes)(h:a.length+b.length≤9223372036854775807)(W:World):(Op.stringOp .add ⟨a.toArray⟩ ⟨b.toArray⟩).run Tryz.prog W=.ok (strV (a++b)) W:=by
 rw[run_string_add_sum W _ _ (by simpa[ByteArray.size] using h),bytes_append]
theorem cnt_mono'(l:Bytes)(n k:Nat):cnt l n≤cnt l (n+k):=by
 induction k with
 | zero=>exact Nat.le_refl _
 | succ k ih =>
  refine Nat.le_trans ih ?_
  show cnt l (n+k)≤cnt l (n+k+1)
  rw[cnt];omega
def mapK(d:DevL)(k:Nat):Bytes:=((List.range k).map fun i=>d.get (63+i)).flatten
theorem mapK_succ(d:DevL)(k:Nat):mapK d (k+1)=mapK d k++d.get (63+k):=by
 unfold mapK;rw[List.range_succ,List.map_append,List.flatten_append];simp
theorem mapK_len(d:DevL)(k:Nat)(h:∀i,i<k→(d.get (63+i)).length=256):(mapK d k).length=256*k:=by
 induction k with
 | zero=>rfl
 | succ k ih=>rw[mapK_succ,List.length_append,ih (fun i hi=>h i (by omega)),h k (by omega)];omega
structure OpenOk (d:DevL):Prop where
 j0:(openJ d).2=0
 num:JNum (openJ d).1
 live:(openJ d).1.d.dead=false
 home:(openJ d).1.home=62
 big:128≤d.l.length
 ok:(openJ d).1.d.Ok
 title:(openJ d).1.d.get 62=titleL d.l.length
 low:cnt (mapD (openJ d).1.d) (firstD d.l.length)=0
 high:cnt (mapD (openJ d).1.d) (2048*partsN d.l.length)-cnt (mapD (openJ d).1.d) d.l.length=2048*partsN d.l.length-d.l.length
theorem SOpen_ok(w:World)(F:Nat→Prop)(b:Nat)(d:DevL)(most:Nat)(h:DevAt w F b d)(hF:∀k,F k→k<w.heap.size)(hd:d.Ok)(hp:d.dead=false→d.p.length≤800000)(hm:64≤most∧most≤1024)(ho:OpenOk d):
  Calls Tryz.prog 35 #[ptrV b,.int .i64 (most:Nat)] w fun e w'=>∃sb,e=.returned (.tuple #[ptrV sb,.int .i64 0])∧StAt w' (grow F w w') sb b ⟨(openJ d).1,mapD (openJ d).1.d,[],false,[]⟩ 0∧Turn F w w':=by
 have hjo:=JOpen_any w F b d h hF hd (by have:=ho.big;omega) hp
 have e1:¬(most:Int)<64:=by omega
 have e2:¬(1024:Int)<(most:Int):=by omega
 have hln:=openJ_len d
 have hmx:=hd.max
 obtain⟨o1,o2,o3,o4,o5,o6,o7,o8,o9⟩:=ho
 have hmapk:mapD (openJ d).1.d=mapK (openJ d).1.d (partsN d.l.length):=by unfold mapD mapK;rw[hln]
 have hgl:∀i,i<d.l.length→((openJ d).1.d.get i).length=256:=fun i hi=>DevL.get_len o6 i (by rw[hln];exact hi)
 have hcn:=fun (W:World) (p:Nat)=>CNew_any W p most (by omega) hm.2
 have hmm:=@run_makeMap Tryz.prog
 unfold OpenEnd at hjo
 generalize openJ d=oj at *
 obtain⟨j,jc⟩:=oj
 simp only at *
 subst o1
 have HJ:=Lib.hid hjo;have HCN:=Lib.hid hcn;have HM:=Lib.hid hm;have HF:=Lib.hid hF;have HMK:=Lib.hid hmapk;have HGL:=Lib.hid hgl
 clear hjo h hd hp hm hcn hF hmapk hgl
 go_enter Tryz.func35,Tryz.ntmps35
 go_wp2_with fail
 refine HJ.out.mono ?_
 rintro e w1 ⟨t1,hh⟩
 rcases hh with ⟨h0,p,rfl,hj1⟩|⟨h0,_⟩
 ·have hc1:=HCN.out w1 p
  have HC1:=Lib.hid hc1;have HJ1:=Lib.hid hj1;have T1:=Lib.hid t1
  clear hc1 hj1 t1 h0
  go_wp2_with fail
  refine HC1.out.mono ?_
  rintro e w2 ⟨cb,rfl,hca,q2⟩
  have HCA:=Lib.hid hca;have Q2:=Lib.hid q2
  clear hca q2
  go_upto_region 8 with fail
  clear hmm
  generalize hw3:(w2.alloc (Obj.map #[] 0)).alloc (Obj.cells #[ptrV p,ptrV cb,.string ⟨#[]⟩,.string ⟨#[]⟩,.bool false,.map (some w2.heap.size)] 86)=w3
  have hb3:Blk w3 (w2.heap.size+1) 86 (scells p cb w2.heap.size ⟨j,[],[],false,[]⟩):=by
   rw[←hw3]
   have:=Blk.new (w2.alloc (Obj.map #[] 0)) 86 (scells p cb w2.heap.size ⟨j,[],[],false,[]⟩)
   rwa [World.size_alloc] at this
  have hm3:MapI w3 w2.heap.size []:=by
   rw[←hw3]
   exact(MapI.made w2).same ((Q.alloc (w2.alloc (Obj.map #[] 0)) _).block _ (by simp))
  have q23:Q w2 w3:=by rw[←hw3];exact(Q.alloc _ _).trans (Q.alloc _ _)
  have hz3:w3.heap.size=w2.heap.size+2:=by rw[←hw3];simp
  clear hw3
  have hjw:=fun (W:World) (t:Turn (fun k=>k=w2.heap.size+1) w3 W)=>(HJ1.out.keep (Q2.out.trans q23)).beside t (fun k hk e=>by have h1:=HJ1.out.lt k hk;have h2:=Q2.out.size;omega)
  obtain⟨c0,c1,c2,c3,c4,c5⟩:=Blk.c6 hb3
  have f2:=hb3.frozen 2
  have hj3:=hjw w3 (Turn.refl _ _)
  have k0:=hj3.box.c8.1
  have hpar:partsN d.l.length≤2∧1≤partsN d.l.length∧d.l.length≤2048*partsN d.l.length∧63+partsN d.l.length<d.l.length:=by unfold partsN;omega
  have hbk:=Blocks_any w3 _ b j.d hj3.dev
  rw[hln] at hbk
  have hho:=JHome_any w3 p b j hj3.box o2.log2
  rw[o4] at hho
  have hfi:=fun (W:World)=>First_n d.l.length W (by omega)
  have hpa:=fun (W:World)=>Parts_any d.l.length W (by omega)
  have hti:=fun (W:World)=>Title_any d.l.length W (by omega)
  have hrd:=fun (W:World) (t:Turn (fun k=>k=w2.heap.size+1) w3 W) (i:Nat) (hi:i<d.l.length)=>(show Calls Tryz.prog 84 #[ptrV b,.int .i64 (i:Nat)] W fun e w'=>e=.returned (.tuple #[strV (j.d.get i),.int .i64 0])∧Q W w' from by
   have hr:=Read_any W _ b j.d (i:Nat) (hjw W t).dev (by rw[hln];exact hmx) (fun _=>by have:=o2.plen o3;omega)
   have e:j.d.read (i:Nat)=(j.d.get i,0):=by unfold DevL.read;rw[DevL.chk_in o3 i (by rw[hln];exact hi),if_pos rfl];rfl
   rw[e] at hr
   exact hr)
  have hr62:=hrd w3 (Turn.refl _ _) 62 (by omega)
  rw[o7] at hr62
  have HR62:=Lib.hid hr62
  clear hr62
  have hml:(mapK j.d (partsN d.l.length)).length=256*partsN d.l.length:=mapK_len _ _ (fun i hi=>HGL.out _ (by omega))
  have hfr:=fun (W:World) (i:Nat) (hi:i≤2048*partsN d.l.length)=>BFree_any (mapD j.d) (i:Nat) W (by rw[HMK.out,hml];omega) (by omega) (by omega)
  have hfn:∀i,i≤2048*partsN d.l.length→firstN (mapD j.d) (i:Nat)=i:=fun i hi=>by unfold firstN;rw[HMK.out,hml];omega
  have hfr1:=fun (W:World)=>hfr W (2048*partsN d.l.length) (Nat.le_refl _)
  have hfr2:=fun (W:World)=>hfr W d.l.length hpar.2.2.1
  have hfr3:=fun (W:World)=>hfr W (firstD d.l.length) (by unfold firstD;omega)
  rw[hfn _ (Nat.le_refl _)] at hfr1
  rw[hfn _ hpar.2.2.1] at hfr2
  rw[hfn _ (by unfold firstD;omega),o8] at hfr3
  have hfd:firstD d.l.length<d.l.length:=by unfold firstD;omega
  have hcast:((2048*partsN d.l.length:Nat):Int)=2048*(partsN d.l.length:Int):=by push_cast;rfl
  rw[hcast] at hfr1
  have hmono:=cnt_mono' (mapD j.d) d.l.length (2048*partsN d.l.length-d.l.length)
  rw[show d.l.length+(2048*partsN d.l.length-d.l.length)=2048*partsN d.l.length by omega] at hmono
  have h9:(cnt (mapD j.d) (2048*partsN d.l.length):Int)-(cnt (mapD j.d) d.l.length:Int)=2048*(partsN d.l.length:Int)-(d.l.length:Int):=by omega
  have hcle:cnt (mapD j.d) d.l.length≤4096:=Nat.le_trans (cnt_le _ _) hmx
  have hcle2:cnt (mapD j.d) (2048*partsN d.l.length)≤4096:=Nat.le_trans (cnt_le _ _) (by omega)
  have HB3:=Lib.hid hb3;have HM3:=Lib.hid hm3;have Q23:=Lib.hid q23;have HZ3:=Lib.hid hz3;have HJW:=Lib.hid hjw;have HBK:=Lib.hid hbk;have HHO:=Lib.hid hho;have HFI:=Lib.hid hfi;have HPA:=Lib.hid hpa;have HTI:=Lib.hid hti;have HRD:=Lib.hid hrd;have HML:=Lib.hid hml;have HFR1:=Lib.hid hfr1;have HFR2:=Lib.hid hfr2;have HFR3:=Lib.hid hfr3;have O7:=Lib.hid o7;have O9:=Lib.hid h9;have HFD:=Lib.hid hfd
  have hnb:¬(d.l.length:Int)<(firstD d.l.length:Int):=by omega
  clear hb3 hm3 q23 hjw hbk hho hfi hpa hti hrd hml hfr hfn hfr1 hfr2 hfr3 o8 o7 o9 hj3 hcast hmono h9
  go_wp2_with fail
  refine HBK.out.mono ?_
  rintro e w4 ⟨rfl,rfl⟩
  go_wp2_with fail
  refine HHO.out.mono ?_
  rintro e w4 ⟨rfl,rfl⟩
  go_wp2_with fail
  refine(HFI.out _).mono ?_
  rintro e w4 ⟨rfl,rfl⟩
  go_wp2_with fail
  refine HR62.out.mono ?_
  rintro e w4 ⟨rfl,q4⟩
  have Q4:=Lib.hid q4
  clear q4 c0 c1 c2 c3 c4 c5 f2 k0
  go_wp2_with fail
  refine(HPA.out _).mono ?_
  rintro e w5 ⟨rfl,rfl⟩
  have hpn2:=hpar.1
  have hgl2:∀k,k<partsN d.l.length→(j.d.get (63+k)).length=256∧63+k<d.l.length:=fun k hk=>⟨HGL.out _ (by have:=hpar.2.2.2;omega),by have:=hpar.2.2.2;omega⟩
  have HGL2:=Lib.hid hgl2
  have hall:2048*partsN d.l.length≤4096:=by omega
  have hdl:d.l.length≤2048*partsN d.l.length:=hpar.2.2.1
  clear hgl2 hpar
  generalize hpnE:partsN d.l.length=pn at *
  have HPN:=Lib.hid hpnE
  clear hpnE
  generalize hnE:d.l.length=n at *
  have HNE:=Lib.hid hnE
  clear hnE
  go_wp2_with fail
  go_loopw [66] (fun v wr=>∃k:Nat,v=.int .i64 (k:Nat)∧k≤pn∧Hid (Turn (fun x=>x=w2.heap.size+1) w3 wr)∧Hid (Blk wr (w2.heap.size+1) 86 (scells p cb w2.heap.size ⟨j,mapK j.d k,[],false,[]⟩))) (fun v _=>pn-(intOf v).toNat)
  case atStart=>exact⟨0,rfl,Nat.zero_le _,Turn.of_q Q4.out,HB3.out.stays Q4.out⟩
  case round =>
   obtain⟨k,rfl,hk,HT,HB⟩:=hrel
   obtain⟨c0,c1,c2,c3,c4,c5⟩:=Blk.c6 HB.out
   have f2:=HB.out.frozen 2
   have hjb:=(HJW.out wr HT.out).box
   have k0:=hjb.c8.1
   by_cases hlt:k<pn
   ·have hki:(k:Int)<(pn:Int):=by omega
    have hr:=HRD.out wr HT.out (63+k) (HGL2.out k hlt).2
    have hcast:(((63+k:Nat):Nat):Int)=63+(k:Int):=by push_cast;rfl
    rw[hcast] at hr
    have hml2:(mapK j.d k).length=256*k:=mapK_len _ _ (fun i hi=>(HGL2.out i (by omega)).1)
    have hsum:=ssum_of (mapK j.d k) (j.d.get (63+k)) (by rw[hml2,(HGL2.out k hlt).1];omega)
    rw[←mapK_succ] at hsum
    have HR:=Lib.hid hr
    clear hr hcast hml2 hjb
    go_wp2_with fail
    refine HR.out.mono ?_
    rintro e w6 ⟨rfl,q6⟩
    have hb6:=HB.out.stays q6
    have d2:=hb6.cell 2 (strV (mapK j.d k)) rfl
    have g2:=hb6.frozen 2
    have t6:Turn (fun x=>x=w2.heap.size+1) w3 (w6.setCell ⟨w2.heap.size+1,2,none⟩ (strV (mapK j.d (k+1)))):=Turn.setCell (a:=⟨w2.heap.size+1,2,none⟩) (HT.out.trans (Turn.of_q q6)) (.inl rfl) _
    have hb7:Blk (w6.setCell ⟨w2.heap.size+1,2,none⟩ (strV (mapK j.d (k+1)))) (w2.heap.size+1) 86 (scells p cb w2.heap.size ⟨j,mapK j.d (k+1),[],false,[]⟩):=hb6.set 2 _
    have HT6:=Lib.hid t6;have HB7:=Lib.hid hb7
    clear q6 hb6 t6 hb7
    go_wp2_with fail
    go_roundw
    case rel=>exact⟨k+1,by go_num,by omega,HT6,HB7⟩
    case measure=>simp[intOf];omega
   ·have hki:¬(k:Int)<(pn:Int):=by omega
    obtain rfl:k=pn:=by omega
    rw[←HMK.out] at c2 HB
    have KK:=Lib.hid (Q.refl wr)
    clear f2 k0 hjb
    go_wp2_with fail
    refine(HPA.out _).mono ?_
    rintro e w5 ⟨rfl,rfl⟩
    go_wp2_with fail
    generalize hx1:cnt (mapD j.d) (2048*k)=x1 at *
    generalize hx2:cnt (mapD j.d) n=x2 at *
    have HX:=Lib.hid (And.intro hx1 hx2)
    clear hx1 hx2
    go_region_held3 (fun w'=>w'.cell? ⟨w2.heap.size+1,2,none⟩=some (strV (mapD j.d)))
     (first|exact c2|exact cellQ (by repeat (first|with_reducible exact KK.out|with_reducible exact Q.refl _|with_reducible apply Qs.dr|with_reducible apply Qs.al)) c2)
     (first
      | (go_at_call 45;with_reducible refine(HFR1.out _).mono ?_;rintro e w6 ⟨rfl,q6⟩;have s':Q wr w6:=Q.trans (by repeat (first|with_reducible exact KK.out|with_reducible apply Qs.dr|with_reducible apply Qs.al)) (Q.of q6);clear KK;have KK:=Lib.hid s';clear s' q6)
      | (go_at_call 45;with_reducible refine(HFR2.out _).mono ?_;rintro e w7 ⟨rfl,q7⟩;have s':Q wr w7:=Q.trans (by repeat (first|with_reducible exact KK.out|with_reducible apply Qs.dr|with_reducible apply Qs.al)) (Q.of q7);clear KK;have KK:=Lib.hid s';clear s' q7))
    all_goals
     have hqw:Q wr w7:=by repeat (first|with_reducible exact KK.out|with_reducible apply Qs.dr|with_reducible apply Qs.al)
     have HQW:=Lib.hid hqw
     have c2':=cellQ hqw c2
     clear KK hqw c2 c0 c1 c3 c4 c5
     have KK:=Lib.hid (Q.refl w7)
     have hw1:IntKind.i64.wrap ((x1:Int)-(x2:Int))=2048*(k:Int)-(n:Int):=by rw[IntWalk.i64_in _ (by omega)];exact O9.out
     have hw2:IntKind.i64.wrap (2048*(k:Int)-(n:Int))=2048*(k:Int)-(n:Int):=IntWalk.i64_in _ (by omega)
     go_wp2_with fail
     rw[hw1]
     clear hw1
     go_region_held3 (fun w'=>w'.cell? ⟨w2.heap.size+1,2,none⟩=some (strV (mapD j.d)))
      (first|exact c2'|exact cellQ (by repeat (first|with_reducible exact KK.out|with_reducible exact Q.refl _|with_reducible apply Qs.dr|with_reducible apply Qs.al)) c2')
      (first
       | (go_at_call 86;with_reducible refine(HTI.out _).mono ?_;rintro e w8 ⟨rfl,q8⟩;have s':Q w7 w8:=Q.trans (by repeat (first|with_reducible exact KK.out|with_reducible apply Qs.dr|with_reducible apply Qs.al)) q8;clear KK;have KK:=Lib.hid s';clear s' q8)
       | (go_at_call 56;with_reducible refine(HFI.out _).mono ?_;rintro e w9 ⟨rfl,rfl⟩)
       | (go_at_call 45;with_reducible refine(HFR3.out _).mono ?_;rintro e w10 ⟨rfl,q10⟩;have s':Q w7 w10:=Q.trans (by repeat (first|with_reducible exact KK.out|with_reducible apply Qs.dr|with_reducible apply Qs.al)) (Q.of q10);clear KK;have KK:=Lib.hid s';clear s' q10))
     all_goals
      have hq10:Q w7 w10:=by repeat (first|with_reducible exact KK.out|with_reducible apply Qs.dr|with_reducible apply Qs.al)
      have ht10:Turn (fun x=>x=w2.heap.size+1) w3 w10:=HT.out.trans (Turn.of_q (HQW.out.trans hq10))
      have hqe:=HQW.out.trans hq10
      have hz1:=T1.out.size
      have hz2:=Q2.out.size
      have hst:StAt w10 (grow F w w10) (w2.heap.size+1) b ⟨j,mapD j.d,[],false,[]⟩ 0:=by
       refine⟨grow F w w1,fun x=>w1.heap.size≤x∧x<w2.heap.size,p,cb,w2.heap.size,most,0,0,w1.heap.size,[],[],⟨HB.out.stays hqe,HM3.out.same (ht10.block _ (by rw[hz3];omega) (by omega)),HJW.out w10 ht10,(HCA.out.keep Q23.out).beside ht10 (fun x hx e=>by omega),fun x hx hc=>?_,⟨fun hx=>by have:=HJ1.out.lt _ hx;omega,fun hx=>by omega⟩,⟨fun hx=>by have:=HJ1.out.lt _ hx;omega,fun hx=>by omega⟩,fun _=>CacOk.empty _ _ _ HM.out,fun x=>Iff.rfl,fun x hx=>by simp at hx⟩,fun x hx=>?_,fun x hx=>?_,Nat.le_refl _⟩
       ·have:=HJ1.out.lt x hx;omega
       ·have hz:=ht10.size
        rcases hx with hx|hx|hx|hx
        ·exact hx.elim .inl (fun hx=>.inr ⟨hx.1,by omega⟩)
        ·exact .inr ⟨by omega,by omega⟩
        ·exact .inr ⟨by omega,by omega⟩
        ·exact .inr ⟨by omega,by omega⟩
       ·have hz:=ht10.size
        exact hx.elim (fun hx=>by have:=HF.out x hx;omega) (fun hx=>hx.2)
      have htt:Turn F w w10:=(T1.out.q (Q2.out.trans Q23.out)).step (ht10.mono (fun x hx=>.inr ⟨by omega,by omega⟩))
      have HST:=Lib.hid hst;have HTT:=Lib.hid htt
      clear hst htt ht10 hq10 hqe KK
      go_wp2_with fail
      go_ret2
      exact⟨_,rfl,HST.out,HTT.out⟩
 ·exact absurd rfl h0
theorem makeL_parts(n:Nat)(hm:n≤4096):makeL (2048*(partsN n:Int))=if 1≤partsN n then zerosL (256*partsN n) else []:=by
 have hp:partsN n≤2:=by unfold partsN;omega
 unfold makeL zerosL
 by_cases h:1≤partsN n
 ·rw[if_pos (by omega),if_pos h]
  congr 1
  omega
 ·rw[if_neg (by omega),if_neg h]
theorem own_lit(w:World)(e:TypeId)(size:Nat)(cs:Array Value)(h:cs.size=size)(hs:size≤1000):(w.alloc (.cells cs e)).ownsRow w.heap.size e size (.slice (some ⟨w.heap.size,0,none⟩) 1 1) 1 cs.toList :=
 ⟨by simp[h],.inr ⟨w.heap.size,1,cs,rfl,Nat.le_refl _,heap_alloc_new _ _,by simp[h],by unfold maxLen;omega,by simpa using h,by simpa using List.take_of_length_le (l:=cs.toList) (i:=size) (by simp[h])⟩⟩
def formatK(n k:Nat):List WrL:=(62,titleL n)::(List.range k).map fun i=>(63+i,partL (bits0 n) i)
theorem formatK_succ(n k:Nat):formatK n (k+1)=formatK n k++[(63+k,partL (bits0 n) k)]:=by
 unfold formatK;rw[List.range_succ,List.map_append,List.cons_append];rfl
theorem formatK_len(n k:Nat):(formatK n k).length=k+1:=by simp[formatK]
theorem SFormat_new(w:World)(F:Nat→Prop)(b n:Nat)(h:DevAt w F b (DevL.new n))(hF:∀k,F k→k<w.heap.size)(h1:128≤n)(h2:n≤4096):
  Calls Tryz.prog 55 #[ptrV b] w fun e w'=>e=.returned (.int .i64 0)∧DevAt w' (grow F w w') b (formatS (DevL.new n)).1∧Turn F w w':=by
 obtain⟨a,hlj,hp1,hok1,o1,o2,hol,hof⟩:=format_mid n h1 h2
 have hl:(DevL.new n).l.length=n:=List.length_replicate
 have hok:=DevL.new_ok n (by omega) h2
 have hcode:=(format_run n h1 h2).1
 have hfs:formatS (DevL.new n)=(((openJ (formatJ (DevL.new n) 60).1).1.commit (formatT n)).1.d,((openJ (formatJ (DevL.new n) 60).1).1.commit (formatT n)).2):=by
  unfold formatS
  rw[if_neg (by rw[hl];omega),if_neg (by rw[a];simp),if_neg (by rw[o1];simp),hl]
 rw[hfs] at hcode
 rw[hfs]
 have hbl:=Blocks_any w F b (DevL.new n) h
 rw[hl] at hbl
 have hjf:=JFormat_any w F b (DevL.new n) 60 h hF hok (fun _=>by simp[DevL.new]) (by decide) (by rw[hl];omega)
 rw[a] at hjf
 generalize formatJ (DevL.new n) 60=fj at *
 obtain⟨d1,c1⟩:=fj
 simp only at hlj hp1 hok1 o1 o2 hol hof hjf hcode ⊢
 have hjo:=fun (W:World) (G:Nat→Prop) (hW:DevAt W G b d1) (hG:∀k,G k→k<W.heap.size)=>JOpen_any W G b d1 hW hG hok1 (by omega) (fun _=>by rw[hp1];simp)
 unfold OpenEnd at hjo
 have jn:=o2.num (by decide) (by decide)
 have ju:(openJ d1).1.used≤(openJ d1).1.s.log:=by have:=o2.hrec.hchain.used;rw[o2.hused];omega
 have jh:(openJ d1).1.home=62:=by unfold JL.home;rw[o2.hlog]
 generalize openJ d1=oj at *
 obtain⟨j,c2⟩:=oj
 simp only at o1 o2 hol hof jn ju jh hjo hcode ⊢
 subst o1
 obtain⟨t1,t2,t3,t4⟩:=formatT_map n h1 h2 (fun _=>noughtsL)
 have hpar:partsN n≤2∧1≤partsN n∧63+partsN n<n:=by unfold partsN;omega
 have hmk:=fun (W:World)=>make_any (2048*(partsN n:Int)) W
 rw[makeL_parts n h2,if_pos hpar.2.1] at hmk
 have hfi:=fun (W:World)=>First_n n W (by omega)
 have hfd:firstD n=63+partsN n:=rfl
 have hset:=fun (W:World)=>set_ok (zerosL (256*partsN n)) 0 (firstD n) true W (by simp[zerosL];omega) (by simp[zerosL];omega)
 have hb0:setTo (zerosL (256*partsN n)) 0 true (firstD n)=bits0 n:=rfl
 rw[hb0] at hset
 have hbl2:(bits0 n).length=256*partsN n:=(bits0_good n h1 h2).len
 have hpa:=fun (W:World)=>Parts_any n W (by omega)
 have hti:=fun (W:World)=>Title_any n W (by omega)
 have hprt:=fun (W:World) (i:Nat) (hi:i<partsN n)=>Part_any (bits0 n) i W (by rw[hbl2];omega) (by omega)
 have hft:formatT n=formatK n (partsN n):=rfl
 have hjc:=fun (W:World) (G:Nat→Prop) (p:Nat) (lv:Value) (hj:JrnAt W G p b j) (hl:SlO W G lv (formatT n).length 2 (wrVs (formatT n)))=>JCommit_any W G p b j lv (formatT n) hj jn ⟨by simp[formatT],by omega,fun w hw=>by have:=t3 w hw;exact⟨by omega,this.2.2⟩⟩ (fun w hw=>by have:=t3 w hw;rw[jh,hol];exact⟨this.1,this.2.1⟩) ⟨hl,fun w hw=>by have:=t3 w hw;exact⟨by omega,by omega⟩⟩ ju
 generalize hcmE:j.commit (formatT n)=cm at *
 obtain⟨j2,c3⟩:=cm
 simp only at hcode hjc ⊢
 subst hcode
 rw[hft] at hjc
 obtain⟨i1,hi1,hy0,hy1,hy2⟩:=info_parts tinfoWr
 have HBL:=Lib.hid hbl;have HJF:=Lib.hid hjf;have HJO:=Lib.hid hjo;have HMK:=Lib.hid hmk;have HFI:=Lib.hid hfi;have HSET:=Lib.hid hset;have HPA:=Lib.hid hpa;have HTI:=Lib.hid hti;have HPR:=Lib.hid hprt;have HJC:=Lib.hid hjc;have HF:=Lib.hid hF
 have hpn2:=hpar.1
 have hnb:¬(n:Int)<128:=by omega
 clear hbl hjf hjo hmk hfi hset hpa hti hprt hjc hF h hft hcmE t1 t2 t3 t4 hpar jn ju jh o2 hof hol hok1 hp1 hlj hfs hok hl hfd hb0 hbl2 a
 go_enter Tryz.func55,Tryz.ntmps55
 go_wp2_with fail
 refine HBL.out.mono ?_
 rintro e w1 ⟨rfl,rfl⟩
 go_wp2_with fail
 refine HJF.out.mono ?_
 rintro e w1 ⟨rfl,hd1,t1⟩
 have hjo:=HJO.out w1 _ hd1 (fun k hk=>hk.elim (fun hk=>Nat.lt_of_lt_of_le (HF.out k hk) t1.size) (fun hk=>hk.2))
 have HO:=Lib.hid hjo;have T1:=Lib.hid t1
 clear hjo hd1 t1
 go_wp2_with fail
 refine HO.out.mono ?_
 rintro e w2 ⟨t2,⟨_,p,rfl,hj2⟩|⟨h0,_⟩⟩
 ·have T2:=Lib.hid t2;have HJ2:=Lib.hid hj2
  clear t2 hj2
  go_wp2_with fail
  refine(HPA.out _).mono ?_
  rintro e w3 ⟨rfl,rfl⟩
  go_wp2_with fail
  refine(HMK.out _).mono ?_
  rintro e w3 ⟨rfl,q3⟩
  have Q3:=Lib.hid (show Q w2 w3 from q3)
  clear q3
  go_wp2_with fail
  refine(HFI.out _).mono ?_
  rintro e w4 ⟨rfl,rfl⟩
  go_wp2_with fail
  refine(HSET.out _).mono ?_
  rintro e w4 ⟨rfl,q4⟩
  have Q4:=Lib.hid (Q3.out.trans (Q.of q4))
  clear q4
  go_wp2_with fail
  refine(HTI.out _).mono ?_
  rintro e w5 ⟨rfl,q5⟩
  have Q5:=Lib.hid (Q4.out.trans q5)
  clear q5
  go_upto_region 12 with fail
  have hr0:=own_lit w5 102 2 #[.int .i64 62,strV (titleL n)] rfl (by decide)
  have q6:Q w5 (w5.alloc (.cells #[.int .i64 62,strV (titleL n)] 102)):=Q.alloc _ _
  have HR0:=Lib.hid hr0;have Q6:=Lib.hid q6
  clear hr0 q6
  generalize w5.alloc (.cells #[.int .i64 62,strV (titleL n)] 102)=w6 at *
  go_wp2_with fail
  refine(HPA.out _).mono ?_
  rintro e w7 ⟨rfl,rfl⟩
  generalize partsN n=pn at *
  go_wp2_with fail
  go_loopw [9,44] (fun v i wr=>∃k:Nat,i=.int .i64 (k:Nat)∧k≤pn∧Hid (wr.ownsRow w5.heap.size 102 2 v (formatK n k).length (wrVs (formatK n k)))∧Hid (Q w5 wr)) (fun _ i _=>pn-(intOf i).toNat)
  case atStart=>exact⟨0,rfl,Nat.zero_le _,HR0,Q6⟩
  case round =>
   obtain⟨k,rfl,hk,HOW,HQ⟩:=hrel
   by_cases hlt:k<pn
   ·have hki:(k:Int)<(pn:Int):=by omega
    have hst:=formatK_succ n k
    have hfl:=formatK_len n k
    have HST:=Lib.hid hst
    clear hst
    generalize formatK n k=acc at *
    have hc1:∀u∈#[Value.int .i64 (63+(k:Int)),strV (partL (bits0 n) k)].toList,u.oneCell'=true:=by intro u hu;simp at hu;rcases hu with rfl|rfl<;>rfl
    have hc2:(acc.length+1)*24≤140737488355328:=by omega
    have HC3:=Lib.hid hc1;have HC4:=Lib.hid hc2
    have hb0:w5.heap.size≤wr.heap.size:=HQ.out.size
    clear hc1 hc2 hfl
    go_wp2_with fail
    refine(HPR.out _ k hlt).mono ?_
    rintro e w8 ⟨rfl,rfl⟩
    go_wp2_with (at_builtin;refine wpList_app wr (by rfl) _ _ 49 (by rfl) w5.heap.size 102 _ i1 (.agg #[.int .i64 0,strV []]) 2 24 Tryz.underlying49 hi1 hy0 hy1 hy2 rfl (by decide) (by decide) _ _ _ (by rfl) HOW.out #[.int .i64 (63+(k:Int)),strV (partL (bits0 n) k)] (by rfl) rfl HC3.out HC4.out hb0 ?_)
    intro g11 cap11 w11 hr11 hg11 ho11 hlt11 hlt11b
    have hq21:Q w5 w11:=grown_below HQ.out HOW.out hg11 (Nat.le_refl _) hb0
    have hr11':w11.ownsRow w5.heap.size 102 2 (.slice (some ⟨g11,0,none⟩) (acc.length+1) cap11) (formatK n (k+1)).length (wrVs (formatK n (k+1))):=by
     rw[HST.out,List.length_append,wrVs_append,show wrVs [(63+k,partL (bits0 n) k)]=[.int .i64 (63+(k:Int)),strV (partL (bits0 n) k)] by simp[wrVs,encW]];exact hr11
    have HQ11:=Lib.hid hq21;have HR11:=Lib.hid hr11'
    clear hr11 hg11 ho11 hlt11 hlt11b hr11' hq21
    go_wp2_with fail
    go_roundw
    case rel=>exact⟨k+1,by go_num,by omega,HR11,HQ11⟩
    case measure=>simp[intOf];omega
   ·have hki:¬(k:Int)<(pn:Int):=by omega
    obtain rfl:k=pn:=by omega
    have hq:Q w2 wr:=Q5.out.trans HQ.out
    have hjc:=HJC.out wr _ p _ (HJ2.out.keep hq) (SlO.owned HOW.out (fun g hg e=>by have:=HJ2.out.lt g e;have:=Q5.out.size;omega))
    have HJ:=Lib.hid hjc;have HQW:=Lib.hid hq
    clear hjc hq
    go_wp2_with fail
    refine HJ.out.mono ?_
    rintro e w9 ⟨rfl,h9,t9⟩
    have hz1:=T1.out.size;have hz2:=T2.out.size;have hzq:=HQW.out.size
    have hz9:=t9.size
    have tt:Turn F w w9:=(T1.out.step T2.out).step (((Turn.of_q HQW.out).trans (t9.mono (own':=grow (grow F w w1) w1 w2) (fun k hk=>hk))).mono (fun k hk=>grow_trans hz1 hz2 hk))
    have hd9:DevAt w9 (grow F w w9) b j2.d:=h9.dev.mono (fun k hk=>by
     rcases hk with (hk|hk)|hk
     ·exact hk.elim .inl (fun hk=>.inr ⟨hk.1,by omega⟩)
     ·exact .inr ⟨by omega,by omega⟩
     ·exact .inr ⟨by omega,hk.2⟩)
    have HT:=Lib.hid tt;have HD:=Lib.hid hd9
    clear tt hd9 h9 t9
    go_wp2_with fail
    go_ret
    exact⟨rfl,HD.out,HT.out⟩
 ·exact absurd rfl h0
end
end Go.Proofs.YthcpkgfieoneeaaGreatDoor
