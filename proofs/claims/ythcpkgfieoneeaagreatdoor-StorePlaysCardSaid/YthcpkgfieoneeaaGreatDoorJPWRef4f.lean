/- Joined texts of one proof: what is needed of WRef4f, WRef4g, WJrnI. -/
import Derived.Test.YthcpkgfieoneeaaGreatDoorJPWJrnG
import Derived.Test.YthcpkgfieoneeaaGreatDoorJPWFrmD
import Derived.Test.YthcpkgfieoneeaaGreatDoorJPWJrnJ
import Derived.BigQuiet
import Derived.Test.YthcpkgfieoneeaaGreatDoorJPWJrnF
set_option linter.unusedSimpArgs false
set_option linter.unusedVariables false
set_option linter.unnecessarySimpa false
set_option maxRecDepth 100000
set_option maxHeartbeats 16000000
namespace Go.Proofs.YthcpkgfieoneeaaGreatDoor
section
open Go.RowKit
theorem SlO.lt{w w':World}{F:Nat→Prop}{base:Nat}{e:TypeId}{size:Nat}{v:Value}{n:Nat}{xs:List Value}(h:w.ownsRow base e size v n xs)(t:Turn F w w')(hF:∀k,F k→k<base):SlO w' (grow F w w') v n size xs:=by
 have h2:SlO w F v n size xs:=by
  refine⟨Sl.of_owns h,fun hn=>?_⟩
  rcases h.2 with ⟨_,h2⟩|⟨g,cap,cur,rfl,hb2,hg,rest⟩
  ·omega
  ·exact⟨g,0,⟨cap,rfl⟩,(Array.getElem?_eq_some_iff.1 hg).1,fun e=>by have:=hF g e;omega⟩
 exact h2.keep t
theorem logR_bad(j:JL)(ws:List WrL)(h:(j.logR ws).2≠0):j.com ws=({ j with d:=(j.logR ws).1 },(j.logR ws).2):=by
 unfold JL.logR at h ⊢
 unfold JL.com
 by_cases h1:(j.com1 ws).2≠0
 ·rw[if_pos h1,if_pos h1]
 ·rw[if_neg h1] at h
  rw[if_neg h1,if_neg h1,if_pos h]
theorem logR_good(j:JL)(ws:List WrL)(h:(j.logR ws).2=0):j.logR ws=j.com2 ws∧j.com ws=(({ j with d:=((j.logR ws).1.writes ws).1 }:JL).advance ws.length,((j.logR ws).1.writes ws).2):=by
 unfold JL.logR at h ⊢
 unfold JL.com JL.com3
 by_cases h1:(j.com1 ws).2≠0
 ·rw[if_pos h1] at h;exact absurd h h1
 ·rw[if_neg h1] at h
  rw[if_neg h1,if_neg h1,if_neg (by rw[h];simp)]
  exact⟨rfl,rfl⟩
theorem logR_ok{j:JL}(hn:JNum j)(ws:List WrL):(j.logR ws).1.Ok∧((j.logR ws).2=0→(j.logR ws).1.p=[]):=by
 have h1:(j.com1 ws).1.Ok:=DevL.lays_ok hn.ok _
 have h2:(j.com2 ws).1.Ok:=DevL.lays_ok h1 _
 unfold JL.logR
 split
 ·rename_i h;exact⟨h1,fun e=>absurd e h⟩
 ·exact⟨h2,fun e=>lays_flushed e⟩
theorem RCommit_any(w:World)(F:Nat→Prop)(p b:Nat)(j:JL)(lv:Value)(ws:List WrL)(h:RJrnAt w F p b j)(hn:JNum j)(hw:WrOk ws)(hh:∀x∈ws,j.home≤x.1∧x.1<j.d.l.length)(hl:SlO w F lv ws.length 2 (wrVs ws))(hu:j.used≤j.s.log):
  Calls Tryz.prog 78 #[ptrV p,lv] w fun e w'=>e=.returned (.int .i64 (j.commit ws).2)∧RJrnAt w' (grow F w w') p b (j.commit ws).1∧Turn F w w':=by
 have hpk:=RPack_any w j.next hn.next lv ws hl.1 hw
 have hlt:=h.lt
 have hmax:=hn.ok.max
 obtain⟨la,lc,rfl,hlc⟩:=hl.value
 have hcell:∀k (hk:k<ws.length),∃lb lo,la=some ⟨lb,lo,none⟩∧lb<w.heap.size∧¬F lb∧w.cell? ⟨lb,lo+k*2,none⟩=some (.int .i64 (ws[k].1:Nat))∧w.cell? ⟨lb,lo+k*2+1,none⟩=some (strV ws[k].2):=fun k hk=>by
  obtain⟨lb,lo,h1,h2,h3,h4⟩:=hlc (by omega)
  exact⟨lb,lo,h1,h2,h3,h4 _ _ (wrVs_at ws k hk).1,by have:=h4 _ _ (wrVs_at ws k hk).2;rwa [←Nat.add_assoc] at this⟩
 have hok:∀k (hk:k<ws.length),(j.home≤ws[k].1∧ws[k].1<j.d.l.length)∧ws[k].2.length=256:=fun k hk=>⟨hh _ (List.getElem_mem hk),(hw.2.2 _ (List.getElem_mem hk)).2⟩
 have hn1:=hw.1;have hn2:=hw.2.1
 have hho:=fun (W:World) (q:Q w W)=>RHome_any W p b j (h.box.stays q) hn.log2
 obtain⟨c0,c1,c2,c3,c4,c5,c6,c7⟩:=h.box.c8
 have HPK:=Lib.hid hpk;have HC:=Lib.hid hcell;have HO:=Lib.hid hok;have HHO:=Lib.hid hho;have HJ:=Lib.hid h;have HN:=Lib.hid hn;have HLT:=Lib.hid hlt;have HW:=Lib.hid hw;have HU:=Lib.hid hu
 clear hpk hcell hok hho h hn hlt hlc hl hh hw
 go_enter Tryz.func78,Tryz.ntmps78
 go_wp2_with fail
 refine HPK.out.mono ?_
 rintro e w1 ⟨fv,rfl,hfr,q1⟩
 obtain⟨fa,fc,rfl,-⟩:=owns_value hfr
 have HFR:=Lib.hid hfr;have HQ1:=Lib.hid q1
 clear hfr q1 c0 c1 c2 c3 c4 c5 c6 c7
 go_wp2_with fail
 go_loopw [7] (fun v wr=>∃k:Nat,v=.int .i64 (k:Nat)∧k≤ws.length∧Hid (Q w1 wr)) (fun v _=>ws.length-(intOf v).toNat)
 case atStart=>exact⟨0,rfl,Nat.zero_le _,Q.refl _⟩
 case round =>
  obtain⟨k,rfl,hk,HQ⟩:=hrel
  have hjr:=HJ.out.keep (HQ1.out.trans HQ.out)
  obtain⟨c0,c1,c2,c3,c4,c5,c6,c7⟩:=hjr.box.c8
  by_cases hlt:k<ws.length
  ·have hki:(k:Int)<(ws.length:Int):=by omega
   obtain⟨lb,lo,rfl,-,-,x1,x2⟩:=HC.out k hlt
   have y1:=cellQ (HQ1.out.trans HQ.out) x1;have y2:=cellQ (HQ1.out.trans HQ.out) x2
   obtain⟨⟨h1,h2⟩,hdl⟩:=HO.out k hlt
   obtain⟨dlv,dpv,hdg⟩:=hjr.dev
   obtain⟨dla,dlc,rfl,-⟩:=hdg.lcells
   obtain⟨z0,_⟩:=hdg.box.c4
   have hho:=HHO.out wr (HQ1.out.trans HQ.out)
   generalize ws[k].1=bk at *
   generalize ws[k].2=dk at *
   have e1:decide ((bk:Int)<(j.home:Int))=false:=decide_eq_false (by omega)
   have e2:decide ((j.d.l.length:Int)≤(bk:Int))=false:=decide_eq_false (by omega)
   have e1n:decide (bk<j.home)=false:=decide_eq_false (by omega)
   have e2n:decide (j.d.l.length≤bk)=false:=decide_eq_false (by omega)
   have e3:(!((dk.length:Int)==256))=false:=by rw[beq_iff_eq.2 (by omega)];rfl
   have e4:((dk.length:Int) != 256)=false:=by rw[bne,beq_iff_eq.2 (by omega)];rfl
   have HH:=Lib.hid hho
   clear hho hdg hjr x1 x2 h1 h2 hdl
   generalize j.d.l.length=dn at *
   generalize j.home=hm at *
   clear HH
   go_wp2_with fail
   obtain⟨c0b,hc0b⟩:∃x,x=b:=⟨_,rfl⟩
   have KK:=Lib.hid (Q.refl wr)
   go_region_held3 (fun w'=>w'.cell? ⟨p,0,none⟩=some (ptrV b)∧w'.cell? ⟨b,0,none⟩=some (.slice dla dn dlc)∧w'.cell? ⟨lb,lo+k*2,none⟩=some (.int .i64 (bk:Nat)))
    (first|exact⟨c0,z0,y1⟩|exact three (by repeat (first|with_reducible exact KK.out|with_reducible exact Q.refl _|with_reducible apply Qs.dr|with_reducible apply Qs.al)) c0 z0 y1)
    (first
     | (go_at_call 125;with_reducible refine(HHO.out _ (HQ1.out.trans (HQ.out.trans (by repeat (first|with_reducible exact KK.out|with_reducible apply Qs.dr|with_reducible apply Qs.al))))).mono ?_;rintro e w2 ⟨rfl,rfl⟩))
   all_goals
    have hqd:Q w1 wr.drew:=HQ.out.trans (Q.drew _)
    have HQD:=Lib.hid hqd
    have y3:=cellQ (Q.drew wr) y2
    clear c0 z0 y1 y2 hqd
    go_wp2_with fail
    go_roundw
    case rel=>exact⟨k+1,by go_num,by omega,HQD⟩
    case measure=>simp[intOf];omega
  ·have hki:¬(k:Int)<(ws.length:Int):=by omega
   obtain rfl:k=ws.length:=by omega
   have hwr:IntKind.i64.wrap ((j.s.log:Int)-(j.used:Int))=(j.s.log:Int)-(j.used:Int):=by have:=HN.out.log2;rw[IntWalk.i64_in _ (by omega)]
   clear c1 c2 c4 c5 c6
   have hlg2:=HN.out.log2
   by_cases hroom:ws.length+2>j.s.log-j.used
   ·have hgt:(j.s.log:Int)-(j.used:Int)<(ws.length:Int)+1+1:=by omega
    have hcm:j.commit ws=if j.ckpt.2≠0 then j.ckpt else j.ckpt.1.com ws:=by unfold JL.commit;rw[if_pos hroom]
    have HCM0:=Lib.hid hcm
    have hjd:=hjr.keep (Q.drew wr)
    have HJD0:=Lib.hid hjd
    clear hcm hjd hjr hroom
    go_wp2_with fail
    go_region
    all_goals
     have cck:=RCkpt_any wr.drew F p b j HJD0.out HN.out
     have HQY:=Lib.hid (show Q w1 wr.drew from HQ.out.trans (Q.drew _))
     generalize wr.drew=wy at *
     have HSY:=Lib.hid (show w.heap.size≤wy.heap.size from Nat.le_trans HQ1.out.size HQY.out.size)
     by_cases hz:j.ckpt.2=0
     case neg =>
      have hb:(j.ckpt.2==0)=false:=beq_eq_false_iff_ne.2 hz
      have hcm:=HCM0.out
      rw[if_pos hz] at hcm
      generalize j.ckpt=jc at *
      have HCK:=Lib.hid cck;have HCM1:=Lib.hid hcm
      clear cck hcm hz c0 c3 c7
      go_wp2_with fail
      refine HCK.out.mono ?_
      rintro e w3 ⟨rfl,h3,t3⟩
      have hfin:RJrnAt w3 (grow F w w3) p b jc.1:=h3.mono (fun k hk=>hk.elim .inl (fun hk=>.inr ⟨Nat.le_trans HSY.out hk.1,hk.2⟩)) (fun k hk=>hk.elim (fun hk=>Nat.lt_of_lt_of_le (HLT.out k hk) (Nat.le_trans HSY.out t3.size)) (fun hk=>hk.2))
      have htf:Turn F w w3:=(Turn.of_q (HQ1.out.trans HQY.out)).trans t3
      have HFIN:=Lib.hid hfin;have HTF:=Lib.hid htf
      clear h3 t3 hfin htf
      go_wp2_with fail
      go_ret
      rw[HCM1.out]
      exact⟨rfl,HFIN.out,HTF.out⟩
     have hb:(j.ckpt.2==0)=true:=beq_iff_eq.2 hz
     obtain⟨hn1',hnx1,hlg1⟩:=HN.out.ckpt hz
     have hcm:=HCM0.out
     rw[if_neg (by rw[hz];decide)] at hcm
     generalize j.ckpt=jc at *
     obtain⟨j1,ec⟩:=jc
     simp only at hz hn1' hnx1 hlg1 hcm cck hb
     subst hz
     have HCK:=Lib.hid cck;have HCM:=Lib.hid hcm;have HN1:=Lib.hid hn1';have HNX:=Lib.hid hnx1
     clear cck hcm hn1' hnx1 hlg1 hb c0 c3 c7 HCM0
     go_wp2_with fail
     refine HCK.out.mono ?_
     rintro e wx ⟨rfl,h3,t3⟩
     have HJ1:=Lib.hid h3;have T1:=Lib.hid t3
     clear h3 t3
     have hsl1:=SlO.lt (ownsRow_below HFR.out HQY.out) T1.out HLT.out
     rw[←HNX.out] at hsl1
     have hlg:=RLog_any wx (grow F wy wx) p b j1 _ ws HJ1.out HN1.out HW.out hsl1
     have hlo:=logR_ok HN1.out ws
     have hbad:=logR_bad j1 ws
     have hgood:=fun hz=>(logR_good j1 ws hz).2
     generalize j1.logR ws=dL at *
     have HLG:=Lib.hid hlg;have HLO:=Lib.hid hlo;have HBAD:=Lib.hid hbad;have HGOOD:=Lib.hid hgood
     clear hlg hlo hbad hgood hsl1
     go_wp2_with fail
     refine HLG.out.mono ?_
     rintro e w4 ⟨rfl,h4,t4⟩
     have hs4:=RJrnAt.next (fun k hk=>Nat.lt_of_lt_of_le (HLT.out k hk) HSY.out) T1.out h4 t4
     have H4:=Lib.hid hs4.1;have T4:=Lib.hid hs4.2
     clear hs4 h4 t4
     by_cases hzL:dL.2=0
     case neg =>
      have e9:(dL.2==0)=false:=beq_eq_false_iff_ne.2 hzL
      have hcm:=HCM.out
      rw[HBAD.out hzL] at hcm
      have hfin:RJrnAt w4 (grow F w w4) p b { j1 with d:=dL.1 }:=H4.out.mono (fun k hk=>hk.elim .inl (fun hk=>.inr ⟨Nat.le_trans HSY.out hk.1,hk.2⟩)) (fun k hk=>hk.elim (fun hk=>Nat.lt_of_lt_of_le (HLT.out k hk) (Nat.le_trans HSY.out T4.out.size)) (fun hk=>hk.2))
      have htf:Turn F w w4:=(Turn.of_q (HQ1.out.trans HQY.out)).trans T4.out
      have HCM1:=Lib.hid hcm;have HFIN:=Lib.hid hfin;have HTF:=Lib.hid htf
      clear hcm hfin htf hzL
      go_wp2_with fail
      go_ret
      rw[HCM1.out]
      exact⟨rfl,HFIN.out,HTF.out⟩
     rw[hzL]
     have hcm:=HCM.out
     rw[HGOOD.out hzL] at hcm
     have hpz:=HLO.out.2 hzL
     have hokL:=HLO.out.1
     obtain⟨k0,k1,k2,k3,k4,k5,k6,k7⟩:=H4.out.box.c8
     have g6:=H4.out.box.frozen 6;have g7:=H4.out.box.frozen 7
     simp only at k0 k6 k7
     have hus:=HN1.out.used
     have hw7:IntKind.i64.wrap ((j1.used:Int)+((ws.length:Int)+1))=(j1.used:Int)+(ws.length:Int)+1:=by rw[IntWalk.i64_in _ (by omega)];omega
     have hw7':(j1.used:Int)+(ws.length:Int)+1=((j1.used+ws.length+1:Nat):Int):=by omega
     have hnx:=HN1.out.next
     have hw6:IntKind.u64.wrap ((j1.next:Int)+1)=(((j1.next+1)%18446744073709551616:Nat):Int):=by simp[IntKind.wrap,IntKind.bits,IntKind.signed]
     have hbx5:=(H4.out.box.set 7 (.int .i64 ((j1.used+ws.length+1:Nat):Int))).set 6 (.int .u64 (((j1.next+1)%18446744073709551616:Nat):Int))
     have ht5:Turn (fun k=>k=p) w4 ((w4.setCell ⟨p,7,none⟩ (.int .i64 ((j1.used+ws.length+1:Nat):Int))).setCell ⟨p,6,none⟩ (.int .u64 (((j1.next+1)%18446744073709551616:Nat):Int))):=Turn.setCell (a:=⟨p,6,none⟩) (Turn.setCell (a:=⟨p,7,none⟩) (Turn.refl (fun k=>k=p) w4) (.inl rfl) _) (.inl rfl) _
     have hj5:RJrnAt ((w4.setCell ⟨p,7,none⟩ (.int .i64 ((j1.used+ws.length+1:Nat):Int))).setCell ⟨p,6,none⟩ (.int .u64 (((j1.next+1)%18446744073709551616:Nat):Int))) (grow F wy w4) p b (({ j1 with d:=dL.1 }:JL).advance ws.length):=H4.out.turned hbx5 rfl ht5
     have hsz5:((w4.setCell ⟨p,7,none⟩ (.int .i64 ((j1.used+ws.length+1:Nat):Int))).setCell ⟨p,6,none⟩ (.int .u64 (((j1.next+1)%18446744073709551616:Nat):Int))).heap.size=w4.heap.size:=by rw[setCell_size,setCell_size]
     have ht5':Turn F wy ((w4.setCell ⟨p,7,none⟩ (.int .i64 ((j1.used+ws.length+1:Nat):Int))).setCell ⟨p,6,none⟩ (.int .u64 (((j1.next+1)%18446744073709551616:Nat):Int))):=T4.out.step (ht5.mono (fun k hk=>by rw[hk];exact H4.out.fp))
     have hj5':RJrnAt ((w4.setCell ⟨p,7,none⟩ (.int .i64 ((j1.used+ws.length+1:Nat):Int))).setCell ⟨p,6,none⟩ (.int .u64 (((j1.next+1)%18446744073709551616:Nat):Int))) (grow F wy ((w4.setCell ⟨p,7,none⟩ (.int .i64 ((j1.used+ws.length+1:Nat):Int))).setCell ⟨p,6,none⟩ (.int .u64 (((j1.next+1)%18446744073709551616:Nat):Int)))) p b (({ j1 with d:=dL.1 }:JL).advance ws.length):=hj5.mono (fun k hk=>hk.elim .inl (fun hk=>.inr ⟨hk.1,by rw[hsz5];exact hk.2⟩)) (fun k hk=>hk.elim (fun hk=>by rw[hsz5];exact Nat.lt_of_lt_of_le (HLT.out k hk) (Nat.le_trans HSY.out T4.out.size)) (fun hk=>hk.2))
     have HJ5:=Lib.hid hj5';have HT5:=Lib.hid ht5';have HCM1:=Lib.hid hcm;have HPZ:=Lib.hid hpz;have HOKL:=Lib.hid hokL;have HW6:=Lib.hid hw6;have HW7:=Lib.hid hw7'
     clear hj5 hj5' ht5 ht5' hbx5 hsz5 hcm hpz hokL hzL hw7' k1 k2 k3 k4 k5 hus hnx hw6
     go_upto_region 20 with fail
     rw[HW6.out,HW7.out]
     clear hw7 k0 k6 k7 g6 g7
     generalize (w4.setCell ⟨p,7,none⟩ (.int .i64 ((j1.used+ws.length+1:Nat):Int))).setCell ⟨p,6,none⟩ (.int .u64 (((j1.next+1)%18446744073709551616:Nat):Int))=w5 at *
     generalize ((j1.used+ws.length+1:Nat):Int)=vv7
     generalize (((j1.next+1)%18446744073709551616:Nat):Int)=vv6
     generalize hjA:({ j1 with d:=dL.1 }:JL).advance ws.length=jA at *
     have hfn:j.commit ws=({ jA with d:=(dL.1.writes ws).1 },(dL.1.writes ws).2):=by rw[HCM1.out,←hjA];rfl
     have hjd:jA.d=dL.1:=by rw[←hjA];rfl
     have HFN:=Lib.hid hfn;have HJD:=Lib.hid hjd
     clear hfn hjd hjA HCM1
     go_wp2_with fail
     go_loopw [9] (fun v wr=>∃(k:Nat) (d2:DevL),v=.int .i64 (k:Nat)∧k≤ws.length∧Hid (dL.1.writes ws=d2.writes (ws.drop k))∧Hid (RJrnAt wr (grow F wy wr) p b { jA with d:=d2 })∧Hid (Turn F wy wr)∧Hid d2.Ok∧Hid (d2.dead=false→d2.p.length≤k)) (fun v _=>ws.length-(intOf v).toNat)
     case atStart=>exact⟨0,dL.1,rfl,Nat.zero_le _,by rw[List.drop_zero];exact Lib.hid rfl,by rw[←HJD.out];exact HJ5,HT5,HOKL,Lib.hid (fun _=>by rw[HPZ.out];exact Nat.le_refl _)⟩
     case round =>
      obtain⟨k,d2,rfl,hk,HE,HG2,HT2,HD2,HP2⟩:=hrel
      by_cases hlt:k<ws.length
      ·have hki:(k:Int)<(ws.length:Int):=by omega
       obtain⟨lb,lo,rfl,hlb,hlF,x1,x2⟩:=HC.out k hlt
       have y1:=HT2.out.cell (cellQ (HQ1.out.trans HQY.out) x1) hlF
       have y2:=HT2.out.cell (cellQ (HQ1.out.trans HQY.out) x2) hlF
       have he:=HE.out
       rw[List.drop_eq_getElem_cons hlt,DevL.writes] at he
       obtain⟨⟨hb1,hb2⟩,hdl⟩:=HO.out k hlt
       have hw1:=HG2.out.write HD2.out (fun hx=>by have h1:=HP2.out hx;show d2.p.length≤_;omega) (ws[k].1:Nat) ws[k].2 (by rw[hdl];omega)
       simp only at hw1
       have hok:=DevL.write_ok HD2.out (ws[k].1:Nat) ws[k].2
       have hpn:(d2.write (ws[k].1:Nat) ws[k].2).1.dead=false→(d2.write (ws[k].1:Nat) ws[k].2).1.p.length≤k+1:=fun hx=>by
        have h1:=HP2.out (DevL.write_live _ _ _ hx)
        have h2:=DevL.write_p d2 (ws[k].1:Nat) ws[k].2
        omega
       obtain⟨c0,_⟩:=HG2.out.box.c8
       have hsy:=HSY.out
       have hnG:¬grow F wy wr lb:=fun hc=>hc.elim hlF (fun hc=>by omega)
       generalize hdw:d2.write (ws[k].1:Nat) ws[k].2=dw at *
       generalize ws[k].1=bk at *
       generalize ws[k].2=dk at *
       have HW1:=Lib.hid hw1;have HEE:=Lib.hid he;have HOK:=Lib.hid hok;have HPN:=Lib.hid hpn;have HNG:=Lib.hid hnG;have KK:=Lib.hid (Q.refl wr)
       clear hw1 he hok hpn hdw x1 x2 hdl hnG hb1 hb2
       go_wp2_with fail
       go_region_held3 (fun w'=>w'.cell? ⟨p,0,none⟩=some (ptrV b)∧w'.cell? ⟨lb,lo+k*2,none⟩=some (.int .i64 (bk:Nat))∧w'.cell? ⟨lb,lo+k*2+1,none⟩=some (strV dk))
        (first|exact g0|exact⟨c0,y1,y2⟩|exact three (by repeat (first|with_reducible exact KK.out|with_reducible exact Q.refl _|with_reducible apply Qs.dr|with_reducible apply Qs.al)) c0 y1 y2)
        (first
         | (go_at_call 115;with_reducible refine(HW1.out _ (by repeat (first|with_reducible exact KK.out|with_reducible apply Qs.dr|with_reducible apply Qs.al))).mono ?_;rintro e w3 ⟨rfl,h3,t3⟩;have g:=Blk.c8 (RJrnAt.box h3);have g0:=And.intro g.1 (And.intro (Turn.cell t3 y1 HNG.out) (Turn.cell t3 y2 HNG.out));clear g;have H3:=Lib.hid h3;have T3:=Lib.hid t3;clear h3 t3))
       all_goals
        have hs3:=RJrnAt.next (fun k hk=>Nat.lt_of_lt_of_le (HLT.out k hk) HSY.out) HT2.out H3.out T3.out
        have HG3:=Lib.hid hs3.1;have HT3:=Lib.hid hs3.2
        clear hs3 c0 y1 y2
        try clear g0
        by_cases hz:dw.2=0
        ·have hb:(dw.2==0)=true:=beq_iff_eq.2 hz
         have hee:=HEE.out
         rw[if_pos hz] at hee
         have HE2:=Lib.hid hee
         clear hee HEE hz
         go_wp2_with fail
         go_roundw
         case rel=>exact⟨k+1,dw.1,by go_num,by omega,HE2,HG3,HT3,HOK,HPN⟩
         case measure=>simp[intOf];omega
        ·have hb:(dw.2==0)=false:=beq_eq_false_iff_ne.2 hz
         have hee:=HEE.out
         rw[if_neg hz] at hee
         have hfn:=HFN.out
         rw[hee] at hfn
         have hfin:RJrnAt w3 (grow F w w3) p b { jA with d:=dw.1 }:=HG3.out.mono (fun k hk=>hk.elim .inl (fun hk=>.inr ⟨Nat.le_trans HSY.out hk.1,hk.2⟩)) (fun k hk=>hk.elim (fun hk=>Nat.lt_of_lt_of_le (HLT.out k hk) (Nat.le_trans HSY.out HT3.out.size)) (fun hk=>hk.2))
         have htf:Turn F w w3:=(Turn.of_q (HQ1.out.trans HQY.out)).trans HT3.out
         have HFN1:=Lib.hid hfn;have HFIN:=Lib.hid hfin;have HTF:=Lib.hid htf
         clear hee HEE hz hfn hfin htf
         go_wp2_with fail
         go_ret
         rw[HFN1.out]
         exact⟨rfl,HFIN.out,HTF.out⟩
      ·have hki:¬(k:Int)<(ws.length:Int):=by omega
       obtain rfl:k=ws.length:=by omega
       have he:=HE.out
       rw[List.drop_length,DevL.writes] at he
       have hfn:=HFN.out
       rw[he] at hfn
       have hfin:RJrnAt wr (grow F w wr) p b { jA with d:=d2 }:=HG2.out.mono (fun k hk=>hk.elim .inl (fun hk=>.inr ⟨Nat.le_trans HSY.out hk.1,hk.2⟩)) (fun k hk=>hk.elim (fun hk=>Nat.lt_of_lt_of_le (HLT.out k hk) (Nat.le_trans HSY.out HT2.out.size)) (fun hk=>hk.2))
       have htf:Turn F w wr:=(Turn.of_q (HQ1.out.trans HQY.out)).trans HT2.out
       have HFN1:=Lib.hid hfn;have HFIN:=Lib.hid hfin;have HTF:=Lib.hid htf
       clear he hfn hfin htf
       go_wp2_with fail
       go_ret
       rw[HFN1.out]
       exact⟨rfl,HFIN.out,HTF.out⟩
   ·have hgt:¬(j.s.log:Int)-(j.used:Int)<(ws.length:Int)+1+1:=by omega
    have hcm:j.commit ws=j.com ws:=by unfold JL.commit;rw[if_neg hroom]
    have HCM:=Lib.hid hcm
    have hjd:=(hjr.keep (Q.drew wr)).mono (G:=grow F wr.drew wr.drew) (fun k hk=>.inl hk) (fun k hk=>hk.elim (fun hk=>(hjr.keep (Q.drew wr)).lt k hk) (fun hk=>hk.2))
    have HJ1:=Lib.hid hjd
    clear hcm hjd hjr hroom
    go_wp2_with fail
    go_region
    all_goals
     have HQY:=Lib.hid (show Q w1 wr.drew from HQ.out.trans (Q.drew _))
     generalize wr.drew=wy at *
     have HSY:=Lib.hid (show w.heap.size≤wy.heap.size from Nat.le_trans HQ1.out.size HQY.out.size)
     have HN1:=HN
     have HNX:=Lib.hid (show j.next=j.next from rfl)
     have T1:=Lib.hid (Turn.refl F wy)
     clear c0 c3 c7
     have hsl1:=SlO.lt (ownsRow_below HFR.out HQY.out) T1.out HLT.out
     rw[←HNX.out] at hsl1
     have hlg:=RLog_any wy (grow F wy wy) p b j _ ws HJ1.out HN1.out HW.out hsl1
     have hlo:=logR_ok HN1.out ws
     have hbad:=logR_bad j ws
     have hgood:=fun hz=>(logR_good j ws hz).2
     generalize j.logR ws=dL at *
     have HLG:=Lib.hid hlg;have HLO:=Lib.hid hlo;have HBAD:=Lib.hid hbad;have HGOOD:=Lib.hid hgood
     clear hlg hlo hbad hgood hsl1
     go_wp2_with fail
     refine HLG.out.mono ?_
     rintro e w4 ⟨rfl,h4,t4⟩
     have hs4:=RJrnAt.next (fun k hk=>Nat.lt_of_lt_of_le (HLT.out k hk) HSY.out) T1.out h4 t4
     have H4:=Lib.hid hs4.1;have T4:=Lib.hid hs4.2
     clear hs4 h4 t4
     by_cases hzL:dL.2=0
     case neg =>
      have e9:(dL.2==0)=false:=beq_eq_false_iff_ne.2 hzL
      have hcm:=HCM.out
      rw[HBAD.out hzL] at hcm
      have hfin:RJrnAt w4 (grow F w w4) p b { j with d:=dL.1 }:=H4.out.mono (fun k hk=>hk.elim .inl (fun hk=>.inr ⟨Nat.le_trans HSY.out hk.1,hk.2⟩)) (fun k hk=>hk.elim (fun hk=>Nat.lt_of_lt_of_le (HLT.out k hk) (Nat.le_trans HSY.out T4.out.size)) (fun hk=>hk.2))
      have htf:Turn F w w4:=(Turn.of_q (HQ1.out.trans HQY.out)).trans T4.out
      have HCM1:=Lib.hid hcm;have HFIN:=Lib.hid hfin;have HTF:=Lib.hid htf
      clear hcm hfin htf hzL
      go_wp2_with fail
      go_ret
      rw[HCM1.out]
      exact⟨rfl,HFIN.out,HTF.out⟩
     rw[hzL]
     have hcm:=HCM.out
     rw[HGOOD.out hzL] at hcm
     have hpz:=HLO.out.2 hzL
     have hokL:=HLO.out.1
     obtain⟨k0,k1,k2,k3,k4,k5,k6,k7⟩:=H4.out.box.c8
     have g6:=H4.out.box.frozen 6;have g7:=H4.out.box.frozen 7
     simp only at k0 k6 k7
     have hus:=HN1.out.used
     have hw7:IntKind.i64.wrap ((j.used:Int)+((ws.length:Int)+1))=(j.used:Int)+(ws.length:Int)+1:=by rw[IntWalk.i64_in _ (by omega)];omega
     have hw7':(j.used:Int)+(ws.length:Int)+1=((j.used+ws.length+1:Nat):Int):=by omega
     have hnx:=HN1.out.next
     have hw6:IntKind.u64.wrap ((j.next:Int)+1)=(((j.next+1)%18446744073709551616:Nat):Int):=by simp[IntKind.wrap,IntKind.bits,IntKind.signed]
     have hbx5:=(H4.out.box.set 7 (.int .i64 ((j.used+ws.length+1:Nat):Int))).set 6 (.int .u64 (((j.next+1)%18446744073709551616:Nat):Int))
     have ht5:Turn (fun k=>k=p) w4 ((w4.setCell ⟨p,7,none⟩ (.int .i64 ((j.used+ws.length+1:Nat):Int))).setCell ⟨p,6,none⟩ (.int .u64 (((j.next+1)%18446744073709551616:Nat):Int))):=Turn.setCell (a:=⟨p,6,none⟩) (Turn.setCell (a:=⟨p,7,none⟩) (Turn.refl (fun k=>k=p) w4) (.inl rfl) _) (.inl rfl) _
     have hj5:RJrnAt ((w4.setCell ⟨p,7,none⟩ (.int .i64 ((j.used+ws.length+1:Nat):Int))).setCell ⟨p,6,none⟩ (.int .u64 (((j.next+1)%18446744073709551616:Nat):Int))) (grow F wy w4) p b (({ j with d:=dL.1 }:JL).advance ws.length):=H4.out.turned hbx5 rfl ht5
     have hsz5:((w4.setCell ⟨p,7,none⟩ (.int .i64 ((j.used+ws.length+1:Nat):Int))).setCell ⟨p,6,none⟩ (.int .u64 (((j.next+1)%18446744073709551616:Nat):Int))).heap.size=w4.heap.size:=by rw[setCell_size,setCell_size]
     have ht5':Turn F wy ((w4.setCell ⟨p,7,none⟩ (.int .i64 ((j.used+ws.length+1:Nat):Int))).setCell ⟨p,6,none⟩ (.int .u64 (((j.next+1)%18446744073709551616:Nat):Int))):=T4.out.step (ht5.mono (fun k hk=>by rw[hk];exact H4.out.fp))
     have hj5':RJrnAt ((w4.setCell ⟨p,7,none⟩ (.int .i64 ((j.used+ws.length+1:Nat):Int))).setCell ⟨p,6,none⟩ (.int .u64 (((j.next+1)%18446744073709551616:Nat):Int))) (grow F wy ((w4.setCell ⟨p,7,none⟩ (.int .i64 ((j.used+ws.length+1:Nat):Int))).setCell ⟨p,6,none⟩ (.int .u64 (((j.next+1)%18446744073709551616:Nat):Int)))) p b (({ j with d:=dL.1 }:JL).advance ws.length):=hj5.mono (fun k hk=>hk.elim .inl (fun hk=>.inr ⟨hk.1,by rw[hsz5];exact hk.2⟩)) (fun k hk=>hk.elim (fun hk=>by rw[hsz5];exact Nat.lt_of_lt_of_le (HLT.out k hk) (Nat.le_trans HSY.out T4.out.size)) (fun hk=>hk.2))
     have HJ5:=Lib.hid hj5';have HT5:=Lib.hid ht5';have HCM1:=Lib.hid hcm;have HPZ:=Lib.hid hpz;have HOKL:=Lib.hid hokL;have HW6:=Lib.hid hw6;have HW7:=Lib.hid hw7'
     clear hj5 hj5' ht5 ht5' hbx5 hsz5 hcm hpz hokL hzL hw7' k1 k2 k3 k4 k5 hus hnx hw6
     go_upto_region 20 with fail
     rw[HW6.out,HW7.out]
     clear hw7 k0 k6 k7 g6 g7
     generalize (w4.setCell ⟨p,7,none⟩ (.int .i64 ((j.used+ws.length+1:Nat):Int))).setCell ⟨p,6,none⟩ (.int .u64 (((j.next+1)%18446744073709551616:Nat):Int))=w5 at *
     generalize ((j.used+ws.length+1:Nat):Int)=vv7
     generalize (((j.next+1)%18446744073709551616:Nat):Int)=vv6
     generalize hjA:({ j with d:=dL.1 }:JL).advance ws.length=jA at *
     have hfn:j.commit ws=({ jA with d:=(dL.1.writes ws).1 },(dL.1.writes ws).2):=by rw[HCM1.out,←hjA];rfl
     have hjd:jA.d=dL.1:=by rw[←hjA];rfl
     have HFN:=Lib.hid hfn;have HJD:=Lib.hid hjd
     clear hfn hjd hjA HCM1
     go_wp2_with fail
     go_loopw [9] (fun v wr=>∃(k:Nat) (d2:DevL),v=.int .i64 (k:Nat)∧k≤ws.length∧Hid (dL.1.writes ws=d2.writes (ws.drop k))∧Hid (RJrnAt wr (grow F wy wr) p b { jA with d:=d2 })∧Hid (Turn F wy wr)∧Hid d2.Ok∧Hid (d2.dead=false→d2.p.length≤k)) (fun v _=>ws.length-(intOf v).toNat)
     case atStart=>exact⟨0,dL.1,rfl,Nat.zero_le _,by rw[List.drop_zero];exact Lib.hid rfl,by rw[←HJD.out];exact HJ5,HT5,HOKL,Lib.hid (fun _=>by rw[HPZ.out];exact Nat.le_refl _)⟩
     case round =>
      obtain⟨k,d2,rfl,hk,HE,HG2,HT2,HD2,HP2⟩:=hrel
      by_cases hlt:k<ws.length
      ·have hki:(k:Int)<(ws.length:Int):=by omega
       obtain⟨lb,lo,rfl,hlb,hlF,x1,x2⟩:=HC.out k hlt
       have y1:=HT2.out.cell (cellQ (HQ1.out.trans HQY.out) x1) hlF
       have y2:=HT2.out.cell (cellQ (HQ1.out.trans HQY.out) x2) hlF
       have he:=HE.out
       rw[List.drop_eq_getElem_cons hlt,DevL.writes] at he
       obtain⟨⟨hb1,hb2⟩,hdl⟩:=HO.out k hlt
       have hw1:=HG2.out.write HD2.out (fun hx=>by have h1:=HP2.out hx;show d2.p.length≤_;omega) (ws[k].1:Nat) ws[k].2 (by rw[hdl];omega)
       simp only at hw1
       have hok:=DevL.write_ok HD2.out (ws[k].1:Nat) ws[k].2
       have hpn:(d2.write (ws[k].1:Nat) ws[k].2).1.dead=false→(d2.write (ws[k].1:Nat) ws[k].2).1.p.length≤k+1:=fun hx=>by
        have h1:=HP2.out (DevL.write_live _ _ _ hx)
        have h2:=DevL.write_p d2 (ws[k].1:Nat) ws[k].2
        omega
       obtain⟨c0,_⟩:=HG2.out.box.c8
       have hsy:=HSY.out
       have hnG:¬grow F wy wr lb:=fun hc=>hc.elim hlF (fun hc=>by omega)
       generalize hdw:d2.write (ws[k].1:Nat) ws[k].2=dw at *
       generalize ws[k].1=bk at *
       generalize ws[k].2=dk at *
       have HW1:=Lib.hid hw1;have HEE:=Lib.hid he;have HOK:=Lib.hid hok;have HPN:=Lib.hid hpn;have HNG:=Lib.hid hnG;have KK:=Lib.hid (Q.refl wr)
       clear hw1 he hok hpn hdw x1 x2 hdl hnG hb1 hb2
       go_wp2_with fail
       go_region_held3 (fun w'=>w'.cell? ⟨p,0,none⟩=some (ptrV b)∧w'.cell? ⟨lb,lo+k*2,none⟩=some (.int .i64 (bk:Nat))∧w'.cell? ⟨lb,lo+k*2+1,none⟩=some (strV dk))
        (first|exact g0|exact⟨c0,y1,y2⟩|exact three (by repeat (first|with_reducible exact KK.out|with_reducible exact Q.refl _|with_reducible apply Qs.dr|with_reducible apply Qs.al)) c0 y1 y2)
        (first
         | (go_at_call 115;with_reducible refine(HW1.out _ (by repeat (first|with_reducible exact KK.out|with_reducible apply Qs.dr|with_reducible apply Qs.al))).mono ?_;rintro e w3 ⟨rfl,h3,t3⟩;have g:=Blk.c8 (RJrnAt.box h3);have g0:=And.intro g.1 (And.intro (Turn.cell t3 y1 HNG.out) (Turn.cell t3 y2 HNG.out));clear g;have H3:=Lib.hid h3;have T3:=Lib.hid t3;clear h3 t3))
       all_goals
        have hs3:=RJrnAt.next (fun k hk=>Nat.lt_of_lt_of_le (HLT.out k hk) HSY.out) HT2.out H3.out T3.out
        have HG3:=Lib.hid hs3.1;have HT3:=Lib.hid hs3.2
        clear hs3 c0 y1 y2
        try clear g0
        by_cases hz:dw.2=0
        ·have hb:(dw.2==0)=true:=beq_iff_eq.2 hz
         have hee:=HEE.out
         rw[if_pos hz] at hee
         have HE2:=Lib.hid hee
         clear hee HEE hz
         go_wp2_with fail
         go_roundw
         case rel=>exact⟨k+1,dw.1,by go_num,by omega,HE2,HG3,HT3,HOK,HPN⟩
         case measure=>simp[intOf];omega
        ·have hb:(dw.2==0)=false:=beq_eq_false_iff_ne.2 hz
         have hee:=HEE.out
         rw[if_neg hz] at hee
         have hfn:=HFN.out
         rw[hee] at hfn
         have hfin:RJrnAt w3 (grow F w w3) p b { jA with d:=dw.1 }:=HG3.out.mono (fun k hk=>hk.elim .inl (fun hk=>.inr ⟨Nat.le_trans HSY.out hk.1,hk.2⟩)) (fun k hk=>hk.elim (fun hk=>Nat.lt_of_lt_of_le (HLT.out k hk) (Nat.le_trans HSY.out HT3.out.size)) (fun hk=>hk.2))
         have htf:Turn F w w3:=(Turn.of_q (HQ1.out.trans HQY.out)).trans HT3.out
         have HFN1:=Lib.hid hfn;have HFIN:=Lib.hid hfin;have HTF:=Lib.hid htf
         clear hee HEE hz hfn hfin htf
         go_wp2_with fail
         go_ret
         rw[HFN1.out]
         exact⟨rfl,HFIN.out,HTF.out⟩
      ·have hki:¬(k:Int)<(ws.length:Int):=by omega
       obtain rfl:k=ws.length:=by omega
       have he:=HE.out
       rw[List.drop_length,DevL.writes] at he
       have hfn:=HFN.out
       rw[he] at hfn
       have hfin:RJrnAt wr (grow F w wr) p b { jA with d:=d2 }:=HG2.out.mono (fun k hk=>hk.elim .inl (fun hk=>.inr ⟨Nat.le_trans HSY.out hk.1,hk.2⟩)) (fun k hk=>hk.elim (fun hk=>Nat.lt_of_lt_of_le (HLT.out k hk) (Nat.le_trans HSY.out HT2.out.size)) (fun hk=>hk.2))
       have htf:Turn F w wr:=(Turn.of_q (HQ1.out.trans HQY.out)).trans HT2.out
       have HFN1:=Lib.hid hfn;have HFIN:=Lib.hid hfin;have HTF:=Lib.hid htf
       clear he hfn hfin htf
       go_wp2_with fail
       go_ret
       rw[HFN1.out]
       exact⟨rfl,HFIN.out,HTF.out⟩
theorem RFrame_any(w:World)(F:Nat→Prop)(p b:Nat)(j:JL)(h:RJrnAt w F p b j)(hn:JNum j)(hlv:j.d.dead=false)(hll:2+j.s.log≤j.d.l.length)(hu:j.used≤j.s.log)(hok:∀sq ws,unpackL (j.ahead (min (j.s.log-j.used) 49))=some (sq,ws)→sq=j.next→∀x∈ws,j.home≤x.1):
  Calls Tryz.prog 120 #[ptrV p] w fun e w'=>(∃v x,e=.returned (.tuple #[v,.int .i64 x,.bool j.frame.isSome])∧∀ws,j.frame=some ws→x=1+(ws.length:Int)∧w'.ownsRow w.heap.size 102 2 v ws.length (wrVs ws))∧Q w w':=by
 obtain⟨i0,hi,hz0,hz1,hz2⟩:=info_parts tinfoStr1
 obtain⟨n,hnn⟩:∃n:Nat,n=min (j.s.log-j.used) 49:=⟨_,rfl⟩
 rw[←hnn] at hok
 have HOKH:=Lib.hid hok
 clear hok
 have hpl:∀k,2≤j.place k∧j.place k<j.d.l.length:=fun k=>by
  have:=logAt_lt j.s (j.used+k) hn.log
  unfold JL.place
  omega
 have hrd:∀k,j.d.read ((j.place k:Nat):Int)=(j.d.get (j.place k),0):=fun k=>by
  unfold DevL.read
  rw[DevL.chk_in hlv _ (hpl k).2,if_pos rfl]
  rfl
 have h256:∀s∈j.ahead n,s.length=256:=fun s hs=>by
  obtain⟨i,_,rfl⟩:=List.mem_map.1 hs
  exact DevL.get_len hn.ok _ (hpl i).2
 have hfr:j.frame=match unpackL (j.ahead n) with
   | some (seq,ws)=>if seq=j.next∧∀w∈ws,j.home≤w.1∧w.1<j.d.l.length then some ws else none
   | none=>none:=by unfold JL.frame JL.ahead;rw[hnn];rfl
 have cpl:=fun (W:World) (hq:Q w W) (k:Nat) (hk:k≤100)=>(show Calls Tryz.prog 155 #[ptrV p,.int .i64 (IntKind.i64.wrap ((j.used:Int)+(k:Int)))] W fun e w'=>e=.returned (.int .i64 (j.place k:Nat))∧Q W w' from by
  rw[IntWalk.i64_in _ (by have:=hn.used;omega),show(j.used:Int)+(k:Int)=((j.used+k:Nat):Int) by omega]
  exact RPlace_any W p b j (j.used+k) (h.keep hq).box hn.log hn.log2 hn.place (by have:=hn.used;omega))
 have crd:=fun (W:World) (hq:Q w W) (k:Nat)=>RRead_any W F b j.d (j.place k:Nat) (h.keep hq).dev hn.ok.max (fun hx=>by have:=hn.plen hx;omega)
 have chm:=fun (W:World) (hq:Q w W)=>RHome_any W p b j (h.keep hq).box hn.log2
 have cun:=fun (W:World) (base:Nat) (lv:Value) (hv:W.ownsRow base 9 1 lv n ((j.ahead n).map strV))=>RUnpack_any W base lv (j.ahead n) (by rw[j.ahead_length];exact hv) (by rw[j.ahead_length];omega) h256
 have has:=j.ahead_succ
 obtain⟨c0,c1,c2,c3,c4,c5,c6,c7⟩:=h.box.c8
 have CPL:=Lib.hid cpl;have CRD:=Lib.hid crd;have CHM:=Lib.hid chm;have CUN:=Lib.hid cun;have HAS:=Lib.hid has;have HFR:=Lib.hid hfr;have HRD:=Lib.hid hrd;have HJ:=Lib.hid h;have HN:=Lib.hid hn
 have hlog:=hn.log2;have hus:=hn.used
 obtain⟨lf,hlf⟩:∃lf:Nat,lf=j.s.log-j.used:=⟨_,rfl⟩
 have hwr:IntKind.i64.wrap ((j.s.log:Int)-(j.used:Int))=(lf:Int):=by rw[IntWalk.i64_in _ (by omega)];omega
 have hwr2:(j.s.log:Int)-(j.used:Int)=(lf:Int):=by omega
 have hn49:n≤49:=by omega
 have hnlf:n≤lf:=by omega
 have hnor:n=lf∨n=49:=by omega
 have HWR2:=Lib.hid hwr2
 clear cpl crd chm cun has hfr hrd hpl h256 h hn hnn hwr2 hlf
 go_enter Tryz.func120,Tryz.ntmps120
 go_upto_region 1 with fail
 go_region
 all_goals
  (try rw[hwr])
  (try rw[HWR2.out])
  clear hwr c1 c2 c4 c5
  have hq0:Q w w.drew:=Q.drew w
  have hown0:w.drew.ownsRow w.heap.size 9 1 (.slice none 0 0) 0 ((j.ahead 0).map strV):=World.ownsRow_nil _ _ _ _
  go_wp2_with fail
  go_loopw [6,7] (fun lv i wr=>∃k:Nat,i=.int .i64 (k:Nat)∧k≤n∧Hid (wr.ownsRow w.heap.size 9 1 lv k ((j.ahead k).map strV))∧Hid (Q w wr)) (fun _ i _=>n-(intOf i).toNat)
  case atStart=>exact⟨0,rfl,Nat.zero_le _,hown0,hq0⟩
  case round =>
   obtain⟨k,rfl,hk,HOW,HQ⟩:=hrel
   by_cases hlt:k<n
   ·have hki:(k:Int)<(lf:Int):=by omega
    have hki2:(k:Int)<49:=by omega
    have x0:=cellQ HQ.out c0
    have x7:=cellQ HQ.out c7
    have hrk:=HRD.out k
    have hsk:=HAS.out k
    have hc:=CRD.out
    have CR2:=Lib.hid (fun (W:World) (hq:Q w W)=>hc W hq k)
    rw[hrk] at CR2
    have hcp:=CPL.out
    have CPK:=Lib.hid (fun (W:World) (hq:Q w W)=>hcp W hq k (by omega))
    have HS:=Lib.hid hsk
    have KK:=Lib.hid (Q.refl wr)
    clear hrk hsk hc hcp
    generalize j.place k=plk at *
    generalize j.d.get plk=gk at *
    go_wp2_with fail
    go_region_held3 (fun w'=>w'.cell? ⟨p,0,none⟩=some (ptrV b)∧w'.cell? ⟨p,7,none⟩=some (.int .i64 (j.used:Nat)))
     (first|exact⟨x0,x7⟩|exact two (by repeat (first|with_reducible exact KK.out|with_reducible exact Q.refl _|with_reducible apply Qs.dr|with_reducible apply Qs.al)) x0 x7)
     (first
      | (go_at_call 155;with_reducible refine(CPK.out _ (HQ.out.trans (by repeat (first|with_reducible exact KK.out|with_reducible apply Qs.dr|with_reducible apply Qs.al)))).mono ?_;rintro e w5 ⟨rfl,q5⟩;have s':Q wr w5:=Q.trans (by repeat (first|with_reducible exact KK.out|with_reducible apply Qs.dr|with_reducible apply Qs.al)) q5;clear KK;have KK:=Lib.hid s';clear s' q5)
      | (go_at_call 118;with_reducible refine(CR2.out _ (HQ.out.trans (by repeat (first|with_reducible exact KK.out|with_reducible apply Qs.dr|with_reducible apply Qs.al)))).mono ?_;rintro e w6 ⟨rfl,q6⟩;have s':Q wr w6:=Q.trans (by repeat (first|with_reducible exact KK.out|with_reducible apply Qs.dr|with_reducible apply Qs.al)) q6;clear KK;have KK:=Lib.hid s';clear s' q6))
    all_goals
     have hr5:=ownsRow_below HOW.out KK.out
     have hq5:=HQ.out.trans KK.out
     have hc1:∀u∈#[strV gk].toList,u.oneCell'=true:=by intro u hu;simp at hu;subst hu;rfl
     have hc2:(k+1)*16≤140737488355328:=by omega
     have HR5:=Lib.hid hr5;have HQ5:=Lib.hid hq5;have HC1:=Lib.hid hc1;have HC2:=Lib.hid hc2
     clear hr5 hq5 hc1 hc2 x0 x7
     go_wp2_with (at_builtin;refine wpList_app w6 (by rfl) _ _ 47 (by rfl) w.heap.size 9 _ i0 (strV []) 1 16 Tryz.underlying47 hi hz0 hz1 hz2 rfl (by decide) (by decide) _ _ _ (by rfl) HR5.out #[strV gk] (by rfl) rfl HC1.out HC2.out HQ5.out.size ?_)
     intro g cap w7 hr hg ho hlt1 hlt2
     have hq7:Q w w7:=grown_below HQ5.out HR5.out hg (Nat.le_refl _) HQ5.out.size
     have hr7:w7.ownsRow w.heap.size 9 1 (.slice (some ⟨g,0,none⟩) (k+1) cap) (k+1) ((j.ahead (k+1)).map strV):=by rw[HS.out,List.map_append];exact hr
     have HR7:=Lib.hid hr7;have HQ7:=Lib.hid hq7
     clear hr hg ho hr7 hq7
     go_wp2_with fail
     go_roundw
     case rel=>exact⟨k+1,by go_num,by omega,HR7,HQ7⟩
     case measure=>simp[intOf];omega
   ·obtain rfl:k=n:=by omega
    have cun:=CUN.out wr w.heap.size u6 HOW.out
    have CU:=Lib.hid cun
    clear cun
    have y6:=cellQ HQ.out c6
    have hcond:(¬(k:Int)<(lf:Int))∨((k:Int)<(lf:Int)∧¬(k:Int)<49):=by omega
    rcases hcond with hc1|⟨hc1,hc2⟩
    all_goals
     go_wp2_with fail
     refine CU.out.mono ?_
     rintro e w1 ⟨⟨a,v,x,rfl,hx1,hx2⟩,q1⟩
     have hq1:=HQ.out.trans q1
     have z6:=cellQ q1 y6
     have HQ1:=Lib.hid hq1
     have hzl:wr.heap.size≥w.heap.size:=HQ.out.size
     have HZL:=Lib.hid hzl
     clear q1 hq1 y6 hzl
     cases hul:unpackL (j.ahead k) with
     | none =>
      have hx:=hx1 hul
      have hno:j.frame=none:=by rw[HFR.out,hul]
      have ex:(x==0)=false:=beq_eq_false_iff_ne.2 hx
      have HNO:=Lib.hid hno
      have hx0:¬x=0:=hx
      clear hx1 hx2 hul hx hno
      go_wp2_with fail
      go_ret3
      exact⟨⟨_,_,by rw[HNO.out];rfl,fun ws hw=>by rw[HNO.out] at hw;exact absurd hw (by simp)⟩,HQ1.out⟩
     | some r =>
      obtain⟨sq,ws⟩:=r
      obtain⟨rfl,rfl,hrow⟩:=hx2 sq ws hul
      have hlo:=HOKH.out sq ws hul
      have HLO:=Lib.hid hlo
      clear hlo
      have hfr:=HFR.out
      rw[hul] at hfr
      simp only at hfr
      have hwl:=(unpack_some hul).1
      obtain⟨va,vc,rfl,hva⟩:=owns_value hrow
      have HFR2:=Lib.hid hfr;have HROW:=Lib.hid hrow
      clear hx1 hx2 hul hfr hrow
      by_cases hsq:sq=j.next
      case neg =>
       have hno:j.frame=none:=by rw[HFR2.out,if_neg (fun h=>hsq h.1)]
       have es:((sq:Int)==(j.next:Int))=false:=beq_eq_false_iff_ne.2 (by omega)
       have HNO:=Lib.hid hno
       clear hno hsq
       go_wp2_with fail
       go_ret3
       exact⟨⟨_,_,by rw[HNO.out];rfl,fun ws hw=>by rw[HNO.out] at hw;exact absurd hw (by simp)⟩,HQ1.out⟩
      subst hsq
      have hcell:∀m (hm:m<ws.length),∃g,va=some ⟨g,0,none⟩∧w1.cell? ⟨g,m*2,none⟩=some (.int .i64 (ws[m].1:Nat)):=fun m hm=>by
       obtain⟨g,rfl⟩:=hva (by omega)
       exact⟨g,rfl,owns_cells (Sl.of_owns HROW.out) (by omega) (m*2) _ (wrVs_at ws m hm).1⟩
      have HC:=Lib.hid hcell
      clear hcell hva
      go_wp2_with fail
      go_loopw [13] (fun iv wr2=>∃m:Nat,iv=.int .i64 (m:Nat)∧m≤ws.length∧Hid (∀i (hi:i<ws.length),i<m→j.home≤ws[i].1∧ws[i].1<j.d.l.length)∧Hid (Q w1 wr2)) (fun iv _=>ws.length-(intOf iv).toNat)
      case atStart=>exact⟨0,rfl,Nat.zero_le _,Lib.hid (fun i hi h=>by omega),Lib.hid (Q.refl _)⟩
      case round =>
       obtain⟨m,rfl,hm,HOKM,HQM⟩:=hrel
       have hjr:=HJ.out.keep (HQ1.out.trans HQM.out)
       obtain⟨d0,_⟩:=hjr.box.c8
       by_cases hlt2:m<ws.length
       ·have hmi:(m:Int)<(ws.length:Int):=by omega
        obtain⟨g,rfl,x1⟩:=HC.out m hlt2
        have y1:=cellQ HQM.out x1
        obtain⟨dlv,dpv,hdg⟩:=hjr.dev
        obtain⟨dla,dlc,rfl,-⟩:=hdg.lcells
        obtain⟨z0,_⟩:=hdg.box.c4
        have KK:=Lib.hid (Q.refl wr)
        have hnew:∀(hb1:j.home≤ws[m].1) (hb2:ws[m].1<j.d.l.length),∀i (hi:i<ws.length),i<m+1→j.home≤ws[i].1∧ws[i].1<j.d.l.length:=fun hb1 hb2 i hi h=>by
         by_cases he:i=m
         ·subst he;exact⟨hb1,hb2⟩
         ·exact HOKM.out i hi (by omega)
        have hbadf:¬(j.home≤ws[m].1∧ws[m].1<j.d.l.length)→j.frame=none:=fun hb=>by
         rw[HFR2.out,if_neg]
         exact fun h=>hb (h.2 _ (List.getElem_mem hlt2))
        have HNEW:=Lib.hid hnew;have HBADF:=Lib.hid hbadf
        clear hdg hjr x1 hnew hbadf
        have hlo2:=HLO.out (by first|rfl|trivial) _ (List.getElem_mem hlt2)
        have HLO2:=Lib.hid hlo2
        clear hlo2
        generalize ws[m].1=bk at *
        generalize hdn:j.d.l.length=dn at *
        generalize hhm:j.home=hm at *
        by_cases hb1:bk<hm
        ·exact absurd hb1 (by have:=HLO2.out;omega)
        ·have e1:decide ((bk:Int)<(hm:Int))=false:=decide_eq_false (by omega)
         have e1n:decide (bk<hm)=false:=decide_eq_false hb1
         by_cases hb2:bk<dn
         ·have e2:decide ((dn:Int)≤(bk:Int))=false:=decide_eq_false (by omega)
          have e2n:decide (dn≤bk)=false:=decide_eq_false (by omega)
          have hnw:=HNEW.out (by omega) hb2
          have HNW:=Lib.hid hnw
          clear hnw
          go_wp2_with fail
          (go_region_held3 (fun w'=>w'.cell? ⟨p,0,none⟩=some (ptrV b)∧w'.cell? ⟨b,0,none⟩=some (.slice dla dn dlc)∧w'.cell? ⟨g,m*2,none⟩=some (.int .i64 (bk:Nat)))
           (first|exact⟨d0,z0,y1⟩|exact three (by repeat (first|with_reducible exact KK.out|with_reducible exact Q.refl _|with_reducible apply Qs.dr|with_reducible apply Qs.al)) d0 z0 y1)
           (first
           | (go_at_call 125;with_reducible refine(CHM.out _ (HQ1.out.trans (HQM.out.trans (by repeat (first|with_reducible exact KK.out|with_reducible apply Qs.dr|with_reducible apply Qs.al))))).mono ?_;rintro e w2 ⟨rfl,rfl⟩)))
          all_goals
           have HQD:=Lib.hid (HQM.out.trans (show Q wr _ from(by repeat (first|with_reducible exact KK.out|with_reducible exact Q.refl _|with_reducible apply Qs.dr|with_reducible apply Qs.al):Q wr wr.drew)))
           clear y1 z0 d0 HNEW HBADF
           go_wp2_with fail
           go_roundw
           case rel=>exact⟨m+1,by go_num,by omega,HNW,HQD⟩
           case measure=>simp[intOf];omega
         ·have e2:decide ((dn:Int)≤(bk:Int))=true:=decide_eq_true (by omega)
          have e2n:decide (dn≤bk)=true:=decide_eq_true (by omega)
          have hno:=HBADF.out (fun h=>by omega)
          go_wp2_with fail
          (go_region_held3 (fun w'=>w'.cell? ⟨p,0,none⟩=some (ptrV b)∧w'.cell? ⟨b,0,none⟩=some (.slice dla dn dlc)∧w'.cell? ⟨g,m*2,none⟩=some (.int .i64 (bk:Nat)))
           (first|exact⟨d0,z0,y1⟩|exact three (by repeat (first|with_reducible exact KK.out|with_reducible exact Q.refl _|with_reducible apply Qs.dr|with_reducible apply Qs.al)) d0 z0 y1)
           (first
           | (go_at_call 125;with_reducible refine(CHM.out _ (HQ1.out.trans (HQM.out.trans (by repeat (first|with_reducible exact KK.out|with_reducible apply Qs.dr|with_reducible apply Qs.al))))).mono ?_;rintro e w2 ⟨rfl,rfl⟩)))
          all_goals
           have HNO:=Lib.hid hno
           clear hno y1 z0 d0 HNEW HBADF
           go_wp2_with fail
           go_ret3
           exact⟨⟨_,_,by rw[HNO.out];rfl,fun ws hw=>by rw[HNO.out] at hw;exact absurd hw (by simp)⟩,HQ1.out.trans (HQM.out.trans (by repeat (first|with_reducible exact KK.out|with_reducible exact Q.refl _|with_reducible apply Qs.dr|with_reducible apply Qs.al)))⟩
       ·have hmi:¬(m:Int)<(ws.length:Int):=by omega
        obtain rfl:m=ws.length:=by omega
        have hyes:j.frame=some ws:=by
         rw[HFR2.out,if_pos]
         exact⟨by first|rfl|trivial,fun w hw=>by
          obtain⟨i,hi,rfl⟩:=List.getElem_of_mem hw
          exact HOKM.out i hi hi⟩
        have hrw:=ownsRow_below HROW.out HQM.out
        have hlow:=owns_low (base':=w.heap.size) hrw HZL.out
        have HYES:=Lib.hid hyes;have HLOW:=Lib.hid hlow
        clear hyes hrw hlow hjr d0
        go_wp2_with fail
        go_ret3
        refine⟨⟨_,_,by rw[HYES.out];rfl,fun ws' hw=>?_⟩,HQ1.out.trans HQM.out⟩
        rw[HYES.out] at hw
        injection hw with hw
        subst hw
        exact⟨rfl,HLOW.out⟩
def OpenEnd(w:World)(F:Nat→Prop)(b:Nat)(d:DevL)(e:Ending)(w':World):Prop :=
 Turn F w w'∧(((openJ d).2=0∧∃p,e=.returned (.tuple #[ptrV p,.int .i64 0])∧JrnAt w' (grow F w w') p b (openJ d).1) ∨
  ((openJ d).2≠0∧e=.returned (.tuple #[.pointer none,.int .i64 (openJ d).2])∧DevAt w' (grow F w w') b (openJ d).1.d))
theorem JOpen_live(w:World)(F:Nat→Prop)(b:Nat)(d:DevL)(h:DevAt w F b d)(hF:∀k,F k→k<w.heap.size)(hd:d.Ok)(h2:2≤d.l.length)(hp:d.p.length≤800000)(hlive:d.dead=false):
  Calls Tryz.prog 80 #[ptrV b] w fun e w'=>OpenEnd w F b d e w':=by
 have hr:=fun (W:World) (hq:Q w W) (k:Nat)=>Read_any W F b d (k:Nat) (h.keep hq) hd.max (fun _=>by omega)
 have hb:=fun (W:World) (hq:Q w W)=>Blocks_any W F b d (h.keep hq)
 have he:∀k:Nat,k<2→d.read (k:Nat)=(d.get k,0):=fun k hk=>by unfold DevL.read;rw[DevL.chk_in hlive k (by omega),if_pos rfl];rfl
 have hgl:∀k:Nat,k<2→(d.get k).length=256:=fun k hk=>DevL.get_len hd k (by omega)
 have hts:=fun (k:Nat) (hk:k<2) (W:World)=>ToSlot_any (d.get k) d.l.length W (hgl k hk) hd.max
 have hmin:min (2:Int) (d.l.length:Int)=2:=by omega
 have hmem:=d.l.length
 have HR:=Lib.hid hr;have HB:=Lib.hid hb;have HM:=Lib.hid hmin;have HE:=Lib.hid he;have HTS:=Lib.hid hts
 have HD:=Lib.hid (And.intro h (And.intro hF (And.intro hd (And.intro h2 (And.intro hp hlive)))))
 clear hr hb he hgl hts h hF hd hmin h2 hp hlive
 go_enter Tryz.func80,Tryz.ntmps80
 go_wp2_with fail
 refine(HB.out _ (Q.alloc _ _)).mono ?_
 rintro e w1 ⟨rfl,rfl⟩
 go_wp2_with fail
 rw[HM.out]
 have hbx0:Blk (w.alloc (.cells (jbox b none) 110)) w.heap.size 110 (jbox b none):=Blk.new w _ _
 have hq0:Q w (w.alloc (.cells (jbox b none) 110)):=Q.alloc _ _
 simp only[jbox] at hbx0 hq0
 have HBX0:=Lib.hid hbx0;have HQ0:=Lib.hid hq0
 clear hbx0 hq0
 go_loopw [20] (fun v wr=>∃k:Nat,v=.int .i64 (k:Nat)∧k≤2∧Hid (Blk wr w.heap.size 110 (jbox b (pickI d k)))∧Hid (Q w wr)) (fun v _=>2-(intOf v).toNat)
 case atStart=>exact⟨0,rfl,by omega,HBX0,HQ0⟩
 case round =>
  obtain⟨k,rfl,hk,HBX,HQ⟩:=hrel
  by_cases hlt:k<2
  ·have hki:(k:Int)<2:=by omega
   have hrk:=HR.out wr HQ.out k
   rw[HE.out k hlt] at hrk
   have htk:=HTS.out k hlt
   have HRK:=Lib.hid hrk;have HTK:=Lib.hid htk
   clear hrk htk
   have hnx:pickI d (k+1)=match toSlotL (d.get k) d.l.length with
    | none=>pickI d k
    | some s=>match pickI d k with
     | none=>some (s,k)
     | some (r,i)=>if r.e<s.e then some (s,k) else some (r,i):=rfl
   have HNX:=Lib.hid hnx
   clear hnx
   generalize d.get k=tk at *
   generalize toSlotL tk d.l.length=rk at *
   generalize hpk:pickI d k=pk at *
   generalize hpk1:pickI d (k+1)=pk1 at *
   have HPK:=Lib.hid hpk1
   clear hpk1
   go_wp2_with fail
   refine HRK.out.mono ?_
   rintro e w3 ⟨rfl,q3⟩
   have HQ3:=Lib.hid (HQ.out.trans q3);have HBX3:=Lib.hid (HBX.out.stays q3)
   clear q3
   go_wp2_with fail
   refine(HB.out _ HQ3.out).mono ?_
   rintro e w4 ⟨rfl,rfl⟩
   go_wp2_with fail
   refine(HTK.out _).mono ?_
   rintro e w4 ⟨⟨s0,rfl,hs0⟩,q4⟩
   have HQ4:=Lib.hid (HQ3.out.trans q4);have HBX4:=Lib.hid (HBX3.out.stays q4);have HS0:=Lib.hid hs0
   clear q4 hs0
   cases rk with
   | none =>
    have hnx:=HNX.out
    simp only[] at hnx
    subst hnx
    go_wp2_with fail
    go_region
    all_goals
     go_wp2_with fail
     go_roundw
     case rel=>exact⟨k+1,by go_num,by omega,Lib.hid (by rw[HPK.out];exact HBX4.out.stays (Qs.dr (Qs.al (Q.refl _) _))),Lib.hid (Qs.dr (Qs.al HQ4.out _))⟩
     case measure=>simp[intOf];omega
   | some s1 =>
    obtain rfl:=HS0.out s1 rfl
    have hnx:=HNX.out
    simp only[] at hnx
    have hb4:=HBX4.out
    have hsl:=Blk.new w4 108 #[.int .u64 (s1.e:Nat),.int .u64 (s1.s:Nat),.int .i64 (s1.log:Nat),.int .i64 (s1.place:Nat)]
    have hq5:Q w4 (w4.alloc (.cells #[.int .u64 (s1.e:Nat),.int .u64 (s1.s:Nat),.int .i64 (s1.log:Nat),.int .i64 (s1.place:Nat)] 108)):=Q.alloc _ _
    have hb5:=hb4.stays hq5
    have hnew:∀cs:Array Value,cs.size=8→cs[0]?=some (ptrV b)→cs[6]?=some (.int .u64 0)→cs[7]?=some (.int .i64 0)→((((cs.setIfInBounds 1 (.int .u64 (s1.e:Nat))).setIfInBounds 2 (.int .u64 (s1.s:Nat))).setIfInBounds 3 (.int .i64 (s1.log:Nat))).setIfInBounds 4 (.int .i64 (s1.place:Nat))).setIfInBounds 5 (.int .i64 (k:Nat))=jbox b (some (s1,k)):=fun cs h1 h2 h3 h4=>by
     obtain⟨l⟩:=cs
     match l,h1,h2,h3,h4 with
     | [a0,a1,a2,a3,a4,a5,a6,a7],_,h2,h3,h4 =>
      simp at h2 h3 h4
      subst h2 h3 h4
      rfl
    cases pk with
    | none =>
     obtain⟨s0,s1',s2,s3,_⟩:=hsl.c4
     obtain⟨c0,c1,c2,c3,c4,c5,c6,c7⟩:=Blk.c8 hb5
     have f1:=hb5.frozen 1;have f2:=hb5.frozen 2;have f3:=hb5.frozen 3;have f4:=hb5.frozen 4;have f5:=hb5.frozen 5
     simp only[] at hnx
     go_upto_region 9 with fail
     generalize hw5:(w4.alloc (.cells #[.int .u64 (s1.e:Nat),.int .u64 (s1.s:Nat),.int .i64 (s1.log:Nat),.int .i64 (s1.place:Nat)] 108))=w5 at *
     clear hsl
     subst hnx
     have hq7:Q w4 w5.drew:=hq5.trans (Q.drew _)
     have HB5:=Lib.hid (hb5.stays (Q.drew _));have HQ6:=Lib.hid (HQ4.out.trans hq7);have HN:=Lib.hid hnew
     clear hw5 hq7 hb4 hnew hq5 hb5
     go_region
     all_goals
      go_wp2_with fail
      go_roundw
      case rel =>
       refine⟨k+1,by go_num,by omega,Lib.hid ?_,Lib.hid (Qs.st (Qs.st (Qs.st (Qs.st (Qs.st HQ6.out _ _ (Nat.le_refl _)) _ _ (Nat.le_refl _)) _ _ (Nat.le_refl _)) _ _ (Nat.le_refl _)) _ _ (Nat.le_refl _))⟩
       rw[HPK.out,←HN.out (jbox b none) rfl rfl rfl rfl]
       exact((((HB5.out.set 1 _).set 2 _).set 3 _).set 4 _).set 5 _
      case measure=>simp[intOf];omega
    | some ri =>
     obtain⟨r,i⟩:=ri
     simp only[] at hnx
     obtain⟨s0,s1',s2,s3,_⟩:=hsl.c4
     obtain⟨c0,c1,c2,c3,c4,c5,c6,c7⟩:=Blk.c8 hb5
     have f1:=hb5.frozen 1;have f2:=hb5.frozen 2;have f3:=hb5.frozen 3;have f4:=hb5.frozen 4;have f5:=hb5.frozen 5
     go_upto_region 9 with fail
     generalize hw5:(w4.alloc (.cells #[.int .u64 (s1.e:Nat),.int .u64 (s1.s:Nat),.int .i64 (s1.log:Nat),.int .i64 (s1.place:Nat)] 108))=w5 at *
     have hq7:Q w4 w5.drew:=hq5.trans (Q.drew _)
     have HB5:=Lib.hid (hb5.stays (Q.drew _));have HQ6:=Lib.hid (HQ4.out.trans hq7);have HN:=Lib.hid hnew
     have hi0:¬((i:Nat):Int)<0:=by omega
     clear hsl hw5 hq7 hb4 hnew hq5 hb5
     by_cases hlt2:r.e<s1.e
     ·have hl2:((r.e:Nat):Int)<((s1.e:Nat):Int):=by omega
      rw[if_pos hlt2] at hnx
      subst hnx
      clear hlt2
      go_region
      all_goals
       go_wp2_with fail
       go_roundw
       case rel =>
        refine⟨k+1,by go_num,by omega,Lib.hid ?_,Lib.hid (Qs.st (Qs.st (Qs.st (Qs.st (Qs.st HQ6.out _ _ (Nat.le_refl _)) _ _ (Nat.le_refl _)) _ _ (Nat.le_refl _)) _ _ (Nat.le_refl _)) _ _ (Nat.le_refl _))⟩
        rw[HPK.out,←HN.out (jbox b (some (r,i))) rfl rfl rfl rfl]
        exact((((HB5.out.set 1 _).set 2 _).set 3 _).set 4 _).set 5 _
       case measure=>simp[intOf];omega
     ·have hl2:¬((r.e:Nat):Int)<((s1.e:Nat):Int):=by omega
      rw[if_neg hlt2] at hnx
      subst hnx
      clear hlt2
      go_region
      all_goals
       go_wp2_with fail
       go_roundw
       case rel=>exact⟨k+1,by go_num,by omega,Lib.hid (by rw[HPK.out];exact HB5.out),HQ6⟩
       case measure=>simp[intOf];omega
  ·have hki:¬(k:Int)<2:=by omega
   obtain rfl:k=2:=by omega
   clear hki hlt hk HB HM HE HTS HR HBX0 HQ0
   obtain⟨hdev,hF,hdo,h2,hp,hlive⟩:=HD.out
   cases hpk:pickI d 2 with
   | none =>
    have hb:=HBX.out
    rw[hpk] at hb
    obtain⟨c0,c1,c2,c3,c4,c5,c6,c7⟩:=Blk.c8 hb
    have hop:=openJ_none hlive hpk
    have HOP:=Lib.hid hop;have HDV:=Lib.hid (hdev.keep HQ.out)
    clear hb hop hpk hdev hF hdo h2 hp hlive HD HBX
    go_wp2_with fail
    go_ret2
    refine⟨Turn.of_q HQ.out,.inr ⟨by rw[HOP.out];simp,by rw[HOP.out];rfl,?_⟩⟩
    rw[HOP.out]
    exact HDV.out.mono (fun k hk=>.inl hk)
   | some ri =>
    obtain⟨r,i⟩:=ri
    have hb:=HBX.out
    rw[hpk] at hb
    obtain⟨c0,c1,c2,c3,c4,c5,c6,c7⟩:=Blk.c8 hb
    have f6:=hb.frozen 6
    have hop:=openJ_some hlive hpk
    obtain⟨hi2,hts⟩:=pickI_some hpk
    obtain⟨hsl,h50,hln,hpl⟩:=toSlot_some hts
    have hso:=toSlot_ok hts
    obtain⟨j0,hj0⟩:∃j0:JL,j0=⟨d,r,i,r.s,0⟩:=⟨_,rfl⟩
    rw[←hj0] at hop
    have hb2:Blk (wr.setCell ⟨w.heap.size,6,none⟩ (.int .u64 (r.s:Nat))) w.heap.size 110 (jcells b j0):=by rw[hj0];exact hb.set 6 _
    have hq2:Q w (wr.setCell ⟨w.heap.size,6,none⟩ (.int .u64 (r.s:Nat))):=Qs.st HQ.out _ _ (Nat.le_refl _)
    have hj:JrnAt (wr.setCell ⟨w.heap.size,6,none⟩ (.int .u64 (r.s:Nat))) (grow F w (wr.setCell ⟨w.heap.size,6,none⟩ (.int .u64 (r.s:Nat)))) w.heap.size b j0:=by
     refine⟨hb2,.inr ⟨Nat.le_refl _,hb2.lt⟩,by rw[hj0];exact(hdev.keep hq2).mono (fun k hk=>.inl hk),fun k hk=>?_⟩
     rcases hk with hk|hk
     ·have:=hF k hk;have:=hq2.size;omega
     ·exact hk.2
    have hok:JOk r d.l.length 800000 j0:=by
     subst hj0
     exact⟨rfl,hdo,hlive,rfl,Nat.zero_le _,by show r.s<_;exact hso.hs,by show i≤1;omega,by show d.p.length≤_;omega⟩
    have hus:usedOf (wr.setCell ⟨w.heap.size,6,none⟩ (.int .u64 (r.s:Nat))) w.heap.size=j0.used:=by
     unfold usedOf
     rw[hb2.cell 7 (.int .i64 (j0.used:Nat)) rfl];simp
    have hi0:¬((i:Nat):Int)<0:=by omega
    have HOP:=Lib.hid hop;have HJ:=Lib.hid hj;have HOK:=Lib.hid hok;have HT:=Lib.hid (Turn.of_q (own:=F) hq2)
    have HPAR:=Lib.hid (And.intro h50 (And.intro hln (And.intro hpl hso)))
    have HFL:=Lib.hid hF
    have HUS:=Lib.hid (show usedOf _ _=j0.used from hus)
    clear hop hpk hdev hF hdo h2 hp hlive hts hsl h50 hln hpl hso hi2 hj hok hus hb HD HBX HQ
    go_upto_region 14 with fail
    go_wp2_with fail
    generalize hwj:wr.setCell ⟨w.heap.size,6,none⟩ (.int .u64 (r.s:Nat))=wj at *
    clear hwj hb2 hq2 c0 c1 c2 c3 c4 c5 c6 c7 f6 hj0
    go_loopw [10] (fun _ wr=>∃(m:Nat) (j2:JL),Hid (JL.replay (r.log+1) j0=JL.replay m j2)∧Hid (r.log+1≤m+j2.used)∧Hid (JrnAt wr (grow F w wr) w.heap.size b j2)∧Hid (Turn F w wr)∧Hid (JOk r d.l.length 800000 j2)∧Hid (usedOf wr w.heap.size=j2.used)) (fun _ wr=>r.log+1-usedOf wr w.heap.size)
    case atStart=>exact⟨r.log+1,j0,Lib.hid rfl,Lib.hid (by omega),HJ,HT,HOK,HUS⟩
    case round =>
     obtain⟨m,j2,HRP,HM2,HJ2,HT2,HOK2,HU2⟩:=hrel
     obtain⟨h50,hln,hpl,hso⟩:=HPAR.out
     have hnum:=HOK2.out.num h50 hln hpl hso (Nat.le_refl _)
     have hlv:=HOK2.out.live
     have hll:2+j2.s.log≤j2.d.l.length:=by rw[HOK2.out.sl,HOK2.out.len];omega
     have hus:j2.used≤j2.s.log:=by rw[HOK2.out.sl];exact HOK2.out.used
     have hfr:=JFrame_any wr (grow F w wr) w.heap.size b j2 HJ2.out hnum hlv hll hus
     obtain⟨m',rfl⟩:∃m',m=m'+1:=⟨m-1,by have:=HM2.out;have:=HOK2.out.used;omega⟩
     have HFR:=Lib.hid hfr;have HNU:=Lib.hid hnum
     clear h50 hln hpl hso hnum hlv hll hus hfr
     cases hf:j2.frame with
     | none =>
      have hrp:=HRP.out
      rw[replay_none hf] at hrp
      have hop:=HOP.out
      rw[hrp,if_pos rfl] at hop
      have ck:=fun (W:World) (q:Q wr W)=>Ckpt_any W (grow F w wr) w.heap.size b j2 (HJ2.out.keep q) HNU.out
      have HOP2:=Lib.hid hop;have CK:=Lib.hid ck;have HF:=Lib.hid hf
      rw[hf] at HFR
      clear hrp hop ck hf
      go_wp2_with fail
      refine HFR.out.mono ?_
      rintro e w3 ⟨⟨v,rfl,-⟩,q3⟩
      have HQ3:=Lib.hid q3
      clear q3
      go_wp2_with fail
      refine(CK.out _ HQ3.out).mono ?_
      rintro e w4 ⟨rfl,h4,t4⟩
      have ht:=HT2.out.step ((Turn.of_q HQ3.out).trans t4)
      have h4':JrnAt w4 (grow F w w4) w.heap.size b j2.ckpt.1:=h4.mono (fun k hk=>hk.elim (fun hk=>hk.elim .inl (fun hk=>.inr ⟨hk.1,Nat.lt_of_lt_of_le hk.2 (Nat.le_trans HQ3.out.size t4.size)⟩)) (fun hk=>.inr ⟨Nat.le_trans HT2.out.size (Nat.le_trans HQ3.out.size hk.1),hk.2⟩)) (fun k hk=>hk.elim (fun hk=>by have:=HFL.out k hk;have:=ht.size;omega) (fun hk=>hk.2))
      have H4:=Lib.hid h4';have HT4:=Lib.hid ht
      clear h4 t4 ht h4'
      by_cases hz:j2.ckpt.2=0
      ·have hb:(j2.ckpt.2==0)=true:=beq_iff_eq.2 hz
       have HZ:=Lib.hid hz
       clear hz
       go_wp2_with fail
       go_ret2
       refine⟨HT4.out,.inl ⟨by rw[HOP2.out];exact HZ.out,_,rfl,?_⟩⟩
       rw[HOP2.out];exact H4.out
      ·have hb:(j2.ckpt.2==0)=false:=beq_eq_false_iff_ne.2 hz
       have HZ:=Lib.hid hz
       clear hz
       go_wp2_with fail
       go_ret2
       refine⟨HT4.out,.inr ⟨by rw[HOP2.out];exact HZ.out,by rw[HOP2.out];rfl,?_⟩⟩
       rw[HOP2.out];exact H4.out.dev
     | some ws =>
      have hrp:=HRP.out
      rw[replay_some hf] at hrp
      obtain⟨f1,f2,f3⟩:=frame_some hf
      have hadv:=fun hz=>HOK2.out.adv hf hz
      have hpp:j2.d.p.length+ws.length≤1000000:=by have:=HNU.out.plen HOK2.out.live;omega
      rw[hf] at HFR
      have cw:=fun (W:World) (q:Q wr W) (v:Value) (hv:W.ownsRow wr.heap.size 102 2 v ws.length (wrVs ws))=>Writes_any W (fun k=>grow F w wr k∧k≠w.heap.size) b j2.d v ws ((HJ2.out.dev.minus HJ2.out.box).keep q) HNU.out.ok (fun _=>hpp) (WrArg.own (w0:=wr) hv (fun k hk=>HJ2.out.lt k hk.1) (fun x hx=>by have:=(f3 x hx).1;have:=HNU.out.ok.max;have:=(f3 x hx).2;omega)) (by omega)
      have hul:j2.used+ws.length+1≤r.log:=by have h1:=HOK2.out.sl;have:=HOK2.out.used;rw[h1] at f1;omega
      have HRP2:=Lib.hid hrp;have HADV:=Lib.hid hadv;have CW:=Lib.hid cw;have HUL:=Lib.hid hul
      clear hf hrp f1 f3 hadv hpp cw hul
      go_wp2_with fail
      refine HFR.out.mono ?_
      rintro e w3 ⟨⟨v,rfl,hv⟩,q3⟩
      have hv:=hv ws rfl
      have HQ3:=Lib.hid q3;have cw:=CW.out _ q3 v hv
      obtain⟨va,vc,rfl,_⟩:=owns_value hv
      have CWW:=Lib.hid cw
      clear q3 hv cw CW
      go_wp2_with fail
      refine CWW.out.mono ?_
      rintro e w4 ⟨rfl,h4,t4⟩
      have hst:=JrnAt.step HJ2.out.box HQ3.out t4 h4 HJ2.out.lt HJ2.out.fp
      have hus4:usedOf w4 w.heap.size=j2.used:=by unfold usedOf;rw[hst.1.box.cell 7 (.int .i64 (j2.used:Nat)) rfl];simp
      have HST:=Lib.hid hst
      clear h4 t4 hst
      generalize hdw:j2.d.writes ws=dw at *
      by_cases hz:dw.2=0
      ·have hb:(dw.2==0)=true:=beq_iff_eq.2 hz
       have hrp:=HRP2.out
       rw[if_pos hz] at hrp
       have hok3:=HADV.out hz
       have ca:=Advance_any w4 w.heap.size b { j2 with d:=dw.1 } ws.length HST.out.1.box (by show j2.used≤_;exact HNU.out.used) (by omega) (by show j2.next<_;exact HNU.out.next)
       have HRP3:=Lib.hid hrp;have HOK3:=Lib.hid hok3;have CA:=Lib.hid ca
       clear hz hrp hok3 ca
       go_wp2_with fail
       refine CA.out.mono ?_
       rintro e w5 ⟨rfl,h5,t5,hz5⟩
       have hj5:=HST.out.1.turned h5 rfl t5
       have ht5:Turn F w w5:=(HT2.out.step HST.out.2).step (t5.mono (fun k hk=>by subst hk;exact .inr ⟨Nat.le_refl _,HST.out.1.box.lt⟩))
       have hj5':JrnAt w5 (grow F w w5) w.heap.size b ({ j2 with d:=dw.1 }.advance ws.length):=hj5.mono (fun k hk=>grow_trans HT2.out.size (by rw[hz5];exact HST.out.2.size) (hk.elim .inl (fun hk=>.inr ⟨hk.1,by rw[hz5];exact hk.2⟩))) (fun k hk=>hk.elim (fun hk=>by have:=HFL.out k hk;have:=ht5.size;omega) (fun hk=>hk.2))
       have hu5:usedOf w5 w.heap.size=j2.used+ws.length+1:=by unfold usedOf;rw[h5.cell 7 (.int .i64 ((j2.used+ws.length+1:Nat):Int)) rfl];exact Int.toNat_natCast _
       have HJ5:=Lib.hid hj5';have HT5:=Lib.hid ht5;have HU5:=Lib.hid hu5
       clear h5 t5 hz5 hj5 ht5 hj5' hu5
       go_wp2_with fail
       go_roundw
       case rel=>exact⟨m',_,HRP3,Lib.hid (by show r.log+1≤m'+(j2.used+ws.length+1);have:=HM2.out;omega),HJ5,HT5,HOK3,HU5⟩
       case measure=>rw[HU5.out,HU2.out];have:=HUL.out;omega
      ·have hb:(dw.2==0)=false:=beq_eq_false_iff_ne.2 hz
       have hrp:=HRP2.out
       rw[if_neg hz] at hrp
       have hop:=HOP.out
       rw[hrp,if_neg hz] at hop
       have HOP2:=Lib.hid hop;have HZ:=Lib.hid hz
       clear hz hrp hop
       go_wp2_with fail
       go_ret2
       refine⟨HT2.out.step HST.out.2,.inr ⟨by rw[HOP2.out];exact HZ.out,by rw[HOP2.out];rfl,?_⟩⟩
       rw[HOP2.out]
       exact HST.out.1.dev.mono (fun k hk=>grow_trans HT2.out.size HST.out.2.size hk)
theorem JOpen_any(w:World)(F:Nat→Prop)(b:Nat)(d:DevL)(h:DevAt w F b d)(hF:∀k,F k→k<w.heap.size)(hd:d.Ok)(h2:2≤d.l.length)(hp:d.dead=false→d.p.length≤800000):
  Calls Tryz.prog 80 #[ptrV b] w fun e w'=>OpenEnd w F b d e w':=by
 cases hl:d.dead with
 | false=>exact JOpen_live w F b d h hF hd h2 (hp hl) hl
 | true =>
  refine(JOpen_dead w F b d h hd h2 hl).mono ?_
  rintro e w' ⟨rfl,q⟩
  refine⟨Turn.of_q q,.inr ⟨by rw[openJ_dead hl];simp,by rw[openJ_dead hl],?_⟩⟩
  rw[openJ_dead hl]
  exact(h.keep q).mono (fun k hk=>.inl hk)
end
end Go.Proofs.YthcpkgfieoneeaaGreatDoor
