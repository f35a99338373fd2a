/- Joined texts of one proof: what is needed of WJrnJ. -/
import Derived.Test.YthcpkgfieoneeaaGreatDoorJPWJrnG
import Derived.Test.YthcpkgfieoneeaaGreatDoorJPWFrmD
import Derived.Deep.RegionHeld3
set_option linter.unusedSimpArgs false
set_option linter.unusedVariables false
set_option linter.unnecessarySimpa false
set_option maxRecDepth 100000
set_option maxHeartbeats 16000000
namespace Go.Proofs.YthcpkgfieoneeaaGreatDoor
section
open Go.RowKit
def tailB(ws:List WrL):List Bytes:=ws.map (·.2)++[noughtsL]
theorem logW_take(j:JL)(ws:List WrL)(k:Nat)(hk:k<(tailB ws).length):(j.logW ws).take (k+1)=(j.logW ws).take k++[(j.place (k+1),(tailB ws)[k])]:=by
 have hl:(j.logW ws).length=(tailB ws).length:=by simp[JL.logW,tailB]
 rw[List.take_succ_eq_append_getElem (by omega)]
 congr 2
 simp only[JL.logW,List.getElem_map,List.getElem_zipIdx,tailB,Nat.zero_add]
theorem logW_len(j:JL)(ws:List WrL):(j.logW ws).length=ws.length+1:=by simp[JL.logW]
theorem tailB_len(ws:List WrL):(tailB ws).length=ws.length+1:=by simp[tailB]
theorem grow_wide{F:Nat→Prop}{A A' B:World}(h:A.heap.size≤A'.heap.size){k:Nat}(hk:grow F A' B k):grow F A B k:=hk.elim .inl (fun hk=>.inr ⟨Nat.le_trans h hk.1,hk.2⟩)
theorem JrnAt.back{w w2 w5 w':World}{F:Nat→Prop}{p b:Nat}{j:JL}(h:JrnAt w' (grow (grow F w2 w5) w5 w') p b j)(h1:w.heap.size≤w2.heap.size)(h2:w2.heap.size≤w5.heap.size)(h3:w5.heap.size≤w'.heap.size)(hF:∀k,F k→k<w.heap.size):JrnAt w' (grow F w w') p b j :=
 h.mono (fun k hk=>hk.elim (fun hk=>hk.elim .inl (fun hk=>.inr ⟨Nat.le_trans h1 hk.1,Nat.lt_of_lt_of_le hk.2 h3⟩)) (fun hk=>.inr ⟨Nat.le_trans h1 (Nat.le_trans h2 hk.1),hk.2⟩)) (fun k hk=>hk.elim (fun hk=>by have:=hF k hk;omega) (fun hk=>hk.2))
theorem lays_flushed{d:DevL}{ws:List WrL}(h:(d.lays ws).2=0):(d.lays ws).1.p=[]:=by
 unfold DevL.lays at h ⊢
 split
 ·rename_i hz
  rw[if_pos hz] at h
  unfold DevL.flush at h ⊢
  split
  ·rename_i hd
   rw[if_pos hd] at h;simp at h
  ·rename_i hd
   rw[if_neg hd] at h
   split
   ·rename_i hf
    rw[if_pos hf] at h;simp at h
   ·rfl
 ·rename_i hz
  rw[if_neg hz] at h;exact absurd h hz
theorem JNum.ckpt{j:JL}(h:JNum j)(hz:j.ckpt.2=0):JNum j.ckpt.1∧j.ckpt.1.next=j.next∧j.ckpt.1.s.log=j.s.log:=by
 have hn:=h.nslot
 have hl1:j.ckpt1.1.Ok:=DevL.lays_ok h.ok _
 have hl2:j.ckpt2.1.Ok:=DevL.lays_ok hl1 _
 have h1:¬j.ckpt1.2≠0:=fun hc=>by unfold JL.ckpt at hz;rw[if_pos hc] at hz;exact hc hz
 have h2:¬j.ckpt2.2≠0:=fun hc=>by unfold JL.ckpt at hz;rw[if_neg h1,if_pos hc] at hz;exact hc hz
 have e:j.ckpt=(⟨j.ckpt2.1,j.nextSlot,1-j.k,j.next,0⟩,0):=by unfold JL.ckpt;rw[if_neg h1,if_neg h2]
 have hp:j.ckpt2.1.p=[]:=lays_flushed (by have:j.ckpt2.2=0:=Decidable.not_not.1 h2;exact this)
 rw[e]
 have hpl:j.nextSlot.place≤1000000:=by have:=Nat.mod_lt (j.s.place+j.used) h.log;have:=h.log2;show(j.s.place+j.used)%j.s.log≤_;omega
 exact⟨⟨h.log,h.log2,hpl,Nat.zero_le _,hn.he,hn.hs,h.next,by show 1-j.k≤1;omega,hl2,fun _=>by show j.ckpt2.1.p.length≤_;rw[hp];exact Nat.zero_le _⟩,rfl,rfl⟩
theorem JCommit_any(w:World)(F:Nat→Prop)(p b:Nat)(j:JL)(lv:Value)(ws:List WrL)(h:JrnAt w F p b j)(hn:JNum j)(hw:WrOk ws)(hh:∀x∈ws,j.home≤x.1∧x.1<j.d.l.length)(hl:WrArg w F lv ws)(hu:j.used≤j.s.log):
  Calls Tryz.prog 68 #[ptrV p,lv] w fun e w'=>e=.returned (.int .i64 (j.commit ws).2)∧JrnAt w' (grow F w w') p b (j.commit ws).1∧Turn F w w':=by
 have hck:=JCheck_any w F p b j lv ws h hl.sl.1 hw hh hn.log2
 have hpk:=fun (W:World) (hq:Q w W)=>Pack_any W j.next hn.next lv ws (hl.sl.1.stays hq) hw
 obtain⟨c0,c1,c2,c3,c4,c5,c6,c7⟩:=h.box.c8
 have hlog:=hn.log2;have hus:=hn.used
 have hwr:IntKind.i64.wrap ((j.s.log:Int)-(j.used:Int))=(j.s.log:Int)-(j.used:Int):=IntWalk.i64_in _ (by omega)
 have hn1:=hw.1;have hn2:=hw.2.1
 have hwl:IntKind.i64.wrap (((ws.length+1:Nat):Int)+1)=((ws.length+1:Nat):Int)+1:=IntWalk.i64_in _ (by omega)
 have HCK:=Lib.hid hck;have HPK:=Lib.hid hpk;have HJ:=Lib.hid h;have HN:=Lib.hid hn;have HL:=Lib.hid hl;have HW:=Lib.hid hw
 clear hck hpk h hn hl hw hh
 go_enter Tryz.func68,Tryz.ntmps68
 go_wp2_with fail
 refine HCK.out.mono ?_
 rintro e w1 ⟨rfl,q1⟩
 have d6:=cellQ q1 c6
 have HQ1:=Lib.hid q1
 clear q1
 go_wp2_with fail
 refine(HPK.out _ HQ1.out).mono ?_
 rintro e w2 ⟨fv,rfl,hfv,q2⟩
 have hq2:=HQ1.out.trans q2
 have e3:=cellQ hq2 c3;have e7:=cellQ hq2 c7
 have hfv2:=owns_low hfv HQ1.out.size
 obtain⟨fa,fc,rfl,hfa⟩:=owns_value hfv2
 obtain⟨fg,rfl⟩:=hfa (by omega)
 obtain⟨hfg1,hfg2,hfc⟩:fg<w2.heap.size∧w.heap.size≤fg∧ws.length+1≤fc:=by
  rcases hfv2.2 with ⟨hx,_⟩|⟨g,cap,cur,hve,hbb,hgg,hcap,_⟩
  ·cases hx
  ·injection hve with e1 e2 e3
   injection e1 with e1
   injection e1 with e1
   subst e1;subst e3
   exact⟨lt_of_get hgg,hbb,hcap⟩
 have HQ2:=Lib.hid hq2;have HFV:=Lib.hid hfv2;have HFG:=Lib.hid (And.intro hfg1 hfg2)
 have hlx:WrArg w2 (grow F w2 w2) lv ws:=⟨⟨HL.out.sl.1.stays hq2,fun hn=>by
  obtain⟨kb,ko,e1,e2,e3⟩:=HL.out.sl.2 hn
  exact⟨kb,ko,e1,Nat.lt_of_lt_of_le e2 hq2.size,fun hk=>hk.elim e3 (fun hk=>by omega)⟩⟩,HL.out.num⟩
 have HLX:=Lib.hid hlx
 have hfc1:¬fc=1:=by omega
 clear q2 hfv hq2 hfv2 d6 hfa hlx hfg1 hfg2
 have hroomc:ws.length+2>j.s.log-j.used∨¬ws.length+2>j.s.log-j.used:=Decidable.em _
 rcases hroomc with hroom|hroom
 ·have hgt:(j.s.log:Int)-(j.used:Int)<((ws.length+1:Nat):Int)+1:=by omega
  have hcm:j.commit ws=if j.ckpt.2≠0 then j.ckpt else j.ckpt.1.com ws:=by unfold JL.commit;rw[if_pos hroom]
  have cck:=Ckpt_any w2.drew F p b j (HJ.out.keep (HQ2.out.trans (Q.drew _))) HN.out
  have HCM:=Lib.hid hcm;have CCK:=Lib.hid cck
  clear hcm cck
  go_wp2_with fail
  go_region
  all_goals
   go_wp2_with fail
   refine CCK.out.mono ?_
   rintro e w5 ⟨rfl,h5,t5⟩
   have hz5:w2.heap.size≤w5.heap.size:=t5.size
   have H5:=Lib.hid h5;have T5:=Lib.hid t5
   clear h5 t5
   by_cases hz:j.ckpt.2=0
   ·have hb:(j.ckpt.2==0)=true:=beq_iff_eq.2 hz
    obtain⟨hn1',hnx1,hlg1⟩:=HN.out.ckpt hz
    have hcm:=HCM.out
    rw[if_neg (by rw[hz];decide)] at hcm
    have HCM1:=Lib.hid hcm;have HN1:=Lib.hid hn1';have HNX:=Lib.hid hnx1
    have hff1:=(T5.out.owns (show w2.drew.ownsRow _ _ _ _ _ _ from HFV.out) (fun g hg hF=>by
     simp only[Value.ownBlock,Option.some.injEq] at hg
     subst hg
     have:=HJ.out.lt _ hF;have:=HFG.out.2;omega))
    have HF1:=Lib.hid hff1
    have hT:=(Turn.of_q (own:=F) (HQ2.out.trans (Q.drew _))).trans T5.out
    have HT1:=Lib.hid hT
    have hlx0:SlO w2.drew F lv ws.length 2 (wrVs ws):=⟨HLX.out.sl.1.stays (Q.drew _),fun hn=>by
     obtain⟨kb,ko,e1,e2,e3⟩:=HLX.out.sl.2 hn
     exact⟨kb,ko,e1,e2,fun hk=>e3 (.inl hk)⟩⟩
    have hlx5:WrArg w5 (grow F w2 w5) lv ws:=⟨show SlO w5 (grow F w2.drew w5) lv ws.length 2 (wrVs ws) from SlO.keep hlx0 T5.out,HLX.out.num⟩
    have HL1:=Lib.hid hlx5
    have h5':JrnAt w5 (grow F w2 w5) p b j.ckpt.1:=H5.out
    have HJ1:=Lib.hid h5'
    clear hcm hn1' hnx1 hff1 hT hlx0 hlx5 h5' hz hlg1
    generalize hj1:j.ckpt.1=j1 at *
    clear hj1
    have hzs:((ws.map fun x=>(⟨x.2.toArray⟩:ByteArray)).take ws.length).map Value.string=(ws.map (·.2)).map strV:=by
     rw[List.take_of_length_le (by simp),List.map_map,List.map_map];rfl
    have hcl:=fun (W:World) (hq:Q w5 W)=>Tryz.slices_Clone_string fg 1 ws.length (fc-1) (ws.map fun x=>⟨x.2.toArray⟩) W (by simp) (by omega) (fun i hi=>by
     have hi':i<ws.length:=by simpa using hi
     have h1:=owns_cells (Sl.of_owns HF1.out) (by omega) (1+i) (strV ws[i].2) (by simp[packL,Nat.add_comm 1 i,hi'])
     rw[cellQ hq h1]
     simp[List.getD_eq_getElem?_getD,hi'])
    rw[hzs] at hcl
    have hno:=fun (W:World)=>Noughts_any W
    obtain⟨i0,hi0,hz0,hz1,hz2⟩:=info_parts tinfoSt
    obtain⟨i1,hi1,hy0,hy1,hy2⟩:=info_parts tinfoWr
    have HCL:=Lib.hid hcl;have HNO:=Lib.hid hno
    clear hzs hcl hno
    go_wp2_with fail
    refine(HCL.out _ (Q.refl _)).mono ?_
    rintro e w6 ⟨cv,rfl,hcv,-,q6⟩
    have HQ6:Hid (Q w5 w6):=Lib.hid q6;have HCV:=Lib.hid hcv
    clear q6 hcv
    go_wp2_with fail
    refine(HNO.out _).mono ?_
    rintro e w7 ⟨rfl,q7⟩
    have hq7:=HQ6.out.trans q7
    have HCV7:=Lib.hid (ownsRow_below HCV.out q7)
    have HQ7:=Lib.hid hq7
    have hc1:∀u∈#[strV noughtsL].toList,u.oneCell'=true:=by intro u hu;simp at hu;subst hu;rfl
    have hc2:(ws.length+1)*16≤140737488355328:=by omega
    have HC1:=Lib.hid hc1;have HC2:=Lib.hid hc2
    clear q7 hq7 hc1 hc2 HCV
    generalize hnn:noughtsL=nn at *
    go_wp2_with (at_builtin;refine wpList_app w7 (by rfl) _ _ 47 (by rfl) w5.heap.size 9 _ i0 (strV []) 1 16 Tryz.underlying47 hi0 hz0 hz1 hz2 rfl (by decide) (by decide) _ _ _ (by rfl) HCV7.out #[strV nn] (by rfl) rfl HC1.out HC2.out HQ7.out.size ?_)
    intro g8 cap8 w8 hr8 hg8 ho8 hlt8 hlt8b
    have hq8:Q w5 w8:=grown_below HQ7.out HCV7.out hg8 (Nat.le_refl _) HQ7.out.size
    have hr8':w8.ownsRow w5.heap.size 9 1 (.slice (some ⟨g8,0,none⟩) (ws.length+1) cap8) (ws.length+1) ((tailB ws).map strV):=by
     unfold tailB;rw[hnn,List.map_append,List.map_map];exact hr8
    have HQ8:=Lib.hid hq8;have HR8:=Lib.hid hr8'
    clear hr8 hg8 ho8 hlt8 hlt8b hq8 hr8'
    go_wp2_with fail
    have hrow0:w8.ownsRow w8.heap.size 102 2 (.slice none 0 0) 0 (wrVs ((j1.logW ws).take 0)):=World.ownsRow_nil _ _ _ _
    have hpl:=fun (W:World) (hq:Q w8 W) (k:Nat) (hk:k≤1000000)=>Place_any W p b j1 k (HJ1.out.box.stays (HQ8.out.trans hq)) HN1.out.log HN1.out.log2 HN1.out.place HN1.out.used hk
    have htk:=logW_take j1 ws
    have HPL:=Lib.hid hpl;have HTK:=Lib.hid htk
    have HNN:=Lib.hid hnn
    clear hpl htk hnn
    go_loopw [9,55] (fun v i wr=>∃k:Nat,i=.int .i64 (k:Nat)∧k≤ws.length+1∧Hid (wr.ownsRow w8.heap.size 102 2 v k (wrVs ((j1.logW ws).take k)))∧Hid (Q w8 wr)) (fun _ i _=>ws.length+1-(intOf i).toNat)
    case atStart=>exact⟨0,rfl,Nat.zero_le _,hrow0,Lib.hid (Q.refl _)⟩
    case round =>
     obtain⟨k,rfl,hk,HOW,HQr⟩:=hrel
     by_cases hlt:k<ws.length+1
     ·have hki:(k:Int)<(ws.length:Int)+1:=by omega
      have hki0:(0:Int)≤(k:Int):=by omega
      have htl:k<(tailB ws).length:=by rw[tailB_len];exact hlt
      have x1:=owns_cells (Sl.of_owns (ownsRow_below HR8.out HQr.out)) (by omega) k (strV (tailB ws)[k]) (by simp[htl])
      have hpk:=HPL.out wr HQr.out (k+1) (by omega)
      have hst:=HTK.out k htl
      have HPK1:=Lib.hid hpk;have HST:=Lib.hid hst
      clear hpk hst
      generalize (tailB ws)[k]=sk at *
      generalize j1.place (k+1)=plk at *
      go_wp2_with fail
      refine HPK1.out.mono ?_
      rintro e w10 ⟨rfl,q10⟩
      have hq10:=HQr.out.trans q10
      have HO10:=Lib.hid (ownsRow_below HOW.out q10)
      have HQ10:Hid (Q w8 w10):=Lib.hid hq10
      have hc1:∀u∈#[Value.int .i64 (plk:Nat),strV sk].toList,u.oneCell'=true:=by intro u hu;simp at hu;rcases hu with rfl|rfl<;>rfl
      have hc2:(k+1)*24≤140737488355328:=by omega
      have HC3:=Lib.hid hc1;have HC4:=Lib.hid hc2
      clear q10 hq10 hc1 hc2 x1
      go_wp2_with (at_builtin;refine wpList_app w10 (by rfl) _ _ 49 (by rfl) w8.heap.size 102 _ i1 (.agg #[.int .i64 0,strV []]) 2 24 Tryz.underlying49 hi1 hy0 hy1 hy2 rfl (by decide) (by decide) _ _ _ (by rfl) HO10.out #[.int .i64 (plk:Nat),strV sk] (by rfl) rfl HC3.out HC4.out HQ10.out.size ?_)
      intro g11 cap11 w11 hr11 hg11 ho11 hlt11 hlt11b
      have hq11:Q w8 w11:=grown_below HQ10.out HO10.out hg11 (Nat.le_refl _) HQ10.out.size
      have hr11':w11.ownsRow w8.heap.size 102 2 (.slice (some ⟨g11,0,none⟩) (k+1) cap11) (k+1) (wrVs ((j1.logW ws).take (k+1))):=by
       rw[HST.out,wrVs_append,show wrVs [(plk,sk)]=encW (plk,sk) by simp[wrVs]];exact hr11
      have HQ11:=Lib.hid hq11;have HR11:=Lib.hid hr11'
      clear hr11 hg11 ho11 hlt11 hlt11b hq11 hr11'
      go_wp2_with fail
      go_roundw
      case rel=>exact⟨k+1,by go_num,by omega,HR11,HQ11⟩
      case measure=>simp[intOf];omega
     ·have hki:¬(k:Int)<(ws.length:Int)+1:=by omega
      obtain rfl:k=ws.length+1:=by omega
      have hrow:=HOW.out
      rw[List.take_of_length_le (by rw[logW_len];exact Nat.le_refl _)] at hrow
      have hq5:Q w5 wr:=HQ8.out.trans HQr.out
      have hcl:=Lays_any wr (fun k=>grow F w2 w5 k∧k≠p) p b j1 u9 (j1.logW ws) (HJ1.out.box.stays hq5) ((HJ1.out.dev.minus HJ1.out.box).keep hq5) HN1.out.ok (fun hx=>by have:=HN1.out.plen hx;rw[logW_len];omega) (WrArg.own (w0:=w8) (by rw[logW_len];exact hrow) (fun k hk=>by have:=HJ1.out.lt k hk.1;have:=HQ8.out.size;omega) (fun x hx=>by
       obtain⟨i,hi,rfl⟩:=(logW_mem j1 ws x).1 hx
       have hlg:=logAt_lt j1.s (j1.used+(i+1)) HN1.out.log
       have hl2:=HN1.out.log2
       refine⟨by show j1.place (i+1)≤_;unfold JL.place;omega,?_⟩
       have h256:((ws.map (·.2)++[noughtsL]).getD i []).length=256:=by
        have hi':i<(ws.map (·.2)++[noughtsL]).length:=by simp;omega
        refine DevL.getD_mem_length (fun s hs=>?_) hi'
        rcases List.mem_append.1 hs with hs|hs
        ·obtain⟨y,hy,rfl⟩:=List.mem_map.1 hs
         exact(HW.out.2.2 y hy).2
        ·rw[List.mem_singleton] at hs;subst hs;exact noughts_len
       show((ws.map (·.2)++[noughtsL]).getD i []).length≤_
       rw[h256];omega)) (by rw[logW_len];omega) (fun hc=>hc.2 rfl)
      have hcm:j1.com ws=if (j1.com1 ws).2≠0 then({ j1 with d:=(j1.com1 ws).1 },(j1.com1 ws).2) else if (j1.com2 ws).2≠0 then({ j1 with d:=(j1.com2 ws).1 },(j1.com2 ws).2) else
       ({ j1 with d:=(j1.com3 ws).1 }.advance ws.length,(j1.com3 ws).2):=rfl
      have hc1:j1.d.lays (j1.logW ws)=j1.com1 ws:=rfl
      rw[hc1] at hcl
      have HCL1:=Lib.hid hcl;have HCMX:=Lib.hid (HCM1.out.trans hcm);have HQ5:=Lib.hid hq5
      have hok1:(j1.com1 ws).1.Ok:=DevL.lays_ok HN1.out.ok _
      have HOK1:=Lib.hid hok1
      clear hrow hq5 hcl hcm hc1 hok1
      go_wp2_with fail
      refine HCL1.out.mono ?_
      rintro e w12 ⟨rfl,h12,t12⟩
      have hst:=JrnAt.step HJ1.out.box HQ5.out t12 h12 HJ1.out.lt HJ1.out.fp
      have HS12:=Lib.hid hst
      have HSZ:=Lib.hid (And.intro HQ2.out.size (And.intro hz5 hst.2.size))
      clear h12 t12 hst
      by_cases hz:(j1.com1 ws).2=0
      ·have hb2:((j1.com1 ws).2==0)=true:=beq_iff_eq.2 hz
       have hcm:=HCMX.out
       rw[if_neg (by rw[hz];decide)] at hcm
       have hnF:¬grow F w2 w5 fg:=fun hk=>hk.elim (fun hk=>by have:=HJ.out.lt fg hk;have:=HFG.out.2;omega) (fun hk=>by have:=HFG.out.1;omega)
       have x0:=HS12.out.2.cell (owns_cells (Sl.of_owns HF1.out) (by omega) 0 (strV (headL j.next ws)) (by simp[packL])) hnF
       have cpl:∀(W:World),Q w12 W→Calls Tryz.prog 109 #[ptrV p,.int .i64 0] W fun e w'=>e=.returned (.int .i64 (j1.place 0:Nat))∧Q W w':=fun (W:World) (hq:Q w12 W)=>Place_any W p b { j1 with d:=(j1.com1 ws).1 } 0 (HS12.out.1.box.stays hq) HN1.out.log HN1.out.log2 HN1.out.place HN1.out.used (by omega)
       have cl2:=fun (V:World) (hq:Q w12 V) (lv:Value) (ha:WrArg V (fun k=>grow (grow F w2 w5) w5 w12 k∧k≠p) lv [(j1.place 0,headL j.next ws)])=>Lays_any V (fun k=>grow (grow F w2 w5) w5 w12 k∧k≠p) p b { j1 with d:=(j1.com1 ws).1 } lv [(j1.place 0,headL j.next ws)] (HS12.out.1.box.stays hq) ((HS12.out.1.dev.minus HS12.out.1.box).keep hq) HOK1.out (fun hx=>by
        show(j1.com1 ws).1.p.length+1≤_
        rw[show(j1.com1 ws).1.p=[] from lays_flushed hz];simp) ha (by simp) (fun hc=>hc.2 rfl)
       have hc2:({ j1 with d:=(j1.com1 ws).1 }:JL).d.lays [(j1.place 0,headL j.next ws)]=j1.com2 ws:=by rw[←HNX.out];rfl
       rw[hc2] at cl2
       have hnw:=fun (V:World) (hq:Q w12 V)=>wrArg_one (w:=V) (F:=fun k=>grow (grow F w2 w5) w5 w12 k∧k≠p) (j1.place 0,headL j.next ws) (fun hc=>by have:=HS12.out.1.lt _ hc.1;have:=hq.size;omega) (by have hlg:=logAt_lt j1.s (j1.used+0) HN1.out.log;have hl2:=HN1.out.log2;show j1.place 0≤_;unfold JL.place;omega) (by show(headL j.next ws).length≤_;rw[headL_length j.next ws (by omega)];omega) 102
       have hok2:(j1.com2 ws).1.Ok:=by rw[←hc2];exact DevL.lays_ok HOK1.out _
       have CPL:=Lib.hid cpl;have CL2:=Lib.hid cl2;have HNW:=Lib.hid hnw;have HCMY:=Lib.hid hcm;have HOK2:=Lib.hid hok2;have HNF:=Lib.hid hnF
       have hnb:¬(grow (grow F w2 w5) w5 w12 fg∧fg≠p):=fun hc=>by
        rcases hc.1 with hk|hk
        ·exact hnF hk
        ·have:=HFG.out.1;have:=HSZ.out.2.1;omega
       have HNB:=Lib.hid hnb
       have KK:=Lib.hid (Q.refl w12)
       clear hz hcm cpl cl2 hnw hc2 hok2 hnF hnb
       generalize headL j.next ws=hd at *
       generalize j1.place 0=pl0 at *
       go_upto_region 18 with fail
       go_region_held3 (fun w'=>w'.cell? ⟨fg,0,none⟩=some (strV hd))
        (first|exact g0|exact x0|exact cellQ (by repeat (first|with_reducible exact KK.out|with_reducible exact Q.refl _|with_reducible apply Qs.dr|with_reducible apply Qs.al)) x0)
        (first
         | (go_at_call 109;with_reducible refine(CPL.out _ (by repeat (first|with_reducible exact KK.out|with_reducible apply Qs.dr|with_reducible apply Qs.al))).mono ?_;rintro e w13 ⟨rfl,q13⟩;have s':Q w12 w13:=Q.trans (by repeat (first|with_reducible exact KK.out|with_reducible apply Qs.dr|with_reducible apply Qs.al)) q13;clear KK;have KK:=Lib.hid s';clear s' q13)
         | (go_at_call 110;with_reducible refine(CL2.out _ (Qs.al KK.out _) _ (HNW.out _ KK.out)).mono ?_;rintro e w14 ⟨rfl,h14,t14⟩;have g0:=t14.cell (cellQ (Qs.al KK.out _) x0) HNB.out;have hz14:=JrnAt.step HS12.out.1.box (Qs.al KK.out _) t14 h14 HS12.out.1.lt HS12.out.1.fp;clear h14 t14;have HZ14:=Lib.hid hz14;clear hz14))
       all_goals
        have hz14:=HZ14.out
        have hJ14:=hz14.1.back (w:=w5) (by exact Nat.le_refl _) HSZ.out.2.2 hz14.2.size (fun k hk=>HJ1.out.lt k hk)
        have hT14:Turn F w w14:=(HT1.out.step ((HS12.out.2.step hz14.2).mono (fun k hk=>grow_wide HSZ.out.1 hk)))
        have hJ14':JrnAt w14 (grow F w w14) p b { j1 with d:=(j1.com2 ws).1 }:=hJ14.back HSZ.out.1 HSZ.out.2.1 (Nat.le_trans HSZ.out.2.2 hz14.2.size) HJ.out.lt
        have HJ14:=Lib.hid hJ14';have HT14:=Lib.hid hT14
        clear hz14 hJ14 hT14 hJ14' HZ14 g0 x0
        by_cases hz2:(j1.com2 ws).2=0
        ·have hb3:((j1.com2 ws).2==0)=true:=beq_iff_eq.2 hz2
         have hcm:=HCMY.out
         rw[if_neg (by rw[hz2];decide)] at hcm
         have HCMZ:=Lib.hid hcm
         have cad:=Advance_any w14 p b { j1 with d:=(j1.com2 ws).1 } ws.length HJ14.out.box (by exact HN1.out.used) (by omega) (by exact HN1.out.next)
         have hp2:(j1.com2 ws).1.p=[]:=by
          have:(({ j1 with d:=(j1.com1 ws).1 }:JL).d.lays [(j1.place 0,headL j1.next ws)]).2=0:=hz2
          exact lays_flushed this
         have CAD:=Lib.hid cad;have HP2:=Lib.hid hp2
         obtain⟨la,lc,rfl,-⟩:=HL1.out.sl.value
         clear hz2 hcm cad hp2
         go_wp2_with fail
         refine CAD.out.mono ?_
         rintro e w15 ⟨rfl,h15,t15,hz15⟩
         have hj15:=HJ14.out.turned h15 rfl t15
         have ht15:Turn F w w15:=HT14.out.trans (t15.mono (fun k hk=>by subst hk;exact HJ.out.fp))
         have d0:=h15.cell 0 (ptrV b) rfl
         have hwa:WrArg w15 (fun k=>grow F w w14 k∧k≠p) (.slice la ws.length lc) ws:=by
          have h0:=HL.out.sl.keep ht15
          refine⟨⟨h0.1,fun hn=>?_⟩,HL.out.num⟩
          obtain⟨kb,ko,e1,e2,e3⟩:=h0.2 hn
          exact⟨kb,ko,e1,e2,fun hk=>e3 (hk.1.elim .inl (fun hk=>.inr ⟨hk.1,by rw[hz15];exact hk.2⟩))⟩
         have cwr:=Writes_any w15 (fun k=>grow F w w14 k∧k≠p) b (j1.com2 ws).1 (.slice la ws.length lc) ws (hj15.dev.minus h15) HOK2.out (fun _=>by rw[HP2.out];simp;omega) hwa (by omega)
         have hc3:(j1.com2 ws).1.writes ws=j1.com3 ws:=rfl
         rw[hc3] at cwr
         have CWR:=Lib.hid cwr;have HJ15:=Lib.hid hj15;have HT15:=Lib.hid ht15;have HZ15:=Lib.hid hz15
         clear t15 hz15 hj15 ht15 hwa cwr hc3
         go_wp2_with fail
         refine CWR.out.mono ?_
         rintro e w16 ⟨rfl,h16,t16⟩
         have hst16:=JrnAt.step HJ15.out.box (Q.refl w15) t16 h16 HJ15.out.lt HJ15.out.fp
         have HS16:=Lib.hid hst16
         clear t16 h16 hst16
         go_wp2_with fail
         go_ret
         rw[HCMZ.out]
         have ht16:Turn F w w16:=HT15.out.step (HS16.out.2.mono (fun k hk=>hk.elim .inl (fun hk=>.inr ⟨hk.1,by rw[HZ15.out];exact hk.2⟩)))
         refine⟨rfl,HS16.out.1.mono (fun k hk=>hk.elim (fun hk=>hk.elim .inl (fun hk=>.inr ⟨hk.1,Nat.lt_of_lt_of_le hk.2 (by rw[←HZ15.out];exact HS16.out.2.size)⟩)) (fun hk=>.inr ⟨Nat.le_trans HT15.out.size hk.1,hk.2⟩)) (fun k hk=>hk.elim (fun hk=>by have:=HJ.out.lt k hk;have:=ht16.size;omega) (fun hk=>hk.2)),ht16⟩
        ·have hb3:((j1.com2 ws).2==0)=false:=beq_eq_false_iff_ne.2 hz2
         have hcm:=HCMY.out
         rw[if_pos hz2] at hcm
         have HCMZ:=Lib.hid hcm
         clear hz2 hcm
         go_wp2_with fail
         go_ret
         rw[HCMZ.out]
         exact⟨rfl,HJ14.out,HT14.out⟩
      ·have hb2:((j1.com1 ws).2==0)=false:=beq_eq_false_iff_ne.2 hz
       have hcm:=HCMX.out
       rw[if_pos hz] at hcm
       have HCMY:=Lib.hid hcm
       clear hz hcm
       go_wp2_with fail
       go_ret
       rw[HCMY.out]
       exact⟨rfl,HS12.out.1.back HSZ.out.1 HSZ.out.2.1 HSZ.out.2.2 HJ.out.lt,HT1.out.step (HS12.out.2.mono (fun k hk=>grow_wide HSZ.out.1 hk))⟩
   ·have hb:(j.ckpt.2==0)=false:=beq_eq_false_iff_ne.2 hz
    have hcm:=HCM.out
    rw[if_pos hz] at hcm
    have HCM1:=Lib.hid hcm
    clear hz hcm
    go_wp2_with fail
    go_ret
    rw[HCM1.out]
    exact⟨rfl,H5.out.mono (fun k hk=>hk.elim .inl (fun hk=>.inr ⟨Nat.le_trans HQ2.out.size hk.1,hk.2⟩)) (fun k hk=>hk.elim (fun hk=>by have:=HJ.out.lt k hk;have:=HQ2.out.size;omega) (fun hk=>hk.2)),(Turn.of_q (own:=F) (HQ2.out.trans (Q.drew _))).trans T5.out⟩
 ·have hgt:¬(j.s.log:Int)-(j.used:Int)<((ws.length+1:Nat):Int)+1:=by omega
  have hcm:j.commit ws=j.com ws:=by unfold JL.commit;rw[if_neg hroom]
  obtain⟨w5,hw5⟩:∃w5,w5=w2.drew:=⟨_,rfl⟩
  have hz5:w2.heap.size≤w5.heap.size:=by rw[hw5];exact Nat.le_refl _
  have hff1:w5.ownsRow w.heap.size 9 1 (.slice (some ⟨fg,0,none⟩) (ws.length+1) fc) (ws.length+1) ((packL j.next ws).map strV):=by rw[hw5];exact HFV.out
  have hT:Turn F w w5:=by rw[hw5];exact Turn.of_q (HQ2.out.trans (Q.drew _))
  have hlx5:WrArg w5 (grow F w2 w5) lv ws:=by rw[hw5];exact HLX.out.drew
  have h5':JrnAt w5 (grow F w2 w5) p b j:=by rw[hw5];exact(HJ.out.keep (HQ2.out.trans (Q.drew _))).mono (fun k hk=>.inl hk) (fun k hk=>hk.elim (fun hk=>by have:=HJ.out.lt k hk;have h2:=HQ2.out.size;have h3:w2.drew.heap.size=w2.heap.size:=rfl;omega) (fun hk=>hk.2))
  obtain⟨j1,hj1⟩:∃j1,j1=j:=⟨_,rfl⟩
  rw[←hj1] at h5'
  have hcm1:j.commit ws=j1.com ws:=by rw[hj1];exact hcm
  have hn1':JNum j1:=by rw[hj1];exact HN.out
  have hnx1:j1.next=j.next:=by rw[hj1]
  have HCM1:=Lib.hid hcm1;have HN1:=Lib.hid hn1';have HNX:=Lib.hid hnx1
  have HF1:=Lib.hid hff1;have HT1:=Lib.hid hT;have HL1:=Lib.hid hlx5;have HJ1:=Lib.hid h5'
  have HW5:=Lib.hid hw5
  clear hcm hn1' hnx1 hff1 hT hlx5 h5' hcm1 hj1 hw5
  go_wp2_with fail
  go_region
  all_goals
   rw[←HW5.out]
   clear HW5
   have hzs:((ws.map fun x=>(⟨x.2.toArray⟩:ByteArray)).take ws.length).map Value.string=(ws.map (·.2)).map strV:=by
    rw[List.take_of_length_le (by simp),List.map_map,List.map_map];rfl
   have hcl:=fun (W:World) (hq:Q w5 W)=>Tryz.slices_Clone_string fg 1 ws.length (fc-1) (ws.map fun x=>⟨x.2.toArray⟩) W (by simp) (by omega) (fun i hi=>by
    have hi':i<ws.length:=by simpa using hi
    have h1:=owns_cells (Sl.of_owns HF1.out) (by omega) (1+i) (strV ws[i].2) (by simp[packL,Nat.add_comm 1 i,hi'])
    rw[cellQ hq h1]
    simp[List.getD_eq_getElem?_getD,hi'])
   rw[hzs] at hcl
   have hno:=fun (W:World)=>Noughts_any W
   obtain⟨i0,hi0,hz0,hz1,hz2⟩:=info_parts tinfoSt
   obtain⟨i1,hi1,hy0,hy1,hy2⟩:=info_parts tinfoWr
   have HCL:=Lib.hid hcl;have HNO:=Lib.hid hno
   clear hzs hcl hno
   go_wp2_with fail
   refine(HCL.out _ (Q.refl _)).mono ?_
   rintro e w6 ⟨cv,rfl,hcv,-,q6⟩
   have HQ6:Hid (Q w5 w6):=Lib.hid q6;have HCV:=Lib.hid hcv
   clear q6 hcv
   go_wp2_with fail
   refine(HNO.out _).mono ?_
   rintro e w7 ⟨rfl,q7⟩
   have hq7:=HQ6.out.trans q7
   have HCV7:=Lib.hid (ownsRow_below HCV.out q7)
   have HQ7:=Lib.hid hq7
   have hc1:∀u∈#[strV noughtsL].toList,u.oneCell'=true:=by intro u hu;simp at hu;subst hu;rfl
   have hc2:(ws.length+1)*16≤140737488355328:=by omega
   have HC1:=Lib.hid hc1;have HC2:=Lib.hid hc2
   clear q7 hq7 hc1 hc2 HCV
   generalize hnn:noughtsL=nn at *
   go_wp2_with (at_builtin;refine wpList_app w7 (by rfl) _ _ 47 (by rfl) w5.heap.size 9 _ i0 (strV []) 1 16 Tryz.underlying47 hi0 hz0 hz1 hz2 rfl (by decide) (by decide) _ _ _ (by rfl) HCV7.out #[strV nn] (by rfl) rfl HC1.out HC2.out HQ7.out.size ?_)
   intro g8 cap8 w8 hr8 hg8 ho8 hlt8 hlt8b
   have hq8:Q w5 w8:=grown_below HQ7.out HCV7.out hg8 (Nat.le_refl _) HQ7.out.size
   have hr8':w8.ownsRow w5.heap.size 9 1 (.slice (some ⟨g8,0,none⟩) (ws.length+1) cap8) (ws.length+1) ((tailB ws).map strV):=by
    unfold tailB;rw[hnn,List.map_append,List.map_map];exact hr8
   have HQ8:=Lib.hid hq8;have HR8:=Lib.hid hr8'
   clear hr8 hg8 ho8 hlt8 hlt8b hq8 hr8'
   go_wp2_with fail
   have hrow0:w8.ownsRow w8.heap.size 102 2 (.slice none 0 0) 0 (wrVs ((j1.logW ws).take 0)):=World.ownsRow_nil _ _ _ _
   have hpl:=fun (W:World) (hq:Q w8 W) (k:Nat) (hk:k≤1000000)=>Place_any W p b j1 k (HJ1.out.box.stays (HQ8.out.trans hq)) HN1.out.log HN1.out.log2 HN1.out.place HN1.out.used hk
   have htk:=logW_take j1 ws
   have HPL:=Lib.hid hpl;have HTK:=Lib.hid htk
   have HNN:=Lib.hid hnn
   clear hpl htk hnn
   go_loopw [9,55] (fun v i wr=>∃k:Nat,i=.int .i64 (k:Nat)∧k≤ws.length+1∧Hid (wr.ownsRow w8.heap.size 102 2 v k (wrVs ((j1.logW ws).take k)))∧Hid (Q w8 wr)) (fun _ i _=>ws.length+1-(intOf i).toNat)
   case atStart=>exact⟨0,rfl,Nat.zero_le _,hrow0,Lib.hid (Q.refl _)⟩
   case round =>
    obtain⟨k,rfl,hk,HOW,HQr⟩:=hrel
    by_cases hlt:k<ws.length+1
    ·have hki:(k:Int)<(ws.length:Int)+1:=by omega
     have hki0:(0:Int)≤(k:Int):=by omega
     have htl:k<(tailB ws).length:=by rw[tailB_len];exact hlt
     have x1:=owns_cells (Sl.of_owns (ownsRow_below HR8.out HQr.out)) (by omega) k (strV (tailB ws)[k]) (by simp[htl])
     have hpk:=HPL.out wr HQr.out (k+1) (by omega)
     have hst:=HTK.out k htl
     have HPK1:=Lib.hid hpk;have HST:=Lib.hid hst
     clear hpk hst
     generalize (tailB ws)[k]=sk at *
     generalize j1.place (k+1)=plk at *
     go_wp2_with fail
     refine HPK1.out.mono ?_
     rintro e w10 ⟨rfl,q10⟩
     have hq10:=HQr.out.trans q10
     have HO10:=Lib.hid (ownsRow_below HOW.out q10)
     have HQ10:Hid (Q w8 w10):=Lib.hid hq10
     have hc1:∀u∈#[Value.int .i64 (plk:Nat),strV sk].toList,u.oneCell'=true:=by intro u hu;simp at hu;rcases hu with rfl|rfl<;>rfl
     have hc2:(k+1)*24≤140737488355328:=by omega
     have HC3:=Lib.hid hc1;have HC4:=Lib.hid hc2
     clear q10 hq10 hc1 hc2 x1
     go_wp2_with (at_builtin;refine wpList_app w10 (by rfl) _ _ 49 (by rfl) w8.heap.size 102 _ i1 (.agg #[.int .i64 0,strV []]) 2 24 Tryz.underlying49 hi1 hy0 hy1 hy2 rfl (by decide) (by decide) _ _ _ (by rfl) HO10.out #[.int .i64 (plk:Nat),strV sk] (by rfl) rfl HC3.out HC4.out HQ10.out.size ?_)
     intro g11 cap11 w11 hr11 hg11 ho11 hlt11 hlt11b
     have hq11:Q w8 w11:=grown_below HQ10.out HO10.out hg11 (Nat.le_refl _) HQ10.out.size
     have hr11':w11.ownsRow w8.heap.size 102 2 (.slice (some ⟨g11,0,none⟩) (k+1) cap11) (k+1) (wrVs ((j1.logW ws).take (k+1))):=by
      rw[HST.out,wrVs_append,show wrVs [(plk,sk)]=encW (plk,sk) by simp[wrVs]];exact hr11
     have HQ11:=Lib.hid hq11;have HR11:=Lib.hid hr11'
     clear hr11 hg11 ho11 hlt11 hlt11b hq11 hr11'
     go_wp2_with fail
     go_roundw
     case rel=>exact⟨k+1,by go_num,by omega,HR11,HQ11⟩
     case measure=>simp[intOf];omega
    ·have hki:¬(k:Int)<(ws.length:Int)+1:=by omega
     obtain rfl:k=ws.length+1:=by omega
     have hrow:=HOW.out
     rw[List.take_of_length_le (by rw[logW_len];exact Nat.le_refl _)] at hrow
     have hq5:Q w5 wr:=HQ8.out.trans HQr.out
     have hcl:=Lays_any wr (fun k=>grow F w2 w5 k∧k≠p) p b j1 u9 (j1.logW ws) (HJ1.out.box.stays hq5) ((HJ1.out.dev.minus HJ1.out.box).keep hq5) HN1.out.ok (fun hx=>by have:=HN1.out.plen hx;rw[logW_len];omega) (WrArg.own (w0:=w8) (by rw[logW_len];exact hrow) (fun k hk=>by have:=HJ1.out.lt k hk.1;have:=HQ8.out.size;omega) (fun x hx=>by
      obtain⟨i,hi,rfl⟩:=(logW_mem j1 ws x).1 hx
      have hlg:=logAt_lt j1.s (j1.used+(i+1)) HN1.out.log
      have hl2:=HN1.out.log2
      refine⟨by show j1.place (i+1)≤_;unfold JL.place;omega,?_⟩
      have h256:((ws.map (·.2)++[noughtsL]).getD i []).length=256:=by
       have hi':i<(ws.map (·.2)++[noughtsL]).length:=by simp;omega
       refine DevL.getD_mem_length (fun s hs=>?_) hi'
       rcases List.mem_append.1 hs with hs|hs
       ·obtain⟨y,hy,rfl⟩:=List.mem_map.1 hs
        exact(HW.out.2.2 y hy).2
       ·rw[List.mem_singleton] at hs;subst hs;exact noughts_len
      show((ws.map (·.2)++[noughtsL]).getD i []).length≤_
      rw[h256];omega)) (by rw[logW_len];omega) (fun hc=>hc.2 rfl)
     have hcm:j1.com ws=if (j1.com1 ws).2≠0 then({ j1 with d:=(j1.com1 ws).1 },(j1.com1 ws).2) else if (j1.com2 ws).2≠0 then({ j1 with d:=(j1.com2 ws).1 },(j1.com2 ws).2) else
      ({ j1 with d:=(j1.com3 ws).1 }.advance ws.length,(j1.com3 ws).2):=rfl
     have hc1:j1.d.lays (j1.logW ws)=j1.com1 ws:=rfl
     rw[hc1] at hcl
     have HCL1:=Lib.hid hcl;have HCMX:=Lib.hid (HCM1.out.trans hcm);have HQ5:=Lib.hid hq5
     have hok1:(j1.com1 ws).1.Ok:=DevL.lays_ok HN1.out.ok _
     have HOK1:=Lib.hid hok1
     clear hrow hq5 hcl hcm hc1 hok1
     go_wp2_with fail
     refine HCL1.out.mono ?_
     rintro e w12 ⟨rfl,h12,t12⟩
     have hst:=JrnAt.step HJ1.out.box HQ5.out t12 h12 HJ1.out.lt HJ1.out.fp
     have HS12:=Lib.hid hst
     have HSZ:=Lib.hid (And.intro HQ2.out.size (And.intro hz5 hst.2.size))
     clear h12 t12 hst
     by_cases hz:(j1.com1 ws).2=0
     ·have hb2:((j1.com1 ws).2==0)=true:=beq_iff_eq.2 hz
      have hcm:=HCMX.out
      rw[if_neg (by rw[hz];decide)] at hcm
      have hnF:¬grow F w2 w5 fg:=fun hk=>hk.elim (fun hk=>by have:=HJ.out.lt fg hk;have:=HFG.out.2;omega) (fun hk=>by have:=HFG.out.1;omega)
      have x0:=HS12.out.2.cell (owns_cells (Sl.of_owns HF1.out) (by omega) 0 (strV (headL j.next ws)) (by simp[packL])) hnF
      have cpl:∀(W:World),Q w12 W→Calls Tryz.prog 109 #[ptrV p,.int .i64 0] W fun e w'=>e=.returned (.int .i64 (j1.place 0:Nat))∧Q W w':=fun (W:World) (hq:Q w12 W)=>Place_any W p b { j1 with d:=(j1.com1 ws).1 } 0 (HS12.out.1.box.stays hq) HN1.out.log HN1.out.log2 HN1.out.place HN1.out.used (by omega)
      have cl2:=fun (V:World) (hq:Q w12 V) (lv:Value) (ha:WrArg V (fun k=>grow (grow F w2 w5) w5 w12 k∧k≠p) lv [(j1.place 0,headL j.next ws)])=>Lays_any V (fun k=>grow (grow F w2 w5) w5 w12 k∧k≠p) p b { j1 with d:=(j1.com1 ws).1 } lv [(j1.place 0,headL j.next ws)] (HS12.out.1.box.stays hq) ((HS12.out.1.dev.minus HS12.out.1.box).keep hq) HOK1.out (fun hx=>by
       show(j1.com1 ws).1.p.length+1≤_
       rw[show(j1.com1 ws).1.p=[] from lays_flushed hz];simp) ha (by simp) (fun hc=>hc.2 rfl)
      have hc2:({ j1 with d:=(j1.com1 ws).1 }:JL).d.lays [(j1.place 0,headL j.next ws)]=j1.com2 ws:=by rw[←HNX.out];rfl
      rw[hc2] at cl2
      have hnw:=fun (V:World) (hq:Q w12 V)=>wrArg_one (w:=V) (F:=fun k=>grow (grow F w2 w5) w5 w12 k∧k≠p) (j1.place 0,headL j.next ws) (fun hc=>by have:=HS12.out.1.lt _ hc.1;have:=hq.size;omega) (by have hlg:=logAt_lt j1.s (j1.used+0) HN1.out.log;have hl2:=HN1.out.log2;show j1.place 0≤_;unfold JL.place;omega) (by show(headL j.next ws).length≤_;rw[headL_length j.next ws (by omega)];omega) 102
      have hok2:(j1.com2 ws).1.Ok:=by rw[←hc2];exact DevL.lays_ok HOK1.out _
      have CPL:=Lib.hid cpl;have CL2:=Lib.hid cl2;have HNW:=Lib.hid hnw;have HCMY:=Lib.hid hcm;have HOK2:=Lib.hid hok2;have HNF:=Lib.hid hnF
      have hnb:¬(grow (grow F w2 w5) w5 w12 fg∧fg≠p):=fun hc=>by
       rcases hc.1 with hk|hk
       ·exact hnF hk
       ·have:=HFG.out.1;have:=HSZ.out.2.1;omega
      have HNB:=Lib.hid hnb
      have KK:=Lib.hid (Q.refl w12)
      clear hz hcm cpl cl2 hnw hc2 hok2 hnF hnb
      generalize headL j.next ws=hd at *
      generalize j1.place 0=pl0 at *
      go_upto_region 18 with fail
      go_region_held3 (fun w'=>w'.cell? ⟨fg,0,none⟩=some (strV hd))
       (first|exact g0|exact x0|exact cellQ (by repeat (first|with_reducible exact KK.out|with_reducible exact Q.refl _|with_reducible apply Qs.dr|with_reducible apply Qs.al)) x0)
       (first
        | (go_at_call 109;with_reducible refine(CPL.out _ (by repeat (first|with_reducible exact KK.out|with_reducible apply Qs.dr|with_reducible apply Qs.al))).mono ?_;rintro e w13 ⟨rfl,q13⟩;have s':Q w12 w13:=Q.trans (by repeat (first|with_reducible exact KK.out|with_reducible apply Qs.dr|with_reducible apply Qs.al)) q13;clear KK;have KK:=Lib.hid s';clear s' q13)
        | (go_at_call 110;with_reducible refine(CL2.out _ (Qs.al KK.out _) _ (HNW.out _ KK.out)).mono ?_;rintro e w14 ⟨rfl,h14,t14⟩;have g0:=t14.cell (cellQ (Qs.al KK.out _) x0) HNB.out;have hz14:=JrnAt.step HS12.out.1.box (Qs.al KK.out _) t14 h14 HS12.out.1.lt HS12.out.1.fp;clear h14 t14;have HZ14:=Lib.hid hz14;clear hz14))
      all_goals
       have hz14:=HZ14.out
       have hJ14:=hz14.1.back (w:=w5) (by exact Nat.le_refl _) HSZ.out.2.2 hz14.2.size (fun k hk=>HJ1.out.lt k hk)
       have hT14:Turn F w w14:=(HT1.out.step ((HS12.out.2.step hz14.2).mono (fun k hk=>grow_wide HSZ.out.1 hk)))
       have hJ14':JrnAt w14 (grow F w w14) p b { j1 with d:=(j1.com2 ws).1 }:=hJ14.back HSZ.out.1 HSZ.out.2.1 (Nat.le_trans HSZ.out.2.2 hz14.2.size) HJ.out.lt
       have HJ14:=Lib.hid hJ14';have HT14:=Lib.hid hT14
       clear hz14 hJ14 hT14 hJ14' HZ14 g0 x0
       by_cases hz2:(j1.com2 ws).2=0
       ·have hb3:((j1.com2 ws).2==0)=true:=beq_iff_eq.2 hz2
        have hcm:=HCMY.out
        rw[if_neg (by rw[hz2];decide)] at hcm
        have HCMZ:=Lib.hid hcm
        have cad:=Advance_any w14 p b { j1 with d:=(j1.com2 ws).1 } ws.length HJ14.out.box (by exact HN1.out.used) (by omega) (by exact HN1.out.next)
        have hp2:(j1.com2 ws).1.p=[]:=by
         have:(({ j1 with d:=(j1.com1 ws).1 }:JL).d.lays [(j1.place 0,headL j1.next ws)]).2=0:=hz2
         exact lays_flushed this
        have CAD:=Lib.hid cad;have HP2:=Lib.hid hp2
        obtain⟨la,lc,rfl,-⟩:=HL1.out.sl.value
        clear hz2 hcm cad hp2
        go_wp2_with fail
        refine CAD.out.mono ?_
        rintro e w15 ⟨rfl,h15,t15,hz15⟩
        have hj15:=HJ14.out.turned h15 rfl t15
        have ht15:Turn F w w15:=HT14.out.trans (t15.mono (fun k hk=>by subst hk;exact HJ.out.fp))
        have d0:=h15.cell 0 (ptrV b) rfl
        have hwa:WrArg w15 (fun k=>grow F w w14 k∧k≠p) (.slice la ws.length lc) ws:=by
         have h0:=HL.out.sl.keep ht15
         refine⟨⟨h0.1,fun hn=>?_⟩,HL.out.num⟩
         obtain⟨kb,ko,e1,e2,e3⟩:=h0.2 hn
         exact⟨kb,ko,e1,e2,fun hk=>e3 (hk.1.elim .inl (fun hk=>.inr ⟨hk.1,by rw[hz15];exact hk.2⟩))⟩
        have cwr:=Writes_any w15 (fun k=>grow F w w14 k∧k≠p) b (j1.com2 ws).1 (.slice la ws.length lc) ws (hj15.dev.minus h15) HOK2.out (fun _=>by rw[HP2.out];simp;omega) hwa (by omega)
        have hc3:(j1.com2 ws).1.writes ws=j1.com3 ws:=rfl
        rw[hc3] at cwr
        have CWR:=Lib.hid cwr;have HJ15:=Lib.hid hj15;have HT15:=Lib.hid ht15;have HZ15:=Lib.hid hz15
        clear t15 hz15 hj15 ht15 hwa cwr hc3
        go_wp2_with fail
        refine CWR.out.mono ?_
        rintro e w16 ⟨rfl,h16,t16⟩
        have hst16:=JrnAt.step HJ15.out.box (Q.refl w15) t16 h16 HJ15.out.lt HJ15.out.fp
        have HS16:=Lib.hid hst16
        clear t16 h16 hst16
        go_wp2_with fail
        go_ret
        rw[HCMZ.out]
        have ht16:Turn F w w16:=HT15.out.step (HS16.out.2.mono (fun k hk=>hk.elim .inl (fun hk=>.inr ⟨hk.1,by rw[HZ15.out];exact hk.2⟩)))
        refine⟨rfl,HS16.out.1.mono (fun k hk=>hk.elim (fun hk=>hk.elim .inl (fun hk=>.inr ⟨hk.1,Nat.lt_of_lt_of_le hk.2 (by rw[←HZ15.out];exact HS16.out.2.size)⟩)) (fun hk=>.inr ⟨Nat.le_trans HT15.out.size hk.1,hk.2⟩)) (fun k hk=>hk.elim (fun hk=>by have:=HJ.out.lt k hk;have:=ht16.size;omega) (fun hk=>hk.2)),ht16⟩
       ·have hb3:((j1.com2 ws).2==0)=false:=beq_eq_false_iff_ne.2 hz2
        have hcm:=HCMY.out
        rw[if_pos hz2] at hcm
        have HCMZ:=Lib.hid hcm
        clear hz2 hcm
        go_wp2_with fail
        go_ret
        rw[HCMZ.out]
        exact⟨rfl,HJ14.out,HT14.out⟩
     ·have hb2:((j1.com1 ws).2==0)=false:=beq_eq_false_iff_ne.2 hz
      have hcm:=HCMX.out
      rw[if_pos hz] at hcm
      have HCMY:=Lib.hid hcm
      clear hz hcm
      go_wp2_with fail
      go_ret
      rw[HCMY.out]
      exact⟨rfl,HS12.out.1.back HSZ.out.1 HSZ.out.2.1 HSZ.out.2.2 HJ.out.lt,HT1.out.step (HS12.out.2.mono (fun k hk=>grow_wide HSZ.out.1 hk))⟩
end
end Go.Proofs.YthcpkgfieoneeaaGreatDoor
