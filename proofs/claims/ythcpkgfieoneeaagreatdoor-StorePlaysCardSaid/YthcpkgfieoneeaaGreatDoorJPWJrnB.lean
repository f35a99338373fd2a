/- Joined texts of one proof: what is needed of WJrnB, WJrnC, WJrnD, RJrnM, WCacE, WFrmC. -/
import Derived.Test.YthcpkgfieoneeaaGreatDoorJPJrn4
import Derived.Test.YthcpkgfieoneeaaGreatDoorJPShelf
import Derived.Deep.QuietTactic
import Derived.Test.YthcpkgfieoneeaaGreatDoorJPWRDevB
import Derived.Deep.RegionHeld3
import Derived.Test.YthcpkgfieoneeaaGreatDoorJPKit
import Derived.Test.YthcpkgfieoneeaaGreatDoorJPRange3
import Derived.OneCell
set_option linter.unusedSimpArgs false
set_option linter.unusedVariables false
set_option linter.unnecessarySimpa false
set_option maxRecDepth 100000
set_option maxHeartbeats 16000000
namespace Go.Proofs.YthcpkgfieoneeaaGreatDoor
section
open Go.RowKit
theorem Noughts_any(w:World):Calls Tryz.prog 108 #[] w fun e w'=>e=.returned (strV noughtsL)∧Q w w':=by
 have h:=Tryz.strings_Repeat_main ⟨#[0]⟩ 256 w (by decide) (by decide) (by decide) (by decide)
 have he:(Lib.repeatL [(0:UInt8)] 256)=noughtsL:=by decide +kernel
 have HE:=Lib.hid he;have H:=Lib.hid h
 clear he h
 go_enter Tryz.func108,Tryz.ntmps108
 go_wp2_with fail
 refine H.out.mono ?_
 rintro e w1 ⟨rfl,hq⟩
 have HQ:=Lib.hid hq
 clear hq
 rw[HE.out]
 go_wp2_with fail
 go_ret
 exact⟨rfl,HQ.out⟩
theorem JHome_any(w:World)(p b:Nat)(j:JL)(hb:Blk w p 110 (jcells b j))(hl:j.s.log≤1000000):
  Calls Tryz.prog 83 #[ptrV p] w fun e w'=>e=.returned (.int .i64 (j.home:Nat))∧w=w':=by
 obtain⟨c0,c1,c2,c3,_⟩:=hb.c8
 have hh:((j.home:Nat):Int)=2+(j.s.log:Int):=by unfold JL.home;omega
 rw[hh]
 clear hb hh
 go_enter Tryz.func83,Tryz.ntmps83
 go_wp2
 go_ret
 exact⟨rfl,rfl⟩
theorem Place_any(w:World)(p b:Nat)(j:JL)(n:Nat)(hb:Blk w p 110 (jcells b j))(hl:0<j.s.log)(hl2:j.s.log≤1000000)(hp:j.s.place≤1000000)(hu:j.used≤1000000)(hn:n≤1000000):
  Calls Tryz.prog 109 #[ptrV p,.int .i64 (n:Nat)] w fun e w'=>e=.returned (.int .i64 (j.place n:Nat))∧Q w w':=by
 obtain⟨c0,c1,c2,c3,c4,c5,c6,c7⟩:=hb.c8
 have hh:((j.place n:Nat):Int)=2+(((j.s.place:Int)+(j.used:Int)+(n:Int))%(j.s.log:Int)):=by unfold JL.place logAt;rw[←Nat.add_assoc];simp only[Int.natCast_add,Int.natCast_emod];rfl
 rw[hh]
 have hl3:¬(j.s.log:Int)=0:=by omega
 have hmod:((j.s.place:Int)+(j.used:Int)+(n:Int))%(j.s.log:Int)<(j.s.log:Int):=Int.emod_lt_of_pos _ (by omega)
 have hmod0:0≤((j.s.place:Int)+(j.used:Int)+(n:Int))%(j.s.log:Int):=Int.emod_nonneg _ (by omega)
 clear hb hh
 go_enter Tryz.func109,Tryz.ntmps109
 go_wp2_with fail
 go_quiet (fail)
 go_wp2_with fail
 go_ret
 exact⟨rfl,Q.drewN _ _⟩
theorem HomeI_any(w:World)(F:Nat→Prop)(p b:Nat)(j:JL)(i:Int)(hb:Blk w p 110 (jcells b j))(hd:DevAt w F b j.d)(hl:j.s.log≤1000000):
  Calls Tryz.prog 147 #[ptrV p,.int .i64 i] w fun e w'=>e=.returned (.bool (decide ((j.home:Int)≤i)&&decide (i<j.d.l.length)))∧w=w':=by
 have h1:=JHome_any w p b j hb hl
 have h2:=Blocks_any w F b j.d hd
 obtain⟨c0,c1,c2,c3,_⟩:=hb.c8
 generalize j.home=hm at *
 generalize j.d.l.length=n at *
 have H1:=Lib.hid h1;have H2:=Lib.hid h2
 clear h1 h2 hb hd
 by_cases hi:(hm:Int)≤i
 ·have hb1:decide ((hm:Int)≤i)=true:=decide_eq_true hi
  rw[hb1,Bool.true_and]
  go_enter Tryz.func147,Tryz.ntmps147
  go_wp2_with fail
  refine H1.out.mono ?_
  rintro e w1 ⟨rfl,rfl⟩
  go_wp2_with fail
  refine H2.out.mono ?_
  rintro e w1 ⟨rfl,rfl⟩
  go_wp2_with fail
  go_ret
  exact⟨rfl,rfl⟩
 ·have hb1:decide ((hm:Int)≤i)=false:=decide_eq_false hi
  rw[hb1,Bool.false_and]
  go_enter Tryz.func147,Tryz.ntmps147
  go_wp2_with fail
  refine H1.out.mono ?_
  rintro e w1 ⟨rfl,rfl⟩
  go_wp2_with fail
  go_ret
  exact⟨rfl,rfl⟩
theorem Advance_any(w:World)(p b:Nat)(j:JL)(n:Nat)(hb:Blk w p 110 (jcells b j))(hu:j.used≤1000000)(hn:n≤1000000)(hx:j.next<18446744073709551616):
  Calls Tryz.prog 111 #[ptrV p,.int .i64 (n:Nat)] w fun e w'=>e=.returned (.tuple #[])∧Blk w' p 110 (jcells b (j.advance n))∧Turn (fun k=>k=p) w w'∧w'.heap.size=w.heap.size:=by
 obtain⟨c0,c1,c2,c3,c4,c5,c6,c7⟩:=hb.c8
 have hf:=fun i=>hb.frozen i
 have f6:=hf 6;have f7:=hf 7
 have hset:=hb.set 7 (.int .i64 ((j.used:Int)+((n:Int)+1)))
 have d6:=hset.cell 6 (.int .u64 (j.next:Nat)) rfl
 have g6:=hset.frozen 6
 have hset2:=hset.set 6 (.int .u64 (((j.next+1)%18446744073709551616:Nat):Int))
 have he:((jcells b j).setIfInBounds 7 (.int .i64 ((j.used:Int)+((n:Int)+1)))).setIfInBounds 6 (.int .u64 (((j.next+1)%18446744073709551616:Nat):Int))=jcells b (j.advance n):=by
  unfold jcells JL.advance
  rw[show((j.used+n+1:Nat):Int)=(j.used:Int)+((n:Int)+1) by omega]
  rfl
 rw[he] at hset2
 have ht:Turn (fun k=>k=p) w ((w.setCell ⟨p,7,none⟩ (.int .i64 ((j.used:Int)+((n:Int)+1)))).setCell ⟨p,6,none⟩ (.int .u64 (((j.next+1)%18446744073709551616:Nat):Int))) :=
  Turn.setCell (a:=⟨p,6,none⟩) (Turn.setCell (a:=⟨p,7,none⟩) (Turn.refl (fun k=>k=p) w) (.inl rfl) _) (.inl rfl) _
 have hz:((w.setCell ⟨p,7,none⟩ (.int .i64 ((j.used:Int)+((n:Int)+1)))).setCell ⟨p,6,none⟩ (.int .u64 (((j.next+1)%18446744073709551616:Nat):Int))).heap.size=w.heap.size:=by rw[setCell_size,setCell_size]
 have hw:IntKind.u64.wrap ((j.next:Int)+1)=(((j.next+1)%18446744073709551616:Nat):Int):=by simp[IntKind.wrap,IntKind.bits,IntKind.signed]
 have H:=Lib.hid (And.intro hset2 (And.intro ht hz))
 clear hset hset2 he ht hz hf hb c0 c1 c2 c3 c4 c5
 generalize (j.next+1)%18446744073709551616=nx at *
 go_enter Tryz.func111,Tryz.ntmps111
 have HW:=Lib.hid hw
 clear hw
 go_wp2
 go_end0
 rw[HW.out]
 exact⟨rfl,H.out.1,H.out.2.1,H.out.2.2⟩
def slotG(s:SlotL):Nat→Bytes
 | 0=>magicS
 | 1=>magicS++(fixedL s.e++fixedL (s.e / 4294967296))
 | _=>magicS++(fixedL s.e++fixedL (s.e / 4294967296))++(fixedL s.s++fixedL (s.s / 4294967296))
def slotN(s:SlotL)(k:Nat):Nat:=if k=0 then s.e else s.s
theorem slotG_step(s:SlotL)(k:Nat)(h:k<2):slotG s (k+1)=slotG s k++(fixedL (slotN s k%4294967296)++fixedL (slotN s k / 4294967296)):=by
 rw[fixedL_mod]
 rcases (by omega:k=0∨k=1) with rfl|rfl<;>rfl
theorem slotG_len(s:SlotL)(k:Nat):(slotG s k).length≤20:=by
 unfold slotG
 split<;>simp[magicS,length_fixedL]
theorem slotG_end(s:SlotL):(slotG s 2++(fixedL (s.log%4294967296)++fixedL (s.place%4294967296)))++zerosL 100=slotH s:=by
 rw[fixedL_mod,fixedL_mod]
 simp only[slotG,slotH,List.append_assoc]
theorem SlotText_any(s:SlotL)(hs:s.Ok)(w:World):
  Calls Tryz.prog 139 #[.agg #[.int .u64 (s.e:Nat),.int .u64 (s.s:Nat),.int .i64 (s.log:Nat),.int .i64 (s.place:Nat)]] w fun e w'=>e=.returned (strV (slotT s))∧Q w w':=by
 have cf:=fun (v:Nat) (hv:v<4294967296) (W:World)=>Fixed_any v W hv
 have cr:=fun (W:World)=>Tryz.strings_Repeat_main ⟨#[0]⟩ 100 W (by decide) (by decide) (by decide) (by decide)
 have he:(Lib.repeatL [(0:UInt8)] 100)=zerosL 100:=by decide +kernel
 have hst:=slotG_step s;have hen:=slotG_end s
 have h2:(slotG s 2).length=20:=rfl
 have CF:=Lib.hid cf;have CR:=Lib.hid cr;have HE:=Lib.hid he;have HST:=Lib.hid hst;have HEN:=Lib.hid hen;have HS:=Lib.hid hs
 have qa:=(Q.alloc w (.cells #[.int .u64 (s.e:Nat),.int .u64 (s.s:Nat),.int .i64 (s.log:Nat),.int .i64 (s.place:Nat)] 108))
 clear cf cr he hst hen hs
 go_enter Tryz.func139,Tryz.ntmps139
 go_wp2_with fail
 obtain⟨b0,b1,b2,b3,_⟩:=(Blk.new w 108 #[.int .u64 (s.e:Nat),.int .u64 (s.s:Nat),.int .i64 (s.log:Nat),.int .i64 (s.place:Nat)]).c4
 generalize hw1:w.alloc (.cells #[.int .u64 (s.e:Nat),.int .u64 (s.s:Nat),.int .i64 (s.log:Nat),.int .i64 (s.place:Nat)] 108)=w1 at *
 have hz1:w1.heap.size=w.heap.size+1:=by rw[←hw1];simp
 have qb:=Q.alloc w1 (.cells #[.int .u64 (s.e:Nat),.int .u64 (s.s:Nat)] 106)
 obtain⟨a0,a1,_⟩:=(Blk.new w1 106 #[.int .u64 (s.e:Nat),.int .u64 (s.s:Nat)]).c2
 rw[hz1] at a0 a1
 have b0':=cell_stays qb b0;have b1':=cell_stays qb b1;have b2':=cell_stays qb b2;have b3':=cell_stays qb b3
 generalize hw2:w1.alloc (.cells #[.int .u64 (s.e:Nat),.int .u64 (s.s:Nat)] 106)=w2 at *
 have HQ:=Lib.hid (qa.trans qb)
 clear qa qb b0 b1 b2 b3 hw1 hw2
 go_loopw [3,12] (fun tv v wr=>∃k:Nat,v=.int .i64 (k:Nat)∧k≤2∧tv=strV (slotG s k)∧Hid (Q w2 wr)) (fun _ v _=>2-(intOf v).toNat)
 case atStart=>exact⟨0,rfl,by omega,rfl,Q.refl _⟩
 case round =>
  obtain⟨k,rfl,hk,rfl,HQ2⟩:=hrel
  by_cases hlt:k<2
  ·have hki:(k:Int)<2:=by omega
   have hcv:w2.cell? ⟨w.heap.size+1,k,none⟩=some (.int .u64 (slotN s k:Nat)):=by
    rcases (by omega:k=0∨k=1) with rfl|rfl
    ·exact a0
    ·exact a1
   have hv:slotN s k<18446744073709551616:=by
    unfold slotN;split
    ·exact HS.out.he
    ·exact HS.out.hs
   have d0:=cell_stays HQ2.out hcv
   have hstep:=HST.out k hlt
   have HSTP:=Lib.hid hstep
   clear hstep hcv a0 a1
   have ltk:=slotG_len s k
   generalize slotN s k=v at *
   generalize slotG s k=tk at *
   have l1:(fixedL (v%4294967296)).length=4:=rfl
   have l2:(fixedL (v / 4294967296)).length=4:=rfl
   go_wp2_with fail
   rw[show((v:Int)%4294967296)=((v%4294967296:Nat):Int) by omega]
   refine(CF.out _ (by omega) _).mono ?_
   rintro e w3 ⟨rfl,q3⟩
   have HQ3:=Lib.hid (HQ2.out.trans q3)
   clear q3
   go_wp2_with fail
   rw[show((v:Int) / 4294967296)=((v / 4294967296:Nat):Int) by omega]
   refine(CF.out _ (by omega) _).mono ?_
   rintro e w4 ⟨rfl,q4⟩
   have HQ4:=Lib.hid (HQ3.out.trans q4)
   clear q4
   go_wp2_with fail
   go_roundw
   case rel=>exact⟨k+1,by go_num,by omega,by rw[HSTP.out];simp only[bytes_append],HQ4.out⟩
   case measure=>simp[intOf];omega
  ·have hki:¬(k:Int)<2:=by omega
   obtain rfl:k=2:=by omega
   have e2:=cell_stays HQ2.out b2';have e3:=cell_stays HQ2.out b3'
   have hl:s.log<4294967296:=HS.out.hlog
   have hp:s.place<4294967296:=HS.out.hplace
   generalize slotG s 2=tk at *
   have hcl:((tk++(fixedL s.log++fixedL s.place)).length:Int)=28:=by simp only[List.length_append,length_fixedL,h2];rfl
   have KQ:=Lib.hid (Q.refl wr)
   clear a0 a1 b0' b1' b2' b3'
   rw[show s.log%4294967296=s.log by omega,show s.place%4294967296=s.place by omega] at HEN
   generalize s.log=lg at *
   generalize s.place=pl at *
   have l1:(fixedL lg).length=4:=rfl
   have l2:(fixedL pl).length=4:=rfl
   have hwl:IntKind.u32.wrap (lg:Int)=(lg:Int):=by simp[IntKind.wrap,IntKind.bits,IntKind.signed];omega
   have hwp:IntKind.u32.wrap (pl:Int)=(pl:Int):=by simp[IntKind.wrap,IntKind.bits,IntKind.signed];omega
   have cf1:=CF.out lg hl
   have cf2:=CF.out pl hp
   rw[←hwl] at cf1
   rw[←hwp] at cf2
   clear hwl hwp
   have CF1:=Lib.hid cf1;have CF2:=Lib.hid cf2
   clear cf1 cf2
   go_wp2_with fail
   go_region_held3 (fun w'=>w'.cell? ⟨w.heap.size,2,none⟩=some (.int .i64 (lg:Nat))∧w'.cell? ⟨w.heap.size,3,none⟩=some (.int .i64 (pl:Nat)))
    (first|exact⟨e2,e3⟩|exact two (by repeat (first|with_reducible exact KQ.out|with_reducible apply Qs.dr|with_reducible apply Qs.al)) e2 e3)
    (first
     | (go_at_call 130;with_reducible refine(CF1.out _).mono ?_;rintro e w3 ⟨rfl,q3⟩;have s':Q wr w3:=Q.trans (by repeat (first|with_reducible exact KQ.out|with_reducible apply Qs.dr|with_reducible apply Qs.al)) q3;clear KQ;have KQ:=Lib.hid s';clear s' q3)
     | (go_at_call 130;with_reducible refine(CF2.out _).mono ?_;rintro e w4 ⟨rfl,q4⟩;have s':Q wr w4:=Q.trans (by repeat (first|with_reducible exact KQ.out|with_reducible apply Qs.dr|with_reducible apply Qs.al)) q4;clear KQ;have KQ:=Lib.hid s';clear s' q4))
   all_goals
    have hsl:(slotH s).length=128:=slotH_length s
    have hze:(zerosL 100).length=100:=rfl
    have hcl2:(tk++(fixedL lg++fixedL pl)).length=28:=by omega
    simp only[bytes_append]
    generalize tk++(fixedL lg++fixedL pl)=tt at *
    have HQ9:=Lib.hid (HQ.out.trans (HQ2.out.trans (show Q wr _ by repeat (first|with_reducible exact KQ.out|with_reducible apply Qs.dr|with_reducible apply Qs.al))))
    go_wp2_with fail
    refine(CR.out _).mono ?_
    rintro e w5 ⟨rfl,q5⟩
    have HQ5:=Lib.hid (HQ9.out.trans q5)
    clear q5
    rw[HE.out]
    go_wp2_with fail
    simp only[bytes_append]
    rw[HEN.out]
    go_wp2_with fail
    go_ret
    exact⟨by simp only[bytes_append];rfl,HQ5.out⟩
theorem DevL.flush_p(d:DevL):d.flush.1.p.length≤d.p.length:=by
 unfold DevL.flush
 split
 ·exact Nat.le_refl _
 ·split
  ·show d.turn.p.length≤_
   rw[(DevL.turn_l d).2];exact Nat.le_refl _
  ·exact Nat.zero_le _
theorem DevL.flush_live(d:DevL)(h:d.flush.1.dead=false):d.dead=false:=by
 cases hd:d.dead with
 | false=>rfl
 | true=>unfold DevL.flush at h;rw[if_pos hd] at h;rw[←hd,h]
theorem DevL.lays_p(d:DevL)(ws:List WrL):(d.lays ws).1.p.length≤d.p.length+ws.length:=by
 have h:=DevL.writes_p ws d
 unfold DevL.lays
 split
 ·have:=DevL.flush_p (d.writes ws).1;omega
 ·exact h
theorem DevL.lays_live(d:DevL)(ws:List WrL)(h:(d.lays ws).1.dead=false):d.dead=false:=by
 unfold DevL.lays at h
 split at h
 ·exact DevL.writes_live ws d (DevL.flush_live _ h)
 ·exact DevL.writes_live ws d h
theorem wrArg_one{w:World}{F:Nat→Prop}(x:WrL)(hF:¬F w.heap.size)(h1:x.1≤9223372036854775807)(h2:x.2.length≤9223372036854775807)(e:TypeId):WrArg (w.alloc (.cells #[.int .i64 (x.1:Nat),strV x.2] e)) F (.slice (some ⟨w.heap.size,0,none⟩) 1 1) [x]:=by
 refine⟨?_,fun y hy=>by rw[List.mem_singleton] at hy;subst hy;exact⟨h1,h2⟩⟩
 have:=SlO.lit (w:=w) (F:=F) #[.int .i64 (x.1:Nat),strV x.2] e 1 2 rfl hF
 exact this
theorem WrArg.drew{w:World}{F:Nat→Prop}{v:Value}{ws:List WrL}(h:WrArg w F v ws):WrArg w.drew F v ws:=⟨⟨h.sl.1.stays (Q.drew _),h.sl.2⟩,h.num⟩
theorem JrnAt.step{A B C:World}{F:Nat→Prop}{p b:Nat}{j:JL}{d:DevL}(hb:Blk A p 110 (jcells b j))(q:Q A B)(t:Turn (fun k=>F k∧k≠p) B C)(hd:DevAt C (grow (fun k=>F k∧k≠p) B C) b d)(hlt:∀k,F k→k<A.heap.size)(hp:F p):
  JrnAt C (grow F A C) p b { j with d:=d }∧Turn F A C:=by
 have hs:=q.size;have hs2:=t.size
 refine⟨⟨t.blk (hb.stays q) (fun hc=>hc.2 rfl),.inl hp,hd.mono (fun k hk=>?_),fun k hk=>?_⟩,(Turn.of_q q).trans (t.mono (fun k hk=>hk.1))⟩
 ·rcases hk with hk|hk
  ·exact .inl hk.1
  ·exact .inr ⟨by omega,hk.2⟩
 ·rcases hk with hk|hk
  ·have:=hlt k hk;omega
  ·exact hk.2
theorem Ckpt_any(w:World)(F:Nat→Prop)(p b:Nat)(j:JL)(h:JrnAt w F p b j)(hn:JNum j):
  Calls Tryz.prog 107 #[ptrV p] w fun e w'=>e=.returned (.int .i64 j.ckpt.2)∧JrnAt w' (grow F w w') p b j.ckpt.1∧Turn F w w':=by
 have hbox:=h.box
 have hdev:=h.dev.minus hbox
 have hlt:=h.lt
 have hfp:=h.fp
 have hpl:=Place_any w p b j 0 hbox hn.log hn.log2 hn.place hn.used (by omega)
 have hplt:j.place 0≤2000000:=by have:=(logAt_lt j.s (j.used+0) hn.log).2;have:=hn.log2;unfold JL.place;omega
 have HPL:=Lib.hid hpl;have HN:=Lib.hid hn
 have cno:=fun (W:World)=>Noughts_any W
 have CNO:=Lib.hid cno
 have cl1:=fun (W:World) (hq:Q w W)=>Lays_any (W.alloc (.cells #[.int .i64 (j.place 0:Nat),strV noughtsL] 102)) (fun k=>F k∧k≠p) p b j _ [(j.place 0,noughtsL)] ((hbox.stays hq).alloc _) ((hdev.keep hq).keep (Q.alloc _ _)) hn.ok (fun hx=>by have:=hn.plen hx;simp;omega) (wrArg_one (j.place 0,noughtsL) (fun hc=>by have:=hlt _ hc.1;have:=hq.size;omega) (by simp only;omega) (by rw[noughts_len];omega) _) (by simp) (fun hc=>hc.2 rfl)
 have CL1:=Lib.hid cl1
 have HB:=Lib.hid hbox;have HD:=Lib.hid hdev;have HLT:=Lib.hid hlt;have HFP:=Lib.hid hfp
 have hc1:j.d.lays [(j.place 0,noughtsL)]=j.ckpt1:=rfl
 rw[hc1] at CL1
 have hok1:j.ckpt1.1.Ok:=DevL.lays_ok hn.ok _
 have HOK1:=Lib.hid hok1
 clear h hn hpl cno cl1 hbox hdev hlt hfp hc1 hok1
 by_cases hz:j.ckpt1.2=0
 ·have hb:(j.ckpt1.2==0)=true:=beq_iff_eq.2 hz
  have hwe:IntKind.u64.wrap ((j.s.e:Int)+1)=(((j.s.e+1)%18446744073709551616:Nat):Int):=by simp[IntKind.wrap,IntKind.bits,IntKind.signed]
  have hwp:IntKind.i64.wrap ((j.s.place:Int)+(j.used:Int))=((j.s.place+j.used:Nat):Int):=by have:=HN.out.place;have:=HN.out.used;rw[IntWalk.i64_in _ (by omega)];omega
  have hl0:¬((j.s.log:Nat):Int)=0:=by have:=HN.out.log;omega
  have hl00:¬j.s.log=0:=by have:=HN.out.log;omega
  have hwm:(((j.s.place+j.used:Nat):Int)).tmod ((j.s.log:Nat):Int)=(((j.s.place+j.used)%j.s.log:Nat):Int):=by rfl
  have hwm2:IntKind.i64.wrap (((j.s.place+j.used)%j.s.log:Nat):Int)=(((j.s.place+j.used)%j.s.log:Nat):Int):=by have:=Nat.mod_lt (j.s.place+j.used) HN.out.log;have:=HN.out.log2;rw[IntWalk.i64_in _ (by omega)]
  generalize hpl0:j.place 0=pl0 at *
  go_enter Tryz.func107,Tryz.ntmps107
  go_wp2_with fail
  refine HPL.out.mono ?_
  rintro e w1 ⟨rfl,q1⟩
  have HQ1:=Lib.hid q1
  clear q1
  go_wp2_with fail
  refine(CNO.out _).mono ?_
  rintro e w2 ⟨rfl,q2⟩
  have HQ2:=Lib.hid (HQ1.out.trans q2)
  clear q2
  go_wp2_with fail
  refine(CL1.out _ HQ2.out).mono ?_
  rintro e w3 ⟨rfl,h3,t3⟩
  have hst:=JrnAt.step HB.out (HQ2.out.trans (Q.alloc _ _)) t3 h3 HLT.out HFP.out
  obtain⟨c0,c1,c2,c3,c4,c5,c6,c7⟩:=hst.1.box.c8
  have HE:=Lib.hid hst
  clear h3 t3 hst
  go_wp2_with fail
  go_region_held3 (fun w'=>w'.cell? ⟨p,1,none⟩=some (.int .u64 (j.s.e:Nat))∧w'.cell? ⟨p,3,none⟩=some (.int .i64 (j.s.log:Nat))∧w'.cell? ⟨p,4,none⟩=some (.int .i64 (j.s.place:Nat))∧w'.cell? ⟨p,6,none⟩=some (.int .u64 (j.next:Nat))∧w'.cell? ⟨p,7,none⟩=some (.int .i64 (j.used:Nat)))
   (first|exact⟨c1,c3,c4,c6,c7⟩|exact five (by repeat (first|with_reducible exact Q.refl _|with_reducible apply Qs.dr|with_reducible apply Qs.al|with_reducible refine Qs.st ?_ _ _ (Nat.le_refl _))) c1 c3 c4 c6 c7)
   (fail)
  all_goals
   have he:(((j.s.e:Int)+1)%18446744073709551616)=((j.nextSlot.e:Nat):Int):=by
    show(((j.s.e:Int)+1)%18446744073709551616)=(((j.s.e+1)%18446744073709551616:Nat):Int)
    omega
   have hpm:(((j.s.place:Int)+(j.used:Int)).tmod (j.s.log:Int))=((j.nextSlot.place:Nat):Int):=rfl
   rw[he,hpm]
   have cst:=fun (W:World)=>SlotText_any j.nextSlot HN.out.nslot W
   have hns:j.nextSlot.s=j.next:=rfl
   have hnl:j.nextSlot.log=j.s.log:=rfl
   rw[hns,hnl] at cst
   have CST:=Lib.hid cst
   have hq4:Q w3 ((w3.alloc (.cells #[.int .u64 (j.nextSlot.e:Nat),.int .u64 (j.next:Nat),.int .i64 (j.s.log:Nat),.int .i64 (j.nextSlot.place:Nat)] 108)).drew):=Qs.dr (Qs.al (Q.refl _) _)
   have hb4:Blk ((w3.alloc (.cells #[.int .u64 (j.nextSlot.e:Nat),.int .u64 (j.next:Nat),.int .i64 (j.s.log:Nat),.int .i64 (j.nextSlot.place:Nat)] 108)).drew) w3.heap.size 108 #[.int .u64 (j.nextSlot.e:Nat),.int .u64 (j.next:Nat),.int .i64 (j.s.log:Nat),.int .i64 (j.nextSlot.place:Nat)]:=Blk.new w3 _ _
   generalize hV:(w3.alloc (.cells #[.int .u64 (j.nextSlot.e:Nat),.int .u64 (j.next:Nat),.int .i64 (j.s.log:Nat),.int .i64 (j.nextSlot.place:Nat)] 108)).drew=w4 at *
   clear hV cst hns hnl he hpm
   have d5:=cell_stays hq4 c5
   obtain⟨s0,s1,s2,s3,_⟩:=hb4.c4
   have hwk:IntKind.i64.wrap (1-(j.k:Int))=((1-j.k:Nat):Int):=by have:=HN.out.k;rw[IntWalk.i64_in _ (by omega)];omega
   have cl2:=fun (V:World) (hq:Q w4 V) (lv:Value) (ha:WrArg V (fun k=>grow F w w3 k∧k≠p) lv [(1-j.k,slotT j.nextSlot)])=>Lays_any V (fun k=>grow F w w3 k∧k≠p) p b { j with d:=j.ckpt1.1 } lv [(1-j.k,slotT j.nextSlot)] (HE.out.1.box.stays (hq4.trans hq)) ((HE.out.1.dev.minus HE.out.1.box).keep (hq4.trans hq)) HOK1.out (fun hx=>by
    have h1:=HN.out.plen (DevL.lays_live _ _ hx)
    have h2:=DevL.lays_p j.d [(pl0,noughtsL)]
    have h3:j.ckpt1.1.p.length≤j.d.p.length+1:=by rw[←hpl0] at h2;exact h2
    show j.ckpt1.1.p.length+1≤_
    omega) ha (by simp) (fun hc=>hc.2 rfl)
   have hc2:({ j with d:=j.ckpt1.1 }:JL).d.lays [(1-j.k,slotT j.nextSlot)]=j.ckpt2:=rfl
   rw[hc2] at cl2
   have hnw:=fun (V:World) (hq:Q w4 V)=>wrArg_one (w:=V) (F:=fun k=>grow F w w3 k∧k≠p) (1-j.k,slotT j.nextSlot) (fun hc=>by have:=HE.out.1.lt _ hc.1;have:=hq4.size;have:=hq.size;omega) (by simp only;omega) (by rw[slotT_length];omega) 102
   have CL2:=Lib.hid cl2;have HNW:=Lib.hid hnw;have HQ4:=Lib.hid hq4;have HB4:=Lib.hid hb4
   have KK:=Lib.hid (Q.refl w4)
   clear cl2 hnw hc2 hq4 hb4 c0 c1 c2 c3 c4 c5 c6 c7 hwe hwp hwm hwm2
   generalize slotT j.nextSlot=st at *
   go_wp2_with fail
   go_region_held3 (fun w'=>w'.cell? ⟨p,5,none⟩=some (.int .i64 (j.k:Nat))∧w'.cell? ⟨w3.heap.size,0,none⟩=some (.int .u64 (j.nextSlot.e:Nat))∧w'.cell? ⟨w3.heap.size,1,none⟩=some (.int .u64 (j.next:Nat))∧w'.cell? ⟨w3.heap.size,2,none⟩=some (.int .i64 (j.s.log:Nat))∧w'.cell? ⟨w3.heap.size,3,none⟩=some (.int .i64 (j.nextSlot.place:Nat)))
    (first|exact⟨g5,g0,g1,g2,g3⟩|exact⟨d5,s0,s1,s2,s3⟩|exact five (by repeat (first|with_reducible exact KK.out|with_reducible apply Qs.dr|with_reducible apply Qs.al)) d5 s0 s1 s2 s3)
    (first
     | (go_at_call 139;with_reducible refine(CST.out _).mono ?_;rintro e w5 ⟨rfl,q5⟩;have s':Q w4 w5:=Q.trans (by repeat (first|with_reducible exact KK.out|with_reducible apply Qs.dr|with_reducible apply Qs.al)) q5;clear KK;have KK:=Lib.hid s';clear s' q5)
     | (go_at_call 110;with_reducible refine(CL2.out _ (Qs.al KK.out _) _ (HNW.out _ KK.out)).mono ?_;rintro e w6 ⟨rfl,h6,t6⟩;have g5:=t6.cell (cellQ (Qs.al KK.out _) d5) (fun hc=>absurd rfl hc.2);have hnb:¬((fun k=>grow F w w3 k∧k≠p) w3.heap.size):=(fun hc=>by have:=HE.out.1.lt _ hc.1;omega);have g0:=t6.cell (cellQ (Qs.al KK.out _) s0) hnb;have g1:=t6.cell (cellQ (Qs.al KK.out _) s1) hnb;have g2:=t6.cell (cellQ (Qs.al KK.out _) s2) hnb;have g3:=t6.cell (cellQ (Qs.al KK.out _) s3) hnb;have hz6:=JrnAt.step HE.out.1.box (HQ4.out.trans (Qs.al KK.out _)) t6 h6 HE.out.1.lt HE.out.1.fp;clear hnb h6 t6;have HZ6:=Lib.hid hz6;clear hz6))
   all_goals
    have hz6:=HZ6.out
    have hT:=HE.out.2.step hz6.2
    have hJ:JrnAt w6 (grow F w w6) p b { j with d:=j.ckpt2.1 }:=hz6.1.mono (fun k hk=>grow_trans HE.out.2.size hz6.2.size hk) (fun k hk=>hk.elim (fun hk=>by have:=HLT.out k hk;have:=hT.size;omega) (fun hk=>hk.2))
    have HJ:=Lib.hid hJ;have HTT:=Lib.hid hT
    by_cases hz2:j.ckpt2.2=0
    ·have hck:j.ckpt=(⟨j.ckpt2.1,j.nextSlot,1-j.k,j.next,0⟩,0):=by unfold JL.ckpt;rw[if_neg (by rw[hz];simp),if_neg (by rw[hz2];simp)]
     have HCK:=Lib.hid hck
     have hb2:(j.ckpt2.2==0)=true:=beq_iff_eq.2 hz2
     obtain⟨e0,e1,e2,e3,e4,e5,e6,e7⟩:=hJ.box.c8
     have f1:=hJ.box.frozen 1;have f2:=hJ.box.frozen 2;have f3:=hJ.box.frozen 3;have f4:=hJ.box.frozen 4;have f5:=hJ.box.frozen 5;have f7:=hJ.box.frozen 7
     clear hz6 hT hJ hck HZ6 d5 s0 s1 s2 s3
     have hbx:Blk ((((((w6.setCell ⟨p,1,none⟩ (.int .u64 (j.nextSlot.e:Nat))).setCell ⟨p,2,none⟩ (.int .u64 (j.next:Nat))).setCell ⟨p,3,none⟩ (.int .i64 (j.s.log:Nat))).setCell ⟨p,4,none⟩ (.int .i64 (j.nextSlot.place:Nat))).setCell ⟨p,5,none⟩ (.int .i64 ((1-j.k:Nat):Int))).setCell ⟨p,7,none⟩ (.int .i64 0)) p 110 (jcells b ⟨j.ckpt2.1,j.nextSlot,1-j.k,j.next,0⟩):=((((((HJ.out.box.set 1 (.int .u64 (j.nextSlot.e:Nat))).set 2 (.int .u64 (j.next:Nat))).set 3 (.int .i64 (j.s.log:Nat))).set 4 (.int .i64 (j.nextSlot.place:Nat))).set 5 (.int .i64 ((1-j.k:Nat):Int))).set 7 (.int .i64 0))
     have ht:Turn (fun k=>k=p) w6 ((((((w6.setCell ⟨p,1,none⟩ (.int .u64 (j.nextSlot.e:Nat))).setCell ⟨p,2,none⟩ (.int .u64 (j.next:Nat))).setCell ⟨p,3,none⟩ (.int .i64 (j.s.log:Nat))).setCell ⟨p,4,none⟩ (.int .i64 (j.nextSlot.place:Nat))).setCell ⟨p,5,none⟩ (.int .i64 ((1-j.k:Nat):Int))).setCell ⟨p,7,none⟩ (.int .i64 0)):=(Turn.setCell (a:=⟨p,7,none⟩) (Turn.setCell (a:=⟨p,5,none⟩) (Turn.setCell (a:=⟨p,4,none⟩) (Turn.setCell (a:=⟨p,3,none⟩) (Turn.setCell (a:=⟨p,2,none⟩) (Turn.setCell (a:=⟨p,1,none⟩) (Turn.refl (fun k=>k=p) w6) (.inl rfl) (.int .u64 (j.nextSlot.e:Nat))) (.inl rfl) (.int .u64 (j.next:Nat))) (.inl rfl) (.int .i64 (j.s.log:Nat))) (.inl rfl) (.int .i64 (j.nextSlot.place:Nat))) (.inl rfl) (.int .i64 ((1-j.k:Nat):Int))) (.inl rfl) (.int .i64 0))
     have hsz:((((((w6.setCell ⟨p,1,none⟩ (.int .u64 (j.nextSlot.e:Nat))).setCell ⟨p,2,none⟩ (.int .u64 (j.next:Nat))).setCell ⟨p,3,none⟩ (.int .i64 (j.s.log:Nat))).setCell ⟨p,4,none⟩ (.int .i64 (j.nextSlot.place:Nat))).setCell ⟨p,5,none⟩ (.int .i64 ((1-j.k:Nat):Int))).setCell ⟨p,7,none⟩ (.int .i64 0)).heap.size=w6.heap.size:=by simp only[setCell_size]
     have HV:=Lib.hid (And.intro hbx (And.intro ht hsz))
     clear hbx ht hsz
     go_wp2_with fail
     go_region
     all_goals
      generalize hV:((((((w6.setCell ⟨p,1,none⟩ (.int .u64 (j.nextSlot.e:Nat))).setCell ⟨p,2,none⟩ (.int .u64 (j.next:Nat))).setCell ⟨p,3,none⟩ (.int .i64 (j.s.log:Nat))).setCell ⟨p,4,none⟩ (.int .i64 (j.nextSlot.place:Nat))).setCell ⟨p,5,none⟩ (.int .i64 ((1-j.k:Nat):Int))).setCell ⟨p,7,none⟩ (.int .i64 0))=V at *
      clear hV
      go_wp2_with fail
      go_ret
      rw[HCK.out]
      obtain⟨hbx,ht,hsz⟩:=HV.out
      have hdv:=(HJ.out.dev.minus HJ.out.box).beside ht (fun k hk e=>hk.2 e)
      have hs2:V.drew.heap.size=V.heap.size:=rfl
      refine⟨rfl,⟨hbx.stays (Q.drew _),.inl HFP.out,(hdv.mono (fun k hk=>hk.1.elim .inl (fun hk=>.inr ⟨hk.1,by rw[hs2,hsz];exact hk.2⟩))).keep (Q.drew _),fun k hk=>?_⟩,?_⟩
      ·rcases hk with hk|hk
       ·have h1:=HLT.out k hk
        have h2:=HTT.out.size
        rw[hs2,hsz];omega
       ·exact hk.2
      ·exact(HTT.out.trans (ht.mono (fun k hk=>by subst hk;exact HFP.out))).q (Q.drew _)
    ·have hck:j.ckpt=({ j with d:=j.ckpt2.1 },j.ckpt2.2):=by unfold JL.ckpt;rw[if_neg (by rw[hz];simp),if_pos hz2]
     have HCK:=Lib.hid hck
     have hb2:(j.ckpt2.2==0)=false:=beq_eq_false_iff_ne.2 hz2
     clear hz6 hT hJ hck HZ6 d5 s0 s1 s2 s3
     go_wp2_with fail
     go_ret
     rw[HCK.out]
     exact⟨rfl,HJ.out,HTT.out⟩
 ·have hb:(j.ckpt1.2==0)=false:=beq_eq_false_iff_ne.2 hz
  have hck:j.ckpt=({ j with d:=j.ckpt1.1 },j.ckpt1.2):=by unfold JL.ckpt;rw[if_pos hz]
  rw[hck]
  generalize j.ckpt1=r1 at *
  generalize j.place 0=pl0 at *
  clear hck hz
  go_enter Tryz.func107,Tryz.ntmps107
  go_wp2_with fail
  refine HPL.out.mono ?_
  rintro e w1 ⟨rfl,q1⟩
  have HQ1:=Lib.hid q1
  clear q1
  go_wp2_with fail
  refine(CNO.out _).mono ?_
  rintro e w2 ⟨rfl,q2⟩
  have HQ2:=Lib.hid (HQ1.out.trans q2)
  clear q2
  go_wp2_with fail
  refine(CL1.out _ HQ2.out).mono ?_
  rintro e w3 ⟨rfl,h3,t3⟩
  have HE:=Lib.hid (JrnAt.step HB.out (HQ2.out.trans (Q.alloc _ _)) t3 h3 HLT.out HFP.out)
  clear h3 t3
  go_wp2_with fail
  go_ret
  exact⟨rfl,HE.out.1,HE.out.2⟩
structure RJrnAt (w:World) (F:Nat→Prop) (p b:Nat) (j:JL):Prop where
 box:Blk w p 124 (jcells b j)
 fp:F p
 dev:RDevAt w F b j.d
 lt:∀k,F k→k<w.heap.size
theorem RJrnAt.mono{w:World}{F G:Nat→Prop}{p b:Nat}{j:JL}(h:RJrnAt w F p b j)(k:∀i,F i→G i)(hl:∀i,G i→i<w.heap.size):RJrnAt w G p b j:=⟨h.box,k _ h.fp,h.dev.mono k,hl⟩
theorem RJrnAt.beside{w w':World}{F G:Nat→Prop}{p b:Nat}{j:JL}(h:RJrnAt w F p b j)(t:Turn G w w')(hd:∀k,F k→¬G k):RJrnAt w' F p b j:=⟨t.blk h.box (hd _ h.fp),h.fp,h.dev.beside t hd,fun k hk=>Nat.lt_of_lt_of_le (h.lt k hk) t.size⟩
theorem RJrnAt.keep{w w':World}{F:Nat→Prop}{p b:Nat}{j:JL}(h:RJrnAt w F p b j)(q:Q w w'):RJrnAt w' F p b j:=h.beside (Turn.of_q (own:=fun _=>False) q) (fun _ _=>id)
theorem RDevAt.minus{w:World}{F:Nat→Prop}{b p:Nat}{d:DevL}{cs:Array Value}(h:RDevAt w F b d)(hb:Blk w p 124 cs):RDevAt w (fun k=>F k∧k≠p) b d:=by
 obtain⟨lv,pv,h⟩:=h
 exact⟨lv,pv,h.box,⟨h.fb,blk_ne h.box hb (by decide)⟩,h.lrow,fun k e=>⟨h.fl k e,owns_not_blk h.lrow hb (by decide) k e⟩,h.prow,fun k e=>⟨h.fp k e,owns_not_blk h.prow hb (by decide) k e⟩⟩
theorem RJrnAt.step{A B C:World}{F:Nat→Prop}{p b:Nat}{j:JL}{d:DevL}(hb:Blk A p 124 (jcells b j))(q:Q A B)(t:Turn (fun k=>F k∧k≠p) B C)(hd:RDevAt C (grow (fun k=>F k∧k≠p) B C) b d)(hlt:∀k,F k→k<A.heap.size)(hp:F p):
  RJrnAt C (grow F A C) p b { j with d:=d }∧Turn F A C:=by
 have hs:=q.size;have hs2:=t.size
 refine⟨⟨t.blk (hb.stays q) (fun hc=>hc.2 rfl),.inl hp,hd.mono (fun k hk=>?_),fun k hk=>?_⟩,(Turn.of_q q).trans (t.mono (fun k hk=>hk.1))⟩
 ·rcases hk with hk|hk
  ·exact .inl hk.1
  ·exact .inr ⟨by omega,hk.2⟩
 ·rcases hk with hk|hk
  ·have:=hlt k hk;omega
  ·exact hk.2
theorem RJrnAt.turned{w w':World}{F:Nat→Prop}{p b:Nat}{j j':JL}(h:RJrnAt w F p b j)(hb:Blk w' p 124 (jcells b j'))(hd:j'.d=j.d)(t:Turn (fun k=>k=p) w w'):RJrnAt w' F p b j' :=
 ⟨hb,h.fp,by rw[hd];exact((h.dev.minus h.box).beside t (fun k hk e=>hk.2 e)).mono (fun k hk=>hk.1),fun k hk=>Nat.lt_of_lt_of_le (h.lt k hk) t.size⟩
theorem RJrnAt.write{A:World}{F:Nat→Prop}{p b:Nat}{j:JL}(h:RJrnAt A F p b j)(hd:j.d.Ok)(hp:j.d.dead=false→j.d.p.length≤1000000)(i:Int)(s:Bytes)(hs:s.length≤1000000):∀B,Q A B →
  Calls Tryz.prog 115 #[ptrV b,.int .i64 i,strV s] B fun e C=>e=.returned (.int .i64 (j.d.write i s).2)∧RJrnAt C (grow F A C) p b { j with d:=(j.d.write i s).1 }∧Turn F A C:=fun B q=>by
 refine(RWrite_any B (fun k=>F k∧k≠p) b j.d i s ((h.dev.minus h.box).keep q) hd hp (by omega)).mono ?_
 rintro e C ⟨rfl,h2,t2⟩
 exact⟨rfl,RJrnAt.step h.box q t2 h2 h.lt h.fp⟩
theorem RJrnAt.flush{A:World}{F:Nat→Prop}{p b:Nat}{j:JL}(h:RJrnAt A F p b j)(hd:j.d.Ok)(hp:j.d.dead=false→j.d.p.length≤1000000):∀B,Q A B →
  Calls Tryz.prog 117 #[ptrV b] B fun e C=>e=.returned (.int .i64 j.d.flush.2)∧RJrnAt C (grow F A C) p b { j with d:=j.d.flush.1 }∧Turn F A C:=fun B q=>by
 refine(RFlush_any B (fun k=>F k∧k≠p) b j.d ((h.dev.minus h.box).keep q) hd hp).mono ?_
 rintro e C ⟨rfl,h2,t2⟩
 exact⟨rfl,RJrnAt.step h.box q t2 (h2.mono (fun k hk=>.inl hk)) h.lt h.fp⟩
theorem RPlace_any(w:World)(p b:Nat)(j:JL)(n:Nat)(hb:Blk w p 124 (jcells b j))(hl:0<j.s.log)(hl2:j.s.log≤1000000)(hp:j.s.place≤1000000)(hn:n≤3000000):
  Calls Tryz.prog 155 #[ptrV p,.int .i64 (n:Nat)] w fun e w'=>e=.returned (.int .i64 (logAt j.s n:Nat))∧Q w w':=by
 obtain⟨c0,c1,c2,c3,c4,c5,c6,c7⟩:=hb.c8
 have hh:((logAt j.s n:Nat):Int)=2+(((j.s.place:Int)+(n:Int))%(j.s.log:Int)):=by unfold logAt;simp only[Int.natCast_add,Int.natCast_emod];rfl
 rw[hh]
 have hl3:¬(j.s.log:Int)=0:=by omega
 have hmod:((j.s.place:Int)+(n:Int))%(j.s.log:Int)<(j.s.log:Int):=Int.emod_lt_of_pos _ (by omega)
 have hmod0:0≤((j.s.place:Int)+(n:Int))%(j.s.log:Int):=Int.emod_nonneg _ (by omega)
 clear hb hh
 go_enter Tryz.func155,Tryz.ntmps155
 go_wp2_with fail
 go_quiet (fail)
 go_wp2_with fail
 go_ret
 exact⟨rfl,Q.drewN _ _⟩
theorem RHome_any(w:World)(p b:Nat)(j:JL)(hb:Blk w p 124 (jcells b j))(hl:j.s.log≤1000000):
  Calls Tryz.prog 125 #[ptrV p] w fun e w'=>e=.returned (.int .i64 (j.home:Nat))∧w=w':=by
 obtain⟨c0,c1,c2,c3,_⟩:=hb.c8
 have hh:((j.home:Nat):Int)=2+(j.s.log:Int):=by unfold JL.home;omega
 rw[hh]
 clear hb hh
 go_enter Tryz.func125,Tryz.ntmps125
 go_wp2_with fail
 go_ret
 exact⟨rfl,rfl⟩
end
section
open Go.RowKit
attribute [local go_sem] Oper.semAt_some
abbrev keysI(m:List (Nat×Value)):List Nat:=m.map fun x=>x.1
theorem tinfoIntC:(Tryz.prog.info? 3).map (fun i=>(i.zero,i.size,i.bytes))=some (some (.int .i64 0),1,8):=by kernel_rfl
theorem AppendSeq_any(B mb:Nat)(m:List (Nat×Value))(w:World)(hb:Boxed w B 140 (.map (some mb)))(hm:MapI w mb m)(hlen:m.length≤1000000):
  Calls Tryz.prog 167 #[.slice none 0 0,.func (.func 144) #[] #[.pointer (some ⟨B,0,none⟩)]] w fun e w' =>
   ∃(v:Value) (ks:List Nat),e=.returned v∧ks.Perm (m.map (·.1))∧w'.ownsRow w.heap.size 3 1 v ks.length (ks.map keyI)∧Q w w':=by
 obtain⟨i0,hi,hz0,hz1,hz2⟩:=info_parts tinfoIntC
 refine(callsIn_wide (n:=0)).1 ?_
 refine callsIn_of_wp_marks Tryz.func167 rfl trivial ?_ rfl
 simp only[Tryz.ntmps167,List.size_toArray,List.length_cons,List.length_nil,Nat.reduceAdd,Nat.reduceSub,Array.replicate_succ,Array.replicate_zero,List.push_toArray,List.append_toArray,List.nil_append,List.cons_append]
 gi_wp2_with fail
 have hB0:Below w.heap.size w (w.alloc (.cells #[.slice none 0 0] 135)):=(Below.refl _ w).alloc (Nat.le_refl _) _
 have hsz:(w.alloc (.cells #[.slice none 0 0] 135)).heap.size=w.heap.size+1:=by simp
 have b0:Boxed (w.alloc (.cells #[.slice none 0 0] 135)) w.heap.size 135 (.slice none 0 0):=Boxed.new w _ _
 have hblt:=lt_of_get hb
 have hmlt:=hm.lt
 obtain⟨W0,hW0⟩:∃W0,w.alloc (.cells #[.slice none 0 0] 135)=W0:=⟨_,rfl⟩
 rw[hW0] at hB0 hsz b0 ⊢
 clear hW0
 refine wp_rangeG (gf:=144) (lb:=#[.pointer (some ⟨B,0,none⟩)]) rfl (enters_of Tryz.func144 (by kernel_rfl) rfl) (step:=keyStep (keysI m)) (fin':=fun ks=>ks.Perm (keysI m)) (s0:=[]) (own:=fun _=>False) (keep:=fun k=>k=B∨k=mb) (n₀:=w.heap.size)
  (fun W1 hq hz=>Keys_seq B mb w.heap.size m W1 ((fun hx=>(hq.block _ (lt_of_get hx)).trans hx) ((hB0.block B hblt).trans hb)) (hm.same ((hq.block mb (by omega)).trans (hB0.block mb hmlt))) (by omega))
  (fun _ h=>h.elim) (fun k h=>by omega) (by omega) (fun ks W args ks2 h=>by obtain⟨k,_,_,rfl,_⟩:=h;rfl)
  (fun ks W=>(∃v,Boxed W w.heap.size 135 v∧W.ownsRow w.heap.size 3 1 v ks.length (ks.map keyI)∧(∀g,v.ownBlock=some g→w.heap.size+3≤g))∧Below w.heap.size w W∧ks.Nodup∧(∀k∈ks,k∈keysI m))
  (fun _ _ _=>False)
  (fun (ks ks2:List Nat) (a':Act) (_:World)=>∃k:Nat,k∈keysI m∧k∉ks∧ks2=ks++[k]∧a'={ tmps:=#[.slice none 0 0,.func (.func 144) #[] #[.pointer (some ⟨B,0,none⟩)],.pointer (some ⟨w.heap.size,0,none⟩),undef,.slice none 0 0,keyI k,.func (.func 144) #[] #[.pointer (some ⟨B,0,none⟩)],keyI k,undef,undef,undef,undef,undef],defers:=[] })
  (fun ks A B' hI hi=>by
   obtain⟨⟨v,h0,ho,hg⟩,hb,h3⟩:=hI
   exact⟨⟨v,hi.boxed h0 (fun h=>h),hi.owns ho (fun g e h=>h),hg⟩,hi.below hb (by omega) hb.size (fun _ h=>h.elim),h3⟩)
  (fun _ _ _ _ h _=>h) (fun _ _ _ _ _ h _=>h) ⟨⟨_,b0,World.ownsRow_nil _ _ _ _,by simp[Value.ownBlock]⟩,hB0,by simp,by simp⟩ ?assign ?body ?done ?stop
 case assign =>
  rintro l ks ks2 W args K hi2 ⟨k,hk,hnk,rfl,rfl⟩ hz hK
  gi_wp2
  exact hK _ _ (Q.refl _) hi2 ⟨k,hk,hnk,rfl,rfl⟩
 case body =>
  rintro l ks ks2 a' W ⟨⟨rc,hrc⟩,hdf⟩ hl ⟨⟨v,h0,ho,hg⟩,hb2,hnd,hsub⟩ ⟨k,hk,hnk,rfl,rfl⟩ hkb hz
  subst hl
  have hsW:=hb2.size
  have hks:ks.length≤m.length:=by
   have:=List.Nodup.length_le_of_subset hnd (l₂:=m.map (·.1)) (fun k hk=>hsub k hk)
   simpa using this
  have c0:=h0.cell;have f0:=h0.frozen
  have hnd2:(ks++[k]).Nodup:=List.nodup_append.2 ⟨hnd,by simp,fun a ha b hb=>by simp at hb;subst hb;exact fun e=>hnk (e▸ha)⟩
  have hsub2:∀x∈ks++[k],x∈m.map (·.1):=fun x hx=>by
   rcases List.mem_append.1 hx with hx|hx
   ·exact hsub x hx
   ·simp at hx;subst hx;exact hk
  have H0:=Lib.hid h0;have HO:=Lib.hid ho;have HGG:=Lib.hid hg;have HB:=Lib.hid hb2;have HN:=Lib.hid hnd2;have HS:=Lib.hid hsub2
  clear h0 ho hg hb2 hnd hsub hnd2 hsub2 hdf hrc hk hnk
  have hbase:w.heap.size≤W.heap.size:=hsW
  gi_wp2_with (gi_at_builtin;go_must (refine wpListIn_appN W (by rfl) _ _ 135 (by rfl) w.heap.size 3 _ i0 (.int .i64 0) 1 8 Tryz.underlying135 hi hz0 hz1 hz2 rfl (by decide) (by decide) _ _ _ (by rfl) HO.out 1 (by decide) #[keyI k] (by rfl) rfl ?c1 ?c2 hbase ?_))
  case c1=>simp[Value.oneCell']
  case c2=>omega
  intro g cp w4 ho4 hg4 hat hlt4 hsz4
  have hn0:some w.heap.size≠v.ownBlock:=H0.out.not_row (by decide) HO.out
  have hge:w.heap.size+3≤g:=by
   rcases hat with h|h
   ·exact HGG.out g h
   ·omega
  have b04:Boxed w4 w.heap.size 135 v:=H0.out.kept hg4 hn0
  have hb4:=HB.out.grown hg4 hbase (fun j hj=>by have:=HGG.out j hj;omega)
  have hkeep2:∀j,((j=B∨j=mb)∨j=W0.heap.size∨j=W0.heap.size+1)→j<W.heap.size:=fun j hj=>by omega
  have kk4:Bk (fun b=>(b=B∨b=mb)∨b=W0.heap.size∨b=W0.heap.size+1) w.heap.size W w4 :=
   Bk.grown hg4 hbase (fun j hj=>by
    have:=HGG.out j hj
    obtain⟨cs,hcs⟩:=owns_kind HO.out j hj
    exact⟨by omega,fun hc=>by omega,cs,_,_,hcs⟩)
  have B04:=Lib.hid b04;have O4:=Lib.hid ho4;have HB4:=Lib.hid hb4;have KK4:=Lib.hid kk4
  have c04:=b04.cell;have f04:=b04.frozen
  clear b04 ho4 hb4 kk4 hg4 hat c0 f0
  gi_wp2_with fail
  refine⟨KK4.out.trans (Bk.setCell _ (by simp) (by simp;omega) _),⟨_,B04.out.set _,ownsRow_setCell_other (by rw[List.length_append,List.map_append];exact O4.out) (by simp[Value.ownBlock];omega) _,fun j e=>by simp[Value.ownBlock] at e;omega⟩,HB4.out.setCell (by simp) _,HN.out,HS.out⟩
 case done =>
  rintro D ks W hD _ hp ⟨⟨v,h0,ho,hg⟩,hb2,hnd,hsub⟩ hK
  have c0:=h0.cell
  have HO:=Lib.hid ho;have HK:=Lib.hid hK;have HB:=Lib.hid hb2;have HP:=Lib.hid hp
  clear ho hK hb2 h0 hnd hsub hp
  gi_wp2_with fail
  refine⟨by simp,.inl ⟨_,_,rfl,run_takeDeferred HK.out,?_⟩⟩
  exact⟨_,results_tmp rfl _ _ _,v,ks,rfl,HP.out,ownsRow_putObj HO.out _ HK.out rfl,HB.out.trans (Bk.put (own:=fun _=>False) (n₀:=w.heap.size) _ HK.out rfl (by omega) (fun h=>h)).below⟩
 case stop =>
  rintro D c k W _ h _
  exact h.elim
end
section
open Go.RowKit
theorem or64f(a b c:Nat)(ha:a<4294967296)(hb:b<4294967296)(hc:c=a*4294967296+b):bits .or .u64 ((a:Int)*4294967296) (b:Int)=((c:Nat):Int):=by
 subst hc
 rw[show((a:Int)*4294967296)=((a*4294967296:Nat):Int) by omega,u64_or_nat _ _ (by omega) (by omega),nat_join 32 (a*4294967296) b (by rw[show(2:Nat) ^ 32=4294967296 from rfl,Nat.mul_mod_left]) hb]
theorem unfix_take(x:Bytes)(m:Nat)(h:4≤m):unfix (x.take m)=unfix x:=by
 unfold unfix byteN
 simp only[List.getD_eq_getElem?_getD,List.getElem?_take]
 rw[if_pos (by omega),if_pos (by omega),if_pos (by omega),if_pos (by omega)]
def numsP(s:Bytes)(n:Nat):List Nat:=(List.range n).map fun i=>unfix (s.drop (4*i))
theorem numsP_length(s:Bytes)(n:Nat):(numsP s n).length=n:=by simp[numsP]
theorem numsP_succ(s:Bytes)(n:Nat):numsP s (n+1)=numsP s n++[unfix (s.drop (4*n))]:=by simp[numsP,List.range_succ]
theorem numsP_mem(s:Bytes)(n k:Nat)(h:k<n):unfix (s.drop (4*k))∈numsP s n:=List.mem_map.2 ⟨k,List.mem_range.2 h,rfl⟩
theorem numsP_cons(s:Bytes)(n:Nat):numsP s (n+1)=unfix s::numsP (s.drop 4) n:=by
 unfold numsP
 rw[List.range_succ_eq_map,List.map_cons,List.map_map]
 simp only[Nat.mul_zero,List.drop_zero,List.cons.injEq,true_and]
 apply List.map_congr_left
 intro i _
 simp only[Function.comp,List.drop_drop]
 congr 2
 omega
theorem numsL_eq(n:Nat):∀(s:Bytes),numsL n s=if ∀x∈numsP s n,x<4096 then some (numsP s n,s.drop (4*n)) else none:=by
 induction n with
 | zero=>intro s;simp[numsL,numsP]
 | succ n ih =>
  intro s
  rw[numsL,ih,numsP_cons]
  by_cases h:unfix s<4096
  ·rw[if_pos h]
   by_cases h2:∀x∈numsP (s.drop 4) n,x<4096
   ·rw[if_pos h2,if_pos (fun x hx=>(List.mem_cons.1 hx).elim (fun e=>by rw[e];exact h) (h2 x))]
    simp only[Option.map_some,List.drop_drop]
    congr 3;omega
   ·rw[if_neg h2,if_neg (fun hc=>h2 fun x hx=>hc x (List.mem_cons_of_mem _ hx))];rfl
  ·rw[if_neg h,if_neg (fun hc=>h (hc _ (List.mem_cons_self ..)))]
theorem dropWhile_none(l:Bytes)(h:l.dropWhile (·==0)=[]):∀x∈l,x=0:=by
 induction l with
 | nil=>intro x hx;simp at hx
 | cons y l ih =>
  by_cases hy:y=0
  ·rw[List.dropWhile_cons_of_pos (by simp[hy])] at h
   intro x hx
   rcases List.mem_cons.1 hx with e|hx
   ·rw[e,hy]
   ·exact ih h x hx
  ·rw[List.dropWhile_cons_of_neg (by simp[hy])] at h
   simp at h
theorem dropWhile_all(l:Bytes)(h:∀x∈l,x=0):l.dropWhile (·==0)=[]:=by
 induction l with
 | nil=>rfl
 | cons y l ih =>
  rw[List.dropWhile_cons_of_pos (by simp[h y])]
  exact ih (fun x hx=>h x (List.mem_cons_of_mem _ hx))
theorem mem_dropWhile(l:Bytes)(x:UInt8)(h:x∈l)(hx:x≠0):x∈l.dropWhile (·==0):=by
 induction l with
 | nil=>simp at h
 | cons y l ih =>
  by_cases hy:y=0
  ·rw[List.dropWhile_cons_of_pos (by simp[hy])]
   rcases List.mem_cons.1 h with e|h
   ·exact absurd (e.trans hy) hx
   ·exact ih h
  ·rw[List.dropWhile_cons_of_neg (by simp[hy])]
   exact h
theorem trim_none(l:Bytes):(Lib.trimB l 0).isEmpty=l.all (·==0):=by
 rw[show(Lib.trimB l 0).isEmpty=decide (Lib.trimB l 0=[]) by cases Lib.trimB l 0<;>simp]
 unfold Lib.trimB Lib.trimLeftB Lib.trimRightB
 by_cases h:∀x∈l,x=0
 ·have h1:l.reverse.dropWhile (·==0)=[]:=dropWhile_all _ (fun x hx=>h x (List.mem_reverse.1 hx))
  rw[h1,List.all_eq_true.2 (fun x hx=>by rw[h x hx];rfl)]
  rfl
 ·have h2:l.all (·==0)=false:=by
   rw[Bool.eq_false_iff]
   intro hc
   exact h (fun x hx=>by simpa using List.all_eq_true.1 hc x hx)
  rw[h2,decide_eq_false]
  intro hc
  refine h (fun x hx=>?_)
  by_cases hz:x=0
  ·exact hz
  ·exact dropWhile_none _ hc x (List.mem_reverse.2 (mem_dropWhile _ x (List.mem_reverse.2 hx) hz))
theorem hasP(s p:Bytes)(n:Nat)(hp:p.length=n)(h:n≤s.length):Lib.hasPrefix s p=decide (s.take n=p):=by
 rw[←Lib.hasPrefix_of_take,hp,decide_eq_true (by omega),Bool.true_and]
 by_cases he:s.take n=p
 ·rw[he,decide_eq_true rfl];simp
 ·rw[decide_eq_false he];simp[he]
theorem hasS(s p:Bytes)(n k:Nat)(hp:p.length=n)(h:n≤s.length)(hk:s.length-n=k):Lib.hasSuffix s p=decide (s.drop k=p):=by
 rw[←Lib.hasSuffix_of_drop,hp,decide_eq_true (by omega),Bool.true_and,hk]
 by_cases he:s.drop k=p
 ·rw[he,decide_eq_true rfl];simp
 ·rw[decide_eq_false he];simp[he]
def strLn:Value→Nat
 | .string s=>s.data.size
 | _=>0
def intVs(l:List Nat):List Value:=l.map fun x=>.int .i64 (x:Nat)
theorem tinfoInt:(Tryz.prog.info? 3).map (fun i=>(i.zero,i.size,i.bytes))=some (some (.int .i64 0),1,8):=by kernel_rfl
theorem FrRead_any(w:World)(s:Bytes)(hs:s.length=256):
  Calls Tryz.prog 175 #[strV s] w fun e w'=>(∃a v,e=.returned (.tuple #[a,v,.bool (toHeadL s).isSome])∧∀seq l,toHeadL s=some (seq,l)→a=.int .u64 (seq:Nat)∧w'.ownsRow w.heap.size 3 1 v l.length (intVs l))∧Q w w':=by
 obtain⟨i0,hi,hz0,hz1,hz2⟩:=info_parts tinfoInt
 have cp:=fun (W:World)=>Tryz.strings_HasPrefix ⟨s.toArray⟩ ⟨#[67,68,88,84]⟩ W
 have cs:=fun (W:World)=>Tryz.strings_HasSuffix ⟨s.toArray⟩ ⟨#[67,68,88,69]⟩ W (by show s.length≤_;omega)
 have ct:=fun (x:Bytes) (hx:x.length≤1000) (W:World)=>Tryz.strings_Trim_one ⟨x.toArray⟩ 0 (by decide) W (by show x.length≤_;omega)
 have hp:Lib.hasPrefix s [67,68,88,84]=decide (s.take 4=magicT):=hasP s _ 4 rfl (by omega)
 have hsx:Lib.hasSuffix s [67,68,88,69]=decide (s.drop 252=endT):=hasS s _ 4 252 rfl (by omega) (by omega)
 rw[show(⟨s.toArray⟩:ByteArray).data.toList=s from rfl,show(⟨#[67,68,88,84]⟩:ByteArray).data.toList=[67,68,88,84] from rfl,hp] at cp
 rw[show(⟨s.toArray⟩:ByteArray).data.toList=s from rfl,show(⟨#[67,68,88,69]⟩:ByteArray).data.toList=[67,68,88,69] from rfl,hsx] at cs
 have ctf:=fun (x:Bytes) (h4:4≤x.length) (h5:x.length≤1000) (W:World)=>ToFixed_any x W h4 (by omega)
 have hto:toHeadL s=if s.take 4=magicT∧s.drop 252=endT then(if 1≤unfix (s.drop 12)∧unfix (s.drop 12)≤48 then(if ∀x∈numsP ((s.drop 16).take 232) (unfix (s.drop 12)),x<4096 then(if (((s.drop 16).take 232).drop (4*unfix (s.drop 12))).all (·==0) then some (unfix (s.drop 8)*4294967296+unfix (s.drop 4),numsP ((s.drop 16).take 232) (unfix (s.drop 12))) else none) else none) else none) else none:=by
  unfold toHeadL
  by_cases h1:s.take 4=magicT∧s.drop 252=endT
  ·rw[if_pos ⟨hs,h1⟩,if_pos h1]
   simp only[]
   split
   ·rw[numsL_eq]
    by_cases h3:∀x∈numsP ((s.drop 16).take 232) (unfix (s.drop 12)),x<4096
    ·rw[if_pos h3,if_pos h3]
    ·rw[if_neg h3,if_neg h3]
   ·rfl
  ·rw[if_neg (fun h=>h1 h.2),if_neg h1]
 have CP:=Lib.hid cp;have CS:=Lib.hid cs;have CT:=Lib.hid ct;have CTF:=Lib.hid ctf;have HTO:=Lib.hid hto
 have hl:(s.length:Int)=256:=by omega
 clear cp cs ct ctf hto hp hsx
 by_cases hm:s.take 4=magicT
 ·by_cases he:s.drop 252=endT
  ·have hto:=HTO.out
   rw[if_pos ⟨hm,he⟩] at hto
   rw[decide_eq_true hm] at CP
   rw[decide_eq_true he] at CS
   have h0:(⟨s.toArray⟩:ByteArray).extract 4 248=⟨((s.drop 4).take 244).toArray⟩:=bytes_extract s 4 248
   have utk:=fun (x:Bytes) (m:Nat) (hm:4≤m)=>unfix_take x m hm
   have a1:((s.drop 4).take 244).drop 4=(s.drop 8).take 240:=by rw[List.drop_take,List.drop_drop]
   have a2:((s.drop 8).take 240).drop 4=(s.drop 12).take 236:=by rw[List.drop_take,List.drop_drop]
   have a3:((s.drop 12).take 236).drop 4=(s.drop 16).take 232:=by rw[List.drop_take,List.drop_drop]
   have l0:((s.drop 4).take 244).length=244:=by rw[List.length_take,List.length_drop];omega
   have l1:((s.drop 8).take 240).length=240:=by rw[List.length_take,List.length_drop];omega
   have l2:((s.drop 12).take 236).length=236:=by rw[List.length_take,List.length_drop];omega
   have l3:((s.drop 16).take 232).length=232:=by rw[List.length_take,List.length_drop];omega
   have c0:=CTF.out _ (by omega:4≤((s.drop 4).take 244).length) (by omega)
   have c1:=CTF.out _ (by omega:4≤((s.drop 8).take 240).length) (by omega)
   have c2:=CTF.out _ (by omega:4≤((s.drop 12).take 236).length) (by omega)
   have cr:=fun (k:Nat) (hk:k<48)=>CTF.out (((s.drop 16).take 232).drop (4*k)) (by rw[List.length_drop];omega) (by rw[List.length_drop];omega)
   rw[utk _ _ (by omega),a1] at c0
   rw[utk _ _ (by omega),a2] at c1
   rw[utk _ _ (by omega),a3] at c2
   have b0:=unfix_lt (s.drop 4);have b1:=unfix_lt (s.drop 8);have b2:=unfix_lt (s.drop 12)
   clear utk a1 a2 a3 l0 l1 l2
   have C0:=Lib.hid c0;have C1:=Lib.hid c1;have C2:=Lib.hid c2;have CR:=Lib.hid cr;have HT:=Lib.hid hto;have H0:=Lib.hid h0
   clear c0 c1 c2 cr hto CTF HTO h0 hs hm he
   generalize (s.drop 4).take 244=A0 at *
   generalize (s.drop 8).take 240=A1 at *
   generalize (s.drop 12).take 236=A2 at *
   generalize (s.drop 16).take 232=r0 at *
   generalize unfix (s.drop 4)=u0 at *
   generalize unfix (s.drop 8)=u1 at *
   generalize unfix (s.drop 12)=n at *
   go_enter Tryz.func175,Tryz.ntmps175
   go_wp2
   go_step3
   go_wp2_with fail
   refine(CP.out _).mono ?_
   rintro e w1 ⟨rfl,hw⟩
   have hw:=hw.symm
   subst hw
   go_wp2_with fail
   refine(CS.out _).mono ?_
   rintro e w1 ⟨rfl,hw⟩
   have hw:=hw.symm
   subst hw
   clear CP CS
   go_wp2_with fail
   rw[H0.out]
   refine(C0.out _).mono ?_
   rintro e w1 ⟨rfl,q1⟩
   have HQ1:=Lib.hid q1
   clear q1
   go_wp2_with fail
   refine(C1.out _).mono ?_
   rintro e w2 ⟨rfl,q2⟩
   have HQ2:=Lib.hid (HQ1.out.trans q2)
   clear q2
   go_wp2_with fail
   refine(C2.out _).mono ?_
   rintro e w3 ⟨rfl,q3⟩
   have HQ3:=Lib.hid (HQ2.out.trans q3)
   clear q3 HQ1 HQ2 C0 C1 C2
   by_cases hn1:n<1
   ·have e1:(n:Int)<1:=by omega
    have hno:toHeadL s=none:=by rw[HT.out,if_neg (by omega)]
    have HNO:=Lib.hid hno
    clear hno HT
    go_wp2_with fail
    rw[Exit.noGoto_ret]
    go_ret3
    exact⟨⟨_,_,by rw[HNO.out];rfl,fun _ _ h=>by rw[HNO.out] at h;exact absurd h (by simp)⟩,HQ3.out⟩
   by_cases hn2:48<n
   ·have e1:¬(n:Int)<1:=by omega
    have e2:(48:Int)<(n:Int):=by omega
    have hno:toHeadL s=none:=by rw[HT.out,if_neg (by omega)]
    have HNO:=Lib.hid hno
    clear hno HT
    go_wp2_with fail
    rw[Exit.noGoto_ret]
    go_ret3
    exact⟨⟨_,_,by rw[HNO.out];rfl,fun _ _ h=>by rw[HNO.out] at h;exact absurd h (by simp)⟩,HQ3.out⟩
   have e1:¬(n:Int)<1:=by omega
   have e2:¬(48:Int)<(n:Int):=by omega
   have ht:=HT.out
   rw[if_pos (by omega)] at ht
   have HT2:=Lib.hid ht
   clear HT ht
   have hp0:numsP r0 0=[]:=rfl
   have HP0:=Lib.hid hp0
   clear hp0
   have hown0:w3.ownsRow w.heap.size 3 1 (.slice none 0 0) 0 (intVs (numsP r0 0)):=World.ownsRow_nil _ _ _ _
   have hall0:∀x∈numsP r0 0,x<4096:=by rw[HP0.out];intro x hx;simp at hx
   have hd0:r0.drop (4*0)=r0:=rfl
   go_wp2_with fail
   go_step3
   go_wp2
   go_loopw [6,12] (fun rv dv wr=>∃k:Nat,k≤n∧rv=strV (r0.drop (4*k))∧Hid (wr.ownsRow w.heap.size 3 1 dv k (intVs (numsP r0 k)))∧Hid (∀x∈numsP r0 k,x<4096)∧Hid (Q w wr)) (fun rv _ _=>strLn rv)
   case atStart=>exact⟨0,Nat.zero_le _,rfl,hown0,hall0,HQ3⟩
   case round =>
    obtain⟨k,hk,rfl,HR,HA,HQ4⟩:=hrel
    obtain⟨pa,pc,hpv,hpa⟩:=owns_value HR.out
    subst hpv
    by_cases hlt:k<n
    ·have hb:((k:Int)==(n:Int))=false:=beq_eq_false_iff_ne.2 (by omega)
     have hc:=CR.out k (by omega) wr
     have hdd:(r0.drop (4*k)).drop 4=r0.drop (4*(k+1)):=by rw[List.drop_drop];congr 1
     have hln:(r0.drop (4*(k+1))).length<(r0.drop (4*k)).length:=by rw[List.length_drop,List.length_drop];omega
     have hpu:=numsP_succ r0 k
     rw[hdd] at hc
     have hul:=unfix_lt (r0.drop (4*k))
     have hme:=numsP_mem r0 n k hlt
     have HME:=Lib.hid hme
     clear hme
     have HC:=Lib.hid hc;have HLN:=Lib.hid hln;have HPU:=Lib.hid hpu
     clear hc hdd hln hpu
     generalize unfix (r0.drop (4*k))=u at *
     generalize r0.drop (4*k)=x0 at *
     by_cases h4:u<4096
     ·have h5:¬(4096:Int)≤(u:Int):=by omega
      have hal:∀x∈numsP r0 (k+1),x<4096:=by
       rw[HPU.out]
       intro x hx
       rcases List.mem_append.1 hx with hx|hx
       ·exact HA.out x hx
       ·rw[List.mem_singleton.1 hx];exact h4
      have HAL:=Lib.hid hal
      clear hal
      go_wp2_with fail
      refine HC.out.mono ?_
      rintro e w5 ⟨rfl,q5⟩
      have hq5:=HQ4.out.trans q5
      have hr5:=ownsRow_below HR.out q5
      have HQ5:=Lib.hid hq5;have HR5:=Lib.hid hr5
      have hc1:∀u'∈#[(.int .i64 (u:Nat):Value)].toList,u'.oneCell'=true:=by intro u' hu;simp at hu;subst hu;rfl
      have hc2:(k+1)*8≤140737488355328:=by omega
      have HC1:=Lib.hid hc1;have HC2:=Lib.hid hc2
      clear hq5 hr5 q5 hc1 hc2
      go_wp2_with (at_builtin;refine wpList_app w5 (by rfl) _ _ 135 (by rfl) w.heap.size 3 _ i0 (.int .i64 0) 1 8 Tryz.underlying135 hi hz0 hz1 hz2 rfl (by decide) (by decide) _ _ _ (by rfl) HR5.out #[.int .i64 (u:Nat)] (by rfl) rfl HC1.out HC2.out HQ5.out.size ?_)
      intro g cap w6 hr hg ho hlt1 hlt2
      have hq6:Q w w6:=grown_below HQ5.out HR5.out hg (Nat.le_refl _) HQ5.out.size
      have hr6:w6.ownsRow w.heap.size 3 1 (.slice (some ⟨g,0,none⟩) (k+1) cap) (k+1) (intVs (numsP r0 (k+1))):=by rw[HPU.out];unfold intVs;rw[List.map_append];exact hr
      have HR6:=Lib.hid hr6;have HQ6:=Lib.hid hq6
      clear hr hg ho hq6 hr6
      go_wp2_with fail
      go_roundw
      case rel=>exact⟨k+1,by omega,rfl,HR6,HAL,HQ6⟩
      case measure=>exact HLN.out
     ·have h5:(4096:Int)≤(u:Int):=by omega
      have hno:toHeadL s=none:=by rw[HT2.out,if_neg (fun h=>h4 (h _ HME.out))]
      have HNO:=Lib.hid hno
      clear hno
      go_wp2_with fail
      refine HC.out.mono ?_
      rintro e w5 ⟨rfl,q5⟩
      have HQ5:=Lib.hid (HQ4.out.trans q5)
      clear q5
      go_wp2_with fail
      rw[Exit.noGoto_ret]
      go_ret3
      exact⟨⟨_,_,by rw[HNO.out];rfl,fun _ _ h=>by rw[HNO.out] at h;exact absurd h (by simp)⟩,HQ5.out⟩
    ·have hb:((k:Int)==(n:Int))=true:=beq_iff_eq.2 (by omega)
     obtain rfl:k=n:=by omega
     have ct:=CT.out (r0.drop (4*k)) (by rw[List.length_drop];omega) wr
     have htr:=trim_none (r0.drop (4*k))
     have ht:=HT2.out
     rw[if_pos HA.out] at ht
     have CTT:=Lib.hid ct;have HTR:=Lib.hid htr;have HT3:=Lib.hid ht
     clear ct htr ht
     have hll:(r0.drop (4*k)).length≤1000:=by rw[List.length_drop];omega
     generalize r0.drop (4*k)=x0 at *
     go_wp2_with fail
     refine CTT.out.mono ?_
     rintro e w5 ⟨rfl,q5⟩
     have q5':Q wr w5:=q5.elim (fun h=>by rw[h];exact Q.refl _) (fun h=>by rw[h];exact Q.drew _)
     have HQ5:=Lib.hid (HQ4.out.trans q5');have HR5:=Lib.hid (ownsRow_below HR.out q5')
     clear q5 q5'
     go_wp2_with fail
     rw[or64f u1 u0 _ b1 b0 rfl,Exit.noGoto_ret]
     have hfin:(toHeadL s).isSome=x0.all (·==0)∧∀seq l,toHeadL s=some (seq,l)→u1*4294967296+u0=seq∧numsP r0 k=l:=by
      rw[HT3.out]
      cases x0.all (·==0) with
      | true=>exact⟨rfl,fun seq l h=>by simp only[if_true,Option.some.injEq,Prod.mk.injEq] at h;exact h⟩
      | false=>exact⟨rfl,fun seq l h=>absurd h (by simp)⟩
     have HF:=Lib.hid hfin
     have hlen:=numsP_length r0 k
     have HLE:=Lib.hid hlen
     clear hfin hlen
     go_ret3
     refine⟨⟨_,_,by rw[HF.out.1,HTR.out];rfl,fun seq l h=>?_⟩,HQ5.out⟩
     obtain⟨h1,h2⟩:=HF.out.2 seq l h
     subst h1;subst h2
     rw[HLE.out]
     exact⟨rfl,HR5.out⟩
  ·have hno:toHeadL s=none:=by rw[HTO.out,if_neg (fun h=>he h.2)]
   rw[decide_eq_true hm] at CP
   rw[decide_eq_false he] at CS
   rw[hno]
   clear HTO hno CT CTF
   go_enter Tryz.func175,Tryz.ntmps175
   go_wp2
   go_step3
   go_wp2_with fail
   refine(CP.out _).mono ?_
   rintro e w1 ⟨rfl,hw⟩
   have hw:=hw.symm
   subst hw
   go_wp2_with fail
   refine(CS.out _).mono ?_
   rintro e w1 ⟨rfl,hw⟩
   have hw:=hw.symm
   subst hw
   go_wp2_with fail
   rw[Exit.noGoto_ret]
   go_ret3
   exact⟨⟨_,_,rfl,fun _ _ h=>absurd h (by simp)⟩,Q.refl _⟩
 ·have hno:toHeadL s=none:=by rw[HTO.out,if_neg (fun h=>hm h.1)]
  rw[decide_eq_false hm] at CP
  rw[hno]
  clear HTO hno CS CT CTF
  go_enter Tryz.func175,Tryz.ntmps175
  go_wp2
  go_step3
  go_wp2_with fail
  refine(CP.out _).mono ?_
  rintro e w1 ⟨rfl,hw⟩
  have hw:=hw.symm
  subst hw
  go_wp2_with fail
  rw[Exit.noGoto_ret]
  go_ret3
  exact⟨⟨_,_,rfl,fun _ _ h=>absurd h (by simp)⟩,Q.refl _⟩
end
end Go.Proofs.YthcpkgfieoneeaaGreatDoor
