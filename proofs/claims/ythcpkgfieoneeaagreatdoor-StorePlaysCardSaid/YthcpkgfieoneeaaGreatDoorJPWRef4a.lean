/- Joined texts of one proof: what is needed of WRef4a, Nums, WFrmA, WRef3a, WRDevD, Fmt7. -/
import Derived.Test.YthcpkgfieoneeaaGreatDoorJPRange3
import Derived.Test.YthcpkgfieoneeaaGreatDoorJPJrn4
import Derived.Test.YthcpkgfieoneeaaGreatDoorJPBitM
import Derived.Deep.RegionHeld3
import Derived.Deep.Cut
import Derived.Test.YthcpkgfieoneeaaGreatDoorJPJrn
import Derived.Test.YthcpkgfieoneeaaGreatDoorJPWRDevB
import Derived.Test.YthcpkgfieoneeaaGreatDoorJPKit
import Derived.Test.YthcpkgfieoneeaaGreatDoorJPSto
set_option linter.unusedSimpArgs false
set_option linter.unusedVariables false
set_option linter.unnecessarySimpa false
set_option maxRecDepth 100000
set_option maxHeartbeats 16000000
namespace Go.Proofs.YthcpkgfieoneeaaGreatDoor
section
open Go.RowKit
theorem RFixedW_any(x:Int)(w:World):Calls Tryz.prog 123 #[.int .u32 (IntKind.u32.wrap x)] w fun e w'=>e=.returned (strV (fixedL (x%4294967296).toNat))∧Q w w':=by
 have h:IntKind.u32.wrap x=((x%4294967296).toNat:Nat):=by simp[IntKind.wrap,IntKind.bits,IntKind.signed];omega
 rw[h]
 exact RFixed_any _ w (by omega)
theorem RText4_any(s:SlotL)(hs:s.Ok)(w:World):
  Calls Tryz.prog 116 #[.agg #[.int .u64 (s.e:Nat),.int .u64 (s.s:Nat),.int .i64 (s.log:Nat),.int .i64 (s.place:Nat)]] w fun e w'=>e=.returned (strV (slotT s))∧Q w w':=by
 have cf:=fun (x:Int) (W:World)=>RFixedW_any x W
 have hlf:∀v,(fixedL v).length=4:=length_fixedL
 have CF:=Lib.hid cf;have HS:=Lib.hid hs
 have qa:=(Q.alloc w (.cells #[.int .u64 (s.e:Nat),.int .u64 (s.s:Nat),.int .i64 (s.log:Nat),.int .i64 (s.place:Nat)] 122))
 clear cf
 obtain⟨h1,h2,h3,h4⟩:=hs
 go_enter Tryz.func116,Tryz.ntmps116
 go_upto_region 1 with fail
 obtain⟨b0,b1,b2,b3,_⟩:=(Blk.new w 122 #[.int .u64 (s.e:Nat),.int .u64 (s.s:Nat),.int .i64 (s.log:Nat),.int .i64 (s.place:Nat)]).c4
 generalize hw1:w.alloc (.cells #[.int .u64 (s.e:Nat),.int .u64 (s.s:Nat),.int .i64 (s.log:Nat),.int .i64 (s.place:Nat)] 122)=w1 at *
 clear hw1
 have KQ:=Lib.hid (Q.refl w1)
 go_region_held3 (fun w'=>w'.cell? ⟨w.heap.size,0,none⟩=some (.int .u64 (s.e:Nat))∧w'.cell? ⟨w.heap.size,1,none⟩=some (.int .u64 (s.s:Nat))∧w'.cell? ⟨w.heap.size,2,none⟩=some (.int .i64 (s.log:Nat))∧w'.cell? ⟨w.heap.size,3,none⟩=some (.int .i64 (s.place:Nat)))
  (first|exact⟨b0,b1,b2,b3⟩|exact⟨cellQ (by repeat (first|with_reducible exact KQ.out|with_reducible apply Qs.dr|with_reducible apply Qs.al)) b0,cellQ (by repeat (first|with_reducible exact KQ.out|with_reducible apply Qs.dr|with_reducible apply Qs.al)) b1,cellQ (by repeat (first|with_reducible exact KQ.out|with_reducible apply Qs.dr|with_reducible apply Qs.al)) b2,cellQ (by repeat (first|with_reducible exact KQ.out|with_reducible apply Qs.dr|with_reducible apply Qs.al)) b3⟩)
  (first
   | (go_at_call 123;with_reducible refine(CF.out _ _).mono ?_;rintro e w3 ⟨rfl,q3⟩;have s':Q w1 w3:=Q.trans (by repeat (first|with_reducible exact KQ.out|with_reducible apply Qs.dr|with_reducible apply Qs.al)) q3;clear KQ;have KQ:=Lib.hid s';clear s' q3))
 all_goals
  have hq3:Q w w3:=qa.trans KQ.out
  have HQ3:=Lib.hid hq3
  have x1:(((s.e:Int).tmod 4294967296)%4294967296).toNat=s.e%4294967296:=by rw[Int.tmod_eq_emod_of_nonneg (by omega)];omega
  have x2:((s.e:Int) / 4294967296%4294967296).toNat=s.e / 4294967296:=by omega
  have x3:(((s.s:Int).tmod 4294967296)%4294967296).toNat=s.s%4294967296:=by rw[Int.tmod_eq_emod_of_nonneg (by omega)];omega
  have x4:((s.s:Int) / 4294967296%4294967296).toNat=s.s / 4294967296:=by omega
  have x5:((s.log:Int)%4294967296).toNat=s.log:=by omega
  have x6:((s.place:Int)%4294967296).toNat=s.place:=by omega
  have hmg:(#[67,68,88,83]:Array UInt8)=magicS.toArray:=rfl
  simp only[x1,x2,x3,x4,x5,x6,fixedL_mod,hmg,bytes_append]
  have htl:(magicS++fixedL s.e++fixedL (s.e / 4294967296)++fixedL s.s++fixedL (s.s / 4294967296)++fixedL s.log++fixedL s.place).length=28:=by simp only[List.length_append,length_fixedL];rfl
  have hend:(magicS++fixedL s.e++fixedL (s.e / 4294967296)++fixedL s.s++fixedL (s.s / 4294967296)++fixedL s.log++fixedL s.place)++zerosL 100=slotH s:=by simp only[slotH,List.append_assoc]
  have hshl:=slotH_length s
  have hst:slotT s=slotH s++slotH s:=rfl
  have HSTT:=Lib.hid hst
  clear hst
  generalize magicS++fixedL s.e++fixedL (s.e / 4294967296)++fixedL s.s++fixedL (s.s / 4294967296)++fixedL s.log++fixedL s.place=tt at *
  generalize slotH s=sh at *
  obtain⟨i,hi,hz0,hz1,hz2⟩:=info_parts tinfo5
  have km:=run_make (P:=Tryz.prog) w3 103 5 _ _ Tryz.underlying103 hi hz0 .i64 .i64 100 100 (by omega) (Int.le_refl _) (by rw[hz2];omega) (by omega)
  have hb:=(ByteRow.zeros w3 (100:Int).toNat 5).back (P:=Tryz.prog) 103 9 5 (100:Int).toNat Tryz.underlying103 Tryz.underlying5 Tryz.underlying9
  rw[List.length_replicate] at hb
  rw[show List.replicate (100:Int).toNat (0:UInt8)=zerosL 100 from rfl] at hb
  rw[hz1,Nat.mul_one,show(Value.int IntKind.u8 0).cells=#[.int .u8 0] from rfl] at km
  have hq:=Q.alloc w3 (.cells (madeCells #[.int .u8 0] (100:Int).toNat) 5)
  have htl2:(tt.length:Int)=28:=by omega
  have hzl:(zerosL 100).length=100:=rfl
  generalize (100:Int).toNat=mm at *
  generalize w3.alloc (.cells (madeCells #[.int .u8 0] mm) 5)=w4 at *
  generalize zerosL 100=z at *
  have HQ4:=Lib.hid (hq3.trans hq);have HEND:=Lib.hid hend
  clear hq3 hq hz0 hz1 hz2 x1 x2 x3 x4 x5 x6 hmg hend KQ qa
  go_wp2_with fail
  go_ret
  exact⟨by rw[HSTT.out,←HEND.out];simp only[bytes_append];rfl,HQ4.out⟩
end
section
theorem unfix_tk(t:Bytes)(m:Nat)(h:4≤m):unfix (t.take m)=unfix t:=by
 have e:∀k,k<4→byteN (t.take m) k=byteN t k:=fun k hk=>by
  unfold byteN
  rw[List.getD_eq_getElem?_getD,List.getD_eq_getElem?_getD,List.getElem?_take_of_lt (by omega)]
 unfold unfix
 rw[e 0 (by omega),e 1 (by omega),e 2 (by omega),e 3 (by omega)]
def numA(s:Bytes)(k:Nat):Nat:=unfix (s.drop (16+4*k))
def numsK(s:Bytes)(k:Nat):List Nat:=(List.range k).map (numA s)
theorem numsK_succ(s:Bytes)(k:Nat):numsK s (k+1)=numsK s k++[numA s k]:=by unfold numsK;rw[List.range_succ,List.map_append];rfl
theorem numsK_len(s:Bytes)(k:Nat):(numsK s k).length=k:=by simp[numsK]
theorem nums_good(n:Nat):∀(t:Bytes),(∀k,k<n→unfix (t.drop (4*k))<4096)→numsL n t=some ((List.range n).map (fun k=>unfix (t.drop (4*k))),t.drop (4*n)):=by
 induction n with
 | zero=>intro t h;rfl
 | succ n ih =>
  intro t h
  have h0:=h 0 (by omega)
  rw[Nat.mul_zero,List.drop_zero] at h0
  have h1:=ih (t.drop 4) (fun k hk=>by have:=h (k+1) (by omega);rw[List.drop_drop];rwa [show 4+4*k=4*(k+1) by omega])
  rw[numsL,if_pos h0,h1,List.range_succ_eq_map]
  simp only[Option.map_some,List.map_cons,List.map_map,Nat.mul_zero,List.drop_zero,List.drop_drop]
  congr 2
  ·congr 1
   refine List.map_congr_left (fun k _=>?_)
   simp only[Function.comp]
   rw[show 4+4*k=4*(k+1) by omega]
  ·rw[show 4+4*n=4*(n+1) by omega]
theorem nums_bad(n:Nat):∀(t:Bytes) (k:Nat),k<n→¬unfix (t.drop (4*k))<4096→numsL n t=none:=by
 induction n with
 | zero=>intro t k h;omega
 | succ n ih =>
  intro t k hk hb
  rw[numsL]
  by_cases h0:unfix t<4096
  ·rw[if_pos h0]
   cases k with
   | zero=>rw[Nat.mul_zero,List.drop_zero] at hb;exact absurd h0 hb
   | succ k =>
    rw[ih (t.drop 4) k (by omega) (by rw[List.drop_drop,show 4+4*k=4*(k+1) by omega];exact hb)]
    rfl
  ·rw[if_neg h0]
theorem numA_cut(s:Bytes)(k:Nat)(h:k<48):unfix (((s.drop 16).take 232).drop (4*k))=numA s k:=by
 unfold numA
 rw[List.drop_take,List.drop_drop,unfix_tk _ _ (by omega)]
theorem toHead_good(s:Bytes)(hl:s.length=256)(h1:s.take 4=magicT)(h2:s.drop 252=endT)(h3:1≤unfix (s.drop 12))(h4:unfix (s.drop 12)≤48)(h5:∀k,k<unfix (s.drop 12)→numA s k<4096)(h6:∀i,16+4*unfix (s.drop 12)≤i→i<248→byteN s i=0):
  toHeadL s=some (unfix (s.drop 8)*4294967296+unfix (s.drop 4),numsK s (unfix (s.drop 12))):=by
 unfold toHeadL
 rw[if_pos ⟨hl,h1,h2⟩]
 simp only[]
 rw[if_pos ⟨h3,h4⟩,nums_good _ _ (fun k hk=>by rw[numA_cut s k (by omega)];exact h5 k hk)]
 simp only[]
 rw[if_pos]
 ·congr 2
  unfold numsK
  refine List.map_congr_left (fun k hk=>?_)
  exact numA_cut s k (by have:=List.mem_range.1 hk;omega)
 ·rw[List.all_eq_true]
  intro x hx
  obtain⟨i,hi,rfl⟩:=List.getElem_of_mem hx
  rw[List.length_drop,List.length_take,List.length_drop,hl] at hi
  have hb:=h6 (16+(4*unfix (s.drop 12)+i)) (by omega) (by omega)
  rw[List.getElem_drop,List.getElem_take,List.getElem_drop]
  unfold byteN at hb
  rw[List.getD_eq_getElem?_getD,List.getElem?_eq_getElem (by omega)] at hb
  simp only[Option.getD_some] at hb
  rw[beq_iff_eq]
  exact UInt8.toNat_inj.1 (by simpa using hb)
theorem toHead_num(s:Bytes)(h:¬(1≤unfix (s.drop 12)∧unfix (s.drop 12)≤48)):toHeadL s=none:=by
 unfold toHeadL
 split
 ·simp only[];rw[if_neg h]
 ·rfl
theorem toHead_big(s:Bytes)(k:Nat)(hk:k<unfix (s.drop 12))(h4:unfix (s.drop 12)≤48)(hb:¬numA s k<4096):toHeadL s=none:=by
 unfold toHeadL
 split
 ·simp only[]
  split
  ·rw[nums_bad _ _ k hk (by rw[numA_cut s k (by omega)];exact hb)]
  ·rfl
 ·rfl
theorem toHead_rest(s:Bytes)(hl:s.length=256)(h4:unfix (s.drop 12)≤48)(i:Nat)(h1:16+4*unfix (s.drop 12)≤i)(h2:i<248)(hb:byteN s i≠0):toHeadL s=none:=by
 unfold toHeadL
 split
 ·simp only[]
  split
  ·by_cases hg:∀k,k<unfix (s.drop 12)→numA s k<4096
   ·rw[nums_good _ _ (fun k hk=>by rw[numA_cut s k (by omega)];exact hg k hk)]
    simp only[]
    rw[if_neg]
    intro hall
    rw[List.all_eq_true] at hall
    have hm:s[i]'(by omega)∈(List.take 232 (List.drop 16 s)).drop (4*unfix (List.drop 12 s)):=by
     refine List.mem_iff_getElem.2 ⟨i-16-4*unfix (s.drop 12),by rw[List.length_drop,List.length_take,List.length_drop,hl];omega,?_⟩
     rw[List.getElem_drop,List.getElem_take,List.getElem_drop]
     congr 1
     omega
    have:=hall _ hm
    rw[beq_iff_eq] at this
    apply hb
    unfold byteN
    rw[List.getD_eq_getElem?_getD,List.getElem?_eq_getElem (by omega)]
    simp only[Option.getD_some]
    rw[this];rfl
   ·obtain⟨k,hk⟩:=Classical.not_forall.1 hg
    obtain⟨hk1,hk2⟩:=Classical.not_imp.1 hk
    rw[nums_bad _ _ k hk1 (by rw[numA_cut s k (by omega)];exact hk2)]
  ·rfl
 ·rfl
theorem toHead_marks(s:Bytes)(h:¬(s.length=256∧s.take 4=magicT∧s.drop 252=endT)):toHeadL s=none:=by
 unfold toHeadL
 rw[if_neg h]
end
section
open Go.RowKit
theorem owns_one(W:World)(base:Nat)(e:TypeId)(v:Value)(hb:base≤W.heap.size):(W.alloc (.cells #[v] e)).ownsRow base e 1 (.slice (some ⟨W.heap.size,0,none⟩) 1 1) 1 [v]:=⟨rfl,.inr ⟨W.heap.size,1,#[v],rfl,hb,heap_alloc_new _ _,Nat.le_refl _,by decide,rfl,rfl⟩⟩
theorem tinfoSt:(Tryz.prog.info? 9).map (fun i=>(i.zero,i.size,i.bytes))=some (some (strV []),1,16):=by kernel_rfl
theorem Sum_any(w:World)(hd:Bytes)(dv:Value)(ds:List Bytes)(h:Strs w dv ds)(hn:ds.length≤1000000)(hh:hd.length≤1000000)(hs:∀p∈ds,p.length≤1000000):
  Calls Tryz.prog 148 #[strV hd,dv] w fun e w'=>e=.returned (strV (fixedL (crcL (hd++ds.flatten))))∧Q w w':=by
 obtain⟨i0,hi,hz0,hz1,hz2⟩:=info_parts tinfoSt
 have hq:=Q.alloc w (.cells #[strV hd] 9)
 have hsl:Sl (w.alloc (.cells #[strV hd] 9)) dv ds.length 1 (ds.map strV):=Sl.stays h hq
 have how:=owns_one w w.heap.size 9 (strV hd) (Nat.le_refl _)
 have hcr:=fun (V:World) (v:Value) (hv:Strs V v (hd::ds))=>Crc_any v (hd::ds) V hv (by simp;omega) (fun p hp=>by
  rcases List.mem_cons.1 hp with rfl|hp
  ·omega
  ·have:=hs p hp;omega)
 have hfx:=fun (V:World)=>Fixed_any (crcL (hd++ds.flatten)) V (crcL_lt _)
 rw[show(hd::ds).flatten=hd++ds.flatten from rfl] at hcr
 have h1:∀u∈ds.map strV,u.oneCell'=true:=fun u hu=>by obtain⟨d,_,rfl⟩:=List.mem_map.1 hu;rfl
 have h2:1+ds.length≤maxLen:=by unfold maxLen;omega
 have h3:(1+ds.length)*16≤140737488355328:=by omega
 have HSL:=Lib.hid hsl;have HOW:=Lib.hid how;have HCR:=Lib.hid hcr;have HFX:=Lib.hid hfx;have H1:=Lib.hid h1;have H2:=Lib.hid h2;have H3:=Lib.hid h3;have HQ:=Lib.hid hq
 clear hsl how hcr hfx h1 h2 h3 hq h hs
 generalize crcL (hd++ds.flatten)=cr at *
 go_enter Tryz.func148,Tryz.ntmps148
 go_wp2_with (at_builtin;refine wpList_append_sl (w.alloc (.cells #[strV hd] 9)) (by rfl) _ _ 47 (by rfl) w.heap.size 9 i0 (strV []) 1 16 Tryz.underlying47 hi hz0 hz1 hz2 rfl (by decide) _ 1 [strV hd] (by rfl) HOW.out _ ds.length (ds.map strV) (by rfl) HSL.out H1.out H2.out H3.out (by simp) ?_)
 intro v' w' hr hg ho
 have hst:Strs w' v' (hd::ds):=by
  have:=Sl.of_owns hr
  unfold Strs
  rw[List.length_cons,Nat.add_comm]
  exact this
 have hqq:Q w w':=grown_below HQ.out HOW.out hg (Nat.le_refl _) HQ.out.size
 have HST:=Lib.hid hst;have HQQ:=Lib.hid hqq
 clear hst hqq hr hg ho
 go_wp2_with fail
 refine(HCR.out _ _ HST.out).mono ?_
 rintro e w1 ⟨rfl,rfl⟩
 go_wp2_with fail
 refine(HFX.out _).mono ?_
 rintro e w2 ⟨rfl,q2⟩
 have HQ2:=Lib.hid (HQQ.out.trans q2)
 clear q2
 go_wp2_with fail
 go_ret
 exact⟨rfl,HQ2.out⟩
def headG(seq:Nat)(ws:List WrL)(k:Nat):Bytes:=magicT++fixedL seq++fixedL (seq / 4294967296)++fixedL ws.length++fixedsL ((ws.take k).map (·.1))
theorem headG_succ(seq:Nat)(ws:List WrL)(k:Nat)(h:k<ws.length):headG seq ws (k+1)=headG seq ws k++fixedL ws[k].1:=by
 unfold headG
 rw[List.take_succ_eq_append_getElem h,List.map_append]
 simp[fixedsL,List.append_assoc]
theorem headG_len(seq:Nat)(ws:List WrL)(k:Nat)(h:k≤ws.length):(headG seq ws k).length=16+4*k:=by
 unfold headG
 simp only[List.length_append,length_fixedL,fixedsL_length,List.length_map,List.length_take]
 have:magicT.length=4:=rfl
 omega
theorem headG_end(seq:Nat)(ws:List WrL):headG seq ws ws.length++zerosL (232-4*ws.length)=bodyL seq ws:=by
 unfold headG bodyL
 rw[List.take_length]
 simp only[List.append_assoc]
theorem RHead_any(w:World)(seq:Nat)(hs:seq<18446744073709551616)(lv:Value)(ws:List WrL)(hl:Sl w lv ws.length 2 (wrVs ws))(hn:ws.length≤48)(hw:∀x∈ws,x.1<4096):
  Calls Tryz.prog 157 #[.int .u64 (seq:Nat),lv] w fun e w'=>e=.returned (strV (bodyL seq ws))∧Q w w':=by
 obtain⟨la,lc,rfl,hlc⟩:=hl.value
 have hcell:∀k (hk:k<ws.length),∃lb lo,la=some ⟨lb,lo,none⟩∧w.cell? ⟨lb,lo+k*2,none⟩=some (.int .i64 (ws[k].1:Nat))∧ws[k].1<4096:=fun k hk=>by
  obtain⟨lb,lo,h1,h4⟩:=hlc (by omega)
  exact⟨lb,lo,h1,h4 _ _ (wrVs_at ws k hk).1,hw _ (List.getElem_mem hk)⟩
 have cf:=fun (v:Nat) (hv:v<4294967296) (W:World)=>RFixed_any v W hv
 have CF:=Lib.hid cf;have HC:=Lib.hid hcell
 have f1:(fixedL (seq%4294967296))=fixedL seq:=fixedL_mod seq
 have F1:=Lib.hid f1
 clear cf hcell hlc hl f1
 go_enter Tryz.func157,Tryz.ntmps157
 go_wp2_with fail
 rw[show((seq:Int)%4294967296)=((seq%4294967296:Nat):Int) by omega]
 refine(CF.out _ (by omega) _).mono ?_
 rintro e w1 ⟨rfl,q1⟩
 rw[F1.out]
 have l1:=length_fixedL seq;have l2:=length_fixedL (seq / 4294967296);have l3:=length_fixedL ws.length
 have HQ1:=Lib.hid q1
 clear q1
 go_wp2_with fail
 rw[show((seq:Int) / 4294967296)=((seq / 4294967296:Nat):Int) by omega]
 refine(CF.out _ (by omega) _).mono ?_
 rintro e w2 ⟨rfl,q2⟩
 have HQ2:=Lib.hid (HQ1.out.trans q2)
 clear q2
 go_wp2_with fail
 refine(CF.out _ (by omega) _).mono ?_
 rintro e w3 ⟨rfl,q3⟩
 have HQ3:=Lib.hid (HQ2.out.trans q3)
 clear q3
 go_wp2_with fail
 have hmg:(#[67,68,88,84]:Array UInt8)=magicT.toArray:=rfl
 simp only[hmg,bytes_append,List.append_assoc]
 have hg0:magicT++(fixedL seq++(fixedL (seq / 4294967296)++fixedL ws.length))=headG seq ws 0:=by unfold headG;simp[fixedsL]
 rw[hg0]
 clear hg0 hmg l1 l2 l3 hs
 go_loopw [5,6] (fun tv v wr=>∃k:Nat,v=.int .i64 (k:Nat)∧k≤ws.length∧tv=strV (headG seq ws k)∧Hid (Q w wr)) (fun _ v _=>ws.length-(intOf v).toNat)
 case atStart=>exact⟨0,rfl,Nat.zero_le _,rfl,HQ3.out⟩
 case round =>
  obtain⟨k,rfl,hk,rfl,HQ⟩:=hrel
  have hgl:=headG_len seq ws k hk
  by_cases hlt:k<ws.length
  ·have hki:(k:Int)<(ws.length:Int):=by omega
   obtain⟨lb,lo,rfl,x1,hx⟩:=HC.out k hlt
   have y1:=cellQ HQ.out x1
   have hst:=headG_succ seq ws k hlt
   have HST:=Lib.hid hst
   have l1:=length_fixedL ws[k].1
   clear hst x1
   generalize ws[k].1=bk at *
   have hgl2:(headG seq ws k).length≤1000:=by omega
   clear hgl
   generalize headG seq ws k=hg at *
   go_wp2_with fail
   refine(CF.out bk (by omega) _).mono ?_
   rintro e w4 ⟨rfl,q4⟩
   have HQ4:=Lib.hid (HQ.out.trans q4)
   clear q4
   go_wp2_with fail
   go_roundw
   case rel=>exact⟨k+1,by go_num,by omega,by rw[HST.out];simp only[bytes_append],HQ4⟩
   case measure=>simp[intOf];omega
  ·have hki:¬(k:Int)<(ws.length:Int):=by omega
   obtain rfl:k=ws.length:=by omega
   have hend:=headG_end seq ws
   have hgl3:((headG seq ws ws.length).length:Int)=16+4*(ws.length:Int):=by omega
   obtain⟨zn,hzn⟩:∃zn,zn=232-4*ws.length:=⟨_,rfl⟩
   have hzi:(248:Int)-(16+4*(ws.length:Int))=(zn:Int):=by omega
   rw[←hzn] at hend
   obtain⟨i,hi,hz0,hz1,hz2⟩:=info_parts tinfo5
   have km:=run_make (P:=Tryz.prog) wr 103 5 _ _ Tryz.underlying103 hi hz0 .i64 .i64 (zn:Int) (zn:Int) (by omega) (Int.le_refl _) (by rw[hz2];omega) (by omega)
   have hb:=(ByteRow.zeros wr zn 5).back (P:=Tryz.prog) 103 9 5 zn Tryz.underlying103 Tryz.underlying5 Tryz.underlying9
   rw[List.length_replicate] at hb
   rw[show List.replicate zn (0:UInt8)=zerosL zn from rfl] at hb
   rw[Int.toNat_natCast,hz1,Nat.mul_one,show(Value.int IntKind.u8 0).cells=#[.int .u8 0] from rfl] at km
   have hq:=Q.alloc wr (.cells (madeCells #[.int .u8 0] zn) 5)
   have hzl:(zerosL zn).length≤1000:=by rw[zerosL_length];omega
   have hgl2:(headG seq ws ws.length).length≤1000:=by omega
   generalize wr.alloc (.cells (madeCells #[.int .u8 0] zn) 5)=w5 at *
   generalize zerosL zn=z at *
   generalize headG seq ws ws.length=hg at *
   have hw248:IntKind.i64.wrap ((248:Int)-(hg.length:Int))=(zn:Int):=by rw[IntWalk.i64_in _ (by omega)];omega
   have hw249:(248:Int)-(hg.length:Int)=(zn:Int):=by omega
   rw[←hw249] at km
   have HEND:=Lib.hid hend;have HQ5:=Lib.hid (HQ.out.trans hq)
   clear hend hq hzn hgl hz0 hz1 hz2 hzi hgl3 hw248 hw249
   go_wp2_with fail
   go_ret
   exact⟨by rw[←HEND.out];simp only[bytes_append];rfl,HQ5.out⟩
theorem RNoughts_any(w:World):Calls Tryz.prog 71 #[] w fun e w'=>e=.returned (strV noughtsL)∧Q w w':=by
 obtain⟨i,hi,hz0,hz1,hz2⟩:=info_parts tinfo5
 have km:=run_make (P:=Tryz.prog) w 103 5 _ _ Tryz.underlying103 hi hz0 .i64 .i64 256 256 (by omega) (Int.le_refl _) (by rw[hz2];omega) (by omega)
 have hb:=(ByteRow.zeros w (256:Int).toNat 5).back (P:=Tryz.prog) 103 9 5 (256:Int).toNat Tryz.underlying103 Tryz.underlying5 Tryz.underlying9
 rw[List.length_replicate] at hb
 rw[show List.replicate (256:Int).toNat (0:UInt8)=noughtsL from rfl] at hb
 rw[hz1,Nat.mul_one,show(Value.int IntKind.u8 0).cells=#[.int .u8 0] from rfl] at km
 have hq:=Q.alloc w (.cells (madeCells #[.int .u8 0] (256:Int).toNat) 5)
 generalize noughtsL=nl at *
 generalize (256:Int).toNat=m at *
 generalize w.alloc (.cells (madeCells #[.int .u8 0] m) 5)=w2 at *
 have HQ:=Lib.hid hq
 clear hq hz0 hz1 hz2
 go_enter Tryz.func71,Tryz.ntmps71
 go_wp2
 go_ret
 exact⟨rfl,HQ.out⟩
end
section
theorem format_pre(n:Nat)(h:128≤n)(hm:n≤4096):OpenPre 60 1 (formatJ (DevL.new n) 60).1 ⟨1,1,60,0⟩ 0 [] (fun _=>noughtsL):=by
 have hl:(DevL.new n).l.length=n:=List.length_replicate
 have hok:=DevL.new_ok n (by omega) hm
 have hfree:(DevL.new n).Free:=⟨rfl,rfl⟩
 have hw:∀w∈formatW 60,w.1<(DevL.new n).l.length∧w.2.length=256:=fun w hw=>by
  rw[hl]
  rcases List.mem_append.1 hw with hw|hw
  ·obtain⟨i,hi,rfl⟩:=List.mem_map.1 hw
   have:=List.mem_range.1 hi
   exact⟨by simp only;omega,noughts_len⟩
  ·rw[List.mem_singleton] at hw;subst hw
   exact⟨by simp only;omega,slotT_length _⟩
 obtain⟨a,b,c,e⟩:(formatJ (DevL.new n) 60).2=0∧(formatJ (DevL.new n) 60).1.dead=false∧(formatJ (DevL.new n) 60).1.l=layP (DevL.new n).l ((DevL.new n).p++formatW 60)∧(formatJ (DevL.new n) 60).1.p=[]:=by
  rcases DevL.lays_run (formatW 60) (DevL.new n) rfl hw with h1|⟨_,h2,_⟩
  ·exact h1
  ·exfalso
   have:=(DevL.lays_free' hfree (formatW 60)).2
   rw[h2] at this;exact absurd this (by decide)
 have hfj:(formatJ (DevL.new n) 60).1.Free:=DevL.lays_free' hfree _
 have hlj:(formatJ (DevL.new n) 60).1.l.length=n:=by rw[c,layP_length,hl]
 have hnew:∀i,i<n→at' (DevL.new n).l i=noughtsL:=fun i hi=>by
  simp only[DevL.new,at',List.getD_eq_getElem?_getD,List.getElem?_replicate,if_pos hi,Option.getD_some]
 have hg:∀i,i<n→at' (formatJ (DevL.new n) 60).1.l i=if i=0 then slotT ⟨1,1,60,0⟩ else noughtsL:=fun i hi=>by
  rw[c,layP_at _ _ _ (by rw[hl];exact hi),hnew i hi]
  show lastP ([]++formatW 60) i noughtsL=_
  rw[List.nil_append]
  unfold formatW
  rw[lastP_snoc]
  by_cases h0:i=0
  ·rw[if_pos h0,if_pos h0.symm]
  ·rw[if_neg h0,if_neg (Ne.symm h0)]
   by_cases hx:∃w∈(List.range (60+1)).map (fun i=>(i+1,noughtsL)),w.1=i
   ·obtain⟨w,hw,_,e⟩:=lastP_mem _ i noughtsL hx
    obtain⟨m,_,rfl⟩:=List.mem_map.1 hw
    exact e
   ·exact lastP_none _ _ _ (fun w hw e=>hx ⟨w,hw,e⟩)
 have hso:(⟨1,1,60,0⟩:SlotL).Ok:=⟨by decide,by decide,by decide,by decide⟩
 have hrec:RecS (formatJ (DevL.new n) 60).1.l ⟨1,1,60,0⟩ 0 [] (fun _=>noughtsL):=by
  refine⟨by rw[hlj];exact hm,(DevL.lays_ok hok _).l,by decide,by rw[hlj];show 60+3≤n;omega,by decide,by decide,by decide,by decide,?_,?_,⟨by decide,?_⟩,fun i h1 h2=>?_⟩
  ·rw[hg 0 (by omega),if_pos rfl]
  ·refine OldX.other ?_ ⟨by decide,by decide,by decide,by decide⟩ (by decide)
   rw[hg _ (by omega),if_neg (by decide)]
   exact .inl rfl
  ·rw[show logAt ⟨1,1,60,0⟩ 0=2 from rfl,hg 2 (by omega),if_neg (by decide)]
   exact noughts_end
  ·rw[hlj] at h2
   show at' _ i=_
   rw[hg i h2,if_neg (by have:2+60≤i:=h1;omega)]
 have hpre:OpenPre 60 1 (formatJ (DevL.new n) 60).1 ⟨1,1,60,0⟩ 0 [] (fun _=>noughtsL) :=
  ⟨DevL.lays_ok hok _,b,hrec,rfl,by decide,by decide,fun w hw=>by rw[e] at hw;simp at hw⟩
 exact hpre
theorem format_run2(n:Nat)(h:128≤n)(hm:n≤4096):
  (formatS (DevL.new n)).2=0∧(formatS (DevL.new n)).1.Free∧(formatS (DevL.new n)).1.l.length=n∧(formatS (DevL.new n)).1.Ok∧(∃s k fr,OpenPre 60 4 (formatS (DevL.new n)).1 s k fr (updC (fun _=>noughtsL) (formatT n)))∧GoodC n (updC (fun _=>noughtsL) (formatT n))∧mapC n (updC (fun _=>noughtsL) (formatT n))=bits0 n∧(formatS (DevL.new n)).1.p.length≤48:=by
 have hl:(DevL.new n).l.length=n:=List.length_replicate
 obtain⟨a,hlj,_,_,o1,o2,hol,hof⟩:=format_mid n h hm
 obtain⟨t1,t2,t3,t4⟩:=formatT_map n h hm (fun _=>noughtsL)
 have hwo:WrOk (formatT n):=⟨by simp[formatT],by omega,fun w hw=>by have:=t3 w hw;exact⟨by omega,this.2.2⟩⟩
 obtain⟨q1,fr,q2⟩:((openJ (formatJ (DevL.new n) 60).1).1.commit (formatT n)).2=0∧∃fr',JInv 60 4 ((openJ (formatJ (DevL.new n) 60).1).1.commit (formatT n)).1 fr' (updC (fun _=>noughtsL) (formatT n)):=by
  rcases commit_run o2 (formatT n) hwo (fun w hw=>by rw[hol];have:=t3 w hw;exact⟨by omega,this.2.1⟩) (by decide) with x|⟨_,x,_⟩
  ·exact x
  ·exfalso
   have:=(JL.commit_free hof (formatT n)).2
   rw[x] at this;exact absurd this (by decide)
 have hfs:formatS (DevL.new n)=(((openJ (formatJ (DevL.new n) 60).1).1.commit (formatT n)).1.d,0):=by
  unfold formatS
  rw[if_neg (by rw[hl];omega),if_neg (by rw[a];simp),if_neg (by rw[o1];simp),hl,q1]
 rw[hfs]
 exact⟨rfl,JL.commit_free hof _,by rw[JL.commit_len,hol],q2.ok,⟨_,_,fr,q2.toJPre.open⟩,⟨t2,by rw[t1];exact bits0_good n h hm⟩,t1,q2.plen⟩
end
end Go.Proofs.YthcpkgfieoneeaaGreatDoor
