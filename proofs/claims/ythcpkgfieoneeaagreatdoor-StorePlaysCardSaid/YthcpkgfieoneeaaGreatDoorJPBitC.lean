/- Joined texts of one proof: what is needed of BitC, BitD, BitE, BitA, BitF, BitG, BitI, BitH, BitR. -/
import Derived.Test.YthcpkgfieoneeaaGreatDoorProg
import Derived.Test.YthcpkgfieoneeaaGreatDoorJPWRDevB
import Derived.WalkKit
import Derived.WalkSpells
import Derived.WalkLawsBesides
import Derived.Outline
import Derived.Test.YthcpkgfieoneeaaGreatDoorJPBitM
import Derived.Test.YthcpkgfieoneeaaGreatDoorJPKit
import Derived.Deep.DeepMust
set_option linter.unusedSimpArgs false
set_option linter.unusedVariables false
set_option linter.unnecessarySimpa false
set_option maxRecDepth 100000
set_option maxHeartbeats 16000000
namespace Go.Proofs.YthcpkgfieoneeaaGreatDoor
section
open Go.RowKit
theorem set_rel_on{w0 wr:World}{B:Nat}{l m:List UInt8}(s k x:Nat)(hr:ByteRow wr B m)(hm:setTo l s true k=m)(hx:x<256)(hv:(m.getD ((s+k) / 8) 0).toNat=x):
  ByteRow ((wr.setCell ⟨B,(s+k) / 8,none⟩ (.int .u8 (bits BinOp.andNot .u8 x (2 ^ ((s+k)%8)%256)))).setCell ⟨B,(s+k) / 8,none⟩
   (.int .u8 (bits BinOp.or .u8 (bits BinOp.andNot .u8 x (2 ^ ((s+k)%8)%256)) (2 ^ ((s+k)%8)%256)))) B (setTo l s true (k+1)):=by
 have hk:(s+k)%8<8:=Nat.mod_lt _ (by omega)
 rw[walk_turn x _ hx hk,walk_clear x _ hx hk]
 have h1:=hr.set ((s+k) / 8) _ (UInt8.ofNat (byteSet x ((s+k)%8) false)) (ofNat_toNat _ (byteSet_lt _ _ _ hx hk)).symm
 have h2:=h1.set ((s+k) / 8) _ (UInt8.ofNat (byteSet x ((s+k)%8) true)) (ofNat_toNat _ (byteSet_lt _ _ _ hx hk)).symm
 rw[set_set] at h2
 rw[setTo,hm,setBit,hv]
 exact h2
theorem set_rel_off{w0 wr:World}{B:Nat}{l m:List UInt8}(s k x:Nat)(hr:ByteRow wr B m)(hm:setTo l s false k=m)(hx:x<256)(hv:(m.getD ((s+k) / 8) 0).toNat=x):
  ByteRow (wr.setCell ⟨B,(s+k) / 8,none⟩ (.int .u8 (bits BinOp.andNot .u8 x (2 ^ ((s+k)%8)%256)))) B (setTo l s false (k+1)):=by
 have hk:(s+k)%8<8:=Nat.mod_lt _ (by omega)
 rw[walk_clear x _ hx hk]
 have h1:=hr.set ((s+k) / 8) _ (UInt8.ofNat (byteSet x ((s+k)%8) false)) (ofNat_toNat _ (byteSet_lt _ _ _ hx hk)).symm
 rw[setTo,hm,setBit,hv]
 exact h1
theorem set_ok(l:List UInt8)(s c:Nat)(on:Bool)(w:World)(hs:l.length≤9223372036854775807 / 8)(h2:c+s≤8*l.length):
  Calls Tryz.prog 97 #[.string ⟨l.toArray⟩,.int .i64 s,.int .i64 c,.bool on] w fun e w'=>e=.returned (.tuple #[.string ⟨(setTo l s on c).toArray⟩,.bool true])∧Below w.heap.size w w':=by
 have kc:=fun (w:World) (s:ByteArray)=>run_bytes_of_string (P:=Tryz.prog) w 9 103 5 s Tryz.underlying9 Tryz.underlying103 Tryz.underlying5
 have H1:¬(8*(l.length:Int))<s:=by omega
 have H2:¬(8*(l.length:Int)-s)<c:=by omega
 go_enter Tryz.func97,Tryz.ntmps97
 go_wp2
 go_loopw [38] (fun i wr=>∃k:Nat,k≤c∧i=.int .i64 k∧Below w.heap.size w wr∧ByteRow wr w.heap.size (setTo l s on k)) (fun i _=>c-(intOf i).toNat)
 case atStart=>exact⟨0,by omega,rfl,(Below.refl _ _).alloc (Nat.le_refl _) _ |>.drew,ByteRow.made _ _ _ _⟩
 case round =>
  obtain⟨k,hk,rfl,hb,hr⟩:=hrel
  have hl:=length_setTo l s on k
  generalize hm:setTo l s on k=m at *
  have HL:=Lib.hid hl;clear hl
  have HM:=Lib.hid hm;clear hm
  by_cases hlt:k<c
  ·have hi2:(s+k) / 8<l.length:=by omega
   obtain⟨x,hx,HV,hc,hf⟩:=hr.at ((s+k) / 8) (by rw[HL.out];omega)
   have HR:=Lib.hid hr;clear hr
   have HB:=Lib.hid hb;clear hb
   cases on
   ·go_wp2
    go_region
    go_wp2
    refine⟨⟨k+1,by omega,by go_num,((HB.out.setCell (Nat.le_refl _) _).drew),?_⟩,by simp[intOf];omega⟩
    exact set_rel_off (w0:=w) s k x HR.out HM.out hx HV.out
   ·go_wp2
    go_region
    go_wp2
    go_region
    go_wp2
    refine⟨⟨k+1,by omega,by go_num,(((HB.out.setCell (Nat.le_refl _) _).setCell (Nat.le_refl _) _).drew).drew,?_⟩,by simp[intOf];omega⟩
    exact set_rel_on (w0:=w) s k x HR.out HM.out hx HV.out
  ·have hk2:k=c:=by omega
   have hkc:=hr.back (P:=Tryz.prog) 103 9 5 (grownCap w l.length 0 5) Tryz.underlying103 Tryz.underlying5 Tryz.underlying9
   rw[HL.out] at hkc
   have HR:=Lib.hid hr;clear hr
   have HB:=Lib.hid hb;clear hb
   have HK:=Lib.hid hk2;clear hk2
   go_wp2
   go_ret2
   exact⟨by rw[←HK.out,HM.out];rfl,HB.out⟩
theorem rmake_in(n:Int)(w:World)(h1:1≤n)(h2:n≤32768):
  Calls Tryz.prog 76 #[.int .i64 n] w fun e w'=>e=.returned (.string ⟨(makeL n).toArray⟩)∧Below w.heap.size w w':=by
 obtain⟨i,hi,hz0,hz1,hz2⟩:=info_parts tinfo5
 have km:=run_make (P:=Tryz.prog) w 103 5 _ _ Tryz.underlying103 hi hz0 .i64 .i64 ((n+7) / 8) ((n+7) / 8) (by omega) (Int.le_refl _) (by rw[hz2];omega) (by omega)
 have hb:=(ByteRow.zeros w ((n+7) / 8).toNat 5).back (P:=Tryz.prog) 103 9 5 ((n+7) / 8).toNat Tryz.underlying103 Tryz.underlying5 Tryz.underlying9
 rw[List.length_replicate] at hb
 have hm:makeL n=List.replicate ((n+7) / 8).toNat 0:=by unfold makeL;rw[if_pos ⟨h1,h2⟩]
 rw[←hm] at hb
 have HM:=Lib.hid hm;clear hm
 go_enter Tryz.func76,Tryz.ntmps76
 go_wp2
 go_ret
 exact⟨rfl,(Below.refl _ _).alloc (Nat.le_refl _) _⟩
theorem rmake_lo(n:Int)(w:World)(h1:n<1):
  Calls Tryz.prog 76 #[.int .i64 n] w fun e w'=>e=.returned (.string ⟨(makeL n).toArray⟩)∧Below w.heap.size w w':=by
 have hm:makeL n=[]:=by unfold makeL;rw[if_neg (by omega)]
 have HM:=Lib.hid hm;clear hm
 go_enter Tryz.func76,Tryz.ntmps76
 go_wp2
 go_ret
 exact⟨by rw[HM.out];rfl,Below.refl _ _⟩
theorem rmake_hi(n:Int)(w:World)(h1:32768<n):
  Calls Tryz.prog 76 #[.int .i64 n] w fun e w'=>e=.returned (.string ⟨(makeL n).toArray⟩)∧Below w.heap.size w w':=by
 have hm:makeL n=[]:=by unfold makeL;rw[if_neg (by omega)]
 have HM:=Lib.hid hm;clear hm
 have h0:¬n<1:=by omega
 go_enter Tryz.func76,Tryz.ntmps76
 go_wp2
 go_ret
 exact⟨by rw[HM.out];rfl,Below.refl _ _⟩
theorem rmake_any(n:Int)(w:World):
  Calls Tryz.prog 76 #[.int .i64 n] w fun e w'=>e=.returned (.string ⟨(makeL n).toArray⟩)∧Below w.heap.size w w':=by
 by_cases h1:n<1
 ·exact rmake_lo n w h1
 ·by_cases h2:n≤32768
  ·exact rmake_in n w (by omega) h2
  ·exact rmake_hi n w (by omega)
theorem rget_in(l:List UInt8)(i:Int)(w:World)(hs:l.length≤9223372036854775807)(hi:0≤i)(hi3:i≤9223372036854775807)(hi2:i / 8<l.length):
  Calls Tryz.prog 53 #[.string ⟨l.toArray⟩,.int .i64 i] w fun e w'=>e=.returned (.bool (bitI l i))∧w=w':=by
 have hx:(l[(i / 8).toNat]'(by omega)).toNat<256:=UInt8.toNat_lt _
 have hb:=bitI_in l i hi (by omega)
 generalize hv:(l[(i / 8).toNat]'(by omega)).toNat=x at *
 have HB:=Lib.hid hb;clear hb
 have HV:=Lib.hid hv;clear hv
 have H0:0≤i / 8:=by omega
 have H1:0≤i%8:=by omega
 have H2:i%8<8:=by omega
 go_enter Tryz.func53,Tryz.ntmps53
 go_wp2
 go_loop [5,6] (fun v k=>∃j:Nat,j≤(i%8).toNat∧k=.int .i64 j∧v=.int .i64 ((x / 2 ^ j:Nat):Int)) (fun _ k=>8-(intOf k).toNat)
 case atStart=>exact⟨0,Nat.zero_le _,rfl,by rw[w64b,←HV.out];simp;rfl⟩
 case round =>
  obtain⟨j,hj,rfl,rfl⟩:=hrel
  have hd:=div_two_pow x j
  have hxj:x / 2 ^ j≤x:=Nat.div_le_self _ _
  have HD:=Lib.hid hd;clear hd
  generalize hy:x / 2 ^ j=y at *
  have HY:=Lib.hid hy;clear hy
  by_cases hlt:j<(i%8).toNat
  ·go_wp2
   go_round
   case rel=>exact⟨j+1,by omega,by go_num,by rw[HD.out]⟩
   case measure=>simp[intOf];omega
  ·go_wp2
   go_ret
   have e:j=(i%8).toNat:=by omega
   refine⟨ret_bool ?_,rfl⟩
   rw[HB.out,←e,←mod_two_one,HY.out]
theorem rget_neg(l:List UInt8)(i:Int)(w:World)(hi:i<0):
  Calls Tryz.prog 53 #[.string ⟨l.toArray⟩,.int .i64 i] w fun e w'=>e=.returned (.bool (bitI l i))∧w=w':=by
 have h:=bitI_neg l i hi
 have H:=Lib.hid h;clear h
 go_enter Tryz.func53,Tryz.ntmps53
 go_wp2
 go_ret
 exact⟨by rw[H.out];rfl,rfl⟩
theorem rget_ge(l:List UInt8)(i:Int)(w:World)(hs:l.length≤9223372036854775807)(hi:0≤i)(hi3:i≤9223372036854775807)(hi2:l.length≤i / 8):
  Calls Tryz.prog 53 #[.string ⟨l.toArray⟩,.int .i64 i] w fun e w'=>e=.returned (.bool (bitI l i))∧w=w':=by
 have h:=bitI_ge l i (by omega)
 have H:=Lib.hid h;clear h
 go_enter Tryz.func53,Tryz.ntmps53
 go_wp2
 go_ret
 exact⟨by rw[H.out];rfl,rfl⟩
theorem rget_any(l:List UInt8)(i:Int)(w:World)(hs:l.length≤9223372036854775807)(hi3:i≤9223372036854775807):
  Calls Tryz.prog 53 #[.string ⟨l.toArray⟩,.int .i64 i] w fun e w'=>e=.returned (.bool (bitI l i))∧w=w':=by
 by_cases h:i<0
 ·exact rget_neg l i w h
 ·by_cases h2:i / 8<l.length
  ·exact rget_in l i w hs (by omega) hi3 h2
  ·exact rget_ge l i w hs (by omega) hi3 (by omega)
theorem rone_any(m:List UInt8)(i cap B:Nat)(on:Bool)(w:World)(hs:m.length≤9223372036854775807 / 8)(hr:ByteRow w B m)(hi:i / 8<m.length):
  Calls Tryz.prog 122 #[.slice (some ⟨B,0,none⟩) m.length cap,.int .i64 i,.bool on] w fun e w'=>e=.returned (.tuple #[])∧Below B w w'∧ByteRow w' B (setBit m i on):=by
 have h4:m.length≤9223372036854775807:=by omega
 have h5:(i:Int)≤9223372036854775807:=by omega
 have hkc:=hr.back (P:=Tryz.prog) 103 9 5 cap Tryz.underlying103 Tryz.underlying5 Tryz.underlying9
 obtain⟨x,hx,HV,hc,hf⟩:=hr.at (i / 8) hi
 have hk8:i%8<8:=Nat.mod_lt _ (by omega)
 have HR:=Lib.hid hr;clear hr
 go_enter Tryz.func122,Tryz.ntmps122
 go_wp2_with fail
 go_loop [6,7] (fun v k=>∃j:Nat,j≤i%8∧k=.int .i64 j∧v=.int .u8 ((2 ^ j:Nat):Int)) (fun _ k=>8-(intOf k).toNat)
 case atStart=>exact⟨0,Nat.zero_le _,rfl,rfl⟩
 case round =>
  obtain⟨j,hj,rfl,rfl⟩:=hrel
  have hp:2 ^ (j+1)=2 ^ j*2:=Nat.pow_succ _ _
  have hl:=two_pow_lt j (by omega)
  have hl2:j+1<8→2 ^ j*2<256:=fun h=>by rw[←hp];exact two_pow_lt _ h
  by_cases hlt:j<i%8
  ·have hl3:=hl2 (by omega)
   generalize hy:2 ^ j=y at *
   have HP:=Lib.hid hp;have HY:=Lib.hid hy;clear hp hy hl2
   go_wp2
   go_round
   case rel=>exact⟨j+1,by omega,by go_num,by rw[HP.out];go_num⟩
   case measure=>simp[intOf];omega
  ·have e:j=i%8:=by omega
   subst e
   clear hl2 hp
   generalize hy:2 ^ (i%8)=y at *
   have HY:=Lib.hid hy;clear hy
   go_wp2_with fail
   refine(rget_any m i _ h4 h5).mono ?_
   rintro e w' ⟨rfl,rfl⟩
   have hb:bitI m i=x.testBit (i%8):=by rw[bitI_nat,bit,HV.out]
   cases hne:(bitI m i==on) with
   | true =>
    have HB:=Lib.hid hb;clear hb
    go_wp2_with fail
    go_end0
    refine⟨rfl,Below.refl _ _,?_⟩
    rw[HB.out] at hne
    have e:=same_set x (i%8) on hx hk8 hne
    have hs:setBit m i on=m:=by
     unfold setBit
     rw[HV.out,←e,←HV.out]
     rw[List.getD_eq_getElem?_getD,List.getElem?_eq_getElem hi]
     simp
    rw[hs];exact HR.out
   | false =>
    have HB:=Lib.hid hb;clear hb
    go_wp2_with fail
    go_end0
    refine⟨rfl,(Below.refl B w).setCell (p:=⟨B,i / 8,none⟩) (Nat.le_refl _) _,?_⟩
    rw[HB.out] at hne
    have e:=xor_set x (i%8) on hx hk8 hne
    have hk:=two_pow_lt _ hk8
    unfold setBit
    rw[HV.out]
    refine HR.out.set _ _ _ ?_
    rw[u8_xor_nat _ _ hx hl,←HY.out,e,ofNat_toNat _ (byteSet_lt _ _ _ hx hk8)]
theorem rone_at(m:List UInt8)(i cap B n:Nat)(on:Bool)(w:World)(hs:m.length≤9223372036854775807 / 8)(hr:ByteRow w B m)(hi:i / 8<m.length)(hn:m.length=n):
  Calls Tryz.prog 122 #[.slice (some ⟨B,0,none⟩) n cap,.int .i64 i,.bool on] w fun e w'=>e=.returned (.tuple #[])∧Below B w w'∧ByteRow w' B (setBit m i on):=by
 subst hn;exact rone_any m i cap B on w hs hr hi
theorem rset_ok(l:List UInt8)(s c:Nat)(on:Bool)(w:World)(hs:l.length≤9223372036854775807 / 8)(h2:c+s≤8*l.length):
  Calls Tryz.prog 75 #[.string ⟨l.toArray⟩,.int .i64 s,.int .i64 c,.bool on] w fun e w'=>e=.returned (.tuple #[.string ⟨(setTo l s on c).toArray⟩,.bool true])∧Below w.heap.size w w':=by
 have kc:=fun (w:World) (s:ByteArray)=>run_bytes_of_string (P:=Tryz.prog) w 9 103 5 s Tryz.underlying9 Tryz.underlying103 Tryz.underlying5
 have H1:¬(8*(l.length:Int))<c:=by omega
 have H2:¬(8*(l.length:Int)-c)<s:=by omega
 go_enter Tryz.func75,Tryz.ntmps75
 go_wp2_with fail
 go_loopw [12] (fun i wr=>∃k:Nat,k≤c∧i=.int .i64 ((s:Int)+k)∧Below w.heap.size w wr∧ByteRow wr w.heap.size (setTo l s on k)) (fun i _=>s+c-(intOf i).toNat)
 case atStart=>exact⟨0,by omega,by simp,(Below.refl _ _).alloc (Nat.le_refl _) _ |>.drew,ByteRow.made _ _ _ _⟩
 case round =>
  obtain⟨k,hk,rfl,hb,hr⟩:=hrel
  have hl:=length_setTo l s on k
  have hst:setBit (setTo l s on k) (s+k) on=setTo l s on (k+1):=rfl
  generalize hm:setTo l s on k=m at *
  have HL:=Lib.hid hl;clear hl
  have HM:=Lib.hid hm;clear hm
  have HS:=Lib.hid hst;clear hst
  by_cases hlt:k<c
  ·have hi2:(s+k) / 8<m.length:=by rw[HL.out];omega
   have hm8:m.length≤9223372036854775807 / 8:=by rw[HL.out];exact hs
   have HR:=Lib.hid hr;clear hr
   have HB:=Lib.hid hb;clear hb
   go_wp2_with fail
   have ei:((s:Int)+(k:Int))=((s+k:Nat):Int):=by omega
   rw[ei];clear ei
   refine(rone_at m (s+k) _ w.heap.size l.length on _ hm8 HR.out hi2 HL.out).mono ?_
   rintro e w' ⟨rfl,hb2,hr2⟩
   rw[HS.out] at hr2
   have HB2:=Lib.hid hb2;have HR2:=Lib.hid hr2;clear hb2 hr2
   go_wp2_with fail
   go_roundw
   case rel=>exact⟨k+1,by omega,by go_num,HB.out.trans HB2.out,HR2.out⟩
   case measure=>simp[intOf];omega
  ·have hk2:k=c:=by omega
   have hkc:=hr.back (P:=Tryz.prog) 103 9 5 (grownCap w l.length 0 5) Tryz.underlying103 Tryz.underlying5 Tryz.underlying9
   rw[HL.out] at hkc
   have HR:=Lib.hid hr;clear hr
   have HB:=Lib.hid hb;clear hb
   have HK:=Lib.hid hk2;clear hk2
   go_wp2
   go_ret2
   exact⟨by rw[←HK.out,HM.out];rfl,HB.out⟩
theorem get_pos(l:List UInt8)(i:Int)(w:World)(hs:l.length≤9223372036854775807)(hi:0≤i)(hi3:i≤9223372036854775807)(hi2:i / 8<l.length):
  Calls Tryz.prog 61 #[.string ⟨l.toArray⟩,.int .i64 i] w fun e w'=>e=.returned (.bool (bitI l i))∧w=w':=by
 go_enter Tryz.func61,Tryz.ntmps61
 go_wp2
 go_ret
 refine⟨?_,rfl⟩
 rw[bitI_in l i hi (by omega),←walk_bit _ _ (UInt8.toNat_lt _)]
 rfl
theorem get_neg(l:List UInt8)(i:Int)(w:World)(hs:l.length≤9223372036854775807)(hi:i<0):
  Calls Tryz.prog 61 #[.string ⟨l.toArray⟩,.int .i64 i] w fun e w'=>e=.returned (.bool (bitI l i))∧w=w':=by
 have h:=bitI_neg l i hi
 have H:=Lib.hid h;clear h
 go_enter Tryz.func61,Tryz.ntmps61
 go_wp2
 go_ret
 exact⟨by rw[H.out];rfl,rfl⟩
theorem get_ge(l:List UInt8)(i:Int)(w:World)(hs:l.length≤9223372036854775807)(hi:0≤i)(hi3:i≤9223372036854775807)(hi2:l.length≤i / 8):
  Calls Tryz.prog 61 #[.string ⟨l.toArray⟩,.int .i64 i] w fun e w'=>e=.returned (.bool (bitI l i))∧w=w':=by
 have h:=bitI_ge l i (by omega)
 have H:=Lib.hid h;clear h
 go_enter Tryz.func61,Tryz.ntmps61
 go_wp2
 go_ret
 exact⟨by rw[H.out];rfl,rfl⟩
theorem get_any(l:List UInt8)(i:Int)(w:World)(hs:l.length≤9223372036854775807)(hi3:i≤9223372036854775807):
  Calls Tryz.prog 61 #[.string ⟨l.toArray⟩,.int .i64 i] w fun e w'=>e=.returned (.bool (bitI l i))∧w=w':=by
 by_cases h:i<0
 ·exact get_neg l i w hs h
 ·by_cases h2:i / 8<l.length
  ·exact get_pos l i w hs (by omega) hi3 h2
  ·exact get_ge l i w hs (by omega) hi3 (by omega)
theorem bfree_any(l:List UInt8)(n:Int)(w:World)(hs:l.length≤9223372036854775807 / 8)(h1 : -9223372036854775808≤n)(h2:n≤9223372036854775807):
  Calls Tryz.prog 93 #[.string ⟨l.toArray⟩,.int .i64 n] w fun e w'=>e=.returned (.tuple #[.int .i64 (firstN l n),.func (Fn.func 132) #[] #[.pointer (some ⟨w.heap.size+1,0,none⟩),.pointer (some ⟨w.heap.size,0,none⟩)]]) ∧
   w'=(w.alloc (.cells #[.string ⟨l.toArray⟩] 9)).alloc (.cells #[.int .i64 (firstN l n)] 3):=by
 have e:=firstN_int l n
 generalize ((firstN l n:Nat):Int)=N at *
 by_cases c1:8*↑l.length<n
 ·have e2:N=8*↑l.length:=by omega
  clear e;subst e2
  have e3:0<l.length∨l.length=0:=by omega
  rcases e3 with e3|e3
  ·go_enter Tryz.func93,Tryz.ntmps93
   go_wp2
   go_ret2
   exact⟨rfl,rfl⟩
  ·obtain rfl:l=[]:=List.eq_nil_of_length_eq_zero e3
   go_enter Tryz.func93,Tryz.ntmps93
   go_wp2
   go_ret2
   exact⟨rfl,rfl⟩
 ·by_cases c2:0<n
  ·have e2:N=n:=by omega
   clear e;subst e2
   go_enter Tryz.func93,Tryz.ntmps93
   go_wp2
   go_ret2
   exact⟨rfl,rfl⟩
  ·have e2:N=0:=by omega
   clear e;subst e2
   go_enter Tryz.func93,Tryz.ntmps93
   go_wp2
   go_ret2
   exact⟨rfl,rfl⟩
theorem bfirst_any(l:List UInt8)(n:Int)(w:World)(hs:l.length≤9223372036854775807 / 8)(h1 : -9223372036854775808≤n)(h2:n≤9223372036854775807):
  Calls Tryz.prog 94 #[.string ⟨l.toArray⟩,.int .i64 n] w fun e w'=>e=.returned (.int .i64 (firstN l n))∧w=w':=by
 have e:=firstN_int l n
 generalize ((firstN l n:Nat):Int)=N at *
 by_cases c1:8*↑l.length<n
 ·have e2:N=8*↑l.length:=by omega
  clear e;subst e2
  have e3:0<l.length∨l.length=0:=by omega
  rcases e3 with e3|e3
  ·go_enter Tryz.func94,Tryz.ntmps94
   go_wp2
   go_ret
   exact⟨rfl,rfl⟩
  ·obtain rfl:l=[]:=List.eq_nil_of_length_eq_zero e3
   go_enter Tryz.func94,Tryz.ntmps94
   go_wp2
   go_ret
   exact⟨rfl,rfl⟩
 ·by_cases c2:0<n
  ·have e2:N=n:=by omega
   clear e;subst e2
   go_enter Tryz.func94,Tryz.ntmps94
   go_wp2
   go_ret
   exact⟨rfl,rfl⟩
  ·have e2:N=0:=by omega
   clear e;subst e2
   go_enter Tryz.func94,Tryz.ntmps94
   go_wp2
   go_ret
   exact⟨rfl,rfl⟩
theorem isfree_any(l:List UInt8)(N:Nat)(k:Int)(p q:Addr)(w:World)(hs:l.length≤9223372036854775807 / 8)(hN:N≤8*l.length)(hp:w.cell? p=some (.int .i64 N))(hq:w.cell? q=some (.string ⟨l.toArray⟩))(h0:0≤k)(h1:k<N):
  Calls Tryz.prog 132 #[.int .i64 k,.pointer (some p),.pointer (some q)] w fun e w'=>e=.returned (.bool (!bitI l k))∧w=w':=by
 have h3:k≤9223372036854775807:=by omega
 have h4:l.length≤9223372036854775807:=by omega
 go_enter Tryz.func132,Tryz.ntmps132
 go_wp2_with fail
 refine(get_any l k _ h4 h3).mono ?_
 rintro e w' ⟨rfl,rfl⟩
 go_wp2_with fail
 go_ret
 exact⟨rfl,rfl⟩
theorem BFree_any(l:List UInt8)(n:Int)(w:World)(hs:l.length≤9223372036854775807 / 8)(h1 : -9223372036854775808≤n)(h2:n≤9223372036854775807):
  Calls Tryz.prog 45 #[.string ⟨l.toArray⟩,.int .i64 n] w fun e w'=>e=.returned (.int .i64 (cnt l (firstN l n)))∧Below w.heap.size w w':=by
 have hN:=firstN_le l n
 have hf:=fun w=>bfree_any l n w hs h1 h2
 generalize firstN l n=N at *
 have HF:=Lib.hid hf;clear hf
 go_enter Tryz.func45,Tryz.ntmps45
 go_wp2_with fail
 refine(HF.out _).mono ?_
 rintro e w' ⟨rfl,rfl⟩
 go_wp2_with fail
 go_loop [15,6,7] (fun i t _=>∃k:Nat,k≤N∧i=.int .i64 k∧t=.int .i64 (cnt l k)) (fun i _ _=>N-(intOf i).toNat)
 case atStart=>exact⟨0,by omega,rfl,rfl⟩
 case round =>
  obtain⟨k,hk,rfl,rfl⟩:=hrel
  have hcl:=cnt_le l k
  by_cases hlt:k<N
  ·cases hb:bit l k with
   | false =>
    have hc:cnt l (k+1)=cnt l k+1:=by rw[cnt,hb];rfl
    have HC:=Lib.hid hc;have HB:=Lib.hid hb;clear hc hb
    go_wp2_with fail
    refine(isfree_any l N k _ _ _ hs hN (by go_simp) (by go_simp) (by omega) (by omega)).mono ?_
    rintro e w' ⟨rfl,rfl⟩
    rw[bitI_nat,HB.out]
    go_wp2_with fail
    go_round
    case rel=>exact⟨k+1,by omega,by go_num,by rw[HC.out];go_num⟩
    case measure=>simp[intOf];omega
   | true =>
    have hc:cnt l (k+1)=cnt l k:=by rw[cnt,hb];rfl
    have HC:=Lib.hid hc;have HB:=Lib.hid hb;clear hc hb
    go_wp2_with fail
    refine(isfree_any l N k _ _ _ hs hN (by go_simp) (by go_simp) (by omega) (by omega)).mono ?_
    rintro e w' ⟨rfl,rfl⟩
    rw[bitI_nat,HB.out]
    go_wp2_with fail
    go_round
    case rel=>exact⟨k+1,by omega,by go_num,by rw[HC.out]⟩
    case measure=>simp[intOf];omega
  ·have hk:k=N:=by omega
   subst hk
   go_wp2_with fail
   go_ret
   exact⟨rfl,((Below.refl _ _).alloc (Nat.le_refl _) _).alloc (by simp) _⟩
theorem rFree_any(l:List UInt8)(n:Int)(w:World)(hs:l.length≤9223372036854775807 / 8)(h1 : -9223372036854775808≤n)(h2:n≤9223372036854775807):
  Calls Tryz.prog 47 #[.string ⟨l.toArray⟩,.int .i64 n] w fun e w'=>e=.returned (.int .i64 (cnt l (firstN l n)))∧w=w':=by
 have hN:=firstN_le l n
 have hf:=fun w=>bfirst_any l n w hs h1 h2
 generalize firstN l n=N at *
 have HF:=Lib.hid hf;clear hf
 have h4:l.length≤9223372036854775807:=by omega
 go_enter Tryz.func47,Tryz.ntmps47
 go_wp2_with fail
 go_loop [6,5,7] (fun i t _=>∃k:Nat,k≤N∧i=.int .i64 k∧t=.int .i64 (cnt l k)) (fun i _ _=>N-(intOf i).toNat)
 case atStart=>exact⟨0,by omega,rfl,rfl⟩
 case round =>
  obtain⟨k,hk,rfl,rfl⟩:=hrel
  have hcl:=cnt_le l k
  by_cases hlt:k<N
  ·cases hb:bit l k with
   | false =>
    have hc:cnt l (k+1)=cnt l k+1:=by rw[cnt,hb];rfl
    have HC:=Lib.hid hc;have HB:=Lib.hid hb;clear hc hb
    go_wp2_with fail
    refine(HF.out _).mono ?_
    rintro e w' ⟨rfl,rfl⟩
    go_wp2_with fail
    refine(rget_any l k _ h4 (by omega)).mono ?_
    rintro e w' ⟨rfl,rfl⟩
    rw[bitI_nat,HB.out]
    go_wp2_with fail
    go_round
    case rel=>exact⟨k+1,by omega,by go_num,by rw[HC.out];go_num⟩
    case measure=>simp[intOf];omega
   | true =>
    have hc:cnt l (k+1)=cnt l k:=by rw[cnt,hb];rfl
    have HC:=Lib.hid hc;have HB:=Lib.hid hb;clear hc hb
    go_wp2_with fail
    refine(HF.out _).mono ?_
    rintro e w' ⟨rfl,rfl⟩
    go_wp2_with fail
    refine(rget_any l k _ h4 (by omega)).mono ?_
    rintro e w' ⟨rfl,rfl⟩
    rw[bitI_nat,HB.out]
    go_wp2_with fail
    go_round
    case rel=>exact⟨k+1,by omega,by go_num,by rw[HC.out]⟩
    case measure=>simp[intOf];omega
  ·have hk:k=N:=by omega
   subst hk
   go_wp2_with fail
   refine(HF.out _).mono ?_
   rintro e w' ⟨rfl,rfl⟩
   go_wp2_with fail
   go_ret
   exact⟨rfl,rfl⟩
theorem tinfo64:(Tryz.prog.info? 64).map (fun i=>(i.zero,i.size,i.bytes))=some (some (.agg #[.int .i64 0,.int .i64 0]),2,16):=by kernel_rfl
theorem BRuns_any(l:List UInt8)(n:Int)(w:World)(hs:l.length≤1099511627776)(h1 : -9223372036854775808≤n)(h2:n≤9223372036854775807):
  Calls Tryz.prog 51 #[.string ⟨l.toArray⟩,.int .i64 n] w fun e w'=>∃v,e=.returned v∧Below w.heap.size w w' ∧
   w'.ownsRow w.heap.size 64 2 v (runsTo l (firstN l n)).length (ext (runsTo l (firstN l n))):=by
 have hN:=firstN_le l n
 have hs8:l.length≤9223372036854775807 / 8:=by omega
 have hf:=fun w=>bfree_any l n w hs8 h1 h2
 generalize firstN l n=N at *
 have HF:=Lib.hid hf;clear hf
 obtain⟨i0,hi,hz0,hz1,hz2⟩:=info_parts tinfo64
 go_enter Tryz.func51,Tryz.ntmps51
 go_wp2_with fail
 refine(HF.out _).mono ?_
 rintro e w' ⟨rfl,rfl⟩
 go_wp2_with fail
 go_loopw [15,6,7,23,28] (fun i t _ _ _ wr=>∃k:Nat,k≤N∧i=.int .i64 k∧wr.ownsRow (w.heap.size+2) 64 2 t (runsTo l k).length (ext (runsTo l k))∧Below w.heap.size w wr ∧
   w.heap.size+2≤wr.heap.size∧wr.cell? ⟨w.heap.size+1,0,none⟩=some (.int .i64 N)∧wr.cell? ⟨w.heap.size,0,none⟩=some (.string ⟨l.toArray⟩)) (fun i _ _ _ _ _=>N-(intOf i).toNat)
 case atStart=>exact⟨0,by omega,rfl,World.ownsRow_nil _ _ _ _,((Below.refl _ _).alloc (Nat.le_refl _) _).alloc (by simp) _,by simp,by go_simp,by go_simp⟩
 case round =>
  obtain⟨k,hk,rfl,hown,hb,hsz,hc1,hc2⟩:=hrel
  by_cases hlt:k<N
  ·cases hbk:bit l k with
   | true =>
    have hc:runsTo l (k+1)=runsTo l k:=by rw[runsTo,hbk];rfl
    have HC:=Lib.hid hc;have HBK:=Lib.hid hbk;clear hc hbk
    have HO:=Lib.hid hown;have HB:=Lib.hid hb;clear hown hb
    go_wp2_with fail
    refine(isfree_any l N k _ _ _ hs8 hN hc1 hc2 (by omega) (by omega)).mono ?_
    rintro e w' ⟨rfl,rfl⟩
    rw[bitI_nat,HBK.out]
    go_wp2_with fail
    go_roundw
    case rel=>exact⟨k+1,by omega,by go_num,by rw[HC.out];exact HO.out,HB.out,hsz,hc1,hc2⟩
    case measure=>simp[intOf];omega
   | false =>
    by_cases hpr:0<k∧bit l (k-1)=false
    ·obtain⟨h0,hp0⟩:=hpr
     obtain⟨rs,r,er,hr1,hr2⟩:=runsTo_last l (k-1) hp0
     have hc:runsTo l (k+1)=rs++[(r.1,r.2+1)]:=by
      rw[runsTo,hbk,if_neg (by simp),if_pos ⟨h0,hp0⟩,show k=k-1+1 by omega,er,bump_snoc]
     have hp:bitI l ((k:Int)-1)=false:=by
      have:((k:Int)-1)=((k-1:Nat):Int):=by omega
      rw[this,bitI_nat];exact hp0
     rw[show k-1+1=k by omega] at er
     have hlen:=runsTo_length l k
     rw[er] at hown hlen
     simp only[List.length_append,List.length_cons,List.length_nil,Nat.zero_add,ext_append] at hown hlen
     obtain⟨g,cap,rfl,hg1,hg2⟩:=hown.form (by omega)
     have hr2':r.2≤k:=by omega
     obtain⟨r1,r2⟩:=r
     have hcell:wr.cell? ⟨g,rs.length*2+1,none⟩=some (.int .i64 r2):=by
      rw[hown.cellAt _ (by omega),List.getElem?_append_right (by rw[length_ext];omega),length_ext,show rs.length*2+1-rs.length*2=1 by omega];rfl
     have hfr:=hown.frozenAt (rs.length*2+1)
     have HC:=Lib.hid hc;have HBK:=Lib.hid hbk;have HP:=Lib.hid hp;clear hc hbk hp er hp0 hr1
     have HB:=Lib.hid hb;have HO:=Lib.hid hown;clear hb hown
     go_wp2_with fail
     refine(isfree_any l N k _ _ _ hs8 hN hc1 hc2 (by omega) (by omega)).mono ?_
     rintro e w' ⟨rfl,rfl⟩
     rw[bitI_nat,HBK.out]
     go_wp2_with fail
     refine(isfree_any l N _ _ _ _ hs8 hN hc1 hc2 (by omega) (by omega)).mono ?_
     rintro e w' ⟨rfl,rfl⟩
     rw[HP.out]
     go_wp2_with fail
     have hst:=HO.out.stored (rs.length*2+1) (.int .i64 ((r2:Int)+1))
     rw[ext_set] at hst
     obtain⟨hst1,hst2⟩:=hst
     have hb1:=HB.out.grown hst2 (by omega) (fun j hj=>by cases hj;omega)
     have hc11:=hst2.cell hc1 (by simp;omega)
     have hc21:=hst2.cell hc2 (by simp;omega)
     have hsz1:=hst2.size
     clear hc1 hc2
     go_roundw
     case rel=>exact⟨k+1,by omega,by go_num,by rw[HC.out,List.length_append];exact hst1,hb1,by omega,hc11,hc21⟩
     case measure=>simp[intOf];omega
    ·have hc:runsTo l (k+1)=runsTo l k++[(k,1)]:=by rw[runsTo,hbk,if_neg (by simp),if_neg hpr]
     have hlen:=runsTo_length l k
     generalize runsTo l k=rs at *
     by_cases h0:0<k
     ·have hp:bitI l ((k:Int)-1)=true:=by
       have:((k:Int)-1)=((k-1:Nat):Int):=by omega
       rw[this,bitI_nat];simp[h0] at hpr;exact hpr
      have HC:=Lib.hid hc;have HBK:=Lib.hid hbk;have HP:=Lib.hid hp;clear hc hbk hpr hp
      have HB:=Lib.hid hb;clear hb
      go_wp2_with fail
      refine(isfree_any l N k _ _ _ hs8 hN hc1 hc2 (by omega) (by omega)).mono ?_
      rintro e w' ⟨rfl,rfl⟩
      rw[bitI_nat,HBK.out]
      go_wp2_with fail
      refine(isfree_any l N _ _ _ _ hs8 hN hc1 hc2 (by omega) (by omega)).mono ?_
      rintro e w' ⟨rfl,rfl⟩
      rw[HP.out]
      go_wp2_with (at_builtin;go_must (refine wpList_app wr (by rfl) _ _ 53 (by rfl) (w.heap.size+2) 64 _ i0 (.agg #[.int .i64 0,.int .i64 0]) 2 16 Tryz.underlying53 hi hz0 hz1 hz2 rfl (by decide) (by decide) _ _ _ (by rfl) hown #[.int .i64 k,.int .i64 1] (by rfl) rfl ?c1 ?c2 hsz ?_))
      case c1=>simp[Value.oneCell']
      case c2=>omega
      intro g cap w1 hown1 hg1 hat hlt1 hsz1
      have hb1:=HB.out.grown hg1 (by omega) (fun k hk=>by have:=(hown.lt k hk).1;omega)
      have hc11:=grown_cell hown hg1 (by simp) hc1
      have hc21:=grown_cell hown hg1 (by simp) hc2
      clear hown hat hg1 HB
      have HB:=Lib.hid hb1;have HO:=Lib.hid hown1;clear hb1 hown1
      go_wp2_with fail
      go_roundw
      case rel=>exact⟨k+1,by omega,by go_num,by rw[HC.out,List.length_append,ext_append];exact HO.out,HB.out,by omega,hc11,hc21⟩
      case measure=>simp[intOf];omega
     ·have hk0:k=0:=by omega
      subst hk0
      have HC:=Lib.hid hc;have HBK:=Lib.hid hbk;clear hc hbk hpr
      have HB:=Lib.hid hb;clear hb
      go_wp2_with fail
      refine(isfree_any l N 0 _ _ _ hs8 hN hc1 hc2 (by omega) (by omega)).mono ?_
      rintro e w' ⟨rfl,rfl⟩
      rw[show bitI l 0=false from(bitI_nat l 0).trans HBK.out]
      go_wp2_with (at_builtin;go_must (refine wpList_app wr (by rfl) _ _ 53 (by rfl) (w.heap.size+2) 64 _ i0 (.agg #[.int .i64 0,.int .i64 0]) 2 16 Tryz.underlying53 hi hz0 hz1 hz2 rfl (by decide) (by decide) _ _ _ (by rfl) hown #[.int .i64 0,.int .i64 1] (by rfl) rfl ?c1 ?c2 hsz ?_))
      case c1=>simp[Value.oneCell']
      case c2=>omega
      intro g cap w1 hown1 hg1 hat hlt1 hsz1
      have hb1:=HB.out.grown hg1 (by omega) (fun k hk=>by have:=(hown.lt k hk).1;omega)
      have hc11:=grown_cell hown hg1 (by simp) hc1
      have hc21:=grown_cell hown hg1 (by simp) hc2
      clear hown hat hg1 HB
      have HB:=Lib.hid hb1;have HO:=Lib.hid hown1;clear hb1 hown1
      go_wp2_with fail
      go_roundw
      case rel=>exact⟨1,by omega,rfl,by rw[show 1=0+1 from rfl,HC.out,List.length_append,ext_append];exact HO.out,HB.out,by omega,hc11,hc21⟩
      case measure=>simp[intOf];omega
  ·have hk2:k=N:=by omega
   subst hk2
   go_wp2_with fail
   go_ret
   exact⟨_,rfl,hb,hown.mono (by omega)⟩
theorem BFit_pos(l:List UInt8)(n c:Int)(w:World)(hs:l.length≤1099511627776)(h1 : -9223372036854775808≤n)(h2:n≤9223372036854775807)(hc:1≤c):
  Calls Tryz.prog 58 #[.string ⟨l.toArray⟩,.int .i64 n,.int .i64 c] w fun e w'=>e=.returned (.tuple #[.int .i64 (fitR l n c).1,.bool (fitR l n c).2])∧Below w.heap.size w w':=by
 have hN:=firstN_le l n
 have hs8:l.length≤9223372036854775807 / 8:=by omega
 have hf:=fun w=>bfree_any l n w hs8 h1 h2
 have hfit:fitR l n c=fitO (fitN l c.toNat (firstN l n)):=by unfold fitR;rw[if_neg (by omega)]
 generalize firstN l n=N at *
 generalize hR:fitR l n c=R at *
 clear hR
 have HF:=Lib.hid hf;have HR:=Lib.hid hfit;clear hf hfit
 go_enter Tryz.func58,Tryz.ntmps58
 go_wp2_with fail
 refine(HF.out _).mono ?_
 rintro e w' ⟨rfl,rfl⟩
 go_wp2_with fail
 go_loop [20,9,10] (fun i t _=>∃k:Nat,k≤N∧i=.int .i64 k∧t=.int .i64 (tail l k)∧Hid (fitN l c.toNat k=none)) (fun i _ _=>N-(intOf i).toNat)
 case atStart=>exact⟨0,by omega,rfl,rfl,rfl⟩
 case round =>
  obtain⟨k,hk,rfl,rfl,HK⟩:=hrel
  have htl:=tail_le l k
  by_cases hlt:k<N
  ·cases hb:bit l k with
   | false =>
    have ht:tail l (k+1)=tail l k+1:=by rw[tail,hb];rfl
    have hn:fitN l c.toNat (k+1)=if tail l k+1=c.toNat then some (k+1-c.toNat) else none:=by rw[fitN,HK.out,ht]
    have HB:=Lib.hid hb;have HT:=Lib.hid ht;have HN:=Lib.hid hn;clear hb ht hn
    by_cases heq:(((tail l k:Nat):Int)+1==c)=true
    ·have hc2:c.toNat=tail l k+1:=by simp at heq;omega
     have hr:R=((k:Int)+1-c,true):=by
      have:=fitN_mono l c.toNat (k+1) (k+1-c.toNat) (by rw[HN.out,if_pos hc2.symm]) N (by omega)
      rw[HR.out,this];simp[fitO];omega
     have HRR:=Lib.hid hr;clear hr
     have hc3:c=(tail l k:Int)+1:=by omega
     have hcu:c≤k+1:=by omega
     have HC3:=Lib.hid hc3;clear hc3 hc2
     go_wp2_with fail
     refine(isfree_any l N k _ _ _ hs8 hN (by go_simp) (by go_simp) (by omega) (by omega)).mono ?_
     rintro e w' ⟨rfl,rfl⟩
     rw[bitI_nat,HB.out]
     go_wp2_with fail
     go_ret2
     exact⟨by rw[HRR.out];rfl,((Below.refl _ _).alloc (Nat.le_refl _) _).alloc (by simp) _⟩
    ·have heq:(((tail l k:Nat):Int)+1==c)=false:=by simpa using heq
     have hno:fitN l c.toNat (k+1)=none:=by rw[HN.out,if_neg];simp at heq;omega
     have HNO:=Lib.hid hno;clear hno
     go_wp2_with fail
     refine(isfree_any l N k _ _ _ hs8 hN (by go_simp) (by go_simp) (by omega) (by omega)).mono ?_
     rintro e w' ⟨rfl,rfl⟩
     rw[bitI_nat,HB.out]
     go_wp2_with fail
     go_round
     case rel=>exact⟨k+1,by omega,by go_num,by rw[HT.out];go_num,HNO⟩
     case measure=>simp[intOf];omega
   | true =>
    have ht:tail l (k+1)=0:=by rw[tail,hb];rfl
    have hno:fitN l c.toNat (k+1)=none:=by rw[fitN,HK.out,ht];simp;omega
    have HB:=Lib.hid hb;have HT:=Lib.hid ht;have HNO:=Lib.hid hno;clear hb ht hno
    have heq:((0:Int)==c)=false:=by simp;omega
    go_wp2_with fail
    refine(isfree_any l N k _ _ _ hs8 hN (by go_simp) (by go_simp) (by omega) (by omega)).mono ?_
    rintro e w' ⟨rfl,rfl⟩
    rw[bitI_nat,HB.out]
    go_wp2_with fail
    go_round
    case rel=>exact⟨k+1,by omega,by go_num,by rw[HT.out];rfl,HNO⟩
    case measure=>simp[intOf];omega
  ·have hk:k=N:=by omega
   subst hk
   have hr:R=(0,false):=by rw[HR.out,HK.out];rfl
   have HRR:=Lib.hid hr;clear hr
   go_wp2_with fail
   go_ret2
   exact⟨by rw[HRR.out];rfl,((Below.refl _ _).alloc (Nat.le_refl _) _).alloc (by simp) _⟩
theorem Fit_neg(l:List UInt8)(n c:Int)(w:World)(hc:c<1):
  Calls Tryz.prog 58 #[.string ⟨l.toArray⟩,.int .i64 n,.int .i64 c] w fun e w'=>e=.returned (.tuple #[.int .i64 (fitR l n c).1,.bool (fitR l n c).2])∧Below w.heap.size w w':=by
 have hr:fitR l n c=(0,false):=by unfold fitR;rw[if_pos hc]
 have HRR:=Lib.hid hr;clear hr
 go_enter Tryz.func58,Tryz.ntmps58
 go_wp2_with fail
 go_ret2
 exact⟨by rw[HRR.out];rfl,Below.refl _ _⟩
theorem BFit_any(l:List UInt8)(n c:Int)(w:World)(hs:l.length≤1099511627776)(h1 : -9223372036854775808≤n)(h2:n≤9223372036854775807):
  Calls Tryz.prog 58 #[.string ⟨l.toArray⟩,.int .i64 n,.int .i64 c] w fun e w'=>e=.returned (.tuple #[.int .i64 (fitR l n c).1,.bool (fitR l n c).2])∧Below w.heap.size w w':=by
 by_cases h:1≤c
 ·exact BFit_pos l n c w hs h1 h2 h
 ·exact Fit_neg l n c w (by omega)
theorem rRuns_any(l:List UInt8)(n:Int)(w:World)(hs:l.length≤1099511627776)(h1 : -9223372036854775808≤n)(h2:n≤9223372036854775807):
  Calls Tryz.prog 131 #[.string ⟨l.toArray⟩,.int .i64 n] w fun e w'=>∃v,e=.returned v∧Below w.heap.size w w' ∧
   w'.ownsRow w.heap.size 64 2 v (runsTo l (firstN l n)).length (ext (runsTo l (firstN l n))):=by
 have hN:=firstN_le l n
 have hs8:l.length≤9223372036854775807 / 8:=by omega
 have h4:l.length≤9223372036854775807:=by omega
 have hf:=fun w=>bfirst_any l n w hs8 h1 h2
 generalize firstN l n=N at *
 have HF:=Lib.hid hf;clear hf
 obtain⟨i0,hi,hz0,hz1,hz2⟩:=info_parts tinfo64
 go_enter Tryz.func131,Tryz.ntmps131
 go_wp2_with fail
 refine(HF.out _).mono ?_
 rintro e w' ⟨rfl,rfl⟩
 go_wp2_with fail
 go_loopw [7,5,8] (fun i t _ wr=>∃k:Nat,k≤N+1∧i=.int .i64 k∧wr.ownsRow w.heap.size 64 2 t (runsTo l (min k N)).length (ext (runsTo l (min k N)))∧Below w.heap.size w wr ∧
   Hid (k=0∨N<k∨bit l (k-1)=true)) (fun i _ _ _=>N+1-(intOf i).toNat)
 case atStart=>exact⟨0,by omega,rfl,by rw[show min 0 N=0 by omega];exact World.ownsRow_nil _ _ _ _,Below.refl _ _,Or.inl rfl⟩
 case round =>
  obtain⟨i,hi1,rfl,hown,hb,HI⟩:=hrel
  obtain⟨wo,rfl⟩:∃wo:World,wo=wr:=⟨_,rfl⟩
  by_cases hlt:i<N
  ·have hI:i=0∨bit l (i-1)=true:=by
    rcases HI with h|h|h
    ·exact Or.inl h
    ·omega
    ·exact Or.inr h
   rw[show min i N=i by omega] at hown
   have hlen:=runsTo_length l i
   have HI:=Lib.hid hI;have HO:=Lib.hid hown;have HB:=Lib.hid hb;clear hI hown hb
   go_wp2_with fail
   go_loop [8] (fun v=>∃k:Nat,i≤k∧k≤N∧v=.int .i64 k∧Hid (∀j,i≤j→j<k→bit l j=false)) (fun v=>N-(intOf v).toNat)
   case atStart=>exact⟨i,by omega,by omega,rfl,fun j h1 h2=>by omega⟩
   case round =>
    obtain⟨k,hk1,hk2,rfl,HJ⟩:=hrel
    by_cases hkN:k<N
    ·cases hbk:bit l k with
     | false =>
      have HBK:=Lib.hid hbk;clear hbk
      go_wp2_with fail
      refine(rget_any l k _ h4 (by omega)).mono ?_
      rintro e w' ⟨rfl,rfl⟩
      rw[bitI_nat,HBK.out]
      go_wp2_with fail
      go_round
      case rel=>exact⟨k+1,by omega,by omega,by go_num,fun j h1 h2=>by
       by_cases e:j=k
       ·subst e;exact HBK.out
       ·exact HJ.out j h1 (by omega)⟩
      case measure=>simp[intOf];omega
     | true =>
      have HBK:=Lib.hid hbk;clear hbk
      go_wp2_with fail
      refine(rget_any l k _ h4 (by omega)).mono ?_
      rintro e w' ⟨rfl,rfl⟩
      rw[bitI_nat,HBK.out]
      have hex:k=N∨bit l k=true:=Or.inr HBK.out
      have HNX:Hid (k+1=0∨N<k+1∨bit l (k+1-1)=true):=Or.inr (Or.inr HBK.out)
      by_cases hik:i<k
      ·have hm:=runs_more l i k N HI.out hik (by omega) HJ.out hex
       generalize runsTo l i=rs at *
       have HM:=Lib.hid hm;clear hm hex
       have hown:=HO.out
       go_wp2_with (at_builtin;go_must (refine wpList_app wo (by rfl) _ _ 53 (by rfl) w.heap.size 64 _ i0 (.agg #[.int .i64 0,.int .i64 0]) 2 16 Tryz.underlying53 hi hz0 hz1 hz2 rfl (by decide) (by decide) _ _ _ (by rfl) hown #[.int .i64 i,.int .i64 ((k:Int)-i)] (by rfl) rfl ?c1 ?c2 HB.out.size ?_))
       case c1=>simp[Value.oneCell']
       case c2=>omega
       intro g cap w1 hown1 hg1 hat hlt1 hsz1
       have hb1:=HB.out.grown hg1 HB.out.size (fun k hk=>by have:=(hown.lt k hk).1;omega)
       have e:ext rs++(#[Value.int .i64 i,.int .i64 ((k:Int)-i)]:Array Value).toList=ext (rs++[(i,k-i)]):=by
        rw[ext_append];simp[ext];omega
       rw[e] at hown1
       clear hown hat hg1 HB e
       have HB:=Lib.hid hb1;have HO1:=Lib.hid hown1;clear hb1 hown1
       go_wp2_with fail
       go_roundw
       case rel=>exact⟨k+1,by omega,by go_num,by rw[HM.out,List.length_append];exact HO1.out,HB.out,HNX⟩
       case measure=>simp[intOf];omega
      ·have hm:=runs_none l k N (by omega) hex
       have hki:k=i:=by omega
       subst hki
       have HM:=Lib.hid hm;clear hm hex
       go_wp2_with fail
       go_roundw
       case rel=>exact⟨k+1,by omega,by go_num,by rw[HM.out];exact HO.out,HB.out,HNX⟩
       case measure=>simp[intOf];omega
    ·have hkN:k=N:=by omega
     have hex:k=N∨bit l k=true:=Or.inl hkN
     have HNX:Hid (k+1=0∨N<k+1∨bit l (k+1-1)=true):=Or.inr (Or.inl (by omega))
     have HKN:=Lib.hid hkN;clear hkN
     have hkN:¬k<N:=by rw[HKN.out];omega
     by_cases hik:i<k
     ·have hm:=runs_more l i k N HI.out hik (by omega) HJ.out hex
      generalize runsTo l i=rs at *
      have HM:=Lib.hid hm;clear hm hex
      have hown:=HO.out
      go_wp2_with (at_builtin;go_must (refine wpList_app wo (by rfl) _ _ 53 (by rfl) w.heap.size 64 _ i0 (.agg #[.int .i64 0,.int .i64 0]) 2 16 Tryz.underlying53 hi hz0 hz1 hz2 rfl (by decide) (by decide) _ _ _ (by rfl) hown #[.int .i64 i,.int .i64 ((k:Int)-i)] (by rfl) rfl ?c1 ?c2 HB.out.size ?_))
      case c1=>simp[Value.oneCell']
      case c2=>omega
      intro g cap w1 hown1 hg1 hat hlt1 hsz1
      have hb1:=HB.out.grown hg1 HB.out.size (fun k hk=>by have:=(hown.lt k hk).1;omega)
      have e:ext rs++(#[Value.int .i64 i,.int .i64 ((k:Int)-i)]:Array Value).toList=ext (rs++[(i,k-i)]):=by
       rw[ext_append];simp[ext];omega
      rw[e] at hown1
      clear hown hat hg1 HB e
      have HB:=Lib.hid hb1;have HO1:=Lib.hid hown1;clear hb1 hown1
      go_wp2_with fail
      go_roundw
      case rel=>exact⟨k+1,by omega,by go_num,by rw[HM.out,List.length_append];exact HO1.out,HB.out,HNX⟩
      case measure=>simp[intOf];omega
     ·have hm:=runs_none l k N (by omega) hex
      have hki:k=i:=by omega
      subst hki
      have HM:=Lib.hid hm;clear hm hex
      go_wp2_with fail
      go_roundw
      case rel=>exact⟨k+1,by omega,by go_num,by rw[HM.out];exact HO.out,HB.out,HNX⟩
      case measure=>simp[intOf];omega
  ·go_wp2_with fail
   go_ret
   rw[show min i N=N by omega] at hown
   exact⟨_,rfl,hb,hown⟩
theorem ext_cells{w:World}{B g cap:Nat}{rs:List (Nat×Nat)}(h:w.ownsRow B 64 2 (.slice (some ⟨g,0,none⟩) rs.length cap) rs.length (ext rs)):
  ∀k (h:k<rs.length),w.cell? ⟨g,k*2,none⟩=some (.int .i64 rs[k].1)∧w.cell? ⟨g,k*2+1,none⟩=some (.int .i64 rs[k].2):=by
 intro k hk
 have:=ext_at rs k hk
 rw[Nat.mul_comm 2 k] at this
 rw[h.cellAt _ (by omega),h.cellAt _ (by omega)]
 exact this
theorem rFit_any(l:List UInt8)(n c:Int)(w:World)(hs:l.length≤1099511627776)(h1 : -9223372036854775808≤n)(h2:n≤9223372036854775807):
  Calls Tryz.prog 91 #[.string ⟨l.toArray⟩,.int .i64 n,.int .i64 c] w fun e w'=>e=.returned (.tuple #[.int .i64 (fitR l n c).1,.bool (fitR l n c).2])∧Below w.heap.size w w':=by
 have hf:=rRuns_any l n w hs h1 h2
 have hlen:(runsTo l (firstN l n)).length≤8796093022208:=Nat.le_trans (runsTo_length _ _) (by have:=firstN_le l n;omega)
 have hR:fitR l n c=if c<1 then(0,false) else fitO (((runsTo l (firstN l n)).find? (fun r=>decide (c.toNat≤r.2))).map (·.1)):=by
  unfold fitR
  split
  ·rfl
  ·rw[fit_eq l c.toNat (by omega)]
 generalize runsTo l (firstN l n)=rs at *
 generalize fitR l n c=R at *
 have HF:=Lib.hid hf;have HR:=Lib.hid hR;clear hf hR
 go_enter Tryz.func91,Tryz.ntmps91
 go_wp2_with fail
 refine HF.out.mono ?_
 rintro e w1 ⟨v,rfl,hb,hown⟩
 obtain⟨a,cap,rfl,hsome⟩:=owns_value hown
 have HB:=Lib.hid hb;have HS:=Lib.hid hsome;have HO:=Lib.hid hown;clear hb hsome hown
 go_wp2_with fail
 go_loop [9] (fun i=>∃k:Nat,k≤rs.length∧i=.int .i64 k∧Hid (∀j (_:j<rs.length),j<k→¬c.toNat≤rs[j].2)) (fun i=>rs.length-(intOf i).toNat)
 case atStart=>exact⟨0,by omega,rfl,fun j _ h=>by omega⟩
 case round =>
  obtain⟨k,hk,rfl,HK⟩:=hrel
  by_cases hc:0<c
  ·by_cases hlt:k<rs.length
   ·obtain⟨g,rfl⟩:=HS.out (by omega)
    have hcell:=ext_cells HO.out k hlt
    obtain⟨hc1,hc2⟩:=hcell
    by_cases hge:c≤(rs[k].2:Int)
    ·have hr:R=((rs[k].1:Int),true):=by
      rw[HR.out,if_neg (by omega)]
      rw[show rs.find? (fun r=>decide (c.toNat≤r.2))=some rs[k] from ?_]
      ·rfl
      ·rw[List.find?_eq_some_iff_getElem]
       refine⟨by simp;omega,k,hlt,rfl,fun j hj=>?_⟩
       have:=HK.out j (by omega) hj
       simp;omega
     have HRR:=Lib.hid hr;clear hr
     go_wp2_with fail
     go_ret2
     exact⟨by rw[HRR.out];rfl,HB.out⟩
    ·go_wp2_with fail
     go_round
     case rel=>exact⟨k+1,by omega,by go_num,fun j hj h=>by
       by_cases e:j=k
       ·subst e;omega
       ·exact HK.out j hj (by omega)⟩
     case measure=>simp[intOf];omega
   ·have hr:R=(0,false):=by
     rw[HR.out,if_neg (by omega)]
     rw[show rs.find? (fun r=>decide (c.toNat≤r.2))=none from ?_]
     ·rfl
     ·rw[List.find?_eq_none]
      intro r hr
      obtain⟨j,hj,rfl⟩:=List.getElem_of_mem hr
      have:=HK.out j hj (by omega)
      simp;omega
    have HRR:=Lib.hid hr;clear hr
    go_wp2_with fail
    go_ret2
    exact⟨by rw[HRR.out];rfl,HB.out⟩
  ·have hr:R=(0,false):=by rw[HR.out,if_pos (by omega)]
   have HRR:=Lib.hid hr;clear hr
   by_cases hlt:k<rs.length
   all_goals
    go_wp2_with fail
    go_ret2
    exact⟨by rw[HRR.out];rfl,HB.out⟩
end
end Go.Proofs.YthcpkgfieoneeaaGreatDoor
