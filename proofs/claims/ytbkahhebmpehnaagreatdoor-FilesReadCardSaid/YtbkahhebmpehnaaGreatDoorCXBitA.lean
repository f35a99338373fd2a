/- Joined: BitA to BitI -/
import Derived.Test.YtbkahhebmpehnaaGreatDoorProg
import Derived.WalkSpells
import Derived.WalkLawsBesides
import Derived.Test.YtbkahhebmpehnaaGreatDoorCXBase2
set_option linter.all false
set_option maxRecDepth 100000
set_option maxHeartbeats 8000000
namespace Go.Proofs.YtbkahhebmpehnaaGreatDoor
open Go.Proofs.Tryz
section
open Go.RowKit
theorem IN(l:List UInt8)(i:Int)(w:World)(hs:l.length≤9223372036854775807)(hi:0≤i)(uW:i≤9223372036854775807)(zq:i / 8<l.length):
  Calls prog 142 #[.string ⟨l.toArray⟩,.int .i64 i] w fun e w'=>e=.returned (.bool (mH l i))∧w=w':=by
 go_enter func142,ntmps142;go_wp2;go_ret;refine⟨?_,rfl⟩;rw[oi l i hi U,←CI _ _ (US _)];rfl
theorem Hk(l:List UInt8)(i:Int)(w:World)(hs:l.length≤9223372036854775807)(hi:i<0):
  Calls prog 142 #[.string ⟨l.toArray⟩,.int .i64 i] w fun e w'=>e=.returned (.bool (mH l i))∧w=w':=by
 have h:=Qc l i hi;have H:=Hd h;clear h;go_enter func142,ntmps142;go_wp2;go_ret;exact⟨by rw[H.out];rfl,rfl⟩
theorem IR(l:List UInt8)(i:Int)(w:World)(hs:l.length≤9223372036854775807)(hi:0≤i)(uW:i≤9223372036854775807)(zq:l.length≤i / 8):
  Calls prog 142 #[.string ⟨l.toArray⟩,.int .i64 i] w fun e w'=>e=.returned (.bool (mH l i))∧w=w':=by
 have h:=oX l i U;have H:=Hd h;clear h;go_enter func142,ntmps142;go_wp2;go_ret;exact⟨by rw[H.out];rfl,rfl⟩
theorem MN(l:List UInt8)(i:Int)(w:World)(hs:l.length≤9223372036854775807)(uW:i≤9223372036854775807):
  Calls prog 142 #[.string ⟨l.toArray⟩,.int .i64 i] w fun e w'=>e=.returned (.bool (mH l i))∧w=w':=by
 by_cases h:i<0
 ·exact Hk l i w hs h
 ·by_cases h2:i / 8<l.length
  ·exact IN l i w hs U uW h2
  ·exact IR l i w hs U uW U
theorem WL{w0 wr:World}{B:Nat}{l m:List UInt8}(s k x:Nat)(hr:cA wr B m)(hm:bF l s true k=m)(hx:x<256)(hv:(m.getD ((s+k) / 8) 0).toNat=x):
  cA ((wr.setCell ⟨B,(s+k) / 8,none⟩ (.int .u8 (bits BinOp.andNot .u8 x (2 ^ ((s+k)%8)%256)))).setCell ⟨B,(s+k) / 8,none⟩
   (.int .u8 (bits BinOp.or .u8 (bits BinOp.andNot .u8 x (2 ^ ((s+k)%8)%256)) (2 ^ ((s+k)%8)%256)))) B (bF l s true (k+1)):=by
 have hk:(s+k)%8<8:=Sx _ U;rw[xF x _ hx hk,Er x _ hx hk];have h1:=hr.set ((s+k) / 8) _ (UInt8.ofNat (lN x ((s+k)%8) false)) (ofNat_toNat _ (uF _ _ _ hx hk)).symm;have h2:=h1.set ((s+k) / 8) _ (UInt8.ofNat (lN x ((s+k)%8) true)) (ofNat_toNat _ (uF _ _ _ hx hk)).symm;rw[set_set] at h2;rw[bF,hm,qg,hv];exact h2
theorem UM{w0 wr:World}{B:Nat}{l m:List UInt8}(s k x:Nat)(hr:cA wr B m)(hm:bF l s false k=m)(hx:x<256)(hv:(m.getD ((s+k) / 8) 0).toNat=x):
  cA (wr.setCell ⟨B,(s+k) / 8,none⟩ (.int .u8 (bits BinOp.andNot .u8 x (2 ^ ((s+k)%8)%256)))) B (bF l s false (k+1)):=by
 have hk:(s+k)%8<8:=Sx _ U;rw[Er x _ hx hk];have h1:=hr.set ((s+k) / 8) _ (UInt8.ofNat (lN x ((s+k)%8) false)) (ofNat_toNat _ (uF _ _ _ hx hk)).symm;rw[bF,hm,qg,hv];exact h1
theorem vz(l:List UInt8)(s c:Nat)(on:Bool)(w:World)(hs:l.length≤9223372036854775807 / 8)(h2:c+s≤8*l.length):
  Calls prog 167 #[.string ⟨l.toArray⟩,.int .i64 s,.int .i64 c,.bool on] w fun e w'=>e=.returned (.tuple #[.string ⟨(bF l s on c).toArray⟩,.bool true])∧Below w.heap.size w w':=by
 have kc:=fun (w:World) (s:ByteArray)=>run_bytes_of_string (P:=prog) w 9 92 5 s underlying9 underlying92 underlying5
 have H1:¬(8*(l.length:Int))<s:=U;have H2:¬(8*(l.length:Int)-s)<c:=U;go_enter func167,ntmps167;go_wp2;go_loopw [38] (fun i wr=>∃k:Nat,k≤c∧i=.int .i64 k∧Below w.heap.size w wr∧cA wr w.heap.size (bF l s on k)) (fun i _=>c-(intOf i).toNat)
 case atStart=>exact⟨0,U,rfl,(Below.refl _ _).alloc (Ω _) _ |>.drew,cA.made _ _ _ _⟩
 case round =>
  obtain⟨k,hk,rfl,hb,hr⟩:=hrel;have hl:=jL l s on k;generalize hm:bF l s on k=m at *;have HL:=Hd hl;clear hl;have HM:=Hd hm;clear hm;by_cases ay:k<c
  ·have zq:(s+k) / 8<l.length:=U
   obtain⟨x,hx,HV,hc,hf⟩:=hr.at ((s+k) / 8) (by rw[HL.out];omega)
   have HR:=Hd hr;clear hr;have HB:=Hd hb;clear hb;cases on
   ·go_wp2
    go_region;go_wp2;refine⟨⟨k+1,U,by go_num,((HB.out.setCell (Ω _) _).drew),?_⟩,by simp[intOf];omega⟩
    exact UM (w0:=w) s k x HR.out HM.out hx HV.out
   ·go_wp2
    go_region;go_wp2;go_region;go_wp2;refine⟨⟨k+1,U,by go_num,(((HB.out.setCell (Ω _) _).setCell (Ω _) _).drew).drew,?_⟩,by simp[intOf];omega⟩
    exact WL (w0:=w) s k x HR.out HM.out hx HV.out
  ·have kW:k=c:=U
   have VD:=hr.back (P:=prog) 92 9 5 (grownCap w l.length 0 5) underlying92 underlying5 underlying9;rw[HL.out] at VD;have HR:=Hd hr;clear hr;have HB:=Hd hb;clear hb;have HK:=Hd kW;clear kW;go_wp2;go_ret2;exact⟨by rw[←HK.out,HM.out];rfl,HB.out⟩
theorem ze:(prog.info? 5).map (fun i=>(i.zero,i.size,i.bytes))=some (some (.int .u8 0),1,1):=by kernel_rfl
theorem It(n:Int)(w:World)(h1:1≤n)(h2:n≤32768):
  Calls prog 168 #[.int .i64 n] w fun e w'=>e=.returned (.string ⟨(jN n).toArray⟩)∧Below w.heap.size w w':=by
 obtain⟨i,hi,bY,bB,aW⟩:=info_parts ze;have km:=run_make (P:=prog) w 92 5 _ _ underlying92 hi bY .i64 .i64 ((n+7) / 8) ((n+7) / 8) U (XX _) (by rw[aW];omega) U
 have hb:=(cA.zeros w ((n+7) / 8).toNat 5).back (P:=prog) 92 9 5 ((n+7) / 8).toNat underlying92 underlying5 underlying9;rw[Nx] at hb;have hm:jN n=List.replicate ((n+7) / 8).toNat 0:=by unfold jN;rw[Φ ⟨h1,h2⟩]
 rw[←hm] at hb;have HM:=Hd hm;clear hm;go_enter func168,ntmps168;go_wp2;go_ret;exact⟨rfl,(Below.refl _ _).alloc (Ω _) _⟩
theorem Hi(n:Int)(w:World)(h1:n<1):
  Calls prog 168 #[.int .i64 n] w fun e w'=>e=.returned (.string ⟨(jN n).toArray⟩)∧Below w.heap.size w w':=by
 have hm:jN n=[]:=by unfold jN;rw[η U]
 have HM:=Hd hm;clear hm;go_enter func168,ntmps168;go_wp2;go_ret;exact⟨by rw[HM.out];rfl,Below.refl _ _⟩
theorem FG(n:Int)(w:World)(h1:32768<n):
  Calls prog 168 #[.int .i64 n] w fun e w'=>e=.returned (.string ⟨(jN n).toArray⟩)∧Below w.heap.size w w':=by
 have hm:jN n=[]:=by unfold jN;rw[η U]
 have HM:=Hd hm;clear hm;have h0:¬n<1:=U;go_enter func168,ntmps168;go_wp2;go_ret;exact⟨by rw[HM.out];rfl,Below.refl _ _⟩
theorem Be(n:Int)(w:World):
  Calls prog 168 #[.int .i64 n] w fun e w'=>e=.returned (.string ⟨(jN n).toArray⟩)∧Below w.heap.size w w':=by
 by_cases h1:n<1
 ·exact Hi n w h1
 ·by_cases h2:n≤32768
  ·exact It n w U h2
  ·exact FG n w U
theorem B4(n:Int)(w:World)(h1:1≤n)(h2:n≤32768):
  Calls prog 63 #[.int .i64 n] w fun e w'=>e=.returned (.string ⟨(jN n).toArray⟩)∧Below w.heap.size w w':=by
 obtain⟨i,hi,bY,bB,aW⟩:=info_parts ze;have km:=run_make (P:=prog) w 92 5 _ _ underlying92 hi bY .i64 .i64 ((n+7) / 8) ((n+7) / 8) U (XX _) (by rw[aW];omega) U
 have hb:=(cA.zeros w ((n+7) / 8).toNat 5).back (P:=prog) 92 9 5 ((n+7) / 8).toNat underlying92 underlying5 underlying9;rw[Nx] at hb;have hm:jN n=List.replicate ((n+7) / 8).toNat 0:=by unfold jN;rw[Φ ⟨h1,h2⟩]
 rw[←hm] at hb;have HM:=Hd hm;clear hm;go_enter func63,ntmps63;go_wp2;go_ret;exact⟨rfl,(Below.refl _ _).alloc (Ω _) _⟩
theorem Cs(n:Int)(w:World)(h1:n<1):
  Calls prog 63 #[.int .i64 n] w fun e w'=>e=.returned (.string ⟨(jN n).toArray⟩)∧Below w.heap.size w w':=by
 have hm:jN n=[]:=by unfold jN;rw[η U]
 have HM:=Hd hm;clear hm;go_enter func63,ntmps63;go_wp2;go_ret;exact⟨by rw[HM.out];rfl,Below.refl _ _⟩
theorem CL(n:Int)(w:World)(h1:32768<n):
  Calls prog 63 #[.int .i64 n] w fun e w'=>e=.returned (.string ⟨(jN n).toArray⟩)∧Below w.heap.size w w':=by
 have hm:jN n=[]:=by unfold jN;rw[η U]
 have HM:=Hd hm;clear hm;have h0:¬n<1:=U;go_enter func63,ntmps63;go_wp2;go_ret;exact⟨by rw[HM.out];rfl,Below.refl _ _⟩
theorem Nw(n:Int)(w:World):
  Calls prog 63 #[.int .i64 n] w fun e w'=>e=.returned (.string ⟨(jN n).toArray⟩)∧Below w.heap.size w w':=by
 by_cases h1:n<1
 ·exact Cs n w h1
 ·by_cases h2:n≤32768
  ·exact B4 n w U h2
  ·exact CL n w U
theorem Ge(l:List UInt8)(i:Int)(w:World)(hs:l.length≤9223372036854775807)(hi:0≤i)(uW:i≤9223372036854775807)(zq:i / 8<l.length):
  Calls prog 105 #[.string ⟨l.toArray⟩,.int .i64 i] w fun e w'=>e=.returned (.bool (mH l i))∧w=w':=by
 have hx:(l[(i / 8).toNat]' U).toNat<256:=US _;have hb:=oi l i hi U;generalize hv:(l[(i / 8).toNat]' U).toNat=x at *;have HB:=Hd hb;clear hb;have HV:=Hd hv;clear hv;have H0:0≤i / 8:=U;have H1:0≤i%8:=U;have H2:i%8<8:=U;go_enter func105,ntmps105;go_wp2;go_loop [5,6] (fun v k=>∃j:Nat,j≤(i%8).toNat∧k=.int .i64 j∧v=.int .i64 ((x / 2 ^ j:Nat):Int)) (fun _ k=>8-(intOf k).toNat)
 case atStart=>exact⟨0,L0 _,rfl,by rw[w64b,←HV.out];simp;rfl⟩
 case round =>
  obtain⟨j,hj,rfl,rfl⟩:=hrel;have hd:=Uw x j;have hxj:x / 2 ^ j≤x:=Nat.div_le_self _ _;have HD:=Hd hd;clear hd;generalize hy:x / 2 ^ j=y at *;have HY:=Hd hy;clear hy;by_cases ay:j<(i%8).toNat
  ·go_wp2
   go_round;case rel=>exact⟨j+1,U,by go_num,by rw[HD.out]⟩
   case measure=>simp[intOf];omega
  ·go_wp2
   go_ret;have e:j=(i%8).toNat:=U;refine⟨JN ?_,rfl⟩;rw[HB.out,←e,←Ux,HY.out]
theorem E7(l:List UInt8)(i:Int)(w:World)(hi:i<0):
  Calls prog 105 #[.string ⟨l.toArray⟩,.int .i64 i] w fun e w'=>e=.returned (.bool (mH l i))∧w=w':=by
 have h:=Qc l i hi;have H:=Hd h;clear h;go_enter func105,ntmps105;go_wp2;go_ret;exact⟨by rw[H.out];rfl,rfl⟩
theorem GO(l:List UInt8)(i:Int)(w:World)(hs:l.length≤9223372036854775807)(hi:0≤i)(uW:i≤9223372036854775807)(zq:l.length≤i / 8):
  Calls prog 105 #[.string ⟨l.toArray⟩,.int .i64 i] w fun e w'=>e=.returned (.bool (mH l i))∧w=w':=by
 have h:=oX l i U;have H:=Hd h;clear h;go_enter func105,ntmps105;go_wp2;go_ret;exact⟨by rw[H.out];rfl,rfl⟩
theorem sW(l:List UInt8)(i:Int)(w:World)(hs:l.length≤9223372036854775807)(uW:i≤9223372036854775807):
  Calls prog 105 #[.string ⟨l.toArray⟩,.int .i64 i] w fun e w'=>e=.returned (.bool (mH l i))∧w=w':=by
 by_cases h:i<0
 ·exact E7 l i w h
 ·by_cases h2:i / 8<l.length
  ·exact Ge l i w hs U uW h2
  ·exact GO l i w hs U uW U
theorem yl(m:List UInt8)(i cap B:Nat)(on:Bool)(w:World)(hs:m.length≤9223372036854775807 / 8)(hr:cA w B m)(hi:i / 8<m.length):
  Calls prog 120 #[.slice (some ⟨B,0,none⟩) m.length cap,.int .i64 i,.bool on] w fun e w'=>e=.returned (.tuple #[])∧Below B w w'∧cA w' B (qg m i on):=by
 have h4:m.length≤9223372036854775807:=U;have h5:(i:Int)≤9223372036854775807:=U;have VD:=hr.back (P:=prog) 92 9 5 cap underlying92 underlying5 underlying9;obtain⟨x,hx,HV,hc,hf⟩:=hr.at (i / 8) hi;have hk8:i%8<8:=Sx _ U;have HR:=Hd hr;clear hr;go_enter func120,ntmps120;go_wp2_with fail;go_loop [6,7] (fun v k=>∃j:Nat,j≤i%8∧k=.int .i64 j∧v=.int .u8 ((2 ^ j:Nat):Int)) (fun _ k=>8-(intOf k).toNat)
 case atStart=>exact⟨0,L0 _,rfl,rfl⟩
 case round =>
  obtain⟨j,hj,rfl,rfl⟩:=hrel;have hp:2 ^ (j+1)=2 ^ j*2:=YY _ _;have hl:=uE j U;have fF:j+1<8→2 ^ j*2<256:=fun h=>by rw[←hp];exact uE _ h
  by_cases ay:j<i%8
  ·have nL:=fF U
   generalize hy:2 ^ j=y at *;have HP:=Hd hp;have HY:=Hd hy;clear hp hy fF;go_wp2;go_round;case rel=>exact⟨j+1,U,by go_num,by rw[HP.out];go_num⟩
   case measure=>simp[intOf];omega
  ·have e:j=i%8:=U
   subst e;clear fF hp;generalize hy:2 ^ (i%8)=y at *;have HY:=Hd hy;clear hy;go_wp2_with fail;refine(sW m i _ h4 h5).mono ?_;rintro e w' ⟨rfl,rfl⟩;have hb:mH m i=x.testBit (i%8):=by rw[gQ,bit,HV.out]
   cases aU:(mH m i==on) with
   | true =>
    have HB:=Hd hb;clear hb;go_wp2_with fail;go_end0;refine⟨rfl,Below.refl _ _,?_⟩;rw[HB.out] at aU;have e:=AF x (i%8) on hx hk8 aU;have hs:qg m i on=m:=by
     unfold qg;rw[HV.out,←e,←HV.out];rw[LR,LN hi];simp
    rw[hs];exact HR.out
   | false =>
    have HB:=Hd hb;clear hb;go_wp2_with fail;go_end0;refine⟨rfl,(Below.refl B w).setCell (p:=⟨B,i / 8,none⟩) (Ω _) _,?_⟩;rw[HB.out] at aU;have e:=If x (i%8) on hx hk8 aU;have hk:=uE _ hk8;unfold qg;rw[HV.out];refine HR.out.set _ _ _ ?_;rw[u8_xor_nat _ _ hx hl,←HY.out,e,ofNat_toNat _ (uF _ _ _ hx hk8)]
theorem F0(m:List UInt8)(i cap B n:Nat)(on:Bool)(w:World)(hs:m.length≤9223372036854775807 / 8)(hr:cA w B m)(hi:i / 8<m.length)(hn:m.length=n):
  Calls prog 120 #[.slice (some ⟨B,0,none⟩) n cap,.int .i64 i,.bool on] w fun e w'=>e=.returned (.tuple #[])∧Below B w w'∧cA w' B (qg m i on):=by
 subst hn;exact yl m i cap B on w hs hr hi
theorem MO(l:List UInt8)(s c:Nat)(on:Bool)(w:World)(hs:l.length≤9223372036854775807 / 8)(h2:c+s≤8*l.length):
  Calls prog 62 #[.string ⟨l.toArray⟩,.int .i64 s,.int .i64 c,.bool on] w fun e w'=>e=.returned (.tuple #[.string ⟨(bF l s on c).toArray⟩,.bool true])∧Below w.heap.size w w':=by
 have kc:=fun (w:World) (s:ByteArray)=>run_bytes_of_string (P:=prog) w 9 92 5 s underlying9 underlying92 underlying5
 have H1:¬(8*(l.length:Int))<c:=U;have H2:¬(8*(l.length:Int)-c)<s:=U;go_enter func62,ntmps62;go_wp2_with fail;go_loopw [12] (fun i wr=>∃k:Nat,k≤c∧i=.int .i64 ((s:Int)+k)∧Below w.heap.size w wr∧cA wr w.heap.size (bF l s on k)) (fun i _=>s+c-(intOf i).toNat)
 case atStart=>exact⟨0,U,κ,(Below.refl _ _).alloc (Ω _) _ |>.drew,cA.made _ _ _ _⟩
 case round =>
  obtain⟨k,hk,rfl,hb,hr⟩:=hrel;have hl:=jL l s on k;have aC:qg (bF l s on k) (s+k) on=bF l s on (k+1):=rfl;generalize hm:bF l s on k=m at *;have HL:=Hd hl;clear hl;have HM:=Hd hm;clear hm;have HS:=Hd aC;clear aC;by_cases ay:k<c
  ·have zq:(s+k) / 8<m.length:=by rw[HL.out];omega
   have Ze:m.length≤9223372036854775807 / 8:=by rw[HL.out];exact hs
   have HR:=Hd hr;clear hr;have HB:=Hd hb;clear hb;go_wp2_with fail;have ei:((s:Int)+(k:Int))=((s+k:Nat):Int):=U;rw[ei];clear ei;refine(F0 m (s+k) _ w.heap.size l.length on _ Ze HR.out zq HL.out).mono ?_;rintro e w' ⟨rfl,bN,pW⟩;rw[HS.out] at pW;have qC:=Hd bN;have Ct:=Hd pW;clear bN pW;go_wp2_with fail;go_roundw;case rel=>exact⟨k+1,U,by go_num,HB.out.trans qC.out,Ct.out⟩
   case measure=>simp[intOf];omega
  ·have kW:k=c:=U
   have VD:=hr.back (P:=prog) 92 9 5 (grownCap w l.length 0 5) underlying92 underlying5 underlying9;rw[HL.out] at VD;have HR:=Hd hr;clear hr;have HB:=Hd hb;clear hb;have HK:=Hd kW;clear kW;go_wp2;go_ret2;exact⟨by rw[←HK.out,HM.out];rfl,HB.out⟩
theorem Gg(l:List UInt8)(n:Int)(w:World)(hs:l.length≤9223372036854775807 / 8)(h1 : -9223372036854775808≤n)(h2:n≤9223372036854775807):
  Calls prog 164 #[.string ⟨l.toArray⟩,.int .i64 n] w fun e w'=>e=.returned (.tuple #[.int .i64 (fA l n),.func (Fn.func 238) #[] #[.pointer (some ⟨w.heap.size+1,0,none⟩),.pointer (some ⟨w.heap.size,0,none⟩)]]) ∧
   w'=(w.alloc (.cells #[.string ⟨l.toArray⟩] 9)).alloc (.cells #[.int .i64 (fA l n)] 3):=by
 have e:=KL l n;generalize ((fA l n:Nat):Int)=N at *;by_cases c1:8*↑l.length<n
 ·have e2:N=8*↑l.length:=U
  clear e;subst e2;have e3:0<l.length∨l.length=0:=U;rcases e3 with e3|e3
  ·go_enter func164,ntmps164
   go_wp2;go_ret2;exact⟨rfl,rfl⟩
  ·obtain rfl:l=[]:=NL e3
   go_enter func164,ntmps164;go_wp2;go_ret2;exact⟨rfl,rfl⟩
 ·by_cases c2:0<n
  ·have e2:N=n:=U
   clear e;subst e2;go_enter func164,ntmps164;go_wp2;go_ret2;exact⟨rfl,rfl⟩
  ·have e2:N=0:=U
   clear e;subst e2;go_enter func164,ntmps164;go_wp2;go_ret2;exact⟨rfl,rfl⟩
theorem KW(l:List UInt8)(n:Int)(w:World)(hs:l.length≤9223372036854775807 / 8)(h1 : -9223372036854775808≤n)(h2:n≤9223372036854775807):
  Calls prog 180 #[.string ⟨l.toArray⟩,.int .i64 n] w fun e w'=>e=.returned (.int .i64 (fA l n))∧w=w':=by
 have e:=KL l n;generalize ((fA l n:Nat):Int)=N at *;by_cases c1:8*↑l.length<n
 ·have e2:N=8*↑l.length:=U
  clear e;subst e2;have e3:0<l.length∨l.length=0:=U;rcases e3 with e3|e3
  ·go_enter func180,ntmps180
   go_wp2;go_ret;exact⟨rfl,rfl⟩
  ·obtain rfl:l=[]:=NL e3
   go_enter func180,ntmps180;go_wp2;go_ret;exact⟨rfl,rfl⟩
 ·by_cases c2:0<n
  ·have e2:N=n:=U
   clear e;subst e2;go_enter func180,ntmps180;go_wp2;go_ret;exact⟨rfl,rfl⟩
  ·have e2:N=0:=U
   clear e;subst e2;go_enter func180,ntmps180;go_wp2;go_ret;exact⟨rfl,rfl⟩
theorem kP(l:List UInt8)(N:Nat)(k:Int)(p q:Addr)(w:World)(hs:l.length≤9223372036854775807 / 8)(hN:N≤8*l.length)(hp:w.cell? p=some (.int .i64 N))(hq:w.cell? q=some (.string ⟨l.toArray⟩))(h0:0≤k)(h1:k<N):
  Calls prog 238 #[.int .i64 k,.pointer (some p),.pointer (some q)] w fun e w'=>e=.returned (.bool (!mH l k))∧w=w':=by
 have h3:k≤9223372036854775807:=U;have h4:l.length≤9223372036854775807:=U;go_enter func238,ntmps238;go_wp2_with fail;refine(MN l k _ h4 h3).mono ?_;rintro e w' ⟨rfl,rfl⟩;go_wp2_with fail;go_ret;exact⟨rfl,rfl⟩
theorem Ny(l:List UInt8)(n:Int)(w:World)(hs:l.length≤9223372036854775807 / 8)(h1 : -9223372036854775808≤n)(h2:n≤9223372036854775807):
  Calls prog 91 #[.string ⟨l.toArray⟩,.int .i64 n] w fun e w'=>e=.returned (.int .i64 (cnt l (fA l n)))∧Below w.heap.size w w':=by
 have hN:=vX l n;have hf:=fun w=>Gg l n w hs h1 h2
 generalize fA l n=N at *;have HF:=Hd hf;clear hf;go_enter func91,ntmps91;go_wp2_with fail;refine(HF.out _).mono ?_;rintro e w' ⟨rfl,rfl⟩;go_wp2_with fail;go_loop [15,6,7] (fun i t _=>∃k:Nat,k≤N∧i=.int .i64 k∧t=.int .i64 (cnt l k)) (fun i _ _=>N-(intOf i).toNat)
 case atStart=>exact⟨0,U,rfl,rfl⟩
 case round =>
  obtain⟨k,hk,rfl,rfl⟩:=hrel;have bL:=KM l k;by_cases ay:k<N
  ·cases hb:bit l k with
   | false =>
    have hc:cnt l (k+1)=cnt l k+1:=by rw[cnt,hb];rfl
    have HC:=Hd hc;have HB:=Hd hb;clear hc hb;go_wp2_with fail;refine(kP l N k _ _ _ hs hN (by go_simp) (by go_simp) U U).mono ?_
    rintro e w' ⟨rfl,rfl⟩;rw[gQ,HB.out];go_wp2_with fail;go_round;case rel=>exact⟨k+1,U,by go_num,by rw[HC.out];go_num⟩
    case measure=>simp[intOf];omega
   | true =>
    have hc:cnt l (k+1)=cnt l k:=by rw[cnt,hb];rfl
    have HC:=Hd hc;have HB:=Hd hb;clear hc hb;go_wp2_with fail;refine(kP l N k _ _ _ hs hN (by go_simp) (by go_simp) U U).mono ?_
    rintro e w' ⟨rfl,rfl⟩;rw[gQ,HB.out];go_wp2_with fail;go_round;case rel=>exact⟨k+1,U,by go_num,by rw[HC.out]⟩
    case measure=>simp[intOf];omega
  ·have hk:k=N:=U
   subst hk;go_wp2_with fail;go_ret;exact⟨rfl,((Below.refl _ _).alloc (Ω _) _).alloc κ _⟩
theorem vl(l:List UInt8)(n:Int)(w:World)(hs:l.length≤9223372036854775807 / 8)(h1 : -9223372036854775808≤n)(h2:n≤9223372036854775807):
  Calls prog 104 #[.string ⟨l.toArray⟩,.int .i64 n] w fun e w'=>e=.returned (.int .i64 (cnt l (fA l n)))∧w=w':=by
 have hN:=vX l n;have hf:=fun w=>KW l n w hs h1 h2
 generalize fA l n=N at *;have HF:=Hd hf;clear hf;have h4:l.length≤9223372036854775807:=U;go_enter func104,ntmps104;go_wp2_with fail;go_loop [6,5,7] (fun i t _=>∃k:Nat,k≤N∧i=.int .i64 k∧t=.int .i64 (cnt l k)) (fun i _ _=>N-(intOf i).toNat)
 case atStart=>exact⟨0,U,rfl,rfl⟩
 case round =>
  obtain⟨k,hk,rfl,rfl⟩:=hrel;have bL:=KM l k;by_cases ay:k<N
  ·cases hb:bit l k with
   | false =>
    have hc:cnt l (k+1)=cnt l k+1:=by rw[cnt,hb];rfl
    have HC:=Hd hc;have HB:=Hd hb;clear hc hb;go_wp2_with fail;refine(HF.out _).mono ?_;rintro e w' ⟨rfl,rfl⟩;go_wp2_with fail;refine(sW l k _ h4 U).mono ?_;rintro e w' ⟨rfl,rfl⟩;rw[gQ,HB.out];go_wp2_with fail;go_round;case rel=>exact⟨k+1,U,by go_num,by rw[HC.out];go_num⟩
    case measure=>simp[intOf];omega
   | true =>
    have hc:cnt l (k+1)=cnt l k:=by rw[cnt,hb];rfl
    have HC:=Hd hc;have HB:=Hd hb;clear hc hb;go_wp2_with fail;refine(HF.out _).mono ?_;rintro e w' ⟨rfl,rfl⟩;go_wp2_with fail;refine(sW l k _ h4 U).mono ?_;rintro e w' ⟨rfl,rfl⟩;rw[gQ,HB.out];go_wp2_with fail;go_round;case rel=>exact⟨k+1,U,by go_num,by rw[HC.out]⟩
    case measure=>simp[intOf];omega
  ·have hk:k=N:=U
   subst hk;go_wp2_with fail;refine(HF.out _).mono ?_;rintro e w' ⟨rfl,rfl⟩;go_wp2_with fail;go_ret;exact⟨rfl,rfl⟩
theorem aaj:(prog.info? 87).map (fun i=>(i.zero,i.size,i.bytes))=some (some (.agg #[.int .i64 0,.int .i64 0]),2,16):=by kernel_rfl
theorem vm(l:List UInt8)(n:Int)(w:World)(hs:l.length≤1099511627776)(h1 : -9223372036854775808≤n)(h2:n≤9223372036854775807):
  Calls prog 89 #[.string ⟨l.toArray⟩,.int .i64 n] w fun e w'=>∃v,e=.returned v∧Below w.heap.size w w' ∧
   w'.ownsRow w.heap.size 87 2 v (aK l (fA l n)).length (ext (aK l (fA l n))):=by
 have hN:=vX l n;have xH:l.length≤9223372036854775807 / 8:=U;have hf:=fun w=>Gg l n w xH h1 h2
 generalize fA l n=N at *;have HF:=Hd hf;clear hf;obtain⟨i0,hi,bY,bB,aW⟩:=info_parts aaj;go_enter func89,ntmps89;go_wp2_with fail;refine(HF.out _).mono ?_;rintro e w' ⟨rfl,rfl⟩;go_wp2_with fail;go_loopw [15,6,7,23,28] (fun i t _ _ _ wr=>∃k:Nat,k≤N∧i=.int .i64 k∧wr.ownsRow (w.heap.size+2) 87 2 t (aK l k).length (ext (aK l k))∧Below w.heap.size w wr ∧
   w.heap.size+2≤wr.heap.size∧wr.cell? ⟨w.heap.size+1,0,none⟩=some (.int .i64 N)∧wr.cell? ⟨w.heap.size,0,none⟩=some (.string ⟨l.toArray⟩)) (fun i _ _ _ _ _=>N-(intOf i).toNat)
 case atStart=>exact⟨0,U,rfl,World.ownsRow_nil _ _ _ _,((Below.refl _ _).alloc (Ω _) _).alloc κ _,κ,by go_simp,by go_simp⟩
 case round =>
  obtain⟨k,hk,rfl,aF,hb,bP,cO,dI⟩:=hrel;by_cases ay:k<N
  ·cases eu:bit l k with
   | true =>
    have hc:aK l (k+1)=aK l k:=by rw[aK,eu];rfl
    have HC:=Hd hc;have rR:=Hd eu;clear hc eu;have HO:=Hd aF;have HB:=Hd hb;clear aF hb;go_wp2_with fail;refine(kP l N k _ _ _ xH hN cO dI U U).mono ?_;rintro e w' ⟨rfl,rfl⟩;rw[gQ,rR.out];go_wp2_with fail;go_roundw;case rel=>exact⟨k+1,U,by go_num,by rw[HC.out];exact HO.out,HB.out,bP,cO,dI⟩
    case measure=>simp[intOf];omega
   | false =>
    by_cases Fy:0<k∧bit l (k-1)=false
    ·obtain⟨h0,Fz⟩:=Fy
     obtain⟨rs,r,er,Fv,pW⟩:=Uz l (k-1) Fz;have hc:aK l (k+1)=rs++[(r.1,r.2+1)]:=by
      rw[aK,eu,η κ,Φ ⟨h0,Fz⟩,show k=k-1+1 by omega,er,sV]
     have hp:mH l ((k:Int)-1)=false:=by
      have:((k:Int)-1)=((k-1:Nat):Int):=U;rw[this,gQ];exact Fz
     rw[show k-1+1=k by omega] at er
     have hlen:=oC l k;rw[er] at aF hlen;simp only[Δ,Θ,Nm,On,jP] at aF hlen;obtain⟨g,cap,rfl,eT,jM⟩:=aF.form U;have amv:r.2≤k:=U;obtain⟨r1,r2⟩:=r;have aP:wr.cell? ⟨g,rs.length*2+1,none⟩=some (.int .i64 r2):=by
      rw[aF.cellAt _ U,OF (by rw[jO];omega),jO,show rs.length*2+1-rs.length*2=1 by omega];rfl
     have dQ:=aF.frozenAt (rs.length*2+1);have HC:=Hd hc;have rR:=Hd eu;have HP:=Hd hp;clear hc eu hp er Fz Fv;have HB:=Hd hb;have HO:=Hd aF;clear hb aF;go_wp2_with fail;refine(kP l N k _ _ _ xH hN cO dI U U).mono ?_;rintro e w' ⟨rfl,rfl⟩;rw[gQ,rR.out];go_wp2_with fail;refine(kP l N _ _ _ _ xH hN cO dI U U).mono ?_;rintro e w' ⟨rfl,rfl⟩;rw[HP.out];go_wp2_with fail;have aC:=HO.out.stored (rs.length*2+1) (.int .i64 ((r2:Int)+1));rw[ob] at aC;obtain⟨M0,zR⟩:=aC;have hb1:=HB.out.grown zR U (fun j hj=>by cases hj;omega)
     have R7:=zR.cell cO (by simp;omega)
     have R9:=zR.cell dI (by simp;omega)
     have M4:=zR.size;clear cO dI;go_roundw;case rel=>exact⟨k+1,U,by go_num,by rw[HC.out,Δ];exact M0,hb1,U,R7,R9⟩
     case measure=>simp[intOf];omega
    ·have hc:aK l (k+1)=aK l k++[(k,1)]:=by rw[aK,eu,η κ,η Fy]
     have hlen:=oC l k;generalize aK l k=rs at *;by_cases h0:0<k
     ·have hp:mH l ((k:Int)-1)=true:=by
       have:((k:Int)-1)=((k-1:Nat):Int):=U;rw[this,gQ];simp[h0] at Fy;exact Fy
      have HC:=Hd hc;have rR:=Hd eu;have HP:=Hd hp;clear hc eu Fy hp;have HB:=Hd hb;clear hb;go_wp2_with fail;refine(kP l N k _ _ _ xH hN cO dI U U).mono ?_;rintro e w' ⟨rfl,rfl⟩;rw[gQ,rR.out];go_wp2_with fail;refine(kP l N _ _ _ _ xH hN cO dI U U).mono ?_;rintro e w' ⟨rfl,rfl⟩;rw[HP.out];go_wp2_with (at_builtin;go_must (refine bG wr ρ _ _ 46 ρ (w.heap.size+2) 87 _ i0 (.agg #[.int .i64 0,.int .i64 0]) 2 16 underlying46 hi bY bB aW rfl Z Z _ _ _ ρ aF #[.int .i64 k,.int .i64 1] ρ rfl ?c1 ?c2 bP ?_))
      case c1=>simp[Value.oneCell']
      case c2=>omega
      intro g cap w1 uM eT pU nR M4;have hb1:=HB.out.grown eT U (fun k hk=>by have:=(aF.lt k hk).1;omega)
      have R7:=Am aF eT κ cO;have R9:=Am aF eT κ dI;clear aF pU eT HB;have HB:=Hd hb1;have HO:=Hd uM;clear hb1 uM;go_wp2_with fail;go_roundw;case rel=>exact⟨k+1,U,by go_num,by rw[HC.out,Δ,jP];exact HO.out,HB.out,U,R7,R9⟩
      case measure=>simp[intOf];omega
     ·have lT:k=0:=U
      subst lT;have HC:=Hd hc;have rR:=Hd eu;clear hc eu Fy;have HB:=Hd hb;clear hb;go_wp2_with fail;refine(kP l N 0 _ _ _ xH hN cO dI U U).mono ?_;rintro e w' ⟨rfl,rfl⟩;rw[show mH l 0=false from(gQ l 0).trans rR.out]
      go_wp2_with (at_builtin;go_must (refine bG wr ρ _ _ 46 ρ (w.heap.size+2) 87 _ i0 (.agg #[.int .i64 0,.int .i64 0]) 2 16 underlying46 hi bY bB aW rfl Z Z _ _ _ ρ aF #[.int .i64 0,.int .i64 1] ρ rfl ?c1 ?c2 bP ?_))
      case c1=>simp[Value.oneCell']
      case c2=>omega
      intro g cap w1 uM eT pU nR M4;have hb1:=HB.out.grown eT U (fun k hk=>by have:=(aF.lt k hk).1;omega)
      have R7:=Am aF eT κ cO;have R9:=Am aF eT κ dI;clear aF pU eT HB;have HB:=Hd hb1;have HO:=Hd uM;clear hb1 uM;go_wp2_with fail;go_roundw;case rel=>exact⟨1,U,rfl,by rw[show 1=0+1 from rfl,HC.out,Δ,jP];exact HO.out,HB.out,U,R7,R9⟩
      case measure=>simp[intOf];omega
  ·have kW:k=N:=U
   subst kW;go_wp2_with fail;go_ret;exact⟨_,rfl,hb,aF.mono U⟩
theorem AI(l:List UInt8)(n c:Int)(w:World)(hs:l.length≤1099511627776)(h1 : -9223372036854775808≤n)(h2:n≤9223372036854775807)(hc:1≤c):
  Calls prog 209 #[.string ⟨l.toArray⟩,.int .i64 n,.int .i64 c] w fun e w'=>e=.returned (.tuple #[.int .i64 (qh l n c).1,.bool (qh l n c).2])∧Below w.heap.size w w':=by
 have hN:=vX l n;have xH:l.length≤9223372036854775807 / 8:=U;have hf:=fun w=>Gg l n w xH h1 h2
 have lS:qh l n c=i7 (fK l c.toNat (fA l n)):=by unfold qh;rw[η U]
 generalize fA l n=N at *;generalize hR:qh l n c=R at *;clear hR;have HF:=Hd hf;have HR:=Hd lS;clear hf lS;go_enter func209,ntmps209;go_wp2_with fail;refine(HF.out _).mono ?_;rintro e w' ⟨rfl,rfl⟩;go_wp2_with fail;go_loop [20,9,10] (fun i t _=>∃k:Nat,k≤N∧i=.int .i64 k∧t=.int .i64 (tail l k)∧Hid (fK l c.toNat k=none)) (fun i _ _=>N-(intOf i).toNat)
 case atStart=>exact⟨0,U,rfl,rfl,rfl⟩
 case round =>
  obtain⟨k,hk,rfl,rfl,HK⟩:=hrel;have nS:=nm l k;by_cases ay:k<N
  ·cases hb:bit l k with
   | false =>
    have ht:tail l (k+1)=tail l k+1:=by rw[tail,hb];rfl
    have hn:fK l c.toNat (k+1)=if tail l k+1=c.toNat then some (k+1-c.toNat) else none:=by rw[fK,HK.out,ht]
    have HB:=Hd hb;have HT:=Hd ht;have HN:=Hd hn;clear hb ht hn;by_cases jT:(((tail l k:Nat):Int)+1==c)=true
    ·have dI:c.toNat=tail l k+1:=by simp at jT;omega
     have hr:R=((k:Int)+1-c,true):=by
      have:=Nh l c.toNat (k+1) (k+1-c.toNat) (by rw[HN.out,Φ dI.symm]) N U
      rw[HR.out,this];simp[i7];omega
     have ow:=Hd hr;clear hr;have OO:c=(tail l k:Int)+1:=U;have hcu:c≤k+1:=U;have qJ:=Hd OO;clear OO dI;go_wp2_with fail;refine(kP l N k _ _ _ xH hN (by go_simp) (by go_simp) U U).mono ?_
     rintro e w' ⟨rfl,rfl⟩;rw[gQ,HB.out];go_wp2_with fail;go_ret2;exact⟨by rw[ow.out];rfl,((Below.refl _ _).alloc (Ω _) _).alloc κ _⟩
    ·have jT:(((tail l k:Nat):Int)+1==c)=false:=by simpa using jT
     have bI:fK l c.toNat (k+1)=none:=by rw[HN.out,η];simp at jT;omega
     have dY:=Hd bI;clear bI;go_wp2_with fail;refine(kP l N k _ _ _ xH hN (by go_simp) (by go_simp) U U).mono ?_
     rintro e w' ⟨rfl,rfl⟩;rw[gQ,HB.out];go_wp2_with fail;go_round;case rel=>exact⟨k+1,U,by go_num,by rw[HT.out];go_num,dY⟩
     case measure=>simp[intOf];omega
   | true =>
    have ht:tail l (k+1)=0:=by rw[tail,hb];rfl
    have bI:fK l c.toNat (k+1)=none:=by rw[fK,HK.out,ht];simp;omega
    have HB:=Hd hb;have HT:=Hd ht;have dY:=Hd bI;clear hb ht bI;have jT:((0:Int)==c)=false:=by simp;omega
    go_wp2_with fail;refine(kP l N k _ _ _ xH hN (by go_simp) (by go_simp) U U).mono ?_
    rintro e w' ⟨rfl,rfl⟩;rw[gQ,HB.out];go_wp2_with fail;go_round;case rel=>exact⟨k+1,U,by go_num,by rw[HT.out];rfl,dY⟩
    case measure=>simp[intOf];omega
  ·have hk:k=N:=U
   subst hk;have hr:R=(0,false):=by rw[HR.out,HK.out];rfl
   have ow:=Hd hr;clear hr;go_wp2_with fail;go_ret2;exact⟨by rw[ow.out];rfl,((Below.refl _ _).alloc (Ω _) _).alloc κ _⟩
theorem Is(l:List UInt8)(n c:Int)(w:World)(hc:c<1):
  Calls prog 209 #[.string ⟨l.toArray⟩,.int .i64 n,.int .i64 c] w fun e w'=>e=.returned (.tuple #[.int .i64 (qh l n c).1,.bool (qh l n c).2])∧Below w.heap.size w w':=by
 have hr:qh l n c=(0,false):=by unfold qh;rw[Φ hc]
 have ow:=Hd hr;clear hr;go_enter func209,ntmps209;go_wp2_with fail;go_ret2;exact⟨by rw[ow.out];rfl,Below.refl _ _⟩
theorem Ff(l:List UInt8)(n c:Int)(w:World)(hs:l.length≤1099511627776)(h1 : -9223372036854775808≤n)(h2:n≤9223372036854775807):
  Calls prog 209 #[.string ⟨l.toArray⟩,.int .i64 n,.int .i64 c] w fun e w'=>e=.returned (.tuple #[.int .i64 (qh l n c).1,.bool (qh l n c).2])∧Below w.heap.size w w':=by
 by_cases h:1≤c
 ·exact AI l n c w hs h1 h2 h
 ·exact Is l n c w U
end
end Go.Proofs.YtbkahhebmpehnaaGreatDoor
