/- Joined texts of one proof: what is needed of WFrmD, WRef3c, WBlkG, WRef3b, WRef3d. -/
import Derived.Test.YthcpkgfieoneeaaGreatDoorJPWRef4a
import Derived.Test.YthcpkgfieoneeaaGreatDoorJPWJrnB
import Derived.Test.YthcpkgfieoneeaaGreatDoorJPKit
import Derived.Deep.RegionHeld3
import Derived.Test.YthcpkgfieoneeaaGreatDoorJPRange3
import Derived.Test.YthcpkgfieoneeaaGreatDoorJPJrn4
import Derived.Test.YthcpkgfieoneeaaGreatDoorJPShelf
set_option linter.unusedSimpArgs false
set_option linter.unusedVariables false
set_option linter.unnecessarySimpa false
set_option maxRecDepth 100000
set_option maxHeartbeats 16000000
namespace Go.Proofs.YthcpkgfieoneeaaGreatDoor
section
open Go.RowKit
theorem toHead_some{s:Bytes}{seq:Nat}{l:List Nat}(h:toHeadL s=some (seq,l)):s.length=256∧s.drop 252=endT∧1≤l.length∧l.length≤48∧(∀x∈l,x<4096)∧seq<18446744073709551616:=by
 unfold toHeadL at h
 split at h
 ·rename_i h1
  simp only[] at h
  split at h
  ·rename_i h2
   rw[numsL_eq] at h
   split at h
   ·rename_i l' r he
    split at he
    ·rename_i h3
     simp only[Option.some.injEq,Prod.mk.injEq] at he
     split at h
     ·simp only[Option.some.injEq,Prod.mk.injEq] at h
      obtain⟨rfl,rfl⟩:=h
      rw[←he.1]
      have:=unfix_lt (s.drop 8);have:=unfix_lt (s.drop 4)
      refine⟨h1.1,h1.2.2,by rw[numsP_length];exact h2.1,by rw[numsP_length];exact h2.2,h3,by omega⟩
     ·exact absurd h (by simp)
    ·exact absurd he (by simp)
   ·exact absurd h (by simp)
  ·exact absurd h (by simp)
 ·exact absurd h (by simp)
theorem intVs_at(l:List Nat)(k:Nat)(h:k<l.length):(intVs l)[k]?=some (.int .i64 (l.getD k 0:Nat)):=by simp[intVs,h]
theorem sum_test(c:Nat)(b:Bytes)(hb:b.length=256)(he:b.drop 252=endT):(fixedL c++endT=b.drop 248)↔(fixedL c=(b.drop 248).take 4):=by
 have h1:b.drop 248=(b.drop 248).take 4++endT:=by
  rw[←he,show(252:Nat)=248+4 from rfl,←List.drop_drop,List.take_append_drop]
 constructor
 ·intro h
  rw[←h]
  exact(List.take_left' (length_fixedL c)).symm
 ·intro h
  rw[h];exact h1.symm
theorem owns_cells{w:World}{g n cap size:Nat}{xs:List Value}(h:Sl w (.slice (some ⟨g,0,none⟩) n cap) n size xs)(hn:0<n)(j:Nat)(u:Value)(hj:xs[j]?=some u):w.cell? ⟨g,j,none⟩=some u:=by
 obtain⟨_,a,c,hv,hc1⟩:=h
 obtain⟨b2,off,rfl,hc2⟩:=hc1 hn
 have h2:=hc2 j u hj
 injection hv with hv _ _
 injection hv with hv
 injection hv with hv1 hv2 _
 subst hv1;subst hv2
 rwa [Nat.zero_add] at h2
theorem strs_at(l:List Bytes)(k:Nat)(h:k<l.length):(l.map strV)[k]?=some (strV (l.getD k [])):=by
 rw[List.getElem?_map,List.getD_eq_getElem?_getD,List.getElem?_eq_getElem h];rfl
theorem zip_step(l:List Nat)(r:List Bytes)(k:Nat)(h:k<l.length)(h2:l.length≤r.length):wrVs ((l.zip r).take (k+1))=wrVs ((l.zip r).take k)++[.int .i64 (l.getD k 0:Nat),strV (r.getD k [])]:=by
 have h3:k<(l.zip r).length:=by rw[List.length_zip];omega
 rw[List.take_succ_eq_append_getElem h3,wrVs_append,List.getElem_zip,List.getD_eq_getElem?_getD,List.getD_eq_getElem?_getD,List.getElem?_eq_getElem h,List.getElem?_eq_getElem (by omega:k<r.length)]
 simp[wrVs,encW]
theorem sum_bytes(c b:Bytes)(hb:b.length=256):(!((({ data:=c.toArray }:ByteArray)++{ data:=#[67,68,88,69] }).toList==(({ data:=b.toArray }:ByteArray).extract 248 256).toList)) = !decide (c++endT=b.drop 248):=by
 rw[show({ data:=#[67,68,88,69] }:ByteArray)=⟨endT.toArray⟩ from rfl,bytes_append,bytes_extract,List.take_of_length_le (by rw[List.length_drop];omega)]
 rw[ByteArray.toList_eq,ByteArray.toList_eq]
 by_cases h:c++endT=b.drop 248<;>simp[h]
theorem Unpack_any(w:World)(base:Nat)(lv:Value)(ls:List Bytes)(h:w.ownsRow base 9 1 lv ls.length (ls.map strV))(hn:ls.length≤49)(hl:∀s∈ls,s.length=256):
  Calls Tryz.prog 160 #[lv] w fun e w'=>(∃a v x,e=.returned (.tuple #[a,v,.int .i64 x])∧(unpackL ls=none→x≠0)∧∀seq ws,unpackL ls=some (seq,ws)→x=0∧a=.int .u64 (seq:Nat)∧w'.ownsRow w.heap.size 102 2 v ws.length (wrVs ws))∧Q w w':=by
 obtain⟨i0,hi,hz0,hz1,hz2⟩:=info_parts tinfoWr
 obtain⟨la,lc,rfl,hla⟩:=owns_value h
 have hsl:=Sl.of_owns h
 cases ls with
 | nil =>
  go_enter Tryz.func160,Tryz.ntmps160
  go_wp2_with fail
  go_ret3
  exact⟨⟨_,_,_,rfl,fun _=>by decide,fun _ _ hc=>by simp[unpackL] at hc⟩,Q.refl _⟩
 | cons b rest =>
  obtain⟨lb,rfl⟩:=hla (by simp)
  have hcap:(b::rest).length≤lc:=by
   rcases h.2 with ⟨h1,_⟩|⟨g,cap,cur,h1,_,_,h2,_⟩
   ·cases h1
   ·injection h1 with _ _ h1
    omega
  have hcells:∀k (hk:k<(b::rest).length),w.cell? ⟨lb,k,none⟩=some (strV ((b::rest).getD k [])):=fun k hk=>owns_cells hsl (by simp) k _ (strs_at _ k hk)
  have x0:=hcells 0 (by simp)
  simp only[List.getD_cons_zero] at x0
  have hb:=hl b (List.mem_cons_self ..)
  have cr:=FrRead_any w b hb
  rw[List.length_cons] at *
  have hun:unpackL (b::rest)=match toHeadL b with
   | none=>none
   | some (seq,at_)=>if rest.length<at_.length∨∃s∈rest.take at_.length,s.length≠256 then none
     else if fixedL (crcL (b.take 248++(rest.take at_.length).flatten))=(b.drop 248).take 4 then some (seq,at_.zip rest) else none:=rfl
  have CR:=Lib.hid cr;have HL:=Lib.hid hl;have HC:=Lib.hid hcells;have HUN:=Lib.hid hun;have HSL:=Lib.hid hsl;have HO:=Lib.hid h
  clear cr hl hcells hun hsl h
  have hne:¬((rest.length:Int)+1=0):=by omega
  cases hth:toHeadL b with
  | none =>
   rw[hth] at CR HUN
   have hno:unpackL (b::rest)=none:=HUN.out
   rw[hno]
   clear HUN hno
   go_enter Tryz.func160,Tryz.ntmps160
   go_wp2_with fail
   refine CR.out.mono ?_
   rintro e w1 ⟨⟨a,v,rfl,_⟩,q1⟩
   simp only[Option.isSome]
   go_wp2_with fail
   go_ret3
   exact⟨⟨_,_,_,rfl,fun _=>by decide,fun _ _ hc=>absurd hc (by simp)⟩,q1⟩
  | some r =>
   obtain⟨seq,at_⟩:=r
   rw[hth] at CR HUN
   obtain⟨_,hend,hn1,hn2,hat,hsq⟩:=toHead_some hth
   clear hth
   by_cases hlen:rest.length<at_.length
   ·have hno:unpackL (b::rest)=none:=by rw[HUN.out];simp only[];rw[if_pos (.inl hlen)]
    rw[hno]
    clear HUN hno
    go_enter Tryz.func160,Tryz.ntmps160
    go_wp2_with fail
    refine CR.out.mono ?_
    rintro e w1 ⟨⟨a,v,rfl,hs⟩,q1⟩
    obtain⟨rfl,hr⟩:=hs seq at_ rfl
    obtain⟨pa,pc,rfl,_⟩:=owns_value hr
    simp only[Option.isSome]
    have hh:(rest.length:Int)+1<1+(at_.length:Int):=by omega
    go_wp2_with fail
    go_ret3
    exact⟨⟨_,_,_,rfl,fun _=>by decide,fun _ _ hc=>absurd hc (by simp)⟩,q1⟩
   ·go_enter Tryz.func160,Tryz.ntmps160
    go_wp2_with fail
    refine CR.out.mono ?_
    rintro e w1 ⟨⟨a,v,rfl,hs⟩,q1⟩
    obtain⟨rfl,hr⟩:=hs seq at_ rfl
    obtain⟨pa,pc,rfl,hpa⟩:=owns_value hr
    simp only[Option.isSome]
    have hh:¬(rest.length:Int)+1<1+(at_.length:Int):=by omega
    have HR:=Lib.hid hr;have HQ1:=Lib.hid q1
    clear hr q1 hs
    have hcv:∀k,k<at_.length→∃ga,pa=some ⟨ga,0,none⟩∧w1.cell? ⟨ga,k,none⟩=some (.int .i64 (at_.getD k 0:Nat)):=fun k hk=>by
     obtain⟨ga,rfl⟩:=hpa (by omega)
     exact⟨_,rfl,owns_cells (Sl.of_owns HR.out) (by omega) k _ (intVs_at at_ k hk)⟩
    have hcd:∀k,k<at_.length→w1.cell? ⟨lb,1+k,none⟩=some (strV (rest.getD k []))∧(rest.getD k []).length=256:=fun k hk=>by
     have h1:=HC.out (k+1) (by omega)
     rw[List.getD_cons_succ,Nat.add_comm] at h1
     refine⟨cellQ HQ1.out h1,?_⟩
     rw[List.getD_eq_getElem?_getD,List.getElem?_eq_getElem (by omega:k<rest.length)]
     exact HL.out _ (List.mem_cons_of_mem _ (List.getElem_mem _))
    have hzl:(at_.zip rest).length=at_.length:=by rw[List.length_zip];omega
    have hzs:=fun (k:Nat) (hk:k<at_.length)=>zip_step at_ rest k hk (by omega)
    have HCV:=Lib.hid hcv;have HCD:=Lib.hid hcd;have HZL:=Lib.hid hzl;have HZS:=Lib.hid hzs
    have hown0:w1.ownsRow w1.heap.size 102 2 (.slice none 0 0) 0 (wrVs ((at_.zip rest).take 0)):=World.ownsRow_nil _ _ _ _
    clear hcv hcd hzl hzs
    go_wp2_with fail
    go_loopw [8,40] (fun ov i wr=>∃k:Nat,i=.int .i64 (k:Nat)∧k≤at_.length∧Hid (wr.ownsRow w1.heap.size 102 2 ov k (wrVs ((at_.zip rest).take k)))∧Hid (Q w1 wr)) (fun _ i _=>at_.length-(intOf i).toNat)
    case atStart=>exact⟨0,rfl,Nat.zero_le _,hown0,Lib.hid (Q.refl _)⟩
    case round =>
     obtain⟨k,rfl,hk,HOW,HQ2⟩:=hrel
     by_cases hlt:k<at_.length
     ·have hki:(k:Int)<(at_.length:Int):=by omega
      obtain⟨ga,rfl,x1⟩:=HCV.out k hlt
      obtain⟨x2,hd256⟩:=HCD.out k hlt
      have y1:=cellQ HQ2.out x1;have y2:=cellQ HQ2.out x2
      have hd2:((rest.getD k []).length:Int)=256:=by omega
      have hzs:=HZS.out k hlt
      have HZ:=Lib.hid hzs
      clear hzs x1 x2 hd256
      generalize at_.getD k 0=bk at *
      generalize rest.getD k []=dk at *
      have hc1:∀u∈#[Value.int .i64 (bk:Nat),strV dk].toList,u.oneCell'=true:=by intro u hu;simp at hu;rcases hu with rfl|rfl<;>rfl
      have hc2:(k+1)*24≤140737488355328:=by omega
      have hqq:=HQ1.out.trans HQ2.out
      have HC1:=Lib.hid hc1;have HC2:=Lib.hid hc2;have HQQ:=Lib.hid hqq
      clear hc1 hc2 hqq
      go_wp2_with (at_builtin;refine wpList_app wr (by rfl) _ _ 49 (by rfl) w1.heap.size 102 _ i0 (.agg #[.int .i64 0,strV []]) 2 24 Tryz.underlying49 hi hz0 hz1 hz2 rfl (by decide) (by decide) _ _ _ (by rfl) HOW.out #[.int .i64 (bk:Nat),strV dk] (by rfl) rfl HC1.out HC2.out HQ2.out.size ?_)
      intro g2 cap2 w2 hr2 hg ho hlt1 hlt2
      have hq2:Q w1 w2:=grown_below HQ2.out HOW.out hg (Nat.le_refl _) HQ2.out.size
      have hr3:w2.ownsRow w1.heap.size 102 2 (.slice (some ⟨g2,0,none⟩) (k+1) cap2) (k+1) (wrVs ((at_.zip rest).take (k+1))):=by rw[HZ.out];exact hr2
      have HR3:=Lib.hid hr3;have HQ3:=Lib.hid hq2
      clear hr2 hg ho hr3 hq2
      go_wp2_with fail
      go_roundw
      case rel=>exact⟨k+1,by go_num,by omega,HR3,HQ3⟩
      case measure=>simp[intOf];omega
     ·have hki:¬(k:Int)<(at_.length:Int):=by omega
      obtain rfl:k=at_.length:=by omega
      have hdl:((rest.take at_.length).map strV).length=at_.length:=by rw[List.length_map,List.length_take];omega
      have hsd:Strs w1 (.slice (some ⟨lb,1,none⟩) at_.length (lc-1)) (rest.take at_.length):=by
       unfold Strs
       rw[show(rest.take at_.length).length=at_.length by rw[List.length_take];omega]
       refine⟨by rw[hdl,Nat.mul_one],_,_,rfl,fun _=>⟨lb,1,rfl,fun j u hj=>?_⟩⟩
       have hjl:j<at_.length:=by
        have:=(List.getElem?_eq_some_iff.1 hj).1
        omega
       rw[strs_at _ j (by rw[List.length_take];omega)] at hj
       have h2:=(HCD.out j hjl).1
       rw[←hj,h2,List.getD_eq_getElem?_getD,List.getD_eq_getElem?_getD,List.getElem?_take_of_lt hjl]
      have csm:=fun (V:World) (hq:Q w1 V)=>Sum_any V (b.take 248) _ (rest.take at_.length) (Strs.stays hsd hq) (by rw[List.length_take];omega) (by rw[List.length_take];omega) (fun p hp=>by have:=HL.out p (List.mem_cons_of_mem _ (List.mem_of_mem_take hp));omega)
      have hst:=sum_test (crcL (b.take 248++(rest.take at_.length).flatten)) b hb hend
      have hun:unpackL (b::rest)=if fixedL (crcL (b.take 248++(rest.take at_.length).flatten))=(b.drop 248).take 4 then some (seq,at_.zip rest) else none:=by
       rw[HUN.out,if_neg]
       rintro(hc|⟨q,hq,hne2⟩)
       ·exact hlen hc
       ·exact hne2 (HL.out q (List.mem_cons_of_mem _ (List.mem_of_mem_take hq)))
      have CSM:=Lib.hid csm;have HST:=Lib.hid hst;have HU2:=Lib.hid hun
      clear hdl hsd csm hst hun HUN HCV HCD
      generalize hcr:crcL (b.take 248++(rest.take at_.length).flatten)=cr at *
      have y0:=cellQ (HQ1.out.trans HQ2.out) x0
      have KK:=Lib.hid (Q.refl wr)
      have l4:(fixedL cr).length=4:=rfl
      have hb248:¬(b.length:Int)<248:=by omega
      have hb2:(248:Int)≤(b.length:Int):=by omega
      go_upto_region 15 with fail
      go_region_held3 (fun w'=>w'.cell? ⟨lb,0,none⟩=some (strV b))
       (first|exact y0|exact cellQ (by repeat (first|with_reducible exact KK.out|with_reducible exact Q.refl _|with_reducible apply Qs.dr|with_reducible apply Qs.al)) y0)
       (first|(go_at_call 148;rw[bytes_take b 248];with_reducible refine(CSM.out _ (HQ2.out.trans (by repeat (first|with_reducible exact KK.out|with_reducible apply Qs.dr|with_reducible apply Qs.al)))).mono ?_;rintro e w5 ⟨rfl,q5⟩;have s':Q wr w5:=Q.trans (by repeat (first|with_reducible exact KK.out|with_reducible apply Qs.dr|with_reducible apply Qs.al)) q5;clear KK;have KK:=Lib.hid s';clear s' q5))
      all_goals
       have hsb:=sum_bytes (fixedL cr) b hb
       by_cases hc:fixedL cr++endT=b.drop 248
       ·rw[decide_eq_true hc,Bool.not_true] at hsb
        have hu:=HU2.out
        rw[if_pos (HST.out.1 hc)] at hu
        have HUU:=Lib.hid hu
        clear hu
        have hw5:w5.ownsRow w.heap.size 102 2 u8 (at_.zip rest).length (wrVs (at_.zip rest)):=by
         rw[HZL.out]
         have h1:=ownsRow_below HOW.out KK.out
         rw[show(at_.zip rest).take at_.length=at_.zip rest from List.take_of_length_le (by rw[HZL.out];exact Nat.le_refl _)] at h1
         exact owns_low h1 HQ1.out.size
        have HW5:=Lib.hid hw5;have HQ5:=Lib.hid (HQ1.out.trans (HQ2.out.trans KK.out))
        clear hw5
        go_wp2_with fail
        all_goals (try (rename_i hx;exact absurd (hx.symm.trans hsb) (by decide)))
        go_ret3
        refine⟨⟨_,_,_,rfl,fun h=>by rw[HUU.out] at h;exact absurd h (by simp),fun sq ws h=>?_⟩,HQ5.out⟩
        rw[HUU.out] at h
        simp only[Option.some.injEq,Prod.mk.injEq] at h
        obtain⟨rfl,rfl⟩:=h
        exact⟨rfl,rfl,HW5.out⟩
       ·rw[decide_eq_false hc,Bool.not_false] at hsb
        have hu:=HU2.out
        rw[if_neg (fun h=>hc (HST.out.2 h))] at hu
        have HUU:=Lib.hid hu
        have HQ5:=Lib.hid (HQ1.out.trans (HQ2.out.trans KK.out))
        clear hu
        go_wp2_with fail
        all_goals (try (rename_i hx;exact absurd (hx.symm.trans hsb) (by decide)))
        go_ret3
        exact⟨⟨_,_,_,rfl,fun _=>by decide,fun sq ws h=>by rw[HUU.out] at h;exact absurd h (by simp)⟩,HQ5.out⟩
theorem tinfoInt1:(Tryz.prog.info? 3).map (fun i=>(i.zero,i.size,i.bytes))=some (some (.int .i64 0),1,8):=by kernel_rfl
def BlocksEnd(s:Bytes)(w:World)(e:Ending)(w':World):Prop :=
 (toHeadL s=none∧e=.returned (.tuple #[.int .u64 0,.slice none 0 0,.bool false])∧Q w w') ∨
 ∃seq at_ v,toHeadL s=some (seq,at_)∧at_.length≤48∧e=.returned (.tuple #[.int .u64 (seq:Nat),v,.bool true])∧w'.ownsRow w.heap.size 3 1 v at_.length (intVs at_)∧Q w w'
theorem RBlocks_any(s:Bytes)(hl:s.length=256)(w:World):
  Calls Tryz.prog 174 #[strV s] w fun e w'=>BlocksEnd s w e w':=by
 have x1:({ data:=s.toArray }:ByteArray).extract 0 4=⟨(s.take 4).toArray⟩:=bytes_take s 4
 have x2:({ data:=s.toArray }:ByteArray).extract 252 s.length=⟨(s.drop 252).toArray⟩:=bytes_drop s 252
 have i4:(4:Int)≤(s.length:Int):=by omega
 have i8:(8:Int)≤(s.length:Int):=by omega
 have i12:(12:Int)≤(s.length:Int):=by omega
 have i252:(252:Int)≤(s.length:Int):=by omega
 have n1:((s.length:Int) != 256)=false:=by rw[bne,beq_iff_eq.2 (by omega)];rfl
 have n2:((s.length:Int)==256)=true:=beq_iff_eq.2 (by omega)
 have hm1:=toHead_marks s
 have x3:({ data:=s.toArray }:ByteArray).extract 4 s.length=⟨(s.drop 4).toArray⟩:=bytes_drop s 4
 have x4:({ data:=s.toArray }:ByteArray).extract 8 s.length=⟨(s.drop 8).toArray⟩:=bytes_drop s 8
 have x5:({ data:=s.toArray }:ByteArray).extract 12 s.length=⟨(s.drop 12).toArray⟩:=bytes_drop s 12
 have c4:=fun (W:World)=>RToFixed_any (s.drop 4) W (by rw[List.length_drop];omega) (by rw[List.length_drop];omega)
 have c8:=fun (W:World)=>RToFixed_any (s.drop 8) W (by rw[List.length_drop];omega) (by rw[List.length_drop];omega)
 have c12:=fun (W:World)=>RToFixed_any (s.drop 12) W (by rw[List.length_drop];omega) (by rw[List.length_drop];omega)
 have ck:=fun (k:Nat) (hk:k<48) (W:World)=>RToFixed_any (s.drop (16+4*k)) W (by rw[List.length_drop];omega) (by rw[List.length_drop];omega)
 have xk:=fun (k:Nat)=>bytes_drop s k
 have hbx:∀i (hi:i<s.length),((({ data:=s.toArray }:ByteArray)[i]'hi).toNat:Int)=(byteN s i:Nat):=fun i hi=>byteF s i hi
 have HL:=Lib.hid hl;have HM1:=Lib.hid hm1;have C4:=Lib.hid c4;have C8:=Lib.hid c8;have C12:=Lib.hid c12;have CK:=Lib.hid ck;have XK:=Lib.hid xk
 obtain⟨i1,hi1,hy0,hy1,hy2⟩:=info_parts tinfoInt1
 clear hl hm1 c4 c8 c12 ck xk hbx
 by_cases hA:s.take 4=[67,68,88,84]
 case neg =>
  have eA:(s.take 4==[67,68,88,84])=false:=beq_eq_false_iff_ne.2 hA
  have hno:=HM1.out (fun h=>hA h.2.1)
  have HNO:=Lib.hid hno
  clear hno hA
  go_enter Tryz.func174,Tryz.ntmps174
  go_wp2_with fail
  go_ret3
  exact .inl ⟨HNO.out,rfl,Q.refl _⟩
 have eA:(s.take 4==[67,68,88,84])=true:=beq_iff_eq.2 hA
 by_cases hB:s.drop 252=[67,68,88,69]
 case neg =>
  have eB:(s.drop 252==[67,68,88,69])=false:=beq_eq_false_iff_ne.2 hB
  have hno:=HM1.out (fun h=>hB h.2.2)
  have HNO:=Lib.hid hno
  clear hno hA hB
  go_enter Tryz.func174,Tryz.ntmps174
  go_wp2_with fail
  go_ret3
  exact .inl ⟨HNO.out,rfl,Q.refl _⟩
 have eB:(s.drop 252==[67,68,88,69])=true:=beq_iff_eq.2 hB
 have HA:=Lib.hid hA;have HB:=Lib.hid hB
 have hnum:=toHead_num s
 have hbig:=toHead_big s
 have hrest:=toHead_rest s HL.out
 have hgood:=toHead_good s HL.out hA hB
 have u1:=unfix_lt (s.drop 4);have u2:=unfix_lt (s.drop 8);have u3:=unfix_lt (s.drop 12)
 have HNUM:=Lib.hid hnum;have HBIG:=Lib.hid hbig;have HREST:=Lib.hid hrest;have HGOOD:=Lib.hid hgood
 clear hA hB hnum hbig hrest hgood
 generalize unfix (s.drop 4)=v4 at *
 generalize unfix (s.drop 8)=v8 at *
 generalize unfix (s.drop 12)=n at *
 go_enter Tryz.func174,Tryz.ntmps174
 go_wp2_with fail
 refine(C4.out _).mono ?_
 rintro e w1 ⟨rfl,q1⟩
 go_wp2_with fail
 refine(C8.out _).mono ?_
 rintro e w2 ⟨rfl,q2⟩
 go_wp2_with fail
 refine(C12.out _).mono ?_
 rintro e w3 ⟨rfl,q3⟩
 have HQ3:=Lib.hid (q1.trans (q2.trans q3))
 clear q1 q2 q3
 by_cases hn:1≤n∧n≤48
 case neg =>
  have hno:=HNUM.out hn
  have HNO:=Lib.hid hno
  clear hno
  by_cases h1:n<1
  ·have e1:(n:Int)<1:=by omega
   clear hn h1
   go_wp2_with fail
   go_ret3
   exact .inl ⟨HNO.out,rfl,HQ3.out⟩
  ·have e1:¬(n:Int)<1:=by omega
   have e2:(48:Int)<(n:Int):=by omega
   clear hn h1
   go_wp2_with fail
   go_ret3
   exact .inl ⟨HNO.out,rfl,HQ3.out⟩
 obtain⟨hn1,hn2⟩:=hn
 have e1:¬(n:Int)<1:=by omega
 have e2:¬(48:Int)<(n:Int):=by omega
 go_wp2_with fail
 go_loopw [14,15] (fun v i wr=>∃k:Nat,i=.int .i64 (k:Nat)∧k≤n∧Hid (wr.ownsRow w3.heap.size 3 1 v k (intVs (numsK s k)))∧Hid (Q w3 wr)∧Hid (∀x,x<k→numA s x<4096)) (fun _ i _=>n-(intOf i).toNat)
 case atStart=>exact⟨0,rfl,Nat.zero_le _,World.ownsRow_nil _ _ _ _,Q.refl _,Lib.hid (fun x hx=>by omega)⟩
 case round =>
  obtain⟨k,rfl,hk,HOW,HQ,HBN⟩:=hrel
  by_cases hlt:k<n
  ·have hki:(k:Int)<(n:Int):=by omega
   have hc:=CK.out k (by omega)
   have hx:=XK.out (16+4*k)
   have hto:((16:Int)+4*(k:Int)).toNat=16+4*k:=by omega
   have hlo:(16:Int)+4*(k:Int)≤(s.length:Int):=by have:=HL.out;omega
   have hst:=numsK_succ s k
   have hnl:=numsK_len s k
   have hnv:unfix (s.drop (16+4*k))=numA s k:=rfl
   have hnlt:=unfix_lt (s.drop (16+4*k))
   rw[hnv] at hnlt
   rw[hnv] at hc
   have hbk:=HBIG.out k hlt hn2
   have HC:=Lib.hid hc;have HST:=Lib.hid hst;have HBK:=Lib.hid hbk
   clear hc hst hbk hnv hnl
   generalize (s.drop (16+4*k)).drop 4=rk at *
   generalize hna:numA s k=a at *
   go_wp2_with fail
   refine(HC.out _).mono ?_
   rintro e w4 ⟨rfl,q4⟩
   have HQ4:=Lib.hid (HQ.out.trans q4)
   have HO4:=Lib.hid (ownsRow_below HOW.out q4)
   clear q4
   by_cases hb:a<4096
   ·have eb:¬(4096:Int)≤(a:Int):=by omega
    have hbn:∀x,x<k+1→numA s x<4096:=fun x hx=>by
     by_cases he:x=k
     ·subst he;rw[hna];exact hb
     ·exact HBN.out x (by omega)
    have HBN2:=Lib.hid hbn
    have hc1:∀u∈#[Value.int .i64 (a:Nat)].toList,u.oneCell'=true:=by intro u hu;simp at hu;rw[hu];rfl
    have hc2:(k+1)*8≤140737488355328:=by omega
    have HC3:=Lib.hid hc1;have HC4:=Lib.hid hc2
    have hb0:w3.heap.size≤w4.heap.size:=HQ4.out.size
    clear hc1 hc2 hbn hna hx hto hlo
    go_wp2_with (at_builtin;refine wpList_app w4 (by rfl) _ _ 135 (by rfl) w3.heap.size 3 _ i1 (.int .i64 0) 1 8 Tryz.underlying135 hi1 hy0 hy1 hy2 rfl (by decide) (by decide) _ _ _ (by rfl) HO4.out #[.int .i64 (a:Nat)] (by rfl) rfl HC3.out HC4.out hb0 ?_)
    intro g11 cap11 w11 hr11 hg11 ho11 hlt11 hlt11b
    have hq21:Q w3 w11:=grown_below HQ4.out HO4.out hg11 (Nat.le_refl _) hb0
    have hr11':w11.ownsRow w3.heap.size 3 1 (.slice (some ⟨g11,0,none⟩) (k+1) cap11) (k+1) (intVs (numsK s (k+1))):=by
     rw[HST.out,show intVs (numsK s k++[a])=intVs (numsK s k)++[.int .i64 (a:Nat)] by simp[intVs]];exact hr11
    have HQ11:=Lib.hid hq21;have HR11:=Lib.hid hr11'
    clear hr11 hg11 ho11 hlt11 hlt11b hr11' hq21
    go_wp2_with fail
    go_roundw
    case rel=>exact⟨k+1,by go_num,by omega,HR11,HQ11,HBN2⟩
    case measure=>simp[intOf];omega
   ·have eb:(4096:Int)≤(a:Int):=by omega
    have hno:=HBK.out hb
    have HNO:=Lib.hid hno
    clear hno hb hna
    go_wp2_with fail
    go_ret3
    exact .inl ⟨HNO.out,rfl,HQ3.out.trans HQ4.out⟩
  ·have hki:¬(k:Int)<(n:Int):=by omega
   obtain rfl:k=n:=by omega
   have hrs:∀i,16+4*k≤i→i<248→byteN s i≠0→toHeadL s=none:=fun i h1 h2 h3=>HREST.out hn2 i h1 h2 h3
   have HRS:=Lib.hid hrs
   clear hrs
   go_wp2_with fail
   go_loopw [19] (fun v wr2=>∃i:Nat,v=.int .i64 (i:Nat)∧16+4*k≤i∧i≤248∧Hid (wr=wr2)∧Hid (∀x,16+4*k≤x→x<i→byteN s x=0)) (fun v _=>248-(intOf v).toNat)
   case atStart=>exact⟨16+4*k,by go_num,Nat.le_refl _,by omega,Lib.hid rfl,Lib.hid (fun x h1 h2=>by omega)⟩
   case round =>
    obtain⟨i,rfl,hi1',hi2,HW,HZ⟩:=hrel
    obtain rfl:=HW.out
    by_cases hlt2:i<248
    ·have hki2:(i:Int)<248:=by omega
     have hil:i<s.length:=by have:=HL.out;omega
     have hil2:(i:Int)<(s.length:Int):=by omega
     have hby:=byteF s i hil
     by_cases hz:byteN s i=0
     ·have ez:(((byteN s i:Nat):Int)==0)=true:=beq_iff_eq.2 (by omega)
      have ez2:(((byteN s i:Nat):Int) != 0)=false:=by rw[bne,ez];rfl
      have hzn:∀x,16+4*k≤x→x<i+1→byteN s x=0:=fun x h1 h2=>by
       by_cases he:x=i
       ·rw[he];exact hz
       ·exact HZ.out x h1 (by omega)
      have HZ2:=Lib.hid hzn
      clear hzn hz
      go_wp2_with fail
      go_roundw
      case rel=>exact⟨i+1,by go_num,by omega,by omega,Lib.hid (by first|rfl|trivial),HZ2⟩
      case measure=>simp[intOf];omega
     ·have ez:(((byteN s i:Nat):Int)==0)=false:=beq_eq_false_iff_ne.2 (by omega)
      have ez2:(((byteN s i:Nat):Int) != 0)=true:=by rw[bne,ez];rfl
      have hno:=HRS.out i hi1' hlt2 hz
      have HNO:=Lib.hid hno
      clear hno hz
      go_wp2_with fail
      go_ret3
      exact .inl ⟨HNO.out,rfl,HQ3.out.trans HQ.out⟩
    ·have hki2:¬(i:Int)<248:=by omega
     obtain rfl:i=248:=by omega
     have hgd:=HGOOD.out hn1 hn2 HBN.out HZ.out
     have HGD:=Lib.hid hgd
     have hrow:=owns_low (base':=w.heap.size) HOW.out HQ3.out.size
     have HROW:=Lib.hid hrow
     have hseq:(v8:Int)*4294967296+(v4:Int)=((v8*4294967296+v4:Nat):Int):=by omega
     have HSEQ:=Lib.hid hseq
     clear hgd hrow hseq
     go_wp2_with fail
     go_ret3
     exact .inr ⟨_,_,_,HGD.out,by rw[numsK_len];exact hn2,by rw[←HSEQ.out];rfl,by rw[numsK_len];exact HROW.out,HQ3.out.trans HQ.out⟩
theorem tinfoStr1:(Tryz.prog.info? 9).map (fun i=>(i.zero,i.size,i.bytes))=some (some (strV []),1,16):=by kernel_rfl
theorem Disk_any(w:World)(F:Nat→Prop)(b:Nat)(d:DevL)(h:DevAt w F b d)(hm:d.l.length≤4096):
  Calls Tryz.prog 14 #[ptrV b] w fun e w'=>∃v',e=.returned v'∧w'.ownsRow w.heap.size 9 1 v' d.l.length (d.l.map strV)∧Q w w':=by
 obtain⟨g,cap,pv,h⟩:=h
 obtain⟨c0,c1,c2,c3,_⟩:=h.box.c4
 obtain⟨i0,hi,hz0,hz1,hz2⟩:=info_parts tinfoStr1
 have hcl:=Tryz.slices_Clone_string g 0 d.l.length cap (d.l.map fun s=>⟨s.toArray⟩) w (by simp) (by omega) (fun j hj=>by
  rw[Nat.zero_add]
  have hj':j<d.l.length:=by simpa using hj
  have:=h.disk.cell j (strV d.l[j]) (strCs_at d.l j hj')
  rw[this]
  simp[List.getD_eq_getElem?_getD,hj'])
 have hzs:((d.l.map fun s=>(⟨s.toArray⟩:ByteArray)).take d.l.length).map Value.string=d.l.map strV:=by
  rw[List.take_of_length_le (by simp),List.map_map];rfl
 rw[hzs] at hcl
 have HCL:=Lib.hid hcl
 clear hcl h hzs
 go_enter Tryz.func14,Tryz.ntmps14
 go_wp2_with fail
 refine HCL.out.mono ?_
 rintro e w1 ⟨v',rfl,ho,_,hq⟩
 have HO:=Lib.hid ho;have HQ:=Lib.hid hq
 clear ho hq
 go_wp2_with fail
 go_ret
 exact⟨_,rfl,HO.out,HQ.out⟩
theorem Q.turned'{A B C:World}{own:Nat→Prop}(q:Q A B)(t:Turn own B C)(ho:∀k,own k→A.heap.size≤k):Q A C :=
 ⟨t.os.trans q.os,t.tape.trans q.tape,t.output.trans q.output,Nat.le_trans q.size t.size,fun k hk=>(t.block k (Nat.lt_of_lt_of_le hk q.size) (fun e=>by have:=ho k e;omega)).trans (q.block k hk)⟩
theorem own_litR(w:World)(e:TypeId)(size:Nat)(cs:Array Value)(h:cs.size=size)(hs:size≤1000):(w.alloc (.cells cs e)).ownsRow w.heap.size e size (.slice (some ⟨w.heap.size,0,none⟩) 1 1) 1 cs.toList :=
 ⟨by simp[h],.inr ⟨w.heap.size,1,cs,rfl,Nat.le_refl _,heap_alloc_new _ _,by simp[h],by unfold maxLen;omega,by simpa using h,by simpa using List.take_of_length_le (l:=cs.toList) (i:=size) (by simp[h])⟩⟩
def dataK(ws:List WrL)(k:Nat):Bytes:=((ws.take k).map (·.2)).flatten
theorem dataK_succ(ws:List WrL)(k:Nat)(h:k<ws.length):dataK ws (k+1)=dataK ws k++ws[k].2:=by
 unfold dataK
 rw[List.take_succ_eq_append_getElem h,List.map_append,List.flatten_append]
 simp
theorem dataK_len(ws:List WrL)(k:Nat)(hw:∀x∈ws,x.2.length=256)(h:k≤ws.length):(dataK ws k).length=256*k:=by
 induction k with
 | zero=>rfl
 | succ k ih=>rw[dataK_succ ws k (by omega),List.length_append,ih (by omega),hw _ (List.getElem_mem _)];omega
def packK(seq:Nat)(ws:List WrL)(k:Nat):List Bytes:=headL seq ws::(ws.take k).map (·.2)
theorem packK_succ(seq:Nat)(ws:List WrL)(k:Nat)(h:k<ws.length):packK seq ws (k+1)=packK seq ws k++[ws[k].2]:=by
 unfold packK
 rw[List.take_succ_eq_append_getElem h,List.map_append];rfl
theorem RPack_any(w:World)(seq:Nat)(hs:seq<18446744073709551616)(lv:Value)(ws:List WrL)(hl:Sl w lv ws.length 2 (wrVs ws))(hw:WrOk ws):
  Calls Tryz.prog 124 #[.int .u64 (seq:Nat),lv] w fun e w'=>∃v,e=.returned (.tuple #[v,.int .i64 0])∧w'.ownsRow w.heap.size 9 1 v (ws.length+1) ((packL seq ws).map strV)∧Q w w':=by
 obtain⟨w1,w2,w3⟩:=hw
 have hhd:=fun (W:World) (q:Q w W)=>RHead_any W seq hs lv ws (hl.stays q) w2 (fun x hx=>(w3 x hx).1)
 obtain⟨la,lc,rfl,hlc⟩:=hl.value
 have hcell:∀k (hk:k<ws.length),∃lb lo,la=some ⟨lb,lo,none⟩∧w.cell? ⟨lb,lo+k*2,none⟩=some (.int .i64 (ws[k].1:Nat))∧w.cell? ⟨lb,lo+k*2+1,none⟩=some (strV ws[k].2)∧ws[k].1<4096∧ws[k].2.length=256:=fun k hk=>by
  obtain⟨lb,lo,h1,h4⟩:=hlc (by omega)
  exact⟨lb,lo,h1,h4 _ _ (wrVs_at ws k hk).1,by have:=h4 _ _ (wrVs_at ws k hk).2;rwa [←Nat.add_assoc] at this,w3 _ (List.getElem_mem hk)⟩
 have cf:=fun (v:Nat) (hv:v<4294967296) (W:World)=>RFixed_any v W hv
 have cc:=fun (s:Bytes) (hs:s.length≤1000000) (W:World)=>RCrc_any s W (by omega)
 have hdl:=dataK_len ws
 have hdata:=fun k hk=>dataK_len ws k (fun x hx=>(w3 x hx).2) hk
 have hbl:=bodyL_length seq ws w2
 have hcrc:=crcL_lt (bodyL seq ws++dataK ws ws.length)
 have hpk:headL seq ws=bodyL seq ws++(fixedL (crcL (bodyL seq ws++dataK ws ws.length))++endT):=by unfold headL dataK dataL;rw[List.take_length]
 have hpl:packL seq ws=packK seq ws ws.length:=by unfold packL packK;rw[List.take_length]
 obtain⟨i1,hi1,hy0,hy1,hy2⟩:=info_parts tinfoStr1
 have HHD:=Lib.hid hhd;have HC:=Lib.hid hcell;have CF:=Lib.hid cf;have CC:=Lib.hid cc;have HDT:=Lib.hid hdata;have HPK:=Lib.hid hpk;have HPL:=Lib.hid hpl;have HCRC:=Lib.hid hcrc
 clear hhd hcell cf cc hlc hl hdata hpk hpl w3 hs hcrc hdl
 have e0:((ws.length:Int)==0)=false:=beq_eq_false_iff_ne.2 (by omega)
 have e1:¬(48:Int)<(ws.length:Int):=by omega
 go_enter Tryz.func124,Tryz.ntmps124
 go_wp2_with fail
 go_loopw [6,7] (fun tv v wr=>∃k:Nat,v=.int .i64 (k:Nat)∧k≤ws.length∧tv=strV (dataK ws k)∧Hid (w=wr)) (fun _ v _=>ws.length-(intOf v).toNat)
 case atStart=>exact⟨0,rfl,Nat.zero_le _,rfl,Lib.hid rfl⟩
 case round =>
  obtain⟨k,rfl,hk,rfl,HQ⟩:=hrel
  have hdk:=HDT.out k hk
  by_cases hlt:k<ws.length
  ·have hki:(k:Int)<(ws.length:Int):=by omega
   obtain⟨lb,lo,rfl,x1,x2,hx1,hx2⟩:=HC.out k hlt
   obtain rfl:=HQ.out
   have hst:=dataK_succ ws k hlt
   have HST:=Lib.hid hst
   clear hst
   generalize ws[k].1=bk at *
   generalize hdk2:ws[k].2=dk at *
   have hxl:((dk.length:Int) != 256)=false:=by rw[bne,beq_iff_eq.2 (by omega)];rfl
   have hxl2:(!((dk.length:Int)==256))=false:=by rw[beq_iff_eq.2 (by omega)];rfl
   have hg1:¬(bk:Int)<0:=by omega
   have hg2:¬(4096:Int)≤(bk:Int):=by omega
   have hl1:(dataK ws k).length≤100000:=by omega
   have hl2:dk.length≤1000:=by omega
   clear hdk hx2 hdk2
   generalize dataK ws k=da at *
   go_wp2_with fail
   go_roundw
   case rel=>exact⟨k+1,by go_num,by omega,by rw[HST.out];simp only[bytes_append],Lib.hid (by first|rfl|trivial)⟩
   case measure=>simp[intOf];omega
  ·have hki:¬(k:Int)<(ws.length:Int):=by omega
   obtain rfl:k=ws.length:=by omega
   obtain rfl:=HQ.out
   have hl1:(dataK ws ws.length).length≤100000:=by omega
   have hl3:(bodyL seq ws).length≤1000:=by omega
   have hcl:(bodyL seq ws++dataK ws ws.length).length≤1000000:=by rw[List.length_append];omega
   have hcc:=CC.out _ hcl
   have hcf:=CF.out _ HCRC.out
   have hl4:=length_fixedL (crcL (bodyL seq ws++dataK ws ws.length))
   clear hdk hcl
   generalize dataK ws ws.length=da at *
   generalize bodyL seq ws=bd at *
   generalize crcL (bd++da)=cr at *
   generalize fixedL cr=fx at *
   have HCC:=Lib.hid hcc;have HCF:=Lib.hid hcf
   clear hcc hcf
   go_wp2_with fail
   refine(HHD.out _ (Q.refl _)).mono ?_
   rintro e w4 ⟨rfl,q4⟩
   have HQ4:=Lib.hid q4
   clear q4
   go_wp2_with fail
   rw[bytes_append]
   refine(HCC.out _).mono ?_
   rintro e w5 ⟨rfl,rfl⟩
   go_wp2_with fail
   refine(HCF.out _).mono ?_
   rintro e w6 ⟨rfl,q6⟩
   have HQ6:=Lib.hid (HQ4.out.trans q6)
   clear q6
   go_upto_region 14 with fail
   have hem:(#[67,68,88,69]:Array UInt8)=endT.toArray:=rfl
   simp only[hem,bytes_append]
   have hse:bd++fx++endT=headL seq ws:=by rw[HPK.out,List.append_assoc]
   rw[hse]
   have hk0:packK seq ws 0=[headL seq ws]:=by unfold packK;simp
   generalize headL seq ws=hd at *
   have hro:=own_litR w6 9 1 #[strV hd] rfl (by decide)
   have hq7:Q w (w6.alloc (.cells #[strV hd] 9)):=HQ6.out.trans (Q.alloc _ _)
   have hz7:w6.heap.size≤(w6.alloc (.cells #[strV hd] 9)).heap.size:=by simp
   generalize w6.alloc (.cells #[strV hd] 9)=w7 at *
   have hrow:w7.ownsRow w6.heap.size 9 1 (.slice (some ⟨w6.heap.size,0,none⟩) 1 1) (0+1) ((packK seq ws 0).map strV):=by rw[hk0];exact hro
   have HROW:=Lib.hid hrow;have HQ7:=Lib.hid hq7;have HZ7:=Lib.hid hz7
   clear hro hrow hq7 hk0 hse hem hz7
   have e4:ws.length=ws.length:=rfl
   clear e4 hl1 hl3 hl4 hbl
   go_wp2_with fail
   go_loopw [9,10] (fun v i wr=>∃k:Nat,i=.int .i64 (k:Nat)∧k≤ws.length∧Hid (wr.ownsRow w6.heap.size 9 1 v (k+1) ((packK seq ws k).map strV))∧Hid (Q w wr)∧Hid (w6.heap.size≤wr.heap.size)) (fun _ i _=>ws.length-(intOf i).toNat)
   case atStart=>exact⟨0,rfl,Nat.zero_le _,HROW,HQ7,HZ7⟩
   case round =>
    obtain⟨k,rfl,hk,HOW,HQ2,HZ2⟩:=hrel
    by_cases hlt:k<ws.length
    ·have hki:(k:Int)<(ws.length:Int):=by omega
     obtain⟨lb,lo,rfl,-,x2,-,-⟩:=HC.out k hlt
     have y2:=cellQ HQ2.out x2
     have hst:=packK_succ seq ws k hlt
     have HST:=Lib.hid hst
     clear hst x2
     generalize ws[k].2=dk at *
     have hc1:∀u∈#[strV dk].toList,u.oneCell'=true:=by intro u hu;simp at hu;rw[hu];rfl
     have hc2:(k+1+1)*16≤140737488355328:=by omega
     have HC3:=Lib.hid hc1;have HC4:=Lib.hid hc2
     have hb0:w6.heap.size≤wr.heap.size:=HZ2.out
     clear hc1 hc2
     go_wp2_with (at_builtin;refine wpList_app wr (by rfl) _ _ 47 (by rfl) w6.heap.size 9 _ i1 (strV []) 1 16 Tryz.underlying47 hi1 hy0 hy1 hy2 rfl (by decide) (by decide) _ _ _ (by rfl) HOW.out #[strV dk] (by rfl) rfl HC3.out HC4.out hb0 ?_)
     intro g11 cap11 w11 hr11 hg11 ho11 hlt11 hlt11b
     have hq21:Q w w11:=Q.turned' HQ2.out (own:=fun g=>w6.heap.size≤g) ⟨hg11.os,hg11.tape,hg11.output,hg11.size,fun g h1 h2=>hg11.block g h1 (fun e=>h2 (HOW.out.lt g e.symm).1)⟩ (fun g hg=>by have:=HQ6.out.size;omega)
     have hr11':w11.ownsRow w6.heap.size 9 1 (.slice (some ⟨g11,0,none⟩) (k+1+1) cap11) (k+1+1) ((packK seq ws (k+1)).map strV):=by
      rw[HST.out,List.map_append];exact hr11
     have HQ11:=Lib.hid hq21;have HR11:=Lib.hid hr11';have HZ11:=Lib.hid (Nat.le_trans HZ2.out hg11.size)
     clear hr11 hg11 ho11 hlt11 hlt11b hr11' hq21
     go_wp2_with fail
     go_roundw
     case rel=>exact⟨k+1,by go_num,by omega,HR11,HQ11,HZ11⟩
     case measure=>simp[intOf];omega
    ·have hki:¬(k:Int)<(ws.length:Int):=by omega
     obtain rfl:k=ws.length:=by omega
     have hfin:=owns_low (base':=w.heap.size) HOW.out HQ6.out.size
     rw[←HPL.out] at hfin
     have HFIN:=Lib.hid hfin
     clear hfin
     go_wp2_with fail
     go_ret2
     exact⟨_,rfl,HFIN.out,HQ2.out⟩
theorem wr_app(W0:World){w:World}{ops:Array Oper}{o:Oper}{a:Act}{K:Act→World→Prop}{Qx:Exit→Act→World→Prop}{E:Prop}(hgd:o.guard=none)(s x:Operand)
  (ho:o.op=.call { callee:=.builtin .append,args:=#[s,x],argTypes:=#[49,49] })
  (v:Value) (n:Nat) (xs:List WrL) (hs:a.eval s=v) (hown:w.ownsRow W0.heap.size 102 2 v n (wrVs xs)) (hq:Q W0 w)
  (vx:Value) (m:Nat) (ys:List WrL) (hx:a.eval x=vx) (hl:Sl w vx m 2 (wrVs ys)) (hnm:n+m≤1000000000) (hone:∀u∈wrVs ys,u.oneCell'=true)
  (h:∀v' w',w'.ownsRow W0.heap.size 102 2 v' (n+m) (wrVs (xs++ys))→Q W0 w'→K (a.put o.dst v') w') :
  if Region.wanted o (yielded ops a.tmps)=true then Oper.wp Tryz.prog o a w K Qx else E:=by
 obtain⟨i0,hi,hz0,hz1,hz2⟩:=info_parts tinfoWr
 have hw:Region.wanted o (yielded ops a.tmps)=true:=by simp[Region.wanted,hgd]
 rw[if_pos hw]
 refine wp_append_sl w s x 49 ho W0.heap.size 102 i0 (.agg #[.int .i64 0,strV []]) 2 24 Tryz.underlying49 hi hz0 hz1 hz2 rfl (by decide) v n (wrVs xs) hs hown vx m (wrVs ys) hx hl hone (by unfold maxLen;omega) (by omega) hq.size ?_
 ·intro v' w' h2 h3 _
  exact h v' w' (by rw[wrVs_append];exact h2) (grown_below hq hown h3 (Nat.le_refl _) hq.size)
theorem wr_lit(w:World)(x:Nat)(y:Bytes):Sl (w.alloc (.cells #[.int .i64 (x:Nat),strV y] 102)) (.slice (some ⟨w.heap.size,0,none⟩) 1 1) 1 2 (wrVs [(x,y)]) :=
 Sl.lit w #[.int .i64 (x:Nat),strV y] 102 1 2 rfl
theorem wr_one(x:Nat)(y:Bytes):∀u∈wrVs [(x,y)],u.oneCell'=true:=by
 intro u hu
 simp[wrVs,encW] at hu
 rcases hu with rfl|rfl<;>rfl
def UnpackEnd(ls:List Bytes)(w:World)(e:Ending)(w':World):Prop :=
 (∃a v x,e=.returned (.tuple #[a,v,.int .i64 x])∧(unpackL ls=none→x≠0)∧∀seq ws,unpackL ls=some (seq,ws)→x=0∧a=.int .u64 (seq:Nat)∧w'.ownsRow w.heap.size 102 2 v ws.length (wrVs ws))∧Q w w'
theorem RUnpack_any(w:World)(base:Nat)(lv:Value)(ls:List Bytes)(h:w.ownsRow base 9 1 lv ls.length (ls.map strV))(hn:ls.length≤49)(hl:∀s∈ls,s.length=256):
  Calls Tryz.prog 156 #[lv] w fun e w'=>UnpackEnd ls w e w':=by
 obtain⟨la,lc,rfl,hla⟩:=owns_value h
 have hsl:=Sl.of_owns h
 cases ls with
 | nil =>
  go_enter Tryz.func156,Tryz.ntmps156
  go_wp2_with fail
  go_ret3
  exact⟨⟨_,_,_,rfl,fun _=>by decide,fun _ _ hc=>by simp[unpackL] at hc⟩,Q.refl _⟩
 | cons b rest =>
  obtain⟨lb,rfl⟩:=hla (by simp)
  have hcells:∀k (hk:k<(b::rest).length),w.cell? ⟨lb,k,none⟩=some (strV ((b::rest).getD k [])):=fun k hk=>owns_cells hsl (by simp) k _ (strs_at _ k hk)
  have x0:=hcells 0 (by simp)
  simp only[List.getD_cons_zero] at x0
  have hb:=hl b (List.mem_cons_self ..)
  have cr:=RBlocks_any b hb
  rw[List.length_cons] at *
  have hun:unpackL (b::rest)=match toHeadL b with
   | none=>none
   | some (seq,at_)=>if rest.length<at_.length∨∃s∈rest.take at_.length,s.length≠256 then none
     else if fixedL (crcL (b.take 248++(rest.take at_.length).flatten))=(b.drop 248).take 4 then some (seq,at_.zip rest) else none:=rfl
  have hccc:=fun (s:Bytes) (hs:s.length≤1000000) (W:World)=>RCrc_any s W (by omega)
  have hcf:=fun (v:Nat) (hv:v<4294967296) (W:World)=>RFixed_any v W hv
  have CR:=Lib.hid cr;have HL:=Lib.hid hl;have HC:=Lib.hid hcells;have HUN:=Lib.hid hun;have HB:=Lib.hid hb;have CCC:=Lib.hid hccc;have CF:=Lib.hid hcf
  clear cr hl hcells hun hsl h hb hccc hcf
  have hne:((rest.length:Int)+1==0)=false:=beq_eq_false_iff_ne.2 (by omega)
  have hne2:(0:Int)<(rest.length:Int)+1:=by omega
  have hne3:¬((rest.length:Int)+1=0):=by omega
  go_enter Tryz.func156,Tryz.ntmps156
  go_wp2_with fail
  refine(CR.out w).mono ?_
  rintro e w1 (⟨hth,rfl,q1⟩|⟨seq,at_,v,hth,hal,rfl,hr,q1⟩)
  ·have hno:unpackL (b::rest)=none:=by rw[HUN.out,hth]
   have HNO:=Lib.hid hno;have HQ1:=Lib.hid q1
   clear hno hth q1
   go_wp2_with fail
   go_ret3
   exact⟨⟨_,_,_,rfl,fun _=>by decide,fun _ _ hc=>by rw[HNO.out] at hc;exact absurd hc (by simp)⟩,HQ1.out⟩
  ·obtain⟨pa,pc,rfl,hpa⟩:=owns_value hr
   have hun:=HUN.out
   rw[hth] at hun
   simp only at hun
   have HUN2:=Lib.hid hun;have HR:=Lib.hid hr;have HQ1:=Lib.hid q1;have HTH:=Lib.hid hth
   clear hun hr q1 hth HUN
   by_cases hlen:rest.length<at_.length
   ·have hh:(rest.length:Int)+1≤(at_.length:Int):=by omega
    have hno:unpackL (b::rest)=none:=by rw[HUN2.out,if_pos (.inl hlen)]
    have HNO:=Lib.hid hno
    clear hno hlen
    go_wp2_with fail
    go_ret3
    exact⟨⟨_,_,_,rfl,fun _=>by decide,fun _ _ hc=>by rw[HNO.out] at hc;exact absurd hc (by simp)⟩,HQ1.out⟩
   ·have hh:¬(rest.length:Int)+1≤(at_.length:Int):=by omega
    have hcv:∀k,k<at_.length→∃ga,pa=some ⟨ga,0,none⟩∧w1.cell? ⟨ga,k,none⟩=some (.int .i64 (at_.getD k 0:Nat)):=fun k hk=>by
     obtain⟨ga,rfl⟩:=hpa (by omega)
     exact⟨_,rfl,owns_cells (Sl.of_owns HR.out) (by omega) k _ (intVs_at at_ k hk)⟩
    have hcd:∀k,k<at_.length→w1.cell? ⟨lb,1+k,none⟩=some (strV (rest.getD k []))∧(rest.getD k []).length=256:=fun k hk=>by
     have h1:=HC.out (k+1) (by omega)
     rw[List.getD_cons_succ,Nat.add_comm] at h1
     refine⟨cellQ HQ1.out h1,?_⟩
     rw[List.getD_eq_getElem?_getD,List.getElem?_eq_getElem (by omega:k<rest.length)]
     exact HL.out _ (List.mem_cons_of_mem _ (List.getElem_mem _))
    have hzs:∀k,k<at_.length→(at_.zip rest).take (k+1)=(at_.zip rest).take k++[(at_.getD k 0,rest.getD k [])]∧(rest.take (k+1)).flatten=(rest.take k).flatten++rest.getD k []:=fun k hk=>by
     have h3:k<(at_.zip rest).length:=by rw[List.length_zip];omega
     have h4:k<rest.length:=by omega
     constructor
     ·rw[List.take_succ_eq_append_getElem h3,List.getElem_zip,List.getD_eq_getElem?_getD,List.getD_eq_getElem?_getD,List.getElem?_eq_getElem hk,List.getElem?_eq_getElem h4]
      rfl
     ·rw[List.take_succ_eq_append_getElem h4,List.flatten_append,List.getD_eq_getElem?_getD,List.getElem?_eq_getElem h4]
      simp
    have hfl:∀k,k≤at_.length→(rest.take k).flatten.length=256*k:=fun k hk=>by
     induction k with
     | zero=>rfl
     | succ k ih=>rw[(hzs k (by omega)).2,List.length_append,ih (by omega),(hcd k (by omega)).2];omega
    have HCV:=Lib.hid hcv;have HCD:=Lib.hid hcd;have HZS:=Lib.hid hzs;have HFL:=Lib.hid hfl
    clear hcv hcd hzs hfl
    go_wp2_with fail
    go_loopw [8,9,10] (fun tv ov i wr=>∃k:Nat,i=.int .i64 (k:Nat)∧k≤at_.length∧tv=strV (rest.take k).flatten∧Hid (wr.ownsRow w1.heap.size 102 2 ov k (wrVs ((at_.zip rest).take k)))∧Hid (Q w1 wr)) (fun _ _ i _=>at_.length-(intOf i).toNat)
    case atStart=>exact⟨0,rfl,Nat.zero_le _,rfl,World.ownsRow_nil _ _ _ _,Lib.hid (Q.refl _)⟩
    case round =>
     obtain⟨k,rfl,hk,rfl,HOW,HQ2⟩:=hrel
     have hfk:=HFL.out k hk
     by_cases hlt:k<at_.length
     ·have hki:(k:Int)<(at_.length:Int):=by omega
      have hki2:1+(k:Int)<(rest.length:Int)+1:=by omega
      have hki3:(0:Int)≤1+(k:Int):=by omega
      have htn:(1+(k:Int)).toNat=1+k:=by omega
      have hwk:IntKind.i64.wrap (1+(k:Int))=1+(k:Int):=IntWalk.i64_in _ (by omega)
      obtain⟨ga,rfl,x1⟩:=HCV.out k hlt
      obtain⟨x2,hd256⟩:=HCD.out k hlt
      have y1:=cellQ HQ2.out x1;have y2:=cellQ HQ2.out x2
      have hzs:=HZS.out k hlt
      have HZ:=Lib.hid hzs
      clear hzs x1 x2
      generalize at_.getD k 0=bk at *
      generalize rest.getD k []=dk at *
      have hd2:((dk.length:Int) != 256)=false:=by rw[bne,beq_iff_eq.2 (by omega)];rfl
      have hd3:((dk.length:Int)==256)=true:=beq_iff_eq.2 (by omega)
      have hd4:dk.length≤1000:=by omega
      have hf2:(rest.take k).flatten.length≤100000:=by omega
      clear hd256 hfk
      generalize (rest.take k).flatten=fk at *
      generalize (at_.zip rest).take k=zk at *
      have HKB:=Lib.hid (show k+1≤1000000000 by omega)
      go_wp2_with fail
      go_region_law
       (first
        | (refine wr_app w1 (by rfl) _ _ (by rfl) _ k zk (by rfl) (ownsRow_below HOW.out (by first|exact Q.alloc _ _|exact Qs.dr (Q.alloc _ _)|exact Qs.al (Q.drew _) _)) (HQ2.out.trans (by first|exact Q.alloc _ _|exact Qs.dr (Q.alloc _ _)|exact Qs.al (Q.drew _) _)) _ 1 [(bk,dk)] (by rfl) (by first|exact wr_lit wr bk dk|exact(wr_lit wr bk dk).stays (Q.drew _)) HKB.out (wr_one bk dk) ?_;intro v7 w7 h7 q7;have H7:=Lib.hid h7;have Q7:=Lib.hid q7;clear h7 q7))
      all_goals
       have h7:w7.ownsRow w1.heap.size 102 2 v7 (k+1) (wrVs ((at_.zip rest).take (k+1))):=by rw[HZ.out.1];exact H7.out
       have HR7:=Lib.hid h7
       clear h7 hwk htn hki2 hki3 y1 y2
       go_simp
       go_wp2_with fail
       go_roundw
       case rel=>exact⟨k+1,by go_num,by omega,by rw[HZ.out.2];simp only[bytes_append],HR7,Q7⟩
       case measure=>simp[intOf];omega
     ·have hki:¬(k:Int)<(at_.length:Int):=by omega
      obtain rfl:k=at_.length:=by omega
      have y0:=cellQ (HQ1.out.trans HQ2.out) x0
      have hun:unpackL (b::rest)=if fixedL (crcL (b.take 248++(rest.take at_.length).flatten))=(b.drop 248).take 4 then some (seq,at_.zip rest) else none:=by
       rw[HUN2.out,if_neg]
       rintro(hc|⟨q,hq,hne2⟩)
       ·exact hlen hc
       ·exact hne2 (HL.out q (List.mem_cons_of_mem _ (List.mem_of_mem_take hq)))
      have hzt:(at_.zip rest).take at_.length=at_.zip rest:=List.take_of_length_le (by rw[List.length_zip];omega)
      have hzl:(at_.zip rest).length=at_.length:=by rw[List.length_zip];omega
      have hrow:wr.ownsRow w.heap.size 102 2 u9 (at_.zip rest).length (wrVs (at_.zip rest)):=by
       have:=HOW.out
       rw[hzt] at this
       rw[hzl]
       exact owns_low this HQ1.out.size
      have hf2:(rest.take at_.length).flatten.length≤100000:=by omega
      have hbl:=HB.out
      have hcl:(b.take 248++(rest.take at_.length).flatten).length≤1000000:=by rw[List.length_append,List.length_take];omega
      have hcc:=CCC.out _ hcl
      have hlt':=crcL_lt (b.take 248++(rest.take at_.length).flatten)
      have hcf:=CF.out _ hlt'
      have hx1:({ data:=b.toArray }:ByteArray).extract 248 252=⟨((b.drop 248).take 4).toArray⟩:=bytes_extract b 248 252
      have hx2:({ data:=b.toArray }:ByteArray).extract 0 248=⟨(b.take 248).toArray⟩:=bytes_take b 248
      have hb1:(252:Int)≤(b.length:Int):=by omega
      have hb2:(248:Int)≤(b.length:Int):=by omega
      have hb3:(b.take 248).length≤1000:=by rw[List.length_take];omega
      have HUN3:=Lib.hid hun;have HROW:=Lib.hid hrow
      clear hun hzt hzl hrow hfk hcl hlt' hbl HFL HZS HCD HCV HUN2 HOW
      generalize (rest.take at_.length).flatten=fk at *
      generalize b.take 248=bt at *
      generalize (b.drop 248).take 4=bm at *
      generalize crcL (bt++fk)=cr at *
      generalize fixedL cr=fx at *
      have hsm:¬9223372036854775807<bt.length+fk.length:=by omega
      have hsm2:¬(9223372036854775807:Int)<(bt.length:Int)+(fk.length:Int):=by omega
      have HCC:=Lib.hid hcc;have HCF:=Lib.hid hcf
      have KK:=Lib.hid (Q.refl wr)
      clear hcc hcf
      go_wp2_with fail
      go_region_held3 (fun w'=>w'.cell? ⟨lb,0,none⟩=some (strV b))
       (first|exact y0|exact cellQ (by repeat (first|with_reducible exact KK.out|with_reducible exact Q.refl _|with_reducible apply Qs.dr|with_reducible apply Qs.al)) y0)
       (first
        | (go_at_call 158;rw[bytes_append];with_reducible refine(HCC.out _).mono ?_;rintro e w5 ⟨rfl,rfl⟩)
        | (go_at_call 123;with_reducible refine(HCF.out _).mono ?_;rintro e w6 ⟨rfl,q6⟩;have s':Q wr w6:=Q.trans (by repeat (first|with_reducible exact KK.out|with_reducible apply Qs.dr|with_reducible apply Qs.al)) q6;clear KK;have KK:=Lib.hid s';clear s' q6))
      all_goals
       have hq6:Q w w6:=HQ1.out.trans (HQ2.out.trans KK.out)
       have hrow6:=ownsRow_below HROW.out KK.out
       have HQ6:=Lib.hid hq6;have HR6:=Lib.hid hrow6
       clear hq6 hrow6
       by_cases hc:fx=bm
       ·have hu:=HUN3.out
        rw[if_pos hc] at hu
        have HU:=Lib.hid hu;have HCC':=Lib.hid hc.symm
        clear hu hc
        go_wp2_with fail
        all_goals first
         | (exfalso;rename_i hx;rw[beq_iff_eq.2 HCC'.out] at hx;exact absurd hx (by decide))
         | (go_ret3
            refine⟨⟨_,_,_,rfl,fun h=>by rw[HU.out] at h;exact absurd h (by simp),fun sq ws h=>?_⟩,HQ6.out⟩
            rw[HU.out] at h
            simp only[Option.some.injEq,Prod.mk.injEq] at h
            obtain⟨rfl,rfl⟩:=h
            exact⟨rfl,rfl,HR6.out⟩)
       ·have hu:=HUN3.out
        rw[if_neg hc] at hu
        have HU:=Lib.hid hu;have HCC':=Lib.hid (Ne.symm hc)
        clear hu hc
        go_wp2_with fail
        all_goals first
         | (exfalso;rename_i hx;rw[beq_false_of_ne HCC'.out] at hx;exact absurd hx (by decide))
         | (go_ret3
            exact⟨⟨_,_,_,rfl,fun h=>by decide,fun sq ws h=>by rw[HU.out] at h;exact absurd h (by simp)⟩,HQ6.out⟩)
end
end Go.Proofs.YthcpkgfieoneeaaGreatDoor
