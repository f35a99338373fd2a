/- Joined texts of one proof: what is needed of WJrnG, WJrnH, WJrnK, WRef4e, WFrmB. -/
import Derived.Test.YthcpkgfieoneeaaGreatDoorJPWRef4b
import Derived.Test.YthcpkgfieoneeaaGreatDoorJPWFrmD
import Derived.Test.YthcpkgfieoneeaaGreatDoorJPJrn4
import Derived.Test.YthcpkgfieoneeaaGreatDoorJPWJrnB
import Derived.Test.YthcpkgfieoneeaaGreatDoorJPSto
import Derived.Test.YthcpkgfieoneeaaGreatDoorJPWRef4a
import Derived.Test.YthcpkgfieoneeaaGreatDoorJPKit
import Derived.Test.YthcpkgfieoneeaaGreatDoorJPShelf
set_option linter.unusedSimpArgs false
set_option linter.unusedVariables false
set_option linter.unnecessarySimpa false
set_option maxRecDepth 100000
set_option maxHeartbeats 16000000
namespace Go.Proofs.YthcpkgfieoneeaaGreatDoor
section
open Go.RowKit
theorem unpack_some{l:List Bytes}{seq:Nat}{ws:List WrL}(h:unpackL l=some (seq,ws)):ws.length≤48∧seq<18446744073709551616∧∀w∈ws,w.1<4096:=by
 cases l with
 | nil=>exact absurd h (by simp[unpackL])
 | cons b rest =>
  unfold unpackL at h
  simp only[] at h
  cases hh:toHeadL b with
  | none=>rw[hh] at h;exact absurd h (by simp)
  | some r =>
   obtain⟨sq,at_⟩:=r
   rw[hh] at h
   simp only[] at h
   obtain⟨_,_,_,h4,h5,h6⟩:=toHead_some hh
   split at h
   ·exact absurd h (by simp)
   ·split at h
    ·simp only[Option.some.injEq,Prod.mk.injEq] at h
     obtain⟨rfl,rfl⟩:=h
     refine⟨by rw[List.length_zip];omega,h6,fun w hw=>h5 _ (List.of_mem_zip hw).1⟩
    ·exact absurd h (by simp)
def JL.ahead(j:JL)(n:Nat):List Bytes:=(List.range n).map fun i=>j.d.get (j.place i)
theorem JL.ahead_length(j:JL)(n:Nat):(j.ahead n).length=n:=by simp[JL.ahead]
theorem JL.ahead_succ(j:JL)(n:Nat):j.ahead (n+1)=j.ahead n++[j.d.get (j.place n)]:=by simp[JL.ahead,List.range_succ]
theorem JFrame_any(w:World)(F:Nat→Prop)(p b:Nat)(j:JL)(h:JrnAt w F p b j)(hn:JNum j)(hlv:j.d.dead=false)(hll:2+j.s.log≤j.d.l.length)(hu:j.used≤j.s.log):
  Calls Tryz.prog 128 #[ptrV p] w fun e w'=>(∃v,e=.returned (.tuple #[v,.bool j.frame.isSome])∧∀ws,j.frame=some ws→w'.ownsRow w.heap.size 102 2 v ws.length (wrVs ws))∧Q w w':=by
 obtain⟨i0,hi,hz0,hz1,hz2⟩:=info_parts tinfoSt
 obtain⟨n,hnn⟩:∃n:Nat,n=min (j.s.log-j.used) 49:=⟨_,rfl⟩
 have hpl:∀k,2≤j.place k∧j.place k<j.d.l.length:=fun k=>by
  have:=logAt_lt j.s (j.used+k) hn.log
  unfold JL.place
  omega
 have hrd:∀k,j.d.read ((j.place k:Nat):Int)=(j.d.get (j.place k),0):=fun k=>by
  unfold DevL.read
  rw[DevL.chk_in hlv _ (hpl k).2,if_pos rfl]
  rfl
 have h256:∀s∈j.ahead n,s.length=256:=fun s hs=>by
  obtain⟨i,_,rfl⟩:=List.mem_map.1 hs
  exact DevL.get_len hn.ok _ (hpl i).2
 have hgl:∀k,(j.d.get (j.place k)).length=256:=fun k=>DevL.get_len hn.ok _ (hpl k).2
 have hfr:j.frame=match unpackL (j.ahead n) with
   | some (seq,ws)=>if seq=j.next∧∀w∈ws,j.home≤w.1∧w.1<j.d.l.length then some ws else none
   | none=>none:=by unfold JL.frame JL.ahead;rw[hnn];rfl
 have cpl:=fun (W:World) (hq:Q w W) (k:Nat) (hk:k≤1000000)=>Place_any W p b j k (h.keep hq).box hn.log hn.log2 hn.place hn.used hk
 have crd:=fun (W:World) (hq:Q w W) (k:Nat)=>Read_any W F b j.d (j.place k:Nat) (h.keep hq).dev hn.ok.max (fun hx=>by have:=hn.plen hx;omega)
 have chm:=fun (W:World) (hq:Q w W) (i:Int)=>HomeI_any W F p b j i (h.keep hq).box (h.keep hq).dev hn.log2
 have cun:=fun (W:World) (base:Nat) (lv:Value) (hv:W.ownsRow base 9 1 lv n ((j.ahead n).map strV))=>Unpack_any W base lv (j.ahead n) (by rw[j.ahead_length];exact hv) (by rw[j.ahead_length];omega) h256
 have has:=j.ahead_succ
 obtain⟨c0,c1,c2,c3,c4,c5,c6,c7⟩:=h.box.c8
 have CPL:=Lib.hid cpl;have CRD:=Lib.hid crd;have CHM:=Lib.hid chm;have CUN:=Lib.hid cun;have HAS:=Lib.hid has;have HFR:=Lib.hid hfr;have HRD:=Lib.hid hrd;have HGL:=Lib.hid hgl;have HH:=Lib.hid (And.intro h.box h.dev);have HN:=Lib.hid hn
 have hlog:=hn.log2;have hus:=hn.used
 have hwr:IntKind.i64.wrap ((j.s.log:Int)-(j.used:Int))=(j.s.log:Int)-(j.used:Int):=IntWalk.i64_in _ (by omega)
 have hn49:n≤49:=by omega
 have hni:(n:Int)=min ((j.s.log:Int)-(j.used:Int)) 49:=by omega
 clear cpl crd chm cun has hfr hrd hpl h256 hgl h hn hnn
 go_enter Tryz.func128,Tryz.ntmps128
 go_upto_region 2 with fail
 go_region
 all_goals
  go_wp2_with fail
  rw[←hni]
  have hq0:Q w w.drew:=Q.drew w
  have hown0:w.drew.ownsRow w.heap.size 9 1 (.slice none 0 0) 0 ((j.ahead 0).map strV):=World.ownsRow_nil _ _ _ _
  clear hwr hni
  go_loopw [4,24] (fun lv i wr=>∃k:Nat,i=.int .i64 (k:Nat)∧k≤n∧Hid (wr.ownsRow w.heap.size 9 1 lv k ((j.ahead k).map strV))∧Hid (Q w wr)) (fun _ i _=>n-(intOf i).toNat)
  case atStart=>exact⟨0,rfl,Nat.zero_le _,hown0,hq0⟩
  case round =>
   obtain⟨k,rfl,hk,HOW,HQ⟩:=hrel
   by_cases hlt:k<n
   ·have hki:(k:Int)<(n:Int):=by omega
    have x0:=cellQ HQ.out c0
    have hrk:=HRD.out k
    have hsk:=HAS.out k
    have hgk:=HGL.out k
    have hc:=CRD.out
    have CR2:=Lib.hid (fun (W:World) (hq:Q w W)=>hc W hq k)
    rw[hrk] at CR2
    have hcp:=CPL.out
    have CPK:=Lib.hid (fun (W:World) (hq:Q w W)=>hcp W hq k (by omega))
    have HS:=Lib.hid hsk
    have KK:=Lib.hid (Q.refl wr)
    clear hrk hsk hc hcp
    generalize j.place k=plk at *
    generalize j.d.get plk=gk at *
    go_upto_region 5 with fail
    go_region_held3 (fun w'=>w'.cell? ⟨p,0,none⟩=some (ptrV b))
     (first|exact x0|exact cellQ (by repeat (first|with_reducible exact KK.out|with_reducible exact Q.refl _|with_reducible apply Qs.dr|with_reducible apply Qs.al)) x0)
     (first
      | (go_at_call 109;with_reducible refine(CPK.out _ (HQ.out.trans (by repeat (first|with_reducible exact KK.out|with_reducible apply Qs.dr|with_reducible apply Qs.al)))).mono ?_;rintro e w5 ⟨rfl,q5⟩;have s':Q wr w5:=Q.trans (by repeat (first|with_reducible exact KK.out|with_reducible apply Qs.dr|with_reducible apply Qs.al)) q5;clear KK;have KK:=Lib.hid s';clear s' q5)
      | (go_at_call 84;with_reducible refine(CR2.out _ (HQ.out.trans (by repeat (first|with_reducible exact KK.out|with_reducible apply Qs.dr|with_reducible apply Qs.al)))).mono ?_;rintro e w6 ⟨rfl,q6⟩;have s':Q wr w6:=Q.trans (by repeat (first|with_reducible exact KK.out|with_reducible apply Qs.dr|with_reducible apply Qs.al)) q6;clear KK;have KK:=Lib.hid s';clear s' q6))
    all_goals
     have hr5:=ownsRow_below HOW.out KK.out
     have hq5:=HQ.out.trans KK.out
     have hc1:∀u∈#[strV gk].toList,u.oneCell'=true:=by intro u hu;simp at hu;subst hu;rfl
     have hc2:(k+1)*16≤140737488355328:=by omega
     have HR5:=Lib.hid hr5;have HQ5:=Lib.hid hq5;have HC1:=Lib.hid hc1;have HC2:=Lib.hid hc2
     clear hr5 hq5 hc1 hc2 x0
     go_wp2_with (at_builtin;refine wpList_app w6 (by rfl) _ _ 47 (by rfl) w.heap.size 9 _ i0 (strV []) 1 16 Tryz.underlying47 hi hz0 hz1 hz2 rfl (by decide) (by decide) _ _ _ (by rfl) HR5.out #[strV gk] (by rfl) rfl HC1.out HC2.out HQ5.out.size ?_)
     intro g cap w7 hr hg ho hlt1 hlt2
     have hq7:Q w w7:=grown_below HQ5.out HR5.out hg (Nat.le_refl _) HQ5.out.size
     have hr7:w7.ownsRow w.heap.size 9 1 (.slice (some ⟨g,0,none⟩) (k+1) cap) (k+1) ((j.ahead (k+1)).map strV):=by rw[HS.out,List.map_append];exact hr
     have HR7:=Lib.hid hr7;have HQ7:=Lib.hid hq7
     clear hr hg ho hr7 hq7
     go_wp2_with fail
     go_roundw
     case rel=>exact⟨k+1,by go_num,by omega,HR7,HQ7⟩
     case measure=>simp[intOf];omega
   ·have hki:¬(k:Int)<(n:Int):=by omega
    obtain rfl:k=n:=by omega
    have cun:=CUN.out wr w.heap.size u4 HOW.out
    have CU:=Lib.hid cun
    clear cun
    go_wp2_with fail
    refine CU.out.mono ?_
    rintro e w1 ⟨⟨a,v,x,rfl,hx1,hx2⟩,q1⟩
    have hq1:=HQ.out.trans q1
    have HQ1:=Lib.hid hq1
    clear q1 hq1
    cases hul:unpackL (j.ahead k) with
    | none =>
     have hx:=hx1 hul
     have hno:j.frame=none:=by rw[HFR.out,hul]
     have HNO:=Lib.hid hno
     have hxb:(!(x==0))=true:=by rw[beq_eq_false_iff_ne.2 hx];rfl
     clear hno hul hx1 hx2 CUN CU HFR
     go_wp2_with fail
     go_ret2
     exact⟨⟨_,by rw[HNO.out];rfl,fun ws h=>by rw[HNO.out] at h;exact absurd h (by simp)⟩,HQ1.out⟩
    | some r =>
     obtain⟨seq,ws⟩:=r
     obtain⟨rfl,rfl,hrow⟩:=hx2 seq ws hul
     have y6:=cellQ HQ1.out c6
     have hfr:=HFR.out
     rw[hul] at hfr
     simp only[] at hfr
     have hw48:=(unpack_some hul).1
     have HF2:=Lib.hid hfr;have HROW:=Lib.hid hrow
     clear hul hx1 hx2 CUN CU HFR hfr hrow
     by_cases hsq:seq=j.next
     ·have hsb:(!((seq:Int)==(j.next:Int)))=false:=by rw[beq_iff_eq.2 (by omega)];rfl
      obtain⟨pa,pc,rfl,hpa⟩:=owns_value HROW.out
      have hcell:∀k (hk:k<ws.length),∃g,pa=some ⟨g,0,none⟩∧w1.cell? ⟨g,k*2,none⟩=some (.int .i64 (ws[k].1:Nat))∧w1.cell? ⟨g,k*2+1,none⟩=some (strV ws[k].2):=fun k hk=>by
       obtain⟨g,rfl⟩:=hpa (by omega)
       have hs:=Sl.of_owns HROW.out
       exact⟨g,rfl,owns_cells hs (by omega) _ _ (wrVs_at ws k hk).1,owns_cells hs (by omega) _ _ (wrVs_at ws k hk).2⟩
      have HCE:=Lib.hid hcell
      clear hcell
      go_wp2_with fail
      go_loopw [61] (fun v w2=>∃m:Nat,v=.int .i64 (m:Nat)∧m≤ws.length∧Hid (∀i (hi:i<ws.length),i<m→j.home≤ws[i].1∧ws[i].1<j.d.l.length)∧Hid (Q w1 w2)) (fun v _=>ws.length-(intOf v).toNat)
      case atStart=>exact⟨0,rfl,Nat.zero_le _,Lib.hid (fun i hi h=>absurd h (by omega)),Lib.hid (Q.refl _)⟩
      case round =>
       obtain⟨m,rfl,hm,HAL,HQ2⟩:=hrel
       by_cases hltm:m<ws.length
       ·have hki:(m:Int)<(ws.length:Int):=by omega
        obtain⟨ga,rfl,x1,x2⟩:=HCE.out m hltm
        have y1:=cellQ HQ2.out x1;have y2:=cellQ HQ2.out x2
        have hqa:=Q.alloc wr (.cells #[.int .i64 (ws[m].1:Nat),strV ws[m].2] 102)
        have hmm:=CHM.out _ (HQ1.out.trans (HQ2.out.trans hqa)) (ws[m].1:Nat)
        by_cases hok:j.home≤ws[m].1∧ws[m].1<j.d.l.length
        ·have e1:decide ((j.home:Int)≤((ws[m].1:Nat):Int))=true:=decide_eq_true (by omega)
         have e2:decide (((ws[m].1:Nat):Int)<(j.d.l.length:Int))=true:=decide_eq_true (by omega)
         rw[e1,e2] at hmm
         have hal:∀i (hi:i<ws.length),i<m+1→j.home≤ws[i].1∧ws[i].1<j.d.l.length:=fun i hi h=>by
          by_cases him:i<m
          ·exact HAL.out i hi him
          ·obtain rfl:i=m:=by omega
           exact hok
         have HMM:=Lib.hid hmm;have HQA:=Lib.hid (HQ2.out.trans hqa);have HA2:=Lib.hid hal
         clear hmm hqa x1 x2 e1 e2 hok hal
         generalize ws[m].1=bk at *
         generalize ws[m].2=dk at *
         go_wp2_with fail
         refine HMM.out.mono ?_
         rintro e w3 ⟨rfl,rfl⟩
         go_wp2_with fail
         go_roundw
         case rel=>exact⟨m+1,by go_num,by omega,HA2,HQA⟩
         case measure=>simp[intOf];omega
        ·have e1:(decide ((j.home:Int)≤((ws[m].1:Nat):Int))&&decide (((ws[m].1:Nat):Int)<(j.d.l.length:Int)))=false:=by
          by_cases h1:j.home≤ws[m].1
          ·have h2:¬ws[m].1<j.d.l.length:=fun h=>hok ⟨h1,h⟩
           rw[decide_eq_false (p:=((ws[m].1:Nat):Int)<(j.d.l.length:Int)) (by omega),Bool.and_false]
          ·rw[decide_eq_false (p:=(j.home:Int)≤((ws[m].1:Nat):Int)) (by omega),Bool.false_and]
         rw[e1] at hmm
         have hno:j.frame=none:=by rw[HF2.out,if_neg (fun h=>hok (h.2 _ (List.getElem_mem hltm)))]
         have HNO:=Lib.hid hno
         have HMM:=Lib.hid hmm;have HQA:=Lib.hid (HQ1.out.trans (HQ2.out.trans hqa))
         clear hmm hqa x1 x2 e1 hok hno
         generalize ws[m].1=bk at *
         generalize ws[m].2=dk at *
         go_wp2_with fail
         refine HMM.out.mono ?_
         rintro e w3 ⟨rfl,rfl⟩
         go_wp2_with fail
         go_ret2
         exact⟨⟨_,by rw[HNO.out];rfl,fun ws h=>by rw[HNO.out] at h;exact absurd h (by simp)⟩,HQA.out⟩
       ·have hki:¬(m:Int)<(ws.length:Int):=by omega
        obtain rfl:m=ws.length:=by omega
        have hyes:j.frame=some ws:=by
         rw[HF2.out,if_pos ⟨hsq,fun x hx=>by obtain⟨i,hi,rfl⟩:=List.getElem_of_mem hx;exact HAL.out i hi hi⟩]
        have HY:=Lib.hid hyes
        have HQ3:=Lib.hid (HQ1.out.trans HQ2.out);have HR3:=Lib.hid (owns_low (ownsRow_below HROW.out HQ2.out) HQ.out.size)
        clear hyes
        go_wp2_with fail
        go_ret2
        exact⟨⟨_,by rw[HY.out];rfl,fun ws' h=>by rw[HY.out] at h;injection h with h;subst h;exact HR3.out⟩,HQ3.out⟩
     ·have hno:j.frame=none:=by rw[HF2.out,if_neg (fun h=>hsq h.1)]
      have HNO:=Lib.hid hno
      have hsb:(!((seq:Int)==(j.next:Int)))=true:=by rw[beq_eq_false_iff_ne.2 (by omega)];rfl
      clear hno HF2
      go_wp2_with fail
      go_ret2
      exact⟨⟨_,by rw[HNO.out];rfl,fun ws h=>by rw[HNO.out] at h;exact absurd h (by simp)⟩,HQ1.out⟩
def jbox(b:Nat):Option (SlotL×Nat)→Array Value
 | none=>#[ptrV b,.int .u64 0,.int .u64 0,.int .i64 0,.int .i64 0,.int .i64 (-1),.int .u64 0,.int .i64 0]
 | some (s,k)=>#[ptrV b,.int .u64 (s.e:Nat),.int .u64 (s.s:Nat),.int .i64 (s.log:Nat),.int .i64 (s.place:Nat),.int .i64 (k:Nat),.int .u64 0,.int .i64 0]
def pickI(d:DevL):Nat→Option (SlotL×Nat)
 | 0=>none
 | k+1=>match toSlotL (d.get k) d.l.length with
  | none=>pickI d k
  | some s=>match pickI d k with
   | none=>some (s,k)
   | some (r,i)=>if r.e<s.e then some (s,k) else some (r,i)
theorem pickI_two(d:DevL):pickI d 2=pickS (toSlotL (d.get 0) d.l.length) (toSlotL (d.get 1) d.l.length):=by
 have h1:pickI d 1=(toSlotL (d.get 0) d.l.length).map fun s=>(s,0):=by
  unfold pickI pickI
  cases toSlotL (d.get 0) d.l.length<;>rfl
 unfold pickI
 rw[h1]
 cases toSlotL (d.get 0) d.l.length<;>cases toSlotL (d.get 1) d.l.length<;>rfl
theorem pickI_some{d:DevL}{k:Nat}{s:SlotL}{i:Nat}(h:pickI d k=some (s,i)):i<k∧toSlotL (d.get i) d.l.length=some s:=by
 induction k with
 | zero=>cases h
 | succ k ih =>
  unfold pickI at h
  cases ht:toSlotL (d.get k) d.l.length with
  | none=>rw[ht] at h;obtain⟨h1,h2⟩:=ih h;exact⟨by omega,h2⟩
  | some r =>
   rw[ht] at h
   simp only[] at h
   cases hp:pickI d k with
   | none=>rw[hp] at h;simp only[Option.some.injEq,Prod.mk.injEq] at h;obtain⟨rfl,rfl⟩:=h;exact⟨by omega,ht⟩
   | some q =>
    obtain⟨q,i'⟩:=q
    rw[hp] at h
    simp only[] at h
    split at h
    ·simp only[Option.some.injEq,Prod.mk.injEq] at h;obtain⟨rfl,rfl⟩:=h;exact⟨by omega,ht⟩
    ·obtain⟨h1,h2⟩:=ih (hp.trans h);exact⟨by omega,h2⟩
theorem DevL.write_alive{d:DevL}{i:Int}{s:Bytes}(h:(d.write i s).2=0):(d.write i s).1.dead=d.dead:=by
 unfold DevL.write at h ⊢
 split
 ·rfl
 ·rename_i hc
  rw[if_neg hc] at h
  split
  ·rfl
  ·rename_i hs
   rw[if_neg hs] at h
   split
   ·rename_i hf
    rw[if_pos hf] at h;simp at h
   ·rename_i hf
    show d.turn.dead=d.dead
    unfold DevL.turn;rw[if_neg hf]
theorem DevL.writes_alive(ws:List WrL):∀{d:DevL},(d.writes ws).2=0→(d.writes ws).1.dead=d.dead:=by
 induction ws with
 | nil=>intro d h;rfl
 | cons w ws ih =>
  intro d h
  rw[DevL.writes] at h ⊢
  split
  ·rename_i hz
   rw[if_pos hz] at h
   rw[ih h,DevL.write_alive hz]
  ·rename_i hz
   rw[if_neg hz] at h;exact absurd h hz
theorem unpack_more{l:List Bytes}{seq:Nat}{ws:List WrL}(h:unpackL l=some (seq,ws)):ws.length+1≤l.length∧∀w∈ws,w.2.length=256:=by
 cases l with
 | nil=>exact absurd h (by simp[unpackL])
 | cons b rest =>
  unfold unpackL at h
  simp only[] at h
  cases hh:toHeadL b with
  | none=>rw[hh] at h;exact absurd h (by simp)
  | some r =>
   obtain⟨sq,at_⟩:=r
   rw[hh] at h
   simp only[] at h
   split at h
   ·exact absurd h (by simp)
   ·rename_i hn
    split at h
    ·simp only[Option.some.injEq,Prod.mk.injEq] at h
     obtain⟨rfl,rfl⟩:=h
     have h1:¬rest.length<at_.length:=fun hc=>hn (.inl hc)
     refine⟨by rw[List.length_zip,List.length_cons];omega,fun w hw=>?_⟩
     refine Decidable.byContradiction (fun hc=>hn (.inr ⟨w.2,?_,hc⟩))
     have e:at_.zip rest=at_.zip (rest.take at_.length):=by
      rw[List.zip_eq_zip_take_min,Nat.min_eq_left (by omega),List.take_of_length_le (Nat.le_refl _)]
     rw[e] at hw
     exact(List.of_mem_zip hw).2
    ·exact absurd h (by simp)
theorem frame_some{j:JL}{ws:List WrL}(h:j.frame=some ws):ws.length+1≤j.s.log-j.used∧ws.length≤48∧∀w∈ws,w.1<j.d.l.length∧w.2.length=256:=by
 unfold JL.frame at h
 split at h
 ·rename_i seq ws' hu
  split at h
  ·rename_i hc
   injection h with h
   subst h
   obtain⟨h1,h2⟩:=unpack_more hu
   rw[List.length_map,List.length_range] at h1
   exact⟨by omega,by omega,fun w hw=>⟨(hc.2 w hw).2,h2 w hw⟩⟩
  ·cases h
 ·cases h
theorem JrnAt.turned{w w':World}{F:Nat→Prop}{p b:Nat}{j j':JL}(h:JrnAt w F p b j)(hb:Blk w' p 110 (jcells b j'))(hd:j'.d=j.d)(t:Turn (fun k=>k=p) w w'):JrnAt w' F p b j' :=
 ⟨hb,h.fp,by rw[hd];exact((h.dev.minus h.box).beside t (fun k hk e=>hk.2 e)).mono (fun k hk=>hk.1),fun k hk=>Nat.lt_of_lt_of_le (h.lt k hk) t.size⟩
theorem WrArg.own{w w0:World}{F:Nat→Prop}{v:Value}{ws:List WrL}(h:w.ownsRow w0.heap.size 102 2 v ws.length (wrVs ws))(hF:∀k,F k→k<w0.heap.size)(hn:∀x∈ws,x.1≤9223372036854775807∧x.2.length≤9223372036854775807):WrArg w F v ws:=by
 refine⟨⟨Sl.of_owns h,fun hp=>?_⟩,hn⟩
 obtain⟨h1,h2⟩:=h
 rcases h2 with h2|⟨g,cap,cur,rfl,hb,hg,rest⟩
 ·omega
 ·exact⟨g,0,⟨cap,rfl⟩,lt_of_get hg,fun hc=>by have:=hF g hc;omega⟩
def usedOf(w:World)(p:Nat):Nat:=match w.cell? ⟨p,7,none⟩ with|some (.int _ u)=>u.toNat|_=>0
structure JOk (s:SlotL) (n P:Nat) (j:JL):Prop where
 sl:j.s=s
 ok:j.d.Ok
 live:j.d.dead=false
 len:j.d.l.length=n
 used:j.used≤s.log
 next:j.next<18446744073709551616
 k:j.k≤1
 p:j.d.p.length≤P+j.used
theorem JOk.num{s:SlotL}{n P:Nat}{j:JL}(h:JOk s n P j)(h1:50≤s.log)(h2:s.log+3≤n)(h3:s.place<s.log)(ho:s.Ok)(hP:P≤800000):JNum j:=by
 have hm:=h.ok.max
 have hu:=h.used;have hs:=h.sl;have hl:=h.len;have hp:=h.p
 obtain⟨o1,o2,o3,o4⟩:=ho
 refine⟨by rw[hs];omega,by rw[hs];omega,by rw[hs];omega,by omega,by rw[hs];exact o1,by rw[hs];exact o2,h.next,h.k,h.ok,fun _=>by omega⟩
theorem JOk.adv{s:SlotL}{n P:Nat}{j:JL}(h:JOk s n P j){ws:List WrL}(hf:j.frame=some ws)(hz:(j.d.writes ws).2=0):JOk s n P ({ j with d:=(j.d.writes ws).1 }.advance ws.length):=by
 obtain⟨f1,f2,f3⟩:=frame_some hf
 have hs:=h.sl;have hu:=h.used
 rw[hs] at f1
 refine⟨hs,DevL.writes_ok h.ok _,(DevL.writes_alive _ hz).trans h.live,by rw[←h.len];exact DevL.writes_len _ _,?_,Nat.mod_lt _ (by decide),h.k,?_⟩
 ·show j.used+ws.length+1≤s.log;omega
 ·show(j.d.writes ws).1.p.length≤P+(j.used+ws.length+1)
  have:=DevL.writes_p ws j.d;have:=h.p;omega
theorem replay_none{j:JL}(hf:j.frame=none)(m:Nat):JL.replay (m+1) j=(j,0):=by rw[JL.replay,hf]
theorem replay_some{j:JL}{ws:List WrL}(hf:j.frame=some ws)(m:Nat):JL.replay (m+1) j=if (j.d.writes ws).2=0 then JL.replay m ({ j with d:=(j.d.writes ws).1 }.advance ws.length) else({ j with d:=(j.d.writes ws).1 },(j.d.writes ws).2):=by rw[JL.replay,hf]
theorem openJ_dead{d:DevL}(h:d.dead=true):openJ d=(⟨d,⟨0,0,0,0⟩,0,0,0⟩,4):=by unfold openJ;rw[h,if_pos rfl]
theorem openJ_none{d:DevL}(h:d.dead=false)(hp:pickI d 2=none):openJ d=(⟨d,⟨0,0,0,0⟩,0,0,0⟩,10):=by unfold openJ;rw[h,if_neg (by decide),←pickI_two,hp]
theorem openJ_some{d:DevL}(h:d.dead=false){s:SlotL}{k:Nat}(hp:pickI d 2=some (s,k)):openJ d=if (JL.replay (s.log+1) ⟨d,s,k,s.s,0⟩).2=0 then(JL.replay (s.log+1) ⟨d,s,k,s.s,0⟩).1.ckpt else JL.replay (s.log+1) ⟨d,s,k,s.s,0⟩:=by unfold openJ;rw[h,if_neg (by decide),←pickI_two,hp]
theorem JOpen_dead(w:World)(F:Nat→Prop)(b:Nat)(d:DevL)(h:DevAt w F b d)(hd:d.Ok)(h2:2≤d.l.length)(hdead:d.dead=true):
  Calls Tryz.prog 80 #[ptrV b] w fun e w'=>e=.returned (.tuple #[.pointer none,.int .i64 4])∧Q w w':=by
 have hr:=fun (W:World) (hq:Q w W)=>Read_any W F b d 0 (h.keep hq) hd.max (fun hx=>by rw[hdead] at hx;cases hx)
 have hb:=fun (W:World) (hq:Q w W)=>Blocks_any W F b d (h.keep hq)
 have he:d.read 0=([],4):=by unfold DevL.read;have:d.chk 0=4:=by { unfold DevL.chk;rw[hdead,if_pos rfl] };rw[this,if_neg (by decide)]
 rw[he] at hr
 have hmin:min (2:Int) (d.l.length:Int)=2:=by omega
 have HR:=Lib.hid hr;have HB:=Lib.hid hb;have HM:=Lib.hid hmin
 clear hr hb he h hd hdead hmin
 go_enter Tryz.func80,Tryz.ntmps80
 go_wp2_with fail
 refine(HB.out _ (Q.alloc _ _)).mono ?_
 rintro e w1 ⟨rfl,rfl⟩
 go_wp2_with fail
 rw[HM.out]
 generalize hw2:w.alloc _=w2
 have hq2:Q w w2:=by rw[←hw2];exact Q.alloc _ _
 have HQ2:=Lib.hid hq2
 clear hw2 hq2
 go_loopw [20] (fun v wr=>v=.int .i64 0∧wr=w2) (fun _ _=>0)
 case atStart=>exact⟨rfl,rfl⟩
 case round =>
  obtain⟨rfl,rfl⟩:=hrel
  go_wp2_with fail
  refine(HR.out _ HQ2.out).mono ?_
  rintro e w3 ⟨rfl,q3⟩
  have HQ3:=Lib.hid (HQ2.out.trans q3)
  clear q3
  go_wp2_with fail
  go_ret2
  exact⟨rfl,HQ3.out⟩
def fmtW(k:Nat):List WrL:=(List.range k).map fun i=>(i+1,noughtsL)
theorem fmtW_succ(k:Nat):fmtW (k+1)=fmtW k++[(k+1,noughtsL)]:=by simp[fmtW,List.range_succ]
theorem JFormat_any(w:World)(F:Nat→Prop)(b:Nat)(d:DevL)(log:Nat)(h:DevAt w F b d)(hF:∀k,F k→k<w.heap.size)(hd:d.Ok)(hp:d.dead=false→d.p.length≤800000)(h50:50≤log)(hln:log+3≤d.l.length):
  Calls Tryz.prog 96 #[ptrV b,.int .i64 (log:Nat)] w fun e w'=>e=.returned (.int .i64 (formatJ d log).2)∧DevAt w' (grow F w w') b (formatJ d log).1∧Turn F w w':=by
 have hm:=hd.max
 have hbl:=Blocks_any w F b d h
 have hno:=fun (W:World)=>Noughts_any W
 have hst:=fun (W:World)=>SlotText_any ⟨1,1,log,0⟩ ⟨by show 1<_;omega,by show 1<_;omega,by show log<_;omega,by show 0<_;omega⟩ W
 obtain⟨i1,hi1,hy0,hy1,hy2⟩:=info_parts tinfoWr
 have hw1:IntKind.i64.wrap ((d.l.length:Int)-2)=(d.l.length:Int)-2:=IntWalk.i64_in _ (by omega)
 have hw2:IntKind.i64.wrap ((d.l.length:Int)-2-1)=(d.l.length:Int)-2-1:=IntWalk.i64_in _ (by omega)
 have hl1:¬(log:Int)<50:=by omega
 have hl2:¬(d.l.length:Int)-2-1<(log:Int):=by omega
 have hwl:=fun (W:World) (v:Value) (hq:Q w W) (hv:W.ownsRow w.heap.size 102 2 v (formatW log).length (wrVs (formatW log)))=>Writes_any W F b d v (formatW log) (h.keep hq) hd (fun hx=>by have:=hp hx;simp[formatW];omega) (WrArg.own hv hF (fun x hx=>by
  simp only[formatW,List.mem_append,List.mem_map,List.mem_range,List.mem_singleton] at hx
  rcases hx with ⟨i,hi,rfl⟩|rfl
  ·exact⟨by simp only;omega,by simp only[noughts_len];omega⟩
  ·exact⟨by simp only;omega,by simp only[slotT_length];omega⟩)) (by simp[formatW];omega)
 have hfl:(formatW log).length=log+2:=by simp[formatW]
 have hfw:formatW log=fmtW (log+1)++[(0,slotT ⟨1,1,log,0⟩)]:=rfl
 have hfj:formatJ d log=d.lays (formatW log):=rfl
 have hokw:(d.writes (formatW log)).1.Ok:=DevL.writes_ok hd _
 have hpw:(d.writes (formatW log)).1.dead=false→(d.writes (formatW log)).1.p.length≤1000000:=fun hx=>by
  have h1:=hp (DevL.writes_live _ _ hx)
  have h2:=DevL.writes_p (formatW log) d
  omega
 have hlays:formatJ d log=if (d.writes (formatW log)).2=0 then(d.writes (formatW log)).1.flush else d.writes (formatW log):=rfl
 have HBL:=Lib.hid hbl;have HNO:=Lib.hid hno;have HST:=Lib.hid hst;have HWL:=Lib.hid hwl;have HFW:=Lib.hid hfw;have HOKW:=Lib.hid hokw;have HPW:=Lib.hid hpw;have HLY:=Lib.hid hlays;have HFL:=Lib.hid hfl;have HFF:=Lib.hid hF
 have hlm:log≤4096:=by omega
 clear hbl hno hst hwl hfw hfj hokw hpw hlays hfl hF h hp hd hm
 generalize d.writes (formatW log)=dw at *
 go_enter Tryz.func96,Tryz.ntmps96
 go_wp2_with fail
 refine HBL.out.mono ?_
 rintro e w1 ⟨rfl,rfl⟩
 go_wp2_with fail
 clear hw1 hw2 hl1 hl2
 go_loopw [5,20] (fun v i wr=>∃k:Nat,i=.int .i64 (k:Nat)∧k≤log+1∧Hid (wr.ownsRow w.heap.size 102 2 v k (wrVs (fmtW k)))∧Hid (Q w wr)) (fun _ i _=>log+1-(intOf i).toNat)
 case atStart=>exact⟨0,rfl,Nat.zero_le _,World.ownsRow_nil _ _ _ _,Lib.hid (Q.refl _)⟩
 case round =>
  obtain⟨k,rfl,hk,HOW,HQ⟩:=hrel
  by_cases hlt:k<log+1
  ·have hki:(k:Int)<(log:Int)+1:=by omega
   have hki0:(0:Int)≤(k:Int):=by omega
   have hfs:=fmtW_succ k
   have HFS:=Lib.hid hfs
   clear hfs
   go_wp2_with fail
   refine(HNO.out _).mono ?_
   rintro e w10 ⟨rfl,q10⟩
   have HO10:=Lib.hid (ownsRow_below HOW.out q10)
   have HQ10:Hid (Q w w10):=Lib.hid (HQ.out.trans q10)
   generalize hnn:noughtsL=nn at *
   have hc1:∀u∈#[Value.int .i64 ((k:Int)+1),strV nn].toList,u.oneCell'=true:=by intro u hu;simp at hu;rcases hu with rfl|rfl<;>rfl
   have hc2:(k+1)*24≤140737488355328:=by omega
   have HC3:=Lib.hid hc1;have HC4:=Lib.hid hc2
   clear q10 hc1 hc2 hnn
   go_wp2_with (at_builtin;refine wpList_app w10 (by rfl) _ _ 49 (by rfl) w.heap.size 102 _ i1 (.agg #[.int .i64 0,strV []]) 2 24 Tryz.underlying49 hi1 hy0 hy1 hy2 rfl (by decide) (by decide) _ _ _ (by rfl) HO10.out #[.int .i64 ((k:Int)+1),strV nn] (by rfl) rfl HC3.out HC4.out HQ10.out.size ?_)
   intro g11 cap11 w11 hr11 hg11 ho11 hlt11 hlt11b
   have hq11:Q w w11:=grown_below HQ10.out HO10.out hg11 (Nat.le_refl _) HQ10.out.size
   have hr11':w11.ownsRow w.heap.size 102 2 (.slice (some ⟨g11,0,none⟩) (k+1) cap11) (k+1) (wrVs (fmtW (k+1))):=by
    rw[HFS.out,wrVs_append,show wrVs [(k+1,nn)]=encW (k+1,nn) by simp[wrVs]];exact hr11
   have HQ11:=Lib.hid hq11;have HR11:=Lib.hid hr11'
   clear hr11 hg11 ho11 hlt11 hlt11b hq11 hr11'
   go_wp2_with fail
   go_roundw
   case rel=>exact⟨k+1,by go_num,by omega,HR11,HQ11⟩
   case measure=>simp[intOf];omega
  ·have hki:¬(k:Int)<(log:Int)+1:=by omega
   obtain rfl:k=log+1:=by omega
   go_wp2_with fail
   refine(HST.out _).mono ?_
   rintro e w10 ⟨rfl,q10⟩
   have HO10:=Lib.hid (ownsRow_below HOW.out q10)
   have HQ10:Hid (Q w w10):=Lib.hid (HQ.out.trans q10)
   generalize slotT ⟨1,1,log,0⟩=st at *
   have hc1:∀u∈#[Value.int .i64 0,strV st].toList,u.oneCell'=true:=by intro u hu;simp at hu;rcases hu with rfl|rfl<;>rfl
   have hc2:(log+1+1)*24≤140737488355328:=by omega
   have HC3:=Lib.hid hc1;have HC4:=Lib.hid hc2
   clear q10 hc1 hc2
   go_wp2_with (at_builtin;refine wpList_app w10 (by rfl) _ _ 49 (by rfl) w.heap.size 102 _ i1 (.agg #[.int .i64 0,strV []]) 2 24 Tryz.underlying49 hi1 hy0 hy1 hy2 rfl (by decide) (by decide) _ _ _ (by rfl) HO10.out #[.int .i64 0,strV st] (by rfl) rfl HC3.out HC4.out HQ10.out.size ?_)
   intro g11 cap11 w11 hr11 hg11 ho11 hlt11 hlt11b
   have hq11:Q w w11:=grown_below HQ10.out HO10.out hg11 (Nat.le_refl _) HQ10.out.size
   have hr11':w11.ownsRow w.heap.size 102 2 (.slice (some ⟨g11,0,none⟩) (log+1+1) cap11) (formatW log).length (wrVs (formatW log)):=by
    rw[HFL.out,HFW.out,wrVs_append,show wrVs [(0,st)]=encW (0,st) by simp[wrVs]];exact hr11
   have cw:=HWL.out w11 _ hq11 hr11'
   have CW:=Lib.hid cw;have HQ11:=Lib.hid hq11
   clear hr11 hg11 ho11 hlt11 hlt11b hq11 hr11' cw
   go_wp2_with fail
   refine CW.out.mono ?_
   rintro e w12 ⟨rfl,h12,t12⟩
   have ht:Turn F w w12:=(Turn.of_q HQ11.out).trans t12
   have h12':DevAt w12 (grow F w w12) b dw.1:=h12.mono (fun k hk=>hk.elim .inl (fun hk=>.inr ⟨Nat.le_trans HQ11.out.size hk.1,hk.2⟩))
   have H12:=Lib.hid h12';have T12:=Lib.hid ht
   clear h12 t12 ht h12'
   by_cases hz:dw.2=0
   ·have hb:(dw.2==0)=true:=beq_iff_eq.2 hz
    have hly:=HLY.out
    rw[if_pos hz] at hly
    have cf:=Flush_any w12 (grow F w w12) b dw.1 H12.out HOKW.out HPW.out
    have HLZ:=Lib.hid hly;have CF:=Lib.hid cf
    clear hz hly cf
    go_wp2_with fail
    refine CF.out.mono ?_
    rintro e w13 ⟨rfl,h13,t13⟩
    have HE:=Lib.hid (h13.mono (fun k hk=>grow_trans T12.out.size t13.size hk));have HT2:=Lib.hid (T12.out.step t13)
    clear h13 t13
    go_wp2_with fail
    go_ret
    rw[HLZ.out]
    exact⟨rfl,HE.out,HT2.out⟩
   ·have hb:(dw.2==0)=false:=beq_eq_false_iff_ne.2 hz
    have hly:=HLY.out
    rw[if_neg hz] at hly
    have HLZ:=Lib.hid hly
    clear hz hly
    go_wp2_with fail
    go_ret
    rw[HLZ.out]
    exact⟨rfl,H12.out,T12.out⟩
theorem RDevAt.next{A B C:World}{F:Nat→Prop}{b:Nat}{d:DevL}(t1:Turn F A B)(h:RDevAt C (grow (grow F A B) B C) b d)(t2:Turn (grow F A B) B C):RDevAt C (grow F A C) b d∧Turn F A C:=by
 have t:=t1.step t2
 exact⟨h.mono (fun k hk=>grow_trans t1.size t2.size hk),t⟩
theorem RDevAt.quietly{A B C:World}{F:Nat→Prop}{b:Nat}{d:DevL}(q:Q A B)(h:RDevAt C (grow F B C) b d)(t2:Turn F B C):RDevAt C (grow F A C) b d∧Turn F A C :=
 ⟨h.mono (fun k hk=>hk.elim .inl (fun hk=>.inr ⟨Nat.le_trans q.size hk.1,hk.2⟩)),(Turn.of_q q).trans t2⟩
theorem formatW_at(log k:Nat)(h:k<log+1):(formatW log)[k]?=some (k+1,noughtsL):=by
 unfold formatW
 rw[List.getElem?_append_left (by simpa using h)]
 simp[h]
theorem formatW_end(log:Nat):(formatW log)[log+1]?=some (0,slotT ⟨1,1,log,0⟩):=by
 unfold formatW
 rw[List.getElem?_append_right (by simp)]
 simp
theorem formatW_len(log:Nat):(formatW log).length=log+2:=by simp[formatW]
theorem RFormat4_any(w:World)(F:Nat→Prop)(b:Nat)(d:DevL)(log:Nat)(h:RDevAt w F b d)(hd:d.Ok)(hp:d.dead=false→d.p.length≤800000)(h50:50≤log)(hln:log+3≤d.l.length):
  Calls Tryz.prog 72 #[ptrV b,.int .i64 (log:Nat)] w fun e w'=>e=.returned (.int .i64 (formatJ d log).2)∧RDevAt w' (grow F w w') b (formatJ d log).1∧Turn F w w':=by
 have hm:=hd.max
 have hno:=fun (W:World)=>RNoughts_any W
 have hst:=fun (W:World)=>RText4_any ⟨1,1,log,0⟩ ⟨by show 1<_;omega,by show 1<_;omega,by show log<_;omega,by show 0<_;omega⟩ W
 have hl1:¬(log:Int)<50:=by omega
 have hw3:IntKind.i64.wrap ((d.l.length:Int)-3)=(d.l.length:Int)-3:=IntWalk.i64_in _ (by omega)
 have hl2:¬(d.l.length:Int)-3<(log:Int):=by omega
 have hfj:formatJ d log=d.lays (formatW log):=rfl
 have h0:RDevAt w (grow F w w) b d:=h.mono (fun k hk=>.inl hk)
 obtain⟨lv,pv,hg⟩:=h
 obtain⟨la,lc,rfl,-⟩:=hg.lcells
 obtain⟨c0,c1,c2,c3,_⟩:=hg.box.c4
 have HNO:=Lib.hid hno;have HST:=Lib.hid hst;have HFJ:=Lib.hid hfj;have H0:=Lib.hid h0;have HD:=Lib.hid hd;have HP:=Lib.hid hp
 have hlm:log≤4096:=by omega
 clear hno hst hfj h0 hd hp hg
 go_enter Tryz.func72,Tryz.ntmps72
 go_wp2_with fail
 go_loopw [5] (fun v wr=>∃(k:Nat) (d2:DevL),v=.int .i64 ((k+1:Nat):Int)∧k≤log+1∧Hid (d.writes (formatW log)=d2.writes ((formatW log).drop k))∧Hid (RDevAt wr (grow F w wr) b d2)∧Hid (Turn F w wr)∧Hid d2.Ok∧Hid (d2.dead=false→d2.p.length≤800000+k)) (fun v _=>log+2-(intOf v).toNat)
 case atStart=>exact⟨0,d,rfl,Nat.zero_le _,by rw[List.drop_zero];exact Lib.hid rfl,H0,Turn.refl _ _,HD,HP⟩
 case round =>
  obtain⟨k,d2,rfl,hk,HE,HG2,HT2,HD2,HP2⟩:=hrel
  by_cases hlt:k<log+1
  ·have he:=HE.out
   rw[drop_at (formatW_at log k hlt),DevL.writes] at he
   simp only at he
   have hw1:=fun (W:World) (q:Q wr W)=>RWrite_any W _ b d2 ((k+1:Nat):Int) noughtsL (HG2.out.keep q) HD2.out (fun hx=>by have:=HP2.out hx;omega) (by rw[noughts_len];omega)
   have hok:=DevL.write_ok HD2.out ((k+1:Nat):Int) noughtsL
   have hpn:(d2.write ((k+1:Nat):Int) noughtsL).1.dead=false→(d2.write ((k+1:Nat):Int) noughtsL).1.p.length≤800000+(k+1):=fun hx=>by
    have h1:=HP2.out (DevL.write_live _ _ _ hx)
    have h2:=DevL.write_p d2 ((k+1:Nat):Int) noughtsL
    omega
   generalize hdw:d2.write ((k+1:Nat):Int) noughtsL=dw at *
   have hcst:((k+1:Nat):Int)=(k:Int)+1:=by omega
   rw[hcst] at hw1
   have HW1:=Lib.hid hw1;have HEE:=Lib.hid he;have HOK:=Lib.hid hok;have HPN:=Lib.hid hpn
   have hki:(k:Int)+1<2+(log:Int):=by omega
   clear hw1 he hok hpn hdw hcst
   go_wp2_with fail
   refine(HNO.out _).mono ?_
   rintro e w1 ⟨rfl,q1⟩
   have HQ1:=Lib.hid q1
   clear q1
   go_wp2_with fail
   refine(HW1.out _ HQ1.out).mono ?_
   rintro e w3 ⟨rfl,h3,t3⟩
   have hq:=RDevAt.quietly HQ1.out h3 t3
   have hs3:=RDevAt.next HT2.out hq.1 hq.2
   have HG3:=Lib.hid hs3.1;have HT3:=Lib.hid hs3.2
   clear hs3 hq h3 t3
   by_cases hz:dw.2=0
   ·have hb:(dw.2==0)=true:=beq_iff_eq.2 hz
    have hee:=HEE.out
    rw[if_pos hz] at hee
    have HE2:=Lib.hid hee
    clear hee HEE hz
    go_wp2_with fail
    go_roundw
    case rel=>exact⟨k+1,dw.1,by go_num,by omega,HE2,HG3,HT3,HOK,HPN⟩
    case measure=>simp[intOf];omega
   ·have hb:(dw.2==0)=false:=beq_eq_false_iff_ne.2 hz
    have hee:=HEE.out
    rw[if_neg hz] at hee
    have hlr:formatJ d log=dw:=by
     rw[HFJ.out]
     unfold DevL.lays
     rw[hee,if_neg hz]
    have HLR:=Lib.hid hlr
    clear hee HEE hz hlr
    go_wp2_with fail
    go_ret
    rw[HLR.out]
    exact⟨rfl,HG3.out,HT3.out⟩
  ·obtain rfl:k=log+1:=by omega
   have hki:¬((log+1+1:Nat):Int)<2+(log:Int):=by omega
   have hki2:¬(log:Int)+1+1<2+(log:Int):=by omega
   have he:=HE.out
   rw[drop_at (formatW_end log),DevL.writes,List.drop_eq_nil_of_le (by rw[formatW_len];exact Nat.le_refl _)] at he
   simp only[DevL.writes] at he
   have hw1:=fun (W:World) (q:Q wr W)=>RWrite_any W _ b d2 ((0:Nat):Int) (slotT ⟨1,1,log,0⟩) (HG2.out.keep q) HD2.out (fun hx=>by have:=HP2.out hx;omega) (by rw[slotT_length];omega)
   have hok:=DevL.write_ok HD2.out ((0:Nat):Int) (slotT ⟨1,1,log,0⟩)
   have hpn:(d2.write ((0:Nat):Int) (slotT ⟨1,1,log,0⟩)).1.dead=false→(d2.write ((0:Nat):Int) (slotT ⟨1,1,log,0⟩)).1.p.length≤900000:=fun hx=>by
    have h1:=HP2.out (DevL.write_live _ _ _ hx)
    have h2:=DevL.write_p d2 ((0:Nat):Int) (slotT ⟨1,1,log,0⟩)
    omega
   rw[show((0:Nat):Int)=0 from rfl] at hw1
   rw[show((0:Nat):Int)=0 from rfl] at hok hpn he
   generalize d2.write 0 (slotT ⟨1,1,log,0⟩)=dA at *
   generalize slotT ⟨1,1,log,0⟩=st at *
   have HW1:=Lib.hid hw1;have HEE:=Lib.hid he;have HOK:=Lib.hid hok;have HPN:=Lib.hid hpn
   clear hw1 he hok hpn HE
   go_wp2_with fail
   refine(HST.out _).mono ?_
   rintro e w1 ⟨rfl,q1⟩
   have HQ1:=Lib.hid q1
   clear q1
   go_wp2_with fail
   refine(HW1.out _ HQ1.out).mono ?_
   rintro e w3 ⟨rfl,h3,t3⟩
   have hq:=RDevAt.quietly HQ1.out h3 t3
   have hs3:=RDevAt.next HT2.out hq.1 hq.2
   have HG3:=Lib.hid hs3.1;have HT3:=Lib.hid hs3.2
   clear hs3 hq h3 t3
   by_cases hzA:dA.2=0
   case neg =>
    have e1:(dA.2==0)=false:=beq_eq_false_iff_ne.2 hzA
    have hee:=HEE.out
    rw[if_neg hzA] at hee
    have hlr:formatJ d log=dA:=by
     rw[HFJ.out]
     unfold DevL.lays
     rw[hee,if_neg hzA]
    have HLR:=Lib.hid hlr
    clear hee HEE hzA hlr
    go_wp2_with fail
    go_ret
    rw[HLR.out]
    exact⟨rfl,HG3.out,HT3.out⟩
   have e1:(dA.2==0)=true:=beq_iff_eq.2 hzA
   have hee:=HEE.out
   rw[if_pos hzA] at hee
   have hlr:formatJ d log=dA.1.flush:=by
    rw[HFJ.out]
    unfold DevL.lays
    rw[hee,if_pos rfl]
   have hfl:=RFlush_any w3 _ b dA.1 HG3.out HOK.out (fun hx=>by have:=HPN.out hx;omega)
   generalize dA.1.flush=dB at *
   have HLR:=Lib.hid hlr;have HFL:=Lib.hid hfl
   clear hee HEE hzA hlr hfl
   go_wp2_with fail
   refine HFL.out.mono ?_
   rintro e w4 ⟨rfl,h4,t4⟩
   have hs4:=RDevAt.next HT3.out (h4.mono (fun k hk=>.inl hk)) t4
   have HS4:=Lib.hid hs4
   clear hs4 h4 t4
   go_wp2_with fail
   go_ret
   rw[HLR.out]
   exact⟨rfl,HS4.out.1,HS4.out.2⟩
def headK(seq:Nat)(ws:List WrL)(k:Nat):Bytes:=magicT++(fixedL seq++(fixedL (seq / 4294967296)++(fixedL ws.length++fixedsL ((ws.take k).map (·.1)))))
theorem headK_step(seq:Nat)(ws:List WrL)(k:Nat)(h:k<ws.length):headK seq ws (k+1)=headK seq ws k++fixedL ws[k].1:=by
 unfold headK
 rw[List.take_succ_eq_append_getElem h,List.map_append]
 simp[fixedsL,List.append_assoc]
theorem headK_len(seq:Nat)(ws:List WrL)(k:Nat)(h:k≤ws.length):(headK seq ws k).length=16+4*k:=by
 unfold headK
 simp only[List.length_append,length_fixedL,fixedsL_length,List.length_map,List.length_take,Nat.min_eq_left h]
 have:magicT.length=4:=rfl
 omega
theorem headK_end(seq:Nat)(ws:List WrL):headK seq ws ws.length++zerosL (232-4*ws.length)=bodyL seq ws:=by
 unfold headK bodyL
 rw[List.take_length]
 simp only[List.append_assoc]
theorem repeat_zeros(n:Nat):Lib.repeatL [(0:UInt8)] n=zerosL n:=by
 induction n with
 | zero=>rfl
 | succ n ih=>rw[Lib.repeatL,ih];rfl
theorem Pack_any(w:World)(seq:Nat)(hs:seq<18446744073709551616)(lv:Value)(ws:List WrL)(h:Sl w lv ws.length 2 (wrVs ws))(hw:WrOk ws):
  Calls Tryz.prog 106 #[.int .u64 (seq:Nat),lv] w fun e w'=>∃v',e=.returned (.tuple #[v',.int .i64 0])∧w'.ownsRow w.heap.size 9 1 v' (ws.length+1) ((packL seq ws).map strV)∧Q w w':=by
 obtain⟨la,lc,rfl,hlc⟩:=h.value
 obtain⟨i0,hi,hz0,hz1,hz2⟩:=info_parts tinfoSt
 have hcell:∀k (hk:k<ws.length),∃lb lo,la=some ⟨lb,lo,none⟩∧w.cell? ⟨lb,lo+k*2,none⟩=some (.int .i64 (ws[k].1:Nat))∧w.cell? ⟨lb,lo+k*2+1,none⟩=some (strV ws[k].2):=fun k hk=>by
  obtain⟨lb,lo,h1,h4⟩:=hlc (by omega)
  exact⟨lb,lo,h1,h4 _ _ (wrVs_at ws k hk).1,by have:=h4 _ _ (wrVs_at ws k hk).2;rwa [←Nat.add_assoc] at this⟩
 have hok:∀k (hk:k<ws.length),ws[k].1<4096∧ws[k].2.length=256:=fun k hk=>hw.2.2 _ (List.getElem_mem hk)
 have hn1:=hw.1;have hn2:=hw.2.1
 have hst:=headK_step seq ws;have hkl:=headK_len seq ws;have hen:=headK_end seq ws
 have hk0:(67:UInt8)::68::88::84::((fixedL (seq%4294967296)++fixedL (seq / 4294967296))++fixedL ws.length)=headK seq ws 0:=by unfold headK;rw[fixedL_mod];simp[fixedsL,magicT,List.append_assoc]
 have cf:=fun (v:Nat) (hv:v<4294967296) (W:World)=>Fixed_any v W hv
 have HC:=Lib.hid hcell;have HO:=Lib.hid hok;have HST:=Lib.hid hst;have HKL:=Lib.hid hkl;have HEN:=Lib.hid hen;have HK0:=Lib.hid hk0;have CF:=Lib.hid cf;have HW:=Lib.hid hw
 have HHD:=Lib.hid (show headL seq ws=bodyL seq ws++(fixedL (crcL (bodyL seq ws++(ws.map (·.2)).flatten))++endT) from rfl)
 have hb0:¬(ws.length:Int)=0:=by omega
 have hb1:((ws.length:Int)==0)=false:=beq_eq_false_iff_ne.2 hb0
 have hb2:¬(48:Int)<(ws.length:Int):=by omega
 have l1:(fixedL (seq%4294967296)).length=4:=rfl
 have l2:(fixedL (seq / 4294967296)).length=4:=rfl
 have l3:(fixedL ws.length).length=4:=rfl
 clear hcell hok hst hkl hen hk0 cf hw h hlc
 go_enter Tryz.func106,Tryz.ntmps106
 go_wp2_with fail
 rw[show((seq:Int)%4294967296)=((seq%4294967296:Nat):Int) by omega]
 refine(CF.out _ (by omega) _).mono ?_
 rintro e w1 ⟨rfl,q1⟩
 have HQ1:=Lib.hid q1
 clear q1
 go_wp2_with fail
 rw[show((seq:Int) / 4294967296)=((seq / 4294967296:Nat):Int) by omega]
 refine(CF.out _ (by omega) _).mono ?_
 rintro e w2 ⟨rfl,q2⟩
 have HQ2:=Lib.hid (HQ1.out.trans q2)
 clear q2
 go_wp2_with fail
 refine(CF.out _ (by omega) _).mono ?_
 rintro e w3 ⟨rfl,q3⟩
 have HQ3:=Lib.hid (HQ2.out.trans q3)
 clear q3
 go_wp2_with fail
 simp only[bytes_append,List.cons_append,List.nil_append]
 rw[HK0.out]
 have hown0:w3.ownsRow w.heap.size 9 1 (.slice none 0 0) 0 ((([]:List WrL)).map fun x=>strV x.2):=World.ownsRow_nil _ _ _ _
 go_loopw [6,7,34] (fun dv hv v wr=>∃k:Nat,v=.int .i64 (k:Nat)∧k≤ws.length∧hv=strV (headK seq ws k)∧Hid (wr.ownsRow w.heap.size 9 1 dv k ((ws.take k).map fun x=>strV x.2))∧Hid (Q w wr)) (fun _ _ v _=>ws.length-(intOf v).toNat)
 case atStart=>exact⟨0,rfl,Nat.zero_le _,rfl,hown0,HQ3.out⟩
 case round =>
  obtain⟨k,rfl,hk,rfl,HR,HQ4⟩:=hrel
  by_cases hlt:k<ws.length
  ·have hki:(k:Int)<(ws.length:Int):=by omega
   obtain⟨lb,lo,rfl,x1,x2⟩:=HC.out k hlt
   have y1:=cellQ HQ4.out x1;have y2:=cellQ HQ4.out x2
   obtain⟨hbk,hdl⟩:=HO.out k hlt
   have hstep:=HST.out k hlt
   have hkl:=HKL.out k hk
   have hrow:=HR.out
   have hqa:=Q.alloc wr (.cells #[.int .i64 (ws[k].1:Nat),strV ws[k].2] 102)
   have hrow2:=ownsRow_below hrow hqa
   have hts:((ws.take (k+1)).map fun x=>strV x.2)=((ws.take k).map fun x=>strV x.2)++[strV ws[k].2]:=by rw[List.take_succ_eq_append_getElem hlt,List.map_append];rfl
   have HSTP:=Lib.hid hstep;have HTS:=Lib.hid hts;have HROW:=Lib.hid hrow2;have HQA:=Lib.hid (HQ4.out.trans hqa)
   clear hstep hts hrow hrow2 hqa x1 x2
   generalize ws[k].1=bk at *
   generalize ws[k].2=dk at *
   generalize headK seq ws k=tk at *
   have hb3:¬(bk:Int)<0:=by omega
   have hb4:¬(4096:Int)≤(bk:Int):=by omega
   have hb5:(!((dk.length:Int)==256))=false:=by rw[beq_iff_eq.2 (by omega)];rfl
   have l4:(fixedL bk).length=4:=rfl
   go_wp2_with fail
   have hm1:=((Blk.new wr 102 #[.int .i64 (bk:Nat),strV dk]).c2).2.1
   refine(CF.out _ (by omega) _).mono ?_
   rintro e w5 ⟨rfl,q5⟩
   have m1:=cellQ q5 hm1
   have hr5:=ownsRow_below HROW.out q5
   have hq5:=HQA.out.trans q5
   have hc1:∀u∈#[strV dk].toList,u.oneCell'=true:=by intro u hu;simp at hu;subst hu;rfl
   have hc2:(k+1)*16≤140737488355328:=by omega
   have HR5:=Lib.hid hr5;have HQ5:=Lib.hid hq5;have HC1:=Lib.hid hc1;have HC2:=Lib.hid hc2
   clear hr5 hq5 hc1 hc2 q5 hm1 y1 y2
   go_wp2_with (at_builtin;refine wpList_app w5 (by rfl) _ _ 47 (by rfl) w.heap.size 9 _ i0 (strV []) 1 16 Tryz.underlying47 hi hz0 hz1 hz2 rfl (by decide) (by decide) _ _ _ (by rfl) HR5.out #[strV dk] (by rfl) rfl HC1.out HC2.out HQ5.out.size ?_)
   intro g cap w6 hr hg ho hlt1 hlt2
   have hq6:Q w w6:=grown_below HQ5.out HR5.out hg (Nat.le_refl _) HQ5.out.size
   have HR6:=Lib.hid hr;have HQ6:=Lib.hid hq6
   clear hr hg ho hq6
   go_wp2_with fail
   go_roundw
   case rel=>exact⟨k+1,by go_num,by omega,by rw[HSTP.out];simp only[bytes_append],by rw[HTS.out];have h:=HR6.out;rw[←List.map_take] at h;exact Lib.hid h,HQ6⟩
   case measure=>simp[intOf];omega
  ·have hki:¬(k:Int)<(ws.length:Int):=by omega
   obtain rfl:k=ws.length:=by omega
   have hkl:=HKL.out ws.length (Nat.le_refl _)
   have hen:=HEN.out
   have hrow:=HR.out
   rw[List.take_length] at hrow
   have hcr:=fun (W:World)=>Tryz.strings_Repeat_main ⟨#[0]⟩ (232-4*ws.length) W (by omega) (by omega) (by show 1*(232-4*ws.length)≤_;omega) (by decide)
   have hci:((232-4*ws.length:Nat):Int)=248-(16+4*(ws.length:Int)):=by omega
   have hrz:=repeat_zeros (232-4*ws.length)
   have hzl:=zerosL_length (232-4*ws.length)
   have hbl:=bodyL_length seq ws hn2
   have HCR:=Lib.hid hcr;have HRZ:=Lib.hid hrz;have HENN:=Lib.hid hen;have HROW:=Lib.hid hrow
   clear hcr hrz hen hrow
   generalize headK seq ws ws.length=tk at *
   have hkl2:(tk.length:Int)=16+4*(ws.length:Int):=by omega
   go_wp2_with fail
   rw[←hci]
   refine(HCR.out _).mono ?_
   rintro e w4 ⟨rfl,q4⟩
   have HQ5:=Lib.hid (HQ4.out.trans q4);have HROW4:=Lib.hid (ownsRow_below HROW.out q4)
   clear q4
   rw[HRZ.out]
   go_wp2_with fail
   simp only[bytes_append]
   rw[HENN.out]
   have hsl:=Sl.of_owns HROW4.out
   have hml:(ws.map (·.2)).map strV=ws.map fun x=>strV x.2:=by rw[List.map_map];rfl
   have hst4:Strs w4 u6 (ws.map (·.2)):=by
    unfold Strs
    rw[hml,List.length_map];exact hsl
   have hsum:=Sum_any w4 (bodyL seq ws) u6 (ws.map (·.2)) hst4 (by rw[List.length_map];omega) (by omega) (fun q hq=>by
    obtain⟨x,hx,rfl⟩:=List.mem_map.1 hq
    have:=(HW.out.2.2 x hx).2;omega)
   have hwm:=HHD.out
   have hl5:(fixedL (crcL (bodyL seq ws++(ws.map (·.2)).flatten))).length=4:=rfl
   have hpk:(packL seq ws).map strV=[strV (headL seq ws)]++ws.map fun x=>strV x.2:=by unfold packL;rw[List.map_cons,hml];rfl
   have HSUM:=Lib.hid hsum;have HWM:=Lib.hid hwm;have HSLL:=Lib.hid hsl;have HPK:=Lib.hid hpk
   clear hsum hwm hst4 hsl hpk hml
   generalize (ws.map (·.2)).flatten=dat at *
   generalize bodyL seq ws=bd at *
   generalize crcL (bd++dat)=cr at *
   refine HSUM.out.mono ?_
   rintro e w5 ⟨rfl,q5⟩
   have HQ6:=Lib.hid (HQ5.out.trans q5);have HSL5:=Lib.hid (HSLL.out.stays q5)
   clear q5
   have hh:(bd++fixedL cr)++[67,68,88,69]=headL seq ws:=by rw[HWM.out,List.append_assoc];rfl
   have HH:=Lib.hid hh
   clear hh
   have hqa:=Q.alloc w5 (.cells #[strV (headL seq ws)] 9)
   have how:=owns_one w5 w.heap.size 9 (strV (headL seq ws)) HQ6.out.size
   have h1:∀u∈ws.map fun x=>strV x.2,u.oneCell'=true:=fun u hu=>by obtain⟨d,_,rfl⟩:=List.mem_map.1 hu;rfl
   have h2:1+ws.length≤maxLen:=by unfold maxLen;omega
   have h3:(1+ws.length)*16≤140737488355328:=by omega
   have HOW:=Lib.hid how;have HSL6:=Lib.hid (HSL5.out.stays hqa);have H1:=Lib.hid h1;have H2:=Lib.hid h2;have H3:=Lib.hid h3;have HQ7:=Lib.hid (HQ6.out.trans hqa)
   clear how h1 h2 h3 hqa
   generalize headL seq ws=hdl at *
   go_wp2_with (at_builtin;simp only[bytes_append];rw[HH.out];refine wpList_append_sl (w5.alloc (.cells #[strV hdl] 9)) (by rfl) _ _ 47 (by rfl) w.heap.size 9 i0 (strV []) 1 16 Tryz.underlying47 hi hz0 hz1 hz2 rfl (by decide) _ 1 [strV hdl] (by rfl) HOW.out _ ws.length (ws.map fun x=>strV x.2) (by rfl) HSL6.out H1.out H2.out H3.out HQ7.out.size ?_)
   intro v' w' hr hg ho
   have hqq:Q w w':=grown_below HQ7.out HOW.out hg (Nat.le_refl _) HQ7.out.size
   have hrr:w'.ownsRow w.heap.size 9 1 v' (ws.length+1) ((packL seq ws).map strV):=by rw[HPK.out,Nat.add_comm];exact hr
   have HRR:=Lib.hid hrr;have HQQ:=Lib.hid hqq
   clear hrr hqq hr hg ho
   go_wp2_with fail
   go_ret2
   exact⟨_,rfl,HRR.out,HQQ.out⟩
end
end Go.Proofs.YthcpkgfieoneeaaGreatDoor
