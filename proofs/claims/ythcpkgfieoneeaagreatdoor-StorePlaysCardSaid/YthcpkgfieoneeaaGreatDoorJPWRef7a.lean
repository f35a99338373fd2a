/- Joined texts of one proof: what is needed of WRef7a, WRef7d, WRef7e, WStoA, WStoB, WStoC. -/
import Derived.Test.YthcpkgfieoneeaaGreatDoorJPWJrnB
import Derived.Test.YthcpkgfieoneeaaGreatDoorJPSto
import Derived.Test.YthcpkgfieoneeaaGreatDoorJPWCacF
import Derived.Test.YthcpkgfieoneeaaGreatDoorJPWRef4a
import Derived.Test.YthcpkgfieoneeaaGreatDoorJPWFrmD
import Derived.Test.YthcpkgfieoneeaaGreatDoorJPWRef4f
import Derived.Test.YthcpkgfieoneeaaGreatDoorJPShelf
import Derived.Test.YthcpkgfieoneeaaGreatDoorJPWRDevB
import Derived.Test.YthcpkgfieoneeaaGreatDoorJPBitC
import Derived.Deep.RegionHeld3
import Derived.Test.YthcpkgfieoneeaaGreatDoorJPJrn4
set_option linter.unusedSimpArgs false
set_option linter.unusedVariables false
set_option linter.unnecessarySimpa false
set_option maxRecDepth 100000
set_option maxHeartbeats 16000000
namespace Go.Proofs.YthcpkgfieoneeaaGreatDoor
section
open Go.RowKit
theorem RParts_any(n:Nat)(w:World)(hn:n≤1000000):
  Calls Tryz.prog 74 #[.int .i64 (n:Nat)] w fun e w'=>e=.returned (.int .i64 (partsN n:Nat))∧w=w':=by
 have h:((partsN n:Nat):Int)=((n:Int)+2047) / 2048:=by unfold partsN;omega
 rw[h]
 clear h
 go_enter Tryz.func74,Tryz.ntmps74
 go_wp2
 go_ret
 exact⟨rfl,rfl⟩
theorem RTitle_any(n:Nat)(w:World)(hn:n≤1000000):
  Calls Tryz.prog 77 #[.int .i64 (n:Nat)] w fun e w'=>e=.returned (strV (titleL n))∧Q w w':=by
 have hc:=fun (W:World)=>RFixed_any n W (by omega)
 obtain⟨i,hi,hz0,hz1,hz2⟩:=info_parts tinfo5
 have km:=fun (W:World)=>run_make (P:=Tryz.prog) W 103 5 _ _ Tryz.underlying103 hi hz0 .i64 .i64 248 248 (by omega) (Int.le_refl _) (by rw[hz2];omega) (by omega)
 have hb:=fun (W:World)=>(ByteRow.zeros W (248:Int).toNat 5).back (P:=Tryz.prog) 103 9 5 (248:Int).toNat Tryz.underlying103 Tryz.underlying5 Tryz.underlying9
 simp only[List.length_replicate] at hb
 rw[show List.replicate (248:Int).toNat (0:UInt8)=zerosL 248 from rfl] at hb
 simp only[hz1,Nat.mul_one,show(Value.int IntKind.u8 0).cells=#[.int .u8 0] from rfl] at km
 have hle:(({ data:=#[67,68,88,66] }:ByteArray)++{ data:=(fixedL n).toArray })=⟨(([67,68,88,66]:Bytes)++fixedL n).toArray⟩:=by
  rw[show({ data:=#[67,68,88,66] }:ByteArray)=⟨([67,68,88,66]:Bytes).toArray⟩ from rfl,bytes_append]
 have hln:(([67,68,88,66]:Bytes)++fixedL n).length=8:=by rw[List.length_append,length_fixedL];rfl
 have hte:titleL n=(([67,68,88,66]:Bytes)++fixedL n)++zerosL 248:=by unfold titleL;rw[List.append_assoc]
 have hnn:IntKind.u32.wrap (n:Int)=(n:Int):=by simp[IntKind.wrap,IntKind.bits,IntKind.signed];omega
 have hn2:(n:Int)%4294967296=(n:Int):=by omega
 have HC:=Lib.hid hc;have HLE:=Lib.hid hle
 have hfl:=length_fixedL n
 rw[hte]
 clear hc hle hte
 generalize hres:(([67,68,88,66]:Bytes)++fixedL n)++zerosL 248=res at *
 have HRES:=Lib.hid hres
 clear hres
 generalize fixedL n=fl at *
 generalize hm:(248:Int).toNat=m at *
 clear hm
 go_enter Tryz.func77,Tryz.ntmps77
 go_wp2_with fail
 refine(HC.out _).mono ?_
 rintro e w1 ⟨rfl,q1⟩
 have HQ1:=Lib.hid q1
 clear q1
 go_wp2_with fail
 rw[HLE.out]
 generalize ([67,68,88,66]:Bytes)++fl=tt at *
 have km1:=km w1
 have hb1:=hb w1
 have hq:=Q.alloc w1 (.cells (madeCells #[.int .u8 0] m) 5)
 generalize w1.alloc (.cells (madeCells #[.int .u8 0] m) 5)=w2 at *
 have HQ2:=Lib.hid (HQ1.out.trans hq)
 clear km hb hq
 go_wp2_with fail
 go_ret
 exact⟨by rw[←HRES.out];exact congrArg (fun x=>Ending.returned (.string x)) (bytes_append _ _),HQ2.out⟩
structure RStG (w:World) (FJ:Nat→Prop) (sb b p:Nat) (tv:Value) (σ:StL):Prop where
 box:Blk w sb 120 #[ptrV p,.bool σ.open_,tv]
 jr:RJrnAt w FJ p b σ.j
 sF:¬FJ sb
 tx:SlO w FJ tv σ.tx.length 2 (wrVs σ.tx)
def RStAt(w:World)(F:Nat→Prop)(sb b:Nat)(σ:StL):Prop :=
 ∃FJ p tv,RStG w FJ sb b p tv σ∧(∀k,FJ k∨k=sb→F k)∧(∀g off n cap,tv=.slice (some ⟨g,off,none⟩) n cap→0<σ.tx.length→F g)∧(∀k,F k→k<w.heap.size)
theorem SlO.stay{w w':World}{F:Nat→Prop}{v:Value}{n size:Nat}{xs:List Value}(h:SlO w F v n size xs)(q:Q w w'):SlO w' F v n size xs :=
 ⟨h.1.stays q,fun hn=>by obtain⟨b,off,e,hb,hF⟩:=h.2 hn;exact⟨b,off,e,Nat.lt_of_lt_of_le hb q.size,hF⟩⟩
theorem RStG.keep{w w':World}{FJ:Nat→Prop}{sb b p:Nat}{tv:Value}{σ:StL}(h:RStG w FJ sb b p tv σ)(q:Q w w'):RStG w' FJ sb b p tv σ :=
 ⟨h.box.stays q,h.jr.keep q,h.sF,h.tx.stay q⟩
theorem RStAt.keep{w w':World}{F:Nat→Prop}{sb b:Nat}{σ:StL}(h:RStAt w F sb b σ)(q:Q w w'):RStAt w' F sb b σ:=by
 obtain⟨FJ,p,tv,h1,h2,h3,h4⟩:=h
 exact⟨FJ,p,tv,h1.keep q,h2,h3,fun k hk=>Nat.lt_of_lt_of_le (h4 k hk) q.size⟩
theorem Blk.c3f{w:World}{k:Nat}{t:TypeId}{a0 a1 a2:Value}(h:Blk w k t #[a0,a1,a2]):
  w.cell? ⟨k,0,none⟩=some a0∧w.cell? ⟨k,1,none⟩=some a1∧w.cell? ⟨k,2,none⟩=some a2∧w.frozen? ⟨k,0,none⟩=false∧w.frozen? ⟨k,1,none⟩=false∧w.frozen? ⟨k,2,none⟩=false :=
 ⟨h.cell 0 _ rfl,h.cell 1 _ rfl,h.cell 2 _ rfl,h.frozen 0,h.frozen 1,h.frozen 2⟩
section
variable {w:World} {FJ:Nat→Prop} {sb b p:Nat} {tv:Value} {σ:StL}
theorem RBlocks7_any(h:RStG w FJ sb b p tv σ):
  Calls Tryz.prog 49 #[ptrV sb] w fun e w'=>e=.returned (.int .i64 (σ.n:Nat))∧w=w':=by
 obtain⟨c0,_⟩:=h.box.c3f
 obtain⟨j0,_⟩:=h.jr.box.c8
 obtain⟨lv,pv,hd⟩:=h.jr.dev
 obtain⟨la,lc,rfl,_⟩:=hd.lcells
 obtain⟨d0,_⟩:=hd.box.c4
 have hn:σ.n=σ.j.d.l.length:=rfl
 rw[hn]
 clear h hd hn
 go_enter Tryz.func49,Tryz.ntmps49
 go_wp2
 go_ret
 exact⟨rfl,rfl⟩
theorem RFirst7_any(h:RStG w FJ sb b p tv σ)(hn:σ.n≤4096):
  Calls Tryz.prog 52 #[ptrV sb] w fun e w'=>e=.returned (.int .i64 (firstD σ.n:Nat))∧w=w':=by
 have hb:=RBlocks7_any h
 have hp:=RParts_any σ.n w (by omega)
 have hb2:partsN σ.n≤1000000:=by unfold partsN;omega
 have he:((firstD σ.n:Nat):Int)=63+(partsN σ.n:Int):=by unfold firstD;omega
 rw[he]
 have HB:=Lib.hid hb;have HP:=Lib.hid hp
 clear he hb hp h
 go_enter Tryz.func52,Tryz.ntmps52
 go_wp2_with fail
 refine HB.out.mono ?_
 rintro e w1 ⟨rfl,rfl⟩
 go_wp2_with fail
 refine HP.out.mono ?_
 rintro e w1 ⟨rfl,rfl⟩
 go_wp2_with fail
 go_ret
 exact⟨rfl,rfl⟩
theorem SlO.wcells(h:SlO w FJ tv σ.tx.length 2 (wrVs σ.tx)):∃a cap,tv=.slice a σ.tx.length cap∧∀k (hk:k<σ.tx.length),∃g off,a=some ⟨g,off,none⟩∧w.cell? ⟨g,off+k*2,none⟩=some (.int .i64 (σ.tx[k].1:Nat))∧w.cell? ⟨g,off+k*2+1,none⟩=some (strV σ.tx[k].2):=by
 obtain⟨a,cap,e,hc⟩:=h.value
 refine⟨a,cap,e,fun k hk=>?_⟩
 obtain⟨g,off,rfl,_,_,hcell⟩:=hc (by omega)
 have h1:=wrVs_at σ.tx k hk
 exact⟨g,off,rfl,hcell _ _ h1.1,by rw[Nat.add_assoc];exact hcell _ _ h1.2⟩
theorem lastP_at(l:List WrL)(hr:Rise l)(k:Nat)(hk:k<l.length)(s:Bytes):lastP l l[k].1 s=l[k].2:=by
 refine lastP_only l l[k] s (List.getElem_mem hk) (fun x hx e=>?_)
 obtain⟨j,hj,rfl⟩:=List.getElem_of_mem hx
 have hp:=List.pairwise_iff_getElem.1 hr
 rcases Nat.lt_trichotomy j k with h|h|h
 ·have:=hp j k hj hk h;omega
 ·subst h;rfl
 ·have:=hp k j hk hj h;omega
theorem RData7_any(h:RStG w FJ sb b p tv σ)(hn:σ.n≤4096)(hd:σ.dead=false)(hp:σ.j.d.p.length≤1000000)(hr:Rise σ.tx)(hl:σ.tx.length≤1000)(i:Nat)(hi:i<σ.n):
  Calls Tryz.prog 79 #[ptrV sb,.int .i64 (i:Nat)] w fun e w'=>e=.returned (strV (σ.get i))∧Q w w':=by
 have hrd:=RRead_any w FJ b σ.j.d (i:Nat) h.jr.dev hn (fun _=>hp)
 have hre:σ.j.d.read (i:Nat)=(σ.j.d.get i,0):=by unfold DevL.read;rw[DevL.chk_in hd i hi,if_pos rfl];rfl
 rw[hre] at hrd
 obtain⟨a,cap,rfl,hcell⟩:=h.tx.wcells
 obtain⟨c0,c1,c2,_⟩:=h.box.c3f
 obtain⟨j0,_⟩:=h.jr.box.c8
 have hhit:=fun (k:Nat) (hk:k<σ.tx.length) (e:σ.tx[k].1=i)=>(show σ.get i=σ.tx[k].2 from by unfold StL.get;rw[←e];exact lastP_at σ.tx hr k hk _)
 have hmiss:(∀k (hk:k<σ.tx.length),σ.tx[k].1≠i)→σ.get i=σ.j.d.get i:=fun hx=>by
  unfold StL.get
  exact lastP_none _ _ _ (fun x hx2 e=>by obtain⟨k,hk,rfl⟩:=List.getElem_of_mem hx2;exact hx k hk e)
 have HRD:=Lib.hid hrd;have HC:=Lib.hid hcell;have HH:=Lib.hid hhit;have HM:=Lib.hid hmiss
 clear hrd hre hcell hhit hmiss h hd hp hr hn
 generalize σ.get i=res at *
 generalize σ.j.d.get i=res0 at *
 go_enter Tryz.func79,Tryz.ntmps79
 go_wp2_with fail
 go_loop [5] (fun v=>∃k:Nat,v=.int .i64 (k:Nat)∧k≤σ.tx.length∧Hid (∀j (hj:j<σ.tx.length),j<k→σ.tx[j].1≠i)) (fun v=>σ.tx.length-(intOf v).toNat)
 case atStart=>exact⟨0,rfl,Nat.zero_le _,Lib.hid (fun j hj h=>by omega)⟩
 case round =>
  obtain⟨k,rfl,hk,HN⟩:=hrel
  by_cases hlt:k<σ.tx.length
  ·have hki:(k:Int)<(σ.tx.length:Int):=by omega
   have hk0:(0:Int)≤(k:Int):=by omega
   obtain⟨g,off,rfl,x1,x2⟩:=HC.out k hlt
   have hit:=HH.out k hlt
   have hnx:σ.tx[k].1≠i→∀j (hj:j<σ.tx.length),j<k+1→σ.tx[j].1≠i:=fun hne j hj h=>by
    by_cases e:j=k
    ·subst e;exact hne
    ·exact HN.out j hj (by omega)
   have HIT:=Lib.hid hit;have HNX:=Lib.hid hnx
   clear hit hnx HH HN
   generalize σ.tx[k]=x at *
   obtain⟨xi,xs⟩:=x
   simp only at x1 x2 HIT HNX
   by_cases he:xi=i
   ·have e1:((xi:Int)==(i:Int))=true:=by rw[he];exact beq_self_eq_true _
    have hres:=HIT.out he
    subst he
    subst hres
    go_wp2_with fail
    go_ret
    exact⟨rfl,Q.refl _⟩
   ·have e1:((xi:Int)==(i:Int))=false:=beq_eq_false_iff_ne.2 (by omega)
    have hnx:=HNX.out he
    have HNX2:=Lib.hid hnx
    clear hnx
    go_wp2_with fail
    go_round
    case rel=>exact⟨k+1,by go_num,by omega,HNX2⟩
    case measure=>simp[intOf];omega
  ·have hki:¬(k:Int)<(σ.tx.length:Int):=by omega
   have hres:=HM.out (fun j hj=>HN.out j hj (by omega))
   subst hres
   go_wp2_with fail
   refine HRD.out.mono ?_
   rintro e w1 ⟨rfl,q1⟩
   have HQ1:=Lib.hid q1
   clear q1
   go_wp2_with fail
   go_ret
   exact⟨rfl,HQ1.out⟩
def StL.bitsK(σ:StL)(k:Nat):Bytes:=((List.range k).map fun i=>σ.get (63+i)).flatten
theorem bitsK_succ(σ:StL)(k:Nat):σ.bitsK (k+1)=σ.bitsK k++σ.get (63+k):=by
 unfold StL.bitsK;rw[List.range_succ,List.map_append,List.flatten_append];simp
theorem StInv.bitsK{K:Nat}{σ:StL}{fr:List (List WrL)}{C:Nat→Bytes}(h:StInv K σ fr C):σ.bitsK (partsN σ.n)=σ.map1:=by
 have hf:=firstD_lt σ.n h.big h.max
 rw[h.now]
 unfold StL.bitsK mapC
 congr 1
 exact List.map_congr_left (fun i hi=>h.get _ (by omega) (by have:=List.mem_range.1 hi;unfold firstD at hf;omega))
theorem RBits7_any(h:RStG w FJ sb b p tv σ)(hb:128≤σ.n)(hn:σ.n≤4096)(hd:σ.dead=false)(hp:σ.j.d.p.length≤1000000)(hr:Rise σ.tx)(hl:σ.tx.length≤1000)(hg:∀i,i<σ.n→(σ.get i).length=256):
  Calls Tryz.prog 48 #[ptrV sb] w fun e w'=>e=.returned (strV (σ.bitsK (partsN σ.n)))∧Q w w':=by
 have hpn:63+partsN σ.n<σ.n∧partsN σ.n≤2:=by have:=firstD_lt σ.n hb hn;unfold firstD at this;omega
 have hda:=fun (W:World) (q:Q w W) (i:Nat) (hi:i<σ.n)=>RData7_any (h.keep q) hn hd hp hr hl i hi
 have hbl:=fun (W:World) (q:Q w W)=>RBlocks7_any (h.keep q)
 have hpa:=fun (W:World)=>RParts_any σ.n W (by omega)
 have hsu:=bitsK_succ σ
 have hle:∀k,k≤2→(σ.bitsK k).length=256*k:=fun k hk=>by
  match k,hk with
  | 0,_=>rfl
  | 1,_=>rw[hsu,List.length_append,hg _ (by omega)];rfl
  | 2,_=>rw[hsu,hsu,List.length_append,List.length_append,hg _ (by omega),hg _ (by omega)];rfl
 have HDA:=Lib.hid hda;have HBL:=Lib.hid hbl;have HPA:=Lib.hid hpa;have HSU:=Lib.hid hsu;have HLE:=Lib.hid hle;have HG:=Lib.hid hg
 have HPN:=Lib.hid hpn.1
 have hpn2:=hpn.2
 clear hda hbl hpa hsu hle hg hpn h hd hp hr hl
 generalize partsN σ.n=pn at *
 go_enter Tryz.func48,Tryz.ntmps48
 go_wp2_with fail
 go_loopw [3,4] (fun t i wr=>∃k:Nat,i=.int .i64 (k:Nat)∧k≤pn∧t=strV (σ.bitsK k)∧Hid (Q w wr)) (fun _ i _=>pn-(intOf i).toNat)
 case atStart=>exact⟨0,rfl,Nat.zero_le _,rfl,Lib.hid (Q.refl _)⟩
 case round =>
  obtain⟨k,rfl,hk,rfl,HQ⟩:=hrel
  have hln:=HLE.out k (by omega)
  have hst:=HSU.out k
  by_cases hlt:k<pn
  ·have hki:(k:Int)<(pn:Int):=by omega
   have hdk:=fun (W:World) (q:Q w W)=>HDA.out W q (63+k) (by have:=HPN.out;omega)
   have hgl:=HG.out (63+k) (by have:=HPN.out;omega)
   have HDK:=Lib.hid hdk;have HST:=Lib.hid hst
   clear hdk hst
   generalize σ.get (63+k)=gk at *
   generalize σ.bitsK k=bk at *
   go_wp2_with fail
   refine(HBL.out _ HQ.out).mono ?_
   rintro e w1 ⟨rfl,rfl⟩
   go_wp2_with fail
   refine(HPA.out _).mono ?_
   rintro e w1 ⟨rfl,rfl⟩
   go_wp2_with fail
   refine(HDK.out _ HQ.out).mono ?_
   rintro e w2 ⟨rfl,q2⟩
   have HQ2:=Lib.hid (HQ.out.trans q2)
   clear q2
   go_wp2_with fail
   rw[bytes_append]
   go_roundw
   case rel=>exact⟨k+1,by go_num,by omega,by rw[HST.out],HQ2⟩
   case measure=>simp[intOf];omega
  ·have hki:¬(k:Int)<(pn:Int):=by omega
   obtain rfl:k=pn:=by omega
   clear hst
   go_wp2_with fail
   refine(HBL.out _ HQ.out).mono ?_
   rintro e w1 ⟨rfl,rfl⟩
   go_wp2_with fail
   refine(HPA.out _).mono ?_
   rintro e w1 ⟨rfl,rfl⟩
   go_wp2_with fail
   go_ret
   exact⟨rfl,HQ.out⟩
end
end
section
open Go.RowKit
theorem with_lt(l m:List WrL)(w:WrL)(h:∀y∈l,y.1<w.1):withL (l++m) w=l++withL m w:=by
 induction l with
 | nil=>rfl
 | cons y l ih=>rw[List.cons_append,withL,if_pos (h y (List.mem_cons_self ..)),ih (fun x hx=>h x (List.mem_cons_of_mem _ hx))];rfl
theorem with_ge(l m:List WrL)(w:WrL)(h:∃y∈l,w.1≤y.1):withL (l++m) w=withL l w++m:=by
 induction l with
 | nil=>obtain⟨y,hy,_⟩:=h;simp at hy
 | cons y l ih =>
  rw[List.cons_append,withL,withL]
  by_cases h1:y.1<w.1
  ·rw[if_pos h1,if_pos h1,ih]
   ·rfl
   ·obtain⟨x,hx,hx2⟩:=h
    rcases List.mem_cons.1 hx with rfl|hx
    ·omega
    ·exact⟨x,hx,hx2⟩
  ·rw[if_neg h1,if_neg h1]
   by_cases h2:y.1=w.1
   ·rw[if_pos h2,if_pos h2];rfl
   ·rw[if_neg h2,if_neg h2];rfl
def withK(tx:List WrL)(w:WrL)(k:Nat):Bool×List WrL :=
 if ∃y∈tx.take k,w.1≤y.1 then(true,withL (tx.take k) w) else(false,tx.take k)
theorem withK_step(tx:List WrL)(w:WrL)(hr:Rise tx)(k:Nat)(hk:k<tx.length):
  withK tx w (k+1)=if (withK tx w k).1=true then(true,(withK tx w k).2++[tx[k]]) else
   if w.1≤tx[k].1 then(true,if tx[k].1=w.1 then(withK tx w k).2++[w] else(withK tx w k).2++[w]++[tx[k]]) else(false,(withK tx w k).2++[tx[k]]):=by
 have hs:tx.take (k+1)=tx.take k++[tx[k]]:=List.take_succ_eq_append_getElem hk
 unfold withK
 rw[hs]
 by_cases h:∃y∈tx.take k,w.1≤y.1
 ·rw[if_pos h,if_pos (by obtain⟨y,hy,h2⟩:=h;exact⟨y,List.mem_append.2 (.inl hy),h2⟩),if_pos rfl,with_ge _ _ _ h]
 ·have e0:(if (∃y∈tx.take k,w.1≤y.1) then(true,withL (tx.take k) w) else(false,tx.take k))=(false,tx.take k):=if_neg h
  rw[e0]
  simp only[Bool.false_eq_true,if_false]
  have hl:∀y∈tx.take k,y.1<w.1:=fun y hy=>by
   rcases Nat.lt_or_ge y.1 w.1 with h1|h1
   ·exact h1
   ·exact absurd ⟨y,hy,h1⟩ h
  by_cases h2:w.1≤tx[k].1
  ·rw[if_pos ⟨tx[k],List.mem_append.2 (.inr (List.mem_singleton.2 rfl)),h2⟩,if_pos h2,with_lt _ _ _ hl,withL,if_neg (by omega)]
   by_cases h3:tx[k].1=w.1
   ·rw[if_pos h3,if_pos h3]
   ·rw[if_neg h3,if_neg h3];simp
  ·rw[if_neg (by
    rintro⟨y,hy,h4⟩
    rcases List.mem_append.1 hy with hy|hy
    ·exact h ⟨y,hy,h4⟩
    ·rw[List.mem_singleton.1 hy] at h4;exact h2 h4),if_neg h2]
theorem withK_end(tx:List WrL)(w:WrL):withL tx w=if (withK tx w tx.length).1=true then(withK tx w tx.length).2 else(withK tx w tx.length).2++[w]:=by
 unfold withK
 rw[List.take_length]
 by_cases h:∃y∈tx,w.1≤y.1
 ·rw[if_pos h,if_pos rfl]
 ·rw[if_neg h]
  simp only[Bool.false_eq_true,if_false]
  have hl:∀y∈tx,y.1<w.1:=fun y hy=>by
   rcases Nat.lt_or_ge y.1 w.1 with h1|h1
   ·exact h1
   ·exact absurd ⟨y,hy,h1⟩ h
  have:=with_lt tx [] w hl
  rw[List.append_nil] at this
  exact this
theorem withK_ne(tx:List WrL)(w:WrL)(hr:Rise tx)(k:Nat)(hk:k<tx.length)(h:(withK tx w k).1=true):tx[k].1≠w.1∧¬tx[k].1<w.1:=by
 unfold withK at h
 split at h
 ·rename_i h1
  obtain⟨y,hy,h2⟩:=h1
  obtain⟨j,hj,rfl⟩:=List.getElem_of_mem hy
  rw[List.length_take] at hj
  have:=List.pairwise_iff_getElem.1 hr j k (by omega) hk (by omega)
  rw[List.getElem_take] at h2
  omega
 ·simp at h
theorem withK_len(tx:List WrL)(w:WrL)(k:Nat):(withK tx w k).2.length≤k+1:=by
 unfold withK
 split
 ·have:∀l:List WrL,(withL l w).length≤l.length+1:=fun l=>by
   induction l with
   | nil=>exact Nat.le_refl _
   | cons y l ih =>
    rw[withL]
    split
    ·simp only[List.length_cons];omega
    ·split<;>simp only[List.length_cons]<;>omega
  have h1:=this (tx.take k)
  rw[List.length_take] at h1
  show(withL (tx.take k) w).length≤k+1
  omega
 ·show(tx.take k).length≤k+1
  rw[List.length_take];omega
theorem Sl.wcells{w:World}{v:Value}{tx:List WrL}(h:Sl w v tx.length 2 (wrVs tx)):∃a cap,v=.slice a tx.length cap∧∀k (hk:k<tx.length),∃g off,a=some ⟨g,off,none⟩∧w.cell? ⟨g,off+k*2,none⟩=some (.int .i64 (tx[k].1:Nat))∧w.cell? ⟨g,off+k*2+1,none⟩=some (strV tx[k].2):=by
 obtain⟨a,cap,rfl,hc⟩:=h.value
 refine⟨a,cap,rfl,fun k hk=>?_⟩
 obtain⟨g,off,rfl,hcell⟩:=hc (by omega)
 have h1:=wrVs_at tx k hk
 exact⟨g,off,rfl,hcell _ _ h1.1,by rw[Nat.add_assoc];exact hcell _ _ h1.2⟩
theorem wrVs_snoc(l:List WrL)(x:Nat)(s:Bytes):wrVs l++(#[Value.int .i64 (x:Nat),strV s]:Array Value).toList=wrVs (l++[(x,s)]):=by
 rw[wrVs_append];rfl
theorem RWith_any(w:World)(tv:Value)(tx:List WrL)(i:Nat)(s:Bytes)(h:Sl w tv tx.length 2 (wrVs tx))(hr:Rise tx)(hl:tx.length≤1000)(hi0:i≤1000000):
  Calls Tryz.prog 90 #[tv,.agg #[.int .i64 (i:Nat),strV s]] w fun e w'=>∃v,e=.returned v∧w'.ownsRow w.heap.size 102 2 v (withL tx (i,s)).length (wrVs (withL tx (i,s)))∧Q w w':=by
 obtain⟨i0,hi,hz0,hz1,hz2⟩:=info_parts tinfoWr
 obtain⟨wa,hwa⟩:∃wa,wa=w.alloc (.cells #[.int .i64 (i:Nat),strV s] 102):=⟨_,rfl⟩
 have qa:Q w wa:=by rw[hwa];exact Q.alloc _ _
 have hbx:Blk wa w.heap.size 102 #[.int .i64 (i:Nat),strV s]:=by rw[hwa];exact Blk.new w _ _
 have b0:=hbx.cell 0 _ rfl
 have b1:=hbx.cell 1 _ rfl
 obtain⟨ta,tc,rfl,hcell⟩:=(h.stays qa).wcells
 have hstep:=fun (k:Nat) (hk:k<tx.length)=>withK_step tx (i,s) hr k hk
 have hne:=fun (k:Nat) (hk:k<tx.length)=>withK_ne tx (i,s) hr k hk
 have hlen:=withK_len tx (i,s)
 have hend:=withK_end tx (i,s)
 have h00:withK tx (i,s) 0=(false,[]):=by unfold withK;rw[List.take_zero,if_neg (by simp)]
 have HS:=Lib.hid hstep;have HN:=Lib.hid hne;have HL:=Lib.hid hlen;have HE:=Lib.hid hend;have HC:=Lib.hid hcell;have QA:=Lib.hid qa;have H00:=Lib.hid h00
 have B0:=Lib.hid b0;have B1:=Lib.hid b1
 clear hstep hne hlen hend hcell qa h00 h hr hbx b0 b1
 simp only at HS HN
 generalize hres:withL tx (i,s)=res at *
 clear hres
 generalize hwk:withK tx (i,s)=wk at *
 clear hwk
 have hone:∀(x:Nat) (y:Bytes),∀u∈(#[Value.int .i64 (x:Nat),strV y]:Array Value).toList,u.oneCell'=true:=fun x y u hu=>by simp at hu;rcases hu with rfl|rfl<;>rfl
 have HON:=Lib.hid hone
 clear hone
 go_enter Tryz.func90,Tryz.ntmps90
 go_wp2_with fail
 rw[←hwa]
 clear hwa
 go_loopw [5,6,7] (fun ov dv iv wr=>∃k:Nat,iv=.int .i64 (k:Nat)∧k≤tx.length∧dv=.bool (wk k).1∧Hid (wr.ownsRow wa.heap.size 102 2 ov (wk k).2.length (wrVs (wk k).2))∧Hid (Q wa wr)) (fun _ _ iv _=>tx.length-(intOf iv).toNat)
 case atStart=>exact⟨0,rfl,Nat.zero_le _,by rw[H00.out],by rw[H00.out];exact Lib.hid (World.ownsRow_nil _ _ _ _),Lib.hid (Q.refl _)⟩
 case round =>
  obtain⟨k,rfl,hk,rfl,HO,HQ⟩:=hrel
  have hlk:=HL.out k
  have z0:=cellQ HQ.out B0.out;have z1:=cellQ HQ.out B1.out
  by_cases hlt:k<tx.length
  ·have hki:(k:Int)<(tx.length:Int):=by omega
   have hk0:(0:Int)≤(k:Int):=by omega
   obtain⟨g,off,rfl,x0,x1⟩:=HC.out k hlt
   have y0:=cellQ HQ.out x0;have y1:=cellQ HQ.out x1
   have hst:=HS.out k hlt
   have hnk:=HN.out k hlt
   have HST:=Lib.hid hst;have HNK:=Lib.hid hnk
   have HX0:=Lib.hid x0;have HX1:=Lib.hid x1
   clear hst hnk x0 x1 HS HN
   generalize tx[k]=tk at *
   obtain⟨xi,xs⟩:=tk
   simp only at y0 y1 HST HNK HX0 HX1
   generalize wk k=wkk at *
   obtain⟨dn,ol⟩:=wkk
   simp only at HO HST HNK hlk
   have hxi:xi≤1000000∨1000000<xi:=by omega
   cases dn with
   | true =>
    obtain⟨hne,hnl⟩:=HNK.out rfl
    have hneb:((xi:Int)==(i:Int))=false:=beq_eq_false_iff_ne.2 (by omega)
    have hst:=HST.out
    rw[if_pos rfl] at hst
    have HS2:=Lib.hid hst
    have hneb:((xi:Int) != (i:Int))=true:=by rw[bne,beq_eq_false_iff_ne.2 (by omega)];rfl
    have hneb:((xi:Int) != (i:Int))=true:=by rw[bne,beq_eq_false_iff_ne.2 (by omega)];rfl
    have hneb:((xi:Int) != (i:Int))=true:=by rw[bne,beq_eq_false_iff_ne.2 (by omega)];rfl
    clear hst HST HNK hne hnl
    go_wp2_with fail
    go_quiet (fail)
    obtain⟨n1,rfl⟩:∃n1,n1=nq:=⟨_,rfl⟩
    go_wp2_with fail
    go_quiet (fail)
    obtain⟨n2,rfl⟩:∃n2,n2=nq:=⟨_,rfl⟩
    have hq:=HQ.out.trans (Q.drewN wr (n1+n2))
    have hown:=ownsRow_below HO.out (Q.drewN wr (n1+n2))
    go_wp2_with (at_builtin;go_must (refine wpList_app _ (by rfl) _ _ 49 (by rfl) wa.heap.size 102 _ i0 (.agg #[.int .i64 0,strV []]) 2 24 Tryz.underlying49 hi hz0 hz1 hz2 rfl (by decide) (by decide) _ _ _ (by rfl) hown #[.int .i64 (xi:Nat),strV xs] (by rfl) rfl (HON.out _ _) (by first|omega|(simp only[List.length_append,List.length_cons,List.length_nil];omega)) hq.size ?_))
    intro g7 cap7 w7 hr7 hg7 ho7 hlt7 hltt7
    have q7:Q wa w7:=grown_below hq hown hg7 (Nat.le_refl _) hq.size
    rw[wrVs_snoc] at hr7
    clear hown hg7 ho7 hlt7 hltt7
    have HO7:=Lib.hid hr7;have HQ7:=Lib.hid q7
    clear hr7 q7 HO HQ
    go_wp2_with fail
    go_roundw
    case rel=>exact⟨k+1,by go_num,by omega,by rw[HS2.out],by rw[HS2.out];simp only[List.length_append,List.length_cons,List.length_nil,Nat.zero_add];exact HO7,HQ7⟩
    case measure=>simp[intOf];omega
   | false =>
    have hst:=HST.out
    rw[if_neg (by decide)] at hst
    by_cases hge:i≤xi
    ·have hgi:(i:Int)≤(xi:Int):=by omega
     rw[if_pos hge] at hst
     by_cases heq:xi=i
     ·rw[if_pos heq] at hst
      have hneb:((xi:Int) != (i:Int))=false:=by rw[bne,beq_iff_eq.2 (by omega)];rfl
      have HS2:=Lib.hid hst
      clear hst HST HNK heq hge
      go_wp2_with fail
      go_quiet (fail)
      obtain⟨n1,rfl⟩:∃n1,n1=nq:=⟨_,rfl⟩
      have hq:=HQ.out.trans (Q.drewN wr n1)
      have hown:=ownsRow_below HO.out (Q.drewN wr n1)
      go_wp2_with (at_builtin;go_must (refine wpList_app _ (by rfl) _ _ 49 (by rfl) wa.heap.size 102 _ i0 (.agg #[.int .i64 0,strV []]) 2 24 Tryz.underlying49 hi hz0 hz1 hz2 rfl (by decide) (by decide) _ _ _ (by rfl) hown #[.int .i64 (i:Nat),strV s] (by rfl) rfl (HON.out _ _) (by first|omega|(simp only[List.length_append,List.length_cons,List.length_nil];omega)) hq.size ?_))
      intro g7 cap7 w7 hr7 hg7 ho7 hlt7 hltt7
      have q7:Q wa w7:=grown_below hq hown hg7 (Nat.le_refl _) hq.size
      rw[wrVs_snoc] at hr7
      clear hown hg7 ho7 hlt7 hltt7
      have HO7:=Lib.hid hr7;have HQ7:=Lib.hid q7
      have z0:=cellQ HQ7.out B0.out
      have y0:=cellQ HQ7.out HX0.out
      clear hr7 q7 HO HQ
      go_wp2_with fail
      go_quiet (fail)
      go_wp2_with fail
      go_roundw
      case rel=>exact⟨k+1,by go_num,by omega,by rw[HS2.out],by rw[HS2.out];simp only[List.length_append,List.length_cons,List.length_nil,Nat.zero_add];exact Lib.hid (ownsRow_below HO7.out (Q.drewN _ _)),Lib.hid (HQ7.out.trans (Q.drewN _ _))⟩
      case measure=>simp[intOf];omega
     ·rw[if_neg heq] at hst
      have hneb:((xi:Int) != (i:Int))=true:=by rw[bne,beq_eq_false_iff_ne.2 (by omega)];rfl
      have HS2:=Lib.hid hst
      clear hst HST HNK heq hge
      go_wp2_with fail
      go_quiet (fail)
      obtain⟨n1,rfl⟩:∃n1,n1=nq:=⟨_,rfl⟩
      have hq:=HQ.out.trans (Q.drewN wr n1)
      have hown:=ownsRow_below HO.out (Q.drewN wr n1)
      go_wp2_with (at_builtin;go_must (refine wpList_app _ (by rfl) _ _ 49 (by rfl) wa.heap.size 102 _ i0 (.agg #[.int .i64 0,strV []]) 2 24 Tryz.underlying49 hi hz0 hz1 hz2 rfl (by decide) (by decide) _ _ _ (by rfl) hown #[.int .i64 (i:Nat),strV s] (by rfl) rfl (HON.out _ _) (by first|omega|(simp only[List.length_append,List.length_cons,List.length_nil];omega)) hq.size ?_))
      intro g7 cap7 w7 hr7 hg7 ho7 hlt7 hltt7
      have q7:Q wa w7:=grown_below hq hown hg7 (Nat.le_refl _) hq.size
      rw[wrVs_snoc] at hr7
      clear hown hg7 ho7 hlt7 hltt7
      have HO7:=Lib.hid hr7;have HQ7:=Lib.hid q7
      have z0:=cellQ HQ7.out B0.out
      have y0:=cellQ HQ7.out HX0.out
      have y1:=cellQ HQ7.out HX1.out
      clear hr7 q7 HO HQ
      go_wp2_with fail
      go_quiet (fail)
      have hq:=HQ7.out.trans (Q.drewN w7 nq)
      have hown:=ownsRow_below HO7.out (Q.drewN w7 nq)
      go_wp2_with (at_builtin;go_must (refine wpList_app _ (by rfl) _ _ 49 (by rfl) wa.heap.size 102 _ i0 (.agg #[.int .i64 0,strV []]) 2 24 Tryz.underlying49 hi hz0 hz1 hz2 rfl (by decide) (by decide) _ _ _ (by rfl) hown #[.int .i64 (xi:Nat),strV xs] (by rfl) rfl (HON.out _ _) (by first|omega|(simp only[List.length_append,List.length_cons,List.length_nil];omega)) hq.size ?_))
      intro g9 cap9 w9 hr9 hg9 ho9 hlt9 hltt9
      have q9:Q wa w9:=grown_below hq hown hg9 (Nat.le_refl _) hq.size
      rw[wrVs_snoc] at hr9
      clear hown hg9 ho9 hlt9 hltt9
      have HO9:=Lib.hid hr9;have HQ9:=Lib.hid q9
      clear hr9 q9 HO7 HQ7
      go_wp2_with fail
      go_roundw
      case rel=>exact⟨k+1,by go_num,by omega,by rw[HS2.out],by rw[HS2.out];simp only[List.length_append,List.length_cons,List.length_nil,Nat.zero_add];exact HO9,HQ9⟩
      case measure=>simp[intOf];omega
    ·have hgi:¬(i:Int)≤(xi:Int):=by omega
     rw[if_neg hge] at hst
     have hneb:((xi:Int) != (i:Int))=true:=by rw[bne,beq_eq_false_iff_ne.2 (by omega)];rfl
     have HS2:=Lib.hid hst
     clear hst HST HNK hge
     go_wp2_with fail
     go_quiet (fail)
     obtain⟨n1,rfl⟩:∃n1,n1=nq:=⟨_,rfl⟩
     go_wp2_with fail
     go_quiet (fail)
     obtain⟨n2,rfl⟩:∃n2,n2=nq:=⟨_,rfl⟩
     have hq:=HQ.out.trans (Q.drewN wr (n1+n2))
     have hown:=ownsRow_below HO.out (Q.drewN wr (n1+n2))
     go_wp2_with (at_builtin;go_must (refine wpList_app _ (by rfl) _ _ 49 (by rfl) wa.heap.size 102 _ i0 (.agg #[.int .i64 0,strV []]) 2 24 Tryz.underlying49 hi hz0 hz1 hz2 rfl (by decide) (by decide) _ _ _ (by rfl) hown #[.int .i64 (xi:Nat),strV xs] (by rfl) rfl (HON.out _ _) (by first|omega|(simp only[List.length_append,List.length_cons,List.length_nil];omega)) hq.size ?_))
     intro g7 cap7 w7 hr7 hg7 ho7 hlt7 hltt7
     have q7:Q wa w7:=grown_below hq hown hg7 (Nat.le_refl _) hq.size
     rw[wrVs_snoc] at hr7
     clear hown hg7 ho7 hlt7 hltt7
     have HO7:=Lib.hid hr7;have HQ7:=Lib.hid q7
     clear hr7 q7 HO HQ
     go_wp2_with fail
     go_roundw
     case rel=>exact⟨k+1,by go_num,by omega,by rw[HS2.out],by rw[HS2.out];simp only[List.length_append,List.length_cons,List.length_nil,Nat.zero_add];exact HO7,HQ7⟩
     case measure=>simp[intOf];omega
  ·have hki:¬(k:Int)<(tx.length:Int):=by omega
   obtain rfl:k=tx.length:=by omega
   have hend:=HE.out
   generalize wk tx.length=wkk at *
   obtain⟨dn,ol⟩:=wkk
   simp only at HO hend hlk
   cases dn with
   | true =>
    rw[if_pos rfl] at hend
    have HE2:=Lib.hid hend
    clear hend HE
    go_wp2_with fail
    go_ret
    exact⟨_,rfl,by rw[HE2.out];exact owns_low HO.out QA.out.size,QA.out.trans HQ.out⟩
   | false =>
    rw[if_neg (by decide)] at hend
    have HE2:=Lib.hid hend
    clear hend HE
    have hq:=HQ.out
    have hown:=HO.out
    go_wp2_with (at_builtin;go_must (refine wpList_app _ (by rfl) _ _ 49 (by rfl) wa.heap.size 102 _ i0 (.agg #[.int .i64 0,strV []]) 2 24 Tryz.underlying49 hi hz0 hz1 hz2 rfl (by decide) (by decide) _ _ _ (by rfl) hown #[.int .i64 (i:Nat),strV s] (by rfl) rfl (HON.out _ _) (by first|omega|(simp only[List.length_append,List.length_cons,List.length_nil];omega)) hq.size ?_))
    intro g7 cap7 w7 hr7 hg7 ho7 hlt7 hltt7
    have q7:Q wa w7:=grown_below hq hown hg7 (Nat.le_refl _) hq.size
    rw[wrVs_snoc] at hr7
    clear hown hg7 ho7 hlt7 hltt7
    have HO7:=Lib.hid hr7;have HQ7:=Lib.hid q7
    clear hr7 q7 HO HQ
    go_wp2_with fail
    go_ret
    exact⟨_,rfl,by rw[HE2.out];simp only[List.length_append,List.length_cons,List.length_nil,Nat.zero_add];exact owns_low HO7.out QA.out.size,QA.out.trans HQ7.out⟩
end
section
open Go.RowKit
structure RKnow (σ:StL):Prop where
 num:StNum σ
 bits:σ.dead=false→σ.bitsK (partsN σ.n)=σ.map1
theorem StInv.know{K:Nat}{σ:StL}{fr:List (List WrL)}{C:Nat→Bytes}(h:StInv K σ fr C)(hK:K<18446744073709551616):RKnow σ:=⟨h.num hK,fun _=>h.bitsK⟩
theorem Sl.set{w:World}{v:Value}{n size:Nat}{xs:List Value}(h:Sl w v n size xs){k i:Nat}(u:Value)(hne:∀g off cap,v=.slice (some ⟨g,off,none⟩) n cap→0<n→g≠k):Sl (w.setCell ⟨k,i,none⟩ u) v n size xs:=by
 have t:Turn (fun x=>x=k) w (w.setCell ⟨k,i,none⟩ u):=(Turn.refl (fun x=>x=k) w).setCell (a:=⟨k,i,none⟩) (.inl rfl) u
 obtain⟨hl,a',cap,rfl,hc⟩:=h
 refine⟨hl,a',cap,rfl,fun hn=>?_⟩
 obtain⟨b,off,rfl,hcell⟩:=hc hn
 exact⟨b,off,rfl,fun j u hj=>t.cell (hcell j u hj) (hne b off cap rfl hn)⟩
theorem row_not_box{w:World}{v:Value}{l:List WrL}{sb p:Nat}{o:Bool}{tv:Value}(h:Sl w v l.length 2 (wrVs l))(hb:Blk w sb 120 #[ptrV p,.bool o,tv])(ht:∃a n c,tv=.slice a n c):∀g off cap,v=.slice (some ⟨g,off,none⟩) l.length cap→0<l.length→g≠sb:=by
 rintro g off cap rfl hn rfl
 obtain⟨hl,a',cap',he,hc⟩:=h
 obtain⟨b,off',rfl,hcell⟩:=hc hn
 simp only[Value.slice.injEq,Option.some.injEq,Addr.mk.injEq] at he
 obtain⟨⟨rfl,rfl,_⟩,_,_⟩:=he
 obtain⟨ta,tn,tc,rfl⟩:=ht
 cases l with
 | nil=>simp at hn
 | cons x l =>
  have h0:=hcell 0 (.int .i64 (x.1:Nat)) rfl
  rw[show w.cell? ⟨g,off+0,none⟩=(#[ptrV p,.bool o,.slice ta tn tc]:Array Value)[off+0]? by simp only[World.cell?,show w.heap[g]?=_ from hb];rfl] at h0
  match off with
  | 0=>simp[ptrV] at h0
  | 1=>simp at h0
  | 2=>simp at h0
  | k+3=>simp at h0
section
variable {w:World} {FJ:Nat→Prop} {sb b p:Nat} {tv:Value} {σ:StL}
theorem RStG.slice(h:RStG w FJ sb b p tv σ):∃a n c,tv=.slice a n c:=by
 obtain⟨a,cap,e,_⟩:=h.tx.value
 exact⟨a,_,cap,e⟩
theorem RStG.congr{τ:StL}(h:RStG w FJ sb b p tv σ)(h1:τ.open_=σ.open_)(h2:τ.tx=σ.tx)(h3:τ.j=σ.j):RStG w FJ sb b p tv τ :=
 ⟨by rw[h1];exact h.box,by rw[h3];exact h.jr,h.sF,by rw[h2];exact h.tx⟩
theorem RStG.setTx(h:RStG w FJ sb b p tv σ)(lv:Value)(l:List WrL)(hs:SlO w FJ lv l.length 2 (wrVs l)):RStG (w.setCell ⟨sb,2,none⟩ lv) FJ sb b p lv { σ with tx:=l }:=by
 have t:Turn (fun x=>x=sb) w (w.setCell ⟨sb,2,none⟩ lv):=(Turn.refl (fun x=>x=sb) w).setCell (a:=⟨sb,2,none⟩) (.inl rfl) lv
 have hn:=row_not_box hs.1 h.box h.slice
 refine⟨?_,?_,h.sF,⟨hs.1.set lv hn,fun hl=>?_⟩⟩
 ·have:=h.box.set 2 lv
  exact this
 ·exact h.jr.beside t (fun k hk e=>h.sF (by rw[←e];exact hk))
 ·obtain⟨g,off,e,h1,h2⟩:=hs.2 hl
  exact⟨g,off,e,Nat.lt_of_lt_of_le h1 t.size,h2⟩
theorem RStG.setOpen(h:RStG w FJ sb b p tv σ)(o:Bool):RStG (w.setCell ⟨sb,1,none⟩ (.bool o)) FJ sb b p tv { σ with open_:=o }:=by
 have t:Turn (fun x=>x=sb) w (w.setCell ⟨sb,1,none⟩ (.bool o)):=(Turn.refl (fun x=>x=sb) w).setCell (a:=⟨sb,1,none⟩) (.inl rfl) _
 have hn:=row_not_box h.tx.1 h.box h.slice
 refine⟨?_,?_,h.sF,⟨h.tx.1.set _ hn,fun hl=>?_⟩⟩
 ·have:=h.box.set 1 (.bool o)
  exact this
 ·exact h.jr.beside t (fun k hk e=>h.sF (by rw[←e];exact hk))
 ·obtain⟨g,off,e,h1,h2⟩:=h.tx.2 hl
  exact⟨g,off,e,Nat.lt_of_lt_of_le h1 t.size,h2⟩
theorem RReady_any(h:RStG w FJ sb b p tv σ):
  Calls Tryz.prog 87 #[ptrV sb] w fun e w'=>e=.returned (.int .i64 (σ.state true))∧w=w':=by
 obtain⟨c0,c1,_⟩:=h.box.c3f
 obtain⟨j0,_⟩:=h.jr.box.c8
 obtain⟨lv,pv,hd⟩:=h.jr.dev
 obtain⟨d0,d1,d2,d3,_⟩:=hd.box.c4
 have hs:σ.state true=if σ.j.d.dead=true then 4 else if σ.open_=true then 0 else 15:=rfl
 rw[hs]
 clear h hd hs
 generalize σ.j.d.dead=dd at *
 generalize σ.open_=oo at *
 cases dd with
 | true =>
  go_enter Tryz.func87,Tryz.ntmps87
  go_wp2
  go_ret
  exact⟨rfl,rfl⟩
 | false =>
  cases oo with
  | true =>
   go_enter Tryz.func87,Tryz.ntmps87
   go_wp2
   go_ret
   exact⟨rfl,rfl⟩
  | false =>
   go_enter Tryz.func87,Tryz.ntmps87
   go_wp2
   go_ret
   exact⟨rfl,rfl⟩
theorem ROurs_any(h:RStG w FJ sb b p tv σ)(hn:σ.n≤4096)(i:Int):
  Calls Tryz.prog 88 #[ptrV sb,.int .i64 i] w fun e w'=>e=.returned (.bool (σ.isData i))∧w=w':=by
 have hb:=RBlocks7_any h
 have hf:=RFirst7_any h hn
 have hd:σ.isData i=decide ((firstD σ.n:Int)≤i∧i<(σ.n:Int)):=rfl
 rw[hd]
 have HB:=Lib.hid hb;have HF:=Lib.hid hf
 clear hb hf h hd
 generalize firstD σ.n=fd at *
 generalize σ.n=n at *
 by_cases h1:(fd:Int)≤i
 ·by_cases h2:i<(n:Int)
  ·rw[decide_eq_true ⟨h1,h2⟩]
   go_enter Tryz.func88,Tryz.ntmps88
   go_wp2_with fail
   refine HF.out.mono ?_
   rintro e w1 ⟨rfl,rfl⟩
   go_wp2_with fail
   refine HB.out.mono ?_
   rintro e w1 ⟨rfl,rfl⟩
   go_wp2_with fail
   go_ret
   exact⟨rfl,rfl⟩
  ·rw[decide_eq_false (fun hc=>h2 hc.2)]
   go_enter Tryz.func88,Tryz.ntmps88
   go_wp2_with fail
   refine HF.out.mono ?_
   rintro e w1 ⟨rfl,rfl⟩
   go_wp2_with fail
   refine HB.out.mono ?_
   rintro e w1 ⟨rfl,rfl⟩
   go_wp2_with fail
   go_ret
   refine⟨?_,rfl⟩
   show Ending.returned (Value.bool (decide (i<(n:Int))))=_
   rw[decide_eq_false (show ¬(i<(n:Int)) by omega)]
 ·rw[decide_eq_false (fun hc=>h1 hc.1)]
  go_enter Tryz.func88,Tryz.ntmps88
  go_wp2_with fail
  refine HF.out.mono ?_
  rintro e w1 ⟨rfl,rfl⟩
  go_wp2_with fail
  go_ret
  exact⟨rfl,rfl⟩
theorem RTouch_any(h:RStG w FJ sb b p tv σ)(lv:Value)(l:List WrL)(hl:l.length≤100000)(hs:SlO w FJ lv l.length 2 (wrVs l)):
  Calls Tryz.prog 89 #[ptrV sb,lv] w fun e w'=>e=.returned (.int .i64 (if l.length>48 then 6 else 0)) ∧
   w'=(if l.length>48 then w else w.setCell ⟨sb,2,none⟩ lv):=by
 obtain⟨a,cap,rfl,_⟩:=hs.value
 obtain⟨c0,c1,c2,f0,f1,f2⟩:=h.box.c3f
 clear h hs
 by_cases h1:l.length>48
 ·rw[if_pos h1,if_pos h1]
  have hi:(48:Int)<(l.length:Int):=by omega
  go_enter Tryz.func89,Tryz.ntmps89
  go_wp2
  go_ret
  exact⟨rfl,rfl⟩
 ·rw[if_neg h1,if_neg h1]
  have hi:¬(48:Int)<(l.length:Int):=by omega
  go_enter Tryz.func89,Tryz.ntmps89
  go_wp2
  go_ret
  exact⟨rfl,rfl⟩
theorem RBegin7_any(h:RStG w FJ sb b p tv σ):
  Calls Tryz.prog 39 #[ptrV sb] w fun e w'=>e=.returned (.int .i64 σ.begin.2)∧RStG w' FJ sb b p tv σ.begin.1∧(w'=w∨∃v,w'=w.setCell ⟨sb,1,none⟩ v):=by
 obtain⟨c0,c1,c2,f0,f1,f2⟩:=h.box.c3f
 obtain⟨j0,_⟩:=h.jr.box.c8
 obtain⟨lv,pv,hd⟩:=h.jr.dev
 obtain⟨d0,d1,d2,d3,_⟩:=hd.box.c4
 have hdd:σ.dead=σ.j.d.dead:=rfl
 have hs:σ.state false=if σ.j.d.dead=true then 4 else if σ.open_=false then 0 else 15:=rfl
 cases hdv:σ.j.d.dead with
 | true =>
  rw[hdv,if_pos rfl] at hs
  have hb:σ.begin=(σ,4):=by unfold StL.begin;rw[hs,if_pos (by decide)]
  rw[hb]
  rw[hdv] at d3
  have H:=Lib.hid h
  clear h hd hs hb hdd hdv
  go_enter Tryz.func39,Tryz.ntmps39
  go_wp2
  go_ret
  exact⟨rfl,H.out,.inl rfl⟩
 | false =>
  rw[hdv,if_neg (by decide)] at hs
  rw[hdv] at d3
  cases hov:σ.open_ with
  | true =>
   rw[hov,if_neg (by decide)] at hs
   have hb:σ.begin=(σ,15):=by unfold StL.begin;rw[hs,if_pos (by decide)]
   rw[hb]
   rw[hov] at c1
   have H:=Lib.hid h
   clear h hd hs hb hdd hdv hov
   go_enter Tryz.func39,Tryz.ntmps39
   go_wp2
   go_ret
   exact⟨rfl,H.out,.inl rfl⟩
  | false =>
   rw[hov,if_pos rfl] at hs
   have hb:σ.begin=({ σ with open_:=true,was:=σ.map1 },0):=by unfold StL.begin;rw[hs,if_neg (by decide)]
   rw[hb]
   rw[hov] at c1
   have H:=Lib.hid ((h.setOpen true).congr (τ:={ σ with open_:=true,was:=σ.map1 }) rfl rfl rfl)
   clear h hd hs hb hdd hdv hov
   go_enter Tryz.func39,Tryz.ntmps39
   go_wp2
   go_ret
   exact⟨rfl,H.out,.inr ⟨_,rfl⟩⟩
theorem RAbort7_any(h:RStG w FJ sb b p tv σ):
  Calls Tryz.prog 41 #[ptrV sb] w fun e w'=>e=.returned (.tuple #[])∧w'=(w.setCell ⟨sb,1,none⟩ (.bool false)).setCell ⟨sb,2,none⟩ (.slice none 0 0):=by
 obtain⟨c0,c1,c2,f0,f1,f2⟩:=h.box.c3f
 have h1:=(h.setOpen false).box.c3f
 obtain⟨e0,e1,e2,g0,g1,g2⟩:=h1
 clear h
 go_enter Tryz.func41,Tryz.ntmps41
 go_wp2
 go_end0
 exact⟨rfl,rfl⟩
theorem RStG.shut(h:RStG w FJ sb b p tv σ):RStG ((w.setCell ⟨sb,1,none⟩ (.bool false)).setCell ⟨sb,2,none⟩ (.slice none 0 0)) FJ sb b p (.slice none 0 0) { σ with open_:=false,tx:=[] } :=
 ((h.setOpen false).setTx (.slice none 0 0) [] ⟨Sl.nil _ _,fun hn=>absurd hn (Nat.lt_irrefl 0)⟩)
theorem RKnow.data(hk:RKnow σ)(hd:σ.dead=false):(∀i,i<σ.n→(σ.get i).length=256)∧σ.j.d.p.length≤1000000∧Rise σ.tx∧σ.tx.length≤1000:=by
 obtain⟨jn,ju,jh,ht,hl,hr,hg⟩:=hk.num.num hd
 refine⟨fun i hi=>?_,Nat.le_trans (jn.plen hd) (by decide),hr,by omega⟩
 unfold StL.get
 by_cases hx:∃x∈σ.tx,x.1=i
 ·obtain⟨x,hx1,hx2,hx3⟩:=lastP_mem σ.tx i (σ.j.d.get i) hx
  rw[hx3];exact(ht x hx1).2.2
 ·rw[lastP_none _ _ _ (fun x hx2 e=>hx ⟨x,hx2,e⟩)]
  exact hg i hi
theorem RBitsM_any(h:RStG w FJ sb b p tv σ)(hk:RKnow σ)(hd:σ.dead=false):
  Calls Tryz.prog 48 #[ptrV sb] w fun e w'=>e=.returned (strV σ.map1)∧Q w w':=by
 obtain⟨h1,h2,h3,h4⟩:=hk.data hd
 have:=RBits7_any h hk.num.big hk.num.max hd h2 h3 h4 h1
 rw[hk.bits hd] at this
 exact this
theorem RRead7_any(h:RStG w FJ sb b p tv σ)(hk:RKnow σ)(i:Int):
  Calls Tryz.prog 42 #[ptrV sb,.int .i64 i] w fun e w'=>e=.returned (.tuple #[strV (σ.read i).1,.int .i64 (σ.read i).2])∧Q w w':=by
 obtain⟨c0,c1,c2,f0,f1,f2⟩:=h.box.c3f
 obtain⟨j0,_⟩:=h.jr.box.c8
 obtain⟨lv,pv,hd⟩:=h.jr.dev
 obtain⟨d0,d1,d2,d3,_⟩:=hd.box.c4
 have ho:=ROurs_any h hk.num.max i
 have HO:=Lib.hid ho
 cases hdv:σ.j.d.dead with
 | true =>
  have hr:σ.read i=([],4):=by unfold StL.read;exact if_pos hdv
  rw[hr]
  rw[hdv] at d3
  clear h hd hr ho hdv hk
  go_enter Tryz.func42,Tryz.ntmps42
  go_wp2_with fail
  go_ret2
  exact⟨rfl,Q.refl _⟩
 | false =>
  rw[hdv] at d3
  obtain⟨k1,k2,k3,k4⟩:=hk.data hdv
  cases hdt:σ.isData i with
  | false =>
   have hr:σ.read i=([],2):=by unfold StL.read;rw[if_neg (by rw[show σ.dead=false from hdv];decide),hdt,if_neg (by decide)]
   rw[hr]
   rw[hdt] at HO
   clear h hd hr ho hdv hdt hk k1 k2 k3 k4
   go_enter Tryz.func42,Tryz.ntmps42
   go_wp2_with fail
   refine HO.out.mono ?_
   rintro e w1 ⟨rfl,rfl⟩
   go_wp2_with fail
   go_ret2
   exact⟨rfl,Q.refl _⟩
  | true =>
   have hr:σ.read i=(σ.get i.toNat,0):=by unfold StL.read;rw[if_neg (by rw[show σ.dead=false from hdv];decide),hdt,if_pos rfl]
   rw[hr]
   rw[hdt] at HO
   have hii:(firstD σ.n:Int)≤i∧i<(σ.n:Int):=of_decide_eq_true hdt
   have hda:=RData7_any h hk.num.max hdv k2 k3 k4 i.toNat (by omega)
   rw[show((i.toNat:Nat):Int)=i by omega] at hda
   have HDA:=Lib.hid hda
   clear h hd hr ho hdv hdt hk k1 k2 k3 k4 hda
   generalize σ.get i.toNat=res at *
   go_enter Tryz.func42,Tryz.ntmps42
   go_wp2_with fail
   refine HO.out.mono ?_
   rintro e w1 ⟨rfl,rfl⟩
   go_wp2_with fail
   refine HDA.out.mono ?_
   rintro e w1 ⟨rfl,q1⟩
   have Q1:=Lib.hid q1
   clear q1
   go_wp2_with fail
   go_ret2
   exact⟨rfl,Q1.out⟩
end
end
section
open Go.RowKit
theorem Parts_any(n:Nat)(w:World)(hn:n≤1000000):
  Calls Tryz.prog 85 #[.int .i64 (n:Nat)] w fun e w'=>e=.returned (.int .i64 (partsN n:Nat))∧w=w':=by
 have h:((partsN n:Nat):Int)=((n:Int)+2048-1) / 2048:=by unfold partsN;omega
 rw[h]
 clear h
 go_enter Tryz.func85,Tryz.ntmps85
 go_wp2
 go_ret
 exact⟨rfl,rfl⟩
theorem First_n(n:Nat)(w:World)(hn:n≤1000000):
  Calls Tryz.prog 56 #[.int .i64 (n:Nat)] w fun e w'=>e=.returned (.int .i64 (firstD n:Nat))∧w=w':=by
 have hp:=Parts_any n w hn
 have hb:partsN n≤1000000:=by unfold partsN;omega
 have h:((firstD n:Nat):Int)=63+(partsN n:Int):=by unfold firstD;omega
 rw[h]
 have HP:=Lib.hid hp
 clear h hp
 go_enter Tryz.func56,Tryz.ntmps56
 go_wp2_with fail
 refine HP.out.mono ?_
 rintro e w1 ⟨rfl,rfl⟩
 go_wp2_with fail
 go_ret
 exact⟨rfl,rfl⟩
theorem Title_any(n:Nat)(w:World)(hn:n≤1000000):
  Calls Tryz.prog 86 #[.int .i64 (n:Nat)] w fun e w'=>e=.returned (strV (titleL n))∧Q w w':=by
 have hc:=fun (W:World)=>Fixed_any n W (by omega)
 have hr:=fun (W:World)=>Tryz.strings_Repeat_main ⟨#[0]⟩ 248 W (by decide) (by decide) (by decide) (by decide)
 have hz:(Lib.repeatL [(0:UInt8)] 248)=zerosL 248:=by decide +kernel
 have hfl:=length_fixedL n
 have HC:=Lib.hid hc;have HR:=Lib.hid hr;have HZ:=Lib.hid hz
 clear hc hr hz
 go_enter Tryz.func86,Tryz.ntmps86
 go_wp2_with fail
 refine(HC.out _).mono ?_
 rintro e w1 ⟨rfl,q1⟩
 have HQ1:=Lib.hid q1
 clear q1
 go_wp2_with fail
 refine(HR.out _).mono ?_
 rintro e w2 ⟨rfl,q2⟩
 have HQ2:=Lib.hid (HQ1.out.trans q2)
 clear q2
 rw[HZ.out]
 go_wp2_with fail
 go_ret
 refine⟨?_,HQ2.out⟩
 have he:(({ data:=#[67,68,88,66] }:ByteArray)++{ data:=(fixedL n).toArray })++{ data:=(zerosL 248).toArray }=⟨(titleL n).toArray⟩:=by
  rw[show({ data:=#[67,68,88,66] }:ByteArray)=⟨([67,68,88,66]:Bytes).toArray⟩ from rfl,bytes_append,bytes_append,List.append_assoc];rfl
 exact congrArg (fun x=>Ending.returned (.string x)) he
theorem Part_any(t:Bytes)(i:Nat)(w:World)(hi:(i+1)*256≤t.length)(hl:t.length≤1000000):
  Calls Tryz.prog 99 #[strV t,.int .i64 (i:Nat)] w fun e w'=>e=.returned (strV (partL t i))∧w=w':=by
 go_enter Tryz.func99,Tryz.ntmps99
 go_wp2_with fail
 go_ret
 refine⟨?_,rfl⟩
 have he:({ data:=t.toArray }:ByteArray).extract (i*256) ((i+1)*256)=⟨(partL t i).toArray⟩:=by
  rw[bytes_extract,show(i+1)*256-i*256=256 by omega];rfl
 exact congrArg (fun x=>Ending.returned (.string x)) he
end
section
open Go.RowKit
variable {w:World} {FJ FC:Nat→Prop} {sb b p cb tb most clock:Nat} {ms:Int} {mb:Nat} {m:KeptLs} {ti:List (Nat×Value)} {σ:StL}
theorem SBlocks_any(h:StG w FJ FC sb b p cb tb most clock ms mb m ti σ):
  Calls Tryz.prog 46 #[ptrV sb] w fun e w'=>e=.returned (.int .i64 (σ.n:Nat))∧w=w':=by
 obtain⟨c0,_⟩:=Blk.c6 h.box
 obtain⟨d0,_⟩:=h.jr.box.c8
 have hb:=Blocks_any w FJ b σ.j.d h.jr.dev
 have HB:=Lib.hid hb
 clear hb h
 show Calls _ _ _ _ fun e w'=>e=.returned (.int .i64 (σ.j.d.l.length:Nat))∧w=w'
 go_enter Tryz.func46,Tryz.ntmps46
 go_wp2_with fail
 refine HB.out.mono ?_
 rintro e w1 ⟨rfl,rfl⟩
 go_wp2_with fail
 go_ret
 exact⟨rfl,rfl⟩
theorem SFirst_any(h:StG w FJ FC sb b p cb tb most clock ms mb m ti σ)(hn:σ.n≤4096):
  Calls Tryz.prog 19 #[ptrV sb] w fun e w'=>e=.returned (.int .i64 (firstD σ.n:Nat))∧w=w':=by
 have hb:=SBlocks_any h
 have hf:=First_n σ.n w (by omega)
 have HB:=Lib.hid hb;have HF:=Lib.hid hf
 clear hb h hf
 go_enter Tryz.func19,Tryz.ntmps19
 go_wp2_with fail
 refine HB.out.mono ?_
 rintro e w1 ⟨rfl,rfl⟩
 go_wp2_with fail
 refine HF.out.mono ?_
 rintro e w1 ⟨rfl,rfl⟩
 go_wp2_with fail
 go_ret
 exact⟨rfl,rfl⟩
theorem SFree_any(h:StG w FJ FC sb b p cb tb most clock ms mb m ti σ)(hn:StNum σ):
  Calls Tryz.prog 11 #[ptrV sb] w fun e w'=>e=.returned (.int .i64 (σ.free:Nat))∧Q w w':=by
 have hmx:=hn.max
 have hb:=fun (W:World) (q:Q w W)=>SBlocks_any (h.keep q)
 have hpn:=partsN_pos σ.n (by have:=hn.big;omega)
 have hf:∀W:World,Calls Tryz.prog 45 #[strV σ.map1,.int .i64 (σ.n:Nat)] W fun e w'=>e=.returned (.int .i64 (cnt σ.map1 (firstN σ.map1 σ.n)))∧Q W w':=fun W=>BFree_any σ.map1 σ.n W (by have:=hn.map;omega) (by omega) (by omega)
 have hfn:firstN σ.map1 σ.n=σ.n:=by unfold firstN;have:=hn.map;omega
 rw[hfn] at hf
 obtain⟨c0,c1,c2,_⟩:=Blk.c6 h.box
 have hfr:σ.free=cnt σ.map1 σ.n:=rfl
 rw[hfr]
 have HB:=Lib.hid hb;have HF:=Lib.hid hf
 clear hb h hf hfn hfr hn
 generalize σ.map1=m1 at *
 generalize σ.n=n at *
 have KK:=Lib.hid (Q.refl w)
 go_enter Tryz.func11,Tryz.ntmps11
 go_wp2_with fail
 go_region_held3 (fun w'=>w'.cell? ⟨sb,2,none⟩=some (strV m1))
  (first|exact c2|exact cellQ (by repeat (first|with_reducible exact KK.out|with_reducible exact Q.refl _|with_reducible apply Qs.dr|with_reducible apply Qs.al)) c2)
  (first
   | (go_at_call 46;with_reducible refine(HB.out _ (by repeat (first|with_reducible exact KK.out|with_reducible apply Qs.dr|with_reducible apply Qs.al))).mono ?_;rintro e w5 ⟨rfl,rfl⟩)
   | (go_at_call 45;with_reducible refine(HF.out _).mono ?_;rintro e w6 ⟨rfl,q6⟩;have s':Q w w6:=Q.trans (by repeat (first|with_reducible exact KK.out|with_reducible apply Qs.dr|with_reducible apply Qs.al)) q6;clear KK;have KK:=Lib.hid s';clear s' q6))
 all_goals
  go_wp2_with fail
  go_ret
  exact⟨rfl,by repeat (first|with_reducible exact KK.out|with_reducible apply Qs.dr|with_reducible apply Qs.al)⟩
theorem SData_any(i:Int)(h:StG w FJ FC sb b p cb tb most clock ms mb m ti σ)(hn:σ.n≤4096):
  Calls Tryz.prog 60 #[ptrV sb,.int .i64 i] w fun e w'=>e=.returned (.bool (σ.isData i))∧w=w':=by
 have hb:=SBlocks_any h
 have hf:=SFirst_any h hn
 have HB:=Lib.hid hb;have HF:=Lib.hid hf
 clear hb h hf
 unfold StL.isData
 generalize firstD σ.n=fd at *
 by_cases hi:(fd:Int)≤i
 ·have hb1:decide ((fd:Int)≤i)=true:=decide_eq_true hi
  have e1:decide ((fd:Int)≤i∧i<(σ.n:Int))=decide (i<(σ.n:Int)):=by simp[hi]
  rw[e1]
  generalize σ.n=n at *
  clear e1
  go_enter Tryz.func60,Tryz.ntmps60
  go_wp2_with fail
  refine HF.out.mono ?_
  rintro e w1 ⟨rfl,rfl⟩
  go_wp2_with fail
  refine HB.out.mono ?_
  rintro e w1 ⟨rfl,rfl⟩
  go_wp2_with fail
  go_ret
  exact⟨rfl,rfl⟩
 ·have e1:decide ((fd:Int)≤i∧i<(σ.n:Int))=false:=by simp[hi]
  rw[e1]
  generalize σ.n=n at *
  clear e1
  go_enter Tryz.func60,Tryz.ntmps60
  go_wp2_with fail
  refine HF.out.mono ?_
  rintro e w1 ⟨rfl,rfl⟩
  go_wp2_with fail
  go_ret
  exact⟨rfl,rfl⟩
theorem SState_any(o:Bool)(h:StG w FJ FC sb b p cb tb most clock ms mb m ti σ):
  Calls Tryz.prog 57 #[ptrV sb,.bool o] w fun e w'=>e=.returned (.int .i64 (σ.state o))∧w=w':=by
 obtain⟨c0,c1,c2,c3,c4,c5⟩:=Blk.c6 h.box
 obtain⟨d0,_⟩:=h.jr.box.c8
 have hd:=Dead_any w FJ b σ.j.d h.jr.dev
 have he:σ.j.d.dead=σ.dead:=rfl
 rw[he] at hd
 have HD:=Lib.hid hd
 clear hd h he
 unfold StL.state
 generalize σ.dead=dd at *
 generalize σ.open_=oo at *
 cases dd with
 | true =>
  simp only[if_true]
  go_enter Tryz.func57,Tryz.ntmps57
  go_wp2_with fail
  refine HD.out.mono ?_
  rintro e w1 ⟨rfl,rfl⟩
  go_wp2_with fail
  go_ret
  exact⟨rfl,rfl⟩
 | false =>
  simp only[Bool.false_eq_true,if_false]
  cases oo<;>cases o
  all_goals
   go_enter Tryz.func57,Tryz.ntmps57
   go_wp2_with fail
   refine HD.out.mono ?_
   rintro e w1 ⟨rfl,rfl⟩
   go_wp2_with fail
   go_ret
   exact⟨rfl,rfl⟩
end
section
open Go.RowKit
variable {w w':World} {FJ FC F:Nat→Prop} {sb b p cb tb most clock clock':Nat} {ms ms':Int} {mb:Nat} {m m':KeptLs} {ti ti':List (Nat×Value)} {σ σ':StL} {K:Nat}
theorem StG.ne(h:StG w FJ FC sb b p cb tb most clock ms mb m ti σ):sb≠tb:=blk_not_map h.box h.tm
theorem StG.cache(h:StG w FJ FC sb b p cb tb most clock ms mb m ti σ)(t:Turn FC w w')(hc:CacG w' (grow FC w w') cb p most clock' ms' mb m')(hok:σ.dead=false→CacOk σ.n most clock' σ.tx σ.j.d.get m'):StG w' FJ (grow FC w w') sb b p cb tb most clock' ms' mb m' ti σ:=by
 have hlb:=h.box.lt;have hlt:=h.tm.lt
 exact⟨t.blk h.box h.sF.2,h.tm.same (t.block _ h.tm.lt h.tF.2),h.jr.beside t (fun k hk hc=>h.apart k hk hc),hc,fun k hk hg=>hg.elim (fun hg=>h.apart k hk hg) (fun hg=>by have:=h.jr.lt k hk;omega),⟨h.sF.1,fun hg=>hg.elim h.sF.2 (fun hg=>by omega)⟩,⟨h.tF.1,fun hg=>hg.elim h.tF.2 (fun hg=>by omega)⟩,hok,h.keys,h.ints⟩
theorem StG.turnBox(h:StG w FJ FC sb b p cb tb most clock ms mb m ti σ)(t:Turn (fun k=>k=sb) w w')(hb:Blk w' sb 86 (scells p cb tb σ'))(hj:σ'.j=σ.j)(htx:σ'.tx=σ.tx):StG w' FJ FC sb b p cb tb most clock ms mb m ti σ':=by
 refine⟨hb,h.tm.same (t.block _ h.tm.lt h.ne.symm),by rw[hj];exact h.jr.beside t (fun k hk e=>h.sF.1 (e▸hk)),h.ca.beside t (fun k hk e=>h.sF.2 (e▸hk)),h.apart,h.sF,h.tF,fun hd=>?_,by rw[htx];exact h.keys,h.ints⟩
 have e1:σ'.dead=σ.dead:=by unfold StL.dead;rw[hj]
 have e2:σ'.n=σ.n:=by unfold StL.n;rw[hj]
 rw[e1] at hd
 rw[e2,htx,hj];exact h.ok hd
theorem StAt.of_cache(h:StG w FJ FC sb b p cb tb most clock ms mb m ti σ)(hF:∀k,FJ k∨FC k∨k=sb∨k=tb→F k)(hlt:∀k,F k→k<w.heap.size)(t:Turn FC w w')(hc:CacG w' (grow FC w w') cb p most clock' ms' mb m')(hok:σ.dead=false→CacOk σ.n most clock' σ.tx σ.j.d.get m')(hK:clock'≤K):
  StAt w' (grow F w w') sb b σ K∧Turn F w w':=by
 have tF:Turn F w w':=t.mono (fun k hk=>hF k (.inr (.inl hk)))
 refine⟨⟨_,_,_,_,_,_,_,_,_,_,_,h.cache t hc hok,fun k hk=>?_,fun k hk=>hk.elim (fun hk=>Nat.lt_of_lt_of_le (hlt k hk) t.size) (fun hk=>hk.2),hK⟩,tF⟩
 rcases hk with hk|hk|hk|hk
 ·exact .inl (hF k (.inl hk))
 ·exact hk.elim (fun hk=>.inl (hF k (.inr (.inl hk)))) .inr
 ·exact .inl (hF k (.inr (.inr (.inl hk))))
 ·exact .inl (hF k (.inr (.inr (.inr hk))))
theorem SRead_any(w:World)(F:Nat→Prop)(sb b:Nat)(σ:StL)(K:Nat)(i:Int)(h:StAt w F sb b σ K)(hn:StNum σ)(hK:K≤1000000000000000000):
  Calls Tryz.prog 27 #[ptrV sb,.int .i64 i] w fun e w'=>e=.returned (.tuple #[strV (σ.read i).1,.int .i64 (σ.read i).2])∧StAt w' (grow F w w') sb b σ (K+1)∧Turn F w w':=by
 have hsame:=(h.quiet (Q.refl w) (Nat.le_succ K))
 obtain⟨FJ,FC,p,cb,tb,most,clock,ms,mb,m,ti,hg,hF,hlt,hcl⟩:=h
 obtain⟨c0,c1,c2,c3,c4,c5⟩:=Blk.c6 hg.box
 obtain⟨d0,_⟩:=hg.jr.box.c8
 have hd:=Dead_any w FJ b σ.j.d hg.jr.dev
 have he:σ.j.d.dead=σ.dead:=rfl
 rw[he] at hd
 have hda:=SData_any i hg hn.max
 cases hdd:σ.dead with
 | true =>
  have hr:σ.read i=([],4):=by unfold StL.read;rw[hdd,if_pos rfl]
  rw[hdd] at hd
  rw[hr]
  have HD:=Lib.hid hd;have HS:=Lib.hid hsame
  clear hd hda hg hsame hn hF hlt hr he
  go_enter Tryz.func27,Tryz.ntmps27
  go_wp2_with fail
  refine HD.out.mono ?_
  rintro e w1 ⟨rfl,rfl⟩
  go_wp2_with fail
  go_ret2
  exact⟨rfl,HS.out.1,HS.out.2⟩
 | false =>
  rw[hdd] at hd
  cases hdt:σ.isData i with
  | false =>
   have hr:σ.read i=([],2):=by unfold StL.read;rw[hdd,hdt];rfl
   rw[hdt] at hda
   rw[hr]
   have HD:=Lib.hid hd;have HS:=Lib.hid hsame;have HDA:=Lib.hid hda
   clear hd hda hg hsame hn hF hlt hr he
   go_enter Tryz.func27,Tryz.ntmps27
   go_wp2_with fail
   refine HD.out.mono ?_
   rintro e w1 ⟨rfl,rfl⟩
   go_wp2_with fail
   refine HDA.out.mono ?_
   rintro e w1 ⟨rfl,rfl⟩
   go_wp2_with fail
   go_ret2
   exact⟨rfl,HS.out.1,HS.out.2⟩
  | true =>
   rw[hdt] at hda
   have hdt':=hdt
   unfold StL.isData at hdt'
   simp only[decide_eq_true_eq] at hdt'
   obtain⟨j,rfl⟩:∃j:Nat,i=(j:Nat):=⟨i.toNat,by omega⟩
   have hjn:j<σ.n:=by omega
   have hr:σ.read (j:Nat)=(lastP σ.tx j (σ.j.d.get j),0):=by unfold StL.read;rw[hdd,hdt];rfl
   obtain⟨n1,n2,n3,n4,n5,n6⟩:=hn.num hdd
   have hrr:σ.j.d.read (j:Nat)=(σ.j.d.get j,0):=by
    unfold DevL.read
    rw[DevL.chk_in hdd j hjn,if_pos rfl];rfl
   have hrd:=Read_any w FJ b σ.j.d (j:Nat) hg.jr.dev hn.max (fun _=>by have:=n1.plen hdd;omega)
   rw[hrr] at hrd
   have hget:=CGet_any w FC cb p b σ.n most clock ms mb m σ.tx σ.j.d.get j hg.ca (hg.ok hdd) d0 ⟨by have:=hdt'.1;unfold firstD at this;omega,hjn⟩ (by omega) hrd (fun W q hW=>Room_any W FC cb p σ.n most clock ms mb m σ.tx σ.j.d.get hW (hg.ok hdd) (by omega))
   rw[hr]
   have HD:=Lib.hid hd;have HDA:=Lib.hid hda;have HGT:=Lib.hid hget;have HG:=Lib.hid hg;have HF:=Lib.hid hF;have HLT:=Lib.hid hlt
   clear hd hda hget hrd hrr hsame hF hlt hr hg n1 n2 n3 n4 n5 n6 hn hdt he hdt'
   go_enter Tryz.func27,Tryz.ntmps27
   go_wp2_with fail
   refine HD.out.mono ?_
   rintro e w1 ⟨rfl,rfl⟩
   go_wp2_with fail
   refine HDA.out.mono ?_
   rintro e w1 ⟨rfl,rfl⟩
   go_wp2_with fail
   refine HGT.out.mono ?_
   rintro e w2 ⟨rfl,t2,m2,ms2,h2,o2⟩
   have hend:=StAt.of_cache HG.out HF.out HLT.out t2 h2 (fun _=>o2) (K:=K+1) (by omega)
   have HE:=Lib.hid hend
   clear t2 h2 o2 hend
   go_wp2_with fail
   go_ret2
   exact⟨rfl,HE.out.1,HE.out.2⟩
theorem SBegin_any(w:World)(F:Nat→Prop)(sb b:Nat)(σ:StL)(K:Nat)(h:StAt w F sb b σ K):
  Calls Tryz.prog 21 #[ptrV sb] w fun e w'=>e=.returned (.int .i64 σ.begin.2)∧StAt w' (grow F w w') sb b σ.begin.1 K∧Turn F w w':=by
 have hsame:=(h.quiet (Q.refl w) (Nat.le_refl K))
 obtain⟨FJ,FC,p,cb,tb,most,clock,ms,mb,m,ti,hg,hF,hlt,hcl⟩:=h
 have hst:=SState_any false hg
 by_cases hz:σ.state false=0
 ·have hb:σ.begin=({ σ with open_:=true,was:=σ.map1 },0):=by unfold StL.begin;rw[if_neg (by rw[hz];decide)]
  rw[hb]
  rw[hz] at hst
  obtain⟨c0,c1,c2,c3,c4,c5⟩:=Blk.c6 hg.box
  have f3:=hg.box.frozen 3;have f4:=hg.box.frozen 4
  have t1:Turn (fun k=>k=sb) w ((w.setCell ⟨sb,4,none⟩ (.bool true)).setCell ⟨sb,3,none⟩ (strV σ.map1)):=Turn.setCell (a:=⟨sb,3,none⟩) (Turn.setCell (a:=⟨sb,4,none⟩) (Turn.refl (fun k=>k=sb) w) (.inl rfl) _) (.inl rfl) _
  have hb1:Blk ((w.setCell ⟨sb,4,none⟩ (.bool true)).setCell ⟨sb,3,none⟩ (strV σ.map1)) sb 86 (scells p cb tb { σ with open_:=true,was:=σ.map1 }):=(hg.box.set 4 (.bool true)).set 3 (strV σ.map1)
  have h1:=hg.turnBox t1 hb1 rfl rfl
  have hsF:F sb:=hF sb (.inr (.inr (.inl rfl)))
  have tF:Turn F w ((w.setCell ⟨sb,4,none⟩ (.bool true)).setCell ⟨sb,3,none⟩ (strV σ.map1)):=t1.mono (fun k hk=>by subst hk;exact hsF)
  have hend:StAt ((w.setCell ⟨sb,4,none⟩ (.bool true)).setCell ⟨sb,3,none⟩ (strV σ.map1)) (grow F w ((w.setCell ⟨sb,4,none⟩ (.bool true)).setCell ⟨sb,3,none⟩ (strV σ.map1))) sb b { σ with open_:=true,was:=σ.map1 } K:=⟨_,_,_,_,_,_,_,_,_,_,_,h1,fun k hk=>.inl (hF k hk),fun k hk=>hk.elim (fun hk=>Nat.lt_of_lt_of_le (hlt k hk) tF.size) (fun hk=>hk.2),hcl⟩
  have HS:=Lib.hid hst;have HE:=Lib.hid hend;have HT:=Lib.hid tF
  clear hst hend tF h1 hb1 t1 hg hb hF hlt hsame
  go_enter Tryz.func21,Tryz.ntmps21
  go_wp2_with fail
  refine HS.out.mono ?_
  rintro e w1 ⟨rfl,rfl⟩
  go_wp2_with fail
  go_ret
  exact⟨rfl,HE.out,HT.out⟩
 ·have hb:σ.begin=(σ,σ.state false):=by unfold StL.begin;rw[if_pos hz]
  rw[hb]
  have e1:(σ.state false==0)=false:=beq_eq_false_iff_ne.2 hz
  have HS:=Lib.hid hst;have HE:=Lib.hid hsame
  clear hst hg hb hF hlt hsame hz
  simp only at HS HE ⊢
  generalize σ.state false=x at *
  go_enter Tryz.func21,Tryz.ntmps21
  go_wp2_with fail
  refine HS.out.mono ?_
  rintro e w1 ⟨rfl,rfl⟩
  go_wp2_with fail
  go_ret
  exact⟨rfl,HE.out.1,HE.out.2⟩
end
end Go.Proofs.YthcpkgfieoneeaaGreatDoor
