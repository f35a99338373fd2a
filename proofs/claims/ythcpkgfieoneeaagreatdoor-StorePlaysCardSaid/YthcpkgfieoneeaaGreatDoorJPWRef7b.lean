/- Joined texts of one proof: what is needed of WRef7b, WRef7f, WRef7g, WRef7h, WRef7i, WRef7j. -/
import Derived.Test.YthcpkgfieoneeaaGreatDoorJPWRef7a
import Derived.Test.YthcpkgfieoneeaaGreatDoorJPWJrnG
import Derived.Test.YthcpkgfieoneeaaGreatDoorJPWRef4f
import Derived.Test.YthcpkgfieoneeaaGreatDoorJPWRef4h
import Derived.Test.YthcpkgfieoneeaaGreatDoorJPWRef4a
import Derived.Test.YthcpkgfieoneeaaGreatDoorJPBitC
import Derived.Test.YthcpkgfieoneeaaGreatDoorJPWStoK
import Derived.Test.YthcpkgfieoneeaaGreatDoorJPWStoD0
set_option linter.unusedSimpArgs false
set_option linter.unusedVariables false
set_option linter.unnecessarySimpa false
set_option maxRecDepth 100000
set_option maxHeartbeats 16000000
namespace Go.Proofs.YthcpkgfieoneeaaGreatDoor
section
open Go.RowKit
theorem RFormat7_new(w:World)(F:Nat→Prop)(b n:Nat)(h:RDevAt w F b (DevL.new n))(hF:∀k,F k→k<w.heap.size)(h1:128≤n)(h2:n≤4096):
  Calls Tryz.prog 29 #[ptrV b] w fun e w'=>e=.returned (.int .i64 0)∧RDevAt w' (grow F w w') b (formatS (DevL.new n)).1∧Turn F w w':=by
 obtain⟨a,hlj,hp1,hok1,o1,o2,hol,hof⟩:=format_mid n h1 h2
 have hpre:=format_pre n h1 h2
 have hl:(DevL.new n).l.length=n:=List.length_replicate
 have hok:=DevL.new_ok n (by omega) h2
 have hcode:=(format_run n h1 h2).1
 have hfs:formatS (DevL.new n)=(((openJ (formatJ (DevL.new n) 60).1).1.commit (formatT n)).1.d,((openJ (formatJ (DevL.new n) 60).1).1.commit (formatT n)).2):=by
  unfold formatS
  rw[if_neg (by rw[hl];omega),if_neg (by rw[a];simp),if_neg (by rw[o1];simp),hl]
 rw[hfs] at hcode
 rw[hfs]
 have hjf:=RFormat4_any w F b (DevL.new n) 60 h hok (fun _=>by simp[DevL.new]) (by decide) (by rw[hl];omega)
 rw[a] at hjf
 obtain⟨lv,pv,hdg⟩:=h
 obtain⟨la,lc,rfl,_⟩:=hdg.lcells
 obtain⟨d0,_⟩:=hdg.box.c4
 rw[hl] at d0
 clear hdg
 have hjo:=fun (W:World) (G:Nat→Prop) (hW:RDevAt W G b (formatJ (DevL.new n) 60).1) (hG:∀k,G k→k<W.heap.size)=>ROpen_live W G b (formatJ (DevL.new n) 60).1 hW hG hpre (by decide) (by rw[hp1];simp) (by omega)
 unfold ROpenEnd at hjo
 have jn:=o2.num (by decide) (by decide)
 have ju:(openJ (formatJ (DevL.new n) 60).1).1.used≤(openJ (formatJ (DevL.new n) 60).1).1.s.log:=by have:=o2.hrec.hchain.used;rw[o2.hused];omega
 have jh:(openJ (formatJ (DevL.new n) 60).1).1.home=62:=by unfold JL.home;rw[o2.hlog]
 clear hpre
 generalize openJ (formatJ (DevL.new n) 60).1=oj at *
 generalize formatJ (DevL.new n) 60=fj at *
 obtain⟨d1,c1⟩:=fj
 obtain⟨j,c2⟩:=oj
 simp only at o1 o2 hol hof jn ju jh hjo hcode hlj hp1 hok1 hjf ⊢
 subst o1
 obtain⟨t1,t2,t3,t4⟩:=formatT_map n h1 h2 (fun _=>noughtsL)
 have hpar:partsN n≤2∧1≤partsN n∧63+partsN n<n:=by unfold partsN;omega
 have hmk:=fun (W:World)=>rmake_any (2048*(partsN n:Int)) W
 rw[makeL_parts n h2,if_pos hpar.2.1] at hmk
 have hfd:firstD n=63+partsN n:=rfl
 have hset:=fun (W:World)=>rset_ok (zerosL (256*partsN n)) 0 (firstD n) true W (by simp[zerosL];omega) (by simp[zerosL];omega)
 have hb0:setTo (zerosL (256*partsN n)) 0 true (firstD n)=bits0 n:=rfl
 rw[hb0] at hset
 rw[show((0:Nat):Int)=0 from rfl,show((firstD n:Nat):Int)=63+((partsN n:Nat):Int) by rw[hfd];omega] at hset
 have hbl2:(bits0 n).length=256*partsN n:=(bits0_good n h1 h2).len
 have hpa:=fun (W:World)=>RParts_any n W (by omega)
 have hti:=fun (W:World)=>RTitle_any n W (by omega)
 have hprt:=fun (i:Nat) (hi:i<partsN n)=>(show({ data:=(bits0 n).toArray }:ByteArray).extract (256*i) (256*i+256)=⟨(partL (bits0 n) i).toArray⟩ from by
  rw[bytes_extract,show 256*i+256-256*i=256 by omega,Nat.mul_comm 256 i];rfl)
 have hft:formatT n=formatK n (partsN n):=rfl
 have hjc:=fun (W:World) (G:Nat→Prop) (p:Nat) (lv:Value) (hj:RJrnAt W G p b j) (hl:SlO W G lv (formatT n).length 2 (wrVs (formatT n)))=>RCommit_any W G p b j lv (formatT n) hj jn ⟨by simp[formatT],by omega,fun w hw=>by have:=t3 w hw;exact⟨by omega,this.2.2⟩⟩ (fun w hw=>by have:=t3 w hw;rw[jh,hol];exact⟨this.1,this.2.1⟩) hl ju
 generalize hcmE:j.commit (formatT n)=cm at *
 obtain⟨j2,c3⟩:=cm
 simp only at hcode hjc ⊢
 subst hcode
 rw[hft] at hjc
 obtain⟨i1,hi1,hy0,hy1,hy2⟩:=info_parts tinfoWr
 have HJF:=Lib.hid hjf;have HJO:=Lib.hid hjo;have HMK:=Lib.hid hmk;have HSET:=Lib.hid hset;have HPA:=Lib.hid hpa;have HTI:=Lib.hid hti;have HPR:=Lib.hid hprt;have HJC:=Lib.hid hjc;have HF:=Lib.hid hF
 have hpn2:=hpar.1
 have hnb:¬(n:Int)<128:=by omega
 have HBL2:=Lib.hid hbl2
 clear hjf hjo hmk hset hpa hti hprt hjc hF hft hcmE t1 t2 t3 t4 hpar jn ju jh o2 hof hol hok1 hp1 hlj hfs hok hl hfd hb0 hbl2 a
 go_enter Tryz.func29,Tryz.ntmps29
 go_wp2_with fail
 refine HJF.out.mono ?_
 rintro e w1 ⟨rfl,hd1,t1⟩
 have hjo:=HJO.out w1 _ hd1 (fun k hk=>hk.elim (fun hk=>Nat.lt_of_lt_of_le (HF.out k hk) t1.size) (fun hk=>hk.2))
 have HO:=Lib.hid hjo;have T1:=Lib.hid t1
 clear hjo hd1 t1 d0
 go_wp2_with fail
 refine HO.out.mono ?_
 rintro e w2 ⟨t2,⟨_,p,rfl,hj2⟩|⟨h0,_⟩⟩
 ·have T2:=Lib.hid t2;have HJ2:=Lib.hid hj2
  clear t2 hj2
  go_wp2_with fail
  refine(HPA.out _).mono ?_
  rintro e w3 ⟨rfl,rfl⟩
  go_wp2_with fail
  refine(HPA.out _).mono ?_
  rintro e w3 ⟨rfl,rfl⟩
  go_wp2_with fail
  refine(HMK.out _).mono ?_
  rintro e w3 ⟨rfl,q3⟩
  have Q3:=Lib.hid (show Q w2 w3 from q3)
  clear q3
  go_wp2_with fail
  refine(HSET.out _).mono ?_
  rintro e w4 ⟨rfl,q4⟩
  have Q4:=Lib.hid (Q3.out.trans (Q.of q4))
  clear q4
  go_wp2_with fail
  refine(HTI.out _).mono ?_
  rintro e w5 ⟨rfl,q5⟩
  have Q5:=Lib.hid (Q4.out.trans q5)
  clear q5
  go_wp2_with fail
  have hr0:=own_lit w5 102 2 #[.int .i64 62,strV (titleL n)] rfl (by decide)
  have q6:Q w5 (w5.alloc (.cells #[.int .i64 62,strV (titleL n)] 102)):=Q.alloc _ _
  have HR0:=Lib.hid hr0;have Q6:=Lib.hid q6
  clear hr0 q6
  generalize w5.alloc (.cells #[.int .i64 62,strV (titleL n)] 102)=w6 at *
  generalize partsN n=pn at *
  generalize hbb:bits0 n=bb at *
  go_loopw [10,11] (fun v i wr=>∃k:Nat,i=.int .i64 (k:Nat)∧k≤pn∧Hid (wr.ownsRow w5.heap.size 102 2 v (formatK n k).length (wrVs (formatK n k)))∧Hid (Q w5 wr)) (fun _ i _=>pn-(intOf i).toNat)
  case atStart=>exact⟨0,rfl,Nat.zero_le _,HR0,Q6⟩
  case round =>
   obtain⟨k,rfl,hk,HOW,HQ⟩:=hrel
   by_cases hlt:k<pn
   ·have hki:(k:Int)<(pn:Int):=by omega
    have hst:=formatK_succ n k
    rw[hbb] at hst
    have hfl:=formatK_len n k
    have HST:=Lib.hid hst
    clear hst
    generalize formatK n k=acc at *
    have hx:=HPR.out k hlt
    have hbl:=HBL2.out
    have w1:IntKind.i64.wrap (256*(k:Int))=256*(k:Int):=IntWalk.i64_in _ (by omega)
    have w2:IntKind.i64.wrap (256*(k:Int)+256)=256*(k:Int)+256:=IntWalk.i64_in _ (by omega)
    have n1:(256*(k:Int)).toNat=256*k:=by omega
    have n2:(256*(k:Int)+256).toNat=256*k+256:=by omega
    have l1:(0:Int)≤256*(k:Int):=by omega
    have l2:256*(k:Int)≤256*(k:Int)+256:=by omega
    have l3:256*(k:Int)+256≤(bb.length:Int):=by omega
    have hc1:∀u∈#[Value.int .i64 (63+(k:Int)),strV (partL bb k)].toList,u.oneCell'=true:=by intro u hu;simp at hu;rcases hu with rfl|rfl<;>rfl
    have hc2:(acc.length+1)*24≤140737488355328:=by omega
    have HC3:=Lib.hid hc1;have HC4:=Lib.hid hc2
    have hb0:w5.heap.size≤wr.heap.size:=HQ.out.size
    clear hc1 hc2 hfl hbl
    go_wp2_with fail
    refine(HPA.out _).mono ?_
    rintro e w8 ⟨rfl,rfl⟩
    go_wp2_with (at_builtin;refine wpList_app wr (by rfl) _ _ 49 (by rfl) w5.heap.size 102 _ i1 (.agg #[.int .i64 0,strV []]) 2 24 Tryz.underlying49 hi1 hy0 hy1 hy2 rfl (by decide) (by decide) _ _ _ (by rfl) HOW.out #[.int .i64 (63+(k:Int)),strV (partL bb k)] (by rfl) rfl HC3.out HC4.out hb0 ?_)
    intro g11 cap11 w11 hr11 hg11 ho11 hlt11 hlt11b
    have hq21:Q w5 w11:=grown_below HQ.out HOW.out hg11 (Nat.le_refl _) hb0
    have hr11':w11.ownsRow w5.heap.size 102 2 (.slice (some ⟨g11,0,none⟩) (acc.length+1) cap11) (formatK n (k+1)).length (wrVs (formatK n (k+1))):=by
     rw[HST.out,List.length_append,wrVs_append,show wrVs [(63+k,partL bb k)]=[.int .i64 (63+(k:Int)),strV (partL bb k)] by simp[wrVs,encW]];exact hr11
    have HQ11:=Lib.hid hq21;have HR11:=Lib.hid hr11'
    clear hr11 hg11 ho11 hlt11 hlt11b hr11' hq21
    go_wp2_with fail
    go_roundw
    case rel=>exact⟨k+1,by go_num,by omega,HR11,HQ11⟩
    case measure=>simp[intOf];omega
   ·have hki:¬(k:Int)<(pn:Int):=by omega
    obtain rfl:k=pn:=by omega
    have hq:Q w2 wr:=Q5.out.trans HQ.out
    have hjc:=HJC.out wr _ p _ (HJ2.out.keep hq) (SlO.owned HOW.out (fun g hg e=>by have:=HJ2.out.lt g e;have:=Q5.out.size;omega))
    have HJ:=Lib.hid hjc;have HQW:=Lib.hid hq
    clear hjc hq
    go_wp2_with fail
    refine(HPA.out _).mono ?_
    rintro e w8 ⟨rfl,rfl⟩
    go_wp2_with fail
    refine HJ.out.mono ?_
    rintro e w9 ⟨rfl,h9,t9⟩
    have hz1:=T1.out.size;have hz2:=T2.out.size;have hzq:=HQW.out.size
    have hz9:=t9.size
    have tt:Turn F w w9:=(T1.out.step T2.out).step (((Turn.of_q HQW.out).trans (t9.mono (own':=grow (grow F w w1) w1 w2) (fun k hk=>hk))).mono (fun k hk=>grow_trans hz1 hz2 hk))
    have hd9:RDevAt w9 (grow F w w9) b j2.d:=h9.dev.mono (fun k hk=>by
     rcases hk with (hk|hk)|hk
     ·exact hk.elim .inl (fun hk=>.inr ⟨hk.1,by omega⟩)
     ·exact .inr ⟨by omega,by omega⟩
     ·exact .inr ⟨by omega,hk.2⟩)
    have HT:=Lib.hid tt;have HD:=Lib.hid hd9
    clear tt hd9 h9 t9
    go_wp2_with fail
    go_ret
    exact⟨rfl,HD.out,HT.out⟩
 ·exact absurd rfl h0
end
section
open Go.RowKit
theorem withL_len(l:List WrL)(w:WrL):(withL l w).length≤l.length+1:=by
 induction l with
 | nil=>exact Nat.le_refl _
 | cons y l ih =>
  rw[withL]
  split
  ·simp only[List.length_cons];omega
  ·split<;>simp only[List.length_cons]<;>omega
theorem touch_one(tx:List WrL)(x:WrL):touchL tx [x]=withL tx x:=rfl
theorem touch_snoc(tx l:List WrL)(x:WrL):touchL tx (l++[x])=withL (touchL tx l) x:=by unfold touchL;rw[List.foldl_append];rfl
theorem touchL_len(l tx:List WrL):(touchL tx l).length≤tx.length+l.length:=by
 unfold touchL
 induction l generalizing tx with
 | nil=>exact Nat.le_refl _
 | cons w l ih=>rw[List.foldl_cons];have:=ih (withL tx w);have:=withL_len tx w;simp only[List.length_cons];omega
section
variable {w0 w:World} {F FJ:Nat→Prop} {sb b p:Nat} {tv:Value} {σ:StL}
def RowOk(w0 w:World)(F FJ:Nat→Prop)(lv:Value)(l:List WrL):Prop :=
 SlO w FJ lv l.length 2 (wrVs l)∧∀g off n cap,lv=.slice (some ⟨g,off,none⟩) n cap→0<l.length→F g∨w0.heap.size≤g
theorem RowOk.keep{w':World}{lv:Value}{l:List WrL}(h:RowOk w0 w F FJ lv l)(q:Q w w'):RowOk w0 w' F FJ lv l:=⟨h.1.stay q,h.2⟩
theorem RowOk.owned{lv:Value}{l:List WrL}{base:Nat}(h:w.ownsRow base 102 2 lv l.length (wrVs l))(hb:w0.heap.size≤base)(hF:∀k,FJ k→k<w0.heap.size):RowOk w0 w F FJ lv l:=by
 refine⟨SlO.owned h (fun g hg e=>by have:=hF g e;omega),?_⟩
 rintro g off n cap rfl hn
 have h1:=owns_value h
 obtain⟨a,cap',e,h2⟩:=h1
 obtain⟨g',rfl⟩:=h2 hn
 simp only[Value.slice.injEq,Option.some.injEq,Addr.mk.injEq] at e
 obtain⟨⟨rfl,rfl,_⟩,_,_⟩:=e
 have:=h.lt g rfl
 exact .inr (by omega)
theorem RTouchAt_any(h:RStG w0 FJ sb b p tv σ)(hF:∀k,FJ k∨k=sb→F k)(hT:∀g off n cap,tv=.slice (some ⟨g,off,none⟩) n cap→0<σ.tx.length→F g)(hlt:∀k,F k→k<w0.heap.size)(q:Q w0 w)(lv:Value)(l:List WrL)(hl:l.length≤100000)(hr:RowOk w0 w F FJ lv l):
  Calls Tryz.prog 89 #[ptrV sb,lv] w fun e w'=>e=.returned (.int .i64 (if l.length>48 then 6 else 0))∧RStAt w' (grow F w0 w') sb b (if l.length>48 then σ else { σ with tx:=l })∧Turn F w0 w':=by
 refine(RTouch_any (h.keep q) lv l hl hr.1).mono ?_
 rintro e w' ⟨rfl,hw⟩
 refine⟨rfl,?_⟩
 by_cases h1:l.length>48
 ·rw[if_pos h1] at hw ⊢
  subst hw
  exact⟨⟨FJ,p,tv,h.keep q,fun k hk=>.inl (hF k hk),fun g off n cap e hn=>.inl (hT g off n cap e hn),fun k hk=>hk.elim (fun hk=>Nat.lt_of_lt_of_le (hlt k hk) q.size) (fun hk=>hk.2)⟩,Turn.of_q q⟩
 ·rw[if_neg h1] at hw ⊢
  subst hw
  have hs:=h.keep q
  have hsb:=hs.box.lt
  have t:Turn F w (w.setCell ⟨sb,2,none⟩ lv):=(Turn.refl F w).setCell (a:=⟨sb,2,none⟩) (.inl (hF sb (.inr rfl))) lv
  have hz:=t.size;have hq:=q.size
  refine⟨⟨FJ,p,lv,hs.setTx lv l hr.1,fun k hk=>.inl (hF k hk),fun g off n cap e hn=>?_,fun k hk=>hk.elim (fun hk=>Nat.lt_of_lt_of_le (hlt k hk) (Nat.le_trans hq hz)) (fun hk=>hk.2)⟩,(Turn.of_q q).trans t⟩
  rcases hr.2 g off n cap e hn with hg|hg
  ·exact .inl hg
  ·refine .inr ⟨hg,?_⟩
   obtain⟨g',off',⟨cap',e'⟩,h2,_⟩:=hr.1.2 hn
   rw[e] at e'
   simp only[Value.slice.injEq,Option.some.injEq,Addr.mk.injEq] at e'
   obtain⟨⟨rfl,_,_⟩,_,_⟩:=e'
   omega
theorem RTurn7_any(h:RStG w0 FJ sb b p tv σ)(hF:∀k,FJ k∨k=sb→F k)(hT:∀g off n cap,tv=.slice (some ⟨g,off,none⟩) n cap→0<σ.tx.length→F g)(hlt:∀k,F k→k<w0.heap.size)(q:Q w0 w)(hk:RKnow σ)(hd:σ.dead=false)(a c:Nat)(on:Bool)(hac:a+c≤σ.n):
  Calls Tryz.prog 92 #[ptrV sb,.int .i64 (a:Nat),.int .i64 (c:Nat),.bool on] w fun e w'=>e=.returned (.int .i64 (σ.turn a c on).2)∧RStAt w' (grow F w0 w') sb b (σ.turn a c on).1∧Turn F w0 w':=by
 have hbi:=fun (W:World) (q:Q w0 W)=>RBitsM_any (h.keep q) hk hd
 have hbl:=fun (W:World) (q:Q w0 W)=>RBlocks7_any (h.keep q)
 have hmx:=hk.num.max
 have hbg:=hk.num.big
 have hpa:=fun (W:World)=>RParts_any σ.n W (by omega)
 have hml:=hk.num.map
 have hpp:=partsN_pos σ.n (by omega)
 have hp2:=(firstD_lt σ.n hbg hmx).2
 have hse:=fun (W:World)=>rset_ok σ.map1 a c on W (by omega) (by omega)
 have hfj:∀k,FJ k→k<w0.heap.size:=fun k hk=>hlt k (hF k (.inl hk))
 have hto:=fun (W:World) (q:Q w0 W) (lv:Value) (l:List WrL) (hl:l.length≤100000) (hr:RowOk w0 W F FJ lv l)=>RTouchAt_any h hF hT hlt q lv l hl hr
 obtain⟨k1,k2,k3,k4⟩:=hk.data hd
 have hlen:=fun (k:Nat)=>(show(touchL σ.tx (turnedK σ.map1 (setTo σ.map1 a on c) k)).length≤1000+k from by
  have:=touchL_len (turnedK σ.map1 (setTo σ.map1 a on c) k) σ.tx;have:=turnedK_len σ.map1 (setTo σ.map1 a on c) k;omega)
 have hris:=fun (k:Nat)=>touch_rise (turnedK σ.map1 (setTo σ.map1 a on c) k) σ.tx k3
 have hwi:=fun (W:World) (lv:Value) (k:Nat) (s:Bytes) (i:Nat) (hi:i≤1000000) (hs:Sl W lv (touchL σ.tx (turnedK σ.map1 (setTo σ.map1 a on c) k)).length 2 (wrVs (touchL σ.tx (turnedK σ.map1 (setTo σ.map1 a on c) k)))) (hk2:k≤2) =>
  RWith_any W lv _ i s hs (hris k) (by have:=touchL_len (turnedK σ.map1 (setTo σ.map1 a on c) k) σ.tx;have:=turnedK_len σ.map1 (setTo σ.map1 a on c) k;have:=(hk.num.num hd).2.2.2.2.1;omega) hi
 have hbl1:(setTo σ.map1 a on c).length=σ.map1.length:=length_setTo _ _ _ _
 have hsx:∀k,touchL σ.tx (turnedK σ.map1 (setTo σ.map1 a on c) (k+1))=if partL (setTo σ.map1 a on c) k=partL σ.map1 k then touchL σ.tx (turnedK σ.map1 (setTo σ.map1 a on c) k) else withL (touchL σ.tx (turnedK σ.map1 (setTo σ.map1 a on c) k)) (63+k,partL (setTo σ.map1 a on c) k):=fun k=>by
  rw[turnedK_succ]
  split
  ·rw[List.append_nil]
  ·rw[touch_snoc]
 have hex:∀(b:Bytes) (i:Nat),({ data:=b.toArray }:ByteArray).extract (256*i) (256*i+256)=⟨(partL b i).toArray⟩:=fun b i=>by
  rw[bytes_extract,show 256*i+256-256*i=256 by omega,Nat.mul_comm 256 i];rfl
 have hres:(σ.turn a c on).2=(if (touchL σ.tx (turnedK σ.map1 (setTo σ.map1 a on c) (partsN σ.n))).length>48 then 6 else 0)∧∀w',RStAt w' (grow F w0 w') sb b (if (touchL σ.tx (turnedK σ.map1 (setTo σ.map1 a on c) (partsN σ.n))).length>48 then σ else { σ with tx:=touchL σ.tx (turnedK σ.map1 (setTo σ.map1 a on c) (partsN σ.n)) })→RStAt w' (grow F w0 w') sb b (σ.turn a c on).1:=by
  have e:σ.turned (setTo σ.map1 a on c)=turnedK σ.map1 (setTo σ.map1 a on c) (partsN σ.n):=rfl
  unfold StL.turn StL.touch
  rw[e]
  by_cases hl:(touchL σ.tx (turnedK σ.map1 (setTo σ.map1 a on c) (partsN σ.n))).length>48
  ·rw[if_pos hl,if_pos hl]
   exact⟨rfl,fun w' h=>by rw[if_pos hl] at h;exact h⟩
  ·rw[if_neg hl,if_neg hl]
   refine⟨rfl,fun w' h=>?_⟩
   rw[if_neg hl] at h
   obtain⟨FJ',p',tv',h1,h2,h3,h4⟩:=h
   exact⟨FJ',p',tv',h1.congr rfl rfl rfl,h2,h3,h4⟩
 have hrow0:RowOk w0 w0 F FJ tv (touchL σ.tx (turnedK σ.map1 (setTo σ.map1 a on c) 0)):=⟨h.tx,fun g off n cap e hn=>.inl (hT g off n cap e hn)⟩
 have hstep:=fun (W W':World) (v:Value) (l:List WrL) (q:Q w0 W) (hr:W'.ownsRow W.heap.size 102 2 v l.length (wrVs l))=>(RowOk.owned hr q.size hfj:RowOk w0 W' F FJ v l)
 obtain⟨c0,c1,c2,f0,f1,f2⟩:=h.box.c3f
 rw[hres.1]
 have HRE:=Lib.hid hres.2
 have HBI:=Lib.hid hbi;have HBL:=Lib.hid hbl;have HPA:=Lib.hid hpa;have HSE:=Lib.hid hse;have HTO:=Lib.hid hto;have HWI:=Lib.hid hwi;have HSX:=Lib.hid hsx;have HEX:=Lib.hid hex;have HROW:=Lib.hid hrow0;have HSTP:=Lib.hid hstep;have HLEN:=Lib.hid hlen
 have C2:=Lib.hid c2
 have QQ0:=Lib.hid q
 have hbw:w0.cell? ⟨sb,2,none⟩=some tv:=c2
 have hlbb:(setTo σ.map1 a on c).length=256*partsN σ.n:=by rw[hbl1,hml]
 clear hres hbi hbl hpa hse hto hwi hsx hex hrow0 hstep hlen hris hfj h hF hT hlt q hk hd k1 k2 k3 k4 c0 c1 c2 f0 f1 f2 hbl1 hac hpp
 generalize setTo σ.map1 a on c=bb at *
 generalize σ.map1=mm at *
 generalize partsN σ.n=pn at *
 generalize hev:(if (touchL σ.tx (turnedK mm bb pn)).length>48 then(6:Int) else 0)=ev
 have HEV:=Lib.hid hev
 clear hev
 have hc2:=cellQ QQ0.out hbw
 go_enter Tryz.func92,Tryz.ntmps92
 go_wp2_with fail
 refine(HBI.out _ QQ0.out).mono ?_
 rintro e w1 ⟨rfl,q1⟩
 have Q1:=Lib.hid (QQ0.out.trans q1)
 clear q1
 go_wp2_with fail
 refine(HSE.out _).mono ?_
 rintro e w2 ⟨rfl,q2⟩
 have Q2:=Lib.hid (Q1.out.trans (show Q w1 w2 from q2))
 clear q2
 have hc2:=cellQ Q2.out hbw
 go_wp2_with fail
 go_loopw [12,13] (fun lv iv wr=>∃k:Nat,iv=.int .i64 (k:Nat)∧k≤pn∧Hid (RowOk w0 wr F FJ lv (touchL σ.tx (turnedK mm bb k)))∧Hid (Q w0 wr)) (fun _ iv _=>pn-(intOf iv).toNat)
 case atStart=>exact⟨0,rfl,Nat.zero_le _,Lib.hid (HROW.out.keep Q2.out),Q2⟩
 case round =>
  obtain⟨k,rfl,hk,HR,HQ⟩:=hrel
  by_cases hlt:k<pn
  ·have hki:(k:Int)<(pn:Int):=by omega
   have hsx:=HSX.out k
   have hx1:=HEX.out bb k
   have hx2:=HEX.out mm k
   have w1':IntKind.i64.wrap (256*(k:Int))=256*(k:Int):=IntWalk.i64_in _ (by omega)
   have w2':IntKind.i64.wrap (256*(k:Int)+256)=256*(k:Int)+256:=IntWalk.i64_in _ (by omega)
   have w3':IntKind.i64.wrap (63+(k:Int))=63+(k:Int):=IntWalk.i64_in _ (by omega)
   have n1:(256*(k:Int)).toNat=256*k:=by omega
   have n2:(256*(k:Int)+256).toNat=256*k+256:=by omega
   have l1:(0:Int)≤256*(k:Int):=by omega
   have l2:256*(k:Int)≤256*(k:Int)+256:=by omega
   have l3:256*(k:Int)+256≤(bb.length:Int):=by omega
   have l4:256*(k:Int)+256≤(mm.length:Int):=by omega
   have hwk:=fun (W:World) (lv:Value) (hs:Sl W lv (touchL σ.tx (turnedK mm bb k)).length 2 (wrVs (touchL σ.tx (turnedK mm bb k))))=>HWI.out W lv k (partL bb k) (63+k) (by omega) hs (by omega)
   rw[show((63+k:Nat):Int)=63+(k:Int) by omega] at hwk
   obtain⟨la,lc,rfl,_⟩:=HR.out.1.value
   have HWK:=Lib.hid hwk;have HS:=Lib.hid hsx
   clear hwk hsx
   generalize touchL σ.tx (turnedK mm bb k)=lk at *
   generalize hpb:partL bb k=pb at *
   generalize hpm:partL mm k=pm at *
   clear hpb hpm
   by_cases heq:pb=pm
   ·have hs2:=HS.out
    rw[if_pos heq] at hs2
    have HS2:=Lib.hid hs2
    have heb1:(pb==pm)=true:=beq_iff_eq.2 heq
    clear hs2 HS heq
    go_wp2_with fail
    refine(HBL.out _ HQ.out).mono ?_
    rintro e w3 ⟨rfl,rfl⟩
    go_wp2_with fail
    refine(HPA.out _).mono ?_
    rintro e w3 ⟨rfl,rfl⟩
    go_wp2_with fail
    go_roundw
    case rel=>exact⟨k+1,by go_num,by omega,by rw[HS2.out];exact HR,HQ⟩
    case measure=>simp[intOf];omega
   ·have hs2:=HS.out
    rw[if_neg heq] at hs2
    have HS2:=Lib.hid hs2
    have heb1:(pb==pm)=false:=beq_false_of_ne heq
    clear hs2 HS heq
    go_wp2_with fail
    refine(HBL.out _ HQ.out).mono ?_
    rintro e w3 ⟨rfl,rfl⟩
    go_wp2_with fail
    refine(HPA.out _).mono ?_
    rintro e w3 ⟨rfl,rfl⟩
    go_wp2_with fail
    refine(HWK.out _ _ HR.out.1.1).mono ?_
    rintro e w4 ⟨v4,rfl,h4,q4⟩
    have HR4:=Lib.hid (HSTP.out wr w4 v4 _ HQ.out h4)
    have HQ4:=Lib.hid (HQ.out.trans q4)
    clear h4 q4
    go_wp2_with fail
    go_roundw
    case rel=>exact⟨k+1,by go_num,by omega,by rw[HS2.out];exact HR4,HQ4⟩
    case measure=>simp[intOf];omega
  ·have hki:¬(k:Int)<(pn:Int):=by omega
   obtain rfl:k=pn:=by omega
   have hto:=HTO.out wr HQ.out _ _ (by have:=HLEN.out k;omega) HR.out
   rw[HEV.out] at hto
   have HT2:=Lib.hid hto
   clear hto
   go_wp2_with fail
   refine(HBL.out _ HQ.out).mono ?_
   rintro e w3 ⟨rfl,rfl⟩
   go_wp2_with fail
   refine(HPA.out _).mono ?_
   rintro e w3 ⟨rfl,rfl⟩
   go_wp2_with fail
   refine HT2.out.mono ?_
   rintro e w5 ⟨rfl,h5,t5⟩
   have H5:=Lib.hid h5;have T5:=Lib.hid t5
   clear h5 t5
   go_wp2_with fail
   go_ret
   exact⟨rfl,HRE.out _ H5.out,T5.out⟩
end
end
section
open Go.RowKit
section
variable {w:World} {F:Nat→Prop} {sb b:Nat} {σ:StL}
theorem RStAt.same{w':World}(h:RStAt w F sb b σ)(q:Q w w'):RStAt w' (grow F w w') sb b σ∧Turn F w w':=by
 obtain⟨FJ,p,tv,h1,h2,h3,h4⟩:=h
 exact⟨⟨FJ,p,tv,h1.keep q,fun k hk=>.inl (h2 k hk),fun g off n cap e hn=>.inl (h3 g off n cap e hn),fun k hk=>hk.elim (fun hk=>Nat.lt_of_lt_of_le (h4 k hk) q.size) (fun hk=>hk.2)⟩,Turn.of_q q⟩
theorem StL.live_of(hs:σ.state true=0):σ.dead=false∧σ.open_=true:=by
 unfold StL.state at hs
 cases hd:σ.dead with
 | true=>rw[hd,if_pos rfl] at hs;exact absurd hs (by decide)
 | false =>
  rw[hd,if_neg (by decide)] at hs
  cases ho:σ.open_ with
  | true=>exact⟨rfl,rfl⟩
  | false=>rw[ho,if_neg (by decide)] at hs;exact absurd hs (by decide)
theorem RFree7_any(h:RStAt w F sb b σ)(hk:RKnow σ)(hd:σ.dead=false):
  Calls Tryz.prog 12 #[ptrV sb] w fun e w'=>e=.returned (.int .i64 (σ.free:Nat))∧Q w w':=by
 obtain⟨FJ,p,tv,h1,h2,h3,h4⟩:=h
 have hbi:=RBitsM_any h1 hk hd
 have hbl:=fun (W:World) (q:Q w W)=>RBlocks7_any (h1.keep q)
 have hmx:=hk.num.max
 have hfr:=fun (W:World)=>rFree_any σ.map1 (σ.n:Nat) W (by have:=hk.num.map;have:=partsN_pos σ.n (by have:=hk.num.big;omega);omega) (by omega) (by omega)
 rw[firstN_n hk.num] at hfr
 have he:σ.free=cnt σ.map1 σ.n:=rfl
 rw[he]
 have HBI:=Lib.hid hbi;have HBL:=Lib.hid hbl;have HFR:=Lib.hid hfr
 clear hbi hbl hfr h1 h2 h3 h4 hk hd he
 generalize cnt σ.map1 σ.n=cc at *
 generalize σ.map1=mm at *
 generalize σ.n=n at *
 go_enter Tryz.func12,Tryz.ntmps12
 go_wp2_with fail
 refine HBI.out.mono ?_
 rintro e w1 ⟨rfl,q1⟩
 have Q1:=Lib.hid q1
 clear q1
 go_wp2_with fail
 refine(HBL.out _ Q1.out).mono ?_
 rintro e w2 ⟨rfl,rfl⟩
 go_wp2_with fail
 refine(HFR.out _).mono ?_
 rintro e w2 ⟨rfl,rfl⟩
 go_wp2_with fail
 go_ret
 exact⟨rfl,Q1.out⟩
theorem RWrite7_any(h:RStAt w F sb b σ)(hk:RKnow σ)(i:Int)(s:Bytes)(hs8:s.length≤1000000000000):
  Calls Tryz.prog 36 #[ptrV sb,.int .i64 i,strV s] w fun e w'=>e=.returned (.int .i64 (σ.write i s).2)∧RStAt w' (grow F w w') sb b (σ.write i s).1∧Turn F w w':=by
 have hsame:=fun (W:World) (q:Q w W)=>h.same q
 obtain⟨FJ,p,tv,h1,h2,h3,h4⟩:=h
 have hrd:=RReady_any h1
 have hou:=ROurs_any h1 hk.num.max i
 by_cases hs:σ.state true=0
 ·obtain⟨hd,ho⟩:=StL.live_of hs
  rw[hs] at hrd
  cases hdt:σ.isData i with
  | false =>
   have hw:σ.write i s=(σ,2):=by unfold StL.write;rw[if_neg (by rw[hs];decide),hdt,if_pos rfl]
   rw[hdt] at hou
   rw[hw]
   have HRD:=Lib.hid hrd;have HOU:=Lib.hid hou;have HS:=Lib.hid hsame
   clear hrd hou hsame h1 h2 h3 h4 hk hs hd ho hdt hw
   go_enter Tryz.func36,Tryz.ntmps36
   go_wp2_with fail
   refine HRD.out.mono ?_
   rintro e w1 ⟨rfl,rfl⟩
   go_wp2_with fail
   refine HOU.out.mono ?_
   rintro e w1 ⟨rfl,rfl⟩
   go_wp2_with fail
   go_ret
   exact⟨rfl,HS.out _ (Q.refl _)⟩
  | true =>
   have hii:(firstD σ.n:Int)≤i∧i<(σ.n:Int):=of_decide_eq_true hdt
   have hmx:=hk.num.max
   have hbi:=RBitsM_any h1 hk hd
   have hge:=fun (W:World)=>rget_any σ.map1 i W (by have:=hk.num.map;have:=partsN_pos σ.n (by have:=hk.num.big;omega);omega) (by omega)
   have hbt:bitI σ.map1 i=bit σ.map1 i.toNat:=by unfold bitI;rw[decide_eq_true (by omega:0≤i),Bool.true_and]
   rw[hbt] at hge
   rw[hdt] at hou
   cases hb:bit σ.map1 i.toNat with
   | false =>
    have hw:σ.write i s=(σ,10):=by unfold StL.write;rw[if_neg (by rw[hs];decide),hdt,if_neg (by decide),hb,if_pos rfl]
    rw[hb] at hge
    rw[hw]
    have HRD:=Lib.hid hrd;have HOU:=Lib.hid hou;have HS:=Lib.hid hsame;have HBI:=Lib.hid hbi;have HGE:=Lib.hid hge
    clear hrd hou hsame hbi hge h1 h2 h3 h4 hk hs hd ho hdt hw hb hbt
    generalize σ.map1=mm at *
    go_enter Tryz.func36,Tryz.ntmps36
    go_wp2_with fail
    refine HRD.out.mono ?_
    rintro e w1 ⟨rfl,rfl⟩
    go_wp2_with fail
    refine HOU.out.mono ?_
    rintro e w1 ⟨rfl,rfl⟩
    go_wp2_with fail
    refine HBI.out.mono ?_
    rintro e w1 ⟨rfl,q1⟩
    have Q1:=Lib.hid q1
    clear q1
    go_wp2_with fail
    refine(HGE.out _).mono ?_
    rintro e w2 ⟨rfl,rfl⟩
    go_wp2_with fail
    go_ret
    exact⟨rfl,HS.out _ Q1.out⟩
   | true =>
    rw[hb] at hge
    by_cases hl:s.length=256
    ·have hw:σ.write i s=σ.touch [(i.toNat,s)]:=by unfold StL.write;rw[if_neg (by rw[hs];decide),hdt,if_neg (by decide),hb,if_neg (by decide),if_neg (by omega)]
     obtain⟨k1,k2,k3,k4⟩:=hk.data hd
     have hl48:=(hk.num.num hd).2.2.2.2.1
     have hfj:∀k,FJ k→k<w.heap.size:=fun k hk=>h4 k (h2 k (.inl hk))
     have hwi:=fun (W:World) (q:Q w W)=>RWith_any W tv σ.tx i.toNat s (h1.tx.1.stays q) k3 k4 (by omega)
     rw[show((i.toNat:Nat):Int)=i by omega] at hwi
     have hlw:=withL_len σ.tx (i.toNat,s)
     have hto:=fun (W W':World) (v:Value) (q:Q w W) (q':Q w W') (hr:W'.ownsRow W.heap.size 102 2 v (withL σ.tx (i.toNat,s)).length (wrVs (withL σ.tx (i.toNat,s))))=>RTouchAt_any h1 h2 h3 h4 q' v (withL σ.tx (i.toNat,s)) (by omega) (RowOk.owned hr q.size hfj)
     have hres:(σ.touch [(i.toNat,s)]).2=(if (withL σ.tx (i.toNat,s)).length>48 then 6 else 0)∧(σ.touch [(i.toNat,s)]).1=(if (withL σ.tx (i.toNat,s)).length>48 then σ else { σ with tx:=withL σ.tx (i.toNat,s) }):=by
      unfold StL.touch
      rw[touch_one]
      split<;>exact⟨rfl,rfl⟩
     obtain⟨a0,cap0,hv,_⟩:=h1.tx.value
     subst hv
     obtain⟨c0,c1,c2,f0,f1,f2⟩:=h1.box.c3f
     have hli:((s.length:Int) != 256)=false:=by rw[bne,beq_iff_eq.2 (by omega)];rfl
     have hl5:s.length≤256:=by omega
     rw[hw,hres.1,hres.2]
     have HRD:=Lib.hid hrd;have HOU:=Lib.hid hou;have HBI:=Lib.hid hbi;have HGE:=Lib.hid hge;have HWI:=Lib.hid hwi;have HTO:=Lib.hid hto
     clear hrd hou hsame hbi hge h1 h2 h3 h4 hk hs hd ho hdt hw hb hbt hres hwi hto hfj k1 k2 k3 k4 c0 c1 f0 f1 f2 hlw hl48 hs8
     generalize hev:(if (withL σ.tx (i.toNat,s)).length>48 then(6:Int) else 0)=ev at *
     generalize hsv:(if (withL σ.tx (i.toNat,s)).length>48 then σ else { σ with tx:=withL σ.tx (i.toNat,s) })=sv at *
     generalize withL σ.tx (i.toNat,s)=lw at *
     clear hev hsv
     generalize σ.map1=mm at *
     go_enter Tryz.func36,Tryz.ntmps36
     go_wp2_with fail
     refine HRD.out.mono ?_
     rintro e w1 ⟨rfl,rfl⟩
     go_wp2_with fail
     refine HOU.out.mono ?_
     rintro e w1 ⟨rfl,rfl⟩
     go_wp2_with fail
     refine HBI.out.mono ?_
     rintro e w1 ⟨rfl,q1⟩
     have Q1:=Lib.hid q1
     clear q1
     have y2:=cellQ Q1.out c2
     go_wp2_with fail
     refine(HGE.out _).mono ?_
     rintro e w2 ⟨rfl,rfl⟩
     go_wp2_with fail
     refine(HWI.out _ Q1.out).mono ?_
     rintro e w3 ⟨v3,rfl,h3,q3⟩
     have hto:=HTO.out _ _ v3 Q1.out (Q1.out.trans q3) h3
     have HT2:=Lib.hid hto
     clear hto h3 q3
     go_wp2_with fail
     refine HT2.out.mono ?_
     rintro e w4 ⟨rfl,h5,t5⟩
     have H5:=Lib.hid h5;have T5:=Lib.hid t5
     clear h5 t5
     go_wp2_with fail
     go_ret
     exact⟨rfl,H5.out,T5.out⟩
    ·have hw:σ.write i s=(σ,3):=by unfold StL.write;rw[if_neg (by rw[hs];decide),hdt,if_neg (by decide),hb,if_neg (by decide),if_pos hl]
     have hli:((s.length:Int) != 256)=true:=by rw[bne,beq_eq_false_iff_ne.2 (by omega)];rfl
     rw[hw]
     have HRD:=Lib.hid hrd;have HOU:=Lib.hid hou;have HS:=Lib.hid hsame;have HBI:=Lib.hid hbi;have HGE:=Lib.hid hge
     clear hrd hou hsame hbi hge h1 h2 h3 h4 hk hs hd ho hdt hw hb hbt hl
     generalize σ.map1=mm at *
     go_enter Tryz.func36,Tryz.ntmps36
     go_wp2_with fail
     refine HRD.out.mono ?_
     rintro e w1 ⟨rfl,rfl⟩
     go_wp2_with fail
     refine HOU.out.mono ?_
     rintro e w1 ⟨rfl,rfl⟩
     go_wp2_with fail
     refine HBI.out.mono ?_
     rintro e w1 ⟨rfl,q1⟩
     have Q1:=Lib.hid q1
     clear q1
     go_wp2_with fail
     refine(HGE.out _).mono ?_
     rintro e w2 ⟨rfl,rfl⟩
     go_wp2_with fail
     go_ret
     exact⟨rfl,HS.out _ Q1.out⟩
 ·have hw:σ.write i s=(σ,σ.state true):=by unfold StL.write;rw[if_pos hs]
  rw[hw]
  simp only
  have hne:(σ.state true==0)=false:=beq_eq_false_iff_ne.2 hs
  have hne2:(σ.state true != 0)=true:=by rw[bne,hne];rfl
  have HRD:=Lib.hid hrd;have HS:=Lib.hid hsame
  clear hrd hou hsame h1 h2 h3 h4 hk hw hs
  generalize σ.state true=st at *
  go_enter Tryz.func36,Tryz.ntmps36
  go_wp2_with fail
  refine HRD.out.mono ?_
  rintro e w1 ⟨rfl,rfl⟩
  go_wp2_with fail
  go_ret
  exact⟨rfl,HS.out _ (Q.refl _)⟩
end
end
section
open Go.RowKit
section
variable {w:World} {F:Nat→Prop} {sb b:Nat} {σ:StL}
theorem RAlloc7_any(h:RStAt w F sb b σ)(hk:RKnow σ)(c:Int)(hc0 : -9223372036854775808≤c)(hc1:c≤9223372036854775807):
  Calls Tryz.prog 37 #[ptrV sb,.int .i64 c] w fun e w'=>e=.returned (.tuple #[.int .i64 (σ.alloc c).2.1,.int .i64 (σ.alloc c).2.2])∧RStAt w' (grow F w w') sb b (σ.alloc c).1∧Turn F w w':=by
 have hsame:=fun (W:World) (q:Q w W)=>h.same q
 obtain⟨FJ,p,tv,h1,h2,h3,h4⟩:=h
 have hrd:=RReady_any h1
 by_cases hs:σ.state true=0
 ·obtain⟨hd,ho⟩:=StL.live_of hs
  rw[hs] at hrd
  by_cases hc:c<1
  ·have hw:σ.alloc c=(σ,0,1):=by unfold StL.alloc;rw[if_neg (by rw[hs];decide),if_pos hc]
   rw[hw]
   have HRD:=Lib.hid hrd;have HS:=Lib.hid hsame
   clear hrd hsame h1 h2 h3 h4 hk hs hd ho hw
   go_enter Tryz.func37,Tryz.ntmps37
   go_wp2_with fail
   refine HRD.out.mono ?_
   rintro e w1 ⟨rfl,rfl⟩
   go_wp2_with fail
   go_ret2
   exact⟨rfl,HS.out _ (Q.refl _)⟩
  ·have hbi:=RBitsM_any h1 hk hd
   have hbl:=fun (W:World) (q:Q w W)=>RBlocks7_any (h1.keep q)
   have hmx:=hk.num.max
   have hfi:=fun (W:World)=>rFit_any σ.map1 (σ.n:Nat) c W (by have:=hk.num.map;have:=partsN_pos σ.n (by have:=hk.num.big;omega);omega) (by omega) (by omega)
   have hfr:fitR σ.map1 (σ.n:Nat) c=fitO (fitN σ.map1 c.toNat σ.n):=by unfold fitR;rw[if_neg hc,firstN_n hk.num]
   rw[hfr] at hfi
   cases hf:fitN σ.map1 c.toNat σ.n with
   | none =>
    have hw:σ.alloc c=(σ,0,9):=by unfold StL.alloc;rw[if_neg (by rw[hs];decide),if_neg hc,hf]
    rw[hf] at hfi
    rw[hw]
    simp only[fitO] at hfi
    have HRD:=Lib.hid hrd;have HS:=Lib.hid hsame;have HBI:=Lib.hid hbi;have HBL:=Lib.hid hbl;have HFI:=Lib.hid hfi
    clear hrd hsame hbi hbl hfi h1 h2 h3 h4 hk hs hd ho hw hf hfr
    generalize σ.map1=mm at *
    generalize σ.n=n at *
    go_enter Tryz.func37,Tryz.ntmps37
    go_wp2_with fail
    refine HRD.out.mono ?_
    rintro e w1 ⟨rfl,rfl⟩
    go_wp2_with fail
    refine HBI.out.mono ?_
    rintro e w1 ⟨rfl,q1⟩
    have Q1:=Lib.hid q1
    clear q1
    go_wp2_with fail
    refine(HBL.out _ Q1.out).mono ?_
    rintro e w2 ⟨rfl,rfl⟩
    go_wp2_with fail
    refine(HFI.out _).mono ?_
    rintro e w2 ⟨rfl,q2⟩
    have Q2:=Lib.hid (Q1.out.trans (show Q w1 w2 from q2))
    clear q2
    go_wp2_with fail
    go_ret2
    exact⟨rfl,HS.out _ Q2.out⟩
   | some a =>
    have hac:=(fit_some _ _ _ _ hf).2.1
    have htu:=fun (W:World) (q:Q w W)=>RTurn7_any h1 h2 h3 h4 q hk hd a c.toNat true (by omega)
    rw[show((c.toNat:Nat):Int)=c by omega] at htu
    have hw:σ.alloc c=if (σ.turn a c.toNat true).2≠0 then((σ.turn a c.toNat true).1,0,(σ.turn a c.toNat true).2) else((σ.turn a c.toNat true).1,((a:Nat):Int),0):=by unfold StL.alloc;rw[if_neg (by rw[hs];decide),if_neg hc,hf]
    rw[hf] at hfi
    simp only[fitO] at hfi
    rw[hw]
    have HRD:=Lib.hid hrd;have HBI:=Lib.hid hbi;have HBL:=Lib.hid hbl;have HFI:=Lib.hid hfi;have HTU:=Lib.hid htu
    clear hrd hsame hbi hbl hfi htu h1 h2 h3 h4 hk hs hd ho hw hf hfr hac
    generalize σ.turn a c.toNat true=tr at *
    obtain⟨σ2,te⟩:=tr
    simp only at HTU ⊢
    generalize σ.map1=mm at *
    generalize σ.n=n at *
    by_cases ht:te=0
    ·subst ht
     rw[if_neg (by simp)]
     go_enter Tryz.func37,Tryz.ntmps37
     go_wp2_with fail
     refine HRD.out.mono ?_
     rintro e w1 ⟨rfl,rfl⟩
     go_wp2_with fail
     refine HBI.out.mono ?_
     rintro e w1 ⟨rfl,q1⟩
     have Q1:=Lib.hid q1
     clear q1
     go_wp2_with fail
     refine(HBL.out _ Q1.out).mono ?_
     rintro e w2 ⟨rfl,rfl⟩
     go_wp2_with fail
     refine(HFI.out _).mono ?_
     rintro e w2 ⟨rfl,q2⟩
     have Q2:=Lib.hid (Q1.out.trans (show Q w1 w2 from q2))
     clear q2
     go_wp2_with fail
     refine(HTU.out _ Q2.out).mono ?_
     rintro e w3 ⟨rfl,h3,t3⟩
     have H3:=Lib.hid h3;have T3:=Lib.hid t3
     clear h3 t3
     go_wp2_with fail
     go_ret2
     exact⟨rfl,H3.out,T3.out⟩
    ·rw[if_pos ht]
     have hne:(te==0)=false:=beq_eq_false_iff_ne.2 ht
     have hne2:(te != 0)=true:=by rw[bne,hne];rfl
     clear ht
     go_enter Tryz.func37,Tryz.ntmps37
     go_wp2_with fail
     refine HRD.out.mono ?_
     rintro e w1 ⟨rfl,rfl⟩
     go_wp2_with fail
     refine HBI.out.mono ?_
     rintro e w1 ⟨rfl,q1⟩
     have Q1:=Lib.hid q1
     clear q1
     go_wp2_with fail
     refine(HBL.out _ Q1.out).mono ?_
     rintro e w2 ⟨rfl,rfl⟩
     go_wp2_with fail
     refine(HFI.out _).mono ?_
     rintro e w2 ⟨rfl,q2⟩
     have Q2:=Lib.hid (Q1.out.trans (show Q w1 w2 from q2))
     clear q2
     go_wp2_with fail
     refine(HTU.out _ Q2.out).mono ?_
     rintro e w3 ⟨rfl,h3,t3⟩
     have H3:=Lib.hid h3;have T3:=Lib.hid t3
     clear h3 t3
     go_wp2_with fail
     go_ret2
     exact⟨rfl,H3.out,T3.out⟩
 ·have hw:σ.alloc c=(σ,0,σ.state true):=by unfold StL.alloc;rw[if_pos hs]
  rw[hw]
  simp only
  have hne:(σ.state true==0)=false:=beq_eq_false_iff_ne.2 hs
  have hne2:(σ.state true != 0)=true:=by rw[bne,hne];rfl
  have HRD:=Lib.hid hrd;have HS:=Lib.hid hsame
  clear hrd hsame h1 h2 h3 h4 hk hw hs
  generalize σ.state true=st at *
  go_enter Tryz.func37,Tryz.ntmps37
  go_wp2_with fail
  refine HRD.out.mono ?_
  rintro e w1 ⟨rfl,rfl⟩
  go_wp2_with fail
  go_ret2
  exact⟨rfl,HS.out _ (Q.refl _)⟩
theorem RStAt.commit_shut(h:RStAt w F sb b σ):∃FJ p tv,RStG w FJ sb b p tv σ∧RStAt ((w.setCell ⟨sb,1,none⟩ (.bool false)).setCell ⟨sb,2,none⟩ (.slice none 0 0)) (grow F w ((w.setCell ⟨sb,1,none⟩ (.bool false)).setCell ⟨sb,2,none⟩ (.slice none 0 0))) sb b σ.close∧Turn F w ((w.setCell ⟨sb,1,none⟩ (.bool false)).setCell ⟨sb,2,none⟩ (.slice none 0 0)):=by
 obtain⟨FJ,p,tv,h1,h2,h3,h4⟩:=h
 have t:Turn F w ((w.setCell ⟨sb,1,none⟩ (.bool false)).setCell ⟨sb,2,none⟩ (.slice none 0 0)):=((Turn.refl F w).setCell (a:=⟨sb,1,none⟩) (.inl (h2 sb (.inr rfl))) _).setCell (a:=⟨sb,2,none⟩) (.inl (h2 sb (.inr rfl))) _
 exact⟨FJ,p,tv,h1,⟨FJ,p,_,h1.shut,fun k hk=>.inl (h2 k hk),fun g off n cap e hn=>absurd hn (Nat.lt_irrefl 0),fun k hk=>hk.elim (fun hk=>Nat.lt_of_lt_of_le (h4 k hk) t.size) (fun hk=>hk.2)⟩,t⟩
theorem RStAt.ends(h:RStAt w F sb b σ)(τ:StL)(h1:τ.open_=σ.open_)(h2:τ.tx=σ.tx)(h3:τ.j=σ.j):RStAt w F sb b τ:=by
 obtain⟨FJ,p,tv,a,c,d,e⟩:=h
 exact⟨FJ,p,tv,a.congr h1 h2 h3,c,fun g off n cap x hn=>d g off n cap x (by rw[←h2];exact hn),e⟩
theorem RAbortA_any(h:RStAt w F sb b σ):
  Calls Tryz.prog 41 #[ptrV sb] w fun e w'=>e=.returned (.tuple #[])∧RStAt w' (grow F w w') sb b σ.close∧Turn F w w':=by
 obtain⟨FJ,p,tv,h1,h2,t⟩:=h.commit_shut
 refine(RAbort7_any h1).mono ?_
 rintro e w' ⟨rfl,rfl⟩
 exact⟨rfl,h2,t⟩
theorem RBeginA_any(h:RStAt w F sb b σ):
  Calls Tryz.prog 39 #[ptrV sb] w fun e w'=>e=.returned (.int .i64 σ.begin.2)∧RStAt w' (grow F w w') sb b σ.begin.1∧Turn F w w':=by
 obtain⟨FJ,p,tv,h1,h2,h3,h4⟩:=h
 refine(RBegin7_any h1).mono ?_
 rintro e w' ⟨rfl,h5,hw⟩
 have t:Turn F w w':=by
  rcases hw with rfl|⟨v,rfl⟩
  ·exact Turn.refl _ _
  ·exact(Turn.refl F w).setCell (a:=⟨sb,1,none⟩) (.inl (h2 sb (.inr rfl))) _
 have htx:σ.begin.1.tx=σ.tx:=by unfold StL.begin;split<;>rfl
 exact⟨rfl,⟨FJ,p,tv,h5,fun k hk=>.inl (h2 k hk),fun g off n cap e hn=>.inl (h3 g off n cap e (by rw[←htx];exact hn)),fun k hk=>hk.elim (fun hk=>Nat.lt_of_lt_of_le (h4 k hk) t.size) (fun hk=>hk.2)⟩,t⟩
theorem RReadA_any(h:RStAt w F sb b σ)(hk:RKnow σ)(i:Int):
  Calls Tryz.prog 42 #[ptrV sb,.int .i64 i] w fun e w'=>e=.returned (.tuple #[strV (σ.read i).1,.int .i64 (σ.read i).2])∧RStAt w' (grow F w w') sb b σ∧Turn F w w':=by
 have hsame:=fun (W:World) (q:Q w W)=>h.same q
 obtain⟨FJ,p,tv,h1,h2,h3,h4⟩:=h
 refine(RRead7_any h1 hk i).mono ?_
 rintro e w' ⟨rfl,q⟩
 exact⟨rfl,hsame _ q⟩
end
end
section
open Go.RowKit
section
variable {w:World} {F:Nat→Prop} {sb b:Nat} {σ:StL}
theorem RRelease7_any(h:RStAt w F sb b σ)(hk:RKnow σ)(a c:Int)(ha0 : -9223372036854775808≤a)(ha1:a≤9223372036854775807)(hc0 : -9223372036854775808≤c)(hc1:c≤9223372036854775807):
  Calls Tryz.prog 38 #[ptrV sb,.int .i64 a,.int .i64 c] w fun e w'=>e=.returned (.int .i64 (σ.release a c).2)∧RStAt w' (grow F w w') sb b (σ.release a c).1∧Turn F w w':=by
 have hsame:=fun (W:World) (q:Q w W)=>h.same q
 obtain⟨FJ,p,tv,h1,h2,h3,h4⟩:=h
 have hrd:=RReady_any h1
 by_cases hs:σ.state true=0
 ·obtain⟨hd,ho⟩:=StL.live_of hs
  rw[hs] at hrd
  have hmx:=hk.num.max
  have hbg:=hk.num.big
  have hfi:=RFirst7_any h1 hmx
  have hbl:=RBlocks7_any h1
  have hfd:=firstD_lt σ.n hbg hmx
  by_cases hg:c<1∨σ.isData a=false∨(σ.n:Int)-a<c
  ·have hw:σ.release a c=(σ,2):=by unfold StL.release;rw[if_neg (by rw[hs];decide),if_pos hg]
   rw[hw]
   have hda:σ.isData a=decide ((firstD σ.n:Int)≤a∧a<(σ.n:Int)):=rfl
   rw[hda] at hg
   have HRD:=Lib.hid hrd;have HS:=Lib.hid hsame;have HFI:=Lib.hid hfi;have HBL:=Lib.hid hbl
   have hfl:=hfd.1
   clear hrd hsame hfi hbl h1 h2 h3 h4 hk hs hd ho hw hda hfd
   generalize firstD σ.n=fd at *
   generalize σ.n=n at *
   by_cases g1:c<1
   ·clear hg
    go_enter Tryz.func38,Tryz.ntmps38
    go_wp2_with fail
    refine HRD.out.mono ?_
    rintro e w1 ⟨rfl,rfl⟩
    go_wp2_with fail
    go_ret
    exact⟨rfl,HS.out _ (Q.refl _)⟩
   ·by_cases g2:a<(fd:Int)
    ·clear hg
     go_enter Tryz.func38,Tryz.ntmps38
     go_wp2_with fail
     refine HRD.out.mono ?_
     rintro e w1 ⟨rfl,rfl⟩
     go_wp2_with fail
     refine HFI.out.mono ?_
     rintro e w1 ⟨rfl,rfl⟩
     go_wp2_with fail
     go_ret
     exact⟨rfl,HS.out _ (Q.refl _)⟩
    ·by_cases g3:(n:Int)≤a
     ·clear hg
      go_enter Tryz.func38,Tryz.ntmps38
      go_wp2_with fail
      refine HRD.out.mono ?_
      rintro e w1 ⟨rfl,rfl⟩
      go_wp2_with fail
      refine HFI.out.mono ?_
      rintro e w1 ⟨rfl,rfl⟩
      go_wp2_with fail
      refine HBL.out.mono ?_
      rintro e w1 ⟨rfl,rfl⟩
      go_wp2_with fail
      go_ret
      exact⟨rfl,HS.out _ (Q.refl _)⟩
     ·have g4:(n:Int)-a<c:=by
       rcases hg with hg|hg|hg
       ·exact absurd hg g1
       ·rw[decide_eq_true (by omega)] at hg;exact absurd hg (by decide)
       ·exact hg
      have gw:IntKind.i64.wrap ((n:Int)-a)=(n:Int)-a:=IntWalk.i64_in _ (by omega)
      clear hg
      go_enter Tryz.func38,Tryz.ntmps38
      go_wp2_with fail
      refine HRD.out.mono ?_
      rintro e w1 ⟨rfl,rfl⟩
      go_wp2_with fail
      refine HFI.out.mono ?_
      rintro e w1 ⟨rfl,rfl⟩
      go_wp2_with fail
      refine HBL.out.mono ?_
      rintro e w1 ⟨rfl,rfl⟩
      go_wp2_with fail
      refine HBL.out.mono ?_
      rintro e w1 ⟨rfl,rfl⟩
      go_wp2_with fail
      go_ret
      exact⟨rfl,HS.out _ (Q.refl _)⟩
  ·have g1:¬c<1:=fun e=>hg (.inl e)
   have g4:¬(σ.n:Int)-a<c:=fun e=>hg (.inr (.inr e))
   have gd:σ.isData a=true:=by
    cases hx:σ.isData a with
    | true=>rfl
    | false=>exact absurd (.inr (.inl hx)) hg
   have hii:(firstD σ.n:Int)≤a∧a<(σ.n:Int):=of_decide_eq_true gd
   have hbi:=RBitsM_any h1 hk hd
   have hml:σ.map1.length≤1000000:=by have:=hk.num.map;have:=partsN_pos σ.n (by omega);omega
   obtain⟨x,rfl⟩:∃x:Nat,a=(x:Int):=⟨a.toNat,by omega⟩
   obtain⟨m,rfl⟩:∃m:Nat,c=(m:Int):=⟨c.toNat,by omega⟩
   have hge:=fun (W:World) (i:Nat) (hi:i≤1000000)=>(show Calls Tryz.prog 53 #[strV σ.map1,.int .i64 (i:Nat)] W (fun e w'=>e=.returned (.bool (bit σ.map1 i))∧W=w') from by
    rw[←bitI_nat];exact rget_any σ.map1 (i:Nat) W (by omega) (by omega))
   have htu:=fun (W:World) (q:Q w W)=>RTurn7_any h1 h2 h3 h4 q hk hd x m false (by omega)
   have hsplit:σ.release (x:Int) (m:Int)=if ∃i,i<m∧bit σ.map1 (x+i)=false then(σ,10) else σ.turn x m false:=by
    unfold StL.release;rw[if_neg (by rw[hs];decide),if_neg hg];rfl
   have hno:(∃i,i<m∧bit σ.map1 (x+i)=false)→(σ.release (x:Int) (m:Int)).2=10∧(σ.release (x:Int) (m:Int)).1=σ:=fun e=>by rw[hsplit,if_pos e];exact⟨rfl,rfl⟩
   have hyes:(¬∃i,i<m∧bit σ.map1 (x+i)=false)→σ.release (x:Int) (m:Int)=σ.turn x m false:=fun e=>by rw[hsplit,if_neg e]
   have gx1:¬(x:Int)<(firstD σ.n:Int):=by omega
   have gx2:¬(σ.n:Int)≤(x:Int):=by omega
   have gw:IntKind.i64.wrap ((σ.n:Int)-(x:Int))=(σ.n:Int)-(x:Int):=IntWalk.i64_in _ (by omega)
   have gs:IntKind.i64.wrap ((x:Int)+(m:Int))=(x:Int)+(m:Int):=IntWalk.i64_in _ (by omega)
   have hxm:x+m≤σ.n:=by omega
   have HRD:=Lib.hid hrd;have HS:=Lib.hid hsame;have HFI:=Lib.hid hfi;have HBL:=Lib.hid hbl;have HBI:=Lib.hid hbi;have HGE:=Lib.hid hge;have HTU:=Lib.hid htu;have HNO:=Lib.hid hno;have HYES:=Lib.hid hyes
   clear hrd hsame hfi hbl hbi hge htu hno hyes hsplit h1 h2 h3 h4 hk hs hd ho hg gd hii hfd hml
   generalize σ.release (x:Int) (m:Int)=rl at *
   generalize hfdd:firstD σ.n=fd at *
   generalize σ.map1=mm at *
   generalize hnn:σ.n=n at *
   clear hfdd hnn
   go_enter Tryz.func38,Tryz.ntmps38
   go_wp2_with fail
   refine HRD.out.mono ?_
   rintro e w1 ⟨rfl,rfl⟩
   go_wp2_with fail
   refine HFI.out.mono ?_
   rintro e w1 ⟨rfl,rfl⟩
   go_wp2_with fail
   refine HBL.out.mono ?_
   rintro e w1 ⟨rfl,rfl⟩
   go_wp2_with fail
   refine HBL.out.mono ?_
   rintro e w1 ⟨rfl,rfl⟩
   go_wp2_with fail
   refine HBI.out.mono ?_
   rintro e w1 ⟨rfl,q1⟩
   have Q1:=Lib.hid q1
   clear q1
   go_wp2_with fail
   go_loop [9] (fun v=>∃k:Nat,v=.int .i64 (x+(k:Int))∧k≤m∧Hid (∀j,j<k→bit mm (x+j)=true)) (fun v=>x+m-(intOf v).toNat)
   case atStart=>exact⟨0,by simp,Nat.zero_le _,Lib.hid (fun j hj=>by omega)⟩
   case round =>
    obtain⟨k,rfl,hk,HN⟩:=hrel
    by_cases hlt:k<m
    ·have hki:(x:Int)+(k:Int)<(x:Int)+(m:Int):=by omega
     have hgk:=fun (W:World)=>HGE.out W (x+k) (by omega)
     rw[show((x+k:Nat):Int)=(x:Int)+(k:Int) by omega] at hgk
     have HGK:=Lib.hid hgk
     clear hgk
     cases hb:bit mm (x+k) with
     | true =>
      rw[hb] at HGK
      have hnx:∀j,j<k+1→bit mm (x+j)=true:=fun j hj=>by
       by_cases e:j=k
       ·subst e;exact hb
       ·exact HN.out j (by omega)
      have HNX:=Lib.hid hnx
      clear hnx hb
      go_wp2_with fail
      refine(HGK.out _).mono ?_
      rintro e w2 ⟨rfl,rfl⟩
      go_wp2_with fail
      go_round
      case rel=>exact⟨k+1,by rw[show(((k+1:Nat)):Int)=(k:Int)+1 by omega,←Int.add_assoc],by omega,HNX⟩
      case measure=>simp[intOf];omega
     | false =>
      rw[hb] at HGK
      have hex:∃i,i<m∧bit mm (x+i)=false:=⟨k,hlt,hb⟩
      have hfi:=HNO.out hex
      have HR:=Lib.hid (HS.out _ Q1.out)
      have HFI2:=Lib.hid hfi
      clear hfi hex hb
      go_wp2_with fail
      refine(HGK.out _).mono ?_
      rintro e w2 ⟨rfl,rfl⟩
      go_wp2_with fail
      go_ret
      exact⟨by rw[HFI2.out.1]<;>rfl,by rw[HFI2.out.2];exact HR.out.1,HR.out.2⟩
    ·have hki:¬(x:Int)+(k:Int)<(x:Int)+(m:Int):=by omega
     obtain rfl:k=m:=by omega
     have hfi:=HYES.out (fun ⟨i,hi,hb⟩=>by rw[HN.out i hi] at hb;exact absurd hb (by decide))
     have HFI2:=Lib.hid hfi
     have htu:=HTU.out _ Q1.out
     have HT2:=Lib.hid htu
     clear htu hfi
     generalize σ.turn x k false=tr at *
     go_wp2_with fail
     refine HT2.out.mono ?_
     rintro e w3 ⟨rfl,h3,t3⟩
     have H3:=Lib.hid h3;have T3:=Lib.hid t3
     clear h3 t3
     go_wp2_with fail
     go_ret
     exact⟨by rw[HFI2.out]<;>rfl,by rw[HFI2.out];exact H3.out,T3.out⟩
 ·have hw:σ.release a c=(σ,σ.state true):=by unfold StL.release;rw[if_pos hs]
  rw[hw]
  simp only
  have hne:(σ.state true==0)=false:=beq_eq_false_iff_ne.2 hs
  have hne2:(σ.state true != 0)=true:=by rw[bne,hne];rfl
  have HRD:=Lib.hid hrd;have HS:=Lib.hid hsame
  clear hrd hsame h1 h2 h3 h4 hk hw hs
  generalize σ.state true=st at *
  go_enter Tryz.func38,Tryz.ntmps38
  go_wp2_with fail
  refine HRD.out.mono ?_
  rintro e w1 ⟨rfl,rfl⟩
  go_wp2_with fail
  go_ret
  exact⟨rfl,HS.out _ (Q.refl _)⟩
theorem RCommit7_any(h:RStAt w F sb b σ)(hk:RKnow σ):
  Calls Tryz.prog 40 #[ptrV sb] w fun e w'=>e=.returned (.int .i64 σ.commit.2)∧RStAt w' (grow F w w') sb b σ.commit.1∧Turn F w w':=by
 have hsame:=fun (W:World) (q:Q w W)=>h.same q
 have habt:=RAbortA_any h
 have hshut:=h.commit_shut
 obtain⟨FJ,p,tv,h1,h2,h3,h4⟩:=h
 have hrd:=RReady_any h1
 by_cases hs:σ.state true=0
 ·obtain⟨hd,ho⟩:=StL.live_of hs
  rw[hs] at hrd
  obtain⟨jn,ju,jh,ht,hl,hr,hg⟩:=hk.num.num hd
  have hmx:=hk.num.max
  obtain⟨ta,tc,rfl,_⟩:=h1.tx.value
  obtain⟨c0,c1,c2,f0,f1,f2⟩:=h1.box.c3f
  have hab:=RAbort7_any h1
  have t:Turn F w ((w.setCell ⟨sb,1,none⟩ (.bool false)).setCell ⟨sb,2,none⟩ (.slice none 0 0)):=((Turn.refl F w).setCell (a:=⟨sb,1,none⟩) (.inl (h2 sb (.inr rfl))) _).setCell (a:=⟨sb,2,none⟩) (.inl (h2 sb (.inr rfl))) _
  have hsh:=h1.shut
  have hrow:SlO ((w.setCell ⟨sb,1,none⟩ (.bool false)).setCell ⟨sb,2,none⟩ (.slice none 0 0)) FJ (.slice ta σ.tx.length tc) σ.tx.length 2 (wrVs σ.tx):=by
   have hn:=row_not_box h1.tx.1 h1.box h1.slice
   refine⟨(h1.tx.1.set _ hn).set _ hn,fun hx=>?_⟩
   obtain⟨g,off,e,y1,y2⟩:=h1.tx.2 hx
   exact⟨g,off,e,Nat.lt_of_lt_of_le y1 t.size,y2⟩
  generalize (w.setCell ⟨sb,1,none⟩ (.bool false)).setCell ⟨sb,2,none⟩ (.slice none 0 0)=w2 at *
  obtain⟨e0,_⟩:=hsh.box.c3f
  by_cases hx:σ.tx=[]
  ·have hw:σ.commit=(σ.close,0):=by unfold StL.commit;rw[if_neg (by rw[hs];decide),if_pos hx]
   have hl0:(σ.tx.length:Int)=0:=by rw[hx];rfl
   have hend:RStAt w2 (grow F w w2) sb b σ.close:=⟨FJ,p,_,hsh,fun k hk=>.inl (h2 k hk),fun g off n cap e hn=>absurd hn (Nat.lt_irrefl 0),fun k hk=>hk.elim (fun hk=>Nat.lt_of_lt_of_le (h4 k hk) t.size) (fun hk=>hk.2)⟩
   rw[hw]
   have HRD:=Lib.hid hrd;have HAB:=Lib.hid hab;have HE:=Lib.hid hend;have HT:=Lib.hid t
   have hl1:((σ.tx.length:Int)==0)=true:=by rw[hl0];rfl
   clear hrd hab hend t h1 h2 h3 h4 hk hs hd ho hw jn ju jh ht hl hr hg hsh hrow hsame habt hshut hx
   go_enter Tryz.func40,Tryz.ntmps40
   go_wp2_with fail
   refine HRD.out.mono ?_
   rintro e w1 ⟨rfl,rfl⟩
   go_wp2_with fail
   refine HAB.out.mono ?_
   rintro e w3 ⟨rfl,rfl⟩
   go_wp2_with fail
   go_ret
   exact⟨rfl,HE.out,HT.out⟩
  ·have hpos:0<σ.tx.length:=List.length_pos_iff.2 hx
   have hj:=RCommit_any w2 FJ p b σ.j (.slice ta σ.tx.length tc) σ.tx hsh.jr jn ⟨hpos,hl,fun x hx=>⟨by have:=(ht x hx).2.1;omega,(ht x hx).2.2⟩⟩ (fun x hx=>⟨by rw[jh];have:=(ht x hx).1;omega,(ht x hx).2.1⟩) hrow ju
   have hjl:=fun (w3:World) (hj2:RJrnAt w3 (grow FJ w2 w3) p b (σ.j.commit σ.tx).1) (t3:Turn FJ w2 w3)=>(show RStAt w3 (grow F w w3) sb b { σ.close with j:=(σ.j.commit σ.tx).1 }∧Turn F w w3 from by
    have z1:=t.size;have z2:=t3.size;have zs:=hsh.box.lt
    refine⟨⟨grow FJ w2 w3,p,.slice none 0 0,⟨t3.blk hsh.box h1.sF,hj2,fun hk=>hk.elim h1.sF (fun hk=>by omega),⟨Sl.nil _ _,fun hn=>absurd hn (Nat.lt_irrefl 0)⟩⟩,fun k hk=>?_,fun g off n cap e hn=>absurd hn (Nat.lt_irrefl 0),fun k hk=>hk.elim (fun hk=>by have:=h4 k hk;omega) (fun hk=>hk.2)⟩,t.trans (t3.mono (fun k hk=>h2 k (.inl hk)))⟩
    rcases hk with (hk|hk)|hk
    ·exact .inl (h2 k (.inl hk))
    ·exact .inr ⟨by omega,hk.2⟩
    ·exact .inl (h2 k (.inr hk)))
   have hw:σ.commit.2=(σ.j.commit σ.tx).2∧∀w3,RStAt w3 (grow F w w3) sb b { σ.close with j:=(σ.j.commit σ.tx).1 }→RStAt w3 (grow F w w3) sb b σ.commit.1:=by
    unfold StL.commit
    rw[if_neg (by rw[hs];decide),if_neg hx]
    split
    ·rename_i h0
     exact⟨h0.symm,fun w3 h=>h⟩
    ·exact⟨rfl,fun w3 h=>h.ends _ rfl rfl rfl⟩
   have hl1:((σ.tx.length:Int)==0)=false:=beq_eq_false_iff_ne.2 (by omega)
   have hl2:¬((σ.tx.length:Int)=0):=by omega
   rw[hw.1]
   have HW:=Lib.hid hw.2
   have HRD:=Lib.hid hrd;have HAB:=Lib.hid hab;have HJ:=Lib.hid hj;have HJL:=Lib.hid hjl
   clear hrd hab hj hjl hw t h1 h2 h3 h4 hk hs hd ho jn ju jh ht hl hr hg hsh hrow hsame habt hshut hx
   generalize σ.j.commit σ.tx=jc at *
   generalize hll:σ.tx.length=ln at *
   go_enter Tryz.func40,Tryz.ntmps40
   go_wp2_with fail
   refine HRD.out.mono ?_
   rintro e w1 ⟨rfl,rfl⟩
   go_wp2_with fail
   refine HAB.out.mono ?_
   rintro e w3 ⟨rfl,rfl⟩
   go_wp2_with fail
   refine HJ.out.mono ?_
   rintro e w4 ⟨rfl,h4,t4⟩
   have H4:=Lib.hid (HJL.out _ h4 t4)
   clear h4 t4
   go_wp2_with fail
   go_ret
   exact⟨rfl,HW.out _ H4.out.1,H4.out.2⟩
 ·have hw:σ.commit=(σ,σ.state true):=by unfold StL.commit;rw[if_pos hs]
  rw[hw]
  simp only
  have hne:(σ.state true==0)=false:=beq_eq_false_iff_ne.2 hs
  have hne2:(σ.state true != 0)=true:=by rw[bne,hne];rfl
  have HRD:=Lib.hid hrd;have HS:=Lib.hid hsame
  clear hrd hsame h1 h2 h3 h4 hk hw hs habt hshut
  generalize σ.state true=st at *
  go_enter Tryz.func40,Tryz.ntmps40
  go_wp2_with fail
  refine HRD.out.mono ?_
  rintro e w1 ⟨rfl,rfl⟩
  go_wp2_with fail
  go_ret
  exact⟨rfl,HS.out _ (Q.refl _)⟩
end
end
section
open Go.RowKit
theorem usedL_length(b:Bytes)(lo k:Nat):(usedL b lo k).length≤k:=by
 induction k with
 | zero=>exact Nat.le_refl _
 | succ k ih =>
  rw[usedL]
  split
  ·split
   ·rename_i r hr
    split
    ·have:usedL b lo k≠[]:=fun e=>by rw[e] at hr;simp at hr
     have h2:=List.length_pos_iff.2 this
     simp only[List.length_append,List.length_dropLast,List.length_cons,List.length_nil];omega
    ·simp only[List.length_append,List.length_cons,List.length_nil];omega
   ·simp only[List.length_append,List.length_cons,List.length_nil];omega
  ·omega
section
variable {w:World} {F:Nat→Prop} {sb b:Nat} {σ:StL}
theorem RUsed7_any(h:RStAt w F sb b σ)(hk:RKnow σ)(hd:σ.dead=false)(hlow:∀i,i<firstD σ.n→bit σ.map1 i=true):
  Calls Tryz.prog 17 #[ptrV sb] w fun e w'=>∃v,e=.returned v∧w'.ownsRow w.heap.size 64 2 v (usedR σ.map1 (firstD σ.n) σ.n).length (ext (usedR σ.map1 (firstD σ.n) σ.n))∧Q w w':=by
 obtain⟨FJ,p,tv,h1,h2,h3,h4⟩:=h
 have hmx:=hk.num.max
 have hbg:=hk.num.big
 have hfd:=(firstD_lt σ.n hbg hmx).1
 rw[usedR_eq _ _ _ hlow (by omega)]
 have hbi:=RBitsM_any h1 hk hd
 have hfi:=fun (W:World) (q:Q w W)=>RFirst7_any (h1.keep q) hmx
 have hbl:=fun (W:World) (q:Q w W)=>RBlocks7_any (h1.keep q)
 have hml:σ.map1.length≤1000000:=by have:=hk.num.map;have:=partsN_pos σ.n (by omega);omega
 have hge:=fun (W:World) (i:Nat) (hi:i≤1000000)=>(show Calls Tryz.prog 53 #[strV σ.map1,.int .i64 (i:Nat)] W (fun e w'=>e=.returned (.bool (bit σ.map1 i))∧W=w') from by
  rw[←bitI_nat];exact rget_any σ.map1 (i:Nat) W (by omega) (by omega))
 have HBI:=Lib.hid hbi;have HFI:=Lib.hid hfi;have HBL:=Lib.hid hbl;have HGE:=Lib.hid hge
 clear hbi hfi hbl hge h1 h2 h3 h4 hk hd hlow hml
 generalize σ.map1=mm at *
 generalize firstD σ.n=fd at *
 generalize σ.n=n at *
 obtain⟨i0,hi,hz0,hz1,hz2⟩:=info_parts tinfo64
 go_enter Tryz.func17,Tryz.ntmps17
 go_wp2_with fail
 refine HBI.out.mono ?_
 rintro e w1 ⟨rfl,q1⟩
 have Q1:=Lib.hid q1
 clear q1
 go_wp2_with fail
 refine(HFI.out _ Q1.out).mono ?_
 rintro e w2 ⟨rfl,rfl⟩
 go_wp2_with fail
 go_loopw [3,5] (fun ov iv wr=>∃m:Nat,iv=.int .i64 (fd+m:Nat)∧m≤n-fd∧Hid (wr.ownsRow w.heap.size 64 2 ov (usedL mm fd m).length (ext (usedL mm fd m)))∧Hid (Q w wr)) (fun _ iv _=>n-(intOf iv).toNat)
 case atStart=>exact⟨0,rfl,Nat.zero_le _,Lib.hid (World.ownsRow_nil _ _ _ _),Q1⟩
 case round =>
  obtain⟨m,rfl,hm,HO,HQ⟩:=hrel
  have hln:=usedL_length mm fd m
  have hrl:=used_last mm fd m
  have hst:usedL mm fd (m+1)=if bit mm (fd+m) then(match (usedL mm fd m).getLast? with
   | some r=>if r.1+r.2=fd+m then(usedL mm fd m).dropLast++[(r.1,r.2+1)] else usedL mm fd m++[(fd+m,1)]
   | none=>[(fd+m,1)]) else usedL mm fd m:=rfl
  by_cases hlt:m<n-fd
  ·have hki:((fd+m:Nat):Int)<(n:Int):=by omega
   have hgk:=fun (W:World)=>HGE.out W (fd+m) (by omega)
   have HGK:=Lib.hid hgk
   clear hgk
   cases hb:bit mm (fd+m) with
   | false =>
    rw[hb] at hst HGK
    rw[if_neg (by decide)] at hst
    have HST:=Lib.hid hst
    clear hst hb hrl
    generalize usedL mm fd m=rs at *
    generalize hii:fd+m=ii at *
    go_wp2_with fail
    refine(HBL.out _ HQ.out).mono ?_
    rintro e w2 ⟨rfl,rfl⟩
    go_wp2_with fail
    refine(HGK.out _).mono ?_
    rintro e w2 ⟨rfl,rfl⟩
    go_wp2_with fail
    go_roundw
    case rel=>exact⟨m+1,by rw[show fd+(m+1)=ii+1 by omega];go_num,by omega,by rw[HST.out];exact HO,HQ⟩
    case measure=>simp[intOf];omega
   | true =>
    rw[hb] at hst HGK
    rw[if_pos rfl] at hst
    rcases List.eq_nil_or_concat (usedL mm fd m) with hnil|⟨rs,r,hrs⟩
    ·rw[hnil] at hst HO
     simp only[List.getLast?_nil] at hst
     have HST:=Lib.hid hst
     have hown:=HO.out
     simp only[List.length_nil] at hown
     clear hst hb hrl hln hnil HO
     generalize hii:fd+m=ii at *
     go_wp2_with fail
     refine(HBL.out _ HQ.out).mono ?_
     rintro e w2 ⟨rfl,rfl⟩
     go_wp2_with fail
     refine(HGK.out _).mono ?_
     rintro e w2 ⟨rfl,rfl⟩
     obtain⟨ra,rcap,rfl,_⟩:=owns_value hown
     go_wp2_with fail
     go_quiet (fail)
     have hq:=HQ.out.trans (Q.drewN wr nq)
     have hown:=ownsRow_below hown (Q.drewN wr nq)
     go_wp2_with (at_builtin;go_must (refine wpList_app _ (by rfl) _ _ 53 (by rfl) w.heap.size 64 _ i0 (.agg #[.int .i64 0,.int .i64 0]) 2 16 Tryz.underlying53 hi hz0 hz1 hz2 rfl (by decide) (by decide) _ _ _ (by rfl) hown #[.int .i64 (ii:Nat),.int .i64 1] (by rfl) rfl (by intro u hu;simp at hu;rcases hu with rfl|rfl<;>rfl) (by omega) hq.size ?_))
     intro g7 cap7 w7 hr7 hg7 ho7 hlt7 hltt7
     have q7:Q w w7:=grown_below hq hown hg7 (Nat.le_refl _) hq.size
     have HO7:=Lib.hid hr7;have HQ7:=Lib.hid q7
     clear hr7 q7 hown hq hg7 ho7 hlt7 hltt7
     go_wp2_with fail
     go_roundw
     case rel=>exact⟨m+1,by rw[show fd+(m+1)=ii+1 by omega];go_num,by omega,by rw[HST.out];exact HO7,HQ7⟩
     case measure=>simp[intOf];omega
    ·rw[List.concat_eq_append] at hrs
     have hr9:=hrl r (by rw[hrs];simp)
     rw[hrs] at hst HO hln
     simp only[List.getLast?_append,List.getLast?_singleton,Option.some_or,List.dropLast_concat] at hst
     have hown:=HO.out
     simp only[List.length_append,List.length_cons,List.length_nil,Nat.zero_add,ext_append] at hown hln
     obtain⟨g,cap,rfl,hg1,hg2⟩:=hown.form (by omega)
     obtain⟨r1,r2⟩:=r
     simp only at hr9 hst
     have c0:wr.cell? ⟨g,rs.length*2,none⟩=some (.int .i64 r1):=by
      rw[hown.cellAt _ (by omega),List.getElem?_append_right (by rw[length_ext];omega),length_ext,show rs.length*2-rs.length*2=0 by omega];rfl
     have c1:wr.cell? ⟨g,rs.length*2+1,none⟩=some (.int .i64 r2):=by
      rw[hown.cellAt _ (by omega),List.getElem?_append_right (by rw[length_ext];omega),length_ext,show rs.length*2+1-rs.length*2=1 by omega];rfl
     have hfr:=hown.frozenAt (rs.length*2+1)
     have gl:IntKind.i64.wrap ((rs.length:Int)+1-1)=(rs.length:Int):=by rw[IntWalk.i64_in _ (by omega)];omega
     have gl2:(rs.length:Int)+1-1=(rs.length:Int):=by omega
     have gi0:(0:Int)≤(rs.length:Int):=by omega
     have gi1:(rs.length:Int)<(rs.length:Int)+1:=by omega
     have gs:IntKind.i64.wrap ((r1:Int)+(r2:Int))=(r1:Int)+(r2:Int):=IntWalk.i64_in _ (by omega)
     have gp:IntKind.i64.wrap ((r2:Int)+1)=(r2:Int)+1:=IntWalk.i64_in _ (by omega)
     have HOW:=Lib.hid hown
     clear hown HO hrl hrs hb
     generalize hii:fd+m=ii at *
     by_cases he:r1+r2=ii
     ·rw[if_pos he] at hst
      have heb:((r1:Int)+(r2:Int)==(ii:Int))=true:=beq_iff_eq.2 (by omega)
      have HST:=Lib.hid hst
      clear hst he
      go_wp2_with fail
      refine(HBL.out _ HQ.out).mono ?_
      rintro e w2 ⟨rfl,rfl⟩
      go_wp2_with fail
      refine(HGK.out _).mono ?_
      rintro e w2 ⟨rfl,rfl⟩
      go_wp2_with fail
      go_quiet (fail)
      go_wp2_with fail
      have hst:=(ownsRow_below HOW.out (Q.drewN wr nq)).stored (rs.length*2+1) (.int .i64 ((r2:Int)+1))
      rw[ext_set] at hst
      obtain⟨hst1,hst2⟩:=hst
      have hq:Q w ((wr.drewN nq).setCell ⟨g,rs.length*2+1,none⟩ (.int .i64 ((r2:Int)+1))):=(HQ.out.trans (Q.drewN wr nq)).setCell hg1 _
      go_roundw
      case rel=>exact⟨m+1,by rw[show fd+(m+1)=ii+1 by omega];go_num,by omega,by rw[HST.out,List.length_append];exact Lib.hid hst1,Lib.hid hq⟩
      case measure=>simp[intOf];omega
     ·rw[if_neg he] at hst
      have heb:((r1:Int)+(r2:Int)==(ii:Int))=false:=beq_eq_false_iff_ne.2 (by omega)
      have HST:=Lib.hid hst
      clear hst he
      go_wp2_with fail
      refine(HBL.out _ HQ.out).mono ?_
      rintro e w2 ⟨rfl,rfl⟩
      go_wp2_with fail
      refine(HGK.out _).mono ?_
      rintro e w2 ⟨rfl,rfl⟩
      go_wp2_with fail
      go_quiet (fail)
      have hq:=HQ.out.trans (Q.drewN wr nq)
      have hown:=ownsRow_below HOW.out (Q.drewN wr nq)
      go_wp2_with (at_builtin;go_must (refine wpList_app _ (by rfl) _ _ 53 (by rfl) w.heap.size 64 _ i0 (.agg #[.int .i64 0,.int .i64 0]) 2 16 Tryz.underlying53 hi hz0 hz1 hz2 rfl (by decide) (by decide) _ _ _ (by rfl) hown #[.int .i64 (ii:Nat),.int .i64 1] (by rfl) rfl (by intro u hu;simp at hu;rcases hu with rfl|rfl<;>rfl) (by omega) hq.size ?_))
      intro g7 cap7 w7 hr7 hg7 ho7 hlt7 hltt7
      have q7:Q w w7:=grown_below hq hown hg7 (Nat.le_refl _) hq.size
      have HO7:=Lib.hid hr7;have HQ7:=Lib.hid q7
      clear hr7 q7 hown hq hg7 ho7 hlt7 hltt7
      go_wp2_with fail
      go_roundw
      case rel =>
       have hl2:List.length (rs++[(r1,r2)]++[(ii,1)])=rs.length+1+1:=by simp
       have he2:ext (rs++[(r1,r2)]++[(ii,1)])=ext rs++(ext [(r1,r2)]++[Value.int .i64 (ii:Nat),.int .i64 1]):=by simp[ext]
       exact⟨m+1,by rw[show fd+(m+1)=ii+1 by omega];go_num,by omega,by rw[HST.out,he2,hl2];exact HO7,HQ7⟩
      case measure=>simp[intOf];omega
  ·have hki:¬((fd+m:Nat):Int)<(n:Int):=by omega
   obtain rfl:m=n-fd:=by omega
   clear hst hrl
   obtain⟨ra,rcap,rfl,_⟩:=owns_value HO.out
   go_wp2_with fail
   refine(HBL.out _ HQ.out).mono ?_
   rintro e w2 ⟨rfl,rfl⟩
   go_wp2_with fail
   go_ret
   exact⟨_,rfl,HO.out,HQ.out⟩
end
end
end Go.Proofs.YthcpkgfieoneeaaGreatDoor
