/- Joined texts of one proof: what is needed of WRef4h, WBlkF, Ply7d. -/
import Derived.Test.YthcpkgfieoneeaaGreatDoorJPWRef4f
import Derived.Test.YthcpkgfieoneeaaGreatDoorJPWRef4b
import Derived.Test.YthcpkgfieoneeaaGreatDoorJPJrn4
import Derived.Test.YthcpkgfieoneeaaGreatDoorJPShelf
import Derived.Deep.RegionLaw
import Derived.Test.YthcpkgfieoneeaaGreatDoorJPPly7
import Derived.Test.YthcpkgfieoneeaaGreatDoorJPWJrnG
set_option linter.unusedSimpArgs false
set_option linter.unusedVariables false
set_option linter.unnecessarySimpa false
set_option maxRecDepth 100000
set_option maxHeartbeats 16000000
namespace Go.Proofs.YthcpkgfieoneeaaGreatDoor
section
open Go.RowKit
theorem frame_low{j:JL}{fr:List (List WrL)}(hl:50≤j.s.log)(hc:Chain j.d.l j.s j.used j.next fr)(hn:j.next<18446744073709551616)(hp:∀w∈j.d.p,2+j.s.log≤w.1):
  ∀sq ws,unpackL (j.ahead (min (j.s.log-j.used) 49))=some (sq,ws)→sq=j.next→∀x∈ws,j.home≤x.1:=by
 intro sq ws hu _
 cases fr with
 | nil =>
  obtain⟨h1,h2⟩:=hc
  obtain⟨m,hm⟩:∃m,min (j.s.log-j.used) 49=m+1:=⟨min (j.s.log-j.used) 49-1,by omega⟩
  have e:unpackL (j.ahead (min (j.s.log-j.used) 49))=none:=by
   unfold JL.ahead
   rw[hm,List.range_succ_eq_map,List.map_cons]
   refine unpack_none _ _ ?_
   show(j.d.get (logAt j.s (j.used+0))).drop 252≠endT
   rw[get_low hp _ (logAt_lt j.s _ (by omega)).2]
   exact h2
  rw[e] at hu;exact absurd hu (by simp)
 | cons ws0 fr =>
  obtain⟨h1,h2,h3,h4,_⟩:=hc
  have hlen:(packL j.next ws0).length=ws0.length+1:=by simp[packL]
  obtain⟨r,hr⟩:=read_frame (fun i=>j.d.get (j.place i)) (packL j.next ws0) (min (j.s.log-j.used) 49) (by rw[hlen];have:=h1.2.1;omega) (fun i hi=>by
   show j.d.get (logAt j.s (j.used+i))=_
   rw[hlen] at hi
   rw[get_low hp _ (logAt_lt j.s _ (by omega)).2]
   exact h4 i (by omega))
  unfold JL.ahead at hu
  rw[hr,unpack_pack _ hn _ h1] at hu
  simp only[Option.some.injEq,Prod.mk.injEq] at hu
  obtain⟨_,rfl⟩:=hu
  exact fun x hx=>(h2 x hx).1
theorem Mid.pend{lg K:Nat}{d:DevL}{j:JL}{s:SlotL}{k:Nat}{fr fr1 fr2:List (List WrL)}{C:Nat→Bytes}(h:OpenPre lg K d s k fr C)(hfr:fr=fr1++fr2)(M:Mid lg K d j s k fr1 fr2):∀w∈j.d.p,2+j.s.log≤w.1:=fun w hw=>by
 have hr:=h.hrec
 have hlog:=h.hlog
 rw[M.hs,hlog]
 rw[M.hp] at hw
 rcases List.mem_append.1 hw with hw|hw
 ·exact(h.pend w hw).1
 ·obtain⟨ws,hws,hww⟩:=List.mem_flatten.1 hw
  have:=(hr.hchain.ok ws (by rw[hfr];exact List.mem_append_left _ hws)).2 w hww
  omega
theorem Mid.step{lg K:Nat}{d:DevL}{j:JL}{s:SlotL}{k:Nat}{fr fr1 fr2:List (List WrL)}{C:Nat→Bytes}{ws:List WrL}(h:OpenPre lg K d s k fr C)(hK:K+3<18446744073709551616)(hfr:fr=fr1++ws::fr2)(M:Mid lg K d j s k fr1 (ws::fr2))(hz:(j.d.writes ws).2=0):Mid lg K d ({ j with d:=(j.d.writes ws).1 }.advance ws.length) s k (fr1++[ws]) fr2:=by
 have hc:=M.hc
 have hsn:=h.hs
 have hlen:fr.length=fr1.length+(fr2.length+1):=by rw[hfr,List.length_append,List.length_cons]
 have hw:∀w∈ws,w.1<j.d.l.length∧w.2.length=256:=fun w hx=>⟨by rw[M.hl];exact(hc.2.1 w hx).2,(hc.1.2.2 w hx).2⟩
 rcases DevL.writes_run ws j.d M.live hw with ⟨a,b,c,e⟩|⟨a,_⟩
 ·refine⟨DevL.writes_ok M.ok ws,b,c.trans M.hl,?_,M.hs,M.hk,?_,?_,?_,fun hf=>(DevL.writes_free ws j.d M.live (M.hf hf) hw).2⟩
  ·show(j.d.writes ws).1.p=_
   rw[e,M.hp,flatten_snoc,List.append_assoc]
  ·show(j.next+1)%_=_
   rw[M.hn,List.length_append,List.length_singleton,Nat.mod_eq_of_lt (by omega)];omega
  ·show j.used+ws.length+1=_
   rw[usedF_snoc,M.hu]
  ·rw[usedF_snoc,List.length_append,List.length_singleton]
   exact hc.2.2.2.2
 ·rw[a] at hz;exact absurd hz (by decide)
theorem Mid.frame{lg K:Nat}{d:DevL}{j:JL}{s:SlotL}{k:Nat}{fr fr1 fr2:List (List WrL)}{C:Nat→Bytes}(h:OpenPre lg K d s k fr C)(hK:K+3<18446744073709551616)(hfr:fr=fr1++fr2)(M:Mid lg K d j s k fr1 fr2){ws:List WrL}(hf:j.frame=some ws):∃fr3,fr2=ws::fr3:=by
 have hp:=Mid.pend h hfr M
 have hl:50≤j.s.log:=by rw[M.hs];exact h.hrec.hleast
 have hc:Chain j.d.l j.s j.used j.next fr2:=by rw[M.hl,M.hs,M.hu,M.hn];exact M.hc
 have hsn:=h.hs
 have hlen:fr.length=fr1.length+fr2.length:=by rw[hfr,List.length_append]
 cases fr2 with
 | nil=>rw[frame_nil hl hc hp] at hf;exact absurd hf (by simp)
 | cons x fr3 =>
  rw[frame_cons hl hc (by rw[M.hn];rw[List.length_cons] at hlen;omega) hp] at hf
  injection hf with hf
  exact⟨fr3,by rw[hf]⟩
def pickR(d:DevL):Nat→Option (SlotL×Nat)
 | 0=>none
 | 1=>(toSlotL (d.get 1) d.l.length).map fun s=>(s,1)
 | _+2=>match toSlotL (d.get 0) d.l.length with
  | none=>(toSlotL (d.get 1) d.l.length).map fun s=>(s,1)
  | some s=>match toSlotL (d.get 1) d.l.length with
   | none=>some (s,0)
   | some r=>if r.e≤s.e then some (s,0) else some (r,1)
theorem pickR_eq(d:DevL):pickR d 2=pickS (toSlotL (d.get 0) d.l.length) (toSlotL (d.get 1) d.l.length):=by
 show(match toSlotL (d.get 0) d.l.length with
  | none=>(toSlotL (d.get 1) d.l.length).map fun s=>(s,1)
  | some s=>match toSlotL (d.get 1) d.l.length with
   | none=>some (s,0)
   | some r=>if r.e≤s.e then some (s,0) else some (r,1))=_
 cases toSlotL (d.get 0) d.l.length with
 | none=>cases toSlotL (d.get 1) d.l.length<;>rfl
 | some a =>
  cases toSlotL (d.get 1) d.l.length with
  | none=>rfl
  | some c =>
   simp only[pickS]
   by_cases h:c.e≤a.e
   ·rw[if_pos h,if_neg (by omega)]
   ·rw[if_neg h,if_pos (by omega)]
theorem pickR_step(d:DevL)(k m:Nat)(h:m+k=1):pickR d (k+1)=match toSlotL (d.get m) d.l.length with
  | none=>pickR d k
  | some s=>match pickR d k with
   | none=>some (s,m)
   | some (r,i)=>if r.e≤s.e then some (s,m) else some (r,i):=by
 rcases (by omega:(k=0∧m=1)∨(k=1∧m=0)) with ⟨rfl,rfl⟩|⟨rfl,rfl⟩
 ·show(toSlotL (d.get 1) d.l.length).map (fun s=>(s,1))=_
  cases toSlotL (d.get 1) d.l.length<;>rfl
 ·show(match toSlotL (d.get 0) d.l.length with
   | none=>(toSlotL (d.get 1) d.l.length).map fun s=>(s,1)
   | some s=>match toSlotL (d.get 1) d.l.length with
    | none=>some (s,0)
    | some r=>if r.e≤s.e then some (s,0) else some (r,1))=_
  have e1:pickR d 1=(toSlotL (d.get 1) d.l.length).map fun s=>(s,1):=rfl
  rw[e1]
  cases toSlotL (d.get 0) d.l.length<;>cases toSlotL (d.get 1) d.l.length<;>rfl
def ROpenEnd(w:World)(F:Nat→Prop)(b:Nat)(d:DevL)(e:Ending)(w':World):Prop :=
 Turn F w w'∧(((openJ d).2=0∧∃p,e=.returned (.tuple #[ptrV p,.int .i64 0])∧RJrnAt w' (grow F w w') p b (openJ d).1) ∨
  ((openJ d).2≠0∧e=.returned (.tuple #[.pointer none,.int .i64 (openJ d).2])∧RDevAt w' (grow F w w') b (openJ d).1.d))
theorem sl_new(cs:Array Value)(b:Nat)(s1:SlotL)(k:Nat)(h0:cs.size=8)(h1:cs[0]?=some (ptrV b))(h2:cs[6]?=some (.int .u64 0))(h3:cs[7]?=some (.int .i64 0)):((((cs.setIfInBounds 1 (.int .u64 (s1.e:Nat))).setIfInBounds 2 (.int .u64 (s1.s:Nat))).setIfInBounds 3 (.int .i64 (s1.log:Nat))).setIfInBounds 4 (.int .i64 (s1.place:Nat))).setIfInBounds 5 (.int .i64 (k:Nat))=jbox b (some (s1,k)):=by
 obtain⟨l⟩:=cs
 match l,h0,h1,h2,h3 with
 | [a0,a1,a2,a3,a4,a5,a6,a7],_,h2,h3,h4 =>
  simp at h2 h3 h4
  subst h2 h3 h4
  rfl
theorem ROpen_live(w:World)(F:Nat→Prop)(b:Nat)(d:DevL)(h:RDevAt w F b d)(hF:∀k,F k→k<w.heap.size){K:Nat}{s:SlotL}{kk:Nat}{fr:List (List WrL)}{C:Nat→Bytes}(hop:OpenPre 60 K d s kk fr C)(hK:K+3<18446744073709551616)(hp:d.p.length≤800000)(h2:2≤d.l.length):
  Calls Tryz.prog 73 #[ptrV b] w fun e w'=>ROpenEnd w F b d e w':=by
 have hlive:=hop.live
 have hd:=hop.ok
 have hr:=fun (W:World) (hq:Q w W) (k:Nat)=>RRead_any W F b d (k:Nat) (h.keep hq) hd.max (fun _=>by omega)
 have he:∀k:Nat,k<2→d.read (k:Nat)=(d.get k,0):=fun k hk=>by unfold DevL.read;rw[DevL.chk_in hlive k (by omega),if_pos rfl];rfl
 have hgl:∀k:Nat,k<2→(d.get k).length=256:=fun k hk=>DevL.get_len hd k (by omega)
 have hts:=fun (k:Nat) (hk:k<2) (W:World)=>RRead4_any (d.get k) d.l.length (hgl k hk) hd.max W
 obtain⟨lv,pv,hdg⟩:=h
 obtain⟨la,lc,rfl,_⟩:=hdg.lcells
 obtain⟨d0,d1,d2,d3,_⟩:=hdg.box.c4
 rw[hlive] at d3
 have HR:=Lib.hid hr;have HE:=Lib.hid he;have HTS:=Lib.hid hts
 have HD:=Lib.hid (And.intro (show RDevAt w F b d from⟨_,_,hdg⟩) (And.intro hF (And.intro hop hK)))
 have hl1:¬(d.l.length:Int)≤1:=by omega
 have hl0:¬(d.l.length:Int)≤0:=by omega
 clear hr he hgl hts hF hd hop hK hdg hlive d1 d2
 go_enter Tryz.func73,Tryz.ntmps73
 go_wp2_with fail
 have hbx0:Blk (w.alloc (.cells (jbox b none) 124)) w.heap.size 124 (jbox b none):=Blk.new w _ _
 have hq0:Q w (w.alloc (.cells (jbox b none) 124)):=Q.alloc _ _
 simp only[jbox] at hbx0 hq0
 have HBX0:=Lib.hid hbx0;have HQ0:=Lib.hid hq0
 clear hbx0 hq0
 go_loopw [5] (fun v wr=>∃k:Nat,v=.int .i64 (1-(k:Int))∧k≤2∧Hid (Blk wr w.heap.size 124 (jbox b (pickR d k)))∧Hid (Q w wr)) (fun v _=>(intOf v+1).toNat)
 case atStart=>exact⟨0,by go_num,by omega,HBX0,HQ0⟩
 case round =>
  obtain⟨k,rfl,hk,HBX,HQ⟩:=hrel
  by_cases hlt:k<2
  ·obtain⟨m,hm⟩:∃m:Nat,m+k=1:=⟨1-k,by omega⟩
   have hmi:(1:Int)-(k:Int)=(m:Int):=by omega
   have hmn:1-((k+1:Nat):Int)=(m:Int)-1:=by omega
   have HMN:=Lib.hid hmn
   have hm1:m≤1:=by omega
   have hw1:IntKind.i64.wrap ((m:Int)-1)=(m:Int)-1:=IntWalk.i64_in _ (by omega)
   rw[hmi]
   have hm0:(0:Int)≤(m:Int):=by omega
   have hml:¬(d.l.length:Int)≤(m:Int):=by omega
   have hrk:=HR.out wr HQ.out m
   rw[HE.out m (by omega)] at hrk
   have htk:=HTS.out m (by omega)
   have HRK:=Lib.hid hrk;have HTK:=Lib.hid htk
   have hnx:=pickR_step d k m hm
   have HNX:=Lib.hid hnx
   have z0:=cellQ HQ.out d0
   clear hrk htk hnx hmi hmn hm
   generalize d.get m=tk at *
   generalize toSlotL tk d.l.length=rk at *
   generalize hpk:pickR d k=pk at *
   generalize hpk1:pickR d (k+1)=pk1 at *
   have HPK:=Lib.hid hpk1
   clear hpk1
   go_wp2_with fail
   refine HRK.out.mono ?_
   rintro e w3 ⟨rfl,q3⟩
   have HQ3:=Lib.hid (HQ.out.trans q3);have HBX3:=Lib.hid (HBX.out.stays q3)
   have z3:=cellQ q3 z0
   clear q3
   go_wp2_with fail
   refine(HTK.out _).mono ?_
   rintro e w4 ⟨⟨s0,rfl,hs0⟩,q4⟩
   have HQ4:=Lib.hid (HQ3.out.trans q4);have HBX4:=Lib.hid (HBX3.out.stays q4);have HS0:=Lib.hid hs0
   have z4:=cellQ q4 z3
   clear q4 hs0
   cases rk with
   | none =>
    have hnx:=HNX.out
    simp only[] at hnx
    subst hnx
    go_wp2_with fail
    go_quiet (fail)
    go_wp2_with fail
    go_roundw
    case rel=>exact⟨k+1,by rw[HMN.out],by omega,Lib.hid (by rw[HPK.out];exact HBX4.out.stays ((Q.alloc _ _).trans (Q.drewN _ _))),Lib.hid ((Qs.al HQ4.out _).trans (Q.drewN _ _))⟩
    case measure=>simp[intOf]
   | some s1 =>
    obtain rfl:=HS0.out s1 rfl
    have hnx:=HNX.out
    simp only[] at hnx
    have hb4:=HBX4.out
    have hsl:=Blk.new w4 122 #[.int .u64 (s1.e:Nat),.int .u64 (s1.s:Nat),.int .i64 (s1.log:Nat),.int .i64 (s1.place:Nat)]
    have hq5:Q w4 (w4.alloc (.cells #[.int .u64 (s1.e:Nat),.int .u64 (s1.s:Nat),.int .i64 (s1.log:Nat),.int .i64 (s1.place:Nat)] 122)):=Q.alloc _ _
    have hb5:=hb4.stays hq5
    have HQ5:=Lib.hid (HQ4.out.trans hq5);have HB5:=Lib.hid hb5
    cases pk with
    | none =>
     obtain⟨x0,x1,x2,x3,_⟩:=hsl.c4
     obtain⟨c0,c1,c2,c3,c4,c5,c6,c7⟩:=Blk.c8 hb5
     have f1:=hb5.frozen 1;have f2:=hb5.frozen 2;have f3:=hb5.frozen 3;have f4:=hb5.frozen 4;have f5:=hb5.frozen 5
     simp only[] at hnx
     subst hnx
     go_wp2_with fail
     generalize hw5:(w4.alloc (.cells #[.int .u64 (s1.e:Nat),.int .u64 (s1.s:Nat),.int .i64 (s1.log:Nat),.int .i64 (s1.place:Nat)] 122))=w5 at *
     clear hsl hw5 hb4 hq5 hb5
     go_quiet (fail)
     go_wp2_with fail
     go_roundw
     case rel =>
      refine⟨k+1,by rw[HMN.out],by omega,Lib.hid ?_,Lib.hid (Qs.st (Qs.st (Qs.st (Qs.st (Qs.st (HQ5.out.trans (Q.drewN _ _)) _ _ (Nat.le_refl _)) _ _ (Nat.le_refl _)) _ _ (Nat.le_refl _)) _ _ (Nat.le_refl _)) _ _ (Nat.le_refl _))⟩
      rw[HPK.out,←sl_new (jbox b none) b s1 m rfl rfl rfl rfl]
      exact(((((HB5.out.stays (Q.drewN _ _):Blk _ w.heap.size 124 (jbox b none)).set 1 _).set 2 _).set 3 _).set 4 _).set 5 _
     case measure=>simp[intOf]
    | some ri =>
     obtain⟨r,i⟩:=ri
     simp only[] at hnx
     obtain⟨x0,x1,x2,x3,_⟩:=hsl.c4
     obtain⟨c0,c1,c2,c3,c4,c5,c6,c7⟩:=Blk.c8 hb5
     have f1:=hb5.frozen 1;have f2:=hb5.frozen 2;have f3:=hb5.frozen 3;have f4:=hb5.frozen 4;have f5:=hb5.frozen 5
     have hi0:¬((i:Nat):Int)<0:=by omega
     have hi0d:decide (((i:Nat):Int)<0)=false:=decide_eq_false hi0
     go_wp2_with fail
     generalize hw5:(w4.alloc (.cells #[.int .u64 (s1.e:Nat),.int .u64 (s1.s:Nat),.int .i64 (s1.log:Nat),.int .i64 (s1.place:Nat)] 122))=w5 at *
     clear hsl hw5 hb4 hq5 hb5
     by_cases hlt2:r.e≤s1.e
     ·have hl2:decide (((r.e:Nat):Int)≤((s1.e:Nat):Int))=true:=decide_eq_true (by omega)
      have hl3:decide (r.e≤s1.e)=true:=decide_eq_true hlt2
      rw[if_pos hlt2] at hnx
      subst hnx
      go_quiet (fail)
      go_wp2_with fail
      go_roundw
      case rel =>
       refine⟨k+1,by rw[HMN.out],by omega,Lib.hid ?_,Lib.hid (Qs.st (Qs.st (Qs.st (Qs.st (Qs.st (HQ5.out.trans (Q.drewN _ _)) _ _ (Nat.le_refl _)) _ _ (Nat.le_refl _)) _ _ (Nat.le_refl _)) _ _ (Nat.le_refl _)) _ _ (Nat.le_refl _))⟩
       rw[HPK.out,←sl_new (jbox b (some (r,i))) b s1 m rfl rfl rfl rfl]
       exact(((((HB5.out.stays (Q.drewN _ _):Blk _ w.heap.size 124 (jbox b (some (r,i)))).set 1 _).set 2 _).set 3 _).set 4 _).set 5 _
      case measure=>simp[intOf]
     ·have hl2:decide (((r.e:Nat):Int)≤((s1.e:Nat):Int))=false:=decide_eq_false (by omega)
      have hl3:decide (r.e≤s1.e)=false:=decide_eq_false hlt2
      rw[if_neg hlt2] at hnx
      subst hnx
      go_quiet (fail)
      go_wp2_with fail
      go_roundw
      case rel=>exact⟨k+1,by rw[HMN.out],by omega,Lib.hid (by rw[HPK.out];exact HB5.out.stays (Q.drewN _ _)),Lib.hid (HQ5.out.trans (Q.drewN _ _))⟩
      case measure=>simp[intOf]
  ·obtain rfl:k=2:=by omega
   have hneg:(1:Int)-((2:Nat):Int) = -1:=by decide
   rw[hneg]
   clear hneg hlt hk HE HTS HR HBX0 HQ0 hl1 hl0 d0 d3
   obtain⟨hdev,hF,hop,hK⟩:=HD.out
   have hr:=hop.hrec
   have hlog:=hop.hlog
   have hpk:pickR d 2=some (s,kk):=by
    rw[pickR_eq,get_low (fun w hw=>(hop.pend w hw).1) 0 (by omega),get_low (fun w hw=>(hop.pend w hw).1) 1 (by omega)]
    exact hr.pick
   have hopj:openJ d=if (JL.replay (s.log+1) ⟨d,s,kk,s.s,0⟩).2=0 then(JL.replay (s.log+1) ⟨d,s,kk,s.s,0⟩).1.ckpt else JL.replay (s.log+1) ⟨d,s,kk,s.s,0⟩:=by
    unfold openJ
    rw[hop.live,if_neg (by decide),←pickR_eq,hpk]
   have hb:=HBX.out
   rw[hpk] at hb
   obtain⟨c0,c1,c2,c3,c4,c5,c6,c7⟩:=Blk.c8 hb
   have f6:=hb.frozen 6
   have h50:=hr.hleast;have hln:=hr.hlog;have hpl:=hr.hplace;have hso:=hr.ok.1
   obtain⟨j0,hj0⟩:∃j0:JL,j0=⟨d,s,kk,s.s,0⟩:=⟨_,rfl⟩
   rw[←hj0] at hopj
   have hb2:Blk (wr.setCell ⟨w.heap.size,6,none⟩ (.int .u64 (s.s:Nat))) w.heap.size 124 (jcells b j0):=by rw[hj0];exact hb.set 6 _
   have hq2:Q w (wr.setCell ⟨w.heap.size,6,none⟩ (.int .u64 (s.s:Nat))):=Qs.st HQ.out _ _ (Nat.le_refl _)
   have hj:RJrnAt (wr.setCell ⟨w.heap.size,6,none⟩ (.int .u64 (s.s:Nat))) (grow F w (wr.setCell ⟨w.heap.size,6,none⟩ (.int .u64 (s.s:Nat)))) w.heap.size b j0:=by
    refine⟨hb2,.inr ⟨Nat.le_refl _,hb2.lt⟩,by rw[hj0];exact(hdev.keep hq2).mono (fun k hk=>.inl hk),fun k hk=>?_⟩
    rcases hk with hk|hk
    ·have:=hF k hk;have:=hq2.size;omega
    ·exact hk.2
   have hok:JOk s d.l.length 800000 j0:=by
    subst hj0
    exact⟨rfl,hop.ok,hop.live,rfl,Nat.zero_le _,by show s.s<_;have:=hop.hs;omega,hr.hk,by show d.p.length≤_;omega⟩
   have hus:usedOf (wr.setCell ⟨w.heap.size,6,none⟩ (.int .u64 (s.s:Nat))) w.heap.size=j0.used:=by
    unfold usedOf
    rw[hb2.cell 7 (.int .i64 (j0.used:Nat)) rfl];simp
   have hmid:Mid 60 K d j0 s kk [] fr:=by
    subst hj0
    exact⟨hop.ok,hop.live,rfl,by simp,rfl,rfl,by simp,rfl,hr.hchain,fun h=>h⟩
   have hi0:¬((kk:Nat):Int)<0:=by omega
   have HOP:=Lib.hid hopj;have HJ:=Lib.hid hj;have HOK:=Lib.hid hok;have HT:=Lib.hid (Turn.of_q (own:=F) hq2)
   have HPAR:=Lib.hid (And.intro h50 (And.intro hln (And.intro hpl hso)))
   have HPRE:=Lib.hid hop;have HKK:=Lib.hid hK;have HMID:=Lib.hid hmid
   have HFL:=Lib.hid hF
   have HUS:=Lib.hid (show usedOf _ _=j0.used from hus)
   clear hopj hpk hdev hF hop hr hlog hK h50 hln hpl hso hj hok hus hb HD HBX HQ hmid h2 hp
   go_wp2_with fail
   generalize hwj:wr.setCell ⟨w.heap.size,6,none⟩ (.int .u64 (s.s:Nat))=wj at *
   clear hwj hb2 hq2 c0 c1 c2 c3 c4 c5 c6 c7 f6 hj0
   go_loopw [10] (fun _ wr=>∃(m:Nat) (j2:JL) (fr1 fr2:List (List WrL)),Hid (fr=fr1++fr2)∧Hid (Mid 60 K d j2 s kk fr1 fr2)∧Hid (JL.replay (s.log+1) j0=JL.replay m j2)∧Hid (s.log+1≤m+j2.used)∧Hid (RJrnAt wr (grow F w wr) w.heap.size b j2)∧Hid (Turn F w wr)∧Hid (JOk s d.l.length 800000 j2)∧Hid (usedOf wr w.heap.size=j2.used)) (fun _ wr=>s.log+1-usedOf wr w.heap.size)
   case atStart=>exact⟨s.log+1,j0,[],fr,Lib.hid rfl,HMID,Lib.hid rfl,Lib.hid (by omega),HJ,HT,HOK,HUS⟩
   case round =>
    obtain⟨m,j2,fr1,fr2,HFR12,HMI,HRP,HM2,HJ2,HT2,HOK2,HU2⟩:=hrel
    obtain⟨wo,rfl⟩:∃wo:World,wo=wr:=⟨_,rfl⟩
    obtain⟨h50,hln,hpl,hso⟩:=HPAR.out
    have hnum:=HOK2.out.num h50 hln hpl hso (Nat.le_refl _)
    have hlv:=HOK2.out.live
    have hll:2+j2.s.log≤j2.d.l.length:=by rw[HOK2.out.sl,HOK2.out.len];omega
    have hus:j2.used≤j2.s.log:=by rw[HOK2.out.sl];exact HOK2.out.used
    have hch:Chain j2.d.l j2.s j2.used j2.next fr2:=by have M:=HMI.out;rw[M.hl,M.hs,M.hu,M.hn];exact M.hc
    have hlow:=frame_low (by rw[HOK2.out.sl];exact h50) hch HOK2.out.next (Mid.pend HPRE.out HFR12.out HMI.out)
    have hfr:=RFrame_any wo (grow F w wo) w.heap.size b j2 HJ2.out hnum hlv hll hus hlow
    obtain⟨m',rfl⟩:∃m',m=m'+1:=⟨m-1,by have:=HM2.out;have:=HOK2.out.used;omega⟩
    have HFR:=Lib.hid hfr;have HNU:=Lib.hid hnum
    clear h50 hln hpl hso hnum hlv hll hus hfr hch hlow
    cases hf:j2.frame with
    | none =>
     have hrp:=HRP.out
     rw[replay_none hf] at hrp
     have hop:=HOP.out
     rw[hrp,if_pos rfl] at hop
     have ck:=fun (W:World) (q:Q wo W)=>RCkpt_any W (grow F w wo) w.heap.size b j2 (HJ2.out.keep q) HNU.out
     have HOP2:=Lib.hid hop;have CK:=Lib.hid ck
     rw[hf] at HFR
     clear hrp hop ck hf
     go_wp2_with fail
     refine HFR.out.mono ?_
     rintro e w3 ⟨⟨v,x,rfl,-⟩,q3⟩
     have HQ3:=Lib.hid q3
     clear q3
     go_wp2_with fail
     refine(CK.out _ HQ3.out).mono ?_
     rintro e w4 ⟨rfl,h4,t4⟩
     have ht:=HT2.out.step ((Turn.of_q HQ3.out).trans t4)
     have h4':RJrnAt w4 (grow F w w4) w.heap.size b j2.ckpt.1:=h4.mono (fun k hk=>hk.elim (fun hk=>hk.elim .inl (fun hk=>.inr ⟨hk.1,Nat.lt_of_lt_of_le hk.2 (Nat.le_trans HQ3.out.size t4.size)⟩)) (fun hk=>.inr ⟨Nat.le_trans HT2.out.size (Nat.le_trans HQ3.out.size hk.1),hk.2⟩)) (fun k hk=>hk.elim (fun hk=>by have:=HFL.out k hk;have:=ht.size;omega) (fun hk=>hk.2))
     have H4:=Lib.hid h4';have HT4:=Lib.hid ht
     clear h4 t4 ht h4'
     by_cases hz:j2.ckpt.2=0
     ·have hb:(j2.ckpt.2==0)=true:=beq_iff_eq.2 hz
      have HZ:=Lib.hid hz
      clear hz
      go_wp2_with fail
      go_ret2
      refine⟨HT4.out,.inl ⟨by rw[HOP2.out];exact HZ.out,_,rfl,?_⟩⟩
      rw[HOP2.out];exact H4.out
     ·have hb:(j2.ckpt.2==0)=false:=beq_eq_false_iff_ne.2 hz
      have HZ:=Lib.hid hz
      clear hz
      go_wp2_with fail
      go_ret2
      refine⟨HT4.out,.inr ⟨by rw[HOP2.out];exact HZ.out,by rw[HOP2.out];rfl,?_⟩⟩
      rw[HOP2.out];exact H4.out.dev
    | some ws =>
     obtain⟨fr3,hfr3⟩:=Mid.frame HPRE.out HKK.out HFR12.out HMI.out hf
     subst hfr3
     have hrp:=HRP.out
     rw[replay_some hf] at hrp
     obtain⟨f1,f2,f3⟩:=frame_some hf
     have hadv:=fun hz=>HOK2.out.adv hf hz
     have hmst:=fun hz=>Mid.step HPRE.out HKK.out HFR12.out HMI.out hz
     have hfr':fr=(fr1++[ws])++fr3:=by rw[HFR12.out,List.append_assoc];rfl
     have hpp:j2.d.p.length≤900000:=HNU.out.plen HOK2.out.live
     rw[hf] at HFR
     have hul:j2.used+ws.length+1≤s.log:=by have h1:=HOK2.out.sl;have:=HOK2.out.used;rw[h1] at f1;omega
     have hlog:=HNU.out.log2
     have hsl:=HOK2.out.sl
     have hwl:ws.length≤48:=HMI.out.hc.1.2.1
     have hle:∀k (hk:k<ws.length),ws[k].2.length≤1000000:=fun k hk=>by have:=(f3 _ (List.getElem_mem hk)).2;omega
     have HRP2:=Lib.hid hrp;have HADV:=Lib.hid hadv;have HUL:=Lib.hid hul;have HMST:=Lib.hid hmst;have HFR':=Lib.hid hfr';have HLE:=Lib.hid hle;have HPP:=Lib.hid hpp
     have HGL:=Lib.hid (show ∀k,grow F w wo k→k<wo.heap.size from HJ2.out.lt)
     clear hf hrp f1 f2 f3 hadv hpp hul hmst hfr' hle hlog hsl
     go_wp2_with fail
     refine HFR.out.mono ?_
     rintro e w3 ⟨⟨v,x,rfl,hv⟩,q3⟩
     obtain⟨rfl,hvr⟩:=hv ws rfl
     clear hv
     obtain⟨va,vc,rfl,hva⟩:=owns_value hvr
     have hcell:∀k (hk:k<ws.length),∃g,va=some ⟨g,0,none⟩∧g<w3.heap.size∧¬grow F w wo g∧w3.cell? ⟨g,k*2,none⟩=some (.int .i64 (ws[k].1:Nat))∧w3.cell? ⟨g,k*2+1,none⟩=some (strV ws[k].2):=fun k hk=>by
      obtain⟨g,rfl⟩:=hva (by omega)
      have hg:=hvr.lt g rfl
      exact⟨g,rfl,hg.2,fun hc=>by have:=HGL.out g hc;omega,owns_cells (Sl.of_owns hvr) (by omega) (k*2) _ (wrVs_at ws k hk).1,owns_cells (Sl.of_owns hvr) (by omega) (k*2+1) _ (wrVs_at ws k hk).2⟩
     have HC:=Lib.hid hcell;have HQ3:=Lib.hid q3
     have hj3:RJrnAt w3 (grow (grow F w wo) w3 w3) w.heap.size b { j2 with d:=j2.d }:=(HJ2.out.keep q3).mono (fun k hk=>.inl hk) (fun k hk=>hk.elim (fun hk=>(HJ2.out.keep q3).lt k hk) (fun hk=>hk.2))
     have HJ3:=Lib.hid hj3
     have hlt3:∀k,grow F w wo k→k<w3.heap.size:=fun k hk=>Nat.lt_of_lt_of_le (HGL.out k hk) q3.size
     have HL3:=Lib.hid hlt3
     have HOKJ:=Lib.hid HNU.out.ok
     clear hcell hvr hva q3 hj3 hlt3
     go_wp2_with fail
     go_loopw [13] (fun v wr2=>∃(k:Nat) (d2:DevL),v=.int .i64 (k:Nat)∧k≤ws.length∧Hid (j2.d.writes ws=d2.writes (ws.drop k))∧Hid (RJrnAt wr2 (grow (grow F w wo) w3 wr2) w.heap.size b { j2 with d:=d2 })∧Hid (Turn (grow F w wo) w3 wr2)∧Hid d2.Ok∧Hid (d2.dead=false→d2.p.length≤900000+k)) (fun v _=>ws.length-(intOf v).toNat)
     case atStart=>exact⟨0,j2.d,rfl,Nat.zero_le _,by rw[List.drop_zero];exact Lib.hid rfl,HJ3,Lib.hid (Turn.refl _ _),HOKJ,Lib.hid (fun _=>HPP.out)⟩
     case round =>
      obtain⟨k,d2,rfl,hk,HE,HG2,HTT,HD2,HP2⟩:=hrel
      by_cases hlt:k<ws.length
      ·have hki:(k:Int)<(ws.length:Int):=by omega
       obtain⟨lb,rfl,hlb,hlF,x1,x2⟩:=HC.out k hlt
       have y1:=HTT.out.cell x1 hlF
       have y2:=HTT.out.cell x2 hlF
       have he:=HE.out
       rw[List.drop_eq_getElem_cons hlt,DevL.writes] at he
       have hw1:=HG2.out.write HD2.out (fun hx=>by have h1:=HP2.out hx;show d2.p.length≤_;omega) (ws[k].1:Nat) ws[k].2 (HLE.out k hlt)
       simp only at hw1
       have hok:=DevL.write_ok HD2.out (ws[k].1:Nat) ws[k].2
       have hpn:(d2.write (ws[k].1:Nat) ws[k].2).1.dead=false→(d2.write (ws[k].1:Nat) ws[k].2).1.p.length≤900000+(k+1):=fun hx=>by
        have h1:=HP2.out (DevL.write_live _ _ _ hx)
        have h2:=DevL.write_p d2 (ws[k].1:Nat) ws[k].2
        omega
       have hnG:¬grow (grow F w wo) w3 wr lb:=fun hc=>hc.elim hlF (fun hc=>by omega)
       have hk0:(0:Int)≤(k:Int):=by omega
       generalize hdw:d2.write (ws[k].1:Nat) ws[k].2=dw at *
       generalize ws[k].1=bk at *
       generalize ws[k].2=dk at *
       have HW1:=Lib.hid hw1;have HEE:=Lib.hid he;have HOK3:=Lib.hid hok;have HPN:=Lib.hid hpn;have HNG:=Lib.hid hnG;have KK:=Lib.hid (Q.refl wr)
       clear hw1 he hok hpn hdw x1 x2 hnG
       go_wp2_with fail
       go_region_held3 (fun w'=>w'.cell? ⟨lb,k*2,none⟩=some (.int .i64 (bk:Nat))∧w'.cell? ⟨lb,k*2+1,none⟩=some (strV dk))
        (first|exact g0|exact⟨y1,y2⟩|exact two (by repeat (first|with_reducible exact KK.out|with_reducible exact Q.refl _|with_reducible apply Qs.dr|with_reducible apply Qs.al)) y1 y2)
        (first
         | (go_at_call 115;with_reducible refine(HW1.out _ (by repeat (first|with_reducible exact KK.out|with_reducible apply Qs.dr|with_reducible apply Qs.al))).mono ?_;rintro e w4 ⟨rfl,h4,t4⟩;have g0:=And.intro (Turn.cell t4 y1 HNG.out) (Turn.cell t4 y2 HNG.out);have H4:=Lib.hid h4;have T4:=Lib.hid t4;clear h4 t4))
       all_goals
        have hs4:=RJrnAt.next HL3.out HTT.out H4.out T4.out
        have HG4:=Lib.hid hs4.1;have HT4:=Lib.hid hs4.2
        clear hs4 y1 y2
        try clear g0
        by_cases hz:dw.2=0
        ·have hb:(dw.2==0)=true:=beq_iff_eq.2 hz
         have hee:=HEE.out
         rw[if_pos hz] at hee
         have HE2:=Lib.hid hee
         clear hee HEE hz
         go_wp2_with fail
         go_roundw
         case rel=>exact⟨k+1,dw.1,by go_num,by omega,HE2,HG4,HT4,HOK3,HPN⟩
         case measure=>simp[intOf];omega
        ·have hb:(dw.2==0)=false:=beq_eq_false_iff_ne.2 hz
         have hee:=HEE.out
         rw[if_neg hz] at hee
         have hrp:=HRP2.out
         rw[hee,if_neg hz] at hrp
         have hop:=HOP.out
         rw[hrp,if_neg hz] at hop
         have htf:Turn F w w4:=HT2.out.step ((Turn.of_q HQ3.out).trans HT4.out)
         have hdv:RDevAt w4 (grow F w w4) b dw.1:=HG4.out.dev.mono (fun k hk=>hk.elim (fun hk=>hk.elim .inl (fun hk=>.inr ⟨hk.1,by have:=HQ3.out.size;have:=HT4.out.size;omega⟩)) (fun hk=>.inr ⟨by have:=HQ3.out.size;have:=HT2.out.size;omega,hk.2⟩))
         have HOP2:=Lib.hid hop;have HZ:=Lib.hid hz;have HTF:=Lib.hid htf;have HDV:=Lib.hid hdv
         clear hz hrp hop hee HEE htf hdv
         go_wp2_with fail
         go_ret2
         refine⟨HTF.out,.inr ⟨by rw[HOP2.out];exact HZ.out,by rw[HOP2.out];rfl,?_⟩⟩
         rw[HOP2.out]
         exact HDV.out
      ·have hki:¬(k:Int)<(ws.length:Int):=by omega
       obtain rfl:k=ws.length:=by omega
       have he:=HE.out
       rw[List.drop_length,DevL.writes] at he
       have hz:(j2.d.writes ws).2=0:=by rw[he]
       have hrp:=HRP2.out
       rw[if_pos hz] at hrp
       have hok3:=HADV.out hz
       have hmi3:=HMST.out hz
       have hd1:(j2.d.writes ws).1=d2:=by rw[he]
       rw[hd1] at hrp hok3 hmi3
       have hbx:=HG2.out.box
       obtain⟨c0,c1,c2,c3,c4,c5,c6,c7⟩:=hbx.c8
       have f6:=hbx.frozen 6;have f7:=hbx.frozen 7
       have hu1:=HUL.out
       have hlg:=HNU.out.log2
       have hslg:=HOK2.out.sl
       have hnx2:j2.next+1<18446744073709551616:=by
        have h1:=HMI.out.hn;have h2:=HPRE.out.hs;have h3:=HKK.out;have h4:=congrArg List.length HFR12.out
        rw[List.length_append,List.length_cons] at h4
        omega
       have hw7:IntKind.i64.wrap ((j2.used:Int)+(1+(ws.length:Int)))=((j2.used+ws.length+1:Nat):Int):=by rw[IntWalk.i64_in _ (by rw[hslg] at hlg;omega)];omega
       have hw6:IntKind.u64.wrap ((j2.next:Int)+1)=((j2.next+1:Nat):Int):=by simp[IntKind.wrap,IntKind.bits,IntKind.signed];omega
       have hmod:(j2.next+1)%18446744073709551616=j2.next+1:=Nat.mod_eq_of_lt hnx2
       have hadv:({ j2 with d:=d2 }:JL).advance ws.length={ d:=d2,s:=j2.s,k:=j2.k,next:=j2.next+1,used:=j2.used+ws.length+1 }:=by unfold JL.advance;simp only[hmod]
       have HRP3:=Lib.hid hrp;have HOK4:=Lib.hid hok3;have HMI3:=Lib.hid hmi3;have HADV2:=Lib.hid hadv;have HBX2:=Lib.hid hbx
       have HW6:=Lib.hid hw6;have HW7:=Lib.hid hw7
       clear he hz hrp hok3 hmi3 hd1 hbx hu1 hlg hslg hnx2 hmod hadv c0 c1 c2 c3 c4 c5
       go_wp2_with fail
       have e7:(j2.used:Int)+(ws.length:Int)+1=((j2.used+ws.length+1:Nat):Int):=by omega
       have e6:(j2.next:Int)+1=((j2.next+1:Nat):Int):=by omega
       rw[e7,e6]
       have hrp:=HRP3.out;have hok3:=HOK4.out;have hmi3:=HMI3.out
       rw[HADV2.out] at hrp hok3 hmi3
       have hb7:Blk ((wr.setCell ⟨w.heap.size,7,none⟩ (.int .i64 ((j2.used+ws.length+1:Nat):Int))).setCell ⟨w.heap.size,6,none⟩ (.int .u64 ((j2.next+1:Nat):Int))) w.heap.size 124 (jcells b { d:=d2,s:=j2.s,k:=j2.k,next:=j2.next+1,used:=j2.used+ws.length+1 }):=(HBX2.out.set 7 _).set 6 _
       have t7:Turn (fun k=>k=w.heap.size) wr ((wr.setCell ⟨w.heap.size,7,none⟩ (.int .i64 ((j2.used+ws.length+1:Nat):Int))).setCell ⟨w.heap.size,6,none⟩ (.int .u64 ((j2.next+1:Nat):Int))):=((Turn.refl (fun k=>k=w.heap.size) wr).setCell (a:=⟨w.heap.size,7,none⟩) (.inl rfl) _).setCell (a:=⟨w.heap.size,6,none⟩) (.inl rfl) _
       have hz7:((wr.setCell ⟨w.heap.size,7,none⟩ (.int .i64 ((j2.used+ws.length+1:Nat):Int))).setCell ⟨w.heap.size,6,none⟩ (.int .u64 ((j2.next+1:Nat):Int))).heap.size=wr.heap.size:=by rw[setCell_size,setCell_size]
       generalize ((wr.setCell ⟨w.heap.size,7,none⟩ (.int .i64 ((j2.used+ws.length+1:Nat):Int))).setCell ⟨w.heap.size,6,none⟩ (.int .u64 ((j2.next+1:Nat):Int)))=wz at *
       have hjz:=HG2.out.turned hb7 rfl t7
       have hsw:w.heap.size<wo.heap.size:=HJ2.out.box.lt
       have htz:Turn F w wz:=HT2.out.step ((Turn.of_q HQ3.out).trans (HTT.out.trans (t7.mono (fun k hk=>by subst hk;exact .inr ⟨Nat.le_refl _,hsw⟩))))
       have hs1:=HQ3.out.size;have hs2:=HTT.out.size
       have huz:usedOf wz w.heap.size=j2.used+ws.length+1:=by unfold usedOf;rw[hb7.cell 7 (.int .i64 ((j2.used+ws.length+1:Nat):Int)) rfl];exact Int.toNat_natCast _
       refine⟨⟨m',_,fr1++[ws],fr3,HFR',Lib.hid hmi3,Lib.hid hrp,Lib.hid (by show s.log+1≤m'+(j2.used+ws.length+1);have:=HM2.out;omega),Lib.hid (hjz.mono (fun k hk=>?_) (fun k hk=>?_)),Lib.hid htz,Lib.hid hok3,Lib.hid huz⟩,by rw[huz,HU2.out];have:=HUL.out;omega⟩
       ·rcases hk with (hk|hk)|hk
        ·exact .inl hk
        ·exact .inr ⟨hk.1,by omega⟩
        ·exact .inr ⟨by omega,by omega⟩
       ·rcases hk with hk|hk
        ·have:=HFL.out k hk;omega
        ·exact hk.2
def newK(n k:Nat):List Bytes:=List.replicate k noughtsL++List.replicate (n-k) []
theorem newK_length(n k:Nat)(h:k≤n):(newK n k).length=n:=by simp[newK];omega
theorem newK_step(n k:Nat)(h:k<n):(newK n k).set k noughtsL=newK n (k+1):=by
 unfold newK
 obtain⟨m,hm⟩:∃m,n-k=m+1:=⟨n-k-1,by omega⟩
 rw[hm,List.replicate_succ,show n-(k+1)=m by omega,List.replicate_succ',List.append_assoc]
 rw[List.set_append_right _ _ (by simp)]
 simp
theorem madeStr(n:Nat):madeCells #[strV []] n=strCs (newK n 0):=by
 unfold newK strCs
 refine Array.ext (by simp[madeCells]) (fun i h1 h2=>?_)
 simp[madeCells,Nat.mod_one]
theorem tinfoStr0:(Tryz.prog.info? 9).map (fun i=>(i.zero,i.size,i.bytes))=some (some (strV []),1,16):=by kernel_rfl
theorem New_any(w:World)(n:Nat)(h1:1≤n)(h2:n≤4096):
  Calls Tryz.prog 54 #[.int .i64 (n:Nat)] w fun e w'=>e=.returned (.tuple #[ptrV (w.heap.size+1),.int .i64 0])∧DevAt w' (fun k=>w.heap.size≤k∧k<w'.heap.size) (w.heap.size+1) (DevL.new n)∧Q w w':=by
 have hrp:=fun (W:World)=>Tryz.strings_Repeat_main ⟨#[0]⟩ 256 W (by decide) (by decide) (by decide) (by decide)
 have he:(Lib.repeatL [(0:UInt8)] 256)=noughtsL:=by decide +kernel
 obtain⟨i0,hi,hz0,hz1,hz2⟩:=info_parts tinfoStr0
 have km:=run_make (P:=Tryz.prog) w 47 9 _ _ Tryz.underlying47 hi hz0 .i64 .i64 (n:Int) (n:Int) (by omega) (Int.le_refl _) (by rw[hz2];omega) (by omega)
 rw[Int.toNat_natCast,hz1,Nat.mul_one,show(strV []).cells=#[strV []] from rfl,madeStr] at km
 have hd0:=Blk.new w 9 (strCs (newK n 0))
 have hq0:=Q.alloc w (.cells (strCs (newK n 0)) 9)
 have hz0':(w.alloc (.cells (strCs (newK n 0)) 9)).heap.size=w.heap.size+1:=by simp
 generalize hw1:w.alloc (.cells (strCs (newK n 0)) 9)=w1 at *
 have hb1:=Blk.new w1 80 #[.slice (some ⟨w.heap.size,0,none⟩) n n,.slice none 0 0,.int .i64 (-1),.bool false]
 have hq1:=Q.alloc w1 (.cells #[.slice (some ⟨w.heap.size,0,none⟩) n n,.slice none 0 0,.int .i64 (-1),.bool false] 80)
 have hdev:DevG (w1.alloc (.cells #[.slice (some ⟨w.heap.size,0,none⟩) n n,.slice none 0 0,.int .i64 (-1),.bool false] 80)) (fun k=>k=w.heap.size∨k=w.heap.size+1) (w.heap.size+1) w.heap.size n (.slice none 0 0) ⟨newK n 0,[],-1,false⟩:=by
  refine⟨?_,.inr rfl,hd0.stays hq1,.inl rfl,⟨rfl,.inl ⟨rfl,rfl⟩⟩,fun k e=>by simp[Value.ownBlock] at e⟩
  rw[←hz0',show({ l:=newK n 0,p:=[],fuse := -1,dead:=false }:DevL).l.length=n from newK_length n 0 (by omega)]
  exact hb1
 have HRP:=Lib.hid hrp;have HE:=Lib.hid he;have HDEV:=Lib.hid hdev;have HQ:=Lib.hid (hq0.trans hq1)
 have e1:¬(n:Int)<1:=by omega
 have e2:¬(4096:Int)<(n:Int):=by omega
 clear hrp he hd0 hb1 hq0 hq1 hdev hz1 hz2
 go_enter Tryz.func54,Tryz.ntmps54
 go_wp2_with fail
 generalize hw2:w1.alloc (.cells #[.slice (some ⟨w.heap.size,0,none⟩) n n,.slice none 0 0,.int .i64 (-1),.bool false] 80)=w2 at *
 go_loopw [17] (fun v wr=>∃k:Nat,v=.int .i64 (k:Nat)∧k≤n∧Hid (DevG wr (fun k=>k=w.heap.size∨k=w.heap.size+1) (w.heap.size+1) w.heap.size n (.slice none 0 0) ⟨newK n k,[],-1,false⟩)∧Hid (Q w wr)) (fun v _=>n-(intOf v).toNat)
 case atStart=>exact⟨0,rfl,Nat.zero_le _,HDEV.out,HQ.out⟩
 case round =>
  obtain⟨k,rfl,hk,HG,HQ2⟩:=hrel
  by_cases hlt:k<n
  ·have hki:(k:Int)<(n:Int):=by omega
   have hnl:=newK_length n k hk
   obtain⟨b0,_,_,_,_⟩:=HG.out.box.c4
   have c0:wr.cell? ⟨w.heap.size+1,0,none⟩=some (.slice (some ⟨w.heap.size,0,none⟩) n n):=by have h:=b0;simp only[hnl] at h;exact h
   have hdc:=fun (V:World) (q:Q wr V)=>(HG.out.keep q).dcell k (by show k<(newK n k).length;omega)
   have hst:=newK_step n k hlt
   have HDC:=Lib.hid hdc;have HST:=Lib.hid hst
   have hki0:(0:Int)≤(k:Int):=by omega
   have y:=hdc wr (Q.refl _)
   obtain⟨y1,y2⟩:=y
   clear hdc hst b0
   go_wp2_with fail
   go_region_law
    (first
     | (go_simp;go_at_call 95;refine(HRP.out _).mono ?_;rintro e w3 ⟨rfl,q3⟩;have s':Q wr w3:=(by first|exact(Q.drew _).trans q3|exact q3);have x0:=cellQ s' c0;obtain⟨x1,x2⟩:=HDC.out _ s';have S':=Lib.hid s';clear s' q3))
   all_goals
    rw[HE.out]
    go_wp2_with fail
    go_roundw
    case rel =>
     refine⟨k+1,by go_num,by omega,?_,?_⟩
     ·rw[←HST.out]
      exact Lib.hid ((HG.out.keep (by repeat (first|with_reducible exact S'.out|with_reducible exact Q.refl _|with_reducible apply Qs.dr))).lay k noughtsL).1
     ·exact Lib.hid (Qs.st (HQ2.out.trans (by repeat (first|with_reducible exact S'.out|with_reducible exact Q.refl _|with_reducible apply Qs.dr))) _ _ (Nat.le_refl _))
    case measure=>simp[intOf];omega
  ·have hki:¬(k:Int)<(n:Int):=by omega
   obtain rfl:k=n:=by omega
   have hnw:newK k k=List.replicate k noughtsL:=by unfold newK;simp
   have hg:=HG.out
   rw[hnw] at hg
   have HGG:=Lib.hid hg
   clear hg
   go_wp2_with fail
   go_ret2
   exact⟨rfl,⟨_,_,_,HGG.out.mono (fun i hi=>by have:=HGG.out.box.lt;omega)⟩,HQ2.out⟩
end
section
theorem write_plen(d:DevL)(i:Int)(s:Bytes):(d.write i s).1.p.length≤d.p.length+1:=DevL.write_p d i s
theorem writes_plen(ws:List WrL):∀(d:DevL),(d.writes ws).1.p.length≤d.p.length+ws.length:=by
 induction ws with
 | nil=>intro d;exact Nat.le_refl _
 | cons w ws ih =>
  intro d
  rw[DevL.writes]
  have h1:=write_plen d w.1 w.2
  split
  ·have h2:=ih (d.write w.1 w.2).1
   rw[List.length_cons];omega
  ·rw[List.length_cons];omega
theorem flush_plen(d:DevL):d.flush.1.p.length≤d.p.length:=by
 unfold DevL.flush
 split
 ·exact Nat.le_refl _
 ·split
  ·rw[(DevL.turn_l d).2];omega
  ·exact Nat.zero_le _
theorem lays_plen(d:DevL)(ws:List WrL):(d.lays ws).1.p.length≤d.p.length+ws.length:=by
 have h1:=writes_plen ws d
 unfold DevL.lays
 split
 ·have h2:=flush_plen (d.writes ws).1;omega
 ·exact h1
theorem ckpt_plen(j:JL):j.ckpt.1.d.p.length≤j.d.p.length+2:=by
 have h1:=lays_plen j.d [(j.place 0,noughtsL)]
 have h2:=lays_plen j.ckpt1.1 [(1-j.k,slotT j.nextSlot)]
 have e1:j.ckpt1.1.p.length≤j.d.p.length+1:=h1
 have e2:j.ckpt2.1.p.length≤j.ckpt1.1.p.length+1:=h2
 unfold JL.ckpt
 split
 ·show j.ckpt1.1.p.length≤_;omega
 ·split
  ·show j.ckpt2.1.p.length≤_;omega
  ·show j.ckpt2.1.p.length≤_;omega
theorem logW_len7(j:JL)(ws:List WrL):(j.logW ws).length=ws.length+1:=by unfold JL.logW;simp
theorem com_plen(j:JL)(ws:List WrL):(j.com ws).1.d.p.length≤j.d.p.length+2*ws.length+2:=by
 have h1:(j.com1 ws).1.p.length≤j.d.p.length+(ws.length+1):=by have:=lays_plen j.d (j.logW ws);rw[logW_len7] at this;exact this
 have h2:(j.com2 ws).1.p.length≤(j.com1 ws).1.p.length+1:=lays_plen (j.com1 ws).1 [(j.place 0,headL j.next ws)]
 have h3:(j.com3 ws).1.p.length≤(j.com2 ws).1.p.length+ws.length:=writes_plen ws (j.com2 ws).1
 unfold JL.com
 split
 ·show(j.com1 ws).1.p.length≤_;omega
 ·split
  ·show(j.com2 ws).1.p.length≤_;omega
  ·show(j.com3 ws).1.p.length≤_;omega
theorem jcommit_plen(j:JL)(ws:List WrL):(j.commit ws).1.d.p.length≤j.d.p.length+2*ws.length+4:=by
 have h1:=ckpt_plen j
 unfold JL.commit
 split
 ·split
  ·omega
  ·have h2:=com_plen j.ckpt.1 ws;omega
 ·have h2:=com_plen j ws;omega
theorem does_plen{K:Nat}{σ:StL}{fr:List (List WrL)}{C:Nat→Bytes}(h:StInv K σ fr C)(a:Act7)(hk:a.k=6):(doesS a σ).j.d.p.length≤1000:=by
 have hp:=h.inv.plen
 have hs:=h.short
 have hc:=jcommit_plen σ.j σ.tx
 unfold doesS
 rw[if_neg (by omega),if_neg (by omega),if_neg (by omega),if_neg (by omega),if_pos hk]
 unfold StL.commit
 split
 ·show σ.j.d.p.length≤_;omega
 ·split
  ·show σ.j.d.p.length≤_;omega
  ·split
   ·show(σ.j.commit σ.tx).1.d.p.length≤_;omega
   ·show(σ.j.commit σ.tx).1.d.p.length≤_;omega
end
end Go.Proofs.YthcpkgfieoneeaaGreatDoor
