/- Joined texts of one proof: what is needed of Hlp7, WRef1a, AppS, Bld, ByteV, WRef1b, Shn7. -/
import Derived.Test.YthcpkgfieoneeaaGreatDoorJPPly7
import Derived.Test.YthcpkgfieoneeaaGreatDoorJPBitM
import Derived.Test.YthcpkgfieoneeaaGreatDoorJPWRef4a
import Derived.Test.YthcpkgfieoneeaaGreatDoorJPKit
import Derived.Test.YthcpkgfieoneeaaGreatDoorJPJrn4
import Derived.Deep.RegionLaw
import Derived.Deep.RegionHeld3
import Derived.Lib.AppendStr
import Derived.Test.YthcpkgfieoneeaaGreatDoorProg
import Derived.WalkKit
import Derived.WalkSpells
import Derived.WalkLawsBesides
import Derived.Lib.Builder
import Derived.Lib.FrozenHead
import Derived.Lib.FrozenHead2
import Derived.Outline
import Derived.KernelRfl
import Derived.Test.YthcpkgfieoneeaaGreatDoorJPWBlkE
set_option linter.unusedSimpArgs false
set_option linter.unusedVariables false
set_option linter.unnecessarySimpa false
set_option maxRecDepth 100000
set_option maxHeartbeats 16000000
namespace Go.Proofs.YthcpkgfieoneeaaGreatDoor
section
open Go.RowKit
theorem pickZ_neg(c:Int)(n:Nat)(h:c<0)(hn:0<n):((pickZ c n:Nat):Int)=(-(c+1))%(n:Int):=by
 unfold pickZ;rw[if_pos h]
 rw[Int.natCast_emod,Int.toNat_of_nonneg (by omega)]
theorem pickZ_pos(c:Int)(n:Nat)(h:¬c<0)(hn:0<n):((pickZ c n:Nat):Int)=c%(n:Int):=by
 unfold pickZ;rw[if_neg h]
 rw[Int.natCast_emod,Int.toNat_of_nonneg (by omega)]
theorem Pick7_any(c:Int)(n:Nat)(w:World)(c0 : -9223372036854775808≤c)(c1:c≤9223372036854775807)(hn:0<n)(hm:n≤1000000):
  Calls Tryz.prog 6 #[.int .i64 c,.int .i64 (n:Nat)] w fun e w'=>e=.returned (.int .i64 (pickZ c n:Nat))∧w=w':=by
 have hlt:=pickZ_lt c n hn
 have hz:¬(n:Int)=0:=by omega
 have hz2:((n:Int)==0)=false:=by simp;omega
 by_cases h:c<0
 ·have e:=pickZ_neg c n h hn
  have r1:IntKind.i64.wrap (c+1)=c+1:=IntWalk.i64_in _ (by omega)
  have r2:IntKind.i64.wrap (-(c+1)) = -(c+1):=IntWalk.i64_in _ (by omega)
  have hb:(-(c+1)).tmod (n:Int)=(-(c+1))%(n:Int):=Int.tmod_eq_emod_of_nonneg (by omega)
  have r3:IntKind.i64.wrap ((-(c+1))%(n:Int))=(-(c+1))%(n:Int):=IntWalk.i64_in _ (by rw[←e];omega)
  have r4:IntKind.i64.wrap ((-(c+1)).tmod (n:Int))=(-(c+1))%(n:Int):=by rw[hb];exact r3
  rw[e]
  clear e
  go_enter Tryz.func6,Tryz.ntmps6
  go_wp2_with fail
  go_ret
  exact⟨by first|rfl|simp[r1,r2,r3,r4,hb],rfl⟩
 ·have e:=pickZ_pos c n h hn
  have hb:c.tmod (n:Int)=c%(n:Int):=Int.tmod_eq_emod_of_nonneg (by omega)
  have r3:IntKind.i64.wrap (c%(n:Int))=c%(n:Int):=IntWalk.i64_in _ (by rw[←e];omega)
  have r4:IntKind.i64.wrap (c.tmod (n:Int))=c%(n:Int):=by rw[hb];exact r3
  rw[e]
  clear e
  go_enter Tryz.func6,Tryz.ntmps6
  go_wp2_with fail
  go_ret
  exact⟨by first|rfl|simp[r3,r4,hb],rfl⟩
def fillK(c:UInt8)(k:Nat):Bytes:=List.replicate k c++List.replicate (256-k) 0
theorem fillK_len(c:UInt8)(k:Nat)(h:k≤256):(fillK c k).length=256:=by simp[fillK];omega
theorem fillK_step(c:UInt8)(k:Nat)(h:k<256):(fillK c k).set k c=fillK c (k+1):=by
 unfold fillK
 obtain⟨m,hm⟩:∃m,256-k=m+1:=⟨256-k-1,by omega⟩
 rw[hm,List.replicate_succ,show 256-(k+1)=m by omega,List.replicate_succ',List.append_assoc]
 rw[List.set_append_right _ _ (by simp)]
 simp
theorem fillK_all(c:UInt8):fillK c 256=fullL c:=by unfold fillK fullL;exact List.append_nil _
theorem Full_any(c:UInt8)(w:World):Calls Tryz.prog 23 #[.int .u8 (c.toNat:Nat)] w fun e w'=>e=.returned (strV (fullL c))∧Q w w':=by
 obtain⟨i,hi,hz0,hz1,hz2⟩:=info_parts tinfo5
 have km:=run_make (P:=Tryz.prog) w 103 5 _ _ Tryz.underlying103 hi hz0 .i64 .i64 256 256 (by omega) (Int.le_refl _) (by rw[hz2];omega) (by omega)
 rw[hz1,Nat.mul_one,show(Value.int IntKind.u8 0).cells=#[.int .u8 0] from rfl] at km
 have hr0:ByteRow (w.alloc (.cells (madeCells #[.int .u8 0] (256:Int).toNat) 5)) w.heap.size (fillK c 0):=by
  have:=ByteRow.zeros w (256:Int).toNat 5
  exact this
 have hq:=Q.alloc w (.cells (madeCells #[.int .u8 0] (256:Int).toNat) 5)
 generalize hm:(256:Int).toNat=m at km hr0 hq ⊢
 have hm2:m=256:=by rw[←hm];rfl
 clear hm
 generalize w.alloc (.cells (madeCells #[.int .u8 0] m) 5)=w2 at *
 subst hm2
 have HQ:=Lib.hid hq;have HR:=Lib.hid hr0
 clear hq hz0 hz1 hz2 hr0
 go_enter Tryz.func23,Tryz.ntmps23
 go_wp2_with fail
 go_loopw [4] (fun x wr=>∃k:Nat,x=.int .i64 (k:Nat)∧k≤256∧Hid (ByteRow wr w.heap.size (fillK c k))∧Hid (Q w wr)) (fun x _=>256-(intOf x).toNat)
 case atStart=>exact⟨0,rfl,by omega,HR,HQ⟩
 case round =>
  obtain⟨k,rfl,hk,HR,HQ⟩:=hrel
  by_cases hlt:k<256
  ·have hki:(k:Int)<256:=by omega
   have hf:=HR.out.frozen k (by rw[fillK_len c k hk];exact hlt)
   have hc:=HR.out.cell k (by rw[fillK_len c k hk];exact hlt)
   have hst:=HR.out.set k (c.toNat:Nat) c rfl
   rw[fillK_step c k hlt] at hst
   have hq2:=Qs.st HQ.out ⟨w.heap.size,k,none⟩ (.int .u8 (c.toNat:Nat)) (Nat.le_refl _)
   have HST:=Lib.hid hst;have HQ2:=Lib.hid hq2
   clear hst hq2
   go_wp2_with fail
   go_roundw
   case rel=>exact⟨k+1,by go_num,by omega,HST,HQ2⟩
   case measure=>simp[intOf];omega
  ·have hki:¬(k:Int)<256:=by omega
   obtain rfl:k=256:=by omega
   have hkc:=HR.out.back (P:=Tryz.prog) 103 9 5 256 Tryz.underlying103 Tryz.underlying5 Tryz.underlying9
   rw[fillK_len c 256 hk,fillK_all] at hkc
   go_wp2_with fail
   go_ret
   exact⟨rfl,HQ.out⟩
theorem At7_any(ka:Option Addr)(kn kc:Nat)(a:Act7)(w:World)(ha:a.Wf):
  Calls Tryz.prog 31 #[actV (.slice ka kn kc) a] w fun e w'=>e=.returned (.int .i64 a.at7)∧Q w w':=by
 have hp:=fun (W:World)=>Pick7_any a.at_ 72 W ha.at_.1 ha.at_.2 (by decide) (by decide)
 have hlt:=pickZ_lt a.at_ 72 (by decide)
 have HP:=Lib.hid hp
 have hq:=Q.alloc w (.cells #[.int .i64 a.op,.int .i64 a.at_,.int .i64 a.n,.slice ka kn kc,.int .u8 (a.byte.toNat:Nat)] 35)
 have HQ:=Lib.hid hq
 obtain⟨a0,a1⟩:=ha.at_
 clear hp hq ha
 unfold actV
 by_cases hz:a.at_.tmod 29=0
 ·have he:a.at7=a.at_:=by unfold Act7.at7;rw[if_pos hz]
  have hz2:(a.at_.tmod 29==0)=true:=by rw[hz];rfl
  rw[he]
  clear he
  generalize a.at_=x at *
  go_enter Tryz.func31,Tryz.ntmps31
  go_wp2_with fail
  go_ret
  exact⟨rfl,HQ.out⟩
 ·have he:a.at7=60+((pickZ a.at_ 72:Nat):Int):=by unfold Act7.at7;rw[if_neg hz]
  have hz2:(a.at_.tmod 29==0)=false:=by simpa using hz
  rw[he]
  clear he
  generalize pickZ a.at_ 72=y at *
  generalize a.at_=x at *
  go_enter Tryz.func31,Tryz.ntmps31
  go_wp2_with fail
  refine(HP.out _).mono ?_
  rintro e w1 ⟨rfl,rfl⟩
  go_wp2_with fail
  go_ret
  exact⟨rfl,HQ.out⟩
theorem Data7_any(ka:Option Addr)(kn kc:Nat)(a:Act7)(w:World)(ha:a.Wf):
  Calls Tryz.prog 32 #[actV (.slice ka kn kc) a] w fun e w'=>e=.returned (strV a.data)∧Q w w':=by
 have hp:=fun (W:World)=>Full_any a.byte W
 have HP:=Lib.hid hp
 have hq:=Q.alloc w (.cells #[.int .i64 a.op,.int .i64 a.at_,.int .i64 a.n,.slice ka kn kc,.int .u8 (a.byte.toNat:Nat)] 35)
 have HQ:=Lib.hid hq
 obtain⟨a0,a1⟩:=ha.n
 clear hp hq ha
 unfold actV
 by_cases hz:a.n.tmod 31=0
 ·have hz2:(a.n.tmod 31==0)=true:=by rw[hz];rfl
  by_cases h0:a.n=0
  ·have h02:(a.n==0)=true:=by rw[h0];rfl
   have he:a.data=fullL a.byte:=by unfold Act7.data;rw[if_neg (fun h=>h.2 h0)]
   rw[he]
   clear he
   generalize a.n=x at *
   subst h0
   clear hz hz2 h02
   go_enter Tryz.func32,Tryz.ntmps32
   go_wp2_with fail
   go_wp2_with fail
   refine(HP.out _).mono ?_
   rintro e w1 ⟨rfl,q1⟩
   go_wp2_with fail
   go_ret
   exact⟨rfl,Q.trans (by first|exact HQ.out|exact Qs.dr HQ.out) q1⟩
  ·have h02:(a.n==0)=false:=by simpa using h0
   have he:a.data=[120]:=by unfold Act7.data;rw[if_pos ⟨hz,h0⟩]
   rw[he]
   clear he
   generalize a.n=x at *
   go_enter Tryz.func32,Tryz.ntmps32
   go_wp2_with fail
   go_wp2_with fail
   go_ret
   exact⟨rfl,by first|exact HQ.out|exact Qs.dr HQ.out⟩
 ·have hz2:(a.n.tmod 31==0)=false:=by simpa using hz
  have he:a.data=fullL a.byte:=by unfold Act7.data;rw[if_neg (fun h=>hz h.1)]
  rw[he]
  clear he
  generalize a.n=x at *
  go_enter Tryz.func32,Tryz.ntmps32
  go_wp2_with fail
  go_wp2_with fail
  refine(HP.out _).mono ?_
  rintro e w1 ⟨rfl,q1⟩
  go_wp2_with fail
  go_ret
  exact⟨rfl,Q.trans (by first|exact HQ.out|exact Qs.dr HQ.out) q1⟩
theorem tinfoStrN:(Tryz.prog.info? 9).map (fun i=>(i.zero,i.size,i.bytes))=some (some (strV []),1,16):=by kernel_rfl
theorem str_app{B:Nat}{w:World}{ops:Array Oper}{o:Oper}{a:Act}{K:Act→World→Prop}{Qx:Exit→Act→World→Prop}{E:Prop}(hgd:o.guard=none)(s x:Operand)
  (ho:o.op=.call { callee:=.builtin .append,args:=#[s,x],argTypes:=#[47,47] })
  (v:Value) (n:Nat) (xs:List Bytes) (hs:a.eval s=v) (hown:w.ownsRow B 9 1 v n (xs.map strV)) (hB:B≤w.heap.size)
  (y:Bytes) (vx:Value) (hx:a.eval x=vx) (hl:Sl w vx 1 1 [strV y]) (hn:n≤1000000)
  (h:∀v' w',w'.ownsRow B 9 1 v' (n+1) ((xs++[y]).map strV)→w.grownBy w' v.ownBlock→K (a.put o.dst v') w') :
  if Region.wanted o (yielded ops a.tmps)=true then Oper.wp Tryz.prog o a w K Qx else E:=by
 obtain⟨i0,hi,hz0,hz1,hz2⟩:=info_parts tinfoStrN
 have hw:Region.wanted o (yielded ops a.tmps)=true:=by simp[Region.wanted,hgd]
 rw[if_pos hw]
 refine wp_append_sl w s x 47 ho B 9 i0 (strV []) 1 16 Tryz.underlying47 hi hz0 hz1 hz2 rfl (by decide) v n (xs.map strV) hs hown vx 1 [strV y] hx hl (by intro u hu;simp at hu;subst hu;rfl) (by unfold maxLen;omega) (by omega) hB ?_
 intro v' w' h2 h3 _
 exact h v' w' (by rw[List.map_append];exact h2) h3
theorem RNew_any(w:World)(n:Nat)(h1:1≤n)(h2:n≤4096):
  Calls Tryz.prog 28 #[.int .i64 (n:Nat)] w fun e w'=>e=.returned (.tuple #[ptrV w.heap.size,.bool true])∧RDevAt w' (fun k=>w.heap.size≤k∧k<w'.heap.size) w.heap.size (DevL.new n)∧Q w w':=by
 have hn:=fun (W:World)=>RNoughts_any W
 have HN:=Lib.hid hn
 have e1:¬(n:Int)<1:=by omega
 have e2:¬(4096:Int)<(n:Int):=by omega
 have hb0:Blk (w.alloc (.cells #[.slice none 0 0,.slice none 0 0,.int .i64 (-1),.bool false] 51)) w.heap.size 51 #[.slice none 0 0,.slice none 0 0,.int .i64 (-1),.bool false]:=Blk.new w _ _
 have hq0:=Q.alloc w (.cells #[.slice none 0 0,.slice none 0 0,.int .i64 (-1),.bool false] 51)
 have HB0:=Lib.hid hb0;have HQ0:=Lib.hid hq0
 clear hn hb0 hq0
 go_enter Tryz.func28,Tryz.ntmps28
 go_wp2_with fail
 go_loopw [5] (fun v wr=>∃(k:Nat) (lv:Value),v=.int .i64 (k:Nat)∧k≤n∧Hid (Blk wr w.heap.size 51 #[lv,.slice none 0 0,.int .i64 (-1),.bool false])∧Hid (wr.ownsRow (w.heap.size+1) 9 1 lv k ((List.replicate k noughtsL).map strV))∧Hid (Q w wr)) (fun v _=>n-(intOf v).toNat)
 case atStart=>exact⟨0,.slice none 0 0,rfl,Nat.zero_le _,HB0,Lib.hid (World.ownsRow_nil _ _ _ _),HQ0⟩
 case round =>
  obtain⟨k,lv,rfl,hk,HB,HO,HQ⟩:=hrel
  by_cases hlt:k<n
  ·have hki:(k:Int)<(n:Int):=by omega
   obtain⟨c0,_⟩:=HB.out.c4
   have KK:=Lib.hid (Q.refl wr)
   obtain⟨la,lc,rfl,_⟩:=owns_value HO.out
   have hk6:k≤1000000:=by omega
   have HK6:=Lib.hid hk6
   clear hk6
   go_wp2_with fail
   go_region_law
    (first
     | (go_simp;go_at_call 71;with_reducible refine(HN.out _).mono ?_;rintro e w3 ⟨rfl,q3⟩;have s':Q wr w3:=Q.trans (by repeat (first|with_reducible exact KK.out|with_reducible apply Qs.dr|with_reducible apply Qs.al)) q3;clear KK;have KK:=Lib.hid s';have c0':=cellQ s' c0;have c0x:=cellQ (Q.alloc w3 (.cells #[strV noughtsL] 9)) c0';clear s' q3)
     | (refine str_app (B:=w.heap.size+1) (by rfl) _ _ (by rfl) (.slice la k lc) k (List.replicate k noughtsL) (by rfl) (ownsRow_below (ownsRow_below HO.out KK.out) (Q.alloc _ _)) (by have h1:=HB.out.lt;have h2:=KK.out.size;simp;omega) noughtsL (.slice (some ⟨w3.heap.size,0,none⟩) 1 1) (by rfl) (Sl.lit w3 #[strV noughtsL] 9 1 1 rfl) HK6.out ?_;intro v7 w7 h7 g7;obtain⟨a7,cap7,rfl,-⟩:=owns_value h7;have bx7:=blk_beside ((HB.out.stays KK.out).stays (Q.alloc _ _)) (ownsRow_below (ownsRow_below HO.out KK.out) (Q.alloc _ _)) g7 (by decide);have y0:=bx7.cell 0 _ rfl;have fz0:=bx7.frozen 0;have q7:Q w w7:=grown_below ((HQ.out.trans KK.out).trans (Q.alloc _ _)) (owns_low (base':=w.heap.size) (ownsRow_below (ownsRow_below HO.out KK.out) (Q.alloc _ _)) (Nat.le_succ _)) g7 (Nat.le_refl _) (Nat.le_trans HQ.out.size (Nat.le_trans KK.out.size (by simp)));have H7:=Lib.hid h7;have B7:=Lib.hid bx7;have Q7:=Lib.hid q7;clear h7 g7 bx7 q7))
   all_goals
    go_wp2_with fail
    go_roundw
    case rel =>
     refine⟨k+1,.slice a7 (k+1) cap7,by go_num,by omega,Lib.hid (B7.out.set 0 (.slice a7 (k+1) cap7)),?_,Lib.hid (Qs.st Q7.out _ _ (Nat.le_refl _))⟩
     have t:Turn (fun k=>k=w.heap.size) w7 (w7.setCell ⟨w.heap.size,0,none⟩ (.slice a7 (k+1) cap7)):=Turn.setCell (a:=⟨w.heap.size,0,none⟩) (Turn.refl (fun k=>k=w.heap.size) w7) (.inl rfl) _
     have hr:=H7.out
     rw[show List.replicate k noughtsL++[noughtsL]=List.replicate (k+1) noughtsL from List.replicate_succ'.symm] at hr
     exact Lib.hid (t.owns hr (fun g e=>by have:=(hr.lt g e).1;omega))
    case measure=>simp[intOf];omega
  ·have hki:¬(k:Int)<(n:Int):=by omega
   obtain rfl:k=n:=by omega
   go_wp2_with fail
   go_ret2
   refine⟨rfl,⟨lv,.slice none 0 0,⟨HB.out,⟨Nat.le_refl _,HB.out.lt⟩,?_,fun g e=>?_,⟨rfl,.inl ⟨rfl,rfl⟩⟩,fun k e=>by simp[Value.ownBlock] at e⟩⟩,HQ.out⟩
   ·show wr.ownsRow 0 9 1 lv (List.replicate k noughtsL).length ((List.replicate k noughtsL).map strV)
    rw[List.length_replicate]
    exact owns_low HO.out (Nat.zero_le _)
   ·have:=HO.out.lt g e
    exact⟨by omega,this.2⟩
theorem run_app_strN{P:Program}(W:World)(base:Nat)(t u ty e:TypeId)(i:TypeInfo)(ht:P.underlying t=some (.slice e))(hu:P.underlying u=some .string)(hi:P.info? e=some i)(hz:i.zero=some (.int .u8 0))
  (hsize:i.size=1) (hby:i.bytes=1) (v:Value) (n:Nat) (xs:List Value) (hown:W.ownsRow base e 1 v n xs) (s:ByteArray) (hbytes:n+s.size≤140737488355328) (hbase:base≤W.heap.size) :
  ∃v' w',(Builtin.append_ #[t,u] ty #[v,.string s]).run P W=.ok v' w'∧w'.ownsRow base e 1 v' (n+s.size) (xs++Lib.strCells s)∧W.grownBy w' v.ownBlock∧(v'.ownBlock=v.ownBlock∨∃g,v'.ownBlock=some g∧W.heap.size≤g):=by
 obtain⟨v',w',hr,ho,hg,hn⟩:=Lib.run_append_own_string (P:=P) W base t u ty e i ht hu hi hz hsize hby v n xs hown s (by unfold maxLen;omega) hbytes hbase
 refine⟨v',w',hr,ho,hg,?_⟩
 rcases hown.2 with ⟨rfl,rfl⟩|⟨g,cap,cur,rfl,hbg,hgg,hnc,hcm,hcs,htake⟩
 ·obtain⟨v2,w2,hr2,ho2,_⟩:=Lib.run_append_own_string (P:=P) W W.heap.size t u ty e i ht hu hi hz hsize hby (.slice none 0 0) 0 [] (World.ownsRow_nil _ _ _ _) s (by unfold maxLen;omega) hbytes (Nat.le_refl _)
  rw[hr] at hr2
  simp only[Result.ok.injEq] at hr2
  obtain⟨rfl,rfl⟩:=hr2
  cases hk:v'.ownBlock with
  | none=>exact Or.inl rfl
  | some g=>exact Or.inr ⟨g,rfl,(ho2.lt g hk).1⟩
 ·by_cases hroom:n+s.size≤cap
  ·have h2:=Lib.run_append_room_string (P:=P) W t u ty e i ht hu hi hsize g n cap cur hgg s hroom (by omega)
   rw[hr] at h2
   simp only[Result.ok.injEq] at h2
   rw[h2.1];exact Or.inl rfl
  ·have holds:∀j x,xs[j]?=some x→W.cell? ((⟨g,0,none⟩:Addr).add j)=some x:=hown.cells (g:=g) rfl
   have h2:=Lib.run_append_grow_string (P:=P) W t u ty e i (.int .u8 0) ht hu hi hz ⟨g,0,none⟩ n cap xs (by rw[hsize];exact hown.1) holds s (by omega) (by omega) (by rw[hby];exact growslice_fits (by omega) (by omega))
   rw[hr] at h2
   simp only[Result.ok.injEq] at h2
   rw[h2.1];exact Or.inr ⟨_,rfl,Nat.le_refl _⟩
theorem wpList_app_strN{P:Program}(W:World){ops:Array Oper}{rest:List Oper}{o:Oper}{a:Act}{Q:Exit→Act→World→Prop}(hgd:o.guard=none)(sl x:Operand)(t u:TypeId)
  (ho:o.op=.call { callee:=.builtin .append,args:=#[sl,x],argTypes:=#[t,u] })
  (base:Nat) (e:TypeId) (i:TypeInfo) (ht:P.underlying t=some (.slice e)) (hu:P.underlying u=some .string) (hi:P.info? e=some i) (hz:i.zero=some (.int .u8 0)) (hsize:i.size=1) (hby:i.bytes=1)
  (v:Value) (n:Nat) (xs:List Value) (hs:a.eval sl=v) (hown:W.ownsRow base e 1 v n xs) (s:ByteArray) (hx:a.eval x=.string s) (hbytes:n+s.size≤140737488355328) (hbase:base≤W.heap.size)
  (h:∀v' w',w'.ownsRow base e 1 v' (n+s.size) (xs++Lib.strCells s)→W.grownBy w' v.ownBlock→(v'.ownBlock=v.ownBlock∨∃g,v'.ownBlock=some g∧W.heap.size≤g)→wpList P ops Q rest (a.put o.dst v') w'):wpList P ops Q (o::rest) a W:=by
 obtain⟨v',w',hr,h2,h3,h4⟩:=run_app_strN (P:=P) W base t u o.type e i ht hu hi hz hsize hby v n xs hown s hbytes hbase
 refine wpList_plain hgd fun _ hK=>?_
 unfold Oper.wp execOp
 simp only[ho,resolve,invoke,builtin,Sem.run_bind,Sem.run_pure,Result.andThen_ok,List.map_toArray,List.map_cons,List.map_nil,hs,hx,hr]
 exact hK _ _ (h v' w' h2 h3 h4)
abbrev byteVs(l:Bytes):List Value:=Lib.byteCells l
def Bld(w:World)(B b:Nat)(r:Option Nat)(l:Bytes):Prop :=
 B≤b∧∃p v,w.heap[b]?=some (.cells #[p,v] 172 (0,0))∧(p=.pointer none∨p=.pointer (some ⟨b,0,none⟩))∧w.ownsRowF B 5 1 v l.length (byteVs l)∧v.ownBlock=r∧r≠some b∧(l=[]→r=none)
structure Step2 (w w':World) (b:Nat) (r:Option Nat):Prop where
 os:w'.os=w.os
 tape:w'.tape=w.tape
 output:w'.output=w.output
 size:w.heap.size≤w'.heap.size
 block:∀k,k<w.heap.size→k≠b→some k≠r→w'.heap[k]?=w.heap[k]?
theorem Step2.refl(w:World)(b:Nat)(r:Option Nat):Step2 w w b r:=⟨rfl,rfl,rfl,Nat.le_refl _,fun _ _ _ _=>rfl⟩
theorem Step2.below{w w':World}{b:Nat}{r:Option Nat}{B:Nat}(h:Step2 w w' b r)(hb:B≤b)(hr:∀k,r=some k→B≤k)(hB:B≤w.heap.size):Below B w w' :=
 ⟨h.os,h.tape,h.output,h.size,fun k hk=>h.block k (by omega) (by omega) (fun e=>by have:=hr k e.symm;omega)⟩
theorem Bld.lt{w:World}{B b:Nat}{r:Option Nat}{l:Bytes}(h:Bld w B b r l):b<w.heap.size:=by
 obtain⟨_,p,v,hb,_⟩:=h
 exact(Array.getElem?_eq_some_iff.1 hb).1
theorem Bld.row{w:World}{B b:Nat}{r:Option Nat}{l:Bytes}(h:Bld w B b r l):∀k,r=some k→B≤k∧k<w.heap.size:=by
 obtain⟨_,p,v,hb,_,ho,hr,_,_⟩:=h
 intro k hk
 exact ho.lt k (hr.trans hk)
theorem Bld.below{w w':World}{B b:Nat}{r:Option Nat}{l:Bytes}(h:Bld w B b r l)(hs:Step2 w w' b r)(hB:B≤w.heap.size):Below B w w' :=
 hs.below h.1 (fun k hk=>(h.row k hk).1) hB
theorem Bld.stays{w w':World}{B b:Nat}{r:Option Nat}{l:Bytes}(h:Bld w B b r l)(hb:w'.heap[b]?=w.heap[b]?)(hr:∀k,r=some k→w'.heap[k]?=w.heap[k]?)(hsz:w.heap.size≤w'.heap.size):Bld w' B b r l:=by
 obtain⟨h1,p,v,h2,h3,ho,h4,h5⟩:=h
 refine⟨h1,p,v,hb.trans h2,h3,⟨ho.1,?_⟩,h4,h5⟩
 rcases ho.2 with hn|⟨g,cap,cur,fz,rfl,hbg,hg,rest⟩
 ·exact .inl hn
 ·exact .inr ⟨g,cap,cur,fz,rfl,hbg,(hr g (by rw[←h4];rfl)).trans hg,rest⟩
theorem Bld.alloc{w:World}{B b:Nat}{r:Option Nat}{l:Bytes}(h:Bld w B b r l)(o:Obj):Bld (w.alloc o) B b r l :=
 h.stays (Below.heap_alloc _ _ _ h.lt) (fun k hk=>Below.heap_alloc _ _ _ (h.row k hk).2) (by simp)
theorem Bld.step{w w':World}{B b b2:Nat}{r r2:Option Nat}{l:Bytes}(h:Bld w B b r l)(hs:Step2 w w' b2 r2)(h1:b≠b2)(h2:some b≠r2)(h3:r≠some b2)(h4:r=none∨r≠r2):Bld w' B b r l :=
 h.stays (hs.block b h.lt h1 h2) (fun k hk=>hs.block k (h.row k hk).2 (fun e=>h3 (by rw[hk,e])) (fun e=>by
  rcases h4 with h4|h4
  ·rw[h4] at hk;cases hk
  ·exact h4 (hk.trans e))) hs.size
theorem Bld.new(w:World)(B:Nat)(hB:B≤w.heap.size):Bld (w.alloc (.cells #[.pointer none,.slice none 0 0] 172)) B w.heap.size none [] :=
 ⟨hB,_,_,heap_alloc_new w _,.inl rfl,World.ownsRowF_nil _ _ _ _,rfl,by simp,fun _=>rfl⟩
theorem sizeBuilder:(Tryz.prog.info? 172).map (·.size)=some 2:=by kernel_rfl
theorem liesBuilder:liesAt Tryz.prog Tryz.prog.depth 172 (2 / Tryz.prog.cellsOf 172) 0 172 1=true:=by kernel_rfl
theorem infoByte:(Tryz.prog.info? 5).map (fun i=>(i.zero,i.size,i.bytes))=some (some (.int .u8 0),1,1):=by kernel_rfl
theorem byteVs_append(a b:Bytes):byteVs (a++b)=byteVs a++byteVs b:=by simp[byteVs,Lib.byteCells]
theorem strCells_bytes(l:Bytes):Lib.strCells ⟨l.toArray⟩=byteVs l:=by simp[Lib.strCells,byteVs,Lib.byteCells]
theorem row_string{w:World}{base:Nat}{v:Value}{l:Bytes}(h:w.ownsRow base 5 1 v l.length (byteVs l)):
  (convert 103 9 v).run Tryz.prog w=.ok (strV l) w:=by
 obtain⟨a,cap,rfl,hg⟩:=owns_value h
 by_cases hl:l=[]
 ·subst hl
  rcases h.2 with ⟨hv,_⟩|⟨g,c,cur,hv,_⟩
  ·cases hv
   show(convert 103 9 (.slice none 0 0)).run Tryz.prog w=_
   rw[run_convert_bytes_string w 103 9 5 none 0 0 Tryz.underlying103 Tryz.underlying5 Tryz.underlying9]
   rfl
  ·cases hv
   exact run_convert_bytes_back (P:=Tryz.prog) w 103 9 5 ⟨g,0,none⟩ cap [] Tryz.underlying103 Tryz.underlying5 Tryz.underlying9 (fun j hj=>by simp at hj)
 ·obtain⟨g,rfl⟩:=hg (List.length_pos_iff.2 hl)
  refine run_convert_bytes_back (P:=Tryz.prog) w 103 9 5 ⟨g,0,none⟩ cap l Tryz.underlying103 Tryz.underlying5 Tryz.underlying9 (fun j hj=>?_)
  rw[add_off,Nat.zero_add,h.cellAt j (by omega)]
  simp[byteVs,Lib.byteCells,hj]
theorem RDevG.dcell{w:World}{F:Nat→Prop}{b g n lc:Nat}{pv:Value}{d:DevL}(h:RDevG w F b (.slice (some ⟨g,0,none⟩) n lc) pv d)(hn:d.l.length=n)(i:Nat)(hi:i<d.l.length):w.cell? ⟨g,i,none⟩=some (strV (d.l.getD i []))∧w.frozen? ⟨g,i,none⟩=false:=by
 subst hn
 obtain⟨la,lc',e,hc⟩:=h.lcells
 obtain⟨g2,rfl,h1,h2⟩:=hc i hi
 simp only[Value.slice.injEq,Option.some.injEq,Addr.mk.injEq] at e
 obtain⟨⟨rfl,_,_⟩,_,_⟩:=e
 refine⟨?_,h2⟩
 rw[h1,List.getD_eq_getElem?_getD,List.getElem?_eq_getElem hi];rfl
theorem RDevG.lay2{w:World}{F:Nat→Prop}{b g n lc:Nat}{pv:Value}{d:DevL}(h:RDevG w F b (.slice (some ⟨g,0,none⟩) n lc) pv d)(hn:d.l.length=n)(i:Nat)(s:Bytes):RDevG (w.setCell ⟨g,i,none⟩ (strV s)) F b (.slice (some ⟨g,0,none⟩) n lc) pv { d with l:=d.l.set i s }∧Turn F w (w.setCell ⟨g,i,none⟩ (strV s)):=by
 subst hn
 exact h.lay i s
theorem RCrash_any(w:World)(F:Nat→Prop)(b:Nat)(d:DevL)(kv:Value)(kl:List Bool)(torn cut:Int)(h:RDevAt w F b d)(hd:d.Ok)(hk:SlO w F kv kl.length 1 (kl.map .bool))(hp:d.p.length≤1000000)(hkl:kl.length≤1000000):
  Calls Tryz.prog 44 #[ptrV b,kv,.int .i64 torn,.int .i64 cut] w fun e w'=>e=.returned (.tuple #[])∧RDevAt w' F b (d.crash kl torn cut)∧Turn F w w':=by
 obtain⟨lv,pv,h⟩:=h
 have hpos:=hd.pos
 obtain⟨la,cap,rfl,hla⟩:=h.lcells
 obtain⟨g,rfl,_,_⟩:=hla 0 (by omega)
 clear hla
 obtain⟨c0,c1,c2,c3,f0,f1,f2,f3⟩:=h.box.c4
 obtain⟨pa,pc,rfl,hpc⟩:=h.pcells
 obtain⟨ka,kc,rfl,hkc⟩:=bools_at hk
 have hl0:∀k,k≤d.p.length→(DevL.crashL kl torn (DevL.cutN cut) 0 d.l (d.p.take k)).length=d.l.length:=fun k _=>DevL.crashL_length _ _ _ _ _ _
 have hla:∀k,k≤d.p.length→∀s∈DevL.crashL kl torn (DevL.cutN cut) 0 d.l (d.p.take k),s.length=256:=fun k _=>DevL.crashL_all _ _ _ (DevL.cutN_le cut) _ _ _ hd.l (fun w hw=>hd.p w (List.mem_of_mem_take hw))
 have hpk:∀k (hk:k<d.p.length),d.p[k].1<d.l.length∧d.p[k].2.length=256:=fun k hk=>hd.p _ (List.getElem_mem hk)
 have hmax:=hd.max
 have hcr:d.crash kl torn cut=⟨DevL.crashL kl torn (DevL.cutN cut) 0 d.l d.p,[],-1,false⟩:=rfl
 have hstep:=crashL_step kl torn (DevL.cutN cut) d.l d.p
 rw[hcr]
 have HG:=Lib.hid h;have HL0:=Lib.hid hl0;have HLA:=Lib.hid hla;have HPK:=Lib.hid hpk;have HPC:=Lib.hid hpc;have HKC:=Lib.hid hkc;have HST:=Lib.hid hstep
 clear h hl0 hla hpk hpc hkc hk hd hcr hstep
 obtain⟨c,hcc,hcn⟩:∃c:Nat,((cut<0∧c=0)∨(cut=(c:Int)∧c≤256)∨(256<cut∧c=256))∧DevL.cutN cut=c:=⟨DevL.cutN cut,by unfold DevL.cutN;omega,rfl⟩
 rw[hcn] at HST HL0 HLA ⊢
 generalize hcl:DevL.crashL kl torn c 0 d.l=cl at *
 clear hcn
 rcases hcc with ⟨hcut,rfl⟩|⟨rfl,hc⟩|⟨hcut,rfl⟩
 all_goals
  try have hci:¬(c:Int)<0:=by omega
  try have hcj:¬(256:Int)<(c:Int):=by omega
  go_enter Tryz.func44,Tryz.ntmps44
  go_wp2_with fail
  go_loopw [9] (fun v wr=>∃k:Nat,v=.int .i64 (k:Nat)∧k≤d.p.length∧Hid (RDevG wr F b (.slice (some ⟨g,0,none⟩) d.l.length cap) (.slice pa d.p.length pc) { d with l:=cl (d.p.take k) })∧Hid (Turn F w wr)) (fun v _=>d.p.length-(intOf v).toNat)
  case atStart=>exact⟨0,rfl,Nat.zero_le _,by rw[←hcl];exact HG.out,Turn.refl _ _⟩
  case round =>
   obtain⟨k,rfl,hk2,HG2,HT2⟩:=hrel
   by_cases hlt:k<d.p.length
   ·have hki:(k:Int)<(d.p.length:Int):=by omega
    obtain⟨d0,d1,_⟩:=HG2.out.box.c4
    obtain⟨pa',pc',hpv,hcc⟩:=HG2.out.pcells
    simp only[Value.slice.injEq] at hpv
    obtain⟨rfl,_,rfl⟩:=hpv
    obtain⟨g2,rfl,x1,x2⟩:=hcc k hlt
    obtain⟨hin,hdl⟩:=HPK.out k hlt
    have hll:=HL0.out k hk2
    have hini:((d.p[k].1:Nat):Int)<(d.l.length:Int):=by omega
    have hini0:(0:Int)≤((d.p[k].1:Nat):Int):=by omega
    have hol:((cl (d.p.take k)).getD d.p[k].1 []).length=256:=DevL.getD_mem_length (HLA.out k hk2) (by rw[hll];exact hin)
    have z0:wr.cell? ⟨b,0,none⟩=some (.slice (some ⟨g,0,none⟩) d.l.length cap):=d0
    have hqa:=Q.alloc wr (.cells #[.int .i64 (d.p[k].1:Nat),strV d.p[k].2] 102)
    obtain⟨m0,m1,_⟩:=(Blk.new wr 102 #[.int .i64 (d.p[k].1:Nat),strV d.p[k].2]).c2
    have hg3:=HG2.out.keep hqa
    have z1:=cell_stays hqa z0
    obtain⟨y3,y4⟩:=hg3.dcell hll d.p[k].1 (by rw[hll];exact hin)
    have hstep:=HST.out k hlt
    unfold DevL.crash1 at hstep
    have HLL:=Lib.hid hll;have HSTP:=Lib.hid hstep;have HG3:=Lib.hid hg3;have HT3:=Lib.hid (HT2.out.q hqa)
    have hkk:∀(hkl2:k<kl.length),∃kb ko,ka=some ⟨kb,ko,none⟩∧(wr.alloc (.cells #[.int .i64 (d.p[k].1:Nat),strV d.p[k].2] 102)).cell? ⟨kb,ko+k,none⟩=some (.bool kl[k]):=fun hkl2=>by
     obtain⟨kb,ko,h1,h2,h3,h4⟩:=HKC.out k hkl2
     exact⟨kb,ko,h1,HT3.out.cell h4 h3⟩
    clear hstep hcc d0 hg3 hqa c0 c1 c2 c3 f0 f1 f2 f3
    generalize hbk:d.p[k].1=bk at *
    generalize hdk:d.p[k].2=dk at *
    generalize hold:(cl (d.p.take k)).getD bk []=old at *
    have hcase:kl.getD k false=true∨kl.getD k false=false:=by cases kl.getD k false<;>simp
    have hlen:∀hkl2:k<kl.length,kl.getD k false=kl[k]:=fun hkl2=>by rw[List.getD_eq_getElem?_getD,List.getElem?_eq_getElem hkl2];rfl
    have hlen2:¬k<kl.length→kl.getD k false=false:=fun hkl2=>by rw[List.getD_eq_getElem?_getD,List.getElem?_eq_none (by omega)];rfl
    have hkt:k<kl.length→(k:Int)<(kl.length:Int):=fun h=>by omega
    have hkf:¬k<kl.length→¬(k:Int)<(kl.length:Int):=fun h=>by omega
    by_cases hkl2:k<kl.length
    ·obtain⟨kb,ko,rfl,k0⟩:=hkk hkl2
     have hki2:=hkt hkl2
     have hgd:=hlen hkl2
     clear hlen hlen2 hkt hkf hkk hcase
     cases hkv:kl[k] with
     | true =>
      rw[hkv] at k0 hgd
      have hfin:=HSTP.out
      rw[if_pos hgd] at hfin
      have HFIN:=Lib.hid hfin
      clear hfin hgd hkv HSTP
      go_wp2_with fail
      go_region
      all_goals
       go_wp2_with fail
       go_roundw
       case rel =>
        refine⟨k+1,by go_num,by omega,?_,?_⟩
        ·rw[HFIN.out]
         exact Lib.hid (((HG3.out.keep (by repeat (first|with_reducible exact Q.refl _|with_reducible apply Qs.dr|with_reducible refine Q.trans ?_ (Q.drewN _ _)))).lay2 HLL.out bk dk).1.keep (Q.drew _))
        ·exact Lib.hid ((HT3.out.q (by repeat (first|with_reducible exact Q.refl _|with_reducible apply Qs.dr|with_reducible refine Q.trans ?_ (Q.drewN _ _)))).trans ((((HG3.out.keep (by repeat (first|with_reducible exact Q.refl _|with_reducible apply Qs.dr|with_reducible refine Q.trans ?_ (Q.drewN _ _)))).lay2 HLL.out bk dk).2).q (Q.drew _)))
       case measure=>simp[intOf];omega
     | false =>
      rw[hkv] at k0 hgd
      have hfin:=HSTP.out
      rw[if_neg (by rw[hgd];decide)] at hfin
      have HFIN:=Lib.hid hfin
      clear hfin hgd hkv HSTP
      by_cases htn:(k:Int)=torn
      ·have htb:((k:Int)==torn)=true:=beq_iff_eq.2 htn
       have hfin:=HFIN.out
       rw[if_pos htn] at hfin
       clear HFIN
       have HFIN:=Lib.hid hfin
       clear hfin htn
       first|rw[val_0 dk old hdl hol] at HFIN|rw[val_256 dk old hdl hol] at HFIN|rw[val_c c hc dk old hdl hol] at HFIN
       go_wp2_with fail
       go_region
       all_goals
        go_wp2_with fail
        go_roundw
        case rel =>
         simp only[bytes_extract,bytes_append]
         refine⟨k+1,by go_num,by omega,?_,?_⟩
         ·rw[HFIN.out]
          exact Lib.hid (((HG3.out.keep (by repeat (first|with_reducible exact Q.refl _|with_reducible apply Qs.dr|with_reducible refine Q.trans ?_ (Q.drewN _ _)))).lay2 HLL.out bk _).1.keep (Q.drew _))
         ·exact Lib.hid ((HT3.out.q (by repeat (first|with_reducible exact Q.refl _|with_reducible apply Qs.dr|with_reducible refine Q.trans ?_ (Q.drewN _ _)))).trans ((((HG3.out.keep (by repeat (first|with_reducible exact Q.refl _|with_reducible apply Qs.dr|with_reducible refine Q.trans ?_ (Q.drewN _ _)))).lay2 HLL.out bk _).2).q (Q.drew _)))
        case measure=>simp[intOf];omega
      ·have htb:((k:Int)==torn)=false:=beq_eq_false_iff_ne.2 htn
       have hfin:=HFIN.out
       rw[if_neg htn] at hfin
       clear HFIN
       have HFIN:=Lib.hid hfin
       clear hfin htn
       go_wp2_with fail
       go_roundw
       case rel =>
        refine⟨k+1,by go_num,by omega,?_,?_⟩
        ·rw[HFIN.out]
         exact Lib.hid (HG3.out.keep (by repeat (first|with_reducible exact Q.refl _|with_reducible apply Qs.dr|with_reducible refine Q.trans ?_ (Q.drewN _ _))))
        ·exact Lib.hid (HT3.out.q (by repeat (first|with_reducible exact Q.refl _|with_reducible apply Qs.dr|with_reducible refine Q.trans ?_ (Q.drewN _ _))))
       case measure=>simp[intOf];omega
    ·have hki2:=hkf hkl2
     have hgd:=hlen2 hkl2
     clear hlen hlen2 hkt hkf hkk hcase
     have hfin:=HSTP.out
     rw[if_neg (by rw[hgd];decide)] at hfin
     have HFIN:=Lib.hid hfin
     clear hfin hgd HSTP
     by_cases htn:(k:Int)=torn
     ·have htb:((k:Int)==torn)=true:=beq_iff_eq.2 htn
      have hfin:=HFIN.out
      rw[if_pos htn] at hfin
      clear HFIN
      have HFIN:=Lib.hid hfin
      clear hfin htn
      first|rw[val_0 dk old hdl hol] at HFIN|rw[val_256 dk old hdl hol] at HFIN|rw[val_c c hc dk old hdl hol] at HFIN
      go_wp2_with fail
      go_region
      all_goals
       go_wp2_with fail
       go_roundw
       case rel =>
        simp only[bytes_extract,bytes_append]
        refine⟨k+1,by go_num,by omega,?_,?_⟩
        ·rw[HFIN.out]
         exact Lib.hid (((HG3.out.keep (by repeat (first|with_reducible exact Q.refl _|with_reducible apply Qs.dr|with_reducible refine Q.trans ?_ (Q.drewN _ _)))).lay2 HLL.out bk _).1.keep (Q.drew _))
        ·exact Lib.hid ((HT3.out.q (by repeat (first|with_reducible exact Q.refl _|with_reducible apply Qs.dr|with_reducible refine Q.trans ?_ (Q.drewN _ _)))).trans ((((HG3.out.keep (by repeat (first|with_reducible exact Q.refl _|with_reducible apply Qs.dr|with_reducible refine Q.trans ?_ (Q.drewN _ _)))).lay2 HLL.out bk _).2).q (Q.drew _)))
       case measure=>simp[intOf];omega
     ·have htb:((k:Int)==torn)=false:=beq_eq_false_iff_ne.2 htn
      have hfin:=HFIN.out
      rw[if_neg htn] at hfin
      clear HFIN
      have HFIN:=Lib.hid hfin
      clear hfin htn
      go_wp2_with fail
      go_roundw
      case rel =>
       refine⟨k+1,by go_num,by omega,?_,?_⟩
       ·rw[HFIN.out]
        exact Lib.hid (HG3.out.keep (by repeat (first|with_reducible exact Q.refl _|with_reducible apply Qs.dr|with_reducible refine Q.trans ?_ (Q.drewN _ _))))
       ·exact Lib.hid (HT3.out.q (by repeat (first|with_reducible exact Q.refl _|with_reducible apply Qs.dr|with_reducible refine Q.trans ?_ (Q.drewN _ _))))
      case measure=>simp[intOf];omega
   ·have hki:¬(k:Int)<(d.p.length:Int):=by omega
    have hkn:k=d.p.length:=by omega
    subst hkn
    have hg3:=HG2.out
    rw[List.take_length] at hg3
    have h1:=hg3.empty
    have h2:=h1.1.fuse (-1)
    have h3:=h2.1.dead false
    have HE:=Lib.hid (And.intro h3.1 (h1.2.trans (h2.2.trans h3.2)))
    obtain⟨d0,d1,d2,d3,e0,e1,e2,e3⟩:=hg3.box.c4
    obtain⟨s0,s1,s2,s3,u0,u1,u2,u3⟩:=h1.1.box.c4
    obtain⟨t0,t1,t2,t3,v0,v1,v2,v3⟩:=h2.1.box.c4
    clear h1 h2 h3 hg3
    go_wp2_with fail
    go_end0
    exact⟨rfl,⟨_,_,HE.out.1⟩,HT2.out.trans HE.out.2⟩
end
section
theorem begin_run{K:Nat}{σ:StL}{fr:List (List WrL)}{C:Nat→Bytes}(h:StInv K σ fr C)(ho:σ.open_=false):σ.begin=({ σ with open_:=true,was:=σ.map1 },0):=by
 unfold StL.begin
 rw[if_neg (by rw[live_state h,if_pos ho];simp)]
theorem alloc_closed{K:Nat}{σ:StL}{fr:List (List WrL)}{C:Nat→Bytes}(h:StInv K σ fr C)(ho:σ.open_=false)(c:Int):σ.alloc c=(σ,0,15):=by
 unfold StL.alloc
 rw[if_pos (by rw[live_state h,ho];decide),live_state h,ho];rfl
theorem commit_free_run{K:Nat}{σ:StL}{fr:List (List WrL)}{C:Nat→Bytes}(h:StInv K σ fr C)(hf:σ.j.d.Free)(ho:σ.open_=true)(hK:K+4<18446744073709551616):
  σ.commit.2=0∧(∃fr',StInv (K+2) σ.commit.1 fr' (updC C σ.tx))∧σ.commit.1.open_=false∧σ.commit.1.map1=σ.map1∧σ.commit.1.n=σ.n∧σ.commit.1.j.d.Free:=by
 have hfree:σ.commit.1.j.d.Free:=by
  unfold StL.commit
  split
  ·exact hf
  ·split
   ·exact hf
   ·split<;>exact JL.commit_free hf _
 rcases scommit_run h hK with ⟨e,i,o,_,m⟩|⟨_,_,o⟩|⟨_,_,_,_,_,x,_⟩
 ·exact⟨e,i,o,m,commit_n σ,hfree⟩
 ·rw[o] at ho;exact absurd ho (by decide)
 ·exact absurd hf x
def map7a:Bytes:=bits0 128
def map7b:Bytes:=setTo map7a 64 true 2
def map7c:Bytes:=setTo map7b 64 false 1
theorem shown_first{K:Nat}{σ:StL}{fr:List (List WrL)}{C:Nat→Bytes}(h:StInv K σ fr C)(hn:σ.n=128)(hm:σ.map1=map7a)(ho:σ.open_=false)(hf:σ.j.d.Free)(hK:K+10<18446744073709551616):
  ∃s1 s2 s3 s4:StL,∃fr' C',σ.alloc 2=(σ,0,15)∧σ.begin=(s1,0)∧s1.alloc 2=(s2,64,0)∧s2.write 64 (fullL 97)=(s3,0)∧s3.write 66 (fullL 97)=(s3,10)∧s3.commit=(s4,0) ∧
   StInv K s1 fr C∧StInv K s2 fr C∧StInv K s3 fr C∧StInv (K+2) s4 fr' C'∧s4.n=128∧s4.map1=map7b∧s4.open_=false∧s4.j.d.Free∧C' 64=fullL 97:=by
 have hfd:firstD 128=64:=by decide
 have ht:=h.closed ho
 have hb:=begin_run h ho
 have i1:=begin_inv h
 rw[hb] at i1
 have hal:fitN map7a 2 128=some 64:=by decide +kernel
 obtain⟨s1,hs1⟩:∃s1:StL,s1={ σ with open_:=true,was:=σ.map1 }:=⟨_,rfl⟩
 rw[←hs1] at hb i1
 simp only at i1
 have o1:s1.open_=true:=by rw[hs1]
 have t1:s1.tx=[]:=by rw[hs1];exact ht
 have m1:s1.map1=map7a:=by rw[hs1];exact hm
 have n1:s1.n=128:=by rw[hs1];exact hn
 have j1:s1.j=σ.j:=by rw[hs1]
 rcases fresh_alloc i1 o1 t1 2 (by decide) with ⟨a,x1,x2,x3,x4,x5,x6,x7,x8,x9,x10,x11⟩|x
 ·have ha:a=64:=by
   have e:(s1.alloc (2:Nat)).2.1=64:=by
    unfold StL.alloc
    rw[if_neg (by rw[live_state i1,if_pos o1];simp),if_neg (by omega),Int.toNat_natCast,m1,n1,hal]
    simp only[]
    obtain⟨z0,_⟩:=turn_ok i1 o1 (by rw[t1];decide) 64 2 true (by rw[n1,hfd];exact Nat.le_refl _) (by rw[n1];decide)
    rw[if_neg (by rw[z0];simp)];rfl
   rw[x1] at e
   simp only at e;omega
  subst ha
  obtain⟨s2,hs2⟩:∃s2,s2=(s1.alloc (2:Nat)).1:=⟨_,rfl⟩
  rw[←hs2] at x5 x6 x7 x8 x9 x11
  have n2:s2.n=128:=by unfold StL.n;rw[x9];exact n1
  rw[m1] at x5
  have e2:s1.alloc 2=(s2,64,0):=by
   rw[hs2];exact Prod.ext rfl x1
  obtain⟨y1,y2,y3,y4⟩:=fresh_write x6 x8 x7 64 (fullL 97) (fullL_len 97) (by rw[n2,hfd];exact Nat.le_refl _) (by rw[n2];decide) (by rw[x5];decide +kernel)
  obtain⟨s3,hs3⟩:∃s3:StL,s3={ s2 with tx:=touchL s2.tx [(64,fullL 97)] }:=⟨_,rfl⟩
  rw[←hs3] at y1 y2 y3
  have o3:s3.open_=true:=by rw[hs3];exact x8
  have m3:s3.map1=map7b:=by rw[hs3];exact x5
  have n3:s3.n=128:=by rw[hs3];exact n2
  have f3:s3.j.d.Free:=by rw[hs3];show s2.j.d.Free;rw[x9,j1];exact hf
  have hw:s3.write 66 (fullL 97)=(s3,10):=by
   unfold StL.write
   rw[if_neg (by rw[live_state y2,if_pos o3];simp),if_neg (by unfold StL.isData;rw[n3,hfd];decide),if_pos (by rw[m3];decide +kernel)]
  obtain⟨c1,⟨fr',c2⟩,c3,c4,c5,c6⟩:=commit_free_run y2 f3 o3 (by omega)
  refine⟨s1,s2,s3,s3.commit.1,fr',_,alloc_closed h ho 2,hb,e2,y1,hw,Prod.ext rfl c1,i1,x6,y2,c2,c5.trans n3,c4.trans m3,c3,c6,?_⟩
  have:=y2.get 64 (by decide) (by rw[n3];decide)
  rw[←this];exact y3
 ·exfalso
  have e:(s1.alloc (2:Nat)).2.2=9:=by rw[x]
  unfold StL.alloc at e
  rw[if_neg (by rw[live_state i1,if_pos o1];simp),if_neg (by omega),Int.toNat_natCast,m1,n1,hal] at e
  simp only[] at e
  obtain⟨z0,_⟩:=turn_ok i1 o1 (by rw[t1];decide) 64 2 true (by rw[n1,hfd];exact Nat.le_refl _) (by rw[n1];decide)
  rw[if_neg (by rw[z0];simp)] at e
  simp at e
theorem shown_second{K:Nat}{σ:StL}{fr:List (List WrL)}{C:Nat→Bytes}(h:StInv K σ fr C)(hn:σ.n=128)(hm:σ.map1=map7b)(ho:σ.open_=false)(hC:C 64=fullL 97):
  ∃s5 s6 s7:StL,σ.begin=(s5,0)∧s5.release 64 1=(s6,0)∧s6.alloc 64=(s6,0,9)∧s6.abort=s7∧StInv K s5 fr C∧StInv K s6 fr C∧StInv K s7 fr C∧s7.free=62∧s7.read 64=(fullL 97,0)∧usedR σ.map1 (firstD σ.n) σ.n=[(64,2)]:=by
 have hfd:firstD 128=64:=by decide
 have ht:=h.closed ho
 have hb:=begin_run h ho
 have i1:=begin_inv h
 rw[hb] at i1
 obtain⟨s1,hs1⟩:∃s1:StL,s1={ σ with open_:=true,was:=σ.map1 }:=⟨_,rfl⟩
 rw[←hs1] at hb i1
 simp only at i1
 have o1:s1.open_=true:=by rw[hs1]
 have t1:s1.tx=[]:=by rw[hs1];exact ht
 have m1:s1.map1=map7b:=by rw[hs1];exact hm
 have n1:s1.n=128:=by rw[hs1];exact hn
 have hbk:map7b=setTo map7c 64 true 1:=by decide +kernel
 obtain⟨r1,r2,r3,r4⟩:=fresh_release i1 o1 (by rw[t1];decide) map7c 64 1 (by decide) (by rw[n1,hfd];exact Nat.le_refl _) (by rw[n1];decide) (by rw[m1];exact hbk) (by rw[m1];decide +kernel) (fun j h1 h2=>by
  obtain rfl:j=64:=by omega
  decide +kernel)
 have ro:(s1.release ((64:Nat):Int) ((1:Nat):Int)).1.open_=true:=by
  have hz:¬s1.state true≠0:=by rw[live_state i1,if_pos o1];simp
  unfold StL.release
  split
  ·exact o1
  ·split
   ·exact o1
   ·split
    ·exact o1
    ·unfold StL.turn StL.touch
     split
     ·split<;>exact o1
     ·split<;>exact o1
 obtain⟨s6,hs6⟩:∃s6,s6=(s1.release ((64:Nat):Int) ((1:Nat):Int)).1:=⟨_,rfl⟩
 rw[←hs6] at r2 r3 r4 ro
 have n6:s6.n=128:=by unfold StL.n;rw[r4];exact n1
 have hno:fitN map7c 64 128=none:=by decide +kernel
 have e6:s6.alloc 64=(s6,0,9):=by
  unfold StL.alloc
  rw[if_neg (by rw[live_state r3,if_pos ro];simp),if_neg (by omega),r2,n6]
  rw[show(64:Int).toNat=64 from rfl,hno]
 have i7:=abort_inv r3
 have n7:s6.abort.n=128:=(abort_n s6).trans n6
 have hm7:s6.abort.map1=map7b:=by
  have:=i7.now
  rw[i7.closed (abort_open s6),n7] at this
  have h2:=h.now
  rw[ht,hm,hn] at h2
  rw[this];exact h2.symm
 refine⟨s1,s6,s6.abort,hb,Prod.ext (by rw[hs6];rfl) r1,e6,rfl,i1,r3,i7,?_,?_,?_⟩
 ·show cnt s6.abort.map1 s6.abort.n=62
  rw[hm7,n7];decide +kernel
 ·have:=abort_get r3 64 (by rw[n6,hfd];exact Nat.le_refl _) (by rw[n6];decide)
  rw[hC] at this
  exact this
 ·rw[hm,hn,hfd];decide +kernel
end
end Go.Proofs.YthcpkgfieoneeaaGreatDoor
