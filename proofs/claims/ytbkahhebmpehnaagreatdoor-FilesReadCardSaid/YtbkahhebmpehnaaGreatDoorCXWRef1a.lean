/- Joined: WRef1a to Ints9 -/
import Derived.Test.YtbkahhebmpehnaaGreatDoorCXWVar
set_option linter.all false
set_option maxRecDepth 100000
set_option maxHeartbeats 8000000
namespace Go.Proofs.YtbkahhebmpehnaaGreatDoor
open Go.Proofs.Tryz
section
open Go.RowKit
theorem se:(prog.info? 9).map (fun i=>(i.zero,i.size,i.bytes))=some (some (ah []),1,16):=by kernel_rfl
theorem Iv{B:Nat}{w:World}{ops:Array Oper}{o:Oper}{a:Act}{K:Act→World→Prop}{Qx:Exit→Act→World→Prop}{E:Prop}(pQ:o.guard=none)(s x:Operand)
  (ho:o.op=.call { callee:=.builtin .append,args:=#[s,x],argTypes:=#[101,101] })
  (v:Value) (n:Nat) (xs:List Bytes) (hs:a.eval s=v) (aF:w.ownsRow B 9 1 v n (xs.map ah)) (hB:B≤w.heap.size)
  (y:Bytes) (vx:Value) (hx:a.eval x=vx) (hl:Sl w vx 1 1 [ah y]) (hn:n≤1000000)
  (h:∀v' w',w'.ownsRow B 9 1 v' (n+1) ((xs++[y]).map ah)→w.grownBy w' v.ownBlock→K (a.put o.dst v') w') :
  if Region.wanted o (yielded ops a.tmps)=true then Oper.wp prog o a w K Qx else E:=by
 obtain⟨i0,hi,bY,bB,aW⟩:=info_parts se;have hw:Region.wanted o (yielded ops a.tmps)=true:=by simp[Region.wanted,pQ]
 rw[Φ hw];refine wZ w s x 101 ho B 9 i0 (ah []) 1 16 underlying101 hi bY bB aW rfl Z v n (xs.map ah) hs aF vx 1 [ah y] hx hl (by intro u hu;simp at hu;subst hu;rfl) (by unfold maxLen;omega) U hB ?_
 intro v' w' h2 h3 _;exact h v' w' (by rw[N5];exact h2) h3
theorem A4(w:World)(n:Nat)(h1:1≤n)(h2:n≤4096):
  Calls prog 25 #[.int .i64 (n:Nat)] w fun e w'=>e=.returned (.tuple #[au w.heap.size,.bool true])∧cn w' (fun k=>w.heap.size≤k∧k<w'.heap.size) w.heap.size (af.new n)∧Q w w':=by
 have hn:=fun (W:World)=>xB W
 have HN:=Hd hn;have e1:¬(n:Int)<1:=U;have e2:¬(4096:Int)<(n:Int):=U;have eH:Blk (w.alloc (.cells #[.slice none 0 0,.slice none 0 0,.int .i64 (-1),.bool false] 104)) w.heap.size 104 #[.slice none 0 0,.slice none 0 0,.int .i64 (-1),.bool false]:=Blk.new w _ _;have ji:=Q.alloc w (.cells #[.slice none 0 0,.slice none 0 0,.int .i64 (-1),.bool false] 104);have wG:=Hd eH;have mF:=Hd ji;clear hn eH ji;go_enter func25,ntmps25;go_wp2_with fail;go_loopw [5] (fun v wr=>∃(k:Nat) (lv:Value),v=.int .i64 (k:Nat)∧k≤n∧Hid (Blk wr w.heap.size 104 #[lv,.slice none 0 0,.int .i64 (-1),.bool false])∧Hid (wr.ownsRow (w.heap.size+1) 9 1 lv k ((List.replicate k ag).map ah))∧Hid (Q w wr)) (fun v _=>n-(intOf v).toNat)
 case atStart=>exact⟨0,.slice none 0 0,rfl,L0 _,wG,Hd (World.ownsRow_nil _ _ _ _),mF⟩
 case round =>
  obtain⟨k,lv,rfl,hk,HB,HO,HQ⟩:=hrel;by_cases ay:k<n
  ·have bq:(k:Int)<(n:Int):=U
   obtain⟨c0,_⟩:=HB.out.c4;have KK:=Hd (Q.refl wr);obtain⟨la,lc,rfl,_⟩:=aY HO.out;have hk6:k≤1000000:=U;have HK6:=Hd hk6;clear hk6;go_wp2_with fail;go_region_law
    (first
     | (go_simp;go_at_call 51;with_reducible refine(HN.out _).mono ?_;rintro e w3 ⟨rfl,q3⟩;have s':Q wr w3:=Q.trans ω q3;clear KK;have KK:=Hd s';have c0':=aI s' c0;have c0x:=aI (Q.alloc w3 (.cells #[ah ag] 9)) c0';clear s' q3)
     | (refine Iv (B:=w.heap.size+1) ρ _ _ ρ (.slice la k lc) k (List.replicate k ag) ρ (ownsRow_below (ownsRow_below HO.out KK.out) (Q.alloc _ _)) (by have h1:=HB.out.lt;have h2:=KK.out.size;simp;omega) ag (.slice (some ⟨w3.heap.size,0,none⟩) 1 1) ρ (Sl.lit w3 #[ah ag] 9 1 1 rfl) HK6.out ?_;intro v7 w7 h7 g7;obtain⟨a7,cap7,rfl,-⟩:=aY h7;have bx7:=oI ((HB.out.stays KK.out).stays (Q.alloc _ _)) (ownsRow_below (ownsRow_below HO.out KK.out) (Q.alloc _ _)) g7 Z;have y0:=bx7.cell 0 _ rfl;have fz0:=bx7.frozen 0;have q7:Q w w7:=bD ((HQ.out.trans KK.out).trans (Q.alloc _ _)) (gT (base':=w.heap.size) (ownsRow_below (ownsRow_below HO.out KK.out) (Q.alloc _ _)) (ab6 _)) g7 (Ω _) (LS HQ.out.size (LS KK.out.size κ));have H7:=Hd h7;have B7:=Hd bx7;have Q7:=Hd q7;clear h7 g7 bx7 q7))
   all_goals
    go_wp2_with fail;go_roundw;case rel =>
     refine⟨k+1,.slice a7 (k+1) cap7,by go_num,U,Hd (B7.out.set 0 (.slice a7 (k+1) cap7)),?_,Hd (Qs.st Q7.out _ _ (Ω _))⟩
     have t:ae (fun k=>k=w.heap.size) w7 (w7.setCell ⟨w.heap.size,0,none⟩ (.slice a7 (k+1) cap7)):=ae.setCell (a:=⟨w.heap.size,0,none⟩) (ae.refl (fun k=>k=w.heap.size) w7) (.inl rfl) _
     have hr:=H7.out;rw[show List.replicate k ag++[ag]=List.replicate (k+1) ag from List.replicate_succ'.symm] at hr
     exact Hd (t.owns hr (fun g e=>by have:=(hr.lt g e).1;omega))
    case measure=>simp[intOf];omega
  ·have bq:¬(k:Int)<(n:Int):=U
   obtain rfl:k=n:=U;go_wp2_with fail;go_ret2;refine⟨rfl,⟨lv,.slice none 0 0,⟨HB.out,⟨Ω _,HB.out.lt⟩,?_,fun g e=>?_,⟨rfl,.inl ⟨rfl,rfl⟩⟩,fun k e=>by simp[Value.ownBlock] at e⟩⟩,HQ.out⟩
   ·show wr.ownsRow 0 9 1 lv (List.replicate k ag).length ((List.replicate k ag).map ah)
    rw[Nx];exact gT HO.out (L0 _)
   ·have:=HO.out.lt g e
    exact⟨U,this.2⟩
def Ints9(w:World)(v:Value)(l:List Int):Prop:=Sl w v l.length 1 (l.map (.int .i64))
theorem Ints9.value{w:World}{v:Value}{l:List Int}(h:Ints9 w v l):∃a cap,v=.slice a l.length cap∧(0<l.length→∃b off,a=some ⟨b,off,none⟩∧∀k (hk:k<l.length),w.cell? ⟨b,off+k,none⟩=some (.int .i64 l[k])):=by
 obtain⟨_,a,cap,rfl,hc⟩:=h;refine⟨a,cap,rfl,fun hn=>?_⟩
 obtain⟨b,off,rfl,hd⟩:=hc hn;exact⟨b,off,rfl,fun k hk=>hd _ _ (by rw[SR,LN hk];rfl)⟩
end
end Go.Proofs.YtbkahhebmpehnaaGreatDoor
