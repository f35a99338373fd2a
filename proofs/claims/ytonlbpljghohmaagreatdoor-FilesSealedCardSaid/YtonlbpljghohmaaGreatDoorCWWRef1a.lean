/- Joined: WRef1a to Sld9 -/
import Derived.Test.YtonlbpljghohmaaGreatDoorCWActs9
set_option linter.all false
set_option maxRecDepth 100000
set_option maxHeartbeats 8000000
namespace Go.Proofs.YtonlbpljghohmaaGreatDoor
open Tryz
section
open Go.RowKit
theorem qt:(prog.info? 9).map (fun i=>(i.zero,i.size,i.bytes))=some (some (ah []),1,16):=by kernel_rfl
theorem GF{B:Nat}{w:World}{ops:Array Oper}{o:Oper}{a:Act}{K:Act→World→Prop}{Qx:Exit→Act→World→Prop}{E:Prop}(pQ:o.guard=none)(s x:Operand)
  (ho:o.op=.call { callee:=.builtin .append,args:=#[s,x],argTypes:=#[64,64] })
  (v:Value) (n:Nat) (xs:List Bytes) (hs:a.eval s=v) (aF:w.ownsRow B 9 1 v n (xs.map ah)) (hB:B≤w.heap.size)
  (y:Bytes) (vx:Value) (hx:a.eval x=vx) (hl:Sl w vx 1 1 [ah y]) (hn:n≤1000000)
  (h:∀v' w',w'.ownsRow B 9 1 v' (n+1) ((xs++[y]).map ah)→w.grownBy w' v.ownBlock→K (a.put o.dst v') w') :
  if Region.wanted o (yielded ops a.tmps)=true then Oper.wp prog o a w K Qx else E:=by
 obtain⟨i0,hi,bY,bB,aW⟩:=info_parts qt;have hw:Region.wanted o (yielded ops a.tmps)=true:=by simp[Region.wanted,pQ]
 rw[Φ hw];refine wZ w s x 64 ho B 9 i0 (ah []) 1 16 underlying64 hi bY bB aW rfl Z v n (xs.map ah) hs aF vx 1 [ah y] hx hl (by intro u hu;simp at hu;subst hu;rfl) (by unfold maxLen;omega) U hB ?_
 intro v' w' h2 h3 _;exact h v' w' (by rw[Pu];exact h2) h3
theorem AH(w:World)(n:Nat)(h1:1≤n)(h2:n≤4096):
  Calls prog 39 #[.int .i64 (n:Nat)] w fun e w'=>e=.returned (.tuple #[au w.heap.size,.bool true])∧cq w' (fun k=>w.heap.size≤k∧k<w'.heap.size) w.heap.size (af.new n)∧Q w w':=by
 have hn:=fun (W:World)=>xB W
 have HN:=Hd hn;have e1:¬(n:Int)<1:=U;have e2:¬(4096:Int)<(n:Int):=U;have eH:Blk (w.alloc (.cells #[.slice none 0 0,.slice none 0 0,.int .i64 (-1),.bool false] 68)) w.heap.size 68 #[.slice none 0 0,.slice none 0 0,.int .i64 (-1),.bool false]:=Blk.new w _ _;have ji:=Q.alloc w (.cells #[.slice none 0 0,.slice none 0 0,.int .i64 (-1),.bool false] 68);have wG:=Hd eH;have mF:=Hd ji;clear hn eH ji;go_enter func39,ntmps39;go_wp2_with fail;go_loopw [5] (fun v wr=>∃(k:Nat) (lv:Value),v=.int .i64 (k:Nat)∧k≤n∧Hid (Blk wr w.heap.size 68 #[lv,.slice none 0 0,.int .i64 (-1),.bool false])∧Hid (wr.ownsRow (w.heap.size+1) 9 1 lv k ((List.replicate k ag).map ah))∧Hid (Q w wr)) (fun v _=>n-(intOf v).toNat)
 case atStart=>exact⟨0,.slice none 0 0,rfl,MD _,wG,Hd (World.ownsRow_nil _ _ _ _),mF⟩
 case round =>
  obtain⟨k,lv,rfl,hk,HB,HO,HQ⟩:=hrel;by_cases ay:k<n
  ·have bq:(k:Int)<(n:Int):=U
   obtain⟨c0,_⟩:=HB.out.c4;have KK:=Hd (Q.refl wr);obtain⟨la,lc,rfl,_⟩:=aY HO.out;have hk6:k≤1000000:=U;have HK6:=Hd hk6;clear hk6;go_wp2_with fail;go_region_law
    (first
     | (go_simp;go_at_call 80;with_reducible refine(HN.out _).mono ?_;rintro e w3 ⟨rfl,q3⟩;have s':Q wr w3:=Q.trans ω q3;clear KK;have KK:=Hd s';have c0':=aI s' c0;have c0x:=aI (Q.alloc w3 (.cells #[ah ag] 9)) c0';clear s' q3)
     | (refine GF (B:=w.heap.size+1) ρ _ _ ρ (.slice la k lc) k (List.replicate k ag) ρ (ownsRow_below (ownsRow_below HO.out KK.out) (Q.alloc _ _)) (by have h1:=HB.out.lt;have h2:=KK.out.size;simp;omega) ag (.slice (some ⟨w3.heap.size,0,none⟩) 1 1) ρ (Sl.lit w3 #[ah ag] 9 1 1 rfl) HK6.out ?_;intro v7 w7 h7 g7;obtain⟨a7,cap7,rfl,-⟩:=aY h7;have bx7:=oI ((HB.out.stays KK.out).stays (Q.alloc _ _)) (ownsRow_below (ownsRow_below HO.out KK.out) (Q.alloc _ _)) g7 Z;have y0:=bx7.cell 0 _ rfl;have fz0:=bx7.frozen 0;have q7:Q w w7:=bD ((HQ.out.trans KK.out).trans (Q.alloc _ _)) (gT (base':=w.heap.size) (ownsRow_below (ownsRow_below HO.out KK.out) (Q.alloc _ _)) (ab3 _)) g7 (Ω _) (My HQ.out.size (My KK.out.size κ));have H7:=Hd h7;have B7:=Hd bx7;have Q7:=Hd q7;clear h7 g7 bx7 q7))
   all_goals
    go_wp2_with fail;go_roundw;case rel =>
     refine⟨k+1,.slice a7 (k+1) cap7,by go_num,U,Hd (B7.out.set 0 (.slice a7 (k+1) cap7)),?_,Hd (Qs.st Q7.out _ _ (Ω _))⟩
     have t:ae (fun k=>k=w.heap.size) w7 (w7.setCell ⟨w.heap.size,0,none⟩ (.slice a7 (k+1) cap7)):=ae.setCell (a:=⟨w.heap.size,0,none⟩) (ae.refl (fun k=>k=w.heap.size) w7) (.inl rfl) _
     have hr:=H7.out;rw[show List.replicate k ag++[ag]=List.replicate (k+1) ag from List.replicate_succ'.symm] at hr
     exact Hd (t.owns hr (fun g e=>by have:=(hr.lt g e).1;omega))
    case measure=>simp[intOf];omega
  ·have bq:¬(k:Int)<(n:Int):=U
   obtain rfl:k=n:=U;go_wp2_with fail;go_ret2;refine⟨rfl,⟨lv,.slice none 0 0,⟨HB.out,⟨Ω _,HB.out.lt⟩,?_,fun g e=>?_,⟨rfl,.inl ⟨rfl,rfl⟩⟩,fun k e=>by simp[Value.ownBlock] at e⟩⟩,HQ.out⟩
   ·show wr.ownsRow 0 9 1 lv (List.replicate k ag).length ((List.replicate k ag).map ah)
    rw[Of];exact gT HO.out (MD _)
   ·have:=HO.out.lt g e
    exact⟨U,this.2⟩
end
section
theorem Kx:iM jF=true:=Z
theorem tW(t:Bytes)(ht:t.length≤6000)(hr:cB t.length≤64):∃s1 s2 s3:FsL,∃C1 C2 C3,cW 1 140 (st9 140) C1∧cW 2 140 s1 C2∧(st9 140).create jF=(s1,0)∧eR 2 140 s1 C2 jF false []∧s1.append jF t=(s2,0)∧eR 3 140 s2 C3 jF false t:=by
 have lK:ak 140=64:=Z;obtain⟨C0,h0⟩:=nF 140 Z Z;obtain⟨a0,C1,h1⟩:=h0.create (s:=jF) Z Kx;obtain⟨a2,C2,h2⟩:=h1.append Z t ht (by rw[lK];omega)
 exact⟨_,_,st9 140,C0,C1,C2,h0.1,h1.1,wC a0,h1,wC a2,h2⟩
theorem Rx(t:Bytes)(ht:t.length≤3000):∃s1 s2 s3:FsL,∃C0 C1 C2 C3,cW 1 140 (st9 140) C0∧cW 2 140 s1 C1∧cW 3 140 s2 C2∧cW 4 140 s3 C3∧(st9 140).create jF=(s1,0)∧s1.append jF t=(s2,0)∧s2.fW jF=(s3,0)∧Has jF true t s3 C3:=by
 obtain⟨s1,s2,_,C0,C1,C2,g0,g1,a0,h1,a1,h2⟩:=tW t U (by unfold cB;omega)
 obtain⟨a2,C3,h3⟩:=h2.seal Z;exact⟨s1,s2,_,C0,C1,C2,C3,g0,h1.1,h2.1,h3.1,a0,a1,wC a2,h3.has⟩
def gg(k:Nat)(φ:FsL)(t:Bytes):Prop:=∃C,cW (k+4) 140 φ C∧Has jF true t φ C
section
variable {k:Nat} {φ:FsL} {t:Bytes}
theorem gg.step(h:gg k φ t)(kW:k≤1000)(a:cJ)(hk:a.k<9)(hn:¬(7≤a.k∧(a.name=jF∨a.tO=jF))):gg (k+1) (fJ a φ).1 t∧(1≤a.k→a.k≤4→a.name=jF→(fJ a φ).2=13):=by
 obtain⟨C,hg,hh⟩:=h;obtain⟨D,h1,h2,_⟩:=hg.cx U a hk;refine⟨⟨D,by rw[show k+1+4=k+4+1 by omega];exact h1,hh.seal h2 hn⟩,fun h3 h4 h5=>?_⟩
 have e:fJ a φ=φ.append a.name a.data:=by unfold fJ;rw[η U,η U,η U,η U,η U]
 rw[e,h5,hh.j8 hg]
theorem gg.more(h:gg k φ t):gg (k+1) φ t:=by
 obtain⟨C,hg,hh⟩:=h;exact⟨C,by rw[show k+1+4=k+4+1 by omega];exact hg.more,hh⟩
theorem gg.read(h:gg k φ t)(ht:t.length≤3000):φ.d8 jF 0 1073741824=(t,0):=by
 obtain⟨C,hg,hh⟩:=h;rw[hh.read hg 0 1073741824 Z U Z];rw[show(0:Int).toNat=0 from rfl,SU,NE U]
theorem gg.err(h:gg k φ t)(d:Bytes):φ.append jF d=(φ,13):=by
 obtain⟨C,hg,hh⟩:=h;exact hh.j8 hg d
theorem gg.open(h:gg k φ t)(hk:k≤1000):gg (k+1) (ng φ.st.j.d φ.l) t:=by
 obtain⟨C,hg,hh⟩:=h;obtain⟨_,_,_,_,_,_,_,_,_,_,h1,_⟩:=DT hg U;exact⟨C,by rw[show k+1+4=k+4+1 by omega];exact h1,hh⟩
end
end
end Go.Proofs.YtonlbpljghohmaaGreatDoor
