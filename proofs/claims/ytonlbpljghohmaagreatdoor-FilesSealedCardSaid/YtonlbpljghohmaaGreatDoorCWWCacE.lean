/- Joined: WCacE to WBlkG -/
import Derived.Test.YtonlbpljghohmaaGreatDoorCWShelf
import Derived.Test.YtonlbpljghohmaaGreatDoorCWWBlkB
set_option linter.all false
set_option maxRecDepth 100000
set_option maxHeartbeats 8000000
namespace Go.Proofs.YtonlbpljghohmaaGreatDoor
open Tryz
section
open Go.RowKit
attribute [local go_sem] Oper.semAt_some
abbrev mB(m:List (Nat×Value)):List Nat:=m.map fun x=>x.1
theorem tj:(prog.info? 3).map (fun i=>(i.zero,i.size,i.bytes))=some (some (.int .i64 0),1,8):=by kernel_rfl
theorem Pz(B mb:Nat)(m:List (Nat×Value))(w:World)(hb:Boxed w B 251 (.map (some mb)))(hm:de w mb m)(hlen:m.length≤1000000):
  Calls prog 314 #[.slice none 0 0,.func (.func 291) #[] #[.pointer (some ⟨B,0,none⟩)]] w fun e w' =>
   ∃(v:Value) (ks:List Nat),e=.returned v∧ks.Perm (m.map (·.1))∧w'.ownsRow w.heap.size 3 1 v ks.length (ks.map dX)∧Q w w':=by
 obtain⟨i0,hi,bY,bB,aW⟩:=info_parts tj;refine(callsIn_wide (n:=0)).1 ?_;refine callsIn_of_wp_marks func314 rfl trivial ?_ rfl;simp only[ntmps314,UI,Mu,OF,Nat.reduceAdd,Nat.reduceSub,abB,abC,ab2,abN,Pr,PC];gi_wp2_with fail;have hB0:Below w.heap.size w (w.alloc (.cells #[.slice none 0 0] 59)):=(Below.refl _ w).alloc (Ω _) _;have bP:(w.alloc (.cells #[.slice none 0 0] 59)).heap.size=w.heap.size+1:=κ;have b0:Boxed (w.alloc (.cells #[.slice none 0 0] 59)) w.heap.size 59 (.slice none 0 0):=Boxed.new w _ _;have Yt:=aJ hb;have acT:=hm.lt;obtain⟨W0,hW0⟩:∃W0,w.alloc (.cells #[.slice none 0 0] 59)=W0:=⟨_,rfl⟩;rw[hW0] at hB0 bP b0 ⊢;clear hW0;refine Ns (gf:=291) (lb:=#[.pointer (some ⟨B,0,none⟩)]) rfl (enters_of func291 (by kernel_rfl) rfl) (step:=oE (mB m)) (fin':=fun ks=>ks.Perm (mB m)) (s0:=[]) (own:=fun _=>False) (keep:=fun k=>k=B∨k=mb) (n₀:=w.heap.size)
  (fun W1 hq hz=>Fl B mb w.heap.size m W1 ((fun hx=>(hq.block _ (aJ hx)).trans hx) ((hB0.block B Yt).trans hb)) (hm.same ((hq.block mb U).trans (hB0.block mb acT))) U)
  (fun _ h=>h.elim) (fun k h=>U) U (fun ks W args ks2 h=>by obtain⟨k,_,_,rfl,_⟩:=h;rfl)
  (fun ks W=>(∃v,Boxed W w.heap.size 59 v∧W.ownsRow w.heap.size 3 1 v ks.length (ks.map dX)∧(∀g,v.ownBlock=some g→w.heap.size+3≤g))∧Below w.heap.size w W∧ks.Nodup∧(∀k∈ks,k∈mB m))
  (fun _ _ _=>False)
  (fun (ks ks2:List Nat) (a':Act) (_:World)=>∃k:Nat,k∈mB m∧k∉ks∧ks2=ks++[k]∧a'={ tmps:=#[.slice none 0 0,.func (.func 291) #[] #[.pointer (some ⟨B,0,none⟩)],.pointer (some ⟨w.heap.size,0,none⟩),undef,.slice none 0 0,dX k,.func (.func 291) #[] #[.pointer (some ⟨B,0,none⟩)],dX k,undef,undef,undef,undef,undef],defers:=[] })
  (fun ks A B' hI hi=>by
   obtain⟨⟨v,h0,ho,hg⟩,hb,h3⟩:=hI;exact⟨⟨v,hi.boxed h0 (fun h=>h),hi.owns ho (fun g e h=>h),hg⟩,hi.below hb U hb.size (fun _ h=>h.elim),h3⟩)
  (fun _ _ _ _ h _=>h) (fun _ _ _ _ _ h _=>h) ⟨⟨_,b0,World.ownsRow_nil _ _ _ _,by simp[Value.ownBlock]⟩,hB0,κ,κ⟩ ?assign ?body ?done ?stop
 case assign =>
  rintro l ks ks2 W args K zq ⟨k,hk,Jv,rfl,rfl⟩ hz hK;gi_wp2;exact hK _ _ (Q.refl _) zq ⟨k,hk,Jv,rfl,rfl⟩
 case body =>
  rintro l ks ks2 a' W ⟨⟨rc,hrc⟩,RU⟩ hl ⟨⟨v,h0,ho,hg⟩,bN,lU,mq⟩ ⟨k,hk,Jv,rfl,rfl⟩ mP hz;subst hl;have hsW:=bN.size;have zB:ks.length≤m.length:=by
   have:=acB lU (l₂:=m.map (·.1)) (fun k hk=>mq k hk)
   simpa using this
  have c0:=h0.cell;have f0:=h0.frozen;have RV:(ks++[k]).Nodup:=R0.2 ⟨lU,κ,fun a ha b hb=>by simp at hb;subst hb;exact fun e=>Jv (e▸ha)⟩
  have abn:∀x∈ks++[k],x∈m.map (·.1):=fun x hx=>by
   rcases No.1 hx with hx|hx
   ·exact mq x hx
   ·simp at hx;subst hx;exact hk
  have H0:=Hd h0;have HO:=Hd ho;have Vz:=Hd hg;have HB:=Hd bN;have HN:=Hd RV;have HS:=Hd abn;clear h0 ho hg bN lU mq RV abn RU hrc hk Jv;have fP:w.heap.size≤W.heap.size:=hsW;gi_wp2_with (gi_at_builtin;go_must (refine Py W ρ _ _ 59 ρ w.heap.size 3 _ i0 (.int .i64 0) 1 8 underlying59 hi bY bB aW rfl Z Z _ _ _ ρ HO.out 1 Z #[dX k] ρ rfl ?c1 ?c2 fP ?_));case c1=>simp[Value.oneCell']
  case c2=>omega
  intro g cp w4 Cq lV pU Kn amr;have xQ:some w.heap.size≠v.ownBlock:=H0.out.not_row Z HO.out;have hge:w.heap.size+3≤g:=by
   rcases pU with h|h
   ·exact Vz.out g h
   ·omega
  have b04:Boxed w4 w.heap.size 59 v:=H0.out.kept lV xQ;have sN:=HB.out.grown lV fP (fun j hj=>by have:=Vz.out j hj;omega)
  have ajR:∀j,((j=B∨j=mb)∨j=W0.heap.size∨j=W0.heap.size+1)→j<W.heap.size:=fun j hj=>U
  have kk4:Bk (fun b=>(b=B∨b=mb)∨b=W0.heap.size∨b=W0.heap.size+1) w.heap.size W w4 :=
   Bk.grown lV fP (fun j hj=>by
    have:=Vz.out j hj;obtain⟨cs,mQ⟩:=oH HO.out j hj;exact⟨U,fun hc=>U,cs,_,_,mQ⟩)
  have B04:=Hd b04;have O4:=Hd Cq;have VA:=Hd sN;have KK4:=Hd kk4;have c04:=b04.cell;have f04:=b04.frozen;clear b04 Cq sN kk4 lV pU c0 f0;gi_wp2_with fail;refine⟨KK4.out.trans (Bk.setCell _ κ (by simp;omega) _),⟨_,B04.out.set _,ownsRow_setCell_other (by rw[Δ,Pu];exact O4.out) (by simp[Value.ownBlock];omega) _,fun j e=>by simp[Value.ownBlock] at e;omega⟩,VA.out.setCell κ _,HN.out,HS.out⟩
 case done =>
  rintro D ks W hD _ hp ⟨⟨v,h0,ho,hg⟩,bN,lU,mq⟩ hK;have c0:=h0.cell;have HO:=Hd ho;have HK:=Hd hK;have HB:=Hd bN;have HP:=Hd hp;clear ho hK bN h0 lU mq hp;gi_wp2_with fail;refine⟨κ,.inl ⟨_,_,rfl,run_takeDeferred HK.out,?_⟩⟩;exact⟨_,results_tmp rfl _ _ _,v,ks,rfl,HP.out,ownsRow_putObj HO.out _ HK.out rfl,HB.out.trans (Bk.put (own:=fun _=>False) (n₀:=w.heap.size) _ HK.out rfl U (fun h=>h)).below⟩
 case stop =>
  rintro D c k W _ h _;exact h.elim
end
section
open Go.RowKit
theorem yM(w:World):Calls prog 246 #[] w fun e w'=>e=.returned (ah ag)∧Q w w':=by
 have h:=Tryz.strings_Repeat_main ⟨#[0]⟩ 256 w Z Z Z Z;have he:(Lib.repeatL [(0:UInt8)] 256)=ag:=by decide +kernel
 have HE:=Hd he;have H:=Hd h;clear he h;go_enter func246,ntmps246;go_wp2_with fail;refine H.out.mono ?_;rintro e w1 ⟨rfl,hq⟩;have HQ:=Hd hq;clear hq;rw[HE.out];go_wp2_with fail;go_ret;exact⟨rfl,HQ.out⟩
theorem NI(w:World)(p b:Nat)(j:JL)(hb:Blk w p 177 (jd b j))(hl:j.s.log≤1000000):
  Calls prog 104 #[au p] w fun e w'=>e=.returned (.int .i64 (j.home:Nat))∧w=w':=by
 obtain⟨c0,c1,c2,c3,_⟩:=hb.c8;have hh:((j.home:Nat):Int)=2+(j.s.log:Int):=by unfold JL.home;omega
 rw[hh];clear hb hh;go_enter func104,ntmps104;go_wp2;go_ret;exact⟨rfl,rfl⟩
theorem vZ(w:World)(p b:Nat)(j:JL)(n:Nat)(hb:Blk w p 177 (jd b j))(hl:0<j.s.log)(fF:j.s.log≤1000000)(hp:j.s.place≤1000000)(hu:j.used≤1000000)(hn:n≤1000000):
  Calls prog 247 #[au p,.int .i64 (n:Nat)] w fun e w'=>e=.returned (.int .i64 (j.place n:Nat))∧Q w w':=by
 obtain⟨c0,c1,c2,c3,c4,c5,c6,c7⟩:=hb.c8;have hh:((j.place n:Nat):Int)=2+(((j.s.place:Int)+(j.used:Int)+(n:Int))%(j.s.log:Int)):=by unfold JL.place cS;rw[←P0];simp only[abf,aah];rfl
 rw[hh];have nL:¬(j.s.log:Int)=0:=U;have Yw:((j.s.place:Int)+(j.used:Int)+(n:Int))%(j.s.log:Int)<(j.s.log:Int):=aem _ U;have afG:0≤((j.s.place:Int)+(j.used:Int)+(n:Int))%(j.s.log:Int):=Int.emod_nonneg _ U;clear hb hh;go_enter func247,ntmps247;go_wp2_with fail;go_quiet (fail);go_wp2_with fail;go_ret;exact⟨rfl,Q.drewN _ _⟩
theorem NJ(w:World)(F:Nat→Prop)(p b:Nat)(j:JL)(i:Int)(hb:Blk w p 177 (jd b j))(hd:cE w F b j.d)(hl:j.s.log≤1000000):
  Calls prog 261 #[au p,.int .i64 i] w fun e w'=>e=.returned (.bool (decide ((j.home:Int)≤i)&&decide (i<j.d.l.length)))∧w=w':=by
 have h1:=NI w p b j hb hl;have h2:=oL w F b j.d hd;obtain⟨c0,c1,c2,c3,_⟩:=hb.c8;generalize j.home=hm at *;generalize j.d.l.length=n at *;have H1:=Hd h1;have H2:=Hd h2;clear h1 h2 hb hd;by_cases hi:(hm:Int)≤i
 ·have hb1:decide ((hm:Int)≤i)=true:=NO hi
  rw[hb1,ab6];go_enter func261,ntmps261;go_wp2_with fail;refine H1.out.mono ?_;rintro e w1 ⟨rfl,rfl⟩;go_wp2_with fail;refine H2.out.mono ?_;rintro e w1 ⟨rfl,rfl⟩;go_wp2_with fail;go_ret;exact⟨rfl,rfl⟩
 ·have hb1:decide ((hm:Int)≤i)=false:=Nx hi
  rw[hb1,Bool.false_and];go_enter func261,ntmps261;go_wp2_with fail;refine H1.out.mono ?_;rintro e w1 ⟨rfl,rfl⟩;go_wp2_with fail;go_ret;exact⟨rfl,rfl⟩
theorem Di(w:World)(p b:Nat)(j:JL)(n:Nat)(hb:Blk w p 177 (jd b j))(hu:j.used≤1000000)(hn:n≤1000000)(hx:j.next<18446744073709551616):
  Calls prog 195 #[au p,.int .i64 (n:Nat)] w fun e w'=>e=.returned (.tuple #[])∧Blk w' p 177 (jd b (j.advance n))∧ae (fun k=>k=p) w w'∧w'.heap.size=w.heap.size:=by
 obtain⟨c0,c1,c2,c3,c4,c5,c6,c7⟩:=hb.c8;have hf:=fun i=>hb.frozen i
 have f6:=hf 6;have f7:=hf 7;have kE:=hb.set 7 (.int .i64 ((j.used:Int)+((n:Int)+1)));have d6:=kE.cell 6 (.int .u64 (j.next:Nat)) rfl;have g6:=kE.frozen 6;have Yx:=kE.set 6 (.int .u64 (((j.next+1)%18446744073709551616:Nat):Int));have he:((jd b j).setIfInBounds 7 (.int .i64 ((j.used:Int)+((n:Int)+1)))).setIfInBounds 6 (.int .u64 (((j.next+1)%18446744073709551616:Nat):Int))=jd b (j.advance n):=by
  unfold jd JL.advance;rw[show((j.used+n+1:Nat):Int)=(j.used:Int)+((n:Int)+1) by omega]
  rfl
 rw[he] at Yx;have ht:ae (fun k=>k=p) w ((w.setCell ⟨p,7,none⟩ (.int .i64 ((j.used:Int)+((n:Int)+1)))).setCell ⟨p,6,none⟩ (.int .u64 (((j.next+1)%18446744073709551616:Nat):Int))) :=
  ae.setCell (a:=⟨p,6,none⟩) (ae.setCell (a:=⟨p,7,none⟩) (ae.refl (fun k=>k=p) w) (.inl rfl) _) (.inl rfl) _
 have hz:((w.setCell ⟨p,7,none⟩ (.int .i64 ((j.used:Int)+((n:Int)+1)))).setCell ⟨p,6,none⟩ (.int .u64 (((j.next+1)%18446744073709551616:Nat):Int))).heap.size=w.heap.size:=by rw[bO,bO]
 have hw:IntKind.u64.wrap ((j.next:Int)+1)=(((j.next+1)%18446744073709551616:Nat):Int):=by simp[IntKind.wrap,IntKind.bits,IntKind.signed]
 have H:=Hd (And.intro Yx (And.intro ht hz));clear kE Yx he ht hz hf hb c0 c1 c2 c3 c4 c5;generalize (j.next+1)%18446744073709551616=nx at *;go_enter func195,ntmps195;have HW:=Hd hw;clear hw;go_wp2;go_end0;rw[HW.out];exact⟨rfl,H.out.1,H.out.2.1,H.out.2.2⟩
def yN(s:bw):Nat→Bytes
 | 0=>fS
 | 1=>fS++(aB s.e++aB (s.e / 4294967296))
 | _=>fS++(aB s.e++aB (s.e / 4294967296))++(aB s.s++aB (s.s / 4294967296))
def Iy(s:bw)(k:Nat):Nat:=if k=0 then s.e else s.s
theorem WU(s:bw)(k:Nat)(h:k<2):yN s (k+1)=yN s k++(aB (Iy s k%4294967296)++aB (Iy s k / 4294967296)):=by
 rw[uq];rcases (by omega:k=0∨k=1) with rfl|rfl<;>rfl
theorem tM(s:bw)(k:Nat):(yN s k).length≤20:=by
 unfold yN;split<;>simp[fS,aH]
theorem qu(s:bw):(yN s 2++(aB (s.log%4294967296)++aB (s.place%4294967296)))++bg 100=gN s:=by
 rw[uq,uq];simp only[yN,gN,MY]
theorem AR(s:bw)(hs:s.Ok)(w:World):
  Calls prog 259 #[.agg #[.int .u64 (s.e:Nat),.int .u64 (s.s:Nat),.int .i64 (s.log:Nat),.int .i64 (s.place:Nat)]] w fun e w'=>e=.returned (ah (aQ s))∧Q w w':=by
 have cf:=fun (v:Nat) (hv:v<4294967296) (W:World)=>vY v W hv
 have cr:=fun (W:World)=>Tryz.strings_Repeat_main ⟨#[0]⟩ 100 W Z Z Z Z
 have he:(Lib.repeatL [(0:UInt8)] 100)=bg 100:=by decide +kernel
 have aC:=WU s;have GX:=qu s;have h2:(yN s 2).length=20:=rfl;have CF:=Hd cf;have CR:=Hd cr;have HE:=Hd he;have aX:=Hd aC;have HEN:=Hd GX;have HS:=Hd hs;have qa:=(Q.alloc w (.cells #[.int .u64 (s.e:Nat),.int .u64 (s.s:Nat),.int .i64 (s.log:Nat),.int .i64 (s.place:Nat)] 175));clear cf cr he aC GX hs;go_enter func259,ntmps259;go_wp2_with fail;obtain⟨b0,b1,b2,b3,_⟩:=(Blk.new w 175 #[.int .u64 (s.e:Nat),.int .u64 (s.s:Nat),.int .i64 (s.log:Nat),.int .i64 (s.place:Nat)]).c4;generalize eO:w.alloc (.cells #[.int .u64 (s.e:Nat),.int .u64 (s.s:Nat),.int .i64 (s.log:Nat),.int .i64 (s.place:Nat)] 175)=w1 at *;have bB:w1.heap.size=w.heap.size+1:=by rw[←eO];simp
 have qb:=Q.alloc w1 (.cells #[.int .u64 (s.e:Nat),.int .u64 (s.s:Nat)] 134);obtain⟨a0,a1,_⟩:=(Blk.new w1 134 #[.int .u64 (s.e:Nat),.int .u64 (s.s:Nat)]).c2;rw[bB] at a0 a1;have b0':=aj qb b0;have b1':=aj qb b1;have b2':=aj qb b2;have b3':=aj qb b3;generalize gD:w1.alloc (.cells #[.int .u64 (s.e:Nat),.int .u64 (s.s:Nat)] 134)=w2 at *;have HQ:=Hd (qa.trans qb);clear qa qb b0 b1 b2 b3 eO gD;go_loopw [3,12] (fun tv v wr=>∃k:Nat,v=.int .i64 (k:Nat)∧k≤2∧tv=ah (yN s k)∧Hid (Q w2 wr)) (fun _ v _=>2-(intOf v).toNat)
 case atStart=>exact⟨0,rfl,U,rfl,Q.refl _⟩
 case round =>
  obtain⟨k,rfl,hk,rfl,bJ⟩:=hrel;by_cases ay:k<2
  ·have bq:(k:Int)<2:=U
   have zI:w2.cell? ⟨w.heap.size+1,k,none⟩=some (.int .u64 (Iy s k:Nat)):=by
    rcases (by omega:k=0∨k=1) with rfl|rfl
    ·exact a0
    ·exact a1
   have hv:Iy s k<18446744073709551616:=by
    unfold Iy;split
    ·exact HS.out.he
    ·exact HS.out.hs
   have d0:=aj bJ.out zI;have kU:=aX.out k ay;have Sd:=Hd kU;clear kU zI a0 a1;have ltk:=tM s k;generalize Iy s k=v at *;generalize yN s k=tk at *;have l1:(aB (v%4294967296)).length=4:=rfl;have l2:(aB (v / 4294967296)).length=4:=rfl;go_wp2_with fail;rw[show((v:Int)%4294967296)=((v%4294967296:Nat):Int) by omega]
   refine(CF.out _ U _).mono ?_;rintro e w3 ⟨rfl,q3⟩;have fu:=Hd (bJ.out.trans q3);clear q3;go_wp2_with fail;rw[show((v:Int) / 4294967296)=((v / 4294967296:Nat):Int) by omega]
   refine(CF.out _ U _).mono ?_;rintro e w4 ⟨rfl,q4⟩;have lH:=Hd (fu.out.trans q4);clear q4;go_wp2_with fail;go_roundw;case rel=>exact⟨k+1,by go_num,U,by rw[Sd.out];simp only[bytes_append],lH.out⟩
   case measure=>simp[intOf];omega
  ·have bq:¬(k:Int)<2:=U
   obtain rfl:k=2:=U;have e2:=aj bJ.out b2';have e3:=aj bJ.out b3';have hl:s.log<4294967296:=HS.out.cG;have hp:s.place<4294967296:=HS.out.eW;generalize yN s 2=tk at *;have bL:((tk++(aB s.log++aB s.place)).length:Int)=28:=by simp only[Δ,aH,h2];rfl
   have KQ:=Hd (Q.refl wr);clear a0 a1 b0' b1' b2' b3';rw[show s.log%4294967296=s.log by omega,show s.place%4294967296=s.place by omega] at HEN
   generalize s.log=lg at *;generalize s.place=pl at *;have l1:(aB lg).length=4:=rfl;have l2:(aB pl).length=4:=rfl;have D9:IntKind.u32.wrap (lg:Int)=(lg:Int):=by simp[IntKind.wrap,IntKind.bits,IntKind.signed];omega
   have L9:IntKind.u32.wrap (pl:Int)=(pl:Int):=by simp[IntKind.wrap,IntKind.bits,IntKind.signed];omega
   have cf1:=CF.out lg hl;have cf2:=CF.out pl hp;rw[←D9] at cf1;rw[←L9] at cf2;clear D9 L9;have CF1:=Hd cf1;have CF2:=Hd cf2;clear cf1 cf2;go_wp2_with fail;go_region_held3 (fun w'=>w'.cell? ⟨w.heap.size,2,none⟩=some (.int .i64 (lg:Nat))∧w'.cell? ⟨w.heap.size,3,none⟩=some (.int .i64 (pl:Nat)))
    (first|exact⟨e2,e3⟩|exact two ε e2 e3)
    (first
     | (go_at_call 118;with_reducible refine(CF1.out _).mono ?_;rintro e w3 ⟨rfl,q3⟩;have s':Q wr w3:=Q.trans ε q3;clear KQ;have KQ:=Hd s';clear s' q3)
     | (go_at_call 118;with_reducible refine(CF2.out _).mono ?_;rintro e w4 ⟨rfl,q4⟩;have s':Q wr w4:=Q.trans ε q4;clear KQ;have KQ:=Hd s';clear s' q4))
   all_goals
    have bX:(gN s).length=128:=nE s;have hze:(bg 100).length=100:=rfl;have amw:(tk++(aB lg++aB pl)).length=28:=U;simp only[bytes_append];generalize tk++(aB lg++aB pl)=tt at *;have HQ9:=Hd (HQ.out.trans (bJ.out.trans (show Q wr _ by repeat (first|with_reducible exact KQ.out|with_reducible apply Qs.dr|with_reducible apply Qs.al))))
    go_wp2_with fail;refine(CR.out _).mono ?_;rintro e w5 ⟨rfl,q5⟩;have jK:=Hd (HQ9.out.trans q5);clear q5;rw[HE.out];go_wp2_with fail;simp only[bytes_append];rw[HEN.out];go_wp2_with fail;go_ret;exact⟨by simp only[bytes_append];rfl,jK.out⟩
theorem af.mz(d:af):d.bu.1.p.length≤d.p.length:=by
 unfold af.bu;split
 ·exact Ω _
 ·split
  ·show d.bh.p.length≤_
   rw[(af.df d).2];exact Ω _
  ·exact MD _
theorem af.ki(d:af)(h:d.bu.1.dead=false):d.dead=false:=by
 cases hd:d.dead with
 | false=>rfl
 | true=>unfold af.bu at h;rw[Φ hd] at h;rw[←hd,h]
theorem af.Lt(d:af)(ws:List WrL):(d.lays ws).1.p.length≤d.p.length+ws.length:=by
 have h:=af.j7 ws d;unfold af.lays;split
 ·have:=af.mz (d.writes ws).1;omega
 ·exact h
theorem af.rf(d:af)(ws:List WrL)(h:(d.lays ws).1.dead=false):d.dead=false:=by
 unfold af.lays at h;split at h
 ·exact af.hS ws d (af.ki _ h)
 ·exact af.hS ws d h
theorem BU{w:World}{F:Nat→Prop}(x:WrL)(hF:¬F w.heap.size)(h1:x.1≤9223372036854775807)(h2:x.2.length≤9223372036854775807)(e:TypeId):eC (w.alloc (.cells #[.int .i64 (x.1:Nat),ah x.2] e)) F (.slice (some ⟨w.heap.size,0,none⟩) 1 1) [x]:=by
 refine⟨?_,fun y hy=>by rw[M3] at hy;subst hy;exact⟨h1,h2⟩⟩
 have:=SlO.lit (w:=w) (F:=F) #[.int .i64 (x.1:Nat),ah x.2] e 1 2 rfl hF;exact this
theorem eC.drew{w:World}{F:Nat→Prop}{v:Value}{ws:List WrL}(h:eC w F v ws):eC w.drew F v ws:=⟨⟨h.sl.1.stays (Q.drew _),h.sl.2⟩,h.num⟩
theorem cF.step{A B C:World}{F:Nat→Prop}{p b:Nat}{j:JL}{d:af}(hb:Blk A p 177 (jd b j))(q:Q A B)(t:ae (fun k=>F k∧k≠p) B C)(hd:cE C (grow (fun k=>F k∧k≠p) B C) b d)(ay:∀k,F k→k<A.heap.size)(hp:F p):
  cF C (grow F A C) p b { j with d:=d }∧ae F A C:=by
 have hs:=q.size;have jm:=t.size;refine⟨⟨t.blk (hb.stays q) (fun hc=>hc.2 rfl),.inl hp,hd.mono (fun k hk=>?_),fun k hk=>?_⟩,(ae.br q).trans (t.mono (fun k hk=>hk.1))⟩
 ·rcases hk with hk|hk
  ·exact .inl hk.1
  ·exact .inr ⟨U,hk.2⟩
 ·rcases hk with hk|hk
  ·have:=ay k hk;omega
  ·exact hk.2
theorem Qw(w:World)(F:Nat→Prop)(p b:Nat)(j:JL)(h:cF w F p b j)(hn:fR j):
  Calls prog 196 #[au p] w fun e w'=>e=.returned (.int .i64 j.cC.2)∧cF w' (grow F w w') p b j.cC.1∧ae F w w':=by
 have Bh:=h.box;have xJ:=h.dev.minus Bh;have ay:=h.lt;have LM:=h.fp;have bW:=vZ w p b j 0 Bh hn.log hn.log2 hn.place hn.used U;have ade:j.place 0≤2000000:=by have:=(gG j.s (j.used+0) hn.log).2;have:=hn.log2;unfold JL.place;omega
 have zJ:=Hd bW;have HN:=Hd hn;have cno:=fun (W:World)=>yM W
 have CNO:=Hd cno;have cl1:=fun (W:World) (hq:Q w W)=>yD (W.alloc (.cells #[.int .i64 (j.place 0:Nat),ah ag] 116)) (fun k=>F k∧k≠p) p b j _ [(j.place 0,ag)] ((Bh.stays hq).alloc _) ((xJ.keep hq).keep (Q.alloc _ _)) hn.ok (fun hx=>by have:=hn.eK hx;simp;omega) (BU (j.place 0,ag) (fun hc=>by have:=ay _ hc.1;have:=hq.size;omega) (by simp only;omega) (by rw[jk];omega) _) κ (fun hc=>hc.2 rfl)
 have CL1:=Hd cl1;have HB:=Hd Bh;have HD:=Hd xJ;have iI:=Hd ay;have LP:=Hd LM;have cO:j.d.lays [(j.place 0,ag)]=j.cM:=rfl;rw[cO] at CL1;have mg:j.cM.1.Ok:=af.dj hn.ok _;have Kq:=Hd mg;clear h hn bW cno cl1 Bh xJ ay LM cO mg;by_cases hz:j.cM.2=0
 ·have hb:(j.cM.2==0)=true:=NX.2 hz
  have hwe:IntKind.u64.wrap ((j.s.e:Int)+1)=(((j.s.e+1)%18446744073709551616:Nat):Int):=by simp[IntKind.wrap,IntKind.bits,IntKind.signed]
  have L9:IntKind.i64.wrap ((j.s.place:Int)+(j.used:Int))=((j.s.place+j.used:Nat):Int):=by have:=HN.out.place;have:=HN.out.used;rw[IntWalk.i64_in _ U];omega
  have uX:¬((j.s.log:Nat):Int)=0:=by have:=HN.out.log;omega
  have aii:¬j.s.log=0:=by have:=HN.out.log;omega
  have VF:(((j.s.place+j.used:Nat):Int)).tmod ((j.s.log:Nat):Int)=(((j.s.place+j.used)%j.s.log:Nat):Int):=ρ;have aas:IntKind.i64.wrap (((j.s.place+j.used)%j.s.log:Nat):Int)=(((j.s.place+j.used)%j.s.log:Nat):Int):=by have:=Tr (j.s.place+j.used) HN.out.log;have:=HN.out.log2;rw[IntWalk.i64_in _ U]
  generalize aij:j.place 0=pl0 at *;go_enter func196,ntmps196;go_wp2_with fail;refine zJ.out.mono ?_;rintro e w1 ⟨rfl,q1⟩;have dF:=Hd q1;clear q1;go_wp2_with fail;refine(CNO.out _).mono ?_;rintro e w2 ⟨rfl,q2⟩;have bJ:=Hd (dF.out.trans q2);clear q2;go_wp2_with fail;refine(CL1.out _ bJ.out).mono ?_;rintro e w3 ⟨rfl,h3,t3⟩;have aC:=cF.step HB.out (bJ.out.trans (Q.alloc _ _)) t3 h3 iI.out LP.out;obtain⟨c0,c1,c2,c3,c4,c5,c6,c7⟩:=aC.1.box.c8;have HE:=Hd aC;clear h3 t3 aC;go_wp2_with fail;go_region_held3 (fun w'=>w'.cell? ⟨p,1,none⟩=some (.int .u64 (j.s.e:Nat))∧w'.cell? ⟨p,3,none⟩=some (.int .i64 (j.s.log:Nat))∧w'.cell? ⟨p,4,none⟩=some (.int .i64 (j.s.place:Nat))∧w'.cell? ⟨p,6,none⟩=some (.int .u64 (j.next:Nat))∧w'.cell? ⟨p,7,none⟩=some (.int .i64 (j.used:Nat)))
   (first|exact⟨c1,c3,c4,c6,c7⟩|exact five (by repeat (first|with_reducible exact Q.refl _|with_reducible apply Qs.dr|with_reducible apply Qs.al|with_reducible refine Qs.st ?_ _ _ (Ω _))) c1 c3 c4 c6 c7)
   (fail)
  all_goals
   have he:(((j.s.e:Int)+1)%18446744073709551616)=((j.aE.e:Nat):Int):=by
    show(((j.s.e:Int)+1)%18446744073709551616)=(((j.s.e+1)%18446744073709551616:Nat):Int);omega
   have qH:(((j.s.place:Int)+(j.used:Int)).tmod (j.s.log:Int))=((j.aE.place:Nat):Int):=rfl;rw[he,qH];have cst:=fun (W:World)=>AR j.aE HN.out.py W
   have sI:j.aE.s=j.next:=rfl;have wI:j.aE.log=j.s.log:=rfl;rw[sI,wI] at cst;have Sg:=Hd cst;have VG:Q w3 ((w3.alloc (.cells #[.int .u64 (j.aE.e:Nat),.int .u64 (j.next:Nat),.int .i64 (j.s.log:Nat),.int .i64 (j.aE.place:Nat)] 175)).drew):=Qs.dr (Qs.al (Q.refl _) _);have sN:Blk ((w3.alloc (.cells #[.int .u64 (j.aE.e:Nat),.int .u64 (j.next:Nat),.int .i64 (j.s.log:Nat),.int .i64 (j.aE.place:Nat)] 175)).drew) w3.heap.size 175 #[.int .u64 (j.aE.e:Nat),.int .u64 (j.next:Nat),.int .i64 (j.s.log:Nat),.int .i64 (j.aE.place:Nat)]:=Blk.new w3 _ _;generalize hV:(w3.alloc (.cells #[.int .u64 (j.aE.e:Nat),.int .u64 (j.next:Nat),.int .i64 (j.s.log:Nat),.int .i64 (j.aE.place:Nat)] 175)).drew=w4 at *;clear hV cst sI wI he qH;have d5:=aj VG c5;obtain⟨s0,s1,s2,s3,_⟩:=sN.c4;have Cz:IntKind.i64.wrap (1-(j.k:Int))=((1-j.k:Nat):Int):=by have:=HN.out.k;rw[IntWalk.i64_in _ U];omega
   have cl2:=fun (V:World) (hq:Q w4 V) (lv:Value) (ha:eC V (fun k=>grow F w w3 k∧k≠p) lv [(1-j.k,aQ j.aE)])=>yD V (fun k=>grow F w w3 k∧k≠p) p b { j with d:=j.cM.1 } lv [(1-j.k,aQ j.aE)] (HE.out.1.box.stays (VG.trans hq)) ((HE.out.1.dev.minus HE.out.1.box).keep (VG.trans hq)) Kq.out (fun hx=>by
    have h1:=HN.out.eK (af.rf _ _ hx);have h2:=af.Lt j.d [(pl0,ag)];have h3:j.cM.1.p.length≤j.d.p.length+1:=by rw[←aij] at h2;exact h2
    show j.cM.1.p.length+1≤_;omega) ha κ (fun hc=>hc.2 rfl)
   have dI:({ j with d:=j.cM.1 }:JL).d.lays [(1-j.k,aQ j.aE)]=j.cT:=rfl;rw[dI] at cl2;have rT:=fun (V:World) (hq:Q w4 V)=>BU (w:=V) (F:=fun k=>grow F w w3 k∧k≠p) (1-j.k,aQ j.aE) (fun hc=>by have:=HE.out.1.lt _ hc.1;have:=VG.size;have:=hq.size;omega) (by simp only;omega) (by rw[gB];omega) 116
   have Zm:=Hd cl2;have zK:=Hd rT;have lH:=Hd VG;have VA:=Hd sN;have KK:=Hd (Q.refl w4);clear cl2 rT dI VG sN c0 c1 c2 c3 c4 c5 c6 c7 hwe L9 VF aas;generalize aQ j.aE=st at *;go_wp2_with fail;go_region_held3 (fun w'=>w'.cell? ⟨p,5,none⟩=some (.int .i64 (j.k:Nat))∧w'.cell? ⟨w3.heap.size,0,none⟩=some (.int .u64 (j.aE.e:Nat))∧w'.cell? ⟨w3.heap.size,1,none⟩=some (.int .u64 (j.next:Nat))∧w'.cell? ⟨w3.heap.size,2,none⟩=some (.int .i64 (j.s.log:Nat))∧w'.cell? ⟨w3.heap.size,3,none⟩=some (.int .i64 (j.aE.place:Nat)))
    (first|exact⟨g5,g0,g1,g2,g3⟩|exact⟨d5,s0,s1,s2,s3⟩|exact five ω d5 s0 s1 s2 s3)
    (first
     | (go_at_call 259;with_reducible refine(Sg.out _).mono ?_;rintro e w5 ⟨rfl,q5⟩;have s':Q w4 w5:=Q.trans ω q5;clear KK;have KK:=Hd s';clear s' q5)
     | (go_at_call 248;with_reducible refine(Zm.out _ (Qs.al KK.out _) _ (zK.out _ KK.out)).mono ?_;rintro e w6 ⟨rfl,h6,t6⟩;have g5:=t6.cell (aI (Qs.al KK.out _) d5) (fun hc=>absurd rfl hc.2);have pX:¬((fun k=>grow F w w3 k∧k≠p) w3.heap.size):=(fun hc=>by have:=HE.out.1.lt _ hc.1;omega);have g0:=t6.cell (aI (Qs.al KK.out _) s0) pX;have g1:=t6.cell (aI (Qs.al KK.out _) s1) pX;have g2:=t6.cell (aI (Qs.al KK.out _) s2) pX;have g3:=t6.cell (aI (Qs.al KK.out _) s3) pX;have Cn:=cF.step HE.out.1.box (lH.out.trans (Qs.al KK.out _)) t6 h6 HE.out.1.lt HE.out.1.fp;clear pX h6 t6;have RP:=Hd Cn;clear Cn))
   all_goals
    have Cn:=RP.out;have hT:=HE.out.2.step Cn.2;have hJ:cF w6 (grow F w w6) p b { j with d:=j.cT.1 }:=Cn.1.mono (fun k hk=>lZ HE.out.2.size Cn.2.size hk) (fun k hk=>hk.elim (fun hk=>by have:=iI.out k hk;have:=hT.size;omega) (fun hk=>hk.2))
    have HJ:=Hd hJ;have nW:=Hd hT;by_cases aW:j.cT.2=0
    ·have gL:j.cC=(⟨j.cT.1,j.aE,1-j.k,j.next,0⟩,0):=by unfold JL.cC;rw[η (by rw[hz];simp),η (by rw[aW];simp)]
     have Ea:=Hd gL;have bN:(j.cT.2==0)=true:=NX.2 aW;obtain⟨e0,e1,e2,e3,e4,e5,e6,e7⟩:=hJ.box.c8;have f1:=hJ.box.frozen 1;have f2:=hJ.box.frozen 2;have f3:=hJ.box.frozen 3;have f4:=hJ.box.frozen 4;have f5:=hJ.box.frozen 5;have f7:=hJ.box.frozen 7;clear Cn hT hJ gL RP d5 s0 s1 s2 s3;have bZ:Blk ((((((w6.setCell ⟨p,1,none⟩ (.int .u64 (j.aE.e:Nat))).setCell ⟨p,2,none⟩ (.int .u64 (j.next:Nat))).setCell ⟨p,3,none⟩ (.int .i64 (j.s.log:Nat))).setCell ⟨p,4,none⟩ (.int .i64 (j.aE.place:Nat))).setCell ⟨p,5,none⟩ (.int .i64 ((1-j.k:Nat):Int))).setCell ⟨p,7,none⟩ (.int .i64 0)) p 177 (jd b ⟨j.cT.1,j.aE,1-j.k,j.next,0⟩):=((((((HJ.out.box.set 1 (.int .u64 (j.aE.e:Nat))).set 2 (.int .u64 (j.next:Nat))).set 3 (.int .i64 (j.s.log:Nat))).set 4 (.int .i64 (j.aE.place:Nat))).set 5 (.int .i64 ((1-j.k:Nat):Int))).set 7 (.int .i64 0));have ht:ae (fun k=>k=p) w6 ((((((w6.setCell ⟨p,1,none⟩ (.int .u64 (j.aE.e:Nat))).setCell ⟨p,2,none⟩ (.int .u64 (j.next:Nat))).setCell ⟨p,3,none⟩ (.int .i64 (j.s.log:Nat))).setCell ⟨p,4,none⟩ (.int .i64 (j.aE.place:Nat))).setCell ⟨p,5,none⟩ (.int .i64 ((1-j.k:Nat):Int))).setCell ⟨p,7,none⟩ (.int .i64 0)):=(ae.setCell (a:=⟨p,7,none⟩) (ae.setCell (a:=⟨p,5,none⟩) (ae.setCell (a:=⟨p,4,none⟩) (ae.setCell (a:=⟨p,3,none⟩) (ae.setCell (a:=⟨p,2,none⟩) (ae.setCell (a:=⟨p,1,none⟩) (ae.refl (fun k=>k=p) w6) (.inl rfl) (.int .u64 (j.aE.e:Nat))) (.inl rfl) (.int .u64 (j.next:Nat))) (.inl rfl) (.int .i64 (j.s.log:Nat))) (.inl rfl) (.int .i64 (j.aE.place:Nat))) (.inl rfl) (.int .i64 ((1-j.k:Nat):Int))) (.inl rfl) (.int .i64 0))
     have bP:((((((w6.setCell ⟨p,1,none⟩ (.int .u64 (j.aE.e:Nat))).setCell ⟨p,2,none⟩ (.int .u64 (j.next:Nat))).setCell ⟨p,3,none⟩ (.int .i64 (j.s.log:Nat))).setCell ⟨p,4,none⟩ (.int .i64 (j.aE.place:Nat))).setCell ⟨p,5,none⟩ (.int .i64 ((1-j.k:Nat):Int))).setCell ⟨p,7,none⟩ (.int .i64 0)).heap.size=w6.heap.size:=by simp only[bO]
     have HV:=Hd (And.intro bZ (And.intro ht bP));clear bZ ht bP;go_wp2_with fail;go_region;all_goals
      generalize hV:((((((w6.setCell ⟨p,1,none⟩ (.int .u64 (j.aE.e:Nat))).setCell ⟨p,2,none⟩ (.int .u64 (j.next:Nat))).setCell ⟨p,3,none⟩ (.int .i64 (j.s.log:Nat))).setCell ⟨p,4,none⟩ (.int .i64 (j.aE.place:Nat))).setCell ⟨p,5,none⟩ (.int .i64 ((1-j.k:Nat):Int))).setCell ⟨p,7,none⟩ (.int .i64 0))=V at *;clear hV;go_wp2_with fail;go_ret;rw[Ea.out];obtain⟨bZ,ht,bP⟩:=HV.out;have qE:=(HJ.out.dev.minus HJ.out.box).beside ht (fun k hk e=>hk.2 e)
      have jm:V.drew.heap.size=V.heap.size:=rfl;refine⟨rfl,⟨bZ.stays (Q.drew _),.inl LP.out,(qE.mono (fun k hk=>hk.1.elim .inl (fun hk=>.inr ⟨hk.1,by rw[jm,bP];exact hk.2⟩))).keep (Q.drew _),fun k hk=>?_⟩,?_⟩
      ·rcases hk with hk|hk
       ·have h1:=iI.out k hk
        have h2:=nW.out.size;rw[jm,bP];omega
       ·exact hk.2
      ·exact(nW.out.trans (ht.mono (fun k hk=>by subst hk;exact LP.out))).q (Q.drew _)
    ·have gL:j.cC=({ j with d:=j.cT.1 },j.cT.2):=by unfold JL.cC;rw[η (by rw[hz];simp),Φ aW]
     have Ea:=Hd gL;have bN:(j.cT.2==0)=false:=Γ.2 aW;clear Cn hT hJ gL RP d5 s0 s1 s2 s3;go_wp2_with fail;go_ret;rw[Ea.out];exact⟨rfl,HJ.out,nW.out⟩
 ·have hb:(j.cM.2==0)=false:=Γ.2 hz
  have gL:j.cC=({ j with d:=j.cM.1 },j.cM.2):=by unfold JL.cC;rw[Φ hz]
  rw[gL];generalize j.cM=r1 at *;generalize j.place 0=pl0 at *;clear gL hz;go_enter func196,ntmps196;go_wp2_with fail;refine zJ.out.mono ?_;rintro e w1 ⟨rfl,q1⟩;have dF:=Hd q1;clear q1;go_wp2_with fail;refine(CNO.out _).mono ?_;rintro e w2 ⟨rfl,q2⟩;have bJ:=Hd (dF.out.trans q2);clear q2;go_wp2_with fail;refine(CL1.out _ bJ.out).mono ?_;rintro e w3 ⟨rfl,h3,t3⟩;have HE:=Hd (cF.step HB.out (bJ.out.trans (Q.alloc _ _)) t3 h3 iI.out LP.out);clear h3 t3;go_wp2_with fail;go_ret;exact⟨rfl,HE.out.1,HE.out.2⟩
theorem WV(w:World)(F:Nat→Prop)(p b:Nat)(j:JL)(lv:Value)(ws:List WrL)(h:cF w F p b j)(hl:Sl w lv ws.length 2 (aN ws))(hw:sS ws)(hh:∀x∈ws,j.home≤x.1∧x.1<j.d.l.length)(cG:j.s.log≤1000000):
  Calls prog 244 #[au p,lv] w fun e w'=>e=.returned (.int .i64 0)∧Q w w':=by
 obtain⟨la,lc,rfl,lX⟩:=hl.value;have aP:∀k (hk:k<ws.length),∃lb lo,la=some ⟨lb,lo,none⟩∧w.cell? ⟨lb,lo+k*2,none⟩=some (.int .i64 (ws[k].1:Nat))∧w.cell? ⟨lb,lo+k*2+1,none⟩=some (ah ws[k].2):=fun k hk=>by
  obtain⟨lb,lo,h1,h4⟩:=lX U;exact⟨lb,lo,h1,h4 _ _ (fQ ws k hk).1,by have:=h4 _ _ (fQ ws k hk).2;rwa [←P0] at this⟩
 have bQ:∀k (hk:k<ws.length),(j.home≤ws[k].1∧ws[k].1<j.d.l.length)∧ws[k].2.length=256:=fun k hk=>⟨hh _ (MA hk),(hw.2.2 _ (MA hk)).2⟩
 have qM:=hw.1;have kV:=hw.2.1;have hhm:=fun (W:World) (hq:Q w W) (i:Int)=>NJ W F p b j i (h.keep hq).box (h.keep hq).dev cG
 have HC:=Hd aP;have HO:=Hd bQ;have HM:=Hd hhm;have eH:¬(ws.length:Int)=0:=U;have hb1:((ws.length:Int)==0)=false:=Γ.2 eH;have bN:¬(48:Int)<(ws.length:Int):=U;clear aP bQ hhm hw hh h hl lX;go_enter func244,ntmps244;go_wp2_with fail;go_loopw [17] (fun v wr=>∃k:Nat,v=.int .i64 (k:Nat)∧k≤ws.length∧Hid (Q w wr)) (fun v _=>ws.length-(intOf v).toNat)
 case atStart=>exact⟨0,rfl,MD _,Q.refl _⟩
 case round =>
  obtain⟨k,rfl,hk,HQ⟩:=hrel;by_cases ay:k<ws.length
  ·have bq:(k:Int)<(ws.length:Int):=U
   obtain⟨lb,lo,rfl,x1,x2⟩:=HC.out k ay;have y1:=aI HQ.out x1;have y2:=aI HQ.out x2;obtain⟨⟨h1,h2⟩,gV⟩:=HO.out k ay;have jJ:=Q.alloc wr (.cells #[.int .i64 (ws[k].1:Nat),ah ws[k].2] 116);have hm:=HM.out _ (HQ.out.trans jJ) (ws[k].1:Nat);have e1:decide ((j.home:Int)≤((ws[k].1:Nat):Int))=true:=NO U;have e2:decide (((ws[k].1:Nat):Int)<(j.d.l.length:Int))=true:=NO U;rw[e1,e2] at hm;have Jt:=Hd hm;have zH:=Hd (HQ.out.trans jJ);clear hm jJ x1 x2 e1 e2 h1 h2;generalize ws[k].1=bk at *;generalize ws[k].2=dk at *;have gY:(!((dk.length:Int)==256))=false:=by rw[NX.2 U];rfl
   go_wp2_with fail;refine Jt.out.mono ?_;rintro e w1 ⟨rfl,rfl⟩;go_wp2_with fail;go_roundw;case rel=>exact⟨k+1,by go_num,U,zH⟩
   case measure=>simp[intOf];omega
  ·have bq:¬(k:Int)<(ws.length:Int):=U
   go_wp2_with fail;go_ret;exact⟨rfl,HQ.out⟩
theorem LR(a b c:Nat)(ha:a<4294967296)(hb:b<4294967296)(hc:c=a*4294967296+b):bits .or .u64 ((a:Int)*4294967296) (b:Int)=((c:Nat):Int):=by
 subst hc;rw[show((a:Int)*4294967296)=((a*4294967296:Nat):Int) by omega,u64_or_nat _ _ U U,nat_join 32 (a*4294967296) b (by rw[show(2:Nat) ^ 32=4294967296 from rfl,acn]) hb]
theorem WX(x:Bytes)(m:Nat)(h:4≤m):aM (x.take m)=aM x:=by
 unfold aM bA;simp only[Θ,VM];rw[Φ U,Φ U,Φ U,Φ U]
def kC(s:Bytes)(n:Nat):List Nat:=(List.range n).map fun i=>aM (s.drop (4*i))
theorem AU(s:Bytes)(n:Nat):(kC s n).length=n:=by simp[kC]
theorem WY(s:Bytes)(n:Nat):kC s (n+1)=kC s n++[aM (s.drop (4*n))]:=by simp[kC,UV]
theorem pT(s:Bytes)(n k:Nat)(h:k<n):aM (s.drop (4*k))∈kC s n:=NF.2 ⟨k,Sa.2 h,rfl⟩
theorem WZ(s:Bytes)(n:Nat):kC s (n+1)=aM s::kC (s.drop 4) n:=by
 unfold kC;rw[abh,On,SJ];simp only[acG,SU,aal,aeJ];apply P4;intro i _;simp only[Function.comp,Ps];congr 2;omega
theorem Qz(n:Nat):∀(s:Bytes),numsL n s=if ∀x∈kC s n,x<4096 then some (kC s n,s.drop (4*n)) else none:=by
 induction n with
 | zero=>intro s;simp[numsL,kC]
 | succ n ih =>
  intro s;rw[numsL,ih,WZ];by_cases h:aM s<4096
  ·rw[Φ h]
   by_cases h2:∀x∈kC (s.drop 4) n,x<4096
   ·rw[Φ h2,Φ (fun x hx=>(NL.1 hx).elim (fun e=>by rw[e];exact h) (h2 x))]
    simp only[acv,Ps];congr 3;omega
   ·rw[η h2,η (fun hc=>h2 fun x hx=>hc x (M1 _ hx))];rfl
  ·rw[η h,η (fun hc=>h (hc _ (Nm ..)))]
theorem MQ(l:Bytes)(h:l.dropWhile (·==0)=[]):∀x∈l,x=0:=by
 induction l with
 | nil=>intro x hx;simp at hx
 | cons y l ih =>
  by_cases hy:y=0
  ·rw[abF (by simp[hy])] at h
   intro x hx;rcases NL.1 hx with e|hx
   ·rw[e,hy]
   ·exact ih h x hx
  ·rw[ac6 (by simp[hy])] at h
   simp at h
theorem PI(l:Bytes)(h:∀x∈l,x=0):l.dropWhile (·==0)=[]:=by
 induction l with
 | nil=>rfl
 | cons y l ih =>
  rw[abF (by simp[h y])]
  exact ih (fun x hx=>h x (M1 _ hx))
theorem PK(l:Bytes)(x:UInt8)(h:x∈l)(hx:x≠0):x∈l.dropWhile (·==0):=by
 induction l with
 | nil=>simp at h
 | cons y l ih =>
  by_cases hy:y=0
  ·rw[abF (by simp[hy])]
   rcases NL.1 h with e|h
   ·exact absurd (e.trans hy) hx
   ·exact ih h
  ·rw[ac6 (by simp[hy])]
   exact h
theorem pS(l:Bytes):(Lib.trimB l 0).isEmpty=l.all (·==0):=by
 rw[show(Lib.trimB l 0).isEmpty=decide (Lib.trimB l 0=[]) by cases Lib.trimB l 0<;>simp]
 unfold Lib.trimB Lib.trimLeftB Lib.trimRightB;by_cases h:∀x∈l,x=0
 ·have h1:l.reverse.dropWhile (·==0)=[]:=PI _ (fun x hx=>h x (aco.1 hx))
  rw[h1,abE.2 (fun x hx=>by rw[h x hx];rfl)]
  rfl
 ·have h2:l.all (·==0)=false:=by
   rw[Bool.eq_false_iff];intro hc;exact h (fun x hx=>by simpa using abE.1 hc x hx)
  rw[h2,Nx];intro hc;refine h (fun x hx=>?_)
  by_cases hz:x=0
  ·exact hz
  ·exact MQ _ hc x (aco.2 (PK _ x (aco.2 hx) hz))
theorem hasP(s p:Bytes)(n:Nat)(hp:p.length=n)(h:n≤s.length):Lib.hasPrefix s p=decide (s.take n=p):=by
 rw[←Lib.hasPrefix_of_take,hp,NO U,ab6];by_cases he:s.take n=p
 ·rw[he,NO rfl];simp
 ·rw[Nx he];simp[he]
theorem hasS(s p:Bytes)(n k:Nat)(hp:p.length=n)(h:n≤s.length)(hk:s.length-n=k):Lib.hasSuffix s p=decide (s.drop k=p):=by
 rw[←Lib.hasSuffix_of_drop,hp,NO U,ab6,hk];by_cases he:s.drop k=p
 ·rw[he,NO rfl];simp
 ·rw[Nx he];simp[he]
def LI:Value→Nat
 | .string s=>s.data.size
 | _=>0
def uI(l:List Nat):List Value:=l.map fun x=>.int .i64 (x:Nat)
theorem DG:(prog.info? 3).map (fun i=>(i.zero,i.size,i.bytes))=some (some (.int .i64 0),1,8):=by kernel_rfl
theorem W9(w:World)(s:Bytes)(hs:s.length=256):
  Calls prog 298 #[ah s] w fun e w'=>(∃a v,e=.returned (.tuple #[a,v,.bool (dV s).isSome])∧∀seq l,dV s=some (seq,l)→a=.int .u64 (seq:Nat)∧w'.ownsRow w.heap.size 3 1 v l.length (uI l))∧Q w w':=by
 obtain⟨i0,hi,bY,bB,aW⟩:=info_parts DG;have cp:=fun (W:World)=>Tryz.strings_HasPrefix ⟨s.toArray⟩ ⟨#[67,68,88,84]⟩ W
 have cs:=fun (W:World)=>Tryz.strings_HasSuffix ⟨s.toArray⟩ ⟨#[67,68,88,69]⟩ W (by show s.length≤_;omega)
 have ct:=fun (x:Bytes) (hx:x.length≤1000) (W:World)=>Tryz.strings_Trim_one ⟨x.toArray⟩ 0 Z W (by show x.length≤_;omega)
 have hp:Lib.hasPrefix s [67,68,88,84]=decide (s.take 4=ek):=hasP s _ 4 rfl U;have OT:Lib.hasSuffix s [67,68,88,69]=decide (s.drop 252=dq):=hasS s _ 4 252 rfl U U;rw[show(⟨s.toArray⟩:ByteArray).data.toList=s from rfl,show(⟨#[67,68,88,84]⟩:ByteArray).data.toList=[67,68,88,84] from rfl,hp] at cp
 rw[show(⟨s.toArray⟩:ByteArray).data.toList=s from rfl,show(⟨#[67,68,88,69]⟩:ByteArray).data.toList=[67,68,88,69] from rfl,OT] at cs
 have ctf:=fun (x:Bytes) (h4:4≤x.length) (h5:x.length≤1000) (W:World)=>IX x W h4 U
 have qN:dV s=if s.take 4=ek∧s.drop 252=dq then(if 1≤aM (s.drop 12)∧aM (s.drop 12)≤48 then(if ∀x∈kC ((s.drop 16).take 232) (aM (s.drop 12)),x<4096 then(if (((s.drop 16).take 232).drop (4*aM (s.drop 12))).all (·==0) then some (aM (s.drop 8)*4294967296+aM (s.drop 4),kC ((s.drop 16).take 232) (aM (s.drop 12))) else none) else none) else none) else none:=by
  unfold dV;by_cases h1:s.take 4=ek∧s.drop 252=dq
  ·rw[Φ ⟨hs,h1⟩,Φ h1]
   simp only[];split
   ·rw[Qz]
    by_cases h3:∀x∈kC ((s.drop 16).take 232) (aM (s.drop 12)),x<4096
    ·rw[Φ h3,Φ h3]
    ·rw[η h3,η h3]
   ·rfl
  ·rw[η (fun h=>h1 h.2),η h1]
 have CP:=Hd cp;have CS:=Hd cs;have CT:=Hd ct;have Ma:=Hd ctf;have FD:=Hd qN;have hl:(s.length:Int)=256:=U;clear cp cs ct ctf qN hp OT;by_cases hm:s.take 4=ek
 ·by_cases he:s.drop 252=dq
  ·have qN:=FD.out
   rw[Φ ⟨hm,he⟩] at qN;rw[NO hm] at CP;rw[NO he] at CS;have h0:(⟨s.toArray⟩:ByteArray).extract 4 248=⟨((s.drop 4).take 244).toArray⟩:=eY s 4 248;have utk:=fun (x:Bytes) (m:Nat) (hm:4≤m)=>WX x m hm
   have a1:((s.drop 4).take 244).drop 4=(s.drop 8).take 240:=by rw[aad,Ps]
   have a2:((s.drop 8).take 240).drop 4=(s.drop 12).take 236:=by rw[aad,Ps]
   have a3:((s.drop 12).take 236).drop 4=(s.drop 16).take 232:=by rw[aad,Ps]
   have l0:((s.drop 4).take 244).length=244:=by rw[Mz,MM];omega
   have l1:((s.drop 8).take 240).length=240:=by rw[Mz,MM];omega
   have l2:((s.drop 12).take 236).length=236:=by rw[Mz,MM];omega
   have l3:((s.drop 16).take 232).length=232:=by rw[Mz,MM];omega
   have c0:=Ma.out _ (by omega:4≤((s.drop 4).take 244).length) U
   have c1:=Ma.out _ (by omega:4≤((s.drop 8).take 240).length) U
   have c2:=Ma.out _ (by omega:4≤((s.drop 12).take 236).length) U
   have cr:=fun (k:Nat) (hk:k<48)=>Ma.out (((s.drop 16).take 232).drop (4*k)) (by rw[MM];omega) (by rw[MM];omega)
   rw[utk _ _ U,a1] at c0;rw[utk _ _ U,a2] at c1;rw[utk _ _ U,a3] at c2;have b0:=eU (s.drop 4);have b1:=eU (s.drop 8);have b2:=eU (s.drop 12);clear utk a1 a2 a3 l0 l1 l2;have C0:=Hd c0;have C1:=Hd c1;have C2:=Hd c2;have CR:=Hd cr;have HT:=Hd qN;have H0:=Hd h0;clear c0 c1 c2 cr qN Ma FD h0 hs hm he;generalize (s.drop 4).take 244=A0 at *;generalize (s.drop 8).take 240=A1 at *;generalize (s.drop 12).take 236=A2 at *;generalize (s.drop 16).take 232=r0 at *;generalize aM (s.drop 4)=u0 at *;generalize aM (s.drop 8)=u1 at *;generalize aM (s.drop 12)=n at *;go_enter func298,ntmps298;go_wp2;go_step3;go_wp2_with fail;refine(CP.out _).mono ?_;rintro e w1 ⟨rfl,hw⟩;have hw:=hw.symm;subst hw;go_wp2_with fail;refine(CS.out _).mono ?_;rintro e w1 ⟨rfl,hw⟩;have hw:=hw.symm;subst hw;clear CP CS;go_wp2_with fail;rw[H0.out];refine(C0.out _).mono ?_;rintro e w1 ⟨rfl,q1⟩;have dF:=Hd q1;clear q1;go_wp2_with fail;refine(C1.out _).mono ?_;rintro e w2 ⟨rfl,q2⟩;have bJ:=Hd (dF.out.trans q2);clear q2;go_wp2_with fail;refine(C2.out _).mono ?_;rintro e w3 ⟨rfl,q3⟩;have fu:=Hd (bJ.out.trans q3);clear q3 dF bJ C0 C1 C2;by_cases qM:n<1
   ·have e1:(n:Int)<1:=U
    have bI:dV s=none:=by rw[HT.out,η U]
    have dY:=Hd bI;clear bI HT;go_wp2_with fail;rw[Exit.noGoto_ret];go_ret3;exact⟨⟨_,_,by rw[dY.out];rfl,fun _ _ h=>by rw[dY.out] at h;exact absurd h κ⟩,fu.out⟩
   by_cases kV:48<n
   ·have e1:¬(n:Int)<1:=U
    have e2:(48:Int)<(n:Int):=U;have bI:dV s=none:=by rw[HT.out,η U]
    have dY:=Hd bI;clear bI HT;go_wp2_with fail;rw[Exit.noGoto_ret];go_ret3;exact⟨⟨_,_,by rw[dY.out];rfl,fun _ _ h=>by rw[dY.out] at h;exact absurd h κ⟩,fu.out⟩
   have e1:¬(n:Int)<1:=U;have e2:¬(48:Int)<(n:Int):=U;have ht:=HT.out;rw[Φ U] at ht;have fG:=Hd ht;clear HT ht;have Fz:kC r0 0=[]:=rfl;have HP0:=Hd Fz;clear Fz;have AJ:w3.ownsRow w.heap.size 3 1 (.slice none 0 0) 0 (uI (kC r0 0)):=World.ownsRow_nil _ _ _ _;have afH:∀x∈kC r0 0,x<4096:=by rw[HP0.out];intro x hx;simp at hx
   have rU:r0.drop (4*0)=r0:=rfl;go_wp2_with fail;go_step3;go_wp2;go_loopw [6,12] (fun rv dv wr=>∃k:Nat,k≤n∧rv=ah (r0.drop (4*k))∧Hid (wr.ownsRow w.heap.size 3 1 dv k (uI (kC r0 k)))∧Hid (∀x∈kC r0 k,x<4096)∧Hid (Q w wr)) (fun rv _ _=>LI rv)
   case atStart=>exact⟨0,MD _,rfl,AJ,afH,fu⟩
   case round =>
    obtain⟨k,hk,rfl,HR,HA,lH⟩:=hrel;obtain⟨pa,pc,D5,nO⟩:=aY HR.out;subst D5;by_cases ay:k<n
    ·have hb:((k:Int)==(n:Int))=false:=Γ.2 U
     have hc:=CR.out k U wr;have lW:(r0.drop (4*k)).drop 4=r0.drop (4*(k+1)):=by rw[Ps];congr 1
     have fT:(r0.drop (4*(k+1))).length<(r0.drop (4*k)).length:=by rw[MM,MM];omega
     have hpu:=WY r0 k;rw[lW] at hc;have nk:=eU (r0.drop (4*k));have Mc:=pT r0 n k ay;have HME:=Hd Mc;clear Mc;have HC:=Hd hc;have uN:=Hd fT;have HPU:=Hd hpu;clear hc lW fT hpu;generalize aM (r0.drop (4*k))=u at *;generalize r0.drop (4*k)=x0 at *;by_cases h4:u<4096
     ·have h5:¬(4096:Int)≤(u:Int):=U
      have jy:∀x∈kC r0 (k+1),x<4096:=by
       rw[HPU.out];intro x hx;rcases No.1 hx with hx|hx
       ·exact HA.out x hx
       ·rw[M3.1 hx];exact h4
      have OU:=Hd jy;clear jy;go_wp2_with fail;refine HC.out.mono ?_;rintro e w5 ⟨rfl,q5⟩;have kJ:=lH.out.trans q5;have yh:=ownsRow_below HR.out q5;have jK:=Hd kJ;have Af:=Hd yh;have cO:∀u'∈#[(.int .i64 (u:Nat):Value)].toList,u'.oneCell'=true:=by intro u' hu;simp at hu;subst hu;rfl
      have dI:(k+1)*8≤140737488355328:=U;have vg:=Hd cO;have xI:=Hd dI;clear kJ yh q5 cO dI;go_wp2_with (at_builtin;refine bG w5 ρ _ _ 59 ρ w.heap.size 3 _ i0 (.int .i64 0) 1 8 underlying59 hi bY bB aW rfl Z Z _ _ _ ρ Af.out #[.int .i64 (u:Nat)] ρ rfl vg.out xI.out jK.out.size ?_)
      intro g cap w6 hr hg ho nR nX;have yj:Q w w6:=bD jK.out Af.out hg (Ω _) jK.out.size;have hr6:w6.ownsRow w.heap.size 3 1 (.slice (some ⟨g,0,none⟩) (k+1) cap) (k+1) (uI (kC r0 (k+1))):=by rw[HPU.out];unfold uI;rw[Pu];exact hr
      have OV:=Hd hr6;have lG:=Hd yj;clear hr hg ho yj hr6;go_wp2_with fail;go_roundw;case rel=>exact⟨k+1,U,rfl,OV,OU,lG⟩
      case measure=>exact uN.out
     ·have h5:(4096:Int)≤(u:Int):=U
      have bI:dV s=none:=by rw[fG.out,η (fun h=>h4 (h _ HME.out))]
      have dY:=Hd bI;clear bI;go_wp2_with fail;refine HC.out.mono ?_;rintro e w5 ⟨rfl,q5⟩;have jK:=Hd (lH.out.trans q5);clear q5;go_wp2_with fail;rw[Exit.noGoto_ret];go_ret3;exact⟨⟨_,_,by rw[dY.out];rfl,fun _ _ h=>by rw[dY.out] at h;exact absurd h κ⟩,jK.out⟩
    ·have hb:((k:Int)==(n:Int))=true:=NX.2 U
     obtain rfl:k=n:=U;have ct:=CT.out (r0.drop (4*k)) (by rw[MM];omega) wr
     have VI:=pS (r0.drop (4*k));have ht:=fG.out;rw[Φ HA.out] at ht;have CTT:=Hd ct;have HTR:=Hd VI;have rP:=Hd ht;clear ct VI ht;have oP:(r0.drop (4*k)).length≤1000:=by rw[MM];omega
     generalize r0.drop (4*k)=x0 at *;go_wp2_with fail;refine CTT.out.mono ?_;rintro e w5 ⟨rfl,q5⟩;have q5':Q wr w5:=q5.elim (fun h=>by rw[h];exact Q.refl _) (fun h=>by rw[h];exact Q.drew _)
     have jK:=Hd (lH.out.trans q5');have Af:=Hd (ownsRow_below HR.out q5');clear q5 q5';go_wp2_with fail;rw[LR u1 u0 _ b1 b0 rfl,Exit.noGoto_ret];have dK:(dV s).isSome=x0.all (·==0)∧∀seq l,dV s=some (seq,l)→u1*4294967296+u0=seq∧kC r0 k=l:=by
      rw[rP.out];cases x0.all (·==0) with
      | true=>exact⟨rfl,fun seq l h=>by simp only[QQ,N6,SD] at h;exact h⟩
      | false=>exact⟨rfl,fun seq l h=>absurd h κ⟩
     have HF:=Hd dK;have hlen:=AU r0 k;have FE:=Hd hlen;clear dK hlen;go_ret3;refine⟨⟨_,_,by rw[HF.out.1,HTR.out];rfl,fun seq l h=>?_⟩,jK.out⟩
     obtain⟨h1,h2⟩:=HF.out.2 seq l h;subst h1;subst h2;rw[FE.out];exact⟨rfl,Af.out⟩
  ·have bI:dV s=none:=by rw[FD.out,η (fun h=>he h.2)]
   rw[NO hm] at CP;rw[Nx he] at CS;rw[bI];clear FD bI CT Ma;go_enter func298,ntmps298;go_wp2;go_step3;go_wp2_with fail;refine(CP.out _).mono ?_;rintro e w1 ⟨rfl,hw⟩;have hw:=hw.symm;subst hw;go_wp2_with fail;refine(CS.out _).mono ?_;rintro e w1 ⟨rfl,hw⟩;have hw:=hw.symm;subst hw;go_wp2_with fail;rw[Exit.noGoto_ret];go_ret3;exact⟨⟨_,_,rfl,fun _ _ h=>absurd h κ⟩,Q.refl _⟩
 ·have bI:dV s=none:=by rw[FD.out,η (fun h=>hm h.1)]
  rw[Nx hm] at CP;rw[bI];clear FD bI CS CT Ma;go_enter func298,ntmps298;go_wp2;go_step3;go_wp2_with fail;refine(CP.out _).mono ?_;rintro e w1 ⟨rfl,hw⟩;have hw:=hw.symm;subst hw;go_wp2_with fail;rw[Exit.noGoto_ret];go_ret3;exact⟨⟨_,_,rfl,fun _ _ h=>absurd h κ⟩,Q.refl _⟩
theorem IY{s:Bytes}{seq:Nat}{l:List Nat}(h:dV s=some (seq,l)):s.length=256∧s.drop 252=dq∧1≤l.length∧l.length≤48∧(∀x∈l,x<4096)∧seq<18446744073709551616:=by
 unfold dV at h;split at h
 ·rename_i h1
  simp only[] at h;split at h
  ·rename_i h2
   rw[Qz] at h;split at h
   ·rename_i l' r he
    split at he
    ·rename_i h3
     simp only[N6,SD] at he;split at h
     ·simp only[N6,SD] at h
      obtain⟨rfl,rfl⟩:=h;rw[←he.1];have:=eU (s.drop 8);have:=eU (s.drop 4);refine⟨h1.1,h1.2.2,by rw[AU];exact h2.1,by rw[AU];exact h2.2,h3,U⟩
     ·exact absurd h κ
    ·exact absurd he κ
   ·exact absurd h κ
  ·exact absurd h κ
 ·exact absurd h κ
theorem QC(l:List Nat)(k:Nat)(h:k<l.length):(uI l)[k]?=some (.int .i64 (l.getD k 0:Nat)):=by simp[uI,h]
theorem Do(c:Nat)(b:Bytes)(hb:b.length=256)(he:b.drop 252=dq):(aB c++dq=b.drop 248)↔(aB c=(b.drop 248).take 4):=by
 have h1:b.drop 248=(b.drop 248).take 4++dq:=by
  rw[←he,show(252:Nat)=248+4 from rfl,←Ps,PP]
 constructor
 ·intro h
  rw[←h];exact(TO (aH c)).symm
 ·intro h
  rw[h];exact h1.symm
theorem iy{w:World}{g n cap size:Nat}{xs:List Value}(h:Sl w (.slice (some ⟨g,0,none⟩) n cap) n size xs)(hn:0<n)(j:Nat)(u:Value)(hj:xs[j]?=some u):w.cell? ⟨g,j,none⟩=some u:=by
 obtain⟨_,a,c,hv,cO⟩:=h;obtain⟨b2,off,rfl,dI⟩:=cO hn;have h2:=dI j u hj;injection hv with hv _ _;injection hv with hv;injection hv with hv1 hv2 _;subst hv1;subst hv2;rwa [PF] at h2
theorem MR(l:List Bytes)(k:Nat)(h:k<l.length):(l.map ah)[k]?=some (ah (l.getD k [])):=by
 rw[UB,Θ,Mp h];rfl
theorem DO(l:List Nat)(r:List Bytes)(k:Nat)(h:k<l.length)(h2:l.length≤r.length):aN ((l.zip r).take (k+1))=aN ((l.zip r).take k)++[.int .i64 (l.getD k 0:Nat),ah (r.getD k [])]:=by
 have h3:k<(l.zip r).length:=by rw[Ys];omega
 rw[M2 h3,iF,List.getElem_zip,Θ,Θ,Mp h,Mp (by omega:k<r.length)]
 simp[aN,mX]
theorem qi(c b:Bytes)(hb:b.length=256):(!((({ data:=c.toArray }:ByteArray)++{ data:=#[67,68,88,69] }).toList==(({ data:=b.toArray }:ByteArray).extract 248 256).toList)) = !decide (c++dq=b.drop 248):=by
 rw[show({ data:=#[67,68,88,69] }:ByteArray)=⟨dq.toArray⟩ from rfl,bytes_append,eY,NE (by rw[MM];omega)]
 rw[ByteArray.toList_eq,ByteArray.toList_eq];by_cases h:c++dq=b.drop 248<;>simp[h]
theorem Xa(w:World)(base:Nat)(lv:Value)(ls:List Bytes)(h:w.ownsRow base 9 1 lv ls.length (ls.map ah))(hn:ls.length≤49)(hl:∀s∈ls,s.length=256):
  Calls prog 260 #[lv] w fun e w'=>(∃a v x,e=.returned (.tuple #[a,v,.int .i64 x])∧(eD ls=none→x≠0)∧∀seq ws,eD ls=some (seq,ws)→x=0∧a=.int .u64 (seq:Nat)∧w'.ownsRow w.heap.size 116 2 v ws.length (aN ws))∧Q w w':=by
 obtain⟨i0,hi,bY,bB,aW⟩:=info_parts nC;obtain⟨la,lc,rfl,om⟩:=aY h;have bX:=Sl.cy h;cases ls with
 | nil =>
  go_enter func260,ntmps260;go_wp2_with fail;go_ret3;exact⟨⟨_,_,_,rfl,fun _=>Z,fun _ _ hc=>by simp[eD] at hc⟩,Q.refl _⟩
 | cons b rest =>
  obtain⟨lb,rfl⟩:=om κ;have RX:(b::rest).length≤lc:=by
   rcases h.2 with ⟨h1,_⟩|⟨g,cap,cur,h1,_,_,h2,_⟩
   ·cases h1
   ·injection h1 with _ _ h1
    omega
  have tO:∀k (hk:k<(b::rest).length),w.cell? ⟨lb,k,none⟩=some (ah ((b::rest).getD k [])):=fun k hk=>iy bX κ k _ (MR _ k hk)
  have x0:=tO 0 κ;simp only[acK] at x0;have hb:=hl b (Nm ..);have cr:=W9 w b hb;rw[Mu] at *;have nV:eD (b::rest)=match dV b with
   | none=>none
   | some (seq,at_)=>if rest.length<at_.length∨∃s∈rest.take at_.length,s.length≠256 then none
     else if aB (fU (b.take 248++(rest.take at_.length).flatten))=(b.drop 248).take 4 then some (seq,at_.zip rest) else none:=rfl
  have CR:=Hd cr;have HL:=Hd hl;have HC:=Hd tO;have zL:=Hd nV;have xG:=Hd bX;have HO:=Hd h;clear cr hl tO nV bX h;have aU:¬((rest.length:Int)+1=0):=U;cases Hq:dV b with
  | none =>
   rw[Hq] at CR zL;have bI:eD (b::rest)=none:=zL.out;rw[bI];clear zL bI;go_enter func260,ntmps260;go_wp2_with fail;refine CR.out.mono ?_;rintro e w1 ⟨⟨a,v,rfl,_⟩,q1⟩;simp only[Option.isSome];go_wp2_with fail;go_ret3;exact⟨⟨_,_,_,rfl,fun _=>Z,fun _ _ hc=>absurd hc κ⟩,q1⟩
  | some r =>
   obtain⟨seq,at_⟩:=r;rw[Hq] at CR zL;obtain⟨_,hend,qM,kV,pU,Sj⟩:=IY Hq;clear Hq;by_cases hlen:rest.length<at_.length
   ·have bI:eD (b::rest)=none:=by rw[zL.out];simp only[];rw[Φ (.inl hlen)]
    rw[bI];clear zL bI;go_enter func260,ntmps260;go_wp2_with fail;refine CR.out.mono ?_;rintro e w1 ⟨⟨a,v,rfl,hs⟩,q1⟩;obtain⟨rfl,hr⟩:=hs seq at_ rfl;obtain⟨pa,pc,rfl,_⟩:=aY hr;simp only[Option.isSome];have hh:(rest.length:Int)+1<1+(at_.length:Int):=U;go_wp2_with fail;go_ret3;exact⟨⟨_,_,_,rfl,fun _=>Z,fun _ _ hc=>absurd hc κ⟩,q1⟩
   ·go_enter func260,ntmps260
    go_wp2_with fail;refine CR.out.mono ?_;rintro e w1 ⟨⟨a,v,rfl,hs⟩,q1⟩;obtain⟨rfl,hr⟩:=hs seq at_ rfl;obtain⟨pa,pc,rfl,nO⟩:=aY hr;simp only[Option.isSome];have hh:¬(rest.length:Int)+1<1+(at_.length:Int):=U;have HR:=Hd hr;have dF:=Hd q1;clear hr q1 hs;have zI:∀k,k<at_.length→∃ga,pa=some ⟨ga,0,none⟩∧w1.cell? ⟨ga,k,none⟩=some (.int .i64 (at_.getD k 0:Nat)):=fun k hk=>by
     obtain⟨ga,rfl⟩:=nO U;exact⟨_,rfl,iy (Sl.cy HR.out) U k _ (QC at_ k hk)⟩
    have JA:∀k,k<at_.length→w1.cell? ⟨lb,1+k,none⟩=some (ah (rest.getD k []))∧(rest.getD k []).length=256:=fun k hk=>by
     have h1:=HC.out (k+1) U;rw[abJ,abX] at h1;refine⟨aI dF.out h1,?_⟩;rw[Θ,Mp (by omega:k<rest.length)]
     exact HL.out _ (M1 _ (MA _))
    have xX:(at_.zip rest).length=at_.length:=by rw[Ys];omega
    have jl:=fun (k:Nat) (hk:k<at_.length)=>DO at_ rest k hk U
    have CG:=Hd zI;have VJ:=Hd JA;have HZL:=Hd xX;have HZS:=Hd jl;have AJ:w1.ownsRow w1.heap.size 116 2 (.slice none 0 0) 0 (aN ((at_.zip rest).take 0)):=World.ownsRow_nil _ _ _ _;clear zI JA xX jl;go_wp2_with fail;go_loopw [8,40] (fun ov i wr=>∃k:Nat,i=.int .i64 (k:Nat)∧k≤at_.length∧Hid (wr.ownsRow w1.heap.size 116 2 ov k (aN ((at_.zip rest).take k)))∧Hid (Q w1 wr)) (fun _ i _=>at_.length-(intOf i).toNat)
    case atStart=>exact⟨0,rfl,MD _,AJ,Hd (Q.refl _)⟩
    case round =>
     obtain⟨k,rfl,hk,HOW,bJ⟩:=hrel;by_cases ay:k<at_.length
     ·have bq:(k:Int)<(at_.length:Int):=U
      obtain⟨ga,rfl,x1⟩:=CG.out k ay;obtain⟨x2,Yy⟩:=VJ.out k ay;have y1:=aI bJ.out x1;have y2:=aI bJ.out x2;have Md:((rest.getD k []).length:Int)=256:=U;have jl:=HZS.out k ay;have HZ:=Hd jl;clear jl x1 x2 Yy;generalize at_.getD k 0=bk at *;generalize rest.getD k []=dk at *;have cO:∀u∈#[Value.int .i64 (bk:Nat),ah dk].toList,u.oneCell'=true:=by intro u hu;simp at hu;rcases hu with rfl|rfl<;>rfl
      have dI:(k+1)*24≤140737488355328:=U;have OQ:=dF.out.trans bJ.out;have vg:=Hd cO;have xI:=Hd dI;have VH:=Hd OQ;clear cO dI OQ;go_wp2_with (at_builtin;refine bG wr ρ _ _ 66 ρ w1.heap.size 116 _ i0 (.agg #[.int .i64 0,ah []]) 2 24 underlying66 hi bY bB aW rfl Z Z _ _ _ ρ HOW.out #[.int .i64 (bk:Nat),ah dk] ρ rfl vg.out xI.out bJ.out.size ?_)
      intro g2 cap2 w2 pW hg ho nR nX;have eG:Q w1 w2:=bD bJ.out HOW.out hg (Ω _) bJ.out.size;have Zn:w2.ownsRow w1.heap.size 116 2 (.slice (some ⟨g2,0,none⟩) (k+1) cap2) (k+1) (aN ((at_.zip rest).take (k+1))):=by rw[HZ.out];exact pW
      have VK:=Hd Zn;have fu:=Hd eG;clear pW hg ho Zn eG;go_wp2_with fail;go_roundw;case rel=>exact⟨k+1,by go_num,U,VK,fu⟩
      case measure=>simp[intOf];omega
     ·have bq:¬(k:Int)<(at_.length:Int):=U
      obtain rfl:k=at_.length:=U;have gV:((rest.take at_.length).map ah).length=at_.length:=by rw[OK,Mz];omega
      have hsd:Strs w1 (.slice (some ⟨lb,1,none⟩) at_.length (lc-1)) (rest.take at_.length):=by
       unfold Strs;rw[show(rest.take at_.length).length=at_.length by rw[Mz];omega]
       refine⟨by rw[gV,abk],_,_,rfl,fun _=>⟨lb,1,rfl,fun j u hj=>?_⟩⟩
       have zD:j<at_.length:=by
        have:=(Pi.1 hj).1;omega
       rw[MR _ j (by rw[Mz];omega)] at hj
       have h2:=(VJ.out j zD).1;rw[←hj,h2,Θ,Θ,adq zD]
      have csm:=fun (V:World) (hq:Q w1 V)=>oc V (b.take 248) _ (rest.take at_.length) (Strs.stays hsd hq) (by rw[Mz];omega) (by rw[Mz];omega) (fun p hp=>by have:=HL.out p (M1 _ (Sf hp));omega)
      have aC:=Do (fU (b.take 248++(rest.take at_.length).flatten)) b hb hend;have nV:eD (b::rest)=if aB (fU (b.take 248++(rest.take at_.length).flatten))=(b.drop 248).take 4 then some (seq,at_.zip rest) else none:=by
       rw[zL.out,η];rintro(hc|⟨q,hq,Du⟩)
       ·exact hlen hc
       ·exact Du (HL.out q (M1 _ (Sf hq)))
      have CSM:=Hd csm;have aX:=Hd aC;have VL:=Hd nV;clear gV hsd csm aC nV zL CG VJ;generalize nU:fU (b.take 248++(rest.take at_.length).flatten)=cr at *;have y0:=aI (dF.out.trans bJ.out) x0;have KK:=Hd (Q.refl wr);have l4:(aB cr).length=4:=rfl;have amn:¬(b.length:Int)<248:=U;have bN:(248:Int)≤(b.length:Int):=U;go_upto_region 15 with fail;go_region_held3 (fun w'=>w'.cell? ⟨lb,0,none⟩=some (ah b))
       (first|exact y0|exact aI δ y0)
       (first|(go_at_call 294;rw[uD b 248];with_reducible refine(CSM.out _ (bJ.out.trans ω)).mono ?_;rintro e w5 ⟨rfl,q5⟩;have s':Q wr w5:=Q.trans ω q5;clear KK;have KK:=Hd s';clear s' q5))
      all_goals
       have vk:=qi (aB cr) b hb;by_cases hc:aB cr++dq=b.drop 248
       ·rw[NO hc,Bool.not_true] at vk
        have hu:=VL.out;rw[Φ (aX.out.1 hc)] at hu;have HUU:=Hd hu;clear hu;have wJ:w5.ownsRow w.heap.size 116 2 u8 (at_.zip rest).length (aN (at_.zip rest)):=by
         rw[HZL.out];have h1:=ownsRow_below HOW.out KK.out;rw[show(at_.zip rest).take at_.length=at_.zip rest from NE (by rw[HZL.out];exact Ω _)] at h1
         exact gT h1 dF.out.size
        have HW5:=Hd wJ;have jK:=Hd (dF.out.trans (bJ.out.trans KK.out));clear wJ;go_wp2_with fail;all_goals (try (rename_i hx;exact absurd (hx.symm.trans vk) Z))
        go_ret3;refine⟨⟨_,_,_,rfl,fun h=>by rw[HUU.out] at h;exact absurd h κ,fun sq ws h=>?_⟩,jK.out⟩
        rw[HUU.out] at h;simp only[N6,SD] at h;obtain⟨rfl,rfl⟩:=h;exact⟨rfl,rfl,HW5.out⟩
       ·rw[Nx hc,Bool.not_false] at vk
        have hu:=VL.out;rw[η (fun h=>hc (aX.out.2 h))] at hu
        have HUU:=Hd hu;have jK:=Hd (dF.out.trans (bJ.out.trans KK.out));clear hu;go_wp2_with fail;all_goals (try (rename_i hx;exact absurd (hx.symm.trans vk) Z))
        go_ret3;exact⟨⟨_,_,_,rfl,fun _=>Z,fun sq ws h=>by rw[HUU.out] at h;exact absurd h κ⟩,jK.out⟩
theorem IZ{l:List Bytes}{seq:Nat}{ws:List WrL}(h:eD l=some (seq,ws)):ws.length≤48∧seq<18446744073709551616∧∀w∈ws,w.1<4096:=by
 cases l with
 | nil=>exact absurd h (by simp[eD])
 | cons b rest =>
  unfold eD at h;simp only[] at h;cases hh:dV b with
  | none=>rw[hh] at h;exact absurd h κ
  | some r =>
   obtain⟨sq,at_⟩:=r;rw[hh] at h;simp only[] at h;obtain⟨_,_,_,h4,h5,h6⟩:=IY hh;split at h
   ·exact absurd h κ
   ·split at h
    ·simp only[N6,SD] at h
     obtain⟨rfl,rfl⟩:=h;refine⟨by rw[Ys];omega,h6,fun w hw=>h5 _ (List.of_mem_zip hw).1⟩
    ·exact absurd h κ
def JL.ahead(j:JL)(n:Nat):List Bytes:=(List.range n).map fun i=>j.d.get (j.place i)
theorem JL.gE(j:JL)(n:Nat):(j.ahead n).length=n:=by simp[JL.ahead]
theorem JL.lR(j:JL)(n:Nat):j.ahead (n+1)=j.ahead n++[j.d.get (j.place n)]:=by simp[JL.ahead,UV]
theorem Xb(w:World)(F:Nat→Prop)(p b:Nat)(j:JL)(h:cF w F p b j)(hn:fR j)(lI:j.d.dead=false)(oP:2+j.s.log≤j.d.l.length)(hu:j.used≤j.s.log):
  Calls prog 193 #[au p] w fun e w'=>(∃v,e=.returned (.tuple #[v,.bool j.frame.isSome])∧∀ws,j.frame=some ws→w'.ownsRow w.heap.size 116 2 v ws.length (aN ws))∧Q w w':=by
 obtain⟨i0,hi,bY,bB,aW⟩:=info_parts DN;obtain⟨n,kT⟩:∃n:Nat,n=min (j.s.log-j.used) 49:=⟨_,rfl⟩;have bW:∀k,2≤j.place k∧j.place k<j.d.l.length:=fun k=>by
  have:=gG j.s (j.used+k) hn.log;unfold JL.place;omega
 have dz:∀k,j.d.read ((j.place k:Nat):Int)=(j.d.get (j.place k),0):=fun k=>by
  unfold af.read;rw[af.gC lI _ (bW k).2,Φ rfl];rfl
 have ET:∀s∈j.ahead n,s.length=256:=fun s hs=>by
  obtain⟨i,_,rfl⟩:=NF.1 hs;exact af.gj hn.ok _ (bW i).2
 have pV:∀k,(j.d.get (j.place k)).length=256:=fun k=>af.gj hn.ok _ (bW k).2
 have dQ:j.frame=match eD (j.ahead n) with
   | some (seq,ws)=>if seq=j.next∧∀w∈ws,j.home≤w.1∧w.1<j.d.l.length then some ws else none
   | none=>none:=by unfold JL.frame JL.ahead;rw[kT];rfl
 have cpl:=fun (W:World) (hq:Q w W) (k:Nat) (hk:k≤1000000)=>vZ W p b j k (h.keep hq).box hn.log hn.log2 hn.place hn.used hk
 have crd:=fun (W:World) (hq:Q w W) (k:Nat)=>AQ W F b j.d (j.place k:Nat) (h.keep hq).dev hn.ok.max (fun hx=>by have:=hn.eK hx;omega)
 have chm:=fun (W:World) (hq:Q w W) (i:Int)=>NJ W F p b j i (h.keep hq).box (h.keep hq).dev hn.log2
 have cun:=fun (W:World) (base:Nat) (lv:Value) (hv:W.ownsRow base 9 1 lv n ((j.ahead n).map ah))=>Xa W base lv (j.ahead n) (by rw[j.gE];exact hv) (by rw[j.gE];omega) ET
 have has:=j.lR;obtain⟨c0,c1,c2,c3,c4,c5,c6,c7⟩:=h.box.c8;have Sk:=Hd cpl;have CRD:=Hd crd;have CHM:=Hd chm;have Zo:=Hd cun;have HAS:=Hd has;have pY:=Hd dQ;have iO:=Hd dz;have FH:=Hd pV;have HH:=Hd (And.intro h.box h.dev);have HN:=Hd hn;have cG:=hn.log2;have pO:=hn.used;have jB:IntKind.i64.wrap ((j.s.log:Int)-(j.used:Int))=(j.s.log:Int)-(j.used:Int):=IntWalk.i64_in _ U;have aik:n≤49:=U;have hni:(n:Int)=min ((j.s.log:Int)-(j.used:Int)) 49:=U;clear cpl crd chm cun has dQ dz bW ET pV h hn kT;go_enter func193,ntmps193;go_upto_region 2 with fail;go_region;all_goals
  go_wp2_with fail;rw[←hni];have ji:Q w w.drew:=Q.drew w;have AJ:w.drew.ownsRow w.heap.size 9 1 (.slice none 0 0) 0 ((j.ahead 0).map ah):=World.ownsRow_nil _ _ _ _;clear jB hni;go_loopw [4,24] (fun lv i wr=>∃k:Nat,i=.int .i64 (k:Nat)∧k≤n∧Hid (wr.ownsRow w.heap.size 9 1 lv k ((j.ahead k).map ah))∧Hid (Q w wr)) (fun _ i _=>n-(intOf i).toNat)
  case atStart=>exact⟨0,rfl,MD _,AJ,ji⟩
  case round =>
   obtain⟨k,rfl,hk,HOW,HQ⟩:=hrel;by_cases ay:k<n
   ·have bq:(k:Int)<(n:Int):=U
    have x0:=aI HQ.out c0;have Ag:=iO.out k;have Fu:=HAS.out k;have Jy:=FH.out k;have hc:=CRD.out;have Zp:=Hd (fun (W:World) (hq:Q w W)=>hc W hq k)
    rw[Ag] at Zp;have LZ:=Sk.out;have CPK:=Hd (fun (W:World) (hq:Q w W)=>LZ W hq k U)
    have HS:=Hd Fu;have KK:=Hd (Q.refl wr);clear Ag Fu hc LZ;generalize j.place k=plk at *;generalize j.d.get plk=gk at *;go_upto_region 5 with fail;go_region_held3 (fun w'=>w'.cell? ⟨p,0,none⟩=some (au b))
     (first|exact x0|exact aI δ x0)
     (first
      | (go_at_call 247;with_reducible refine(CPK.out _ (HQ.out.trans ω)).mono ?_;rintro e w5 ⟨rfl,q5⟩;have s':Q wr w5:=Q.trans ω q5;clear KK;have KK:=Hd s';clear s' q5)
      | (go_at_call 106;with_reducible refine(Zp.out _ (HQ.out.trans ω)).mono ?_;rintro e w6 ⟨rfl,q6⟩;have s':Q wr w6:=Q.trans ω q6;clear KK;have KK:=Hd s';clear s' q6))
    all_goals
     have yh:=ownsRow_below HOW.out KK.out;have kJ:=HQ.out.trans KK.out;have cO:∀u∈#[ah gk].toList,u.oneCell'=true:=by intro u hu;simp at hu;subst hu;rfl
     have dI:(k+1)*16≤140737488355328:=U;have Af:=Hd yh;have jK:=Hd kJ;have vg:=Hd cO;have xI:=Hd dI;clear yh kJ cO dI x0;go_wp2_with (at_builtin;refine bG w6 ρ _ _ 64 ρ w.heap.size 9 _ i0 (ah []) 1 16 underlying64 hi bY bB aW rfl Z Z _ _ _ ρ Af.out #[ah gk] ρ rfl vg.out xI.out jK.out.size ?_)
     intro g cap w7 hr hg ho nR nX;have wK:Q w w7:=bD jK.out Af.out hg (Ω _) jK.out.size;have nZ:w7.ownsRow w.heap.size 9 1 (.slice (some ⟨g,0,none⟩) (k+1) cap) (k+1) ((j.ahead (k+1)).map ah):=by rw[HS.out,Pu];exact hr
     have OW:=Hd nZ;have lJ:=Hd wK;clear hr hg ho nZ wK;go_wp2_with fail;go_roundw;case rel=>exact⟨k+1,by go_num,U,OW,lJ⟩
     case measure=>simp[intOf];omega
   ·have bq:¬(k:Int)<(n:Int):=U
    obtain rfl:k=n:=U;have cun:=Zo.out wr w.heap.size u4 HOW.out;have CU:=Hd cun;clear cun;go_wp2_with fail;refine CU.out.mono ?_;rintro e w1 ⟨⟨a,v,x,rfl,sJ,mh⟩,q1⟩;have pR:=HQ.out.trans q1;have dF:=Hd pR;clear q1 pR;cases nk:eD (j.ahead k) with
    | none =>
     have hx:=sJ nk;have bI:j.frame=none:=by rw[pY.out,nk]
     have dY:=Hd bI;have hxb:(!(x==0))=true:=by rw[Γ.2 hx];rfl
     clear bI nk sJ mh Zo CU pY;go_wp2_with fail;go_ret2;exact⟨⟨_,by rw[dY.out];rfl,fun ws h=>by rw[dY.out] at h;exact absurd h κ⟩,dF.out⟩
    | some r =>
     obtain⟨seq,ws⟩:=r;obtain⟨rfl,rfl,dP⟩:=mh seq ws nk;have y6:=aI dF.out c6;have dQ:=pY.out;rw[nk] at dQ;simp only[] at dQ;have amx:=(IZ nk).1;have VN:=Hd dQ;have lu:=Hd dP;clear nk sJ mh Zo CU pY dQ dP;by_cases Sj:seq=j.next
     ·have vk:(!((seq:Int)==(j.next:Int)))=false:=by rw[NX.2 U];rfl
      obtain⟨pa,pc,rfl,nO⟩:=aY lu.out;have aP:∀k (hk:k<ws.length),∃g,pa=some ⟨g,0,none⟩∧w1.cell? ⟨g,k*2,none⟩=some (.int .i64 (ws[k].1:Nat))∧w1.cell? ⟨g,k*2+1,none⟩=some (ah ws[k].2):=fun k hk=>by
       obtain⟨g,rfl⟩:=nO U;have hs:=Sl.cy lu.out;exact⟨g,rfl,iy hs U _ _ (fQ ws k hk).1,iy hs U _ _ (fQ ws k hk).2⟩
      have xW:=Hd aP;clear aP;go_wp2_with fail;go_loopw [61] (fun v w2=>∃m:Nat,v=.int .i64 (m:Nat)∧m≤ws.length∧Hid (∀i (hi:i<ws.length),i<m→j.home≤ws[i].1∧ws[i].1<j.d.l.length)∧Hid (Q w1 w2)) (fun v _=>ws.length-(intOf v).toNat)
      case atStart=>exact⟨0,rfl,MD _,Hd (fun i hi h=>absurd h U),Hd (Q.refl _)⟩
      case round =>
       obtain⟨m,rfl,hm,OU,bJ⟩:=hrel;by_cases adp:m<ws.length
       ·have bq:(m:Int)<(ws.length:Int):=U
        obtain⟨ga,rfl,x1,x2⟩:=xW.out m adp;have y1:=aI bJ.out x1;have y2:=aI bJ.out x2;have jJ:=Q.alloc wr (.cells #[.int .i64 (ws[m].1:Nat),ah ws[m].2] 116);have zX:=CHM.out _ (dF.out.trans (bJ.out.trans jJ)) (ws[m].1:Nat);by_cases bQ:j.home≤ws[m].1∧ws[m].1<j.d.l.length
        ·have e1:decide ((j.home:Int)≤((ws[m].1:Nat):Int))=true:=NO U
         have e2:decide (((ws[m].1:Nat):Int)<(j.d.l.length:Int))=true:=NO U;rw[e1,e2] at zX;have jy:∀i (hi:i<ws.length),i<m+1→j.home≤ws[i].1∧ws[i].1<j.d.l.length:=fun i hi h=>by
          by_cases him:i<m
          ·exact OU.out i hi him
          ·obtain rfl:i=m:=U
           exact bQ
         have Jt:=Hd zX;have zH:=Hd (bJ.out.trans jJ);have HA2:=Hd jy;clear zX jJ x1 x2 e1 e2 bQ jy;generalize ws[m].1=bk at *;generalize ws[m].2=dk at *;go_wp2_with fail;refine Jt.out.mono ?_;rintro e w3 ⟨rfl,rfl⟩;go_wp2_with fail;go_roundw;case rel=>exact⟨m+1,by go_num,U,HA2,zH⟩
         case measure=>simp[intOf];omega
        ·have e1:(decide ((j.home:Int)≤((ws[m].1:Nat):Int))&&decide (((ws[m].1:Nat):Int)<(j.d.l.length:Int)))=false:=by
          by_cases h1:j.home≤ws[m].1
          ·have h2:¬ws[m].1<j.d.l.length:=fun h=>bQ ⟨h1,h⟩
           rw[Nx (p:=((ws[m].1:Nat):Int)<(j.d.l.length:Int)) U,Bool.and_false]
          ·rw[Nx (p:=(j.home:Int)≤((ws[m].1:Nat):Int)) U,Bool.false_and]
         rw[e1] at zX;have bI:j.frame=none:=by rw[VN.out,η (fun h=>bQ (h.2 _ (MA adp)))]
         have dY:=Hd bI;have Jt:=Hd zX;have zH:=Hd (dF.out.trans (bJ.out.trans jJ));clear zX jJ x1 x2 e1 bQ bI;generalize ws[m].1=bk at *;generalize ws[m].2=dk at *;go_wp2_with fail;refine Jt.out.mono ?_;rintro e w3 ⟨rfl,rfl⟩;go_wp2_with fail;go_ret2;exact⟨⟨_,by rw[dY.out];rfl,fun ws h=>by rw[dY.out] at h;exact absurd h κ⟩,zH.out⟩
       ·have bq:¬(m:Int)<(ws.length:Int):=U
        obtain rfl:m=ws.length:=U;have Sm:j.frame=some ws:=by
         rw[VN.out,Φ ⟨Sj,fun x hx=>by obtain⟨i,hi,rfl⟩:=QR hx;exact OU.out i hi hi⟩]
        have HY:=Hd Sm;have fu:=Hd (dF.out.trans bJ.out);have VK:=Hd (gT (ownsRow_below lu.out bJ.out) HQ.out.size);clear Sm;go_wp2_with fail;go_ret2;exact⟨⟨_,by rw[HY.out];rfl,fun ws' h=>by rw[HY.out] at h;injection h with h;subst h;exact VK.out⟩,fu.out⟩
     ·have bI:j.frame=none:=by rw[VN.out,η (fun h=>Sj h.1)]
      have dY:=Hd bI;have vk:(!((seq:Int)==(j.next:Int)))=true:=by rw[Γ.2 U];rfl
      clear bI VN;go_wp2_with fail;go_ret2;exact⟨⟨_,by rw[dY.out];rfl,fun ws h=>by rw[dY.out] at h;exact absurd h κ⟩,dF.out⟩
def sj(b:Nat):Option (bw×Nat)→Array Value
 | none=>#[au b,.int .u64 0,.int .u64 0,.int .i64 0,.int .i64 0,.int .i64 (-1),.int .u64 0,.int .i64 0]
 | some (s,k)=>#[au b,.int .u64 (s.e:Nat),.int .u64 (s.s:Nat),.int .i64 (s.log:Nat),.int .i64 (s.place:Nat),.int .i64 (k:Nat),.int .u64 0,.int .i64 0]
def mY(d:af):Nat→Option (bw×Nat)
 | 0=>none
 | k+1=>match aR (d.get k) d.l.length with
  | none=>mY d k
  | some s=>match mY d k with
   | none=>some (s,k)
   | some (r,i)=>if r.e<s.e then some (s,k) else some (r,i)
theorem NK(d:af):mY d 2=Eo (aR (d.get 0) d.l.length) (aR (d.get 1) d.l.length):=by
 have h1:mY d 1=(aR (d.get 0) d.l.length).map fun s=>(s,0):=by
  unfold mY mY;cases aR (d.get 0) d.l.length<;>rfl
 unfold mY;rw[h1];cases aR (d.get 0) d.l.length<;>cases aR (d.get 1) d.l.length<;>rfl
theorem Xc{d:af}{k:Nat}{s:bw}{i:Nat}(h:mY d k=some (s,i)):i<k∧aR (d.get i) d.l.length=some s:=by
 induction k with
 | zero=>cases h
 | succ k ih =>
  unfold mY at h;cases ht:aR (d.get k) d.l.length with
  | none=>rw[ht] at h;obtain⟨h1,h2⟩:=ih h;exact⟨U,h2⟩
  | some r =>
   rw[ht] at h;simp only[] at h;cases hp:mY d k with
   | none=>rw[hp] at h;simp only[N6,SD] at h;obtain⟨rfl,rfl⟩:=h;exact⟨U,ht⟩
   | some q =>
    obtain⟨q,i'⟩:=q;rw[hp] at h;simp only[] at h;split at h
    ·simp only[N6,SD] at h;obtain⟨rfl,rfl⟩:=h;exact⟨U,ht⟩
    ·obtain⟨h1,h2⟩:=ih (hp.trans h);exact⟨U,h2⟩
theorem af.nz{d:af}{i:Int}{s:Bytes}(h:(d.write i s).2=0):(d.write i s).1.dead=d.dead:=by
 unfold af.write at h ⊢;split
 ·rfl
 ·rename_i hc
  rw[η hc] at h;split
  ·rfl
  ·rename_i hs
   rw[η hs] at h;split
   ·rename_i hf
    rw[Φ hf] at h;simp at h
   ·rename_i hf
    show d.bh.dead=d.dead;unfold af.bh;rw[η hf]
theorem af.nj(ws:List WrL):∀{d:af},(d.writes ws).2=0→(d.writes ws).1.dead=d.dead:=by
 induction ws with
 | nil=>intro d h;rfl
 | cons w ws ih =>
  intro d h;rw[af.writes] at h ⊢;split
  ·rename_i hz
   rw[Φ hz] at h;rw[ih h,af.nz hz]
  ·rename_i hz
   rw[η hz] at h;exact absurd h hz
theorem UO{l:List Bytes}{seq:Nat}{ws:List WrL}(h:eD l=some (seq,ws)):ws.length+1≤l.length∧∀w∈ws,w.2.length=256:=by
 cases l with
 | nil=>exact absurd h (by simp[eD])
 | cons b rest =>
  unfold eD at h;simp only[] at h;cases hh:dV b with
  | none=>rw[hh] at h;exact absurd h κ
  | some r =>
   obtain⟨sq,at_⟩:=r;rw[hh] at h;simp only[] at h;split at h
   ·exact absurd h κ
   ·rename_i hn
    split at h
    ·simp only[N6,SD] at h
     obtain⟨rfl,rfl⟩:=h;have h1:¬rest.length<at_.length:=fun hc=>hn (.inl hc)
     refine⟨by rw[Ys,Mu];omega,fun w hw=>?_⟩
     refine adi (fun hc=>hn (.inr ⟨w.2,?_,hc⟩))
     have e:at_.zip rest=at_.zip (rest.take at_.length):=by
      rw[List.zip_eq_zip_take_min,Sx U,NE (Ω _)]
     rw[e] at hw;exact(List.of_mem_zip hw).2
    ·exact absurd h κ
theorem EA{j:JL}{ws:List WrL}(h:j.frame=some ws):ws.length+1≤j.s.log-j.used∧ws.length≤48∧∀w∈ws,w.1<j.d.l.length∧w.2.length=256:=by
 unfold JL.frame at h;split at h
 ·rename_i seq ws' hu
  split at h
  ·rename_i hc
   injection h with h;subst h;obtain⟨h1,h2⟩:=UO hu;rw[OK,Wb] at h1;exact⟨U,U,fun w hw=>⟨(hc.2 w hw).2,h2 w hw⟩⟩
  ·cases h
 ·cases h
theorem cF.turned{w w':World}{F:Nat→Prop}{p b:Nat}{j j':JL}(h:cF w F p b j)(hb:Blk w' p 177 (jd b j'))(hd:j'.d=j.d)(t:ae (fun k=>k=p) w w'):cF w' F p b j' :=
 ⟨hb,h.fp,by rw[hd];exact((h.dev.minus h.box).beside t (fun k hk e=>hk.2 e)).mono (fun k hk=>hk.1),fun k hk=>Ψ (h.lt k hk) t.size⟩
theorem eC.own{w w0:World}{F:Nat→Prop}{v:Value}{ws:List WrL}(h:w.ownsRow w0.heap.size 116 2 v ws.length (aN ws))(hF:∀k,F k→k<w0.heap.size)(hn:∀x∈ws,x.1≤9223372036854775807∧x.2.length≤9223372036854775807):eC w F v ws:=by
 refine⟨⟨Sl.cy h,fun hp=>?_⟩,hn⟩
 obtain⟨h1,h2⟩:=h;rcases h2 with h2|⟨g,cap,cur,rfl,hb,hg,rest⟩
 ·omega
 ·exact⟨g,0,⟨cap,rfl⟩,aJ hg,fun hc=>by have:=hF g hc;omega⟩
def mM(w:World)(p:Nat):Nat:=match w.cell? ⟨p,7,none⟩ with|some (.int _ u)=>u.toNat|_=>0
structure JOk (s:bw) (n P:Nat) (j:JL):Prop where
 sl:j.s=s
 ok:j.d.Ok
 live:j.d.dead=false
 len:j.d.l.length=n
 used:j.used≤s.log
 next:j.next<18446744073709551616
 k:j.k≤1
 p:j.d.p.length≤P+j.used
theorem JOk.num{s:bw}{n P:Nat}{j:JL}(h:JOk s n P j)(h1:50≤s.log)(h2:s.log+3≤n)(h3:s.place<s.log)(ho:s.Ok)(hP:P≤800000):fR j:=by
 have hm:=h.ok.max;have hu:=h.used;have hs:=h.sl;have hl:=h.len;have hp:=h.p;obtain⟨o1,o2,o3,o4⟩:=ho;refine⟨by rw[hs];omega,by rw[hs];omega,by rw[hs];omega,U,by rw[hs];exact o1,by rw[hs];exact o2,h.next,h.k,h.ok,fun _=>U⟩
theorem JOk.adv{s:bw}{n P:Nat}{j:JL}(h:JOk s n P j){ws:List WrL}(hf:j.frame=some ws)(hz:(j.d.writes ws).2=0):JOk s n P ({ j with d:=(j.d.writes ws).1 }.advance ws.length):=by
 obtain⟨f1,f2,f3⟩:=EA hf;have hs:=h.sl;have hu:=h.used;rw[hs] at f1;refine⟨hs,af.eS h.ok _,(af.nj _ hz).trans h.live,by rw[←h.len];exact af.gm _ _,?_,Tr _ Z,h.k,?_⟩
 ·show j.used+ws.length+1≤s.log;omega
 ·show(j.d.writes ws).1.p.length≤P+(j.used+ws.length+1)
  have:=af.j7 ws j.d;have:=h.p;omega
theorem I4{j:JL}(hf:j.frame=none)(m:Nat):JL.cX (m+1) j=(j,0):=by rw[JL.cX,hf]
theorem I5{j:JL}{ws:List WrL}(hf:j.frame=some ws)(m:Nat):JL.cX (m+1) j=if (j.d.writes ws).2=0 then JL.cX m ({ j with d:=(j.d.writes ws).1 }.advance ws.length) else({ j with d:=(j.d.writes ws).1 },(j.d.writes ws).2):=by rw[JL.cX,hf]
theorem EB{d:af}(h:d.dead=true):aL d=(⟨d,⟨0,0,0,0⟩,0,0,0⟩,4):=by unfold aL;rw[h,Φ rfl]
theorem Xd{d:af}(h:d.dead=false)(hp:mY d 2=none):aL d=(⟨d,⟨0,0,0,0⟩,0,0,0⟩,10):=by unfold aL;rw[h,η Z,←NK,hp]
theorem Xe{d:af}(h:d.dead=false){s:bw}{k:Nat}(hp:mY d 2=some (s,k)):aL d=if (JL.cX (s.log+1) ⟨d,s,k,s.s,0⟩).2=0 then(JL.cX (s.log+1) ⟨d,s,k,s.s,0⟩).1.cC else JL.cX (s.log+1) ⟨d,s,k,s.s,0⟩:=by unfold aL;rw[h,η Z,←NK,hp]
theorem Xf(w:World)(F:Nat→Prop)(b:Nat)(d:af)(h:cE w F b d)(hd:d.Ok)(h2:2≤d.l.length)(me:d.dead=true):
  Calls prog 102 #[au b] w fun e w'=>e=.returned (.tuple #[.pointer none,.int .i64 4])∧Q w w':=by
 have hr:=fun (W:World) (hq:Q w W)=>AQ W F b d 0 (h.keep hq) hd.max (fun hx=>by rw[me] at hx;cases hx)
 have hb:=fun (W:World) (hq:Q w W)=>oL W F b d (h.keep hq)
 have he:d.read 0=([],4):=by unfold af.read;have:d.chk 0=4:=by { unfold af.chk;rw[me,Φ rfl] };rw[this,η Z]
 rw[he] at hr;have Sn:min (2:Int) (d.l.length:Int)=2:=U;have HR:=Hd hr;have HB:=Hd hb;have HM:=Hd Sn;clear hr hb he h hd me Sn;go_enter func102,ntmps102;go_wp2_with fail;refine(HB.out _ (Q.alloc _ _)).mono ?_;rintro e w1 ⟨rfl,rfl⟩;go_wp2_with fail;rw[HM.out];generalize gD:w.alloc _=w2;have eG:Q w w2:=by rw[←gD];exact Q.alloc _ _
 have bJ:=Hd eG;clear gD eG;go_loopw [20] (fun v wr=>v=.int .i64 0∧wr=w2) (fun _ _=>0)
 case atStart=>exact⟨rfl,rfl⟩
 case round =>
  obtain⟨rfl,rfl⟩:=hrel;go_wp2_with fail;refine(HR.out _ bJ.out).mono ?_;rintro e w3 ⟨rfl,q3⟩;have fu:=Hd (bJ.out.trans q3);clear q3;go_wp2_with fail;go_ret2;exact⟨rfl,fu.out⟩
def vF(seq:Nat)(ws:List WrL)(k:Nat):Bytes:=ek++(aB seq++(aB (seq / 4294967296)++(aB ws.length++iR ((ws.take k).map (·.1)))))
theorem Xg(seq:Nat)(ws:List WrL)(k:Nat)(h:k<ws.length):vF seq ws (k+1)=vF seq ws k++aB ws[k].1:=by
 unfold vF;rw[M2 h,Pu];simp[iR,MY]
theorem uu(seq:Nat)(ws:List WrL)(k:Nat)(h:k≤ws.length):(vF seq ws k).length=16+4*k:=by
 unfold vF;simp only[Δ,aH,uw,OK,Mz,Sx h];have:ek.length=4:=rfl;omega
theorem rN(seq:Nat)(ws:List WrL):vF seq ws ws.length++bg (232-4*ws.length)=jo seq ws:=by
 unfold vF jo;rw[N5];simp only[MY]
theorem QD(n:Nat):Lib.repeatL [(0:UInt8)] n=bg n:=by
 induction n with
 | zero=>rfl
 | succ n ih=>rw[Lib.repeatL,ih];rfl
theorem Bm(w:World)(seq:Nat)(hs:seq<18446744073709551616)(lv:Value)(ws:List WrL)(h:Sl w lv ws.length 2 (aN ws))(hw:sS ws):
  Calls prog 245 #[.int .u64 (seq:Nat),lv] w fun e w'=>∃v',e=.returned (.tuple #[v',.int .i64 0])∧w'.ownsRow w.heap.size 9 1 v' (ws.length+1) ((jG seq ws).map ah)∧Q w w':=by
 obtain⟨la,lc,rfl,lX⟩:=h.value;obtain⟨i0,hi,bY,bB,aW⟩:=info_parts DN;have aP:∀k (hk:k<ws.length),∃lb lo,la=some ⟨lb,lo,none⟩∧w.cell? ⟨lb,lo+k*2,none⟩=some (.int .i64 (ws[k].1:Nat))∧w.cell? ⟨lb,lo+k*2+1,none⟩=some (ah ws[k].2):=fun k hk=>by
  obtain⟨lb,lo,h1,h4⟩:=lX U;exact⟨lb,lo,h1,h4 _ _ (fQ ws k hk).1,by have:=h4 _ _ (fQ ws k hk).2;rwa [←P0] at this⟩
 have bQ:∀k (hk:k<ws.length),ws[k].1<4096∧ws[k].2.length=256:=fun k hk=>hw.2.2 _ (MA hk)
 have qM:=hw.1;have kV:=hw.2.1;have aC:=Xg seq ws;have oq:=uu seq ws;have GX:=rN seq ws;have lT:(67:UInt8)::68::88::84::((aB (seq%4294967296)++aB (seq / 4294967296))++aB ws.length)=vF seq ws 0:=by unfold vF;rw[uq];simp[iR,ek,MY]
 have cf:=fun (v:Nat) (hv:v<4294967296) (W:World)=>vY v W hv
 have HC:=Hd aP;have HO:=Hd bQ;have aX:=Hd aC;have Zc:=Hd oq;have HEN:=Hd GX;have HK0:=Hd lT;have CF:=Hd cf;have HW:=Hd hw;have HHD:=Hd (show bK seq ws=jo seq ws++(aB (fU (jo seq ws++(ws.map (·.2)).flatten))++dq) from rfl)
 have eH:¬(ws.length:Int)=0:=U;have hb1:((ws.length:Int)==0)=false:=Γ.2 eH;have bN:¬(48:Int)<(ws.length:Int):=U;have l1:(aB (seq%4294967296)).length=4:=rfl;have l2:(aB (seq / 4294967296)).length=4:=rfl;have l3:(aB ws.length).length=4:=rfl;clear aP bQ aC oq GX lT cf hw h lX;go_enter func245,ntmps245;go_wp2_with fail;rw[show((seq:Int)%4294967296)=((seq%4294967296:Nat):Int) by omega]
 refine(CF.out _ U _).mono ?_;rintro e w1 ⟨rfl,q1⟩;have dF:=Hd q1;clear q1;go_wp2_with fail;rw[show((seq:Int) / 4294967296)=((seq / 4294967296:Nat):Int) by omega]
 refine(CF.out _ U _).mono ?_;rintro e w2 ⟨rfl,q2⟩;have bJ:=Hd (dF.out.trans q2);clear q2;go_wp2_with fail;refine(CF.out _ U _).mono ?_;rintro e w3 ⟨rfl,q3⟩;have fu:=Hd (bJ.out.trans q3);clear q3;go_wp2_with fail;simp only[bytes_append,PC,Pr];rw[HK0.out];have AJ:w3.ownsRow w.heap.size 9 1 (.slice none 0 0) 0 ((([]:List WrL)).map fun x=>ah x.2):=World.ownsRow_nil _ _ _ _
 go_loopw [6,7,34] (fun dv hv v wr=>∃k:Nat,v=.int .i64 (k:Nat)∧k≤ws.length∧hv=ah (vF seq ws k)∧Hid (wr.ownsRow w.heap.size 9 1 dv k ((ws.take k).map fun x=>ah x.2))∧Hid (Q w wr)) (fun _ _ v _=>ws.length-(intOf v).toNat)
 case atStart=>exact⟨0,rfl,MD _,rfl,AJ,fu.out⟩
 case round =>
  obtain⟨k,rfl,hk,rfl,HR,lH⟩:=hrel;by_cases ay:k<ws.length
  ·have bq:(k:Int)<(ws.length:Int):=U
   obtain⟨lb,lo,rfl,x1,x2⟩:=HC.out k ay;have y1:=aI lH.out x1;have y2:=aI lH.out x2;obtain⟨eu,gV⟩:=HO.out k ay;have kU:=aX.out k ay;have oq:=Zc.out k hk;have dP:=HR.out;have jJ:=Q.alloc wr (.cells #[.int .i64 (ws[k].1:Nat),ah ws[k].2] 116);have abD:=ownsRow_below dP jJ;have mR:((ws.take (k+1)).map fun x=>ah x.2)=((ws.take k).map fun x=>ah x.2)++[ah ws[k].2]:=by rw[M2 ay,Pu];rfl
   have Sd:=Hd kU;have wL:=Hd mR;have lu:=Hd abD;have zH:=Hd (lH.out.trans jJ);clear kU mR dP abD jJ x1 x2;generalize ws[k].1=bk at *;generalize ws[k].2=dk at *;generalize vF seq ws k=tk at *;have gI:¬(bk:Int)<0:=U;have sN:¬(4096:Int)≤(bk:Int):=U;have gY:(!((dk.length:Int)==256))=false:=by rw[NX.2 U];rfl
   have l4:(aB bk).length=4:=rfl;go_wp2_with fail;have kF:=((Blk.new wr 116 #[.int .i64 (bk:Nat),ah dk]).c2).2.1;refine(CF.out _ U _).mono ?_;rintro e w5 ⟨rfl,q5⟩;have m1:=aI q5 kF;have yh:=ownsRow_below lu.out q5;have kJ:=zH.out.trans q5;have cO:∀u∈#[ah dk].toList,u.oneCell'=true:=by intro u hu;simp at hu;subst hu;rfl
   have dI:(k+1)*16≤140737488355328:=U;have Af:=Hd yh;have jK:=Hd kJ;have vg:=Hd cO;have xI:=Hd dI;clear yh kJ cO dI q5 kF y1 y2;go_wp2_with (at_builtin;refine bG w5 ρ _ _ 64 ρ w.heap.size 9 _ i0 (ah []) 1 16 underlying64 hi bY bB aW rfl Z Z _ _ _ ρ Af.out #[ah dk] ρ rfl vg.out xI.out jK.out.size ?_)
   intro g cap w6 hr hg ho nR nX;have yj:Q w w6:=bD jK.out Af.out hg (Ω _) jK.out.size;have OV:=Hd hr;have lG:=Hd yj;clear hr hg ho yj;go_wp2_with fail;go_roundw;case rel=>exact⟨k+1,by go_num,U,by rw[Sd.out];simp only[bytes_append],by rw[wL.out];have h:=OV.out;rw[←List.map_take] at h;exact Hd h,lG⟩
   case measure=>simp[intOf];omega
  ·have bq:¬(k:Int)<(ws.length:Int):=U
   obtain rfl:k=ws.length:=U;have oq:=Zc.out ws.length (Ω _);have GX:=HEN.out;have dP:=HR.out;rw[N5] at dP;have nU:=fun (W:World)=>Tryz.strings_Repeat_main ⟨#[0]⟩ (232-4*ws.length) W U U (by show 1*(232-4*ws.length)≤_;omega) Z
   have hci:((232-4*ws.length:Nat):Int)=248-(16+4*(ws.length:Int)):=U;have OX:=QD (232-4*ws.length);have xX:=fC (232-4*ws.length);have dZ:=qd seq ws kV;have xZ:=Hd nU;have HRZ:=Hd OX;have ail:=Hd GX;have lu:=Hd dP;clear nU OX GX dP;generalize vF seq ws ws.length=tk at *;have amy:(tk.length:Int)=16+4*(ws.length:Int):=U;go_wp2_with fail;rw[←hci];refine(xZ.out _).mono ?_;rintro e w4 ⟨rfl,q4⟩;have jK:=Hd (lH.out.trans q4);have afI:=Hd (ownsRow_below lu.out q4);clear q4;rw[HRZ.out];go_wp2_with fail;simp only[bytes_append];rw[ail.out];have bX:=Sl.cy afI.out;have iU:(ws.map (·.2)).map ah=ws.map fun x=>ah x.2:=by rw[SJ];rfl
   have aat:Strs w4 u6 (ws.map (·.2)):=by
    unfold Strs;rw[iU,OK];exact bX
   have hsum:=oc w4 (jo seq ws) u6 (ws.map (·.2)) aat (by rw[OK];omega) U (fun q hq=>by
    obtain⟨x,hx,rfl⟩:=NF.1 hq;have:=(HW.out.2.2 x hx).2;omega)
   have VF:=HHD.out;have hl5:(aB (fU (jo seq ws++(ws.map (·.2)).flatten))).length=4:=rfl
   have fV:(jG seq ws).map ah=[ah (bK seq ws)]++ws.map fun x=>ah x.2:=by unfold jG;rw[On,iU];rfl
   have ain:=Hd hsum;have HWM:=Hd VF;have aio:=Hd bX;have kY:=Hd fV;clear hsum VF aat bX fV iU;generalize (ws.map (·.2)).flatten=dat at *
   generalize jo seq ws=bd at *;generalize fU (bd++dat)=cr at *;refine ain.out.mono ?_;rintro e w5 ⟨rfl,q5⟩;have lG:=Hd (jK.out.trans q5);have aip:=Hd (aio.out.stays q5);clear q5;have hh:(bd++aB cr)++[67,68,88,69]=bK seq ws:=by rw[HWM.out,MY];rfl
   have HH:=Hd hh;clear hh;have jJ:=Q.alloc w5 (.cells #[ah (bK seq ws)] 9);have CB:=Qy w5 w.heap.size 9 (ah (bK seq ws)) lG.out.size;have h1:∀u∈ws.map fun x=>ah x.2,u.oneCell'=true:=fun u hu=>by obtain⟨d,_,rfl⟩:=NF.1 hu;rfl
   have h2:1+ws.length≤maxLen:=by unfold maxLen;omega
   have h3:(1+ws.length)*16≤140737488355328:=U;have HOW:=Hd CB;have aau:=Hd (aip.out.stays jJ);have H1:=Hd h1;have H2:=Hd h2;have H3:=Hd h3;have lJ:=Hd (lG.out.trans jJ);clear CB h1 h2 h3 jJ;generalize bK seq ws=gV at *;go_wp2_with (at_builtin;simp only[bytes_append];rw[HH.out];refine fM (w5.alloc (.cells #[ah gV] 9)) ρ _ _ 64 ρ w.heap.size 9 i0 (ah []) 1 16 underlying64 hi bY bB aW rfl Z _ 1 [ah gV] ρ HOW.out _ ws.length (ws.map fun x=>ah x.2) ρ aau.out H1.out H2.out H3.out lJ.out.size ?_)
   intro v' w' hr hg ho;have OQ:Q w w':=bD lJ.out HOW.out hg (Ω _) lJ.out.size;have Cw:w'.ownsRow w.heap.size 9 1 v' (ws.length+1) ((jG seq ws).map ah):=by rw[kY.out,abX];exact hr
   have ow:=Hd Cw;have VH:=Hd OQ;clear Cw OQ hr hg ho;go_wp2_with fail;go_ret2;exact⟨_,rfl,ow.out,VH.out⟩
theorem NM:(prog.info? 9).map (fun i=>(i.zero,i.size,i.bytes))=some (some (ah []),1,16):=by kernel_rfl
end
end Go.Proofs.YtonlbpljghohmaaGreatDoor
