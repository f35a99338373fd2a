/- Joined: WCacE to WCacH -/
import Derived.Test.YtbkahhebmpehnaaGreatDoorCXMapR
import Derived.Test.YtbkahhebmpehnaaGreatDoorCXShelf
set_option linter.all false
set_option maxRecDepth 100000
set_option maxHeartbeats 8000000
namespace Go.Proofs.YtbkahhebmpehnaaGreatDoor
open Go.Proofs.Tryz
section
open Go.RowKit
attribute [local go_sem] Oper.semAt_some
abbrev mx(m:List (Nat×Value)):List Nat:=m.map fun x=>x.1
theorem xn:(prog.info? 3).map (fun i=>(i.zero,i.size,i.bytes))=some (some (.int .i64 0),1,8):=by kernel_rfl
theorem Pz(B mb:Nat)(m:List (Nat×Value))(w:World)(hb:Boxed w B 256 (.map (some mb)))(hm:di w mb m)(hlen:m.length≤1000000):
  Calls prog 279 #[.slice none 0 0,.func (.func 254) #[] #[.pointer (some ⟨B,0,none⟩)]] w fun e w' =>
   ∃(v:Value) (ks:List Nat),e=.returned v∧ks.Perm (m.map (·.1))∧w'.ownsRow w.heap.size 3 1 v ks.length (ks.map dX)∧Q w w':=by
 obtain⟨i0,hi,bY,bB,aW⟩:=info_parts xn;refine(callsIn_wide (n:=0)).1 ?_;refine callsIn_of_wp_marks func279 rfl trivial ?_ rfl;simp only[ntmps279,Tr,Θ,Nm,Nat.reduceAdd,Nat.reduceSub,abF,abG,ab3,abO,N0,Of];gi_wp2_with fail;have hB0:Below w.heap.size w (w.alloc (.cells #[.slice none 0 0] 51)):=(Below.refl _ w).alloc (Ω _) _;have bP:(w.alloc (.cells #[.slice none 0 0] 51)).heap.size=w.heap.size+1:=κ;have b0:Boxed (w.alloc (.cells #[.slice none 0 0] 51)) w.heap.size 51 (.slice none 0 0):=Boxed.new w _ _;have Yt:=aJ hb;have acT:=hm.lt;obtain⟨W0,hW0⟩:∃W0,w.alloc (.cells #[.slice none 0 0] 51)=W0:=⟨_,rfl⟩;rw[hW0] at hB0 bP b0 ⊢;clear hW0;refine Ns (gf:=254) (lb:=#[.pointer (some ⟨B,0,none⟩)]) rfl (enters_of func254 (by kernel_rfl) rfl) (step:=oB (mx m)) (fin':=fun ks=>ks.Perm (mx m)) (s0:=[]) (own:=fun _=>False) (keep:=fun k=>k=B∨k=mb) (n₀:=w.heap.size)
  (fun W1 hq hz=>zE B mb w.heap.size m W1 ((fun hx=>(hq.block _ (aJ hx)).trans hx) ((hB0.block B Yt).trans hb)) (hm.same ((hq.block mb U).trans (hB0.block mb acT))) U)
  (fun _ h=>h.elim) (fun k h=>U) U (fun ks W args ks2 h=>by obtain⟨k,_,_,rfl,_⟩:=h;rfl)
  (fun ks W=>(∃v,Boxed W w.heap.size 51 v∧W.ownsRow w.heap.size 3 1 v ks.length (ks.map dX)∧(∀g,v.ownBlock=some g→w.heap.size+3≤g))∧Below w.heap.size w W∧ks.Nodup∧(∀k∈ks,k∈mx m))
  (fun _ _ _=>False)
  (fun (ks ks2:List Nat) (a':Act) (_:World)=>∃k:Nat,k∈mx m∧k∉ks∧ks2=ks++[k]∧a'={ tmps:=#[.slice none 0 0,.func (.func 254) #[] #[.pointer (some ⟨B,0,none⟩)],.pointer (some ⟨w.heap.size,0,none⟩),undef,.slice none 0 0,dX k,.func (.func 254) #[] #[.pointer (some ⟨B,0,none⟩)],dX k,undef,undef,undef,undef,undef],defers:=[] })
  (fun ks A B' hI hi=>by
   obtain⟨⟨v,h0,ho,hg⟩,hb,h3⟩:=hI;exact⟨⟨v,hi.boxed h0 (fun h=>h),hi.owns ho (fun g e h=>h),hg⟩,hi.below hb U hb.size (fun _ h=>h.elim),h3⟩)
  (fun _ _ _ _ h _=>h) (fun _ _ _ _ _ h _=>h) ⟨⟨_,b0,World.ownsRow_nil _ _ _ _,by simp[Value.ownBlock]⟩,hB0,κ,κ⟩ ?assign ?body ?done ?stop
 case assign =>
  rintro l ks ks2 W args K zq ⟨k,hk,Jv,rfl,rfl⟩ hz hK;gi_wp2;exact hK _ _ (Q.refl _) zq ⟨k,hk,Jv,rfl,rfl⟩
 case body =>
  rintro l ks ks2 a' W ⟨⟨rc,hrc⟩,RU⟩ hl ⟨⟨v,h0,ho,hg⟩,bN,lU,mq⟩ ⟨k,hk,Jv,rfl,rfl⟩ mP hz;subst hl;have hsW:=bN.size;have zB:ks.length≤m.length:=by
   have:=acE lU (l₂:=m.map (·.1)) (fun k hk=>mq k hk)
   simpa using this
  have c0:=h0.cell;have f0:=h0.frozen;have RV:(ks++[k]).Nodup:=PT.2 ⟨lU,κ,fun a ha b hb=>by simp at hb;subst hb;exact fun e=>Jv (e▸ha)⟩
  have abn:∀x∈ks++[k],x∈m.map (·.1):=fun x hx=>by
   rcases My.1 hx with hx|hx
   ·exact mq x hx
   ·simp at hx;subst hx;exact hk
  have H0:=Hd h0;have HO:=Hd ho;have Vz:=Hd hg;have HB:=Hd bN;have HN:=Hd RV;have HS:=Hd abn;clear h0 ho hg bN lU mq RV abn RU hrc hk Jv;have fP:w.heap.size≤W.heap.size:=hsW;gi_wp2_with (gi_at_builtin;go_must (refine Py W ρ _ _ 51 ρ w.heap.size 3 _ i0 (.int .i64 0) 1 8 underlying51 hi bY bB aW rfl Z Z _ _ _ ρ HO.out 1 Z #[dX k] ρ rfl ?c1 ?c2 fP ?_));case c1=>simp[Value.oneCell']
  case c2=>omega
  intro g cp w4 Cq lV pU Kn amr;have xQ:some w.heap.size≠v.ownBlock:=H0.out.not_row Z HO.out;have hge:w.heap.size+3≤g:=by
   rcases pU with h|h
   ·exact Vz.out g h
   ·omega
  have b04:Boxed w4 w.heap.size 51 v:=H0.out.kept lV xQ;have sN:=HB.out.grown lV fP (fun j hj=>by have:=Vz.out j hj;omega)
  have ajR:∀j,((j=B∨j=mb)∨j=W0.heap.size∨j=W0.heap.size+1)→j<W.heap.size:=fun j hj=>U
  have kk4:Bk (fun b=>(b=B∨b=mb)∨b=W0.heap.size∨b=W0.heap.size+1) w.heap.size W w4 :=
   Bk.grown lV fP (fun j hj=>by
    have:=Vz.out j hj;obtain⟨cs,mQ⟩:=oH HO.out j hj;exact⟨U,fun hc=>U,cs,_,_,mQ⟩)
  have B04:=Hd b04;have O4:=Hd Cq;have VA:=Hd sN;have KK4:=Hd kk4;have c04:=b04.cell;have f04:=b04.frozen;clear b04 Cq sN kk4 lV pU c0 f0;gi_wp2_with fail;refine⟨KK4.out.trans (Bk.setCell _ κ (by simp;omega) _),⟨_,B04.out.set _,ownsRow_setCell_other (by rw[Δ,N5];exact O4.out) (by simp[Value.ownBlock];omega) _,fun j e=>by simp[Value.ownBlock] at e;omega⟩,VA.out.setCell κ _,HN.out,HS.out⟩
 case done =>
  rintro D ks W hD _ hp ⟨⟨v,h0,ho,hg⟩,bN,lU,mq⟩ hK;have c0:=h0.cell;have HO:=Hd ho;have HK:=Hd hK;have HB:=Hd bN;have HP:=Hd hp;clear ho hK bN h0 lU mq hp;gi_wp2_with fail;refine⟨κ,.inl ⟨_,_,rfl,run_takeDeferred HK.out,?_⟩⟩;exact⟨_,results_tmp rfl _ _ _,v,ks,rfl,HP.out,ownsRow_putObj HO.out _ HK.out rfl,HB.out.trans (Bk.put (own:=fun _=>False) (n₀:=w.heap.size) _ HK.out rfl U (fun h=>h)).below⟩
 case stop =>
  rintro D c k W _ h _;exact h.elim
end
section
open Go.Shelf Go.RowKit Go.Lib Go.Sort
open Go.RowKit
shelf_lay_g SlLaysF.n6 Slsf 6 at Tryz 298 as Tryz.sortInt
theorem IW(B mb:Nat)(m:List (Nat×Value))(w:World)(hb:Boxed w B 256 (.map (some mb)))(hm:di w mb m)(hlen:m.length≤1000000):
  Calls prog 252 #[.func (.func 254) #[] #[.pointer (some ⟨B,0,none⟩)]] w fun e w' =>
   ∃(v:Value) (ks:List Nat),e=.returned v∧ks.Perm (m.map (·.1))∧w'.ownsRow w.heap.size 3 1 v ks.length (ks.map dX)∧Q w w':=by
 have ha:=Pz B mb m w hb hm hlen;have HA:=Hd ha;clear ha hb hm;go_enter func252,ntmps252;go_wp2_with fail;refine HA.out.mono ?_;rintro e w1 ⟨v,ks,rfl,hp,ho,q⟩;have HP:=Hd hp;have HO:=Hd ho;have HQ:=Hd q;clear hp ho q;go_wp2_with fail;go_ret;exact⟨_,ks,rfl,HP.out,HO.out,HQ.out⟩
theorem yL{α:Type}[Inhabited α](enc:α→Value)(w:World)(blk off n:Nat)(d:Array α)(os:Array Obj):w.grownBy (sortWorld enc w blk off n d os) (some blk):=by
 have hs:(Go.Sort.putRow enc (Go.Sort.ahead w n) blk off d).heap.size=w.heap.size:=by rw[Go.Sort.size_putRow];rfl
 refine⟨rfl,rfl,rfl,?_,fun k hk aU=>?_⟩
 ·unfold sortWorld
  rw[Go.Sort.size_grow];omega
 ·have hb:blk≠k:=fun e=>aU (by rw[e])
  show((Go.Sort.putRow enc (Go.Sort.ahead w n) blk off d).heap++os)[k]?=w.heap[k]?;rw[adf U];show(w.heap.modify blk _)[k]?=w.heap[k]?;rw[T0,η hb]
theorem PD(w:World)(F:Nat→Prop)(bc cb p most clock:Nat)(ms:Int)(mb:Nat)(m:bU)(h:co w F cb p most clock ms mb m)(hk:(m.map (·.1)).Nodup)(hb:w.cell? ⟨bc,0,none⟩=some (au cb))(x y:Nat×gq)(hx:x∈m)(hy:y∈m)
  (hu:∀z∈m,z.2.used≤2000000000000000000) :
  Calls prog 283 #[dX x.1,dX y.1,.pointer (some ⟨bc,0,none⟩)] w fun e w'=>e=.returned (.int .i64 ((y.2.used:Int)-(x.2.used:Int)))∧∃q,w'=w.drewN q:=by
 have c4:=h.box.cell 4 (.map (some mb)) rfl;have gx:=kL hk (k:=x.1) (v:=x.2) hx;have gy:=kL hk (k:=y.1) (v:=y.2) hy;have ux:=hu x hx;have uy:=hu y hy;have dx:=(h.kept x hx).1.cell 3 (.int .i64 (x.2.used:Nat)) rfl;have dy:=(h.kept y hy).1.cell 3 (.int .i64 (y.2.used:Nat)) rfl;have lx:=uH (P:=prog) (w:=w.drew) (h.keep (Q.drew w)).map 256 3 257 underlying256 underlying3 (.pointer none) (l6 _) x.1 false;have ly:=uH (P:=prog) (w:=w.drew) (h.keep (Q.drew w)).map 256 3 257 underlying256 underlying3 (.pointer none) (l6 _) y.1 false;simp only[M2,ON] at lx ly;rw[h.ij gx] at lx;rw[h.ij gy] at ly;clear h gx gy hu hk hx hy;obtain⟨x1,xp,xd,xb,xu⟩:=x;obtain⟨y1,yp,yd,yb,yu⟩:=y;simp only at *;go_enter func283,ntmps283;go_wp2_with fail;go_region;all_goals
  go_wp2_with fail;go_ret;exact⟨rfl,1,rfl⟩
abbrev me(m:bU):={ x:Nat×gq // x∈m }
def wX{m:bU}(x:me m):Value:=dX x.1.1
def Iu{m:bU}(x y:me m):Int:=(y.1.2.used:Int)-(x.1.2.used:Int)
theorem E6(m:bU):Go.Sort.SWO (ltOf (Iu (m:=m))):=by
 refine⟨fun x=>by simp[ltOf,Iu],fun x y z h1 h2=>?_,fun x y z h1 h2=>?_⟩
 ·unfold ltOf Iu at *
  have h1:=Re h1;have h2:=Re h2;exact MM U
 ·unfold ltOf Iu at *
  have h1:=aez h1;have h2:=aez h2;exact Mz U
theorem Qn{w:World}{g n cap size:Nat}{xs:List Value}(h:Sl w (.slice (some ⟨g,0,none⟩) n cap) n size xs)(hn:0<n)(j:Nat)(u:Value)(hj:xs[j]?=some u):w.cell? ⟨g,j,none⟩=some u:=by
 obtain⟨_,a,c,hv,cO⟩:=h;obtain⟨b2,off,rfl,dI⟩:=cO hn;have h2:=dI j u hj;simp only[Value.slice.injEq,M3,Addr.mk.injEq] at hv;obtain⟨⟨rfl,rfl,_⟩,_⟩:=hv;rwa [On] at h2
def Iw(m:bU):(ks:List Nat)→(∀k∈ks,k∈m.map (·.1))→List (me m)
 | [],_=>[]
 | k::ks,h=>⟨(k,(bC k m).get (by
   cases hg:bC k m with
   | some v=>rfl
   | none =>
    obtain⟨x,hx,e⟩:=MD.1 (h k (Mu ..))
    exact absurd e (oK.1 hg x hx))),gH (Option.some_get _).symm⟩::Iw m ks (fun j hj=>h j (Mn _ hj))
theorem Aq(m:bU):∀(ks:List Nat) (h:∀k∈ks,k∈m.map (·.1)),(Iw m ks h).map (fun x=>x.1.1)=ks
 | [],_=>rfl
 | k::ks,h=>by rw[Iw,No,Aq m ks]
theorem Qo(w:World)(F:Nat→Prop)(bc cb p most clock:Nat)(ms:Int)(mb:Nat)(m:bU)(base:Nat)(v:Value)(ks:List Nat)(h:co w F cb p most clock ms mb m)(hk:(m.map (·.1)).Nodup)(hb:Boxed w bc 155 (au cb))(hu:∀z∈m,z.2.used≤2000000000000000000)
  (ho:w.ownsRow base 3 1 v ks.length (ks.map dX)) (zB:∀k∈ks,k∈m.map (·.1)) (hn:0<ks.length) (hlen:ks.length≤1000000) (hF:∀k,F k→k<base) (hbc:bc<base) :
  Calls prog 298 #[v,.func (.func 283) #[] #[.pointer (some ⟨bc,0,none⟩)]] w fun e w'=>e=.returned (.tuple #[])∧∃(g cap:Nat) (ks':List Nat),v=.slice (some ⟨g,0,none⟩) ks.length cap∧base≤g∧ks'.Perm ks∧(∀i (hi:i<ks'.length),w'.cell? ⟨g,i,none⟩=some (dX ks'[i]))∧w.grownBy w' (some g)∧g<w'.heap.size:=by
 have aU:Nonempty (me m):=by
  obtain⟨x,hx,_⟩:=MD.1 (zB ks[0] (LO hn));exact⟨⟨x,hx⟩⟩
 haveI:Inhabited (me m):=⟨Classical.choice aU⟩;rcases ho.2 with ⟨_,hz⟩|⟨g,cap,cur,rfl,lF,hg,RX,_⟩
 ·omega
 ·have bX:=Sl.cx ho
  obtain⟨d,hd⟩:∃d:Array (me m),d=(Iw m ks zB).toArray:=⟨_,rfl⟩;have Za:d.size=ks.length:=by
   have:=Pu List.length (Aq m ks zB);rw[NE] at this;rw[hd];simpa using this
  have zC:∀j (hj:j<d.size),(d[j]!).1.1=ks[j]'(by rw[←Za];exact hj):=fun j hj=>by
   have e:=Aq m ks zB;have xR:j<(Iw m ks zB).length:=by rw[hd] at hj;simpa using hj
   rw[ZZ d j hj];subst hd;have:=List.getElem_of_eq e (by simpa using xR:j<((Iw m ks zB).map (fun x=>x.1.1)).length)
   simpa using this
  have hH:Go.Sort.Holds wX w g 0 d:=fun j hj=>by
   have xR:j<ks.length:=by rw[←Za];exact hj
   have hc:=Qn bX hn j (dX ks[j]) (by simp[xR])
   rw[On];refine⟨by rw[hc];unfold wX;rw[zC j hj],?_⟩
   have:Blk w g 3 cur:=hg;exact this.frozen j
  have aia:CmpLays1 prog 283 #[.pointer (some ⟨bc,0,none⟩)] (wX (m:=m)) (Iu (m:=m)) g 0 d.size w:=CmpReads.lays (fun mm os dk zC x y=>by
   have oW:=yL (wX (m:=m)) w g 0 mm dk os;have ht:ae (fun k=>k=g) w (sortWorld (wX (m:=m)) w g 0 mm dk os):=co.eK oW
   have h2:=h.beside ht (fun k hk e=>by have:=hF k hk;omega)
   have Du:¬bc=g:=U;have bN:(sortWorld (wX (m:=m)) w g 0 mm dk os).cell? ⟨bc,0,none⟩=some (au cb):=ht.cell hb.cell Du;exact PD _ F bc cb p most clock ms mb m h2 hk bN x.1 y.1 x.2 y.2 hu)
  have hs:=Any.slices_SortFunc Tryz.sortInt (wX (m:=m)) (fun _=>rfl) (Iu (m:=m)) (E6 m) 283 #[.pointer (some ⟨bc,0,none⟩)] g 0 cap d w (enters_of func283 (by kernel_rfl) rfl) aia hH (aJ hg) U
  rw[Za] at hs;change Calls prog 298 _ _ _ at hs;refine hs.mono ?_;rintro e w' ⟨rfl,d',n,os,hp,_,rfl⟩;have acV:d'.size=d.size:=hp.1;refine⟨rfl,g,cap,d'.toList.map (fun x=>x.1.1),rfl,lF,?_,fun i hi=>?_,yL (wX (m:=m)) w g 0 n d' os,?_⟩
  ·have h3:=hp.2.2
   have e1:(d'.extract 0 ks.length).toList=d'.toList:=by rw[←Za,←acV];simp
   have e2:(d.extract 0 ks.length).toList=d.toList:=by rw[←Za];simp
   rw[e1,e2] at h3;have h4:=h3.map (fun x=>x.1.1)
   have h5:d.toList.map (fun x=>x.1.1)=ks:=by rw[hd];exact Aq m ks zB
   rw[h5] at h4;exact h4
  ·have pK:i<d'.size:=by simpa using hi
   have hh:=(holds_sortWorld wX w g 0 n d d' os (aJ hg) hH acV i pK).1;rw[On] at hh;rw[hh,ZZ d' i pK];simp[wX]
  ·have:=(yL (wX (m:=m)) w g 0 n d' os).size
   exact Ψ (aJ hg) this
theorem MH(w:World)(F:Nat→Prop)(bc B cb p most clock:Nat)(ms:Int)(mb:Nat)(m:bU)(h:co w F cb p most clock ms mb m)(hk:(m.map (·.1)).Nodup)(hb:Boxed w bc 155 (au cb))(hB:Boxed w B 256 (.map (some mb)))(hu:∀z∈m,z.2.used≤2000000000000000000)(hn:0<m.length)(hlen:m.length≤1000000):
  Calls prog 282 #[.func (.func 254) #[] #[.pointer (some ⟨B,0,none⟩)],.func (.func 283) #[] #[.pointer (some ⟨bc,0,none⟩)]] w fun e w' =>
   ∃(g cap:Nat) (ks:List Nat),e=.returned (.slice (some ⟨g,0,none⟩) ks.length cap)∧w.heap.size≤g∧ks.Perm (m.map (·.1))∧(∀i (hi:i<ks.length),w'.cell? ⟨g,i,none⟩=some (dX ks[i]))∧Q w w'∧g<w'.heap.size:=by
 have hc:=IW B mb (mapOf m) w hB h.map (by rw[h.len];exact hlen)
 have Aa:(mapOf m).map (·.1)=m.map (·.1):=by simp[mapOf]
 rw[Aa] at hc;have HC:=Hd hc;have HH:=Hd h;have HB:=Hd hb;have HK:=Hd hk;have HU:=Hd hu;have Yt:=aJ hb;clear hc Aa h hb hB hk hu;go_enter func282,ntmps282;go_wp2_with fail;refine HC.out.mono ?_;rintro e w1 ⟨v,ks,rfl,hp,ho,q⟩;have oq:ks.length=m.length:=by rw[hp.length_eq,NE]
 have cs:=Qo w1 F bc cb p most clock ms mb m w.heap.size v ks (HH.out.keep q) HK.out ((q.block _ Yt).trans HB.out) HU.out ho (fun k hk=>hp.mem_iff.1 hk) U U (fun k hk=>HH.out.lt k hk) Yt
 have HP:=Hd hp;have HQ:=Hd q;have CS:=Hd cs;clear hp ho q cs oq;go_wp2_with fail;refine CS.out.mono ?_;rintro e w2 ⟨rfl,g,cap,ks',rfl,lF,iq,OE,oW,ay⟩;have fF:ks'.length=ks.length:=iq.length_eq;have eG:Q w w2:=Below.trans HQ.out (show Below w.heap.size w1 w2 from⟨oW.os,oW.tape,oW.output,oW.size,fun i hi=>oW.block i (Ψ hi HQ.out.size) (fun e=>by injection e with e;omega)⟩)
 have kX:=Hd iq;have xW:=Hd OE;have bJ:=Hd eG;have HL2:=Hd fF;clear iq OE oW eG fF;go_wp2_with fail;go_ret;exact⟨g,cap,ks',by rw[HL2.out];rfl,lF,kX.out.trans HP.out,xW.out,bJ.out,ay⟩
theorem EV(w:World)(F:Nat→Prop)(cb p most clock:Nat)(ms:Int)(mb:Nat)(m:bU)(h:co w F cb p most clock ms mb m)(hk:(m.map (·.1)).Nodup)(hu:∀z∈m,z.2.used≤2000000000000000000)(hn:0<m.length)(hlen:m.length≤1000000):
  Calls prog 265 #[au cb] w fun e w' =>
   ∃(g cap:Nat) (ks:List Nat),e=.returned (.slice (some ⟨g,0,none⟩) ks.length cap)∧w.heap.size≤g∧ks.Perm (m.map (·.1))∧(∀i (hi:i<ks.length),w'.cell? ⟨g,i,none⟩=some (dX ks[i]))∧Q w w'∧g<w'.heap.size:=by
 have pR:Q w (w.alloc (.cells #[au cb] 155)):=Q.alloc _ _;have hb1:Boxed (w.alloc (.cells #[au cb] 155)) w.heap.size 155 (au cb):=Boxed.new w _ _;have c4:=(h.keep pR).box.cell 4 (.map (some mb)) rfl;have c0:=hb1.cell;have H1:=Hd (h.keep pR);have Bl:=Hd hb1;have HK:=Hd hk;have HU:=Hd hu;have dF:=Hd pR;clear h hb1 hk hu;go_enter func265,ntmps265;go_wp2_with fail;generalize dO:w.alloc (.cells #[au cb] 155)=wa at *;clear dO;refine(Qm mb wa).mono ?_;rintro e w2 ⟨rfl,gD⟩;have eG:Q wa w2:=by rw[←gD];exact Q.alloc _ _
 have Zb:Boxed w2 wa.heap.size 256 (.map (some mb)):=by rw[←gD];exact Boxed.new wa _ _
 have hsf:=MH w2 F w.heap.size wa.heap.size cb p most clock ms mb m (H1.out.keep eG) HK.out ((eG.block _ (aJ Bl.out)).trans Bl.out) Zb HU.out hn hlen;have HSF:=Hd hsf;have bJ:=Hd eG;clear hsf c4 c0 gD eG Zb;go_wp2_with fail;refine HSF.out.mono ?_;rintro e w3 ⟨g,cap,ks,rfl,lF,hp,OE,q,ay⟩;have HP:=Hd hp;have xW:=Hd OE;have Cr:Q w w3:=dF.out.trans (bJ.out.trans q);have fu:=Hd Cr;have jM:w.heap.size≤g:=LS (LS dF.out.size bJ.out.size) lF;clear hp OE q Cr;go_wp2_with fail;go_ret;exact⟨g,cap,ks,rfl,jM,HP.out,xW.out,fu.out,ay⟩
end
section
open Go.RowKit
attribute [local go_sem] Oper.semAt_some
theorem Qp(g n cap:Nat)(w:World):
  Calls prog 266 #[.slice (some ⟨g,0,none⟩) n cap] w fun e w'=>e=.returned (.func (.func 284) #[] #[.pointer (some ⟨w.heap.size,0,none⟩)])∧w.alloc (.cells #[.slice (some ⟨g,0,none⟩) n cap] 51)=w':=by
 go_enter func266,ntmps266;go_wp2_with fail;go_ret;exact⟨rfl,rfl⟩
abbrev pu(x:Nat×Nat):Array Value:=#[.int .i64 (x.1:Nat),dX x.2]
def vD(ks:List Nat):List (Nat×Nat):=(List.range ks.length).reverse.map fun i=>(i,ks.getD i 0)
theorem BR(ks:List Nat):(vD ks).length=ks.length:=by simp[vD]
theorem JU(ks:List Nat)(k:Nat)(h:k<ks.length):(vD ks)[k]'(by rw[BR];exact h)=(ks.length-1-k,ks.getD (ks.length-1-k) 0):=by
 simp[vD]
def Qq(ks:List Nat)(k:Nat)(_:World)(args:Array Value)(k2:Nat):Prop:=∃x,(vD ks)[k]?=some x∧args=pu x∧k2=k+1
theorem Qr(B n₀ g cap:Nat)(ks:List Nat)(W:World)(hb:Boxed W B 51 (.slice (some ⟨g,0,none⟩) ks.length cap))(hc:∀i (hi:i<ks.length),W.cell? ⟨g,i,none⟩=some (dX ks[i]))(pV:g<W.heap.size)(hn:n₀≤W.heap.size)(hlen:ks.length≤1000000):
  Cl prog 284 #[.pointer (some ⟨B,0,none⟩)] (Qq ks) (fun k=>k=ks.length) (fun _=>False) (fun k=>k=B∨k=g) n₀ 0 W:=by
 intro n l J Jx hJ hJx hY h0;refine callsIn_of_wp func284 rfl trivial ?_ rfl;simp only[ntmps284,Tr,Θ,Nm,Nat.reduceAdd,Nat.reduceSub,abF,abG,ab3,abO,N0,Of];have c0:=hb.cell;have eO:IntKind.i64.wrap ((ks.length:Int)-1)=(ks.length:Int)-1:=IntWalk.i64_in _ U;have H0:=Hd h0;have ou:=Hd hb;have HYH:=Hd hY;have HC:=Hd hc;have ah8:=aJ hb;clear h0 hb hY hc;gi_wp2;gi_loopw [3] (fun v wr=>∃(r:Nat) (x:Int),v=.int .i64 x∧x=(r:Int)-1∧r≤ks.length∧Hid (Boxed wr B 51 (.slice (some ⟨g,0,none⟩) ks.length cap))∧Hid (wr.heap[g]?=W.heap[g]?)∧Hid (J (ks.length-r) wr)∧Hid (W.heap.size≤wr.heap.size)) (fun v _=>(intOf v+1).toNat)
 case atStart=>exact⟨ks.length,_,rfl,rfl,Ω _,ou,Hd rfl,by rw[abz];exact H0,Hd (Ω _)⟩
 case round =>
  obtain⟨r,x,rfl,hx,hr,HB,HG,HJ,HZ⟩:=hrel;have d0:=HB.out.cell;cases r with
  | zero =>
   obtain rfl:x = -1:=U;clear hx;gi_wp2;go_end0;exact⟨⟨_,rfl⟩,.inl ⟨_,rfl,HJ.out⟩⟩
  | succ j =>
   obtain rfl:x=(j:Nat):=U;clear hx;have zD:j<ks.length:=U;have Bn:(0:Int)≤(j:Int):=U;have x1:wr.cell? ⟨g,j,none⟩=some (dX ks[j]):=by rw[←HC.out j zD];exact World.cell?_of_block HG.out
   have iN:ks.length-(j+1)<(vD ks).length:=by rw[BR];omega
   have pU:(vD ks)[ks.length-(j+1)]=(j,ks[j]):=by
    rw[JU ks _ U,show ks.length-1-(ks.length-(j+1))=j by omega,LR,LN zD];rfl
   have aap:g<wr.heap.size:=Ψ pV HZ.out;generalize hkj:ks[j]=kj at *;clear hkj;obtain⟨fn,tmps,assign,body,hy,hR⟩:=HYH.out (ks.length-(j+1)) (ks.length-(j+1)+1) wr (pu (j,kj)) HJ.out ⟨_,by rw[LN iN,pU],rfl,rfl⟩ (fun b h=>by rcases h with rfl|rfl;exact aJ HB.out;exact aap)
   dsimp only[pu] at hy;have HYY:=Hd hR;clear hR pU;have gU:ks.length-(j+1)+1=ks.length-j:=U;rw[gU] at HYY;have qB:=Hd gU;clear gU iN;gi_wp2;refine⟨fun h=>(by cases h),(HYY.out _).mono ?_⟩
   rintro e W3 (⟨rfl,Y8,rH⟩|⟨rfl,RS⟩)
   ·have gI:Boxed W3 B 51 (.slice (some ⟨g,0,none⟩) ks.length cap):=(rH.own B (.inl rfl) (aJ HB.out)).trans HB.out
    have nu:W3.heap[g]?=W.heap[g]?:=(rH.own g (.inr rfl) aap).trans HG.out;have qI:=Hd gI;have gF:=Hd nu;have Y9:=Hd Y8;have HZ3:Hid (W.heap.size≤W3.heap.size):=Hd (LS HZ.out rH.below.size);clear gI nu Y8 rH;gi_wp2;go_roundw;case rel=>exact⟨j,_,rfl,rfl,U,qI,gF,Y9,HZ3⟩
    case measure=>simp[intOf]
   ·have Vy:=Hd RS;clear RS
    gi_wp2;refine bodyPost_ret (results_none rfl _ _ _) rfl ?_;exact⟨⟨_,rfl⟩,.inr ⟨_,Vy.out⟩⟩
theorem xm{F:Fence}{n:Nat}{P:Program}{c:Code}{Qx:Exit→Act→World→Prop}{a:Act}{w:World}(h:∀A0,A0=a→c.wpIn F n P Qx A0 w):c.wpIn F n P Qx a w:=h a rfl
theorem co.itk{A B:World}{F:Nat→Prop}{cb p most clock:Nat}{ms:Int}{mb lo:Nat}{m:bU}(h:co A F cb p most clock ms mb m)(hi:Itk (fun _=>False) lo A B)(hl:∀k,F k→k<lo):co B F cb p most clock ms mb m :=
 h.beside (G:=fun k=>lo≤k) ⟨hi.os,hi.tape,hi.output,hi.size,fun k h1 h2=>hi.low k U h1 (fun h=>h)⟩ (fun k hk=>by have:=hl k hk;omega)
theorem uk{ks:List Nat}{k:Nat}(h:k∈ks):∃i x,(vD ks)[i]?=some x∧x.2=k∧i<ks.length:=by
 obtain⟨j,hj,rfl⟩:=PH h;refine⟨ks.length-1-j,_,LN (by rw[BR];omega),?_,U⟩
 rw[JU ks _ U,show ks.length-1-(ks.length-1-j)=j by omega,LR,LN hj];rfl
theorem rS{ks:List Nat}{i:Nat}{x:Nat×Nat}(h:(vD ks)[i]?=some x):x.2∈ks∧x.1<ks.length:=by
 obtain⟨hi,he⟩:=NX.1 h;rw[BR] at hi;rw[JU ks i hi] at he;subst he;refine⟨?_,by simp only;omega⟩
 simp only[LR];rw[LN U];exact LO _
theorem vE{P:Program}{fn:Func}{p:Tmp}{ty:TypeId}(h:fn.results=#[.cell p ty])(tmps:Array Value)(w:World)(a:Addr)(v:Value)(hp:tmps.getD p undef=.pointer (some a))(hl:(loadVar ty a).run P w=.ok v w):
  (results fn tmps).run P w=.ok v w:=by
 have RI:tmps[p]?.getD undef=.pointer (some a):=by simpa using hp
 simp[results,h,RI,asAddr,hl]
theorem Ar(w:World)(b:Nat)(x:Int)(h:w.cell? ⟨b,0,none⟩=some (.int .i64 x)):(loadVar 29 ⟨b,0,none⟩).run prog w=.ok (.int .i64 x) w:=by
 have hi:∀W,(isAgg 29).run prog W=.ok false W:=fun W=>by kernel_rfl
 simp[loadVar,hi,h,Result.andThen,go_sem]
theorem Qt(w:World)(F:Nat→Prop)(cb p n most clock:Nat)(ms:Int)(mb:Nat)(m:bU)(tx:List WrL)(g:Nat→Bytes)(h:co w F cb p most clock ms mb m)(ho:cP n most clock tx g m)(hc:clock≤1000000000000000000):
  Ir w F n most clock tx g cb p ms mb m:=by
 unfold Ir;obtain⟨wa,dO⟩:∃wa,wa=(w.alloc (.cells #[au cb] 155)).alloc (.cells #[.int .i64 0] 29):=⟨_,rfl⟩;have hq:Q w wa:=by rw[dO];exact(Q.alloc _ _).trans (Q.alloc _ _)
 have bP:wa.heap.size=w.heap.size+2:=by rw[dO];simp
 have eH:Boxed wa w.heap.size 155 (au cb):=by rw[dO];exact(Boxed.new w _ _).alloc _
 have hb1:Boxed wa (w.heap.size+1) 29 (.int .i64 0):=by
  rw[dO];have:=Boxed.new (w.alloc (.cells #[au cb] 155)) 29 (.int .i64 0);rwa [World.size_alloc] at this
 have hh:=h.keep hq;have d0:=eH.cell;have d1:=hb1.cell;have e1:=hb1.frozen;have c1:=hh.box.cell 1 (.int .i64 (most:Nat)) rfl;have c4:=hh.box.cell 4 (.map (some mb)) rfl;have fT:=IU (P:=prog) (hh.keep (Q.drew _)).map 256 3 257 3 underlying256;rw[h.len] at fT;have iU:=ho.len;have RX:=ho.cap;have HH:=Hd hh;have HO:=Hd ho;have HQ:=Hd hq;have wG:=Hd eH;have Bl:=Hd hb1;have mD:=Hd bP;have H:=Hd h;clear hh ho hq eH hb1 bP h;refine(callsIn_wide (n:=0)).1 ?_;refine callsIn_of_wp_marks func220 rfl trivial ?_ rfl;simp only[ntmps220,Tr,Θ,Nm,Nat.reduceAdd,Nat.reduceSub,abF,abG,ab3,abO,N0,Of];refine wpIn_wide.2 ?_;by_cases hl:m.length<most
 ·have hli:(m.length:Int)<(most:Int):=U
  go_wp2_with fail;rw[←dO];clear dO;go_region;all_goals
   go_wp2_with fail;have bN:=Bl.out.set (.int .i64 0);have OG:Q w ((wa.setCell ⟨w.heap.size+1,0,none⟩ (.int .i64 0)).drew):=Qs.dr (Qs.st HQ.out _ _ κ);refine⟨.int .i64 0,vE rfl _ _ ⟨w.heap.size+1,0,none⟩ _ rfl (Ar _ _ 0 bN.cell),rfl,ae.br OG,m,H.out.keep OG,HO.out,hl,fun _ h=>h⟩
 ·have hli:¬(m.length:Int)<(most:Int):=U
  have zX:0<m.length:=U;have cbl:=fun (W:World) (hq:Q wa W)=>EV W F cb p most clock ms mb m (HH.out.keep hq) HO.out.keys (fun z hz=>by have:=HO.out.used z hz;omega) zX U
  have CBL:=Hd cbl;clear cbl;go_wp2_with fail;rw[←dO];clear dO;go_region;all_goals
   go_wp2_with fail;refine(CBL.out _ (Q.drew _)).mono ?_;rintro e w1 ⟨gb,cap,ks,rfl,hgb,hp,OE,q1,aap⟩;have HP:=Hd hp;have xW:=Hd OE;have dF:=Hd ((Q.drew _).trans q1);clear hp OE q1;go_wp2_with fail;refine(Qp gb ks.length cap w1).mono ?_;rintro e w2 ⟨rfl,gD⟩;have eG:Q w1 w2:=by rw[←gD];exact Q.alloc _ _
   have Zb:Boxed w2 w1.heap.size 51 (.slice (some ⟨gb,0,none⟩) ks.length cap):=by rw[←gD];exact Boxed.new w1 _ _
   have jm:w2.heap.size=w1.heap.size+1:=by rw[←gD];simp
   have bJ:=Hd eG;have qC:=Hd Zb;have qD:=Hd jm;clear gD eG Zb jm;go_wp2_with fail;refine(wpIn_wide (n:=0)).1 ?_;refine xm (fun A0 hA0=>?_)
   have ams:w.heap.size+2≤gb:=by have:=mD.out;have h2:wa.drew.heap.size=wa.heap.size:=rfl;omega
   have amt:wa.heap.size≤w1.heap.size:=dF.out.size;have amu:w.heap.size+2≤w1.heap.size:=by have:=mD.out;omega
   have acZ:Q wa w2:=dF.out.trans bJ.out;have oq:ks.length=m.length:=by rw[HP.out.length_eq,NE]
   have GY:=Hd acZ;have Zc:=Hd oq;clear acZ oq fT d0 d1 e1 c1 c4;refine Ns (gf:=284) (lb:=#[.pointer (some ⟨w1.heap.size,0,none⟩)]) (by rw[hA0];rfl) (enters_of func284 (by kernel_rfl) rfl) (step:=Qq ks) (fin':=fun k=>k=ks.length) (s0:=0) (own:=fun _=>False) (keep:=fun k=>k=w1.heap.size∨k=gb) (n₀:=0)
    (fun W1 hq hz=>Qr w1.heap.size 0 gb cap ks W1 ((hq.block _ (aJ qC.out)).trans qC.out) (fun i hi=>aI (bJ.out.trans hq) (xW.out i hi)) (by have:=bJ.out.size;have:=hq.size;omega) (L0 _) (by have:=Zc.out;omega))
    (fun _ h=>h.elim) (fun k h=>by have:=qD.out;omega) (L0 _) (fun k W args k2 h=>by obtain⟨x,_,rfl,_⟩:=h;rfl)
    (fun k W=>Itk (fun _=>False) w2.heap.size w2 W∧∀i x,i<k→(vD ks)[i]?=some x→∀kk,bC x.2 m=some kk→kk.cy=true)
    (fun c _ W=>c=.ret∧Boxed W (w.heap.size+1) 29 (.int .i64 0)∧ae F w W∧∃i kk,bC i m=some kk∧kk.cy=false∧co W F cb p most clock ms mb (kN i m))
    (fun k k2 a' _=>∃x:Nat×Nat,(vD ks)[k]?=some x∧k2=k+1∧a'={ tmps:=((A0.tmps.setIfInBounds 21 (.int .i64 (x.1:Nat))).setIfInBounds 22 (dX x.2)).setIfInBounds 5 (dX x.2),defers:=[] })
    ?hI ?hIx (fun _ _ _ _ _ h _=>h) ?h0 ?assign ?body ?done ?stop
   case hI =>
    rintro k A B ⟨h1,h2⟩ hi;exact⟨h1.trans hi,h2⟩
   case hIx =>
    rintro c k A B ⟨rfl,h1,h2,i,kk,h3,h4,h5⟩ hi;have hsA:=h2.size;refine⟨rfl,hi.boxed h1 (fun h=>h),⟨hi.os.trans h2.os,hi.tape.trans h2.tape,hi.output.trans h2.output,LS h2.size hi.size,fun j h6 h7=>(hi.low j (by have:=qD.out;omega) U (fun h=>h)).trans (h2.block j h6 h7)⟩,i,kk,h3,h4,h5.itk hi (fun j hj=>by have:=H.out.lt j hj;have:=qD.out;omega)⟩
   case h0=>exact⟨Itk.refl _ _ _,fun i x hi=>U⟩
   case assign =>
    rintro l' j j2 W' args K hi ⟨x,hx,rfl,rfl⟩ hz hK;have HK:=Hd hK;have HI:=Hd hi;clear hK hi;subst hA0;gi_wp2;exact HK.out _ _ (Q.refl _) HI.out ⟨x,hx,by first|rfl|trivial,by first|rfl|trivial⟩
   case body =>
    rintro l' j j2 a' W' ⟨⟨rc,hrc⟩,RU⟩ Jw ⟨h1,h2⟩ ⟨x,hx,rfl,rfl⟩ mP hz;have uO:=rS hx;obtain⟨kk,iN⟩:∃kk,bC x.2 m=some kk:=by
     cases hg:bC x.2 m with
     | some kk=>exact⟨kk,rfl⟩
     | none =>
      obtain⟨y,hy,e⟩:=MD.1 (HP.out.mem_iff.1 uO.1);exact absurd e (oK.1 hg y hy)
    have xE:=(HH.out.keep GY.out).itk h1 (fun k hk=>by have:=H.out.lt k hk;have:=qD.out;omega)
    have c4:=xE.box.cell 4 (.map (some mb)) rfl;have MZ:Boxed W' w.heap.size 155 (au cb):=h1.boxed ((GY.out.block _ (aJ wG.out)).trans wG.out) (fun h=>h)
    have yI:Boxed W' (w.heap.size+1) 29 (.int .i64 0):=h1.boxed ((GY.out.block _ (aJ Bl.out)).trans Bl.out) (fun h=>h)
    have d0:=MZ.cell;have d1:=yI.cell;have f1:=yI.frozen;have qz:=xE.ij iN;have k1:=(xE.kept _ (gH iN)).1.cell 1 (.bool kk.cy) rfl;have k2:=(xE.kept _ (gH iN)).1.cell 2 (.int .i64 0) rfl;have hlu:=uH (P:=prog) xE.map 256 3 257 underlying256 underlying3 (.pointer none) (l6 _) x.2 false;simp only[M2,ON] at hlu;rw[qz] at hlu;simp only[] at k1 k2;obtain⟨x1,x2⟩:=x;simp only at *;have mE:w2.heap.size≤W'.heap.size:=h1.size;have RB:w.heap.size+3≤w2.heap.size:=by have:=qD.out;omega
    subst hA0;simp only[List.setIfInBounds_toArray,abZ,List.set_cons_zero];cases nQ:kk.cy with
    | true =>
     rw[nQ] at k1;have zW:∀i x,i<j+1→(vD ks)[i]?=some x→∀kk,bC x.2 m=some kk→kk.cy=true:=fun i y hi hy kk' hg=>by
      by_cases Vu:i<j
      ·exact h2 i y Vu hy kk' hg
      ·obtain rfl:i=j:=U
       rw[hx] at hy;injection hy with hy;subst hy;rw[iN] at hg;injection hg with hg;subst hg;exact nQ
     have HI1:=Hd h1;have HI2:=Hd zW;clear h1 h2 zW xE MZ yI qz hx uO iN hrc RU mP;gi_wp2_with fail;exact⟨Bk.refl _ _ _,HI1.out,HI2.out⟩
    | false =>
     rw[nQ] at k1;obtain⟨w4,Yu,xD,lV,zY⟩:=MF (P:=prog) xE.map 256 3 257 underlying256 underlying3 x2;have t4:=co.eK lV;have h4:=xE.gone HO.out.keys xD t4;have hmb:F mb:=H.out.fm;have acT:mb<w.heap.size:=H.out.lt mb hmb;have GZ:Boxed w4 (w.heap.size+1) 29 (.int .i64 0):=(t4.block _ (aJ yI) U).trans yI;have d14:=GZ.cell;have f14:=GZ.frozen;have t5:ae (fun j=>j=w.heap.size+1) w4 (w4.setCell ⟨w.heap.size+1,0,none⟩ (.int .i64 0)):=ae.setCell (a:=⟨w.heap.size+1,0,none⟩) (ae.refl (fun j=>j=w.heap.size+1) w4) (.inl rfl) _
     have h5:=h4.beside t5 (fun k hk e=>by have:=H.out.lt k hk;omega)
     have ac0:=GZ.set (.int .i64 0);have htW:ae F w W':=(⟨h1.os.trans (HQ.out.trans GY.out).os,h1.tape.trans (HQ.out.trans GY.out).tape,h1.output.trans (HQ.out.trans GY.out).output,LS (HQ.out.trans GY.out).size h1.size,fun j h6 h7=>(h1.low j U U (fun h=>h)).trans ((HQ.out.trans GY.out).block j h6)⟩)
     have zF:ae F w (w4.setCell ⟨w.heap.size+1,0,none⟩ (.int .i64 0)):=(htW.trans (t4.mono (fun j hj=>by subst hj;exact hmb))).setCell (a:=⟨w.heap.size+1,0,none⟩) (.inr κ) _
     have eu:BkS (fun b=>b=w2.heap.size∨b=w2.heap.size+1) W' (w4.setCell ⟨w.heap.size+1,0,none⟩ (.int .i64 0)) :=
      ⟨LS t4.size t5.size,fun b hb dZ=>(t5.block b (Ψ dZ t4.size) U).trans (t4.block b dZ U)⟩
     have HE:=Hd (And.intro eu (And.intro ac0 (And.intro zF h5)));have Zd:=Hd iN;have HDR:=Hd nQ;clear h1 h2 xE MZ yI qz hx uO iN hrc RU mP xD lV zY t4 h4 GZ t5 h5 ac0 htW zF eu nQ;gi_wp2_with fail;exact⟨HE.out.1,rfl,HE.out.2.1,HE.out.2.2.1,x2,kk,Zd.out,HDR.out,HE.out.2.2.2⟩
   case done =>
    rintro D kz W' hD _ rfl ⟨h1,h2⟩ hK;exfalso;obtain⟨y,hy,hyd⟩:=HO.out.tG U;have hg:=kL HO.out.keys (k:=y.1) (v:=y.2) hy;obtain⟨i,x,hx,uO,Cm⟩:=uk (HP.out.mem_iff.2 (MD.2 ⟨y,hy,rfl⟩));have:=h2 i x Cm hx y.2 (by rw[uO];exact hg)
    rw[hyd] at this;exact absurd this Z
   case stop =>
    rintro D c k W' hD ⟨rfl,yI,ht,i,kk,hg,hd,xE⟩ hK;obtain⟨DX,fF⟩:=HO.out.drop hg hd;have hDw:w.heap.size+3≤D:=by have:=qD.out;omega
    have tp:ae (fun j=>j=D) W' (W'.putObj D (.deferred none)):=⟨rfl,rfl,rfl,κ,fun k h1 h2=>World.putObj_heap_other h2⟩
    have h6:=xE.beside tp (fun k hk e=>by have:=H.out.lt k hk;omega)
    have tQ:Boxed (W'.putObj D (.deferred none)) (w.heap.size+1) 29 (.int .i64 0):=(tp.block _ (aJ yI) U).trans yI;have ht6:ae F w (W'.putObj D (.deferred none)):=⟨ht.os,ht.tape,ht.output,LS ht.size tp.size,fun j h7 h8=>(tp.block j (Ψ h7 ht.size) U).trans (ht.block j h7 h8)⟩
    have HE:=Hd (And.intro h6 (And.intro ht6 DX));have RY:=Hd tQ;have HK:=Hd hK;have bI:∀j,bC j m=none→bC j (kN i m)=none:=fun j hj=>by
     rw[Ip i m HO.out.keys];exact oK.2 (fun x hx=>oK.1 hj x (PF.1 hx).1)
    have dY:=Hd bI;clear yI ht hg hd xE DX tp h6 tQ ht6 hK bI;subst hA0;gi_wp2_with fail;refine⟨κ,.inl ⟨_,_,rfl,run_takeDeferred HK.out,?_⟩⟩;exact⟨.int .i64 0,vE rfl _ _ ⟨w.heap.size+1,0,none⟩ _ rfl (Ar _ _ 0 RY.out.cell),rfl,HE.out.2.1,kN i m,HE.out.1,HE.out.2.2,U,dY.out⟩
end
section
open Go.RowKit
def wl(w:World)(n:Nat)(v:Value)(ks:List Nat):Prop:=∃a cap,v=.slice a ks.length cap∧(0<ks.length→∃g,a=some ⟨g,0,none⟩∧n≤g∧g<w.heap.size∧∀i (hi:i<ks.length),w.cell? ⟨g,i,none⟩=some (dX ks[i]))
theorem UG(w:World)(base:Nat)(v:Value)(ks:List Nat)(ho:w.ownsRow base 3 1 v ks.length (ks.map dX))(hlen:ks.length≤1000000):
  Calls prog 253 #[v] w fun e w'=>e=.returned (.tuple #[])∧∃ks':List Nat,ks'.Perm ks∧ks'.Pairwise (·≤·)∧wl w' base v ks'∧∀n₀,n₀≤base→n₀≤w.heap.size→Below n₀ w w':=by
 rcases ho.2 with ⟨rfl,hz⟩|⟨g,cap,cur,rfl,lF,hg,RX,_⟩
 ·rw[hz] at ho
  have hk:ks=[]:=NL hz;subst hk;refine(Tryz.slices_Sort_int_none none 0 w).mono ?_;rintro e w' ⟨rfl,rfl⟩;exact⟨rfl,[],adX _,List.Pairwise.nil,⟨none,0,rfl,fun h=>by simp at h⟩,fun n₀ _ _=>Below.refl _ _⟩
 ·rcases TC ks.length with hz|hn
  ·have hk:ks=[]:=NL hz
   subst hk;refine(Tryz.slices_Sort_int_none (some ⟨g,0,none⟩) cap w).mono ?_;rintro e w' ⟨rfl,rfl⟩;exact⟨rfl,[],adX _,List.Pairwise.nil,⟨_,cap,rfl,fun h=>by simp at h⟩,fun n₀ _ _=>Below.refl _ _⟩
  ·have bX:=Sl.cx ho
   obtain⟨zs,jl⟩:∃zs:List Int,zs=ks.map (fun k:Nat=>(k:Int)):=⟨_,rfl⟩
   have xX:zs.length=ks.length:=by rw[jl,NE]
   have hH:Go.Sort.Holds (Value.int .i64) w g 0 zs.toArray:=fun j hj=>by
    have xR:j<ks.length:=by(have:j<zs.length:=(by simpa using hj));omega
    have hc:=Qn bX hn j (dX ks[j]) (by simp[xR])
    rw[On];refine⟨?_,?_⟩
    ·rw[hc,ZZ zs.toArray j hj]
     subst jl;simp
    ·have:Blk w g 3 cur:=hg
     exact this.frozen j
   have hs:=Tryz.slices_Sort_int g 0 cap zs w hH (aJ hg) U;rw[xX] at hs;refine hs.mono ?_;rintro e w' ⟨rfl,n,os,Y3⟩;obtain⟨zs',aaq⟩:∃zs',zs'=zs.mergeSort fun x y=>decide (x≤y):=⟨_,rfl⟩
   rw[←aaq] at Y3;have hp:zs'.Perm zs:=by rw[aaq];exact List.mergeSort_perm _ _
   have ig:zs'.Pairwise (fun x y=>decide (x≤y)=true):=by
    rw[aaq];exact List.pairwise_mergeSort (fun a b c h1 h2=>by simp at *;omega) (fun a b=>by simp;omega) _
   have kT:∀x∈zs',0≤x:=fun x hx=>by
    have:=hp.mem_iff.1 hx;rw[jl] at this;obtain⟨k,_,rfl⟩:=MD.1 this;omega
   have hwd:w'=sortWorld (Value.int .i64) w g 0 n zs'.toArray os:=Y3;have oW:w.grownBy w' (some g):=by rw[hwd];exact yL (Value.int .i64) w g 0 n zs'.toArray os
   have hhh:Go.Sort.Holds (Value.int .i64) w' g 0 zs'.toArray:=by rw[hwd];exact holds_sortWorld (Value.int .i64) w g 0 n zs.toArray zs'.toArray os (aJ hg) hH (by simp[hp.length_eq])
   have Jw:zs'.length=ks.length:=by rw[hp.length_eq,xX]
   refine⟨rfl,zs'.map Int.toNat,?_,?_,⟨_,cap,by rw[NE,Jw],fun _=>⟨g,rfl,lF,Ψ (aJ hg) oW.size,fun i hi=>?_⟩⟩,fun n₀ h1 h2=>(Below.refl _ _).grown oW h2 (fun k hk=>by cases hk;omega)⟩
   ·have:=hp.map Int.toNat
    have e:zs.map Int.toNat=ks:=by rw[jl,Rr];simp[Wb]
    rwa [e] at this
   ·refine abv.2 (ig.imp (fun h=>?_))
    simp at h;omega
   ·have pK:i<zs'.length:=by simpa using hi
    have hh:=(hhh i (by simpa using pK)).1
    rw[On,ZZ zs'.toArray i (by simpa using pK)] at hh
    rw[hh,ace];have:=kT zs'[i] (LO pK);simp only[List.getElem_toArray,dX,Z2 this]
theorem MI(B mb:Nat)(m:List (Nat×Value))(w:World)(hb:Boxed w B 256 (.map (some mb)))(hm:di w mb m)(hlen:m.length≤1000000):
  Calls prog 196 #[.func (.func 254) #[] #[.pointer (some ⟨B,0,none⟩)]] w fun e w' =>
   ∃(v:Value) (ks:List Nat),e=.returned v∧ks.Perm (m.map (·.1))∧ks.Pairwise (·≤·)∧wl w' w.heap.size v ks∧Q w w':=by
 have hc:=IW B mb m w hb hm hlen;have HC:=Hd hc;clear hc hb hm;go_enter func196,ntmps196;go_wp2_with fail;refine HC.out.mono ?_;rintro e w1 ⟨v,ks,rfl,hp,ho,q⟩;have oq:ks.length=m.length:=by rw[hp.length_eq,NE]
 have cs:=UG w1 w.heap.size v ks ho U;have HP:=Hd hp;have HQ:=Hd q;have CS:=Hd cs;clear hp ho q cs oq;go_wp2_with fail;refine CS.out.mono ?_;rintro e w2 ⟨rfl,ks',iq,ig,OH,dZ⟩;have eG:Q w w2:=Below.trans HQ.out (dZ w.heap.size (Ω _) HQ.out.size);have kX:=Hd iq;have Bo:=Hd ig;have HKR:=Hd OH;have bJ:=Hd eG;clear iq ig OH dZ eG;go_wp2_with fail;go_ret;exact⟨_,ks',rfl,kX.out.trans HP.out,Bo.out,HKR.out,bJ.out⟩
def rY(m:bU)(i:Nat):Option WrL:=(bC i m).bind fun k=>if k.cy then some (i,k.data) else none
theorem FR{α β:Type}(f:α→Option β)(l:List α)(k:Nat)(h:k<l.length):(l.take (k+1)).filterMap f=(l.take k).filterMap f++(match f l[k] with|some x=>[x]|none=>[]):=by
 rw[Mb h,List.filterMap_append];congr 1;cases hf:f l[k]<;>simp[hf]
theorem sY(w:World)(F:Nat→Prop)(cb p n most clock:Nat)(ms:Int)(mb:Nat)(m:bU)(tx:List WrL)(g:Nat→Bytes)(h:co w F cb p most clock ms mb m)(ho:cP n most clock tx g m):
  Calls prog 131 #[au cb] w fun e w'=>∃v,e=.returned v∧w'.ownsRow w.heap.size 134 2 v tx.length (aN tx)∧Q w w':=by
 obtain⟨i1,qG,wH,tN,hy2⟩:=info_parts nC;have iU:m.length≤1024:=by have:=ho.len;have:=ho.cap;omega
 have c4:=h.box.cell 4 (.map (some mb)) rfl;have gX:=ho.Hv;have hgs:∀k∈m.map (·.1),∃kk,bC k m=some kk:=fun k hk=>by
  cases hg:bC k m with
  | some kk=>exact⟨kk,rfl⟩
  | none =>
   obtain⟨y,hy,e⟩:=MD.1 hk;exact absurd e (oK.1 hg y hy)
 have bX:=fun (W:World) (B:Nat) (q:Q w W) (hb:Boxed W B 256 (.map (some mb)))=>MI B mb (mapOf m) W hb (h.keep q).map (by rw[h.len];omega)
 have Aa:(mapOf m).map (·.1)=m.map (·.1):=by simp[mapOf]
 rw[Aa] at bX;have xG:=Hd bX;have HH:=Hd h;have HDT:=Hd gX;have HGS:=Hd hgs;clear bX Aa h gX hgs ho;go_enter func131,ntmps131;go_wp2_with fail;refine(Qm mb w).mono ?_;rintro e w1 ⟨rfl,eO⟩;have pR:Q w w1:=by rw[←eO];exact Q.alloc _ _
 have hb1:Boxed w1 w.heap.size 256 (.map (some mb)):=by rw[←eO];exact Boxed.new w _ _
 have oV:=xG.out w1 w.heap.size pR hb1;have dF:=Hd pR;have Ab:=Hd oV;clear eO pR hb1 oV;go_wp2_with fail;refine Ab.out.mono ?_;rintro e w2 ⟨v,ks,rfl,hp,ig,OH,q2⟩;have eG:Q w w2:=dF.out.trans q2;have oq:ks.length=m.length:=by rw[hp.length_eq,NE]
 obtain⟨a,cap,rfl,aP⟩:=OH;have dK:ks.filterMap (rY m)=tx:=HDT.out ks hp ig;have HP:=Hd hp;have bJ:=Hd eG;have xW:=Hd aP;have HF:=Hd dK;have Zc:=Hd oq;have LQ:ks.length≤1024:=U;clear hp ig eG q2 aP dK oq c4;go_wp2_with fail;go_loopw [3,14] (fun v i wr=>∃k:Nat,i=.int .i64 (k:Nat)∧k≤ks.length∧Hid (wr.ownsRow w2.heap.size 134 2 v ((ks.take k).filterMap (rY m)).length (aN ((ks.take k).filterMap (rY m))))∧Hid (Q w2 wr)) (fun _ i _=>ks.length-(intOf i).toNat)
 case atStart=>exact⟨0,rfl,L0 _,Hd (World.ownsRow_nil _ _ _ _),Hd (Q.refl _)⟩
 case round =>
  obtain⟨k,rfl,hk,HOW,HQ⟩:=hrel;by_cases ay:k<ks.length
  ·have bq:(k:Int)<(ks.length:Int):=U
   have EP:(0:Int)≤(k:Int):=U;obtain⟨gk,rfl,_,_,bL⟩:=xW.out U;have x1:=aI HQ.out (bL k ay);obtain⟨kk,iN⟩:=HGS.out ks[k] (HP.out.mem_iff.1 (LO ay));have xE:=HH.out.keep (bJ.out.trans HQ.out);have c4:=xE.box.cell 4 (.map (some mb)) rfl;have zx:=xE.map;have qz:=xE.ij iN;have k0:=(xE.kept _ (gH iN)).1.cell 0 (ah kk.data) rfl;have k1:=(xE.kept _ (gH iN)).1.cell 1 (.bool kk.cy) rfl;simp only[] at k0 k1;have aC:=FR (rY m) ks k ay;have iG:rY m ks[k]=if kk.cy then some (ks[k],kk.data) else none:=by unfold rY;rw[iN];rfl
   have kG:((ks.take k).filterMap (rY m)).length≤1024:=LS (List.length_filterMap_le _ _) (by rw[L4];omega)
   rw[iG] at aC;generalize aib:ks[k]=key at *;generalize ER:(ks.take k).filterMap (rY m)=acc at *;have Js:=Hd zx;have Bj:=Hd qz;have aX:=Hd aC;clear zx qz aC xE iG iN aib ER bL;cases nQ:kk.cy with
   | true =>
    rw[nQ] at k1;have aC:=aX.out;rw[nQ] at aC;simp only[PM] at aC;have Dv:=Hd aC;clear aC nQ aX;generalize kk.data=kd at *;have cO:∀u∈#[Value.int .i64 (key:Nat),ah kd].toList,u.oneCell'=true:=by intro u hu;simp at hu;rcases hu with rfl|rfl<;>rfl
    have dI:(acc.length+1)*24≤140737488355328:=U;have qJ:=Hd cO;have uY:=Hd dI;have eH:w2.heap.size≤wr.heap.size:=HQ.out.size;clear cO dI;go_wp2_with (first|(at_lookup;refine jD _ ρ _ _ 256 false ρ 3 257 underlying256 underlying3 (.pointer none) (l6 _) mb _ Js.out key ρ ρ ?_;rw[Bj.out])|(at_builtin;refine bG wr ρ _ _ 102 ρ w2.heap.size 134 _ i1 (.agg #[.int .i64 0,ah []]) 2 24 underlying102 qG wH tN hy2 rfl Z Z _ _ _ ρ HOW.out #[.int .i64 (key:Nat),ah kd] ρ rfl qJ.out uY.out eH ?_))
    intro g11 jI w11 iB gu lQ jR iC;have qj:Q w2 w11:=bD HQ.out HOW.out gu (Ω _) eH;have gW:w11.ownsRow w2.heap.size 134 2 (.slice (some ⟨g11,0,none⟩) (acc.length+1) jI) ((ks.take (k+1)).filterMap (rY m)).length (aN ((ks.take (k+1)).filterMap (rY m))):=by
     rw[Dv.out,Δ,iF,show aN [(key,kd)]=mX (key,kd) by simp[aN]];exact iB
    have oz:=Hd qj;have qW:=Hd gW;clear iB gu lQ jR iC gW qj;go_wp2_with fail;go_roundw;case rel=>exact⟨k+1,by go_num,U,qW,oz⟩
    case measure=>simp[intOf];omega
   | false =>
    rw[nQ] at k1;have aC:=aX.out;rw[nQ] at aC;simp only[M2,ON,NF] at aC;have Dv:=Hd aC;clear aC nQ aX;go_wp2_with (at_lookup;refine jD _ ρ _ _ 256 false ρ 3 257 underlying256 underlying3 (.pointer none) (l6 _) mb _ Js.out key ρ ρ ?_;rw[Bj.out]);go_roundw;case rel=>exact⟨k+1,by go_num,U,Hd (by rw[Dv.out];exact HOW.out),HQ⟩
    case measure=>simp[intOf];omega
  ·have bq:¬(k:Int)<(ks.length:Int):=U
   obtain rfl:k=ks.length:=U;have dP:=HOW.out;rw[M1,HF.out] at dP;have HR:=Hd dP;clear dP;go_wp2_with fail;go_ret;exact⟨_,rfl,gT HR.out bJ.out.size,bJ.out.trans HQ.out⟩
end
end Go.Proofs.YtbkahhebmpehnaaGreatDoor
